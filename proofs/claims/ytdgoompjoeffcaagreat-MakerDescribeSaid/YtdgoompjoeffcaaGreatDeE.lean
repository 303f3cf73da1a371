import Derived.Test.YtdgoompjoeffcaaGreatProg
import Derived.Test.YtdgoompjoeffcaaGreatPmY
import Derived.Test.YtdgoompjoeffcaaGreatDeD
import Derived.Test.YtdgoompjoeffcaaGreatMmT
/- A tape that describes: lines as runs, a plain law. -/
set_option linter.unusedSimpArgs false
set_option linter.unusedVariables false
set_option maxRecDepth 20000
open Go Go.Proofs
namespace Go.Proofs.YtdgoompjoeffcaaGreat
open Pm
attribute [local irreducible] Wait CallT CallW NextT Le Weak
def addP (l : List (Nat × Int)) (n : Nat) (s : Int) : List (Nat × Int) := if n = 0 then l else match l.getLast? with
  | some r => if r.2 = s then l.dropLast ++ [(r.1 + n, s)] else l ++ [(n, s)]
  | none => [(n, s)]
def lineN (l : List (Nat × Int)) : List Int := l.flatMap fun r => List.replicate r.1 r.2
theorem lineN_app (a b : List (Nat × Int)) : lineN (a ++ b) = lineN a ++ lineN b := by simp [lineN]
theorem lineN_one (n : Nat) (s : Int) : lineN [(n, s)] = List.replicate n s := by simp [lineN]
theorem lineS_N : ∀ l : List (Nat × Int), lineS l = (lineN l).map stN
  | [] => rfl
  | r :: l => by
    have := lineS_N l
    unfold lineS lineN at *
    simp only [List.flatMap_cons, List.map_append, List.map_replicate, this]
theorem last_split {α : Type} {l : List α} {r : α} (h : l.getLast? = some r) : l = l.dropLast ++ [r] := by
  cases l with
  | nil => simp at h
  | cons a l =>
    rw [List.getLast?_eq_some_getLast (List.cons_ne_nil a l)] at h
    have h := Option.some.inj h
    rw [← h]
    exact (List.dropLast_concat_getLast (List.cons_ne_nil a l)).symm
theorem lineN_add (l : List (Nat × Int)) (n : Nat) (s : Int) : lineN (addP l n s) = lineN l ++ List.replicate n s := by
  unfold addP
  by_cases h0 : n = 0
  · rw [if_pos h0, h0]; simp
  rw [if_neg h0]
  cases hl : l.getLast? with
  | none =>
    have : l = [] := by simpa using hl
    subst this
    simp [lineN]
  | some r =>
    simp only
    have e := last_split hl
    by_cases hs : r.2 = s
    · rw [if_pos hs]
      conv => rhs; rw [e]
      rw [lineN_app, lineN_app, lineN_one, show [r] = [(r.1, r.2)] from rfl, lineN_one, hs, List.append_assoc, List.replicate_append_replicate]
    · rw [if_neg hs, lineN_app, lineN_one]
/-- Runs that are as long as they can be. -/
def canon : List (Nat × Int) → Prop
  | [] => True
  | r :: l => 0 < r.1 ∧ (∀ x, l.head? = some x → x.2 ≠ r.2) ∧ canon l
theorem canon_snoc : ∀ (l : List (Nat × Int)) (x : Nat × Int), canon l → 0 < x.1 → (∀ r, l.getLast? = some r → r.2 ≠ x.2) → canon (l ++ [x])
  | [], x, _, h, _ => ⟨h, by simp, trivial⟩
  | [r], x, hc, h, hl => ⟨hc.1, by
    intro y hy
    have hy : x = y := by simpa using hy
    subst hy
    exact fun e => hl r rfl e.symm, h, by simp, trivial⟩
  | r :: s :: l, x, hc, h, hl => ⟨hc.1, by simpa using hc.2.1, canon_snoc (s :: l) x hc.2.2 h (fun y hy => hl y (by simpa using hy))⟩
theorem canon_front : ∀ (d : List (Nat × Int)) (r : Nat × Int), canon (d ++ [r]) → ∀ n, canon (d ++ [(r.1 + n, r.2)])
  | [], r, h, n => ⟨by have := h.1; simp only; omega, by simp, trivial⟩
  | [q], r, h, n => ⟨h.1, by
    intro y hy
    have hy : (r.1 + n, r.2) = y := by simpa using hy
    subst hy
    exact h.2.1 r rfl, by have := h.2.2.1; simp only; omega, by simp, trivial⟩
  | q :: s :: l, r, h, n => ⟨h.1, by simpa using h.2.1, canon_front (s :: l) r h.2.2 n⟩
theorem canon_add {l : List (Nat × Int)} (n : Nat) (s : Int) (h : canon l) : canon (addP l n s) := by
  unfold addP
  by_cases h0 : n = 0
  · rw [if_pos h0]; exact h
  rw [if_neg h0]
  cases hl : l.getLast? with
  | none => exact ⟨by simp only; omega, by simp, trivial⟩
  | some r =>
    simp only
    have e := last_split hl
    by_cases hs : r.2 = s
    · rw [if_pos hs]
      rw [e] at h
      have := canon_front _ r h n
      rw [← hs]
      exact this
    · rw [if_neg hs]
      exact canon_snoc l (n, s) h (by simp only; omega) (fun y hy => by rw [hl] at hy; cases hy; exact hs)
/-- The runs of a list. -/
def rle : List Int → List (Nat × Int)
  | [] => []
  | x :: l => match rle l with
    | (n, y) :: r => if x = y then (n + 1, y) :: r else (1, x) :: (n, y) :: r
    | [] => [(1, x)]
theorem rle_rep (s : Int) (X : List Int) (hX : ∀ y, (rle X).head? = some y → y.2 ≠ s) : ∀ n, rle (List.replicate (n + 1) s ++ X) = (n + 1, s) :: rle X
  | 0 => by
    show rle (s :: X) = _
    simp only [rle]
    cases h : rle X with
    | nil => rfl
    | cons y r =>
      obtain ⟨m, t⟩ := y
      simp only
      rw [if_neg]
      exact fun e => hX (m, t) (by rw [h]; rfl) e.symm
  | n + 1 => by
    rw [List.replicate_succ, List.cons_append]
    simp only [rle]
    rw [rle_rep s X hX n]
    simp
theorem rle_canon : ∀ l : List (Nat × Int), canon l → rle (lineN l) = l
  | [], _ => rfl
  | r :: l, h => by
    obtain ⟨n, s⟩ := r
    obtain ⟨h1, h2, h3⟩ := h
    obtain ⟨k, rfl⟩ : ∃ k, n = k + 1 := ⟨n - 1, by simp only at h1; omega⟩
    have ih := rle_canon l h3
    rw [show lineN ((k + 1, s) :: l) = List.replicate (k + 1) s ++ lineN l by simp [lineN], rle_rep s _ (by rw [ih]; exact h2), ih]
/-- The runs of states have the runs of their numbers. -/
theorem rle_map (f : Int → Int) : ∀ l : List Int, (∀ a ∈ l, ∀ b ∈ l, f a = f b → a = b) → rle (l.map f) = (rle l).map fun r => (r.1, f r.2)
  | [], _ => rfl
  | x :: l, h => by
    have ih := rle_map f l fun a ha b hb => h a (by simp [ha]) b (by simp [hb])
    have hm : ∀ l : List Int, ∀ r ∈ rle l, r.2 ∈ l := by
      intro l
      induction l with
      | nil => intro r hr; cases hr
      | cons y l ihl =>
        intro r hr
        simp only [rle] at hr
        split at hr
        · rename_i n z t e
          split at hr
          · rename_i hy
            rcases List.mem_cons.1 hr with rfl | hr
            · simp [hy]
            · exact List.mem_cons_of_mem _ (ihl r (by rw [e]; simp [hr]))
          · rcases List.mem_cons.1 hr with rfl | hr
            · simp
            · exact List.mem_cons_of_mem _ (ihl r (by rw [e]; exact hr))
        · simp only [List.mem_singleton] at hr
          subst hr
          simp
    simp only [List.map_cons, rle, ih]
    cases he : rle l with
    | nil => rfl
    | cons y r =>
      obtain ⟨n, z⟩ := y
      have hz : z ∈ l := hm l (n, z) (by rw [he]; simp)
      simp only [List.map_cons]
      by_cases hx : x = z
      · rw [if_pos hx, if_pos (by rw [hx]), List.map_cons]
      · rw [if_neg hx, if_neg (fun e => hx (h x (by simp) z (by simp [hz]) e)), List.map_cons, List.map_cons]
end Go.Proofs.YtdgoompjoeffcaaGreat
/- A tape that describes: a row's runs, the program's way, a plain law. -/
namespace Go.Proofs.YtdgoompjoeffcaaGreat
open Pm
attribute [local irreducible] Wait CallT CallW NextT Le Weak
def westF : List (Int × Int) → List (Nat × Int) → Int → List (Nat × Int) × Int
  | [], L, a => (L, a)
  | c :: l, L, a => if c.1 < 0 then westF l (addP (addP L (c.1 - a).toNat 0) 1 c.2) (c.1 + 1) else westF l L a
/-- A part of a row, from its far end to the middle. -/
def westP (l : List (Int × Int)) : List (Nat × Int) := match l with
  | [] => []
  | c :: _ => let r := westF l [] c.1; if r.1 = [] then [] else addP r.1 (-r.2).toNat 0
/-- What a row has at a place. -/
def nAt : List (Int × Int) → Int → Int
  | [], _ => 0
  | c :: l, x => if x = c.1 then c.2 else nAt l x
/-- From west to east. -/
def asc (l : List (Int × Int)) : Prop := l.Pairwise fun a b => a.1 < b.1
theorem nAt_none {x : Int} : ∀ {l : List (Int × Int)}, (∀ c ∈ l, c.1 ≠ x) → nAt l x = 0
  | [], _ => rfl
  | c :: l, h => by
    simp only [nAt]
    rw [if_neg (fun e => h c (by simp) e.symm)]
    exact nAt_none fun d hd => h d (by simp [hd])
theorem range_cat {α : Type} (f : Nat → α) (a b : Nat) : (List.range (a + b)).map f = (List.range a).map f ++ (List.range b).map fun i => f (a + i) := by
  rw [List.range_add, List.map_append, List.map_map]
  rfl
theorem map_zero (n : Nat) (f : Nat → Int) (h : ∀ i, i < n → f i = 0) : (List.range n).map f = List.replicate n 0 := by
  apply List.ext_getElem
  · simp
  · intro i h1 h2
    simp only [List.length_map, List.length_range] at h1
    simp [h i h1]
theorem addP_ne {l : List (Nat × Int)} {n : Nat} {s : Int} (h : n ≠ 0) : addP l n s ≠ [] := by
  unfold addP
  rw [if_neg h]
  split
  · split <;> simp
  · simp
theorem addP_keep {l : List (Nat × Int)} (n : Nat) (s : Int) (h : l ≠ []) : addP l n s ≠ [] := by
  by_cases h0 : n = 0
  · unfold addP; rw [if_pos h0]; exact h
  · exact addP_ne h0
theorem westF_spec : ∀ (l : List (Int × Int)) (L : List (Nat × Int)) (a : Int), asc l → (∀ c ∈ l, a ≤ c.1) → a ≤ (westF l L a).2 ∧ (a ≤ 0 → (westF l L a).2 ≤ 0) ∧ (∀ c ∈ l, c.1 < 0 → c.1 < (westF l L a).2) ∧
    lineN (westF l L a).1 = lineN L ++ (List.range ((westF l L a).2 - a).toNat).map (fun i : Nat => nAt l (a + (i : Int))) ∧ (canon L → canon (westF l L a).1) ∧ (L ≠ [] → (westF l L a).1 ≠ [])
  | [], L, a, _, _ => by simp [westF]
  | c :: l, L, a, hs, ha => by
    obtain ⟨x, k⟩ := c
    have hs' := List.pairwise_cons.1 hs
    have hx : a ≤ x := ha (x, k) (by simp)
    simp only [westF]
    by_cases hn : x < 0
    · rw [if_pos hn]
      obtain ⟨h1, h2, h3, h4, h5, h6⟩ := westF_spec l (addP (addP L (x - a).toNat 0) 1 k) (x + 1) hs'.2 (fun c hc => by have := hs'.1 c hc; simp only at this; omega)
      generalize westF l (addP (addP L (x - a).toNat 0) 1 k) (x + 1) = r at h1 h2 h3 h4 h5 h6 ⊢
      refine ⟨by omega, fun _ => h2 (by omega), fun c hc hc0 => ?_, ?_, fun hL => h5 (canon_add _ _ (canon_add _ _ hL)), fun _ => h6 (addP_ne (by omega))⟩
      · rcases List.mem_cons.1 hc with rfl | hc
        · simp only; omega
        · exact h3 c hc hc0
      · rw [h4, lineN_add, lineN_add, show (r.2 - a).toNat = (x - a).toNat + (1 + (r.2 - (x + 1)).toNat) by omega, range_cat, range_cat, List.append_assoc, List.append_assoc]
        congr 1
        congr 1
        · refine (map_zero _ _ fun i hi => nAt_none fun c hc => ?_).symm
          rcases List.mem_cons.1 hc with rfl | hc
          · simp only; omega
          · have := hs'.1 c hc
            simp only at this
            omega
        · congr 1
          · simp only [List.range_one, List.map_cons, List.map_nil, nAt]
            rw [if_pos (by omega)]
            rfl
          · refine List.map_congr_left fun i _ => ?_
            simp only [nAt]
            rw [if_neg (by omega)]
            congr 1
            omega
    · rw [if_neg hn]
      have hk : ∀ (m : List (Int × Int)) (L : List (Nat × Int)) (a : Int), (∀ c ∈ m, 0 ≤ c.1) → westF m L a = (L, a) := by
        intro m
        induction m with
        | nil => intro L a _; rfl
        | cons d m ih =>
          intro L a h
          simp only [westF]
          rw [if_neg (by have := h d (by simp); omega)]
          exact ih L a fun e he => h e (by simp [he])
      rw [hk l L a (fun c hc => by have := hs'.1 c hc; simp only at this; omega)]
      refine ⟨Int.le_refl _, fun h => h, fun c hc hc0 => ?_, by simp, fun h => h, fun h => h⟩
      rcases List.mem_cons.1 hc with rfl | hc
      · exact absurd hc0 hn
      · have := hs'.1 c hc
        simp only at this
        omega
/-- How far a row reaches to the west. -/
def farW (l : List (Int × Int)) : Nat := match l with
  | [] => 0
  | c :: _ => (-c.1).toNat
theorem westP_spec {l : List (Int × Int)} (h : asc l) : lineN (westP l) = (List.range (farW l)).map (fun i : Nat => nAt l ((i : Int) - (farW l : Int))) ∧ canon (westP l) := by
  cases l with
  | nil => exact ⟨rfl, trivial⟩
  | cons c l =>
    have hs' := List.pairwise_cons.1 h
    obtain ⟨h1, h2, h3, h4, h5, h6⟩ := westF_spec (c :: l) [] c.1 h (fun d hd => by
      rcases List.mem_cons.1 hd with rfl | hd
      · exact Int.le_refl _
      · exact Int.le_of_lt (hs'.1 d hd))
    simp only [westP, farW]
    by_cases hn : c.1 < 0
    · have hne : (westF (c :: l) [] c.1).1 ≠ [] := by
        simp only [westF, if_pos hn]
        exact (westF_spec l _ (c.1 + 1) hs'.2 (fun d hd => by have := hs'.1 d hd; omega)).2.2.2.2.2 (addP_ne (by omega))
      have h2 := h2 (by omega)
      generalize westF (c :: l) [] c.1 = r at *
      rw [if_neg hne]
      refine ⟨?_, canon_add _ _ (h5 trivial)⟩
      rw [lineN_add, h4, show (-c.1).toNat = (r.2 - c.1).toNat + (-r.2).toNat by omega, range_cat, show lineN [] = [] from rfl, List.nil_append]
      congr 1
      · refine List.map_congr_left fun i _ => ?_
        congr 1
        omega
      · refine (map_zero _ _ fun i hi => nAt_none fun d hd => ?_).symm
        by_cases hd0 : d.1 < 0
        · have := h3 d hd hd0
          omega
        · omega
    · have : westF (c :: l) [] c.1 = ([], c.1) := by
        have hk : ∀ (m : List (Int × Int)) (L : List (Nat × Int)) (a : Int), (∀ c ∈ m, 0 ≤ c.1) → westF m L a = (L, a) := by
          intro m
          induction m with
          | nil => intro L a _; rfl
          | cons d m ih =>
            intro L a h
            simp only [westF]
            rw [if_neg (by have := h d (by simp); omega)]
            exact ih L a fun e he => h e (by simp [he])
        exact hk _ _ _ fun d hd => by
          rcases List.mem_cons.1 hd with rfl | hd
          · omega
          · have := hs'.1 d hd; omega
      rw [this, if_pos rfl, show (-c.1).toNat = 0 by omega]
      exact ⟨rfl, trivial⟩
end Go.Proofs.YtdgoompjoeffcaaGreat
/- A tape that describes: what stands behind all rows; the same cells. -/
namespace Go.Proofs.YtdgoompjoeffcaaGreat
open Pm
attribute [local irreducible] Wait CallT CallW NextT Le Weak
theorem perm_memE {α : Type} [DecidableEq α] : ∀ {l m : List α}, l.Nodup → m.Nodup → (∀ a, a ∈ l ↔ a ∈ m) → l.Perm m
  | [], m, _, _, h => by
    cases m with
    | nil => exact .nil
    | cons b m => exact absurd ((h b).2 (by simp)) (by simp)
  | a :: l, m, hl, hm, h => by
    have ha : a ∈ m := (h a).1 (by simp)
    rw [List.nodup_cons] at hl
    refine .trans (.cons a (perm_memE hl.2 (hm.erase a) fun b => ?_)) (List.perm_cons_erase ha).symm
    rw [List.Nodup.mem_erase_iff hm]
    constructor
    · exact fun hb => ⟨fun e => hl.1 (e ▸ hb), (h b).1 (by simp [hb])⟩
    · rintro ⟨h1, h2⟩
      rcases List.mem_cons.1 ((h b).2 h2) with e | e
      · exact absurd e h1
      · exact e
theorem nodup_of {α β : Type} (f : α → β) {l : List α} (h : (l.map f).Nodup) : l.Nodup := by
  induction l with
  | nil => exact .nil
  | cons a l ih =>
    rw [List.map_cons, List.nodup_cons] at h
    exact List.nodup_cons.2 ⟨fun e => h.1 (List.mem_map_of_mem e), ih h.2⟩
theorem mem_get {α : Type} {d : α} {l : List (Pl × α)} (h : (l.map Prod.fst).Nodup) {p : Pl} {a : α} (ha : a ≠ d) : (p, a) ∈ l ↔ aget d p l = a := by
  induction l with
  | nil => simp only [List.not_mem_nil, aget, false_iff]; exact fun e => ha e.symm
  | cons e l ih =>
    obtain ⟨q, b⟩ := e
    rw [List.map_cons, List.nodup_cons] at h
    simp only [List.mem_cons, Prod.mk.injEq, aget]
    by_cases hq : p = q
    · rw [if_pos hq]
      constructor
      · rintro (⟨-, h1⟩ | h1)
        · exact h1.symm
        · refine absurd ?_ h.1
          rw [← hq]
          exact List.mem_map_of_mem (f := Prod.fst) (a := (p, a)) h1
      · exact fun h1 => .inl ⟨hq, h1.symm⟩
    · rw [if_neg hq, ← ih h.2]
      simp [hq]
/-- What a row has at a place. -/
def rowAt (r : Rw) (x : Int) : Int := if x = 0 then stN r.mid else if x < 0 then (if -x ≤ lineLen r.west then (lineS r.west).getD (lineLen r.west - (-x).toNat) 0 else 0) else (if x ≤ lineLen r.east then (lineS r.east).getD (lineLen r.east - x.toNat) 0 else 0)
theorem row_get {y : Int} {r : Rw} {m : List (Pl × Int)} (q : Pl) (h0 : ∀ x, aget 0 (x, y) m = 0) : aget 0 q (rowPut (0, y) r m) = if q.2 = y then rowAt r q.1 else aget 0 q m := by
  obtain ⟨x, z⟩ := q
  unfold rowPut
  rw [aget_put, put_get (.inr rfl) _ _ _ _ (lineS_len _), put_get (.inl rfl) _ _ _ _ (lineS_len _)]
  simp only [Prod.mk.injEq, show ¬ (0 : Int) = 2 by decide, if_false, if_true, Int.sub_zero, Int.zero_sub]
  by_cases hz : z = y
  · rw [if_pos hz]
    unfold rowAt
    subst hz
    by_cases hx : x = 0
    · rw [if_pos ⟨hx, rfl⟩, if_pos hx]
    rw [if_neg (fun e => hx e.1), if_neg hx]
    by_cases hn : x < 0
    · rw [if_neg (by omega), if_pos hn]
      by_cases hl : -x ≤ lineLen r.west
      · rw [if_pos ⟨rfl, by omega, hl⟩, if_pos hl]
      · rw [if_neg (fun e => hl e.2.2), if_neg hl, h0]
    · rw [if_neg hn]
      by_cases hl : x ≤ lineLen r.east
      · rw [if_pos ⟨rfl, by omega, hl⟩, if_pos hl]
      · rw [if_neg (fun e => hl e.2.2), if_neg hl, if_neg (by omega), h0]
  · rw [if_neg hz, if_neg (fun e => hz e.2), if_neg (fun e => hz e.1), if_neg (fun e => hz e.1)]
/-- Behind the rows that stand from the k-th one north on. -/
theorem rows_get : ∀ (rs : List Rw) (k : Nat) (m : List (Pl × Int)) (q : Pl), rs.length = k → (∀ x y, -(k : Int) ≤ y → y < 0 → aget 0 (x, y) m = 0) →
    aget 0 q (rowsPut k rs m) = if -(k : Int) ≤ q.2 ∧ q.2 < 0 then rowAt (rs.getD (q.2 + k).toNat ⟨[], [], 0⟩) q.1 else aget 0 q m
  | [], k, m, q, hk, _ => by
    have : k = 0 := by simpa using hk.symm
    subst this
    rw [rowsPut_nil, if_neg (by omega)]
  | r :: rs, k, m, q, hk, h0 => by
    obtain ⟨j, rfl⟩ : ∃ j, k = j + 1 := ⟨rs.length, by simpa using hk.symm⟩
    have hj : rs.length = j := by simpa using hk
    simp only [rowsPut]
    rw [mv_north]
    have hrow : ∀ q : Pl, aget 0 q (rowPut (0, -((j + 1 : Nat) : Int)) r m) = if q.2 = -((j + 1 : Nat) : Int) then rowAt r q.1 else aget 0 q m := fun q => row_get q (fun x => h0 x _ (by omega) (by omega))
    rw [rows_get rs j _ q hj (fun x y h1 h2 => by rw [hrow, if_neg (by simp only; omega)]; exact h0 x y (by omega) h2), hrow]
    obtain ⟨x, y⟩ := q
    simp only
    by_cases h1 : -(j : Int) ≤ y ∧ y < 0
    · rw [if_pos h1, if_pos (by omega), show (y + ((j + 1 : Nat) : Int)).toNat = (y + (j : Int)).toNat + 1 by omega, List.getD_cons_succ]
    · rw [if_neg h1]
      by_cases h2 : y = -((j + 1 : Nat) : Int)
      · rw [if_pos h2, if_pos (by omega), show (y + ((j + 1 : Nat) : Int)).toNat = 0 by omega]
        rfl
      · rw [if_neg h2, if_neg (by omega)]
theorem same_cells {p m : List Ce} (hp : (p.map Prod.fst).Nodup) (hm : (m.map Prod.fst).Nodup) (hz : ∀ c ∈ p, c.2 ≠ 0) (hs : p.Pairwise fun a b => leC a b = true) (h : ∀ q, aget 0 q m = aget 0 q p) : sortC (m.filter nz) = p := by
  refine (sortC_uniq ?_ hs ?_).symm
  · refine perm_memE (nodup_of Prod.fst hp) (nodup_of Prod.fst (hm.sublist ((List.filter_sublist).map _))) fun c => ?_
    obtain ⟨q, a⟩ := c
    rw [List.mem_filter]
    constructor
    · intro hc
      have ha : a ≠ 0 := hz _ hc
      exact ⟨(mem_get hm ha).2 ((h q).trans ((mem_get hp ha).1 hc)), by simp [nz, ha]⟩
    · rintro ⟨hc, ha⟩
      have ha : a ≠ 0 := by simpa [nz] using ha
      exact (mem_get hp ha).2 ((h q).symm.trans ((mem_get hm ha).1 hc))
  · exact hm.sublist ((List.filter_sublist).map _)
/-- The tape of a list of groups of rows: what the walk writes. -/
theorem gps_cells {gs : List Gp} {K : Nat} {w : Wk} {p : List Ce} (hK : (gs.flatMap Gp.rows).length = K) (hr : ∀ g ∈ gs, ∀ r ∈ g.rows, r.ok) (h1 : 1 ≤ K)
    (e : walkP (timesP K 5 ++ gs.flatMap Gp.code) beginW = (0, w)) (hw : (w.wrote.map Prod.fst).Nodup) (hp : (p.map Prod.fst).Nodup) (hz : ∀ c ∈ p, c.2 ≠ 0) (hs : p.Pairwise fun a b => leC a b = true)
    (ha : ∀ x y, aget 0 (x, y) p = if -(K : Int) ≤ y ∧ y < 0 then rowAt ((gs.flatMap Gp.rows).getD (y + K).toNat ⟨[], [], 0⟩) x else 0) : sortC (w.wrote.filter nz) = p := by
  obtain ⟨v, e1, e2⟩ := walkP_split e
  obtain ⟨g1, g2, g3, g4⟩ := times_forth K beginW v rfl e1
  have hat : AtRow (0 + (gs.flatMap Gp.rows).length) v := by
    rw [hK, Nat.zero_add]
    exact ⟨g1, g2, g4⟩
  obtain ⟨_, k2⟩ := gps_write gs 0 v w hr hat e2
  rw [hK, Nat.zero_add, g3] at k2
  refine same_cells hp hw hz hs fun q => ?_
  obtain ⟨x, y⟩ := q
  rw [k2, ha, rows_get _ K _ _ hK (fun _ _ _ _ => rfl)]
  rfl
end Go.Proofs.YtdgoompjoeffcaaGreat
