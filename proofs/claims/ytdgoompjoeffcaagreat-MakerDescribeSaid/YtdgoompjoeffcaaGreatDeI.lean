import Derived.Test.YtdgoompjoeffcaaGreatProg
import Derived.Test.YtdgoompjoeffcaaGreatPmY
import Derived.Test.YtdgoompjoeffcaaGreatDeE
import Derived.Test.YtdgoompjoeffcaaGreatYaH
import Derived.Test.YtdgoompjoeffcaaGreatYaJ
/- A tape that describes: rows of a pattern, a plain law. -/
set_option linter.unusedSimpArgs false
set_option linter.unusedVariables false
set_option maxRecDepth 20000
open Go Go.Proofs
namespace Go.Proofs.YtdgoompjoeffcaaGreat
open Pm
attribute [local irreducible] Wait CallT CallW NextT Le Weak
def negL (l : List (Int × Int)) : List (Int × Int) := l.reverse.map fun c => (-c.1, c.2)
theorem asc_neg {l : List (Int × Int)} (h : asc l) : asc (negL l) := by
  unfold asc negL at *
  rw [List.pairwise_map, List.pairwise_reverse]
  exact h.imp fun hab => by simp only; omega
theorem nAt_mem : ∀ {l : List (Int × Int)}, asc l → ∀ c ∈ l, nAt l c.1 = c.2
  | d :: l, h, c, hc => by
    have h' := List.pairwise_cons.1 h
    simp only [nAt]
    rcases List.mem_cons.1 hc with rfl | hc
    · rw [if_pos rfl]
    · have := h'.1 c hc
      rw [if_neg (by omega)]
      exact nAt_mem h'.2 c hc
theorem nAt_neg {l : List (Int × Int)} (h : asc l) (x : Int) : nAt (negL l) x = nAt l (-x) := by
  by_cases hx : ∃ c ∈ l, c.1 = -x
  · obtain ⟨c, hc, e⟩ := hx
    have h1 := nAt_mem h c hc
    have hm : (-c.1, c.2) ∈ negL l := List.mem_map.2 ⟨c, List.mem_reverse.2 hc, rfl⟩
    have h2 := nAt_mem (asc_neg h) _ hm
    simp only at h2
    rw [← e, h1, show x = -c.1 by omega, h2]
  · rw [nAt_none fun c hc e => hx ⟨c, hc, e⟩, nAt_none fun c hc e => ?_]
    obtain ⟨d, hd, rfl⟩ := List.mem_map.1 hc
    exact hx ⟨d, List.mem_reverse.1 hd, by simp only at e; omega⟩
def rowP (l : List (Int × Int)) : Rw := ⟨westP l, westP (negL l), nAt l 0⟩
theorem stN_zero : stN 0 = 0 := by decide +kernel
theorem lineLen_N (l : List (Nat × Int)) : lineLen l = (lineN l).length := by rw [← lineS_len, lineS_N, List.length_map]
theorem line_get {l : List (Int × Int)} (h : asc l) {z : Int} (hz : 0 < z) : (if z ≤ lineLen (westP l) then (lineS (westP l)).getD (lineLen (westP l) - z.toNat) 0 else 0) = stN (nAt l (-z)) := by
  obtain ⟨h1, _⟩ := westP_spec h
  have hl : lineLen (westP l) = farW l := by rw [lineLen_N, h1]; simp
  rw [hl, lineS_N, h1]
  by_cases hle : z ≤ farW l
  · rw [if_pos hle, List.getD_eq_getElem?_getD, List.getElem?_map, List.getElem?_map, List.getElem?_range (by omega)]
    simp only [Option.map_some, Option.getD_some]
    congr 2
    omega
  · rw [if_neg hle, nAt_none fun c hc e => ?_, stN_zero]
    cases l with
    | nil => cases hc
    | cons d l =>
      have h' := List.pairwise_cons.1 h
      simp only [farW] at hle
      rcases List.mem_cons.1 hc with rfl | hc
      · omega
      · have := h'.1 c hc
        omega
theorem rowAt_P {l : List (Int × Int)} (h : asc l) (x : Int) : rowAt (rowP l) x = stN (nAt l x) := by
  unfold rowAt rowP
  simp only
  by_cases h0 : x = 0
  · rw [if_pos h0, h0]
  rw [if_neg h0]
  by_cases hn : x < 0
  · rw [if_pos hn]
    have := line_get h (show 0 < -x by omega)
    rw [this]
    congr 2
    omega
  · rw [if_neg hn]
    have := line_get (asc_neg h) (show 0 < x by omega)
    rw [this, nAt_neg h]
    congr 2
    omega
/-- A pattern's cells in order. -/
def inOrder (p : List Ce) : Prop := p.Pairwise fun a b => a.1.2 < b.1.2 ∨ a.1.2 = b.1.2 ∧ a.1.1 < b.1.1
def rowCells (f : Int → Int) (p : List Ce) (y : Int) : List (Int × Int) := (p.filter fun c => decide (c.1.2 = y)).map fun c => (c.1.1, f c.2)
theorem asc_row (f : Int → Int) {p : List Ce} (h : inOrder p) (y : Int) : asc (rowCells f p y) := by
  unfold asc rowCells inOrder at *
  rw [List.pairwise_map]
  refine List.Pairwise.imp_of_mem ?_ (h.sublist List.filter_sublist)
  intro a b ha hb hab
  have h1 := of_decide_eq_true (List.mem_filter.1 ha).2
  have h2 := of_decide_eq_true (List.mem_filter.1 hb).2
  simp only
  omega
theorem nAt_row (f : Int → Int) (f0 : f 0 = 0) (x y : Int) : ∀ p : List Ce, nAt (rowCells f p y) x = f (aget 0 (x, y) p)
  | [] => by rw [show aget 0 (x, y) ([] : List Ce) = 0 from rfl, f0]; rfl
  | c :: p => by
    obtain ⟨⟨a, b⟩, s⟩ := c
    have ih := nAt_row f f0 x y p
    unfold rowCells at ih ⊢
    rw [List.filter_cons]
    simp only [aget, Prod.mk.injEq]
    by_cases hb : b = y
    · rw [if_pos (decide_eq_true hb), List.map_cons]
      simp only [nAt]
      by_cases ha : x = a
      · rw [if_pos ha, if_pos ⟨ha, hb.symm⟩]
      · rw [if_neg ha, if_neg (fun e => ha e.1), ih]
    · rw [if_neg (by simpa using hb), if_neg (fun e => hb e.2.symm), ih]
/-- The rows of a pattern, from the K-th one north on. -/
def rowsP (f : Int → Int) (p : List Ce) (K : Nat) : List Rw := (List.range K).map fun i : Nat => rowP (rowCells f p ((i : Int) - (K : Int)))
def sided (r : Rw) : Bool := !(r.west.isEmpty && r.east.isEmpty)
/-- Rows in groups. -/
def grpF : List Rw → List Gp
  | [] => []
  | r :: l => if sided r = true then .one r :: grpF l else
    .mids (1 + (l.takeWhile fun s => !sided s && s.mid == r.mid).length) r.mid :: grpF (l.drop (l.takeWhile fun s => !sided s && s.mid == r.mid).length)
  termination_by l => l.length
  decreasing_by all_goals simp only [List.length_cons, List.length_drop]; omega
theorem bare_eq {r : Rw} (h : sided r = false) : r = ⟨[], [], r.mid⟩ := by
  obtain ⟨w, e, m⟩ := r
  simp only [sided, Bool.not_eq_false', Bool.and_eq_true, List.isEmpty_iff] at h
  rw [h.1, h.2]
theorem tw_mem {α : Type} {p : α → Bool} : ∀ {l : List α} {s : α}, s ∈ l.takeWhile p → p s = true
  | a :: l, s, h => by
    rw [List.takeWhile_cons] at h
    split at h
    · rename_i ha
      rcases List.mem_cons.1 h with rfl | h
      · exact ha
      · exact tw_mem h
    · cases h
theorem tw_drop {α : Type} (p : α → Bool) : ∀ l : List α, l.drop (l.takeWhile p).length = l.dropWhile p
  | [] => rfl
  | a :: l => by
    rw [List.takeWhile_cons, List.dropWhile_cons]
    split
    · rw [List.length_cons, List.drop_succ_cons, tw_drop p l]
    · rfl
theorem grp_rows (l : List Rw) : (grpF l).flatMap Gp.rows = l := by
  induction l using grpF.induct with
  | case1 => rw [grpF]; rfl
  | case2 r l h ih => rw [grpF, if_pos h, List.flatMap_cons, ih]; rfl
  | case3 r l h ih =>
    rw [grpF, if_neg h, List.flatMap_cons, ih]
    have hr := bare_eq (r := r) (by simpa using h)
    have ht : l.takeWhile (fun s => !sided s && s.mid == r.mid) = List.replicate (l.takeWhile fun s => !sided s && s.mid == r.mid).length ⟨[], [], r.mid⟩ := by
      rw [List.eq_replicate_iff]
      refine ⟨rfl, fun s hs => ?_⟩
      have := tw_mem hs
      simp only [Bool.and_eq_true, Bool.not_eq_true', beq_iff_eq] at this
      rw [bare_eq this.1, this.2]
    have hd := tw_drop (fun s => !sided s && s.mid == r.mid) l
    rw [hd]
    show List.replicate (1 + _) _ ++ _ = _
    rw [Nat.add_comm, List.replicate_succ, List.cons_append, ← ht, List.takeWhile_append_dropWhile, ← hr]
end Go.Proofs.YtdgoompjoeffcaaGreat
/- The numbers of written states. -/
namespace Go.Proofs.YtdgoompjoeffcaaGreat
open Pm
attribute [local irreducible] Wait CallT CallW NextT Le Weak
def findF (p : Int → Bool) : Nat → Nat → Int × Int
  | 0, _ => (0, 19)
  | n + 1, k => if p k = true then ((k : Int), 0) else findF p n (k + 1)
def wrP (s i : Int) : Bool := decide ((WrittenStateE i).2 = 0) && decide ((WrittenStateE i).1 = s)
def wrQ (s i : Int) : Bool := decide ((RefWrittenStateE i).1 = s)
def WrittenNumberE (s : Int) : Int × Int := findF (wrP s) 73 0
def RefWrittenNumberE (s : Int) : Int × Int := findF (wrQ s) 73 0
theorem number_pc (s : Int) : PCon Tryz.prog 16 [iA s] (· = .tup [iA (WrittenNumberE s).1, iA (WrittenNumberE s).2]) := by
  refine pcon_run 1000 Tryz.func16 rfl Tryz.results16 Tryz.ntmps16 (Nat.le_of_ble_eq_true rfl) ?_
  simp -implicitDefEqProofs only [go_sem, iA]
  refine wait_range 73 (fun k => ⟨24, 0, [(0, iA s), (2, iA 0), (3, iA 0), (7, iA k)], []⟩) (fun k => findF (wrP s) (73 - k) k = WrittenNumberE s) (weak_to [0, 2, 3, 7] [] ?_ (by simp) (fun i h => by cases h)) rfl ?_
  · simp -implicitDefEqProofs only [go_sem, St.keep, iA, Int.natCast_zero]
  · intro k hk hp
    refine run_sound 1000 _ _ ?_
    have hw2 : IntKind.i64.wrap ((k : Int) + 1) = ((k + 1 : Nat) : Int) := by rw [wrapI (by omega) (by omega)]; omega
    by_cases hk1 : k < 73
    · have hlt : ((k : Int) < 73) = True := by simp; omega
      obtain ⟨m, hm⟩ : ∃ m, 73 - k = m + 1 := ⟨73 - k - 1, by omega⟩
      have hm' : 73 - (k + 1) = m := by omega
      rw [hm, findF] at hp
      simp -implicitDefEqProofs only [go_sem, iA, hlt]
      refine call_eq 1000 (written_pc k) (by simp -implicitDefEqProofs only [go_sem, iA]) ?_ rfl
      generalize hws : WrittenStateE k = ws at hp
      simp -implicitDefEqProofs only [go_sem, iA, hlt]
      (repeat' (first | exact trivial | contradiction | exact ⟨_, rfl⟩ | refine And.intro ?_ ?_ | (refine om ?_; omega)  | (refine wait_draw 1000 mixed (by decide +kernel) ?_; simp -implicitDefEqProofs only [go_sem iA]) | intro _))
      all_goals simp only [wrP, hws] at hp
      all_goals first | exact hk1 | (refine weak_to [0, 2, 3, 7] [] ?_ (by simp) (fun i h => by cases h); simp -implicitDefEqProofs only [go_sem, St.keep, iA, hw2]; done) | (rw [hm']; simpa [*] using hp) | (simp [*] at hp; simp [← hp, iA]; done)
    · have hlt : ((k : Int) < 73) = False := by simp; omega
      have hz : 73 - k = 0 := by omega
      rw [hz, findF] at hp
      simp -implicitDefEqProofs only [go_sem, iA, hlt, ← hp]
theorem refNumber_pc (s : Int) : PCon Tryz.prog 11 [iA s] (· = .tup [iA (RefWrittenNumberE s).1, iA (RefWrittenNumberE s).2]) := by
  refine pcon_run 1000 Tryz.func11 rfl Tryz.results11 Tryz.ntmps11 (Nat.le_of_ble_eq_true rfl) ?_
  simp -implicitDefEqProofs only [go_sem, iA]
  refine wait_range 73 (fun k => ⟨20, 0, [(0, iA s), (2, iA 0), (3, iA 0), (4, iA k)], []⟩) (fun k => findF (wrQ s) (73 - k) k = RefWrittenNumberE s) (weak_to [0, 2, 3, 4] [] ?_ (by simp) (fun i h => by cases h)) rfl ?_
  · simp -implicitDefEqProofs only [go_sem, St.keep, iA, Int.natCast_zero]
  · intro k hk hp
    refine run_sound 1000 _ _ ?_
    have hw2 : IntKind.i64.wrap ((k : Int) + 1) = ((k + 1 : Nat) : Int) := by rw [wrapI (by omega) (by omega)]; omega
    by_cases hk1 : k < 73
    · have hlt : ((k : Int) < 73) = True := by simp; omega
      obtain ⟨m, hm⟩ : ∃ m, 73 - k = m + 1 := ⟨73 - k - 1, by omega⟩
      have hm' : 73 - (k + 1) = m := by omega
      rw [hm, findF] at hp
      simp -implicitDefEqProofs only [go_sem, iA, hlt]
      refine call_eq 1000 (refWritten_pc k) (by simp -implicitDefEqProofs only [go_sem, iA]) ?_ rfl
      generalize hws : RefWrittenStateE k = ws at hp
      simp -implicitDefEqProofs only [go_sem, iA, hlt]
      (repeat' (first | exact trivial | contradiction | exact ⟨_, rfl⟩ | refine And.intro ?_ ?_ | (refine om ?_; omega)  | (refine wait_draw 1000 mixed (by decide +kernel) ?_; simp -implicitDefEqProofs only [go_sem iA]) | intro _))
      all_goals simp only [wrQ, hws] at hp
      all_goals first | exact hk1 | (refine weak_to [0, 2, 3, 4] [] ?_ (by simp) (fun i h => by cases h); simp -implicitDefEqProofs only [go_sem, St.keep, iA, hw2]; done) | (rw [hm']; simpa [*] using hp) | (simp [*] at hp; simp [← hp, iA]; done)
    · have hlt : ((k : Int) < 73) = False := by simp; omega
      have hz : 73 - k = 0 := by omega
      rw [hz, findF] at hp
      simp -implicitDefEqProofs only [go_sem, iA, hlt, ← hp]
end Go.Proofs.YtdgoompjoeffcaaGreat
/- The numbers of written states: the plain law. -/
namespace Go.Proofs.YtdgoompjoeffcaaGreat
open Pm
attribute [local irreducible] Wait CallT CallW NextT Le Weak
theorem findF_congr (p q : Int → Bool) : ∀ (n k : Nat), (∀ i : Nat, k ≤ i → i < k + n → p i = q i) → findF p n k = findF q n k
  | 0, _, _ => rfl
  | n + 1, k, h => by
    unfold findF
    rw [h k (by omega) (by omega), findF_congr p q n (k + 1) fun i h1 h2 => h i (by omega) (by omega)]
theorem number_eq (s : Int) : WrittenNumberE s = RefWrittenNumberE s := by
  refine findF_congr _ _ 73 0 fun i _ h2 => ?_
  unfold wrP wrQ
  rw [← written_eq]
  have h3 : (WrittenStateE i).2 = 0 := by
    unfold WrittenStateE
    rw [if_neg (by omega)]
    exact written_ok1 i (by omega)
  simp [h3]
end Go.Proofs.YtdgoompjoeffcaaGreat
/- A tape that describes: the program's tape means the pattern, a plain law. -/
namespace Go.Proofs.YtdgoompjoeffcaaGreat
open Pm
attribute [local irreducible] Wait CallT CallW NextT Le Weak
def numF (s : Int) : Int := (WrittenNumberE s).1
theorem find_spec (p : Int → Bool) : ∀ n k : Nat, 0 ≤ (findF p n k).1 ∧ ((findF p n k).2 = 0 → p (findF p n k).1 = true)
  | 0, k => ⟨Int.le_refl 0, fun h => by cases h⟩
  | n + 1, k => by
    simp only [findF]
    split
    · rename_i h
      exact ⟨by simp only; omega, fun _ => h⟩
    · exact find_spec p n (k + 1)
theorem numF_pos (s : Int) : 0 ≤ numF s := (find_spec _ 73 0).1
theorem written_back {s : Int} (h : (WrittenNumberE s).2 = 0) : stN (numF s) = s := by
  have := (find_spec (wrP s) 73 0).2 h
  unfold wrP at this
  simp only [Bool.and_eq_true, decide_eq_true_eq] at this
  exact this.2
theorem numF_zero : numF 0 = 0 := by decide +kernel
theorem canon_mem : ∀ {l : List (Nat × Int)}, canon l → ∀ r ∈ l, r.2 ∈ lineN l
  | x :: l, h, r, hr => by
    unfold lineN
    rw [List.flatMap_cons, List.mem_append]
    rcases List.mem_cons.1 hr with rfl | hr
    · exact .inl (List.mem_replicate.2 ⟨by have := h.1; omega, rfl⟩)
    · exact .inr (canon_mem h.2.2 r hr)
theorem west_pos {l : List (Int × Int)} (h : asc l) (hp : ∀ x, 0 ≤ nAt l x) : ∀ r ∈ westP l, 0 ≤ r.2 := fun r hr => by
  obtain ⟨h1, h2⟩ := westP_spec h
  have hm := canon_mem h2 r hr
  rw [h1] at hm
  obtain ⟨i, _, e⟩ := List.mem_map.1 hm
  rw [← e]
  exact hp _
theorem rowP_ok {l : List (Int × Int)} (h : asc l) (hp : ∀ x, 0 ≤ nAt l x) : (rowP l).ok :=
  ⟨west_pos h hp, west_pos (asc_neg h) (fun x => by rw [nAt_neg h]; exact hp _), hp 0⟩
theorem grp_sub (l : List Rw) : ∀ g ∈ grpF l, ∀ r ∈ g.rows, r ∈ l := fun g hg r hr => by
  have h1 : r ∈ (grpF l).flatMap Gp.rows := List.mem_flatMap.2 ⟨g, hg, hr⟩
  rwa [grp_rows] at h1
/-- A pattern that the writer takes. -/
structure Desc (p : List Ce) : Prop where
  ord : inOrder p
  nz : ∀ c ∈ p, c.2 ≠ 0
  num : ∀ c ∈ p, (WrittenNumberE c.2).2 = 0
  y : ∀ c ∈ p, c.1.2 ≤ -1
theorem ord_nodup {p : List Ce} (h : inOrder p) : (p.map Prod.fst).Nodup := by
  rw [List.nodup_iff_pairwise_ne, List.pairwise_map]
  refine h.imp ?_
  rintro ⟨⟨a, b⟩, s⟩ ⟨⟨c, d⟩, u⟩ hab e
  simp only [Prod.mk.injEq] at hab e
  omega
theorem ord_le {p : List Ce} (h : inOrder p) : p.Pairwise fun a b => leC a b = true := by
  refine h.imp ?_
  intro a b hab
  simp only [leC, decide_eq_true_eq]
  omega
def topK (p : List Ce) : Nat := match p with
  | [] => 0
  | c :: _ => (-c.1.2).toNat
def bodyD (p : List Ce) : List Int := if p = [] then [] else timesP (topK p) 5 ++ (grpF (rowsP numF p (topK p))).flatMap Gp.code
theorem aget_mem {p : List Ce} (h : (p.map Prod.fst).Nodup) {q : Pl} {a : Int} (ha : a ≠ 0) (e : aget 0 q p = a) : (q, a) ∈ p := (mem_get h ha).2 e
theorem describe_cells {p : List Ce} (hp : Desc p) {w : Wk} (e : walkP (bodyD p) beginW = (0, w)) (hw : (w.wrote.map Prod.fst).Nodup) : sortC (w.wrote.filter nz) = p := by
  unfold bodyD at e
  by_cases h0 : p = []
  · rw [if_pos h0] at e
    subst h0
    cases e
    simp [beginW, sortC]
  rw [if_neg h0] at e
  have hn := ord_nodup hp.ord
  obtain ⟨K, hK⟩ : ∃ K, K = topK p := ⟨_, rfl⟩
  rw [← hK] at e
  have hlen : (rowsP numF p K).length = K := by simp [rowsP]
  have hy : ∀ c ∈ p, -(K : Int) ≤ c.1.2 := fun c hc => by
    cases p with
    | nil => cases hc
    | cons d p =>
      have hd := hp.y d (by simp)
      simp only [topK] at hK
      rcases List.mem_cons.1 hc with rfl | hc
      · omega
      · have := (List.pairwise_cons.1 hp.ord).1 c hc
        omega
  have h1 : 1 ≤ K := by
    cases p with
    | nil => exact absurd rfl h0
    | cons d p =>
      have hd := hp.y d (by simp)
      simp only [topK] at hK
      omega
  have hpos : ∀ y x, 0 ≤ nAt (rowCells numF p y) x := fun y x => by rw [nAt_row numF numF_zero]; exact numF_pos _
  refine gps_cells (K := K) (gs := grpF (rowsP numF p K)) (by rw [grp_rows, hlen]) (fun g hg r hr => ?_) h1 e hw hn hp.nz (ord_le hp.ord) fun x y => ?_
  · have hm := grp_sub _ g hg r hr
    obtain ⟨i, _, rfl⟩ := List.mem_map.1 hm
    exact rowP_ok (asc_row numF hp.ord _) (hpos _)
  · rw [grp_rows]
    by_cases hr : -(K : Int) ≤ y ∧ y < 0
    · rw [if_pos hr]
      have hg : (rowsP numF p K).getD (y + (K : Int)).toNat ⟨[], [], 0⟩ = rowP (rowCells numF p y) := by
        unfold rowsP
        rw [List.getD_eq_getElem?_getD, List.getElem?_map, List.getElem?_range (by omega)]
        simp only [Option.map_some, Option.getD_some]
        rw [show (((y + (K : Int)).toNat : Nat) : Int) - (K : Int) = y by omega]
      rw [hg, rowAt_P (asc_row numF hp.ord y), nAt_row numF numF_zero]
      by_cases ha : aget 0 (x, y) p = 0
      · rw [ha, numF_zero, stN_zero]
      · exact (written_back (hp.num _ (aget_mem hn ha rfl))).symm
    · rw [if_neg hr]
      by_cases ha : aget 0 (x, y) p = 0
      · exact ha
      · have hm := aget_mem hn ha rfl
        have h2 := hy _ hm
        have h3 := hp.y _ hm
        simp only at h2 h3
        omega
/-- The tape. -/
def tapeD (p : List Ce) : List Int := 1 :: (bodyD p ++ [2, 4])
theorem tapeD_body (p : List Ce) : ((tapeD p).take ((tapeD p).length - 2)).drop 1 = bodyD p := by
  unfold tapeD
  rw [List.length_cons, List.length_append, List.length_cons, List.length_cons, List.length_nil, show (bodyD p).length + (0 + 1 + 1) + 1 - 2 = (bodyD p).length + 1 by omega, List.take_succ_cons, List.drop_succ_cons, List.drop_zero, List.take_left' rfl]
theorem tapeD_cop (p : List Ce) : cop (tapeD p) = false := by
  unfold cop tapeD
  rw [List.length_cons, List.length_append, List.length_cons, List.length_cons, List.length_nil, show (bodyD p).length + (0 + 1 + 1) + 1 - 2 = (bodyD p).length + 1 by omega, List.getD_cons_succ, List.getD_eq_getElem?_getD, List.getElem?_append_right (Nat.le_refl _), Nat.sub_self]
  rfl
/-- What the tape means. -/
theorem describe_means {p : List Ce} (hp : Desc p) (e : (progWalk (tapeD p)).1 = 0) : sortC ((progWalk (tapeD p)).2.wrote.filter nz) = p := by
  obtain ⟨w, hw⟩ : ∃ w, progWalk (tapeD p) = (0, w) := ⟨(progWalk (tapeD p)).2, by rw [← e]⟩
  obtain ⟨hM, _, _, _⟩ := progWalk_inv hw
  rw [hw]
  unfold progWalk at hw
  split at hw
  · rw [tapeD_body] at hw
    exact describe_cells hp hw hM.wn
  · cases hw
end Go.Proofs.YtdgoompjoeffcaaGreat
