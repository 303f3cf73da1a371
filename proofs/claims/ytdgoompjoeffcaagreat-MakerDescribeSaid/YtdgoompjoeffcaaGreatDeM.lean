import Derived.Test.YtdgoompjoeffcaaGreatProg
import Derived.Test.YtdgoompjoeffcaaGreatPmY
import Derived.Test.YtdgoompjoeffcaaGreatDwF
import Derived.Test.YtdgoompjoeffcaaGreatDeE
/- A tape that describes: equal states are added to a line. -/
set_option linter.unusedSimpArgs false
set_option linter.unusedVariables false
set_option maxRecDepth 20000
open Go Go.Proofs
namespace Go.Proofs.YtdgoompjoeffcaaGreat
open Pm
attribute [local irreducible] Wait CallT CallW NextT Le Weak
def rnB (l : List (Nat × Int)) : Option Blk := some (.row 145 2 (rnL l))
/-- Behind the last run. -/
def addL (d : List (Nat × Int)) (m : Nat) (t : Int) (n : Nat) (s : Int) : List (Nat × Int) := if n = 0 then d ++ [(m, t)] else if t = s then d ++ [(m + n, t)] else d ++ [(m, t)] ++ [(n, s)]
theorem rnL_set (d : List (Nat × Int)) (m n : Nat) (t : Int) : (rnL (d ++ [(m, t)])).set d.length (.agg [.v (.int .i64 ((m + n : Nat) : Int)), .v (.int .i64 t)]) = rnL (d ++ [(m + n, t)]) := by
  unfold rnL
  rw [List.map_append, List.map_append]
  rw [List.set_append_right _ _ (by simp)]
  simp
theorem add_con (d : List (Nat × Int)) (m : Nat) (t : Int) (n : Nat) (s : Int) (hd : d.length < 1000000000) (hm : m < 1000000000) (hn : n < 1000000000) :
    Con Tryz.prog 70 [.sl 0 2 0 (d.length + 1), .v (.int .i64 (n : Int)), .v (.int .i64 s)] [rnB (d ++ [(m, t)])] fun r h => r = .sl 1 2 0 (addL d m t n s).length ∧ h = [none, rnB (addL d m t n s)] := by
  have hl : (d ++ [(m, t)]).length = d.length + 1 := by simp
  have e1 : IntKind.i64.wrap (((d.length + 1 : Nat) : Int) - 1) = (d.length : Int) := by rw [wrapN (by omega) (by omega)]; omega
  have g := rnL_get (d ++ [(m, t)]) d.length (by rw [hl]; omega)
  rw [show (d ++ [(m, t)]).getD d.length (0, 0) = (m, t) by simp [List.getD_eq_getElem?_getD]] at g
  simp only at g
  have i1 : (d.length < d.length + 1) = True := eq_true (by omega)
  have i2 : ((d.length : Int) < ((d.length + 1 : Nat) : Int)) = True := eq_true (by omega)
  have i3 : (0 ≤ (d.length : Int)) = True := eq_true (by omega)
  have e2 : IntKind.i64.wrap ((m : Int) + (n : Int)) = ((m + n : Nat) : Int) := by rw [wrapN (by omega) (by omega)]; omega
  have hset := rnL_set d m n t
  unfold addL
  by_cases h0 : n = 0
  · have c1 : ((n : Int) = 0) = True := eq_true (by omega)
    rw [if_pos h0]
    refine Con.keep (r := .sl 0 2 0 (d.length + 1)) (h1 := [rnB (d ++ [(m, t)])]) (con_run 1000 Tryz.func70 rfl Tryz.results70 Tryz.ntmps70 (Nat.le_of_ble_eq_true rfl) ?_) [100, 0] ?_ ?_ (by decide) ?_
    · simp -implicitDefEqProofs only [go_sem, rnB, e1, c1]
    · simp [AV.ren, AV.renId, idxOf]
    · simp [keepB, rnB, Blk.ren, rnL_ren]
    · exact stay_of rfl
  · have c1 : ((n : Int) = 0) = False := eq_false (by omega)
    rw [if_neg h0]
    by_cases hts : t = s
    · rw [if_pos hts]
      subst hts
      refine Con.keep (r := .sl 0 2 0 (d.length + 1)) (h1 := [rnB (d ++ [(m + n, t)])]) (con_run 1000 Tryz.func70 rfl Tryz.results70 Tryz.ntmps70 (Nat.le_of_ble_eq_true rfl) ?_) [100, 0] ?_ ?_ (by decide) ?_
      · simp -implicitDefEqProofs only [go_sem, rnB, e1, c1, i1, i2, i3, g, e2, hl, beq_self_eq_true]
        (repeat' (first | exact trivial | contradiction | exact ⟨_, rfl⟩ | refine And.intro ?_ ?_ | (refine om ?_; omega)  | (refine wait_draw 1000 mixed (by decide +kernel) ?_; simp -implicitDefEqProofs only [go_sem , e1, c1, i1, i2, i3, g, e2, hl, hset, beq_self_eq_true]) | intro _))
        all_goals rw [hset]
      · simp [AV.ren, AV.renId, idxOf]
      · simp [keepB, rnB, Blk.ren, rnL_ren]
      · exact stay_of rfl
    · rw [if_neg hts]
      have c2 : (t = s) = False := eq_false hts
      have c3 : (t == s) = false := beq_false_of_ne hts
      refine Con.keep (r := .sl 2 2 0 (d.length + 1 + 1)) (h1 := [none, rnB [(n, s)], rnB (d ++ [(m, t)] ++ [(n, s)])]) (con_run 1000 Tryz.func70 rfl Tryz.results70 Tryz.ntmps70 (Nat.le_of_ble_eq_true rfl) ?_) [100, 2] ?_ ?_ (by decide) ?_
      · simp -implicitDefEqProofs only [go_sem, rnB, e1, c1, c2, c3, i1, i2, i3, g, e2, hl]
        (repeat' (first | exact trivial | contradiction | exact ⟨_, rfl⟩ | refine And.intro ?_ ?_ | (refine om ?_; omega)  | (refine wait_draw 1000 mixed (by decide +kernel) ?_; simp -implicitDefEqProofs only [go_sem , e1, c1, c2, c3, i1, i2, i3, g, e2, hl]) | intro _))
        all_goals rfl
      · simp [AV.ren, AV.renId, idxOf]
      · simp [keepB, rnB, Blk.ren, rnL_ren]
      · exact stay_of rfl
/-- The first run. -/
theorem add_nil (n : Nat) (s : Int) (h0 : 0 < n) : Con Tryz.prog 70 [.v (.slice none 0 0), .v (.int .i64 (n : Int)), .v (.int .i64 s)] [] fun r h => r = .sl 0 2 0 1 ∧ h = [rnB [(n, s)]] := by
  have c1 : ((n : Int) = 0) = False := eq_false (by omega)
  refine Con.keep (r := .sl 1 2 0 1) (h1 := [rnB [(n, s)], rnB [(n, s)]]) (con_run 1000 Tryz.func70 rfl Tryz.results70 Tryz.ntmps70 (Nat.le_of_ble_eq_true rfl) ?_) [1] ?_ ?_ (by decide) ?_
  · simp -implicitDefEqProofs only [go_sem, rnB, c1]
    (repeat' (first | exact trivial | contradiction | exact ⟨_, rfl⟩ | refine And.intro ?_ ?_ | (refine om ?_; omega)  | (refine wait_draw 1000 mixed (by decide +kernel) ?_; simp -implicitDefEqProofs only [go_sem , c1]) | intro _))
    all_goals rfl
  · simp [AV.ren, AV.renId, idxOf]
  · simp [keepB, rnB, Blk.ren, rnL_ren]
  · exact stay_of rfl
theorem add_none (s : Int) : PCon Tryz.prog 70 [.v (.slice none 0 0), .v (.int .i64 0), .v (.int .i64 s)] (· = .v (.slice none 0 0)) := by
  refine pcon_run 1000 Tryz.func70 rfl Tryz.results70 Tryz.ntmps70 (Nat.le_of_ble_eq_true rfl) ?_
  simp -implicitDefEqProofs only [go_sem]
  (repeat' (first | exact trivial | contradiction | exact ⟨_, rfl⟩ | refine And.intro ?_ ?_ | (refine om ?_; omega)  | (refine wait_draw 1000 mixed (by decide +kernel) ?_; simp -implicitDefEqProofs only [go_sem]) | intro _))
end Go.Proofs.YtdgoompjoeffcaaGreat
/- A tape that describes: what the walks tell, in the plain law's words (the walks' own names stand in wip/dw: here they bear a mark). -/
namespace Go.Proofs.YtdgoompjoeffcaaGreat
open Pm
attribute [local irreducible] Wait CallT CallW NextT Le Weak
def addL' (d : List (Nat × Int)) (m : Nat) (t : Int) (n : Nat) (s : Int) : List (Nat × Int) := if n = 0 then d ++ [(m, t)] else if t = s then d ++ [(m + n, t)] else d ++ [(m, t)] ++ [(n, s)]
theorem addL_P (d : List (Nat × Int)) (m : Nat) (t : Int) (n : Nat) (s : Int) : addL' d m t n s = addP (d ++ [(m, t)]) n s := by
  unfold addL' addP
  by_cases h0 : n = 0
  · rw [if_pos h0, if_pos h0]
  rw [if_neg h0, if_neg h0, List.getLast?_append]
  simp only [List.getLast?_singleton, Option.some_or]
  by_cases hs : t = s
  · rw [if_pos hs, if_pos hs, List.dropLast_concat, hs]
  · rw [if_neg hs, if_neg hs]
end Go.Proofs.YtdgoompjoeffcaaGreat
/- A tape that describes: a row's part, cell by cell, as the program goes. -/
namespace Go.Proofs.YtdgoompjoeffcaaGreat
open Pm
attribute [local irreducible] Wait CallT CallW NextT Le Weak
theorem westF_app : ∀ (l m : List (Int × Int)) (L : List (Nat × Int)) (a : Int), westF (l ++ m) L a = westF m (westF l L a).1 (westF l L a).2
  | [], m, L, a => rfl
  | c :: l, m, L, a => by
    rw [List.cons_append]
    simp only [westF]
    split
    · exact westF_app l m _ _
    · exact westF_app l m _ _
theorem westF_stop : ∀ (l : List (Int × Int)) (L : List (Nat × Int)) (a : Int), (∀ c ∈ l, ¬ c.1 < 0) → westF l L a = (L, a)
  | [], L, a, _ => rfl
  | c :: l, L, a, h => by
    simp only [westF]
    rw [if_neg (h c (by simp))]
    exact westF_stop l L a fun c hc => h c (by simp [hc])
/-- The far end. -/
def far0 (l : List (Int × Int)) : Int := (l.getD 0 (0, 0)).1
/-- What is there behind so many cells. -/
def wst (l : List (Int × Int)) (k : Nat) : List (Nat × Int) × Int := westF (l.take k) [] (far0 l)
theorem wst_zero (l : List (Int × Int)) : wst l 0 = ([], far0 l) := rfl
theorem wst_succ (l : List (Int × Int)) (k : Nat) (h : k < l.length) : wst l (k + 1) = if (l.getD k (0, 0)).1 < 0 then (addP (addP (wst l k).1 ((l.getD k (0, 0)).1 - (wst l k).2).toNat 0) 1 (l.getD k (0, 0)).2, (l.getD k (0, 0)).1 + 1) else wst l k := by
  unfold wst
  have e : l.take (k + 1) = l.take k ++ [l.getD k (0, 0)] := by rw [List.take_add_one, List.getD_eq_getElem?_getD, List.getElem?_eq_getElem h]; rfl
  rw [e, westF_app]
  simp only [westF]
theorem wst_all (l : List (Int × Int)) (h : l ≠ []) : westP l = if (wst l l.length).1 = [] then [] else addP (wst l l.length).1 (-(wst l l.length).2).toNat 0 := by
  cases l with
  | nil => exact absurd rfl h
  | cons c l =>
    unfold wst
    rw [List.take_length]
    rfl
theorem get_asc {l : List (Int × Int)} (h : asc l) {i j : Nat} (hij : i < j) (hj : j < l.length) : (l.getD i (0, 0)).1 < (l.getD j (0, 0)).1 := by
  have := List.pairwise_iff_getElem.1 h i j (by omega) hj hij
  rw [List.getD_eq_getElem?_getD, List.getElem?_eq_getElem (by omega), List.getD_eq_getElem?_getD, List.getElem?_eq_getElem hj]
  exact this
theorem far0_le {l : List (Int × Int)} (h : asc l) {c : Int × Int} (hc : c ∈ l) : far0 l ≤ c.1 := by
  obtain ⟨j, hj, rfl⟩ := List.mem_iff_getElem.1 hc
  unfold far0
  by_cases h0 : j = 0
  · subst h0; rw [List.getD_eq_getElem?_getD, List.getElem?_eq_getElem hj]; exact Int.le_refl _
  · have := get_asc h (show 0 < j by omega) hj
    rw [show l.getD j (0, 0) = l[j] by rw [List.getD_eq_getElem?_getD, List.getElem?_eq_getElem hj]; rfl] at this
    omega
theorem canon_bound : ∀ (w : List (Nat × Int)), canon w → w.length ≤ (lineN w).length ∧ ∀ r ∈ w, r.1 ≤ (lineN w).length
  | [], _ => ⟨Nat.le_refl _, fun r h => absurd h (by simp)⟩
  | x :: w, h => by
    obtain ⟨h1, h2⟩ := canon_bound w h.2.2
    have e : (lineN (x :: w)).length = x.1 + (lineN w).length := by
      rw [show x :: w = [x] ++ w from rfl, lineN_app]
      obtain ⟨n, s⟩ := x
      rw [lineN_one, List.length_append, List.length_replicate]
    have := h.1
    refine ⟨by rw [e, List.length_cons]; omega, fun r hr => ?_⟩
    rw [e]
    rcases List.mem_cons.1 hr with rfl | hr
    · omega
    · have := h2 r hr; omega
/-- What is known behind so many cells. -/
theorem wst_spec {l : List (Int × Int)} (h : asc l) {k : Nat} (hk : k ≤ l.length) : far0 l ≤ (wst l k).2 ∧ (far0 l ≤ 0 → (wst l k).2 ≤ 0) ∧ (∀ j, j < k → (l.getD j (0, 0)).1 < 0 → (l.getD j (0, 0)).1 < (wst l k).2) ∧
    (lineN (wst l k).1).length = ((wst l k).2 - far0 l).toNat ∧ canon (wst l k).1 ∧ (0 < k → far0 l < 0 → (wst l k).1 ≠ []) := by
  have ht : asc (l.take k) := List.Pairwise.sublist (List.take_sublist _ _) h
  obtain ⟨h1, h2, h3, h4, h5, h6⟩ := westF_spec (l.take k) [] (far0 l) ht (fun c hc => far0_le h (List.mem_of_mem_take hc))
  refine ⟨h1, h2, fun j hj hn => ?_, ?_, h5 trivial, fun h0 hf => ?_⟩
  · refine h3 _ ?_ hn
    rw [List.getD_eq_getElem?_getD, List.getElem?_eq_getElem (by omega)]
    exact List.mem_take_iff_getElem.2 ⟨j, by omega, rfl⟩
  · show (lineN (westF (l.take k) [] (far0 l)).1).length = _
    rw [h4]
    simp [lineN, wst]
  · cases l with
    | nil => simp only [List.length_nil] at hk; omega
    | cons c l =>
      obtain ⟨m, rfl⟩ : ∃ m, k = m + 1 := ⟨k - 1, by omega⟩
      have hc : c.1 < 0 := hf
      unfold wst
      rw [List.take_succ_cons]
      simp only [westF]
      rw [if_pos hc]
      have ht' : asc (l.take m) := List.Pairwise.sublist (List.take_sublist _ _) (List.pairwise_cons.1 h).2
      exact (westF_spec (l.take m) _ (c.1 + 1) ht' (fun d hd => by have := (List.pairwise_cons.1 h).1 d (List.mem_of_mem_take hd); omega)).2.2.2.2.2 (addP_ne (by decide))
/-- Where nothing is there yet, nothing is left out. -/
theorem wst_gap {l : List (Int × Int)} (h : asc l) {k : Nat} (hk : k < l.length) (hn : (l.getD k (0, 0)).1 < 0) (he : (wst l k).1 = []) : (l.getD k (0, 0)).1 = (wst l k).2 := by
  obtain ⟨h1, h2, h3, h4, h5, h6⟩ := wst_spec h (show k ≤ l.length by omega)
  rw [he] at h4
  simp only [lineN, List.flatMap_nil, List.length_nil] at h4
  by_cases h0 : k = 0
  · subst h0; rfl
  · have hlt := get_asc h (show 0 < k by omega) hk
    exact absurd he (h6 (by omega) (by unfold far0; omega))
theorem wst_le {l : List (Int × Int)} (h : asc l) {k : Nat} (hk : k < l.length) (hn : (l.getD k (0, 0)).1 < 0) : (wst l k).2 ≤ (l.getD k (0, 0)).1 := by
  have ht : ∀ (m : Nat), m ≤ k → (wst l m).2 ≤ (l.getD m (0, 0)).1 := by
    intro m
    induction m with
    | zero => intro _; exact Int.le_refl _
    | succ m ih =>
      intro hm
      have := get_asc h (show m < m + 1 by omega) (show m + 1 < l.length by omega)
      rw [wst_succ l m (by omega)]
      split
      · simp only; omega
      · have := ih (by omega); omega
  exact ht k (Nat.le_refl _)
theorem wst_rest {l : List (Int × Int)} (h : asc l) {k : Nat} (hk : k ≤ l.length) (hs : k = l.length ∨ ¬ (l.getD k (0, 0)).1 < 0) (c : Int × Int) (hc : c ∈ l.drop k) : ¬ c.1 < 0 := by
  rcases hs with hs | hs
  · subst hs; rw [List.drop_length] at hc; cases hc
  obtain ⟨j, hj, rfl⟩ := List.mem_iff_getElem.1 hc
  rw [List.length_drop] at hj
  rw [List.getElem_drop]
  by_cases h0 : j = 0
  · subst h0
    rw [List.getD_eq_getElem?_getD, List.getElem?_eq_getElem (by omega)] at hs
    simpa using hs
  · have := get_asc h (show k < k + j by omega) (by omega)
    rw [show l.getD (k + j) (0, 0) = l[k + j]'(by omega) by rw [List.getD_eq_getElem?_getD, List.getElem?_eq_getElem (by omega)]; rfl] at this
    omega
theorem wst_stop {l : List (Int × Int)} (h : asc l) {k : Nat} (hk : k ≤ l.length) (hs : k = l.length ∨ ¬ (l.getD k (0, 0)).1 < 0) : wst l l.length = wst l k := by
  unfold wst
  rw [List.take_length]
  have key : westF (l.take k ++ l.drop k) [] (far0 l) = westF (l.take k) [] (far0 l) := by
    rw [westF_app, westF_stop]
    intro c hc
    exact wst_rest h hk hs c hc
  rw [List.take_append_drop] at key
  exact key
/-- The middle, cell by cell. -/
def midF (l : List (Int × Int)) (k : Nat) : Int := (l.take k).foldl (fun m c => if c.1 = 0 then c.2 else m) 0
theorem midF_zero (l : List (Int × Int)) : midF l 0 = 0 := rfl
theorem midF_succ (l : List (Int × Int)) (k : Nat) (h : k < l.length) : midF l (k + 1) = if (l.getD k (0, 0)).1 = 0 then (l.getD k (0, 0)).2 else midF l k := by
  unfold midF
  have e : l.take (k + 1) = l.take k ++ [l.getD k (0, 0)] := by rw [List.take_add_one, List.getD_eq_getElem?_getD, List.getElem?_eq_getElem h]; rfl
  rw [e, List.foldl_append]
  rfl
theorem mid_none : ∀ (l : List (Int × Int)) (m : Int), (∀ c ∈ l, c.1 ≠ 0) → l.foldl (fun m c => if c.1 = 0 then c.2 else m) m = m
  | [], _, _ => rfl
  | c :: l, m, h => by
    rw [List.foldl_cons, if_neg (h c (by simp))]
    exact mid_none l m fun d hd => h d (by simp [hd])
theorem mid_nAt : ∀ (l : List (Int × Int)), asc l → l.foldl (fun m c => if c.1 = 0 then c.2 else m) 0 = nAt l 0
  | [], _ => rfl
  | c :: l, h => by
    rw [List.foldl_cons]
    simp only [nAt]
    obtain ⟨h1, h2⟩ := List.pairwise_cons.1 h
    by_cases h0 : c.1 = 0
    · rw [if_pos h0, if_pos h0.symm, mid_none]
      intro d hd
      have := h1 d hd
      omega
    · rw [if_neg h0, if_neg (Ne.symm h0)]
      exact mid_nAt l h2
theorem midF_all {l : List (Int × Int)} (h : asc l) : midF l l.length = nAt l 0 := by
  unfold midF
  rw [List.take_length]
  exact mid_nAt l h
end Go.Proofs.YtdgoompjoeffcaaGreat
