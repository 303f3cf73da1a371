import Derived.Test.YtdgoompjoeffcaaGreatProg
import Derived.Test.YtdgoompjoeffcaaGreatPmY
import Derived.Test.YtdgoompjoeffcaaGreatDwM
import Derived.Test.YtdgoompjoeffcaaGreatDwH
/- A tape that describes: a side of a row, told plainly. -/
set_option linter.unusedSimpArgs false
set_option linter.unusedVariables false
set_option maxRecDepth 20000
open Go Go.Proofs
namespace Go.Proofs.YtdgoompjoeffcaaGreat
open Pm
attribute [local irreducible] Wait CallT CallW NextT Le Weak
theorem digT_P (n : Nat) (s : Int) : digT n s = digP n s := by
  unfold digT digP
  split
  · rfl
  · split <;> rfl
theorem timN_Q (n : Nat) (s : Int) : timN n s = timesP n s := by
  induction n using Nat.strongRecOn with
  | ind n ih =>
    rw [timN, timesP]
    split
    · rw [ih (n - 255) (by omega)]
      rfl
    · rw [digT_P]
theorem runT_C (l : List (Nat × Int)) : runT l = lineC l := by
  unfold runT lineC
  simp only [timN_Q]
theorem times_pc (T : List Int) (n : Nat) (s : Int) (h1 : 1 ≤ n) (h2 : n < 1000000000) (hT : T.length < 1000000000) :
    Con Tryz.prog 17 [.ptr 0 1 0 0, .v (.int .i64 (n : Int)), .v (.int .i64 s)] [wrB 1 T.length, tpB T] fun r h => r = .tup [] ∧ h = [wrB 2 (T ++ timesP n s).length, none, tpB (T ++ timesP n s)] := by
  rw [← timN_Q]
  exact times_pcon T n s h1 h2 hT
theorem side_nil (T : List Int) (tu ba : Int) (hT : T.length < 100000000) :
    Con Tryz.prog 40 [.ptr 0 1 0 0, .v (.int .i64 tu), .v (.int .i64 ba), nilA] [wrB 1 T.length, tpB T] fun r h => r = .tup [] ∧ h = [wrB 1 T.length, tpB T, boxB] := by
  refine con_run 1000 Tryz.func40 rfl Tryz.results40 Tryz.ntmps40 (Nat.le_of_ble_eq_true rfl) ?_
  simp -implicitDefEqProofs only [go_sem, tpB, wrB, nilA, boxB]
/-- A side is written. -/
theorem side_pc (T : List Int) (l : List (Nat × Int)) (tu ba : Int) (hT : T.length < 100000000) (h1 : l.length < 1000000) (h2 : lineLen l < 100000000) (hr : ∀ r ∈ l, 1 ≤ r.1 ∧ r.1 < 100000000 ∧ 0 ≤ r.2 ∧ r.2 < 1000000) :
    Con Tryz.prog 40 [.ptr 0 1 0 0, .v (.int .i64 tu), .v (.int .i64 ba), lnA l] [wrB 1 T.length, tpB T] fun r h => r = .tup [] ∧ h = [wrB 2 (T ++ sideC tu ba l).length, none, tpB (T ++ sideC tu ba l)] := by
  by_cases hl : l = []
  · subst hl
    rw [show sideC tu ba [] = [] from rfl, List.append_nil]
    refine Con.move (Con.mono (side_nil T tu ba hT) fun r h => ?_)
    rintro ⟨rfl, rfl⟩
    refine ⟨[0, 100, 1], by decide, by simp [stayB, List.range_succ], by simp [AV.ren, AV.renL], ?_⟩
    simp only [List.map_cons, List.map_nil, keepB, tpB, wrB, boxB, Blk.ren, zl_ren]
    simp [AV.renL, AV.ren, AV.renId, idxOf, zl_ren]
  · have e : lnA l = .fsl 2 (rnL l) := if_neg hl
    rw [e]
    refine Con.move (Con.mono (side_con T l tu ba hl hT h1 h2 hr) fun r h => ?_)
    have ex : T ++ [tu] ++ timN (runSum l) 5 ++ runT l ++ [ba] = T ++ sideC tu ba l := by
      unfold sideC
      rw [if_neg hl, runT_C, timN_Q]
      simp [runSum, lineLen, List.append_assoc]
    rw [ex]
    generalize T ++ sideC tu ba l = X
    rintro ⟨rfl, b, ha, hb, hz⟩
    have hlt : b < h.length := (List.getElem?_eq_some_iff.1 hb).1
    have hnone : h[h.length + 1]? = none := List.getElem?_eq_none (by omega)
    have hb1 : ¬ b = 0 := by omega
    have hb2 : ¬ b = h.length + 1 := by omega
    refine ⟨[0, h.length + 1, b], by simp; omega, ?_, ?_, ?_⟩
    · simp [stayB, List.range_succ]
    · simp [AV.ren, AV.renL]
    · simp only [List.map_cons, List.map_nil, keepB, ha, hb, hnone, tpB, wrB, Blk.ren, zl_ren]
      simp [AV.renL, AV.ren, AV.renId, idxOf, hb1, hb2]
end Go.Proofs.YtdgoompjoeffcaaGreat
/- A tape that describes: the rows are written. -/
namespace Go.Proofs.YtdgoompjoeffcaaGreat
open Pm
attribute [local irreducible] Wait CallT CallW NextT Le Weak
def rwA (r : Rw) : AV := .agg [lnA r.west, lnA r.east, .v (.int .i64 r.mid)]
theorem lnA_ren (f : Nat → Option Nat) (w : List (Nat × Int)) : (lnA w).ren f = lnA w := by
  unfold lnA nilA
  split
  · rfl
  · simp -implicitDefEqProofs only [go_sem]
theorem rwA_ren (f : Nat → Option Nat) (r : Rw) : (rwA r).ren f = rwA r := by
  unfold rwA
  simp -implicitDefEqProofs only [go_sem, lnA_ren]
theorem rwL_ren (f : Nat → Option Nat) (l : List Rw) : AV.renL f (l.map rwA) = l.map rwA := by
  rw [AV.renL_eq, List.map_map]
  exact List.map_congr_left fun b _ => rwA_ren f b
theorem rwL_get (l : List Rw) (k : Nat) (h : k < l.length) : (l.map rwA).getD k .junk = .agg [lnA (l.getD k ⟨[], [], 0⟩).west, lnA (l.getD k ⟨[], [], 0⟩).east, .v (.int .i64 (l.getD k ⟨[], [], 0⟩).mid)] := by
  simp [rwA, List.getD_eq_getElem?_getD, h]
theorem rwL_len (l : List Rw) : (l.map rwA).length = l.length := by simp
theorem lnA_nil : lnA [] = .v (.slice none 0 0) := rfl
theorem lnA_ne {w : List (Nat × Int)} (h : w ≠ []) : lnA w = .fsl 2 (rnL w) := if_neg h
attribute [go_sem] lnA_ren rwA_ren rwL_ren rwL_len
def bareW (m : Int) (s : Rw) : Bool := !sided s && s.mid == m
theorem tw_len (p : Rw → Bool) : ∀ (l : List Rw) (k : Nat), k ≤ l.length → (∀ j, j < k → p (l.getD j ⟨[], [], 0⟩) = true) → (k = l.length ∨ p (l.getD k ⟨[], [], 0⟩) = false) → (l.takeWhile p).length = k
  | [], k, h, _, _ => by simp at h; subst h; rfl
  | a :: l, 0, _, _, h => by
    rcases h with h | h
    · simp at h
    · have : p a = false := h
      rw [List.takeWhile_cons, this]
      rfl
  | a :: l, k + 1, h, h1, h2 => by
    have h0 : p a = true := h1 0 (by omega)
    rw [List.takeWhile_cons, h0]
    simp only [if_true, List.length_cons]
    rw [tw_len p l k (by simpa using h) (fun j hj => h1 (j + 1) (by omega)) (by simpa using h2)]
def grpC (l : List Rw) : List Int := (grpF l).flatMap Gp.code
theorem grpC_one {r : Rw} {l : List Rw} (h : sided r = true) : grpC (r :: l) = rowC r ++ grpC l := by
  unfold grpC
  rw [grpF, if_pos h, List.flatMap_cons]
  rfl
theorem grpC_mid {r : Rw} {l : List Rw} {k : Nat} (h : sided r = false) (hk : (l.takeWhile (bareW r.mid)).length = k) : grpC (r :: l) = timesP (1 + k) (24 + r.mid) ++ grpC (l.drop k) := by
  unfold grpC
  rw [grpF, if_neg (by rw [h]; decide), List.flatMap_cons]
  have : (l.takeWhile fun s => !sided s && s.mid == r.mid).length = k := hk
  rw [this]
  rfl
theorem drop_get (l : List Rw) (i : Nat) (h : i < l.length) : l.drop i = l.getD i ⟨[], [], 0⟩ :: l.drop (i + 1) := by
  rw [List.getD_eq_getElem?_getD, List.getElem?_eq_getElem h]
  exact List.drop_eq_getElem_cons h
def drwS (l : List Rw) (x : Nat × List Int) : St := ⟨87, 2, [(0, .ptr 0 1 0 0), (1, .fsl 3 (l.map rwA)), (4, .v (.int .i64 (x.1 : Int)))], [wrB 2 x.2.length, none, tpB x.2]⟩
set_option maxHeartbeats 4000000 in
theorem rows_con (T : List Int) (l : List Rw) (hT : (T ++ grpC l).length < 90000000) (hl : l.length < 1000000) (hr : ∀ r ∈ l, r.west.length < 1000000 ∧ r.east.length < 1000000 ∧ lineLen r.west < 10000000 ∧ lineLen r.east < 10000000 ∧ (∀ x ∈ r.west, 1 ≤ x.1 ∧ x.1 < 10000000 ∧ 0 ≤ x.2 ∧ x.2 < 1000000) ∧ (∀ x ∈ r.east, 1 ≤ x.1 ∧ x.1 < 10000000 ∧ 0 ≤ x.2 ∧ x.2 < 1000000) ∧ 0 ≤ r.mid ∧ r.mid < 1000000) :
    Con Tryz.prog 18 [.ptr 0 1 0 0, .fsl 3 (l.map rwA)] [wrB 1 T.length, tpB T] fun r h => r = .tup [] ∧ h = [wrB 2 (T ++ grpC l).length, none, tpB (T ++ grpC l)] := by
  refine con_run 1000 Tryz.func18 rfl Tryz.results18 Tryz.ntmps18 (Nat.le_of_ble_eq_true rfl) ?_
  simp -implicitDefEqProofs only [go_sem, wrB, tpB]
  refine wait_data (drwS l) (fun x => x.1 ≤ l.length ∧ x.2 ++ grpC (l.drop x.1) = T ++ grpC l) (fun x => l.length - x.1) (0, T) (weak_to' [0, 1, 4] [0, 100, 1] ?_ (by decide) (stay_of rfl)) ⟨Nat.zero_le _, by rw [List.drop_zero]⟩ ?_
  · simp -implicitDefEqProofs only [go_sem, St.keep, drwS, tpB, wrB, Int.natCast_zero]
  rintro ⟨i, T'⟩ ⟨hi, hX⟩
  simp only at hi hX
  refine run_sound 1000 _ _ ?_
  by_cases hil : i < l.length
  · have hd := drop_get l i hil
    have ga := rwL_get l i hil
    have hm : l.getD i ⟨[], [], 0⟩ ∈ l := by rw [List.getD_eq_getElem?_getD, List.getElem?_eq_getElem hil]; exact List.getElem_mem hil
    have hb := hr _ hm
    have h1 : ((i : Int) < (l.length : Int)) = True := eq_true (by omega)
    have h2 : (i < l.length) = True := eq_true hil
    have hlen : (T' ++ grpC (l.drop i)).length < 90000000 := by rw [hX]; exact hT
    rw [hd] at hX hlen
    by_cases hs : sided (l.getD i ⟨[], [], 0⟩) = true
    · rw [grpC_one hs, rowC] at hX hlen
      generalize l.getD i ⟨[], [], 0⟩ = r at ga hb hs hX hlen
      obtain ⟨w, e, m⟩ := r
      simp only at ga hb hX hlen
      obtain ⟨b1, b2, b3, b4, b5, b6, b7, b8⟩ := hb
      simp only [List.length_append] at hlen
      have s1 := side_pc T' w 6 7 (by omega) b1 (by omega) (fun x hx => by have := b5 x hx; omega)
      have s2 := side_pc (T' ++ sideC 6 7 w) e 7 6 (by simp only [List.length_append]; omega) b2 (by omega) (fun x hx => by have := b6 x hx; omega)
      have s3 := times_pc (T' ++ sideC 6 7 w ++ sideC 7 6 e) 1 (24 + m) (by decide) (by decide) (by simp only [List.length_append]; omega)
      rw [show ((1 : Nat) : Int) = 1 from rfl] at s3
      obtain ⟨T1, hT1⟩ : ∃ T1, T1 = T' ++ sideC 6 7 w := ⟨_, rfl⟩
      rw [← hT1] at s1 s2 s3
      obtain ⟨T2, hT2⟩ : ∃ T2, T2 = T1 ++ sideC 7 6 e := ⟨_, rfl⟩
      rw [← hT2] at s2 s3
      obtain ⟨T3, hT3⟩ : ∃ T3, T3 = T2 ++ timesP 1 (24 + m) := ⟨_, rfl⟩
      rw [← hT3] at s3
      have hX3 : T3 ++ grpC (l.drop (i + 1)) = T ++ grpC l := by rw [← hX, hT3, hT2, hT1]; simp only [List.append_assoc]
      have hw1 : IntKind.i64.wrap ((i : Int) + 1) = ((i + 1 : Nat) : Int) := by rw [wrapN (by omega) (by omega)]; omega
      have hw2 : IntKind.i64.wrap (24 + m) = 24 + m := wrap64 (by omega) (by omega)
      have hw3 : IntKind.i64.wrap ((w.length : Int) + (e.length : Int)) = ((w.length + e.length : Nat) : Int) := by rw [wrapN (by omega) (by omega)]; omega
      have hw4 : IntKind.i64.wrap ((w.length : Int)) = (w.length : Int) := wrapN (by omega) (by omega)
      have hw5 : IntKind.i64.wrap ((e.length : Int)) = (e.length : Int) := wrapN (by omega) (by omega)
      have hcase : (w = [] ∧ e ≠ []) ∨ (w ≠ [] ∧ e = []) ∨ (w ≠ [] ∧ e ≠ []) := by
        by_cases hw : w = [] <;> by_cases he : e = []
        · subst hw he; simp [sided] at hs
        · exact .inl ⟨hw, he⟩
        · exact .inr (.inl ⟨hw, he⟩)
        · exact .inr (.inr ⟨hw, he⟩)
      unfold tpB wrB at s1 s2 s3
      unfold drwS
      clear hT1 hT2 hT3 hX
      rcases hcase with ⟨hw, he⟩ | ⟨hw, he⟩ | ⟨hw, he⟩
      focus
        subst hw
        rw [lnA_nil] at ga s1
        rw [lnA_ne he] at ga s2
        have p0 : ((0 : Int) < (e.length : Int)) = True := eq_true (by have := List.length_pos_iff.2 he; omega)
        simp -implicitDefEqProofs only [go_sem, wrB, tpB, h1, h2, ga, p0, hw3, hw4, hw5, Int.zero_add, Int.add_zero]
        (repeat' (first | exact trivial | contradiction | exact ⟨_, rfl⟩ | refine And.intro ?_ ?_ | (refine om ?_; omega) | (refine wait_draw 1000 mixed (by decide +kernel) ?_; simp -implicitDefEqProofs only [go_sem, h1, h2, ga, p0, hw1, hw2, hw3, hw4, hw5, Int.zero_add, Int.add_zero]) | ((first | refine call_con_eq 1000 [0, 2] (s1) ?_ ?_ ?_ | refine call_draw_con 1000 [0, 2] (s1) (by decide +kernel) ?_ ?_ ?_); (focus (simp -implicitDefEqProofs only [go_sem, h1, h2, ga, p0, hw1, hw2, hw3, hw4, hw5, Int.zero_add, Int.add_zero]; done)); (focus (simp -implicitDefEqProofs only [go_sem, h1, h2, ga, p0, hw1, hw2, hw3, hw4, hw5, Int.zero_add, Int.add_zero]; done)); simp -implicitDefEqProofs only [go_sem, h1, h2, ga, p0, hw1, hw2, hw3, hw4, hw5, Int.zero_add, Int.add_zero]) | ((first | refine call_con_eq 1000 [0, 4] (s2) ?_ ?_ ?_ | refine call_draw_con 1000 [0, 4] (s2) (by decide +kernel) ?_ ?_ ?_); (focus (simp -implicitDefEqProofs only [go_sem, h1, h2, ga, p0, hw1, hw2, hw3, hw4, hw5, Int.zero_add, Int.add_zero]; done)); (focus (simp -implicitDefEqProofs only [go_sem, h1, h2, ga, p0, hw1, hw2, hw3, hw4, hw5, Int.zero_add, Int.add_zero]; done)); simp -implicitDefEqProofs only [go_sem, h1, h2, ga, p0, hw1, hw2, hw3, hw4, hw5, Int.zero_add, Int.add_zero]) | ((first | refine call_con_eq 1000 [0, 5] (s3) ?_ ?_ ?_ | refine call_draw_con 1000 [0, 5] (s3) (by decide +kernel) ?_ ?_ ?_); (focus (simp -implicitDefEqProofs only [go_sem, h1, h2, ga, p0, hw1, hw2, hw3, hw4, hw5, Int.zero_add, Int.add_zero]; done)); (focus (simp -implicitDefEqProofs only [go_sem, h1, h2, ga, p0, hw1, hw2, hw3, hw4, hw5, Int.zero_add, Int.add_zero]; done)); simp -implicitDefEqProofs only [go_sem, h1, h2, ga, p0, hw1, hw2, hw3, hw4, hw5, Int.zero_add, Int.add_zero]) | intro _))
        all_goals
          refine ⟨(i + 1, T3), by simp only; omega, ⟨by simp only; omega, hX3⟩, weak_to' [0, 1, 4] [0, 100, 6] ?_ (by decide) (stay_of rfl)⟩
          simp -implicitDefEqProofs only [go_sem, St.keep, drwS, wrB, tpB, hw1]
      focus
        subst he
        rw [lnA_ne hw] at ga s1
        rw [lnA_nil] at ga s2
        have p0 : ((0 : Int) < (w.length : Int)) = True := eq_true (by have := List.length_pos_iff.2 hw; omega)
        simp -implicitDefEqProofs only [go_sem, wrB, tpB, h1, h2, ga, p0, hw3, hw4, hw5, Int.zero_add, Int.add_zero]
        (repeat' (first | exact trivial | contradiction | exact ⟨_, rfl⟩ | refine And.intro ?_ ?_ | (refine om ?_; omega) | (refine wait_draw 1000 mixed (by decide +kernel) ?_; simp -implicitDefEqProofs only [go_sem, h1, h2, ga, p0, hw1, hw2, hw3, hw4, hw5, Int.zero_add, Int.add_zero]) | ((first | refine call_con_eq 1000 [0, 2] (s1) ?_ ?_ ?_ | refine call_draw_con 1000 [0, 2] (s1) (by decide +kernel) ?_ ?_ ?_); (focus (simp -implicitDefEqProofs only [go_sem, h1, h2, ga, p0, hw1, hw2, hw3, hw4, hw5, Int.zero_add, Int.add_zero]; done)); (focus (simp -implicitDefEqProofs only [go_sem, h1, h2, ga, p0, hw1, hw2, hw3, hw4, hw5, Int.zero_add, Int.add_zero]; done)); simp -implicitDefEqProofs only [go_sem, h1, h2, ga, p0, hw1, hw2, hw3, hw4, hw5, Int.zero_add, Int.add_zero]) | ((first | refine call_con_eq 1000 [0, 4] (s2) ?_ ?_ ?_ | refine call_draw_con 1000 [0, 4] (s2) (by decide +kernel) ?_ ?_ ?_); (focus (simp -implicitDefEqProofs only [go_sem, h1, h2, ga, p0, hw1, hw2, hw3, hw4, hw5, Int.zero_add, Int.add_zero]; done)); (focus (simp -implicitDefEqProofs only [go_sem, h1, h2, ga, p0, hw1, hw2, hw3, hw4, hw5, Int.zero_add, Int.add_zero]; done)); simp -implicitDefEqProofs only [go_sem, h1, h2, ga, p0, hw1, hw2, hw3, hw4, hw5, Int.zero_add, Int.add_zero]) | ((first | refine call_con_eq 1000 [0, 5] (s3) ?_ ?_ ?_ | refine call_draw_con 1000 [0, 5] (s3) (by decide +kernel) ?_ ?_ ?_); (focus (simp -implicitDefEqProofs only [go_sem, h1, h2, ga, p0, hw1, hw2, hw3, hw4, hw5, Int.zero_add, Int.add_zero]; done)); (focus (simp -implicitDefEqProofs only [go_sem, h1, h2, ga, p0, hw1, hw2, hw3, hw4, hw5, Int.zero_add, Int.add_zero]; done)); simp -implicitDefEqProofs only [go_sem, h1, h2, ga, p0, hw1, hw2, hw3, hw4, hw5, Int.zero_add, Int.add_zero]) | intro _))
        all_goals
          refine ⟨(i + 1, T3), by simp only; omega, ⟨by simp only; omega, hX3⟩, weak_to' [0, 1, 4] [0, 100, 6] ?_ (by decide) (stay_of rfl)⟩
          simp -implicitDefEqProofs only [go_sem, St.keep, drwS, wrB, tpB, hw1]
      focus
        rw [lnA_ne hw] at ga s1
        rw [lnA_ne he] at ga s2
        have p0 : ((0 : Int) < ((w.length + e.length : Nat) : Int)) = True := eq_true (by have := List.length_pos_iff.2 hw; omega)
        simp -implicitDefEqProofs only [go_sem, wrB, tpB, h1, h2, ga, p0, hw3, hw4, hw5, Int.zero_add, Int.add_zero]
        (repeat' (first | exact trivial | contradiction | exact ⟨_, rfl⟩ | refine And.intro ?_ ?_ | (refine om ?_; omega) | (refine wait_draw 1000 mixed (by decide +kernel) ?_; simp -implicitDefEqProofs only [go_sem, h1, h2, ga, p0, hw1, hw2, hw3, hw4, hw5, Int.zero_add, Int.add_zero]) | ((first | refine call_con_eq 1000 [0, 2] (s1) ?_ ?_ ?_ | refine call_draw_con 1000 [0, 2] (s1) (by decide +kernel) ?_ ?_ ?_); (focus (simp -implicitDefEqProofs only [go_sem, h1, h2, ga, p0, hw1, hw2, hw3, hw4, hw5, Int.zero_add, Int.add_zero]; done)); (focus (simp -implicitDefEqProofs only [go_sem, h1, h2, ga, p0, hw1, hw2, hw3, hw4, hw5, Int.zero_add, Int.add_zero]; done)); simp -implicitDefEqProofs only [go_sem, h1, h2, ga, p0, hw1, hw2, hw3, hw4, hw5, Int.zero_add, Int.add_zero]) | ((first | refine call_con_eq 1000 [0, 4] (s2) ?_ ?_ ?_ | refine call_draw_con 1000 [0, 4] (s2) (by decide +kernel) ?_ ?_ ?_); (focus (simp -implicitDefEqProofs only [go_sem, h1, h2, ga, p0, hw1, hw2, hw3, hw4, hw5, Int.zero_add, Int.add_zero]; done)); (focus (simp -implicitDefEqProofs only [go_sem, h1, h2, ga, p0, hw1, hw2, hw3, hw4, hw5, Int.zero_add, Int.add_zero]; done)); simp -implicitDefEqProofs only [go_sem, h1, h2, ga, p0, hw1, hw2, hw3, hw4, hw5, Int.zero_add, Int.add_zero]) | ((first | refine call_con_eq 1000 [0, 5] (s3) ?_ ?_ ?_ | refine call_draw_con 1000 [0, 5] (s3) (by decide +kernel) ?_ ?_ ?_); (focus (simp -implicitDefEqProofs only [go_sem, h1, h2, ga, p0, hw1, hw2, hw3, hw4, hw5, Int.zero_add, Int.add_zero]; done)); (focus (simp -implicitDefEqProofs only [go_sem, h1, h2, ga, p0, hw1, hw2, hw3, hw4, hw5, Int.zero_add, Int.add_zero]; done)); simp -implicitDefEqProofs only [go_sem, h1, h2, ga, p0, hw1, hw2, hw3, hw4, hw5, Int.zero_add, Int.add_zero]) | intro _))
        all_goals
          refine ⟨(i + 1, T3), by simp only; omega, ⟨by simp only; omega, hX3⟩, weak_to' [0, 1, 4] [0, 100, 6] ?_ (by decide) (stay_of rfl)⟩
          simp -implicitDefEqProofs only [go_sem, St.keep, drwS, wrB, tpB, hw1]
    · have hs0 : sided (l.getD i ⟨[], [], 0⟩) = false := by simpa using hs
      have hbr := bare_eq hs0
      have hX2 : ∀ k, ((l.drop (i + 1)).takeWhile (bareW (l.getD i ⟨[], [], 0⟩).mid)).length = k → T' ++ timesP (1 + k) (24 + (l.getD i ⟨[], [], 0⟩).mid) ++ grpC (l.drop (i + 1 + k)) = T ++ grpC l := fun k hk => by
        rw [← hX, grpC_mid hs0 hk, List.drop_drop, List.append_assoc]
      have hT1 : T'.length < 90000000 := by rw [List.length_append] at hlen; omega
      generalize l.getD i ⟨[], [], 0⟩ = r at ga hb hbr hX2
      obtain ⟨w, e, m⟩ := r
      obtain ⟨b1, b2, b3, b4, b5, b6, b7, b8⟩ := hb
      simp only [Rw.mk.injEq, and_true] at hbr
      obtain ⟨rfl, rfl⟩ := hbr
      simp only at ga hX2 b7 b8
      rw [lnA_nil] at ga
      clear hX hlen hs hs0
      unfold drwS
      simp -implicitDefEqProofs only [go_sem, wrB, tpB, h1, h2, ga]
      refine wait_range (l.length - i - 1) (fun k => ⟨87, 2, [(0, .ptr 0 1 0 0), (1, .fsl 3 (l.map rwA)), (4, .v (.int .i64 (i : Int))), (5, .ptr 3 3 0 0), (6, .v (.int .i64 ((k + 1 : Nat) : Int)))], [wrB 2 T'.length, none, tpB T', some (.row 93 3 [.agg [.v (.slice none 0 0), .v (.slice none 0 0), .v (.int .i64 m)]])]⟩)
        (fun k => ∀ j, j < k → bareW m (l.getD (i + 1 + j) ⟨[], [], 0⟩) = true) (weak_to' [0, 1, 4, 5, 6] [0, 1, 2, 3] ?_ (by decide) (stay_of rfl)) (fun j hj => by omega) ?_
      · simp -implicitDefEqProofs only [go_sem, St.keep, wrB, tpB]
      intro k hk hG
      refine run_sound 1000 _ _ ?_
      have q0 : IntKind.i64.wrap ((i : Int) + ((k + 1 : Nat) : Int)) = ((i + 1 + k : Nat) : Int) := by rw [wrapN (by omega) (by omega)]; omega
      have q1 : IntKind.i64.wrap (((k + 1 : Nat) : Int) + 1) = ((k + 1 + 1 : Nat) : Int) := by rw [wrapN (by omega) (by omega)]; omega
      have q2 : IntKind.i64.wrap (24 + m) = 24 + m := wrap64 (by omega) (by omega)
      have s3 := times_pc T' (1 + k) (24 + m) (by omega) (by omega) (by omega)
      rw [show ((1 + k : Nat) : Int) = ((k + 1 : Nat) : Int) by omega] at s3
      unfold tpB wrB at s3
      have hexit : (i + 1 + k = l.length ∨ bareW m (l.getD (i + 1 + k) ⟨[], [], 0⟩) = false) → T' ++ timesP (1 + k) (24 + m) ++ grpC (l.drop (i + 1 + k)) = T ++ grpC l := fun h => by
        refine hX2 k (tw_len _ _ k (by rw [List.length_drop]; omega) (fun j hj => ?_) ?_)
        · have := hG j hj
          rw [List.getD_eq_getElem?_getD, List.getElem?_drop, ← List.getD_eq_getElem?_getD]
          exact this
        · rcases h with h | h
          · exact .inl (by rw [List.length_drop]; omega)
          · refine .inr ?_
            rw [List.getD_eq_getElem?_getD, List.getElem?_drop, ← List.getD_eq_getElem?_getD]
            exact h
      by_cases hkl : i + 1 + k < l.length
      · have k1 : (((i + 1 + k : Nat) : Int) < (l.length : Int)) = True := eq_true (by omega)
        have k2 : (i + 1 + k < l.length) = True := eq_true hkl
        have gk := rwL_get l (i + 1 + k) hkl
        have hmk : l.getD (i + 1 + k) ⟨[], [], 0⟩ ∈ l := by rw [List.getD_eq_getElem?_getD, List.getElem?_eq_getElem hkl]; exact List.getElem_mem hkl
        have hbk := hr _ hmk
        have hGk : bareW m (l.getD (i + 1 + k) ⟨[], [], 0⟩) = true → ∀ j, j < k + 1 → bareW m (l.getD (i + 1 + j) ⟨[], [], 0⟩) = true := fun h j hj => by
          by_cases hjk : j = k
          · subst hjk; exact h
          · exact hG j (by omega)
        generalize l.getD (i + 1 + k) ⟨[], [], 0⟩ = r' at gk hbk hexit hGk
        obtain ⟨w, e, m'⟩ := r'
        simp only at gk
        have q3 : IntKind.i64.wrap ((w.length : Int) + (e.length : Int)) = ((w.length + e.length : Nat) : Int) := by have := hbk.1; have := hbk.2.1; simp only at *; rw [wrapN (by omega) (by omega)]; omega
        have q4 : IntKind.i64.wrap ((w.length : Int)) = (w.length : Int) := by have := hbk.1; simp only at *; exact wrapN (by omega) (by omega)
        have q5 : IntKind.i64.wrap ((e.length : Int)) = (e.length : Int) := by have := hbk.2.1; simp only at *; exact wrapN (by omega) (by omega)
        by_cases hw : w = [] <;> by_cases he : e = []
        focus
          subst hw he
          rw [lnA_nil] at gk
          by_cases hmm : m' = m
          · subst hmm
            have hG' := hGk (by simp [bareW, sided])
            have k3 : (m' == m') = true := by simp
            simp -implicitDefEqProofs only [go_sem, wrB, tpB, k1, k2, gk, q0, q1, k3]
            (repeat' (first | exact trivial | contradiction | exact ⟨_, rfl⟩ | refine And.intro ?_ ?_ | (refine om ?_; omega)  | (refine wait_draw 1000 mixed (by decide +kernel) ?_; simp -implicitDefEqProofs only [go_sem , k1, k2, gk, q0, q1, k3]) | intro _))
            all_goals
              first
                | exact hG' _ (by assumption)
                | (refine weak_to' [0, 1, 4, 5, 6] [0, 1, 2, 3] ?_ (by decide) (stay_of rfl)
                   simp -implicitDefEqProofs only [go_sem, St.keep, q1]
                   done)
          · have hX3 := hexit (.inr (by simp [bareW, hmm]))
            have k3 : (m' == m) = false := beq_false_of_ne hmm
            simp -implicitDefEqProofs only [go_sem, wrB, tpB, k1, k2, gk, q0, q2, k3]
            (repeat' (first | exact trivial | contradiction | exact ⟨_, rfl⟩ | refine And.intro ?_ ?_ | (refine om ?_; omega) | (refine wait_draw 1000 mixed (by decide +kernel) ?_; simp -implicitDefEqProofs only [go_sem, k1, k2, gk, q0, q2, k3]) | ((first | refine call_con_eq 1000 [0, 2] (s3) ?_ ?_ ?_ | refine call_draw_con 1000 [0, 2] (s3) (by decide +kernel) ?_ ?_ ?_); (focus (simp -implicitDefEqProofs only [go_sem, k1, k2, gk, q0, q2, k3]; done)); (focus (simp -implicitDefEqProofs only [go_sem, k1, k2, gk, q0, q2, k3]; done)); simp -implicitDefEqProofs only [go_sem, k1, k2, gk, q0, q2, k3]) | intro _))
            all_goals
              refine ⟨(i + 1 + k, T' ++ timesP (1 + k) (24 + m)), by simp only; omega, ⟨by simp only; omega, hX3⟩, weak_to' [0, 1, 4] [0, 100, 4] ?_ (by decide) (stay_of rfl)⟩
              simp -implicitDefEqProofs only [go_sem, St.keep, drwS, wrB, tpB, k1, k2, gk, q0, q2, k3]
        focus
          subst hw
          rw [lnA_nil, lnA_ne he] at gk
          have hX3 := hexit (.inr (by simp [bareW, sided, he]))
          have k3 : ((e.length : Int) == 0) = false := beq_false_of_ne (by have := List.length_pos_iff.2 he; omega)
          simp -implicitDefEqProofs only [go_sem, wrB, tpB, k1, k2, gk, q0, q2, q3, q4, q5, Int.zero_add, Int.add_zero, k3]
          (repeat' (first | exact trivial | contradiction | exact ⟨_, rfl⟩ | refine And.intro ?_ ?_ | (refine om ?_; omega) | (refine wait_draw 1000 mixed (by decide +kernel) ?_; simp -implicitDefEqProofs only [go_sem, k1, k2, gk, q0, q2, q3, q4, q5, Int.zero_add, Int.add_zero, k3]) | ((first | refine call_con_eq 1000 [0, 2] (s3) ?_ ?_ ?_ | refine call_draw_con 1000 [0, 2] (s3) (by decide +kernel) ?_ ?_ ?_); (focus (simp -implicitDefEqProofs only [go_sem, k1, k2, gk, q0, q2, q3, q4, q5, Int.zero_add, Int.add_zero, k3]; done)); (focus (simp -implicitDefEqProofs only [go_sem, k1, k2, gk, q0, q2, q3, q4, q5, Int.zero_add, Int.add_zero, k3]; done)); simp -implicitDefEqProofs only [go_sem, k1, k2, gk, q0, q2, q3, q4, q5, Int.zero_add, Int.add_zero, k3]) | intro _))
          all_goals
            refine ⟨(i + 1 + k, T' ++ timesP (1 + k) (24 + m)), by simp only; omega, ⟨by simp only; omega, hX3⟩, weak_to' [0, 1, 4] [0, 100, 4] ?_ (by decide) (stay_of rfl)⟩
            simp -implicitDefEqProofs only [go_sem, St.keep, drwS, wrB, tpB, k1, k2, gk, q0, q2, q3, q4, q5, Int.zero_add, Int.add_zero, k3]
        focus
          subst he
          rw [lnA_ne hw, lnA_nil] at gk
          have hX3 := hexit (.inr (by simp [bareW, sided, hw]))
          have k3 : ((w.length : Int) == 0) = false := beq_false_of_ne (by have := List.length_pos_iff.2 hw; omega)
          simp -implicitDefEqProofs only [go_sem, wrB, tpB, k1, k2, gk, q0, q2, q3, q4, q5, Int.zero_add, Int.add_zero, k3]
          (repeat' (first | exact trivial | contradiction | exact ⟨_, rfl⟩ | refine And.intro ?_ ?_ | (refine om ?_; omega) | (refine wait_draw 1000 mixed (by decide +kernel) ?_; simp -implicitDefEqProofs only [go_sem, k1, k2, gk, q0, q2, q3, q4, q5, Int.zero_add, Int.add_zero, k3]) | ((first | refine call_con_eq 1000 [0, 2] (s3) ?_ ?_ ?_ | refine call_draw_con 1000 [0, 2] (s3) (by decide +kernel) ?_ ?_ ?_); (focus (simp -implicitDefEqProofs only [go_sem, k1, k2, gk, q0, q2, q3, q4, q5, Int.zero_add, Int.add_zero, k3]; done)); (focus (simp -implicitDefEqProofs only [go_sem, k1, k2, gk, q0, q2, q3, q4, q5, Int.zero_add, Int.add_zero, k3]; done)); simp -implicitDefEqProofs only [go_sem, k1, k2, gk, q0, q2, q3, q4, q5, Int.zero_add, Int.add_zero, k3]) | intro _))
          all_goals
            refine ⟨(i + 1 + k, T' ++ timesP (1 + k) (24 + m)), by simp only; omega, ⟨by simp only; omega, hX3⟩, weak_to' [0, 1, 4] [0, 100, 4] ?_ (by decide) (stay_of rfl)⟩
            simp -implicitDefEqProofs only [go_sem, St.keep, drwS, wrB, tpB, k1, k2, gk, q0, q2, q3, q4, q5, Int.zero_add, Int.add_zero, k3]
        focus
          rw [lnA_ne hw, lnA_ne he] at gk
          have hX3 := hexit (.inr (by simp [bareW, sided, hw]))
          have k3 : (((w.length + e.length : Nat) : Int) == 0) = false := beq_false_of_ne (by have := List.length_pos_iff.2 hw; omega)
          simp -implicitDefEqProofs only [go_sem, wrB, tpB, k1, k2, gk, q0, q2, q3, q4, q5, Int.zero_add, Int.add_zero, k3]
          (repeat' (first | exact trivial | contradiction | exact ⟨_, rfl⟩ | refine And.intro ?_ ?_ | (refine om ?_; omega) | (refine wait_draw 1000 mixed (by decide +kernel) ?_; simp -implicitDefEqProofs only [go_sem, k1, k2, gk, q0, q2, q3, q4, q5, Int.zero_add, Int.add_zero, k3]) | ((first | refine call_con_eq 1000 [0, 2] (s3) ?_ ?_ ?_ | refine call_draw_con 1000 [0, 2] (s3) (by decide +kernel) ?_ ?_ ?_); (focus (simp -implicitDefEqProofs only [go_sem, k1, k2, gk, q0, q2, q3, q4, q5, Int.zero_add, Int.add_zero, k3]; done)); (focus (simp -implicitDefEqProofs only [go_sem, k1, k2, gk, q0, q2, q3, q4, q5, Int.zero_add, Int.add_zero, k3]; done)); simp -implicitDefEqProofs only [go_sem, k1, k2, gk, q0, q2, q3, q4, q5, Int.zero_add, Int.add_zero, k3]) | intro _))
          all_goals
            refine ⟨(i + 1 + k, T' ++ timesP (1 + k) (24 + m)), by simp only; omega, ⟨by simp only; omega, hX3⟩, weak_to' [0, 1, 4] [0, 100, 4] ?_ (by decide) (stay_of rfl)⟩
            simp -implicitDefEqProofs only [go_sem, St.keep, drwS, wrB, tpB, k1, k2, gk, q0, q2, q3, q4, q5, Int.zero_add, Int.add_zero, k3]
      · have k1 : (((i + 1 + k : Nat) : Int) < (l.length : Int)) = False := eq_false (by omega)
        have hX3 := hexit (.inl (by omega))
        simp -implicitDefEqProofs only [go_sem, wrB, tpB, k1, q0, q2]
        (repeat' (first | exact trivial | contradiction | exact ⟨_, rfl⟩ | refine And.intro ?_ ?_ | (refine om ?_; omega) | (refine wait_draw 1000 mixed (by decide +kernel) ?_; simp -implicitDefEqProofs only [go_sem, k1, q0, q2]) | ((first | refine call_con_eq 1000 [0, 2] (s3) ?_ ?_ ?_ | refine call_draw_con 1000 [0, 2] (s3) (by decide +kernel) ?_ ?_ ?_); (focus (simp -implicitDefEqProofs only [go_sem, k1, q0, q2]; done)); (focus (simp -implicitDefEqProofs only [go_sem, k1, q0, q2]; done)); simp -implicitDefEqProofs only [go_sem, k1, q0, q2]) | intro _))
        all_goals
          refine ⟨(i + 1 + k, T' ++ timesP (1 + k) (24 + m)), by simp only; omega, ⟨by simp only; omega, hX3⟩, weak_to' [0, 1, 4] [0, 100, 4] ?_ (by decide) (stay_of rfl)⟩
          simp -implicitDefEqProofs only [go_sem, St.keep, drwS, wrB, tpB, k1, q0, q2]
  · have h1 : ((i : Int) < (l.length : Int)) = False := eq_false (by omega)
    have hg : grpC ([] : List Rw) = [] := by unfold grpC; rw [grpF]; rfl
    rw [List.drop_eq_nil_of_le (by omega), hg, List.append_nil] at hX
    unfold drwS
    simp -implicitDefEqProofs only [go_sem, wrB, tpB, h1, hX]
end Go.Proofs.YtdgoompjoeffcaaGreat
