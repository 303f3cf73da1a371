import Derived.Test.YtdgoompjoeffcaaGreatProg
import Derived.Test.YtdgoompjoeffcaaGreatPmY
import Derived.Test.YtdgoompjoeffcaaGreatRmI
/- What a tape means, the document's way: a command. Printed by gen_do.py. -/
set_option linter.unusedSimpArgs false
set_option linter.unusedVariables false
set_option maxRecDepth 20000
open Go Go.Proofs
namespace Go.Proofs.YtdgoompjoeffcaaGreat
open Pm
attribute [local irreducible] Wait CallT CallW NextT Le Weak
def rkB0 (w : Rk) (n : Nat) : Option Blk := some (.row 50 16 [.agg [.sl 1 1 0 n, .sl 2 1 0 w.K.length, .sl 3 1 0 w.K.length, .sl 4 1 0 w.S.length, .sl 5 1 0 w.A.length, .sl 6 1 0 w.R.length,
  .sl 7 1 0 w.at_.length, .sl 8 1 0 w.dir.length, .v (.int .i64 w.here), .v (.int .i64 w.look), .v (.int .i64 w.count), .v (.int .i64 w.long), .v (.int .i64 w.roads),
  .v (.slice none 0 0), .v (.slice none 0 0), .v (.slice none 0 0)]])
def rkS0 (w : Rk) (T : List Int) : List (Option Blk) := [rkB0 w T.length, intB T, longB (w.K.map Prod.fst), longB (w.K.map Prod.snd), intB w.S, boolB w.A, boolB w.R, intB w.at_, intB w.dir, none, none, none]
def doS (s C : Int) (x : Bool) (p : Nat × Rk × List Int) : St := ⟨124, 12, [(0, .ptr 0 16 0 0), (1, .v (.int .i64 s)), (5, .v (.int .i64 C)), (6, .v (.bool x)), (7, .v (.int .i64 (p.1 : Int)))], rkE p.2.1 p.2.2⟩
def doQ (w : Rk) (s : Int) (r : AV) (h' : List (Option Blk)) : Prop := ∃ e w' T', rcmdR w s = (e, w') ∧ r = .v (.int .i64 e) ∧ h' = rkE w' T' ∧ (e = 0 → TabOk T' w'.K)
theorem do0_con (w : Rk) (T : List Int) (n : Nat) (s : Int) (hT : TabOk T w.K) (hx : RkX w n) (hn : n < 40000000) (hc : 0 ≤ w.count ∧ w.count ≤ 255) (hs : 5 ≤ s) (hs' : s < 97) (ha : w.arms = []) (hb : w.acts = []) (hc0 : w.wr = []) (hal1 : w.arms.length < 1000000000) (hal2 : w.acts.length < 1000000000) (hal3 : w.wr.length < 1000000000) :
    Con Tryz.prog 34 [.ptr 0 16 0 0, .v (.int .i64 s)] (rkS0 w T) (doQ w s) := by
  refine Con.move (con_run 1000 Tryz.func34 rfl Tryz.results34 Tryz.ntmps34 (Nat.le_of_ble_eq_true rfl) ?_)
  have hl := hx.i.l
  have hpx := rpre_x (s := s) hx
  have l1 : (rpreR w s).arms.length = w.arms.length + 1 := by simp [rpreR]
  have l2 : (rpreR w s).acts.length = w.acts.length + 1 := by simp [rpreR]
  have l3 : (rpreR w s).wr.length = w.wr.length + 1 := by simp [rpreR]
  rcases (show (8 ≤ s ∧ s < 24) ∨ s = 6 ∨ s = 7 ∨ s = 5 ∨ 24 ≤ s by omega) with h8 | h6 | h7 | h5 | h24
  · have e1 : IntKind.i64.wrap (16 * w.count) = 16 * w.count := wrap64 (by omega) (by omega)
    have e2 : IntKind.i64.wrap (16 * w.count + s) = 16 * w.count + s := wrap64 (by omega) (by omega)
    have e3 : IntKind.i64.wrap (16 * w.count + s - 8) = 16 * w.count + s - 8 := wrap64 (by omega) (by omega)
    have c1 : (8 ≤ s) = True := eq_true h8.1
    have c2 : (s < 24) = True := eq_true h8.2
    have c3 : (s = 6) = False := eq_false (by omega)
    have c4 : (s = 7) = False := eq_false (by omega)
    have hpre : rcmdR w s = (0, rpreR w s) := by unfold rcmdR; rw [if_pos (by omega)]
    simp -implicitDefEqProofs only [go_sem, rkS, rkS0, rkE, rkB, rkB0, intB, longB, boolB, ha, hb, hc0]
    (repeat' (first | exact trivial | contradiction | exact ⟨_, rfl⟩ | refine And.intro ?_ ?_ | (refine om ?_; omega) | ((first | refine wait_draw 1000 mixed (by decide +kernel) ?_ | refine wait_drawV (fun id => id == 99 || id == lastK) 1000 mixed (by decide +kernel) ?_); simp -implicitDefEqProofs only [go_sem, rkS, rkS0, rkE, rkB, rkB0, intB, longB, boolB, e1, e2, e3, c1, c2, c3, c4, mnmx_min, ha, hb, hc0]) | intro _))
    refine wait_range 0 (fun _ => doS s 0 false (0, rpreR w s, T)) (fun _ => True) (weak_to' [0, 1, 5, 6, 7] [0, 100, 101, 102, 103, 104, 105, 106, 107, 108, 109, 110, 1, 2, 3, 4, 5, 6, 7, 8, 13, 15, 17] ?_ (by decide) (stay_of rfl)) trivial ?_
    · simp -implicitDefEqProofs only [go_sem, St.keep, doS, rkS, rkS0, rkE, rkB, rkB0, intB, longB, boolB, rpreR, List.length_append, ha, hb, hc0, iA, bA, e1, e2, e3, c1, c2, c3, c4]
      all_goals (try rfl)
    · intro k hk _
      refine run_sound 1000 _ _ ?_
      simp -implicitDefEqProofs only [go_sem, doS, rkS, rkS0, rkE, rkB, rkB0, intB, longB, boolB]
      refine ⟨[0, 1, 2, 3, 4, 5, 6, 7, 8, 9, 10, 11, 12, 13, 14, 15, 16, 17, 18, 19, 20, 21, 22], by decide, rfl, 0, rpreR w s, T, hpre, rfl, ?_, fun _ => hT⟩
      simp -implicitDefEqProofs only [go_sem, rkS, rkS0, rkE, rkB, rkB0, intB, longB, boolB]
  · subst h6
    have e1 : IntKind.i64.wrap (w.look + 1) = w.look + 1 := wrap64 (by omega) (by omega)
    have e2 : (w.look + 1).tmod 4 = (w.look + 1) % 4 := Int.tmod_eq_emod_of_nonneg (by omega)
    have e3 : IntKind.i64.wrap ((w.look + 1) % 4) = (w.look + 1) % 4 := wrap64 (by omega) (by omega)
    have hpre : rcmdR w 6 = (0, rpreR w 6) := by unfold rcmdR; rw [if_pos (by omega)]
    simp -implicitDefEqProofs only [go_sem, rkS, rkS0, rkE, rkB, rkB0, intB, longB, boolB, ha, hb, hc0]
    (repeat' (first | exact trivial | contradiction | exact ⟨_, rfl⟩ | refine And.intro ?_ ?_ | (refine om ?_; omega) | ((first | refine wait_draw 1000 mixed (by decide +kernel) ?_ | refine wait_drawV (fun id => id == 99 || id == lastK) 1000 mixed (by decide +kernel) ?_); simp -implicitDefEqProofs only [go_sem, rkS, rkS0, rkE, rkB, rkB0, intB, longB, boolB, e1, e2, e3, mnmx_min, ha, hb, hc0]) | intro _))
    refine wait_range 0 (fun _ => doS 6 0 false (0, rpreR w 6, T)) (fun _ => True) (weak_to' [0, 1, 5, 6, 7] [0, 100, 101, 102, 103, 104, 105, 106, 107, 108, 109, 110, 1, 2, 3, 4, 5, 6, 7, 8, 13, 15, 17] ?_ (by decide) (stay_of rfl)) trivial ?_
    · simp -implicitDefEqProofs only [go_sem, St.keep, doS, rkS, rkS0, rkE, rkB, rkB0, intB, longB, boolB, rpreR, List.length_append, ha, hb, hc0, iA, bA, e1, e2, e3]
      all_goals (try rfl)
    · intro k hk _
      refine run_sound 1000 _ _ ?_
      simp -implicitDefEqProofs only [go_sem, doS, rkS, rkS0, rkE, rkB, rkB0, intB, longB, boolB]
      refine ⟨[0, 1, 2, 3, 4, 5, 6, 7, 8, 9, 10, 11, 12, 13, 14, 15, 16, 17, 18, 19, 20, 21, 22], by decide, rfl, 0, rpreR w 6, T, hpre, rfl, ?_, fun _ => hT⟩
      simp -implicitDefEqProofs only [go_sem, rkS, rkS0, rkE, rkB, rkB0, intB, longB, boolB]
  · subst h7
    have e1 : IntKind.i64.wrap (w.look + 3) = w.look + 3 := wrap64 (by omega) (by omega)
    have e2 : (w.look + 3).tmod 4 = (w.look + 3) % 4 := Int.tmod_eq_emod_of_nonneg (by omega)
    have e3 : IntKind.i64.wrap ((w.look + 3) % 4) = (w.look + 3) % 4 := wrap64 (by omega) (by omega)
    have hpre : rcmdR w 7 = (0, rpreR w 7) := by unfold rcmdR; rw [if_pos (by omega)]
    simp -implicitDefEqProofs only [go_sem, rkS, rkS0, rkE, rkB, rkB0, intB, longB, boolB, ha, hb, hc0]
    (repeat' (first | exact trivial | contradiction | exact ⟨_, rfl⟩ | refine And.intro ?_ ?_ | (refine om ?_; omega) | ((first | refine wait_draw 1000 mixed (by decide +kernel) ?_ | refine wait_drawV (fun id => id == 99 || id == lastK) 1000 mixed (by decide +kernel) ?_); simp -implicitDefEqProofs only [go_sem, rkS, rkS0, rkE, rkB, rkB0, intB, longB, boolB, e1, e2, e3, mnmx_min, ha, hb, hc0]) | intro _))
    refine wait_range 0 (fun _ => doS 7 0 false (0, rpreR w 7, T)) (fun _ => True) (weak_to' [0, 1, 5, 6, 7] [0, 100, 101, 102, 103, 104, 105, 106, 107, 108, 109, 110, 1, 2, 3, 4, 5, 6, 7, 8, 13, 15, 17] ?_ (by decide) (stay_of rfl)) trivial ?_
    · simp -implicitDefEqProofs only [go_sem, St.keep, doS, rkS, rkS0, rkE, rkB, rkB0, intB, longB, boolB, rpreR, List.length_append, ha, hb, hc0, iA, bA, e1, e2, e3]
      all_goals (try rfl)
    · intro k hk _
      refine run_sound 1000 _ _ ?_
      simp -implicitDefEqProofs only [go_sem, doS, rkS, rkS0, rkE, rkB, rkB0, intB, longB, boolB]
      refine ⟨[0, 1, 2, 3, 4, 5, 6, 7, 8, 9, 10, 11, 12, 13, 14, 15, 16, 17, 18, 19, 20, 21, 22], by decide, rfl, 0, rpreR w 7, T, hpre, rfl, ?_, fun _ => hT⟩
      simp -implicitDefEqProofs only [go_sem, rkS, rkS0, rkE, rkB, rkB0, intB, longB, boolB]
  · subst h5
    obtain ⟨C, hC⟩ : ∃ C, C = (max w.count 1).toNat := ⟨_, rfl⟩
    have hC' : max w.count 1 = (C : Int) := by omega
    have hCm : C ≤ 255 := by omega
    have hrc : rcmdR w 5 = rfwdN C (rpreR w 5) := by unfold rcmdR; rw [if_neg (by omega), if_neg (by omega), hC]
    simp -implicitDefEqProofs only [go_sem, rkS, rkS0, rkE, rkB, rkB0, intB, longB, boolB, ha, hb, hc0]
    (repeat' (first | exact trivial | contradiction | exact ⟨_, rfl⟩ | refine And.intro ?_ ?_ | (refine om ?_; omega) | ((first | refine wait_draw 1000 mixed (by decide +kernel) ?_ | refine wait_drawV (fun id => id == 99 || id == lastK) 1000 mixed (by decide +kernel) ?_); simp -implicitDefEqProofs only [go_sem, rkS, rkS0, rkE, rkB, rkB0, intB, longB, boolB, mnmx_max, mnmx_max, hC', ha, hb, hc0]) | intro _))
    refine wait_data (doS 5 C false) (fun p => p.1 ≤ C ∧ RkX p.2.1 (n + p.1) ∧ TabOk p.2.2 p.2.1.K ∧ rfwdN (C - p.1) p.2.1 = rfwdN C (rpreR w 5)) (fun p => C - p.1) (0, rpreR w 5, T) (weak_to' [0, 1, 5, 6, 7] [0, 100, 101, 102, 103, 104, 105, 106, 107, 108, 109, 110, 1, 2, 3, 4, 5, 6, 7, 8, 13, 15, 17] ?_ (by decide) (stay_of rfl)) ⟨Nat.zero_le _, hpx, hT, rfl⟩ ?_
    · simp -implicitDefEqProofs only [go_sem, St.keep, doS, rkS, rkS0, rkE, rkB, rkB0, intB, longB, boolB, rpreR, List.length_append, ha, hb, hc0, iA, bA, mnmx_max, hC', Int.natCast_zero]
      all_goals (try rfl)
    rintro ⟨k, v, T1⟩ ⟨hk, hv, hT1, hG⟩
    simp only at hk hv hT1 hG
    refine run_sound 1000 _ _ ?_
    by_cases hkC : k < C
    · have hlt : ((k : Int) < (C : Int)) = True := eq_true (by omega)
      obtain ⟨m, hm⟩ : ∃ m, C - k = m + 1 := ⟨C - k - 1, by omega⟩
      have hw1 : IntKind.i64.wrap ((k : Int) + 1) = ((k + 1 : Nat) : Int) := by rw [wrap64 (by omega) (by omega)]; omega
      simp -implicitDefEqProofs only [go_sem, doS, rkS, rkS0, rkE, rkB, rkB0, intB, longB, boolB, hlt]
      all_goals
        refine call_con 1000 [0, 12, 13, 14, 15, 16, 17, 18, 19, 20, 21, 22] (rforth_con v T1 (n + k) hT1 hv.i (by omega)) ?_ ?_ (by simp) (by simp) rfl ?_
      · simp -implicitDefEqProofs only [go_sem]
      · simp -implicitDefEqProofs only [go_sem, rkS, rkS0, rkE, rkB, rkB0, intB, longB, boolB]
      rintro r hcal ⟨e, w', T2, hf, rfl, rfl, hT2'⟩
      refine ⟨by simp [rkS, rkE], ?_⟩
      by_cases he : e = 0
      · subst he
        have hT2 := hT2' rfl
        have hx2 := (rfwdR_inv hv hf).1
        simp -implicitDefEqProofs only [go_sem, rkS, rkS0, rkE, rkB, rkB0, intB, longB, boolB]
        refine ⟨(k + 1, w', T2), ?_, ⟨?_, hx2.le (by simp only; omega), hT2, ?_⟩, ?_⟩
        · show C - (k + 1) < C - k; omega
        · show k + 1 ≤ C; omega
        · show rfwdN (C - (k + 1)) w' = _
          rw [← hG, hm, show rfwdN (m + 1) v = rfwdN m (rfwdR v).2 from rfwdN_ok (by rw [hf]), hf, show C - (k + 1) = m by omega]
        · refine weak_to' [0, 1, 5, 6, 7] [0, 100, 101, 102, 103, 104, 105, 106, 107, 108, 109, 110, 23, 24, 25, 26, 27, 28, 29, 30, 31, 32, 33] ?_ (by decide) (stay_of rfl)
          simp -implicitDefEqProofs only [go_sem, St.keep, rkS, rkS0, rkE, rkB, rkB0, intB, longB, boolB, hw1]
      · have hne : (e = 0) = False := eq_false he
        simp -implicitDefEqProofs only [go_sem, rkS, rkS0, rkE, rkB, rkB0, intB, longB, boolB, hne]
        refine ⟨[0, 100, 101, 102, 103, 104, 105, 106, 107, 108, 109, 110, 23, 24, 25, 26, 27, 28, 29, 30, 31, 32, 33], by decide, rfl, e, w', T2, ?_, rfl, ?_, fun h => absurd h he⟩
        · rw [hrc, ← hG, hm, show rfwdN (m + 1) v = rfwdR v from rfwdN_bad (by rw [hf]; exact he), hf]
        · simp -implicitDefEqProofs only [go_sem, rkS, rkS0, rkE, rkB, rkB0, intB, longB, boolB]
    · have hlt : ((k : Int) < (C : Int)) = False := eq_false (by omega)
      simp -implicitDefEqProofs only [go_sem, doS, rkS, rkS0, rkE, rkB, rkB0, intB, longB, boolB, hlt]
      rw [show C - k = 0 by omega] at hG
      refine ⟨[0, 1, 2, 3, 4, 5, 6, 7, 8, 9, 10, 11, 12, 13, 14, 15, 16, 17, 18, 19, 20, 21, 22], by decide, rfl, 0, v, T1, by rw [hrc, ← hG]; rfl, rfl, ?_, fun _ => hT1⟩
      simp -implicitDefEqProofs only [go_sem, rkS, rkS0, rkE, rkB, rkB0, intB, longB, boolB]
  · have c1 : (8 ≤ s) = True := eq_true (by omega)
    have c2 : (s < 24) = False := eq_false (by omega)
    have c3 : (s = 6) = False := eq_false (by omega)
    have c4 : (s = 7) = False := eq_false (by omega)
    have c5 : (24 ≤ s) = True := eq_true h24
    have e4 : IntKind.i64.wrap (s - 24) = s - 24 := wrap64 (by omega) (by omega)
    have hwp := refWritten_pc (s - 24)
    obtain ⟨q, hq⟩ : ∃ q, q = (RefWrittenStateE (s - 24)).1 := ⟨_, rfl⟩
    rw [← hq] at hwp
    simp only [iA] at hwp
    obtain ⟨C, hC⟩ : ∃ C, C = (max w.count 1).toNat := ⟨_, rfl⟩
    have hC' : max w.count 1 = (C : Int) := by omega
    have hCm : C ≤ 255 := by omega
    have hrc : rcmdR w s = rwrN q C (rpreR w s) := by unfold rcmdR; rw [if_neg (by omega), if_pos h24, ← hq, hC]
    simp -implicitDefEqProofs only [go_sem, rkS, rkS0, rkE, rkB, rkB0, intB, longB, boolB, ha, hb, hc0]
    (repeat' (first | exact trivial | contradiction | exact ⟨_, rfl⟩ | refine And.intro ?_ ?_ | (refine om ?_; omega) | ((first | refine wait_draw 1000 mixed (by decide +kernel) ?_ | refine wait_drawV (fun id => id == 99 || id == lastK) 1000 mixed (by decide +kernel) ?_); simp -implicitDefEqProofs only [go_sem, rkS, rkS0, rkE, rkB, rkB0, intB, longB, boolB, c1, c2, c3, c4, c5, e4, mnmx_max, hC', ha, hb, hc0]) | intro _))
    refine wait_data (doS s C true) (fun p => p.1 ≤ C ∧ RkX p.2.1 (n + p.1) ∧ TabOk p.2.2 p.2.1.K ∧ rwrN q (C - p.1) p.2.1 = rwrN q C (rpreR w s)) (fun p => C - p.1) (0, rpreR w s, T) (weak_to' [0, 1, 5, 6, 7] [0, 100, 101, 102, 103, 104, 105, 106, 107, 108, 109, 110, 1, 2, 3, 4, 5, 6, 7, 8, 13, 15, 17] ?_ (by decide) (stay_of rfl)) ⟨Nat.zero_le _, hpx, hT, rfl⟩ ?_
    · simp -implicitDefEqProofs only [go_sem, St.keep, doS, rkS, rkS0, rkE, rkB, rkB0, intB, longB, boolB, rpreR, List.length_append, ha, hb, hc0, iA, bA, c1, c2, c3, c4, c5, e4, hC', Int.natCast_zero]
      all_goals (try rfl)
    rintro ⟨k, v, T1⟩ ⟨hk, hv, hT1, hG⟩
    simp only at hk hv hT1 hG
    refine run_sound 1000 _ _ ?_
    by_cases hkC : k < C
    · have hlt : ((k : Int) < (C : Int)) = True := eq_true (by omega)
      obtain ⟨m, hm⟩ : ∃ m, C - k = m + 1 := ⟨C - k - 1, by omega⟩
      have hw1 : IntKind.i64.wrap ((k : Int) + 1) = ((k + 1 : Nat) : Int) := by rw [wrap64 (by omega) (by omega)]; omega
      simp -implicitDefEqProofs only [go_sem, doS, rkS, rkS0, rkE, rkB, rkB0, intB, longB, boolB, hlt, e4]
      (repeat' (first | exact trivial | contradiction | exact ⟨_, rfl⟩ | refine And.intro ?_ ?_ | (refine om ?_; omega) | (refine wait_draw 1000 mixed (by decide +kernel) ?_; simp -implicitDefEqProofs only [go_sem, rkS, rkS0, rkE, rkB, rkB0, intB, longB, boolB, hlt, e4]) | ((first | refine call_eq_read 1000 (hwp) ?_ ?_ ?_ rfl | refine call_draw_read 1000 (hwp) ?_ ?_ ?_); (focus (simp -implicitDefEqProofs only [go_sem, rkS, rkS0, rkE, rkB, rkB0, intB, longB, boolB, hlt, e4]; done)); (focus ((first | intro ext | skip); simp -implicitDefEqProofs only [go_sem, rkS, rkS0, rkE, rkB, rkB0, intB, longB, boolB, hlt, e4]; done)); simp -implicitDefEqProofs only [go_sem, rkS, rkS0, rkE, rkB, rkB0, intB, longB, boolB, hlt, e4]) | intro _))
      all_goals
        refine call_con 1000 [0, 12, 13, 14, 15, 16, 17, 18, 19, 20, 21, 22] (rwrite_con v T1 (n + k) q hT1 hv.i (by omega) hv.ne) ?_ ?_ (by simp) (by simp) rfl ?_
      · simp -implicitDefEqProofs only [go_sem]
      · simp -implicitDefEqProofs only [go_sem, rkS, rkS0, rkE, rkB, rkB0, intB, longB, boolB]
      rintro r hcal ⟨e, w', hf, rfl, rfl⟩
      refine ⟨by simp [rkS, rkE], ?_⟩
      by_cases he : e = 0
      · subst he
        have hx2 := (rwrR_inv hv hf).1
        have hT2 : TabOk T1 w'.K := by
          have hKK : w'.K = v.K := by
            unfold rwrR at hf
            simp only at hf
            split at hf
            · cases hf
            · cases hf; rfl
          rw [hKK]; exact hT1
        simp -implicitDefEqProofs only [go_sem, rkS, rkS0, rkE, rkB, rkB0, intB, longB, boolB]
        refine ⟨(k + 1, w', T1), ?_, ⟨?_, hx2.le (by simp only; omega), hT2, ?_⟩, ?_⟩
        · show C - (k + 1) < C - k; omega
        · show k + 1 ≤ C; omega
        · show rwrN q (C - (k + 1)) w' = _
          rw [← hG, hm, show rwrN q (m + 1) v = rwrN q m (rwrR v q).2 from rwrN_ok (by rw [hf]), hf, show C - (k + 1) = m by omega]
        · refine weak_to' [0, 1, 5, 6, 7] [0, 100, 101, 102, 103, 104, 105, 106, 107, 108, 109, 110, 12, 13, 14, 15, 16, 17, 18, 19, 20, 21, 22] ?_ (by decide) (stay_of rfl)
          simp -implicitDefEqProofs only [go_sem, St.keep, rkS, rkS0, rkE, rkB, rkB0, intB, longB, boolB, hw1]
      · have hne : (e = 0) = False := eq_false he
        simp -implicitDefEqProofs only [go_sem, rkS, rkS0, rkE, rkB, rkB0, intB, longB, boolB, hne]
        refine ⟨[0, 1, 2, 3, 4, 5, 6, 7, 8, 9, 10, 11, 12, 13, 14, 15, 16, 17, 18, 19, 20, 21, 22], by decide, rfl, e, w', T1, ?_, rfl, ?_, fun h => absurd h he⟩
        · rw [hrc, ← hG, hm, show rwrN q (m + 1) v = rwrR v q from rwrN_bad (by rw [hf]; exact he), hf]
        · simp -implicitDefEqProofs only [go_sem, rkS, rkS0, rkE, rkB, rkB0, intB, longB, boolB]
    · have hlt : ((k : Int) < (C : Int)) = False := eq_false (by omega)
      simp -implicitDefEqProofs only [go_sem, doS, rkS, rkS0, rkE, rkB, rkB0, intB, longB, boolB, hlt]
      rw [show C - k = 0 by omega] at hG
      refine ⟨[0, 1, 2, 3, 4, 5, 6, 7, 8, 9, 10, 11, 12, 13, 14, 15, 16, 17, 18, 19, 20, 21, 22], by decide, rfl, 0, v, T1, by rw [hrc, ← hG]; rfl, rfl, ?_, fun _ => hT1⟩
      simp -implicitDefEqProofs only [go_sem, rkS, rkS0, rkE, rkB, rkB0, intB, longB, boolB]
theorem do_con (w : Rk) (T : List Int) (n : Nat) (s : Int) (hT : TabOk T w.K) (hx : RkX w n) (hn : n < 40000000) (hc : 0 ≤ w.count ∧ w.count ≤ 255) (hs : 5 ≤ s) (hs' : s < 97)  (hal1 : w.arms.length < 1000000000) (hal2 : w.acts.length < 1000000000) (hal3 : w.wr.length < 1000000000) :
    Con Tryz.prog 34 [.ptr 0 16 0 0, .v (.int .i64 s)] (rkS w T) (doQ w s) := by
  refine Con.move (con_run 1000 Tryz.func34 rfl Tryz.results34 Tryz.ntmps34 (Nat.le_of_ble_eq_true rfl) ?_)
  have hl := hx.i.l
  have hpx := rpre_x (s := s) hx
  have l1 : (rpreR w s).arms.length = w.arms.length + 1 := by simp [rpreR]
  have l2 : (rpreR w s).acts.length = w.acts.length + 1 := by simp [rpreR]
  have l3 : (rpreR w s).wr.length = w.wr.length + 1 := by simp [rpreR]
  rcases (show (8 ≤ s ∧ s < 24) ∨ s = 6 ∨ s = 7 ∨ s = 5 ∨ 24 ≤ s by omega) with h8 | h6 | h7 | h5 | h24
  · have e1 : IntKind.i64.wrap (16 * w.count) = 16 * w.count := wrap64 (by omega) (by omega)
    have e2 : IntKind.i64.wrap (16 * w.count + s) = 16 * w.count + s := wrap64 (by omega) (by omega)
    have e3 : IntKind.i64.wrap (16 * w.count + s - 8) = 16 * w.count + s - 8 := wrap64 (by omega) (by omega)
    have c1 : (8 ≤ s) = True := eq_true h8.1
    have c2 : (s < 24) = True := eq_true h8.2
    have c3 : (s = 6) = False := eq_false (by omega)
    have c4 : (s = 7) = False := eq_false (by omega)
    have hpre : rcmdR w s = (0, rpreR w s) := by unfold rcmdR; rw [if_pos (by omega)]
    simp -implicitDefEqProofs only [go_sem, rkS, rkS0, rkE, rkB, rkB0, intB, longB, boolB]
    (repeat' (first | exact trivial | contradiction | exact ⟨_, rfl⟩ | refine And.intro ?_ ?_ | (refine om ?_; omega) | ((first | refine wait_draw 1000 mixed (by decide +kernel) ?_ | refine wait_drawV (fun id => id == 9 || id == 9 + killK || id == lastK) 1000 mixed (by decide +kernel) ?_); simp -implicitDefEqProofs only [go_sem, rkS, rkS0, rkE, rkB, rkB0, intB, longB, boolB, e1, e2, e3, c1, c2, c3, c4, mnmx_min]) | intro _))
    refine wait_range 0 (fun _ => doS s 0 false (0, rpreR w s, T)) (fun _ => True) (weak_to' [0, 1, 5, 6, 7] [0, 100, 101, 102, 103, 104, 105, 106, 107, 108, 109, 110, 1, 2, 3, 4, 5, 6, 7, 8, 13, 15, 17] ?_ (by decide) (stay_of rfl)) trivial ?_
    · simp -implicitDefEqProofs only [go_sem, St.keep, doS, rkS, rkS0, rkE, rkB, rkB0, intB, longB, boolB, rpreR, List.length_append, iA, bA, e1, e2, e3, c1, c2, c3, c4]
      all_goals (try rfl)
    · intro k hk _
      refine run_sound 1000 _ _ ?_
      simp -implicitDefEqProofs only [go_sem, doS, rkS, rkS0, rkE, rkB, rkB0, intB, longB, boolB]
      refine ⟨[0, 1, 2, 3, 4, 5, 6, 7, 8, 9, 10, 11, 12, 13, 14, 15, 16, 17, 18, 19, 20, 21, 22], by decide, rfl, 0, rpreR w s, T, hpre, rfl, ?_, fun _ => hT⟩
      simp -implicitDefEqProofs only [go_sem, rkS, rkS0, rkE, rkB, rkB0, intB, longB, boolB]
  · subst h6
    have e1 : IntKind.i64.wrap (w.look + 1) = w.look + 1 := wrap64 (by omega) (by omega)
    have e2 : (w.look + 1).tmod 4 = (w.look + 1) % 4 := Int.tmod_eq_emod_of_nonneg (by omega)
    have e3 : IntKind.i64.wrap ((w.look + 1) % 4) = (w.look + 1) % 4 := wrap64 (by omega) (by omega)
    have hpre : rcmdR w 6 = (0, rpreR w 6) := by unfold rcmdR; rw [if_pos (by omega)]
    simp -implicitDefEqProofs only [go_sem, rkS, rkS0, rkE, rkB, rkB0, intB, longB, boolB]
    (repeat' (first | exact trivial | contradiction | exact ⟨_, rfl⟩ | refine And.intro ?_ ?_ | (refine om ?_; omega) | ((first | refine wait_draw 1000 mixed (by decide +kernel) ?_ | refine wait_drawV (fun id => id == 9 || id == 9 + killK || id == lastK) 1000 mixed (by decide +kernel) ?_); simp -implicitDefEqProofs only [go_sem, rkS, rkS0, rkE, rkB, rkB0, intB, longB, boolB, e1, e2, e3, mnmx_min]) | intro _))
    refine wait_range 0 (fun _ => doS 6 0 false (0, rpreR w 6, T)) (fun _ => True) (weak_to' [0, 1, 5, 6, 7] [0, 100, 101, 102, 103, 104, 105, 106, 107, 108, 109, 110, 1, 2, 3, 4, 5, 6, 7, 8, 13, 15, 17] ?_ (by decide) (stay_of rfl)) trivial ?_
    · simp -implicitDefEqProofs only [go_sem, St.keep, doS, rkS, rkS0, rkE, rkB, rkB0, intB, longB, boolB, rpreR, List.length_append, iA, bA, e1, e2, e3]
      all_goals (try rfl)
    · intro k hk _
      refine run_sound 1000 _ _ ?_
      simp -implicitDefEqProofs only [go_sem, doS, rkS, rkS0, rkE, rkB, rkB0, intB, longB, boolB]
      refine ⟨[0, 1, 2, 3, 4, 5, 6, 7, 8, 9, 10, 11, 12, 13, 14, 15, 16, 17, 18, 19, 20, 21, 22], by decide, rfl, 0, rpreR w 6, T, hpre, rfl, ?_, fun _ => hT⟩
      simp -implicitDefEqProofs only [go_sem, rkS, rkS0, rkE, rkB, rkB0, intB, longB, boolB]
  · subst h7
    have e1 : IntKind.i64.wrap (w.look + 3) = w.look + 3 := wrap64 (by omega) (by omega)
    have e2 : (w.look + 3).tmod 4 = (w.look + 3) % 4 := Int.tmod_eq_emod_of_nonneg (by omega)
    have e3 : IntKind.i64.wrap ((w.look + 3) % 4) = (w.look + 3) % 4 := wrap64 (by omega) (by omega)
    have hpre : rcmdR w 7 = (0, rpreR w 7) := by unfold rcmdR; rw [if_pos (by omega)]
    simp -implicitDefEqProofs only [go_sem, rkS, rkS0, rkE, rkB, rkB0, intB, longB, boolB]
    (repeat' (first | exact trivial | contradiction | exact ⟨_, rfl⟩ | refine And.intro ?_ ?_ | (refine om ?_; omega) | ((first | refine wait_draw 1000 mixed (by decide +kernel) ?_ | refine wait_drawV (fun id => id == 9 || id == 9 + killK || id == lastK) 1000 mixed (by decide +kernel) ?_); simp -implicitDefEqProofs only [go_sem, rkS, rkS0, rkE, rkB, rkB0, intB, longB, boolB, e1, e2, e3, mnmx_min]) | intro _))
    refine wait_range 0 (fun _ => doS 7 0 false (0, rpreR w 7, T)) (fun _ => True) (weak_to' [0, 1, 5, 6, 7] [0, 100, 101, 102, 103, 104, 105, 106, 107, 108, 109, 110, 1, 2, 3, 4, 5, 6, 7, 8, 13, 15, 17] ?_ (by decide) (stay_of rfl)) trivial ?_
    · simp -implicitDefEqProofs only [go_sem, St.keep, doS, rkS, rkS0, rkE, rkB, rkB0, intB, longB, boolB, rpreR, List.length_append, iA, bA, e1, e2, e3]
      all_goals (try rfl)
    · intro k hk _
      refine run_sound 1000 _ _ ?_
      simp -implicitDefEqProofs only [go_sem, doS, rkS, rkS0, rkE, rkB, rkB0, intB, longB, boolB]
      refine ⟨[0, 1, 2, 3, 4, 5, 6, 7, 8, 9, 10, 11, 12, 13, 14, 15, 16, 17, 18, 19, 20, 21, 22], by decide, rfl, 0, rpreR w 7, T, hpre, rfl, ?_, fun _ => hT⟩
      simp -implicitDefEqProofs only [go_sem, rkS, rkS0, rkE, rkB, rkB0, intB, longB, boolB]
  · subst h5
    obtain ⟨C, hC⟩ : ∃ C, C = (max w.count 1).toNat := ⟨_, rfl⟩
    have hC' : max w.count 1 = (C : Int) := by omega
    have hCm : C ≤ 255 := by omega
    have hrc : rcmdR w 5 = rfwdN C (rpreR w 5) := by unfold rcmdR; rw [if_neg (by omega), if_neg (by omega), hC]
    simp -implicitDefEqProofs only [go_sem, rkS, rkS0, rkE, rkB, rkB0, intB, longB, boolB]
    (repeat' (first | exact trivial | contradiction | exact ⟨_, rfl⟩ | refine And.intro ?_ ?_ | (refine om ?_; omega) | ((first | refine wait_draw 1000 mixed (by decide +kernel) ?_ | refine wait_drawV (fun id => id == 9 || id == 9 + killK || id == lastK) 1000 mixed (by decide +kernel) ?_); simp -implicitDefEqProofs only [go_sem, rkS, rkS0, rkE, rkB, rkB0, intB, longB, boolB, mnmx_max, mnmx_max, hC']) | intro _))
    refine wait_data (doS 5 C false) (fun p => p.1 ≤ C ∧ RkX p.2.1 (n + p.1) ∧ TabOk p.2.2 p.2.1.K ∧ rfwdN (C - p.1) p.2.1 = rfwdN C (rpreR w 5)) (fun p => C - p.1) (0, rpreR w 5, T) (weak_to' [0, 1, 5, 6, 7] [0, 100, 101, 102, 103, 104, 105, 106, 107, 108, 109, 110, 1, 2, 3, 4, 5, 6, 7, 8, 13, 15, 17] ?_ (by decide) (stay_of rfl)) ⟨Nat.zero_le _, hpx, hT, rfl⟩ ?_
    · simp -implicitDefEqProofs only [go_sem, St.keep, doS, rkS, rkS0, rkE, rkB, rkB0, intB, longB, boolB, rpreR, List.length_append, iA, bA, mnmx_max, hC', Int.natCast_zero]
      all_goals (try rfl)
    rintro ⟨k, v, T1⟩ ⟨hk, hv, hT1, hG⟩
    simp only at hk hv hT1 hG
    refine run_sound 1000 _ _ ?_
    by_cases hkC : k < C
    · have hlt : ((k : Int) < (C : Int)) = True := eq_true (by omega)
      obtain ⟨m, hm⟩ : ∃ m, C - k = m + 1 := ⟨C - k - 1, by omega⟩
      have hw1 : IntKind.i64.wrap ((k : Int) + 1) = ((k + 1 : Nat) : Int) := by rw [wrap64 (by omega) (by omega)]; omega
      simp -implicitDefEqProofs only [go_sem, doS, rkS, rkS0, rkE, rkB, rkB0, intB, longB, boolB, hlt]
      all_goals
        refine call_con 1000 [0, 12, 13, 14, 15, 16, 17, 18, 19, 20, 21, 22] (rforth_con v T1 (n + k) hT1 hv.i (by omega)) ?_ ?_ (by simp) (by simp) rfl ?_
      · simp -implicitDefEqProofs only [go_sem]
      · simp -implicitDefEqProofs only [go_sem, rkS, rkS0, rkE, rkB, rkB0, intB, longB, boolB]
      rintro r hcal ⟨e, w', T2, hf, rfl, rfl, hT2'⟩
      refine ⟨by simp [rkS, rkE], ?_⟩
      by_cases he : e = 0
      · subst he
        have hT2 := hT2' rfl
        have hx2 := (rfwdR_inv hv hf).1
        simp -implicitDefEqProofs only [go_sem, rkS, rkS0, rkE, rkB, rkB0, intB, longB, boolB]
        refine ⟨(k + 1, w', T2), ?_, ⟨?_, hx2.le (by simp only; omega), hT2, ?_⟩, ?_⟩
        · show C - (k + 1) < C - k; omega
        · show k + 1 ≤ C; omega
        · show rfwdN (C - (k + 1)) w' = _
          rw [← hG, hm, show rfwdN (m + 1) v = rfwdN m (rfwdR v).2 from rfwdN_ok (by rw [hf]), hf, show C - (k + 1) = m by omega]
        · refine weak_to' [0, 1, 5, 6, 7] [0, 100, 101, 102, 103, 104, 105, 106, 107, 108, 109, 110, 23, 24, 25, 26, 27, 28, 29, 30, 31, 32, 33] ?_ (by decide) (stay_of rfl)
          simp -implicitDefEqProofs only [go_sem, St.keep, rkS, rkS0, rkE, rkB, rkB0, intB, longB, boolB, hw1]
      · have hne : (e = 0) = False := eq_false he
        simp -implicitDefEqProofs only [go_sem, rkS, rkS0, rkE, rkB, rkB0, intB, longB, boolB, hne]
        refine ⟨[0, 100, 101, 102, 103, 104, 105, 106, 107, 108, 109, 110, 23, 24, 25, 26, 27, 28, 29, 30, 31, 32, 33], by decide, rfl, e, w', T2, ?_, rfl, ?_, fun h => absurd h he⟩
        · rw [hrc, ← hG, hm, show rfwdN (m + 1) v = rfwdR v from rfwdN_bad (by rw [hf]; exact he), hf]
        · simp -implicitDefEqProofs only [go_sem, rkS, rkS0, rkE, rkB, rkB0, intB, longB, boolB]
    · have hlt : ((k : Int) < (C : Int)) = False := eq_false (by omega)
      simp -implicitDefEqProofs only [go_sem, doS, rkS, rkS0, rkE, rkB, rkB0, intB, longB, boolB, hlt]
      rw [show C - k = 0 by omega] at hG
      refine ⟨[0, 1, 2, 3, 4, 5, 6, 7, 8, 9, 10, 11, 12, 13, 14, 15, 16, 17, 18, 19, 20, 21, 22], by decide, rfl, 0, v, T1, by rw [hrc, ← hG]; rfl, rfl, ?_, fun _ => hT1⟩
      simp -implicitDefEqProofs only [go_sem, rkS, rkS0, rkE, rkB, rkB0, intB, longB, boolB]
  · have c1 : (8 ≤ s) = True := eq_true (by omega)
    have c2 : (s < 24) = False := eq_false (by omega)
    have c3 : (s = 6) = False := eq_false (by omega)
    have c4 : (s = 7) = False := eq_false (by omega)
    have c5 : (24 ≤ s) = True := eq_true h24
    have e4 : IntKind.i64.wrap (s - 24) = s - 24 := wrap64 (by omega) (by omega)
    have hwp := refWritten_pc (s - 24)
    obtain ⟨q, hq⟩ : ∃ q, q = (RefWrittenStateE (s - 24)).1 := ⟨_, rfl⟩
    rw [← hq] at hwp
    simp only [iA] at hwp
    obtain ⟨C, hC⟩ : ∃ C, C = (max w.count 1).toNat := ⟨_, rfl⟩
    have hC' : max w.count 1 = (C : Int) := by omega
    have hCm : C ≤ 255 := by omega
    have hrc : rcmdR w s = rwrN q C (rpreR w s) := by unfold rcmdR; rw [if_neg (by omega), if_pos h24, ← hq, hC]
    simp -implicitDefEqProofs only [go_sem, rkS, rkS0, rkE, rkB, rkB0, intB, longB, boolB]
    (repeat' (first | exact trivial | contradiction | exact ⟨_, rfl⟩ | refine And.intro ?_ ?_ | (refine om ?_; omega) | ((first | refine wait_draw 1000 mixed (by decide +kernel) ?_ | refine wait_drawV (fun id => id == 9 || id == 9 + killK || id == lastK) 1000 mixed (by decide +kernel) ?_); simp -implicitDefEqProofs only [go_sem, rkS, rkS0, rkE, rkB, rkB0, intB, longB, boolB, c1, c2, c3, c4, c5, e4, mnmx_max, hC']) | intro _))
    refine wait_data (doS s C true) (fun p => p.1 ≤ C ∧ RkX p.2.1 (n + p.1) ∧ TabOk p.2.2 p.2.1.K ∧ rwrN q (C - p.1) p.2.1 = rwrN q C (rpreR w s)) (fun p => C - p.1) (0, rpreR w s, T) (weak_to' [0, 1, 5, 6, 7] [0, 100, 101, 102, 103, 104, 105, 106, 107, 108, 109, 110, 1, 2, 3, 4, 5, 6, 7, 8, 13, 15, 17] ?_ (by decide) (stay_of rfl)) ⟨Nat.zero_le _, hpx, hT, rfl⟩ ?_
    · simp -implicitDefEqProofs only [go_sem, St.keep, doS, rkS, rkS0, rkE, rkB, rkB0, intB, longB, boolB, rpreR, List.length_append, iA, bA, c1, c2, c3, c4, c5, e4, hC', Int.natCast_zero]
      all_goals (try rfl)
    rintro ⟨k, v, T1⟩ ⟨hk, hv, hT1, hG⟩
    simp only at hk hv hT1 hG
    refine run_sound 1000 _ _ ?_
    by_cases hkC : k < C
    · have hlt : ((k : Int) < (C : Int)) = True := eq_true (by omega)
      obtain ⟨m, hm⟩ : ∃ m, C - k = m + 1 := ⟨C - k - 1, by omega⟩
      have hw1 : IntKind.i64.wrap ((k : Int) + 1) = ((k + 1 : Nat) : Int) := by rw [wrap64 (by omega) (by omega)]; omega
      simp -implicitDefEqProofs only [go_sem, doS, rkS, rkS0, rkE, rkB, rkB0, intB, longB, boolB, hlt, e4]
      (repeat' (first | exact trivial | contradiction | exact ⟨_, rfl⟩ | refine And.intro ?_ ?_ | (refine om ?_; omega) | (refine wait_draw 1000 mixed (by decide +kernel) ?_; simp -implicitDefEqProofs only [go_sem, rkS, rkS0, rkE, rkB, rkB0, intB, longB, boolB, hlt, e4]) | ((first | refine call_eq_read 1000 (hwp) ?_ ?_ ?_ rfl | refine call_draw_read 1000 (hwp) ?_ ?_ ?_); (focus (simp -implicitDefEqProofs only [go_sem, rkS, rkS0, rkE, rkB, rkB0, intB, longB, boolB, hlt, e4]; done)); (focus ((first | intro ext | skip); simp -implicitDefEqProofs only [go_sem, rkS, rkS0, rkE, rkB, rkB0, intB, longB, boolB, hlt, e4]; done)); simp -implicitDefEqProofs only [go_sem, rkS, rkS0, rkE, rkB, rkB0, intB, longB, boolB, hlt, e4]) | intro _))
      all_goals
        refine call_con 1000 [0, 12, 13, 14, 15, 16, 17, 18, 19, 20, 21, 22] (rwrite_con v T1 (n + k) q hT1 hv.i (by omega) hv.ne) ?_ ?_ (by simp) (by simp) rfl ?_
      · simp -implicitDefEqProofs only [go_sem]
      · simp -implicitDefEqProofs only [go_sem, rkS, rkS0, rkE, rkB, rkB0, intB, longB, boolB]
      rintro r hcal ⟨e, w', hf, rfl, rfl⟩
      refine ⟨by simp [rkS, rkE], ?_⟩
      by_cases he : e = 0
      · subst he
        have hx2 := (rwrR_inv hv hf).1
        have hT2 : TabOk T1 w'.K := by
          have hKK : w'.K = v.K := by
            unfold rwrR at hf
            simp only at hf
            split at hf
            · cases hf
            · cases hf; rfl
          rw [hKK]; exact hT1
        simp -implicitDefEqProofs only [go_sem, rkS, rkS0, rkE, rkB, rkB0, intB, longB, boolB]
        refine ⟨(k + 1, w', T1), ?_, ⟨?_, hx2.le (by simp only; omega), hT2, ?_⟩, ?_⟩
        · show C - (k + 1) < C - k; omega
        · show k + 1 ≤ C; omega
        · show rwrN q (C - (k + 1)) w' = _
          rw [← hG, hm, show rwrN q (m + 1) v = rwrN q m (rwrR v q).2 from rwrN_ok (by rw [hf]), hf, show C - (k + 1) = m by omega]
        · refine weak_to' [0, 1, 5, 6, 7] [0, 100, 101, 102, 103, 104, 105, 106, 107, 108, 109, 110, 12, 13, 14, 15, 16, 17, 18, 19, 20, 21, 22] ?_ (by decide) (stay_of rfl)
          simp -implicitDefEqProofs only [go_sem, St.keep, rkS, rkS0, rkE, rkB, rkB0, intB, longB, boolB, hw1]
      · have hne : (e = 0) = False := eq_false he
        simp -implicitDefEqProofs only [go_sem, rkS, rkS0, rkE, rkB, rkB0, intB, longB, boolB, hne]
        refine ⟨[0, 1, 2, 3, 4, 5, 6, 7, 8, 9, 10, 11, 12, 13, 14, 15, 16, 17, 18, 19, 20, 21, 22], by decide, rfl, e, w', T1, ?_, rfl, ?_, fun h => absurd h he⟩
        · rw [hrc, ← hG, hm, show rwrN q (m + 1) v = rwrR v q from rwrN_bad (by rw [hf]; exact he), hf]
        · simp -implicitDefEqProofs only [go_sem, rkS, rkS0, rkE, rkB, rkB0, intB, longB, boolB]
    · have hlt : ((k : Int) < (C : Int)) = False := eq_false (by omega)
      simp -implicitDefEqProofs only [go_sem, doS, rkS, rkS0, rkE, rkB, rkB0, intB, longB, boolB, hlt]
      rw [show C - k = 0 by omega] at hG
      refine ⟨[0, 1, 2, 3, 4, 5, 6, 7, 8, 9, 10, 11, 12, 13, 14, 15, 16, 17, 18, 19, 20, 21, 22], by decide, rfl, 0, v, T1, by rw [hrc, ← hG]; rfl, rfl, ?_, fun _ => hT1⟩
      simp -implicitDefEqProofs only [go_sem, rkS, rkS0, rkE, rkB, rkB0, intB, longB, boolB]
end Go.Proofs.YtdgoompjoeffcaaGreat
