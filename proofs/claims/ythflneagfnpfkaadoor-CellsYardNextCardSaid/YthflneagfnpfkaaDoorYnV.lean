/- The yard's step: it turns with its neighbourhood. -/
import Derived.Test.YthflneagfnpfkaaDoorProg
import Derived.Test.YthflneagfnpfkaaDoorPmU
import Derived.Test.YthflneagfnpfkaaDoorYnT
set_option linter.unusedSimpArgs false
set_option linter.unusedVariables false
set_option maxRecDepth 20000
open Go Go.Proofs
namespace Go.Proofs.YthflneagfnpfkaaDoor
open Pm
attribute [local irreducible] Wait CallT CallW Le Weak
def D (y : Y) : Y := { y with d := lft y.d }
def turn (y : Y) : Y := if y.k ≠ 0 ∧ y.k ≠ 14 then D y else y
def turnN (v : Nb) : Nb := ⟨turn v.s, turn v.e, turn v.n, turn v.w⟩
theorem turn_D {y : Y} (h : y.k ≠ 0 ∧ y.k ≠ 14) : turn y = D y := if_pos h
theorem turn_k (y : Y) : (turn y).k = y.k := by unfold turn; split <;> rfl
theorem turn_s (y : Y) : (turn y).s = y.s := by unfold turn; split <;> rfl
theorem turn_a (y : Y) : (turn y).a = y.a := by unfold turn; split <;> rfl
theorem turn_b (y : Y) : (turn y).b = y.b := by unfold turn; split <;> rfl
theorem turn_p (y : Y) : (turn y).p = y.p := by unfold turn; split <;> rfl
theorem turn_q (y : Y) : (turn y).q = y.q := by unfold turn; split <;> rfl
theorem turn_t (y : Y) : (turn y).t = y.t := by unfold turn; split <;> rfl
theorem turn_r (y : Y) : (turn y).r = y.r := by unfold turn; split <;> rfl
theorem turn_c (y : Y) : (turn y).c = y.c := by unfold turn; split <;> rfl
theorem turn_d {y : Y} (h : y.k ≠ 0 ∧ y.k ≠ 14) : (turn y).d = lft y.d := by rw [turn_D h]; rfl
structure DR (y : Y) : Prop where
  d0 : 0 ≤ y.d
  d1 : y.d ≤ 3
theorem OKF.dr {y : Y} (f : OKF y) : DR y := ⟨f.d0, f.d1⟩
theorem lft_inj {a b : Int} (a0 : 0 ≤ a) (a1 : a ≤ 3) (b0 : 0 ≤ b) (b1 : b ≤ 3) : (lft a = lft b) = (a = b) := by
  unfold lft
  exact propext ⟨fun h => by omega, fun h => by rw [h]⟩
theorem opp_lft (d : Int) : opp (lft d) = lft (opp d) := by unfold opp lft; omega
theorem at_lft (v : Nb) (d : Int) (h0 : 0 ≤ d) (h1 : d ≤ 3) : (turnN v).at (lft d) = turn (v.at d) := by
  rcases at_dec v d h0 h1 with rfl | rfl | rfl | rfl <;> rfl
theorem side_dr {y : Y} (f : DR y) : 0 ≤ sideM y ∧ sideM y ≤ 3 := by
  unfold sideM; split <;> simp only [lft, rgt] <;> omega
theorem side_turn {y : Y} (h : y.k ≠ 0 ∧ y.k ≠ 14) : sideM (turn y) = lft (sideM y) := by
  unfold sideM
  rw [turn_s, turn_d h]
  split <;> simp only [lft, rgt] <;> omega
theorem offer_turn (y : Y) (f : DR y) (d : Int) (h0 : 0 ≤ d) (h1 : d ≤ 3) : offerM (turn y) (lft d) = offerM y d := by
  have hs := side_dr f
  by_cases h : y.k ≠ 0 ∧ y.k ≠ 14
  · unfold offerM
    rw [side_turn h, turn_d h]
    simp only [turn_k, turn_a, turn_b, turn_t, turn_p, lft_inj h0 h1 f.d0 f.d1, lft_inj h0 h1 hs.1 hs.2]
  · have : y.k = 0 ∨ y.k = 14 := by omega
    unfold offerM
    simp only [turn_k]
    rcases this with e | e <;> simp [e]
theorem ready2_turn (y : Y) (f : DR y) (d : Int) (h0 : 0 ≤ d) (h1 : d ≤ 3) (sec : Bool) : ready2M (turn y) (lft d) sec = ready2M y d sec := by
  have hs := side_dr f
  have ho := opp_bd y.d
  have ho' := opp_bd (sideM y)
  by_cases h : y.k ≠ 0 ∧ y.k ≠ 14
  · unfold ready2M
    rw [side_turn h, turn_d h]
    simp only [turn_k, turn_a, turn_b, turn_t, turn_p, opp_lft, ne_eq, lft_inj h0 h1 f.d0 f.d1, lft_inj h0 h1 hs.1 hs.2, lft_inj h0 h1 ho.1 ho.2, lft_inj h0 h1 ho'.1 ho'.2]
  · have : y.k = 0 ∨ y.k = 14 := by omega
    unfold ready2M
    simp only [turn_k]
    rcases this with e | e <;> simp [e]
theorem ready_turn (y : Y) (f : DR y) (d : Int) (h0 : 0 ≤ d) (h1 : d ≤ 3) : readyM (turn y) (lft d) = readyM y d := by
  have hs := side_dr f
  have ho := opp_bd y.d
  have ho' := opp_bd (sideM y)
  by_cases h : y.k ≠ 0 ∧ y.k ≠ 14
  · unfold readyM
    rw [side_turn h, turn_d h]
    simp only [turn_k, turn_a, turn_b, turn_t, turn_p, opp_lft, ne_eq, lft_inj h0 h1 f.d0 f.d1, lft_inj h0 h1 hs.1 hs.2, lft_inj h0 h1 ho.1 ho.2, lft_inj h0 h1 ho'.1 ho'.2]
  · have : y.k = 0 ∨ y.k = 14 := by omega
    unfold readyM
    simp only [turn_k]
    rcases this with e | e <;> simp [e]
theorem net_turn (y : Y) : netM (turn y) = netM y := by unfold netM; rw [turn_k]
theorem gave_turn (v : Nb) (hv : OKN v) (y : Y) (f : DR y) (d : Int) (h0 : 0 ≤ d) (h1 : d ≤ 3) : gaveM (turnN v) (turn y) (lft d) = gaveM v y d := by
  have ho := opp_bd d
  unfold gaveM
  rw [offer_turn y f d h0 h1, at_lft v d h0 h1, net_turn, opp_lft, ready_turn _ (hv.at d).dr _ ho.1 ho.2]
theorem lft_add (d t : Int) : (lft d + t) % 4 = lft ((d + t) % 4) := by unfold lft; omega
theorem taken_turn (v : Nb) (hv : OKN v) (y : Y) (f : DR y) (h : y.k ≠ 0 ∧ y.k ≠ 14) (sec : Bool) : ∀ ts : List Int, takenL (turnN v) (turn y) sec ts = takenL v y sec ts
  | [] => rfl
  | t :: ts => by
    have h0 : 0 ≤ (y.d + t) % 4 := by omega
    have h1 : (y.d + t) % 4 ≤ 3 := by omega
    have ho := opp_bd ((y.d + t) % 4)
    simp only [takenL]
    rw [taken_turn v hv y f h sec ts, turn_d h, lft_add, ready2_turn y f _ h0 h1, at_lft v _ h0 h1, opp_lft, offer_turn _ (hv.at _).dr _ ho.1 ho.2]
theorem aims_turn (v : Nb) (hv : OKN v) (d : Int) (h0 : 0 ≤ d) (h1 : d ≤ 3) (h : (v.at d).k ≠ 0 ∧ (v.at d).k ≠ 14) : aimsM (turnN v) (lft d) = aimsM v d := by
  have ho := opp_bd d
  unfold aimsM
  rw [at_lft v d h0 h1, turn_d h, opp_lft]
  simp only [lft_inj (hv.at d).d0 (hv.at d).d1 ho.1 ho.2]
theorem rfrom_turn (v : Nb) (hv : OKN v) (y : Y) (h : y.k ≠ 0 ∧ y.k ≠ 14) (last : Bool) : ∀ ts : List Int, rfromL (turnN v) (turn y) last ts = rfromL v y last ts
  | [] => rfl
  | t :: ts => by
    have h0 : 0 ≤ (y.d + t) % 4 := by omega
    have h1 : (y.d + t) % 4 ≤ 3 := by omega
    simp only [rfromL]
    rw [rfrom_turn v hv y h last ts, turn_d h, lft_add, at_lft v _ h0 h1, turn_k, turn_a]
    by_cases hk : (v.at ((y.d + t) % 4)).k = 9
    · rw [aims_turn v hv _ h0 h1 (by omega)]
    · simp only [hk, false_and, reduceIte]
theorem copies_turn (y : Y) : copiesM (turn y) = copiesM y := by
  unfold copiesM
  simp only [turn_k, turn_a, turn_t, turn_q]
theorem reader_turn (v : Nb) (hv : OKN v) (y : Y) (f : DR y) (hk : y.k = 8) : readerR (turnN v) (turn y) = D (readerR v y) := by
  have h : y.k ≠ 0 ∧ y.k ≠ 14 := by omega
  have hs := side_dr f
  have hf := hv.at (sideM y)
  have e1 : rootM (turnN v) (turn y) = rootM v y := by
    unfold rootM
    rw [side_turn h, at_lft v _ hs.1 hs.2, turn_k, turn_r]
    by_cases k9 : (v.at (sideM y)).k = 9
    · rw [turn_d (by omega)]; simp only [lft_inj hf.d0 hf.d1 hs.1 hs.2]
    · simp only [k9, false_and]
  have e2 : fadeM (turnN v) (turn y) = fadeM v y := by
    unfold fadeM
    rw [side_turn h, at_lft v _ hs.1 hs.2, turn_k]
    by_cases k9 : (v.at (sideM y)).k = 15
    · rw [turn_d (by omega)]; simp only [lft_inj hf.d0 hf.d1 hs.1 hs.2]
    · simp only [k9, false_and]
  have e3 : rrP (turnN v) (turn y) = rrP v y := by unfold rrP; rw [e2, turn_p]
  have e4 : rcM (turnN v) (turn y) = rcM v y := by
    unfold rcM; rw [e1, copies_turn, side_turn h, at_lft v _ hs.1 hs.2, turn_a]
  have e5 : gaveM (turnN v) (turn y) (turn y).d = gaveM v y y.d := by rw [turn_d h, gave_turn v hv y f _ f.d0 f.d1]
  have e6 : rrT1 (turnN v) (turn y) = rrT1 v y := by unfold rrT1; rw [e5, turn_t]
  have e7 : rrT2 (turnN v) (turn y) = rrT2 v y := by unfold rrT2; rw [e4, e6]
  have e8 : rrT3 (turnN v) (turn y) = rrT3 v y := by unfold rrT3; rw [e2, e7]
  have e9 : rrQ (turnN v) (turn y) = rrQ v y := by unfold rrQ; rw [e4, turn_q]
  have e10 := taken_turn v hv y f h false TS
  have eM : rrMid (turnN v) (turn y) = D (rrMid v y) := by
    unfold rrMid
    rw [e3, e8, e9, e10, turn_a, turn_p, turn_D h]
    (repeat' split) <;> rfl
  unfold readerR
  rw [eM, e1, e2, side_turn h, at_lft v _ hs.1 hs.2, turn_q]
  (repeat' split) <;> rfl
theorem arm_turn (v : Nb) (hv : OKN v) (y : Y) (f : DR y) (hk : y.k = 9) : armR (turnN v) (turn y) = turn (armR v y) := by
  have h : y.k ≠ 0 ∧ y.k ≠ 14 := by omega
  have hd := hv.at y.d
  have ho := opp_bd y.d
  have hg := hv.at (opp y.d)
  have ea : (turnN v).at (turn y).d = turn (v.at y.d) := by rw [turn_d h, at_lft v _ f.d0 f.d1]
  have eo : (turnN v).at (opp (turn y).d) = turn (v.at (opp y.d)) := by rw [turn_d h, opp_lft, at_lft v _ ho.1 ho.2]
  have eb : (v.at y.d).k = 9 → backM (turnN v) (turn y) = backM v y := fun k9 => by
    unfold backM
    rw [ea, turn_d (by omega), turn_d h, opp_lft]
    simp only [lft_inj hd.d0 hd.d1 ho.1 ho.2]
  have eq : armQR (turnN v) (turn y) = armQR v y := by
    unfold armQR
    rw [ea]
    simp only [turn_k, turn_p, turn_q]
    by_cases k9 : (v.at y.d).k = 9
    · rw [eb k9]
    · simp only [k9, false_and]
  have ef := rfrom_turn v hv y h false TS4
  have es : (copiesM (v.at (opp y.d)) = true ∧ sideM (turn (v.at (opp y.d))) = (turn y).d) = (copiesM (v.at (opp y.d)) = true ∧ sideM (v.at (opp y.d)) = y.d) := by
    by_cases c8 : copiesM (v.at (opp y.d)) = true
    · have k8 : (v.at (opp y.d)).k = 8 := by simp only [copiesM, decide_eq_true_eq] at c8; exact c8.1
      have hs := side_dr hg.dr
      rw [side_turn (by omega), turn_d h, lft_inj hs.1 hs.2 f.d0 f.d1]
    · simp only [c8, false_and, Bool.false_eq_true]
  have eA : armAR (turnN v) (turn y) = armAR v y := by
    unfold armAR
    rw [ea, eo, ef, copies_turn]
    simp only [turn_k, turn_a, turn_r, turn_p, es]
    by_cases k9 : (v.at y.d).k = 9
    · rw [eb k9]
    · simp only [k9, false_and, false_or]
  unfold armR
  rw [ea, eA, eq]
  simp only [turn_k, turn_p, turn_a, turn_c, turn_r, turn_s, turn_b, turn_t, turn_d h]
  (repeat' split) <;> first | rfl | (refine Eq.symm ?_; exact turn_D h)
theorem port_turn (v : Nb) (hv : OKN v) (y : Y) (f : DR y) (hk : y.k = 13) : portR (turnN v) (turn y) = turn (portR v y) := by
  have h : y.k ≠ 0 ∧ y.k ≠ 14 := by omega
  have ef := rfrom_turn v hv y h false TS4
  have e5 : gaveM (turnN v) (turn y) (turn y).d = gaveM v y y.d := by rw [turn_d h, gave_turn v hv y f _ f.d0 f.d1]
  unfold portR
  rw [ef, e5, turn_p, turn_a]
  obtain ⟨k, d, s, a, b, p, q, t, r, c⟩ := y
  simp only at hk
  subst hk
  (repeat' split) <;> rfl
theorem nets_turn (v : Nb) (hv : OKN v) (y : Y) (f : DR y) (hk : 1 ≤ y.k ∧ y.k ≤ 7) : netR (turnN v) (turn y) = turn (netR v y) := by
  have h : y.k ≠ 0 ∧ y.k ≠ 14 := by omega
  have hs := side_dr f
  have t1 := taken_turn v hv y f h false TS
  have t2 := taken_turn v hv y f h true TS
  have g1 : gaveM (turnN v) (turn y) (turn y).d = gaveM v y y.d := by rw [turn_d h, gave_turn v hv y f _ f.d0 f.d1]
  have g2 : gaveM (turnN v) (turn y) (sideM (turn y)) = gaveM v y (sideM y) := by rw [side_turn h, gave_turn v hv y f _ hs.1 hs.2]
  have e : netR (turnN v) (turn y) = D (netR v y) := by
    unfold netR
    rw [g1, g2, t1, t2, turn_k, turn_a, turn_b, turn_t, turn_p, turn_D h]
    (repeat' split) <;> rfl
  have ek : (netR v y).k = y.k := by
    unfold netR
    (repeat' split) <;> rfl
  rw [e, turn_D (by rw [ek]; exact h)]
theorem head_turn (v : Nb) (hv : OKN v) (y : Y) (f : OKF y) (hk : y.k = 10) (hx : ¬ (y.p = 2 ∧ 24 ≤ y.a)) : headR (turnN v) (turn y) = turn (headR v y) := by
  have h : y.k ≠ 0 ∧ y.k ≠ 14 := by omega
  obtain ⟨o1, o2, o3, o4, o5, o6, o7, o8⟩ := ok10 f hk
  have ef := rfrom_turn v hv y h true TS4
  have ea : (turnN v).at (turn y).d = turn (v.at y.d) := by rw [turn_d h, at_lft v _ f.d0 f.d1]
  unfold headR
  rw [ef, ea, turn_k, turn_p, turn_a]
  generalize rfromL v y true TS4 = s
  by_cases h0 : y.p = 0
  · simp only [h0, reduceIte]
    rw [turn_D h, turn_D (show ({ y with p := 1 } : Y).k ≠ 0 ∧ _ from h)]; rfl
  · by_cases h1 : y.p = 1
    · simp only [h1, Int.reduceEq, reduceIte]
      have d0 := f.d0
      have d1 := f.d1
      have e1 : lft (lft y.d) = lft (lft y.d) := rfl
      have e2 : rgt (lft y.d) = lft (rgt y.d) := by simp only [lft, rgt]; omega
      unfold midR
      rw [turn_D h]
      obtain ⟨k, d, s', a, b, p, q, t, r, c⟩ := y
      simp only at hk e2
      subst hk
      simp only [D, e2]
      try dsimp only
      clear hx h o1 o2 o3 o4 o5 o6 o7 o8 ef ea h0 h1 d0 d1 e1 f
      generalize hc1 : (if 255 < 16 * c + s - 8 then (255 : Int) else 16 * c + s - 8) = c1 at *
      generalize hc2 : (if c < 1 then (1 : Int) else c) = c2 at *
      (repeat' split) <;> first | rfl | (rw [← hc1]; rfl) | (rw [← hc2]; rfl)
    · have h2 := o7 h0 h1
      have h5 : y.a = 5 := by omega
      simp only [h0, h1, h5, turn_k, reduceIte]
      split
      · rw [turn_d h, turn_c]; rfl
      · rfl
theorem born_turn (y : Y) (hk : y.k = 11 ∨ y.k = 15) : bornR (turn y) = turn (bornR y) := by
  have h : y.k ≠ 0 ∧ y.k ≠ 14 := by omega
  unfold bornR
  rw [turn_k, turn_c, turn_d h]
  (repeat' split) <;> rfl
theorem come_turn (v : Nb) (hv : OKN v) (d : Int) (h0 : 0 ≤ d) (h1 : d ≤ 3) : comeR (turnN v) (lft d) = comeR v d := by
  unfold comeR
  rw [at_lft v d h0 h1, turn_k]
  by_cases hk : (v.at d).k = 11 ∨ (v.at d).k = 15
  · rw [aims_turn v hv d h0 h1 (by omega)]
  · simp only [hk, decide_false, Bool.false_and]
theorem void_turn (v : Nb) (hv : OKN v) : voidR (turnN v) = turn (voidR v) := by
  have c0 := come_turn v hv 0 (by omega) (by omega)
  have c1 := come_turn v hv 1 (by omega) (by omega)
  have c2 := come_turn v hv 2 (by omega) (by omega)
  have c3 := come_turn v hv 3 (by omega) (by omega)
  have l0 : lft 0 = 1 := rfl
  have l1 : lft 1 = 2 := rfl
  have l2 : lft 2 = 3 := rfl
  have l3 : lft 3 = 0 := rfl
  have a0 := at_lft v 0 (by omega) (by omega)
  have a1 := at_lft v 1 (by omega) (by omega)
  have a2 := at_lft v 2 (by omega) (by omega)
  have a3 := at_lft v 3 (by omega) (by omega)
  have b0 : comeR v 0 = true → bornR (turn (v.at 0)) = turn (bornR (v.at 0)) := fun h => born_turn _ (by simp only [comeR, Bool.and_eq_true, decide_eq_true_eq] at h; exact h.1)
  have b1 : comeR v 1 = true → bornR (turn (v.at 1)) = turn (bornR (v.at 1)) := fun h => born_turn _ (by simp only [comeR, Bool.and_eq_true, decide_eq_true_eq] at h; exact h.1)
  have b2 : comeR v 2 = true → bornR (turn (v.at 2)) = turn (bornR (v.at 2)) := fun h => born_turn _ (by simp only [comeR, Bool.and_eq_true, decide_eq_true_eq] at h; exact h.1)
  have b3 : comeR v 3 = true → bornR (turn (v.at 3)) = turn (bornR (v.at 3)) := fun h => born_turn _ (by simp only [comeR, Bool.and_eq_true, decide_eq_true_eq] at h; exact h.1)
  have tz : turn zeroY = zeroY := rfl
  rw [l0] at c0 a0
  rw [l1] at c1 a1
  rw [l2] at c2 a2
  rw [l3] at c3 a3
  have z0 : ((0 : Nat) : Int) = 0 := rfl
  have z1 : ((1 : Nat) : Int) = 1 := rfl
  have z2 : ((2 : Nat) : Int) = 2 := rfl
  have z3 : ((3 : Nat) : Int) = 3 := rfl
  unfold voidR
  simp only [cntR, frmR, z0, z1, z2, z3, c0, c1, c2, c3, a0, a1, a2, a3]
  generalize comeR v 0 = e0 at *
  generalize comeR v 1 = e1 at *
  generalize comeR v 2 = e2 at *
  generalize comeR v 3 = e3 at *
  cases e0 <;> cases e1 <;> cases e2 <;> cases e3 <;> simp_all
theorem next_turn (v : Nb) (hv : OKN v) (y : Y) (f : OKF y) (hx : ¬ (y.k = 10 ∧ y.p = 2 ∧ 24 ≤ y.a)) : nextR (turnN v) (turn y) = turn (nextR v y) := by
  have k0 := f.k0
  have k1 := f.k1
  unfold nextR
  rw [turn_k]
  by_cases e0 : y.k = 0
  · simp only [e0, reduceIte]; exact void_turn v hv
  · by_cases en : 1 ≤ y.k ∧ y.k ≤ 7
    · rw [if_neg e0, if_pos (by omega), if_neg e0, if_pos (by omega)]; exact nets_turn v hv y f.dr en
    · have eo : ¬ (y.k = 1 ∨ y.k = 2 ∨ y.k = 7 ∨ y.k = 3 ∨ y.k = 4 ∨ y.k = 5 ∨ y.k = 6) := by omega
      rw [if_neg e0, if_neg eo, if_neg e0, if_neg eo]
      by_cases e14 : y.k = 14
      · simp only [e14, Int.reduceEq, reduceIte]; rfl
      · have h : y.k ≠ 0 ∧ y.k ≠ 14 := ⟨e0, e14⟩
        by_cases e8 : y.k = 8
        · rw [if_pos e8, if_pos e8, reader_turn v hv y f.dr e8, turn_D]
          have : (readerR v y).k = y.k := by unfold readerR rrMid; (repeat' split) <;> rfl
          rw [this]; exact h
        · rw [if_neg e8, if_neg e8]
          by_cases e9 : y.k = 9
          · rw [if_pos e9, if_pos e9]; exact arm_turn v hv y f.dr e9
          · rw [if_neg e9, if_neg e9]
            by_cases e10 : y.k = 10
            · rw [if_pos e10, if_pos e10]; exact head_turn v hv y f e10 (fun hh => hx ⟨e10, hh⟩)
            · rw [if_neg e10, if_neg e10, turn_d h, turn_c, turn_a]
              by_cases e13 : y.k = 13
              · rw [if_neg (by omega), if_neg (by omega), if_pos e13, if_neg (by omega), if_neg (by omega), if_pos e13]; exact port_turn v hv y f.dr e13
              · rw [if_neg e13, if_neg e13, if_neg e14, if_neg e14]
                (repeat' split) <;> rfl
end Go.Proofs.YthflneagfnpfkaaDoor
