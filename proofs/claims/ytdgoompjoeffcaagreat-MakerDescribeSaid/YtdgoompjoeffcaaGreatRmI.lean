import Derived.Test.YtdgoompjoeffcaaGreatProg
import Derived.Test.YtdgoompjoeffcaaGreatPmY
import Derived.Test.YtdgoompjoeffcaaGreatRmG
/- What a tape means, the document's way: a state is written. -/
set_option linter.unusedSimpArgs false
set_option linter.unusedVariables false
set_option maxRecDepth 20000
open Go Go.Proofs
namespace Go.Proofs.YtdgoompjoeffcaaGreat
open Pm
attribute [local irreducible] Wait CallT CallW NextT Le Weak
def rwrR (w : Rk) (s : Int) : Int × Rk :=
  let k := kI w.K (onP (hereP w) (dirOf s))
  if w.at_.length = 1 ∨ kindOf s = 9 ∧ 0 ≤ k ∧ w.A.getD k.toNat false = true then (70, w)
  else (0, { w with S := w.S.set w.here.toNat s, A := w.A.set w.here.toNat false, here := w.at_.getD (w.at_.length - 1) 0, look := w.dir.getD (w.at_.length - 1) 0, at_ := w.at_.take (w.at_.length - 1), dir := w.dir.take (w.at_.length - 1) })
theorem rwrite_con (w : Rk) (T : List Int) (n : Nat) (s : Int) (hT : TabOk T w.K) (hw : RkIn w n) (hn : n < 50000000) (hne : 0 < w.at_.length) :
    Con Tryz.prog 59 [.ptr 0 16 0 0, .v (.int .i64 s)] (rkS w T) fun r h' => ∃ e w', rwrR w s = (e, w') ∧ r = .v (.int .i64 e) ∧ h' = rkS w' T := by
  have hkl := hw.kl
  have hh := hw.h
  have hal := hw.al
  have hda := hw.da
  have hS := hw.s
  have hA := hw.a
  have hok := hw.okk hn
  refine Con.move (Con.wk (con_run 1000 Tryz.func59 rfl Tryz.results59 Tryz.ntmps59 (Nat.le_of_ble_eq_true rfl) ?_))
  obtain ⟨m, hm⟩ : ∃ m, m + 1 = w.at_.length := ⟨w.at_.length - 1, by omega⟩
  obtain ⟨a, b, hab⟩ : ∃ a b, onP (hereP w) (dirOf s) = (a, b) := ⟨_, _, rfl⟩
  have hnr := hw.b _ (hereP_mem hh)
  obtain ⟨hx, hy, hxy⟩ : ∃ hx hy, hereP w = (hx, hy) := ⟨_, _, rfl⟩
  rw [hxy] at hab hnr
  have hdo := dir_ok s
  have hbd : (-100000 ≤ a ∧ a ≤ 100000) ∧ (-100000 ≤ b ∧ b ≤ 100000) := by
    unfold near at hnr
    simp only at hnr
    unfold onP at hab
    split at hab
    · cases hab; omega
    · split at hab
      · cases hab; omega
      · split at hab
        · cases hab; omega
        · cases hab; omega
  have hon := next_pc hx hy (dirOf s) hdo.1 hdo.2 (by unfold near at hnr; simp only at hnr; omega) (by unfold near at hnr; simp only at hnr; omega) (by unfold near at hnr; simp only at hnr; omega) (by unfold near at hnr; simp only at hnr; omega)
  rw [hab] at hon
  have hkn := known_pc T w.K a b (rkR w) hT.tab hw.nd (by have := hT.up; omega) hbd.1 hbd.2 (rkR_ren w) hT.neg
  simp only [xsA, ysA, rkR] at hkn
  have gx := getD_iA (w.K.map Prod.fst) w.here.toNat (by simp; omega)
  have gy := getD_iA (w.K.map Prod.snd) w.here.toNat (by simp; omega)
  have hq : w.K.getD w.here.toNat (0, 0) = (hx, hy) := hxy
  rw [show (w.K.map Prod.fst).getD w.here.toNat 0 = hx by
    have := congrArg Prod.fst hq
    rw [List.getD_eq_getElem?_getD, List.getElem?_eq_getElem (by omega)] at this
    simpa [List.getD_eq_getElem?_getD, List.getElem?_eq_getElem (show w.here.toNat < w.K.length by omega)] using this] at gx
  rw [show (w.K.map Prod.snd).getD w.here.toNat 0 = hy by
    have := congrArg Prod.snd hq
    rw [List.getD_eq_getElem?_getD, List.getElem?_eq_getElem (by omega)] at this
    simpa [List.getD_eq_getElem?_getD, List.getElem?_eq_getElem (show w.here.toNat < w.K.length by omega)] using this] at gy
  simp only [iA] at gx gy
  have gS := get_tA w.S w.here.toNat (by omega)
  have gA := bl_get w.A w.here.toNat (by omega)
  have gt := get_tA w.at_ m (by omega)
  have gd := get_tA w.dir m (by omega)
  obtain ⟨kk, hkk⟩ : ∃ kk, kk = kI w.K (a, b) := ⟨_, rfl⟩
  have hkb := kI_lt w.K (a, b)
  rw [← hkk] at hkn hkb
  obtain ⟨a2, a3, a4, a5, a6, a7, a8, a9, hy10⟩ := ryard10 s
  have hyp := refYardOf_pc s
  rw [hy10] at hyp
  simp only [yA, iA, List.map_cons, List.map_nil] at hyp
  have f1 : (0 ≤ w.here) = True := eq_true hh.1
  have f2 : (w.here < (w.K.length : Int)) = True := eq_true hh.2
  have f4 : (w.here < (w.S.length : Int)) = True := eq_true (by omega)
  have f5 : (w.here < (w.A.length : Int)) = True := eq_true (by omega)
  have f6 : (w.here.toNat < w.S.length) = True := eq_true (by omega)
  have f7 : (w.here.toNat < w.A.length) = True := eq_true (by omega)
  have e1 : IntKind.i64.wrap ((w.at_.length : Int) - 1) = (m : Int) := by rw [wrap64 (by omega) (by omega)]; omega
  have i1 : (m < w.at_.length) = True := eq_true (by omega)
  have i2 : ((m : Int) < (w.at_.length : Int)) = True := eq_true (by omega)
  have i3 : (m < w.dir.length) = True := eq_true (by omega)
  have i4 : ((m : Int) < (w.dir.length : Int)) = True := eq_true (by omega)
  have hr : rwrR w s = (if w.at_.length = 1 ∨ kindOf s = 9 ∧ 0 ≤ kk ∧ w.A.getD kk.toNat false = true then (70, w)
      else (0, { w with S := w.S.set w.here.toNat s, A := w.A.set w.here.toNat false, here := w.at_.getD m 0, look := w.dir.getD m 0, at_ := w.at_.take m, dir := w.dir.take m })) := by
    unfold rwrR
    rw [hxy, hab]
    simp only [← hkk, show w.at_.length - 1 = m by omega]
  have l1 : (w.at_.take m).length = m := by rw [List.length_take]; omega
  have l2 : (w.dir.take m).length = m := by rw [List.length_take]; omega
  have t1 : (w.at_.map iA).take m = (w.at_.take m).map iA := List.map_take.symm
  have t2 : (w.dir.map iA).take m = (w.dir.take m).map iA := List.map_take.symm
  by_cases hk0 : 0 ≤ kk
  · have gK := bl_get w.A kk.toNat (by omega)
    have k1 : (0 ≤ kk) = True := eq_true hk0
    have k2 : (kk < (w.A.length : Int)) = True := eq_true (by omega)
    have k3 : (kk < 0) = False := eq_false (by omega)
    simp -implicitDefEqProofs only [go_sem, rkS, rkB, intB, longB, boolB, gx, gy, f1, f2, e1]
    (repeat' (first | exact trivial | contradiction | exact ⟨_, rfl⟩ | refine And.intro ?_ ?_ | (refine om ?_; omega) | (refine wait_draw 1000 mixed (by decide +kernel) ?_; simp -implicitDefEqProofs only [go_sem, rkS, rkB, intB, longB, boolB, gx, gy, gS, gA, gt, gd, gK, f1, f2, f4, f5, f6, f7, e1, i1, i2, i3, i4, k1, k2, k3]) | ((first | refine call_eq_read 1000 (hon) ?_ ?_ ?_ rfl | refine call_draw_read 1000 (hon) ?_ ?_ ?_ | refine call_eq_read 1000 (hkn) ?_ ?_ ?_ rfl | refine call_draw_read 1000 (hkn) ?_ ?_ ?_ | refine call_eq_read 1000 (hyp) ?_ ?_ ?_ rfl | refine call_draw_read 1000 (hyp) ?_ ?_ ?_); (focus (simp -implicitDefEqProofs only [go_sem, rkS, rkB, intB, longB, boolB, gx, gy, gS, gA, gt, gd, gK, f1, f2, f4, f5, f6, f7, e1, i1, i2, i3, i4, k1, k2, k3]; done)); (focus ((first | intro ext | skip); simp -implicitDefEqProofs only [go_sem, rkS, rkB, intB, longB, boolB, gx, gy, gS, gA, gt, gd, gK, f1, f2, f4, f5, f6, f7, e1, i1, i2, i3, i4, k1, k2, k3]; done)); simp -implicitDefEqProofs only [go_sem, rkS, rkB, intB, longB, boolB, gx, gy, gS, gA, gt, gd, gK, f1, f2, f4, f5, f6, f7, e1, i1, i2, i3, i4, k1, k2, k3]) | intro _))
    all_goals first
      | (have h1 : w.at_.length = 1 ∨ kindOf s = 9 ∧ 0 ≤ kk ∧ w.A.getD kk.toNat false = true := by first | exact .inl (by omega) | exact .inr ⟨‹_›, by omega, ‹_›⟩
         refine ⟨_, WeakH.refl _, [0, 1, 2, 3, 4, 5, 6, 7, 8, 9, 10, 11], by decide, rfl, 70, w, hr.trans (if_pos h1), rfl, ?_⟩
         simp -implicitDefEqProofs only [go_sem, rkS, rkB, intB, longB, boolB])
      | (have h1 : ¬ (w.at_.length = 1 ∨ kindOf s = 9 ∧ 0 ≤ kk ∧ w.A.getD kk.toNat false = true) := by
           rintro (h | ⟨h2, h3, h4⟩)
           · omega
           · first
             | (exact absurd h2 ‹_›)
             | (rw [‹w.A.getD kk.toNat false = false›] at h4; cases h4)
             | omega
         refine ⟨_, (cutH 7 m rfl).trans (cutH 8 m rfl), [0, 1, 2, 3, 4, 5, 6, 7, 8, 9, 10, 11], by decide, rfl, 0, _, hr.trans (if_neg h1), rfl, ?_⟩
         simp -implicitDefEqProofs only [go_sem, rkS, rkB, intB, longB, boolB, l1, l2, t1, t2, Nat.sub_zero, List.length_set])
  · have k1 : (0 ≤ kk) = False := eq_false hk0
    simp -implicitDefEqProofs only [go_sem, rkS, rkB, intB, longB, boolB, gx, gy, f1, f2, e1]
    (repeat' (first | exact trivial | contradiction | exact ⟨_, rfl⟩ | refine And.intro ?_ ?_ | (refine om ?_; omega) | (refine wait_draw 1000 mixed (by decide +kernel) ?_; simp -implicitDefEqProofs only [go_sem, rkS, rkB, intB, longB, boolB, gx, gy, gS, gA, gt, gd, f1, f2, f4, f5, f6, f7, e1, i1, i2, i3, i4, k1]) | ((first | refine call_eq_read 1000 (hon) ?_ ?_ ?_ rfl | refine call_draw_read 1000 (hon) ?_ ?_ ?_ | refine call_eq_read 1000 (hkn) ?_ ?_ ?_ rfl | refine call_draw_read 1000 (hkn) ?_ ?_ ?_ | refine call_eq_read 1000 (hyp) ?_ ?_ ?_ rfl | refine call_draw_read 1000 (hyp) ?_ ?_ ?_); (focus (simp -implicitDefEqProofs only [go_sem, rkS, rkB, intB, longB, boolB, gx, gy, gS, gA, gt, gd, f1, f2, f4, f5, f6, f7, e1, i1, i2, i3, i4, k1]; done)); (focus ((first | intro ext | skip); simp -implicitDefEqProofs only [go_sem, rkS, rkB, intB, longB, boolB, gx, gy, gS, gA, gt, gd, f1, f2, f4, f5, f6, f7, e1, i1, i2, i3, i4, k1]; done)); simp -implicitDefEqProofs only [go_sem, rkS, rkB, intB, longB, boolB, gx, gy, gS, gA, gt, gd, f1, f2, f4, f5, f6, f7, e1, i1, i2, i3, i4, k1]) | intro _))
    all_goals first
      | (have h1 : w.at_.length = 1 ∨ kindOf s = 9 ∧ 0 ≤ kk ∧ w.A.getD kk.toNat false = true := by first | exact .inl (by omega) | exact .inr ⟨‹_›, by omega, ‹_›⟩
         refine ⟨_, WeakH.refl _, [0, 1, 2, 3, 4, 5, 6, 7, 8, 9, 10, 11], by decide, rfl, 70, w, hr.trans (if_pos h1), rfl, ?_⟩
         simp -implicitDefEqProofs only [go_sem, rkS, rkB, intB, longB, boolB])
      | (have h1 : ¬ (w.at_.length = 1 ∨ kindOf s = 9 ∧ 0 ≤ kk ∧ w.A.getD kk.toNat false = true) := by
           rintro (h | ⟨h2, h3, h4⟩)
           · omega
           · first
             | (exact absurd h2 ‹_›)
             | (rw [‹w.A.getD kk.toNat false = false›] at h4; cases h4)
             | omega
         refine ⟨_, (cutH 7 m rfl).trans (cutH 8 m rfl), [0, 1, 2, 3, 4, 5, 6, 7, 8, 9, 10, 11], by decide, rfl, 0, _, hr.trans (if_neg h1), rfl, ?_⟩
         simp -implicitDefEqProofs only [go_sem, rkS, rkB, intB, longB, boolB, l1, l2, t1, t2, Nat.sub_zero, List.length_set])
end Go.Proofs.YtdgoompjoeffcaaGreat
/- What a tape means, the document's way: what the walk keeps. -/
namespace Go.Proofs.YtdgoompjoeffcaaGreat
open Pm
attribute [local irreducible] Wait CallT CallW NextT Le Weak
structure RkX (w : Rk) (n : Nat) : Prop where
  i : RkIn w n
  ne : 0 < w.at_.length
  ai : ∀ a ∈ w.at_, 0 ≤ a ∧ a < w.K.length
  di : ∀ d ∈ w.dir, 0 ≤ d ∧ d < 4
theorem RkX.le {w : Rk} {n m : Nat} (h : RkX w n) (hm : n ≤ m) : RkX w m :=
  ⟨⟨h.i.nd, h.i.s, h.i.a, h.i.r, h.i.b, Nat.le_trans h.i.kl (by omega), h.i.h, h.i.l, ⟨h.i.ro.1, by have := h.i.ro.2; omega⟩, h.i.da, Nat.le_trans h.i.al (by omega)⟩, h.ne, h.ai, h.di⟩
theorem mark_R (w : Rk) (k : Nat) : (markW w k).S = w.S ∧ (markW w k).A.length = w.A.length ∧ (markW w k).R.length = w.R.length ∧ (markW w k).here = w.here ∧ (markW w k).look = w.look ∧ (markW w k).at_ = w.at_ ∧ (markW w k).dir = w.dir ∧ w.roads ≤ (markW w k).roads ∧ (markW w k).roads ≤ w.roads + 1 ∧ (markW w k).count = w.count ∧ ((markW w k).arms = w.arms ∧ (markW w k).acts = w.acts ∧ (markW w k).wr = w.wr) := by
  unfold markW
  split
  · refine ⟨rfl, by simp, rfl, rfl, rfl, rfl, rfl, by simp only; omega, by simp only; omega, rfl, rfl, rfl, rfl⟩
  · refine ⟨rfl, by simp, by simp, rfl, rfl, rfl, rfl, by simp only; omega, by simp only; omega, rfl, rfl, rfl, rfl⟩
theorem rfwdR_inv {w w' : Rk} {n : Nat} (h : RkX w n) (e : rfwdR w = (0, w')) : RkX w' (n + 1) ∧ w'.count = w.count ∧ (w'.arms = w.arms ∧ w'.acts = w.acts ∧ w'.wr = w.wr) := by
  unfold rfwdR at e
  simp only at e
  split at e
  · cases e
  · rename_i h1
    split at e
    · cases e
    · split at e
      · cases e
      · simp only [Prod.mk.injEq, true_and] at e
        obtain ⟨p, hp⟩ : ∃ p, p = onP (hereP w) w.look := ⟨_, rfl⟩
        rw [← hp] at e h1
        obtain ⟨hS1, hA1, hR1, hnd1, hmem1, hkl1⟩ := spot_len h.i (p := p)
        obtain ⟨hsm1, hsm2, hsm3, hsm4, hsm5, hsm6, hsm7⟩ := spot_same w p
        have hKs : ∀ q ∈ (spotW w p).K, near q := by
          intro q hq
          by_cases hm : p ∈ w.K
          · rw [spot_old hm] at hq; exact h.i.b q hq
          · rw [spot_new hm] at hq
            rcases List.mem_append.1 hq with hq | hq
            · exact h.i.b q hq
            · rw [List.mem_singleton.1 hq]; unfold near; omega
        have hKl : w.K.length ≤ (spotW w p).K.length := by
          by_cases hm : p ∈ w.K
          · rw [spot_old hm]; exact Nat.le_refl _
          · rw [spot_new hm]; simp
        have harm : (spotW w p).arms = w.arms ∧ (spotW w p).acts = w.acts ∧ (spotW w p).wr = w.wr := by unfold spotW; split <;> exact ⟨rfl, rfl, rfl⟩
        obtain ⟨k, hk, hkl2, -⟩ := kI_mem hmem1
        rw [hk, Int.toNat_natCast] at e
        have hal := h.i.al
        have hda := h.i.da
        have hro := h.i.ro
        have hkl := h.i.kl
        have hai := h.ai
        have hdi := h.di
        have hll := h.i.l
        have hhh := h.i.h
        generalize spotW w p = w1 at *
        obtain ⟨m1, m2, m3, m4, m5, m6, m7, m8, m9, m10, m11⟩ := mark_R (pushW w1 k) k
        have mK := mark_K (pushW w1 k) k
        generalize markW (pushW w1 k) k = w2 at *
        subst e
        simp only [pushW] at m1 m2 m3 m4 m5 m6 m7 m8 m9 m10 m11 mK
        refine ⟨⟨⟨?_, ?_, ?_, ?_, ?_, ?_, ?_, ?_, ?_, ?_, ?_⟩, ?_, ?_, ?_⟩, ?_, ?_⟩
        all_goals simp only [longW]
        · rw [mK]; exact hnd1
        · rw [mK, m1]; exact hS1
        · rw [mK, m2]; exact hA1
        · rw [mK, m3]; exact hR1
        · rw [mK]; exact hKs
        · rw [mK]; omega
        · rw [mK, m4]; omega
        · rw [m5, hsm2]; exact hll
        · omega
        · rw [m6, m7, List.length_append, List.length_append, hsm3, hsm4, hda]; rfl
        · rw [m6, List.length_append, hsm3]; simp; omega
        · rw [m6]; simp
        · rw [m6, mK]
          intro a ha
          rcases List.mem_append.1 ha with ha | ha
          · rw [hsm3] at ha; have := hai a ha; omega
          · rw [List.mem_singleton.1 ha, hsm1]; omega
        · rw [m7]
          intro d hd
          rcases List.mem_append.1 hd with hd | hd
          · rw [hsm4] at hd; exact hdi d hd
          · rw [List.mem_singleton.1 hd, hsm2]; exact hll
        · rw [m10, hsm7]
        · rw [m11.1, m11.2.1, m11.2.2]; exact harm
theorem rwrR_inv {w w' : Rk} {s : Int} {n : Nat} (h : RkX w n) (e : rwrR w s = (0, w')) : RkX w' n ∧ w'.count = w.count ∧ (w'.arms = w.arms ∧ w'.acts = w.acts ∧ w'.wr = w.wr) := by
  unfold rwrR at e
  simp only at e
  split at e
  · cases e
  · rename_i h1
    have h0 : ¬ w.at_.length = 1 := fun h2 => h1 (.inl h2)
    have hne := h.ne
    have hda := h.i.da
    simp only [Prod.mk.injEq, true_and] at e
    subst e
    have g1 : w.at_.getD (w.at_.length - 1) 0 ∈ w.at_ := by
      rw [List.getD_eq_getElem?_getD, List.getElem?_eq_getElem (by omega)]; exact List.getElem_mem _
    have g2 : w.dir.getD (w.at_.length - 1) 0 ∈ w.dir := by
      rw [List.getD_eq_getElem?_getD, List.getElem?_eq_getElem (by omega)]; exact List.getElem_mem _
    refine ⟨⟨⟨h.i.nd, ?_, ?_, h.i.r, h.i.b, h.i.kl, h.ai _ g1, h.di _ g2, h.i.ro, ?_, ?_⟩, ?_, fun a ha => h.ai a (List.mem_of_mem_take ha), fun d hd => h.di d (List.mem_of_mem_take hd)⟩, rfl, rfl, rfl, rfl⟩
    · simp only [List.length_set]; exact h.i.s
    · simp only [List.length_set]; exact h.i.a
    · simp only [List.length_take]; omega
    · have := h.i.al; simp only [List.length_take]; omega
    · simp only [List.length_take]; omega
def rfwdN : Nat → Rk → Int × Rk
  | 0, w => (0, w)
  | k + 1, w => let r := rfwdR w; if r.1 = 0 then rfwdN k r.2 else r
def rwrN (s : Int) : Nat → Rk → Int × Rk
  | 0, w => (0, w)
  | k + 1, w => let r := rwrR w s; if r.1 = 0 then rwrN s k r.2 else r
theorem rfwdN_bad {k : Nat} {w : Rk} (h : (rfwdR w).1 ≠ 0) : rfwdN (k + 1) w = rfwdR w := by simp only [rfwdN, if_neg h]
theorem rfwdN_ok {k : Nat} {w : Rk} (h : (rfwdR w).1 = 0) : rfwdN (k + 1) w = rfwdN k (rfwdR w).2 := by simp only [rfwdN, if_pos h]
theorem rwrN_bad {s : Int} {k : Nat} {w : Rk} (h : (rwrR w s).1 ≠ 0) : rwrN s (k + 1) w = rwrR w s := by simp only [rwrN, if_neg h]
theorem rwrN_ok {s : Int} {k : Nat} {w : Rk} (h : (rwrR w s).1 = 0) : rwrN s (k + 1) w = rwrN s k (rwrR w s).2 := by simp only [rwrN, if_pos h]
theorem rfwdN_inv : ∀ (k n : Nat) (w w' : Rk), RkX w n → rfwdN k w = (0, w') → RkX w' (n + k) ∧ w'.count = w.count ∧ (w'.arms = w.arms ∧ w'.acts = w.acts ∧ w'.wr = w.wr)
  | 0, n, w, w', h, e => by cases e; exact ⟨h, rfl, rfl, rfl, rfl⟩
  | k + 1, n, w, w', h, e => by
    simp only [rfwdN] at e
    split at e
    · rename_i h0
      obtain ⟨h1, h2, h2'⟩ := rfwdR_inv (w' := (rfwdR w).2) h (by rw [← h0])
      obtain ⟨h3, h4, h4'⟩ := rfwdN_inv k (n + 1) _ w' h1 e
      exact ⟨by rw [show n + (k + 1) = n + 1 + k by omega]; exact h3, h4.trans h2, h4'.1.trans h2'.1, h4'.2.1.trans h2'.2.1, h4'.2.2.trans h2'.2.2⟩
    · rename_i h0; rw [e] at h0; exact absurd rfl h0
theorem rwrN_inv (s : Int) : ∀ (k n : Nat) (w w' : Rk), RkX w n → rwrN s k w = (0, w') → RkX w' n ∧ w'.count = w.count ∧ (w'.arms = w.arms ∧ w'.acts = w.acts ∧ w'.wr = w.wr)
  | 0, n, w, w', h, e => by cases e; exact ⟨h, rfl, rfl, rfl, rfl⟩
  | k + 1, n, w, w', h, e => by
    simp only [rwrN] at e
    split at e
    · rename_i h0
      obtain ⟨h1, h2, h2'⟩ := rwrR_inv (w' := (rwrR w s).2) h (by rw [← h0])
      obtain ⟨h3, h4, h4'⟩ := rwrN_inv s k n _ w' h1 e
      exact ⟨h3, h4.trans h2, h4'.1.trans h2'.1, h4'.2.1.trans h2'.2.1, h4'.2.2.trans h2'.2.2⟩
    · rename_i h0; rw [e] at h0; exact absurd rfl h0
/-- What a command does before it acts. -/
def rpreR (w : Rk) (s : Int) : Rk :=
  let q : Bool := decide (8 ≤ s ∧ s < 24 ∨ s = 6 ∨ s = 7)
  let a : Int := if q = true then 0 else max w.count 1
  let x : Bool := !q && decide (24 ≤ s)
  let c : Int := if 8 ≤ s ∧ s < 24 then min (16 * w.count + s - 8) 255 else 0
  let l : Int := if s = 6 then (w.look + 1).tmod 4 else if s = 7 then (w.look + 3).tmod 4 else w.look
  { w with arms := w.arms ++ [(w.at_.length : Int)], acts := w.acts ++ [a], wr := w.wr ++ [x], count := c, look := l }
def rcmdR (w : Rk) (s : Int) : Int × Rk :=
  if 8 ≤ s ∧ s < 24 ∨ s = 6 ∨ s = 7 then (0, rpreR w s)
  else if 24 ≤ s then rwrN (RefWrittenStateE (s - 24)).1 (max w.count 1).toNat (rpreR w s) else rfwdN (max w.count 1).toNat (rpreR w s)
theorem rpre_x {w : Rk} {s : Int} {n : Nat} (h : RkX w n) : RkX (rpreR w s) n := by
  refine ⟨⟨h.i.nd, h.i.s, h.i.a, h.i.r, h.i.b, h.i.kl, h.i.h, ?_, h.i.ro, h.i.da, h.i.al⟩, h.ne, h.ai, h.di⟩
  have := h.i.l
  simp only [rpreR]
  split
  · rw [Int.tmod_eq_emod_of_nonneg (by omega)]; omega
  · split
    · rw [Int.tmod_eq_emod_of_nonneg (by omega)]; omega
    · exact this
end Go.Proofs.YtdgoompjoeffcaaGreat
