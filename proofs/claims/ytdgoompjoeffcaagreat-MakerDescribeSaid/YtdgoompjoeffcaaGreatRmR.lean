import Derived.Test.YtdgoompjoeffcaaGreatProg
import Derived.Test.YtdgoompjoeffcaaGreatPmY
import Derived.Test.YtdgoompjoeffcaaGreatRmL
/- What a tape means, the document's way: the whole walk, its loop. -/
set_option linter.unusedSimpArgs false
set_option linter.unusedVariables false
set_option maxRecDepth 20000
open Go Go.Proofs
namespace Go.Proofs.YtdgoompjoeffcaaGreat
open Pm
attribute [local irreducible] Wait CallT CallW NextT Le Weak
theorem PCon.lift {P : Program} {f : FuncId} {args : List AV} {Q : AV → Prop} (c : PCon P f args fun r => ∃ r', Le r r' ∧ Q r') : PCon P f args Q := by
  unfold Le at c
  intro w Z cargs hl ha hz hgl
  exact (c w Z cargs hl ha hz hgl).mono fun _ _ ⟨_, v, Z', e1, ⟨r', hle, q⟩, e2, e3⟩ => ⟨r', v, Z', e1, q, hle _ _ _ e2, e3⟩
def rkV (w : Rk) (T : List Int) : AV := .agg (.fsl 1 (T.map iA) :: .fsl 1 ((w.K.map Prod.fst).map iA) :: .fsl 1 ((w.K.map Prod.snd).map iA) :: rkR w)
def refQ (t : List Int) (r : AV) : Prop := (∃ e w T, (refWalk t).1 = e ∧ e ≠ 0 ∧ r = .tup [rkV w T, .v (.int .i64 e)]) ∨ ((refWalk t).1 = 0 ∧ ∃ T, r = .tup [rkV (refWalk t).2 T, .v (.int .i64 0)])
def zRow : Option Blk := some (.row 50 16 [.agg [nilV, nilV, nilV, nilV, nilV, nilV, nilV, nilV, .v (.int .i64 0), .v (.int .i64 0), .v (.int .i64 0), .v (.int .i64 0), .v (.int .i64 0), nilV, nilV, nilV]])
def wkA (w : Rk) (n : Nat) (a b c : AV) : Option Blk := some (.row 50 16 [.agg [.sl 2 1 0 n, .sl 3 1 0 w.K.length, .sl 4 1 0 w.K.length, .sl 5 1 0 w.S.length, .sl 6 1 0 w.A.length, .sl 7 1 0 w.R.length,
  .sl 8 1 0 w.at_.length, .sl 9 1 0 w.dir.length, .v (.int .i64 w.here), .v (.int .i64 w.look), .v (.int .i64 w.count), .v (.int .i64 w.long), .v (.int .i64 w.roads), a, b, c]])
def rwN (t : List Int) (w : Rk) (T : List Int) (k : Nat) : St := ⟨51, 0, [(0, tA t), (2, .ptr 0 16 0 0), (4, .ptr 1 16 0 0), (7, .v (.int .i64 ((k + 1 : Nat) : Int)))],
  [zRow, wkA w T.length nilV nilV nilV, intB T, longB (w.K.map Prod.fst), longB (w.K.map Prod.snd), intB w.S, boolB w.A, boolB w.R, intB w.at_, intB w.dir, none, none, none]⟩
def rwL (t : List Int) (w : Rk) (T : List Int) (k : Nat) : St := ⟨51, 0, [(0, tA t), (2, .ptr 0 16 0 0), (4, .ptr 1 16 0 0), (7, .v (.int .i64 ((k + 1 : Nat) : Int)))],
  [zRow, wkA w T.length (.sl 10 1 0 w.arms.length) (.sl 11 1 0 w.acts.length) (.sl 12 1 0 w.wr.length), intB T, longB (w.K.map Prod.fst), longB (w.K.map Prod.snd), intB w.S, boolB w.A, boolB w.R, intB w.at_, intB w.dir, intB w.arms, intB w.acts, boolB w.wr]⟩
def rwS (t : List Int) (p : Nat × Rk × List Int) : St := if p.1 = 0 then rwN t p.2.1 p.2.2 p.1 else rwL t p.2.1 p.2.2 p.1
theorem refWalk_pc (t : List Int) (hm : t.length < 9223372036854775808) : PCon Tryz.prog 14 [tA t] (refQ t) := by
  refine PCon.lift (pcon_run 1000 Tryz.func14 rfl Tryz.results14 Tryz.ntmps14 (Nat.le_of_ble_eq_true rfl) ?_)
  have hck := refCheck_pc t hm
  by_cases hc : checkE t = 0
  · have hh : headB t = true := by
      cases h : headB t with
      | true => rfl
      | false => rw [checkE_head h] at hc; cases hc
    have hlen : 3 ≤ t.length ∧ t.length ≤ 4096 := by simp only [headB, decide_eq_true_eq] at hh; omega
    have hall : ((t.take (t.length - 2)).drop 1).all cmdB = true := by
      cases h : ((t.take (t.length - 2)).drop 1).all cmdB with
      | true => rfl
      | false => rw [checkE_bad h] at hc; cases hc
    have hpw : refWalk t = rwalkR ((t.take (t.length - 2)).drop 1) rBegin := by unfold refWalk; rw [if_pos hc]
    have e2 : IntKind.i64.wrap ((t.length : Int) - 2) = ((t.length - 2 : Nat) : Int) := by rw [wrap64 (by omega) (by omega)]; omega
    have hbl : ((t.take (t.length - 2)).drop 1).length = t.length - 3 := by rw [List.length_drop, List.length_take]; omega
    have hbg : ∀ k, k < t.length - 3 → ((t.take (t.length - 2)).drop 1).getD k 0 = t.getD (k + 1) 0 := fun k hk => by
      rw [List.getD_eq_getElem?_getD, List.getElem?_drop, List.getElem?_take, if_pos (by omega), List.getD_eq_getElem?_getD, Nat.add_comm]
    generalize hb : (t.take (t.length - 2)).drop 1 = b at hpw hbl hall hbg
    rw [show checkE t = 0 from hc] at hck
    simp -implicitDefEqProofs only [go_sem, tA]
    (repeat' (first | exact trivial | contradiction | exact ⟨_, rfl⟩ | refine And.intro ?_ ?_ | (refine om ?_; omega) | (refine wait_draw 1000 mixed (by decide +kernel) ?_; simp -implicitDefEqProofs only [go_sem, tA, wkRow, nilV, intB, longB, boolB, stM, iA, bA]) | ((first | refine call_eq 1000 (hck) ?_ ?_ rfl | refine call_draw 1000 (hck) ?_ ?_); (focus (simp -implicitDefEqProofs only [go_sem, tA, wkRow, nilV, intB, longB, boolB, stM, iA, bA]; done)); simp -implicitDefEqProofs only [go_sem, tA, wkRow, nilV, intB, longB, boolB, stM, iA, bA]) | ((first | refine call_con_eq 1000 [1] (spotA_con) ?_ ?_ ?_ | refine call_draw_con 1000 [1] (spotA_con) (by decide +kernel) ?_ ?_ ?_); (focus (simp -implicitDefEqProofs only [go_sem, tA, wkRow, nilV, intB, longB, boolB, stM, iA, bA]; done)); (focus (simp -implicitDefEqProofs only [go_sem, tA, wkRow, nilV, intB, longB, boolB, stM, iA, bA]; done)); simp -implicitDefEqProofs only [go_sem, tA, wkRow, nilV, intB, longB, boolB, stM, iA, bA]) | ((first | refine call_con_eq 1000 [1, 2, 4, 6, 8, 10, 12] (mark0_con) ?_ ?_ ?_ | refine call_draw_con 1000 [1, 2, 4, 6, 8, 10, 12] (mark0_con) (by decide +kernel) ?_ ?_ ?_); (focus (simp -implicitDefEqProofs only [go_sem, tA, wkRow, nilV, intB, longB, boolB, stM, iA, bA]; done)); (focus (simp -implicitDefEqProofs only [go_sem, tA, wkRow, nilV, intB, longB, boolB, stM, iA, bA]; done)); simp -implicitDefEqProofs only [go_sem, tA, wkRow, nilV, intB, longB, boolB, stM, iA, bA]) | ((first | refine call_con_eq 1000 [1, 2, 4, 6, 8, 10, 12] (spotB_con) ?_ ?_ ?_ | refine call_draw_con 1000 [1, 2, 4, 6, 8, 10, 12] (spotB_con) (by decide +kernel) ?_ ?_ ?_); (focus (simp -implicitDefEqProofs only [go_sem, tA, wkRow, nilV, intB, longB, boolB, stM, iA, bA]; done)); (focus (simp -implicitDefEqProofs only [go_sem, tA, wkRow, nilV, intB, longB, boolB, stM, iA, bA]; done)); simp -implicitDefEqProofs only [go_sem, tA, wkRow, nilV, intB, longB, boolB, stM, iA, bA]) | intro _))
    refine wait_data (rwS t) (fun p => p.1 ≤ b.length ∧ RkX p.2.1 (255 * p.1) ∧ TabOk p.2.2 p.2.1.K ∧ (0 ≤ p.2.1.count ∧ p.2.1.count ≤ 255) ∧ p.2.1.arms.length = p.1 ∧ p.2.1.acts.length = p.1 ∧ p.2.1.wr.length = p.1 ∧ rwalkR (b.drop p.1) p.2.1 = rwalkR b rBegin) (fun p => b.length - p.1) (0, rBegin, T2)
      (weak_to [0, 2, 4, 7] [0, 1, 2, 14, 16, 18, 20, 22, 23, 24, 100, 101, 102] ?_ (by decide) (fun i h => by cases h)) ⟨Nat.zero_le _, rBegin_x, tab2_ok, by decide, rfl, rfl, rfl, rfl⟩ ?_
    · rw [show rwS t (0, rBegin, T2) = rwN t rBegin T2 0 from if_pos rfl]
      simp -implicitDefEqProofs only [go_sem, St.keep, tA, rwN, rkS, rkS0, rkE, rkB, rkB0, intB, longB, boolB, zRow, wkA, nilV, rBegin, iA, bA]
      rfl
    rintro ⟨k, w, T⟩ ⟨hk, hx, hT, hcn, ha, hac, hwr, hG⟩
    simp only at hk hx hT hcn ha hac hwr hG
    refine run_sound 1000 _ _ ?_
    by_cases hkb : k < b.length
    · have hlt : (((k + 1 : Nat) : Int) < ((t.length - 2 : Nat) : Int)) = True := eq_true (by omega)
      obtain ⟨s, hs⟩ : ∃ s, s = b.getD k 0 := ⟨_, rfl⟩
      have hg := get_tA t (k + 1) (by omega)
      rw [← hbg k (by omega), ← hs] at hg
      have hi1 : (((k + 1 : Nat) : Int) < (t.length : Int)) = True := eq_true (by omega)
      have hi2 : (k + 1 < t.length) = True := eq_true (by omega)
      have hdrop : b.drop k = s :: b.drop (k + 1) := by
        rw [List.drop_eq_getElem_cons hkb, hs, List.getD_eq_getElem?_getD, List.getElem?_eq_getElem hkb]
        rfl
      have hcm : cmdB s = true := by
        rw [hs, List.getD_eq_getElem?_getD, List.getElem?_eq_getElem hkb]
        exact List.all_eq_true.1 hall _ (List.getElem_mem hkb)
      simp only [cmdB, Bool.and_eq_true, decide_eq_true_eq] at hcm
      have hw1 : IntKind.i64.wrap (((k + 1 : Nat) : Int) + 1) = ((k + 1 + 1 : Nat) : Int) := by rw [wrap64 (by omega) (by omega)]; omega
      by_cases hk0 : k = 0
      · rw [show rwS t (k, w, T) = rwN t w T k from if_pos hk0]
        simp -implicitDefEqProofs only [go_sem, tA, rwN, rkS, rkS0, rkE, rkB, rkB0, intB, longB, boolB, zRow, wkA, nilV, e2, hlt, hg, hi1, hi2]
        refine call_con 1000 [1, 2, 3, 4, 5, 6, 7, 8, 9, 10, 11, 12] (do0_con w T (255 * k) s hT hx (by omega) hcn (by omega) hcm.2 (List.length_eq_zero_iff.1 (ha.trans hk0)) (List.length_eq_zero_iff.1 (hac.trans hk0)) (List.length_eq_zero_iff.1 (hwr.trans hk0)) (by omega) (by omega) (by omega)) ?_ ?_ (by simp) (by simp) rfl ?_
        · simp -implicitDefEqProofs only [go_sem]
        · simp -implicitDefEqProofs only [go_sem, rkS, rkS0, rkE, rkB, rkB0, intB, longB, boolB, zRow, wkA, nilV]
        rintro r hcal ⟨e, w', T', hf, rfl, rfl, hT'⟩
        refine ⟨by simp [rkE], ?_⟩
        by_cases he : e = 0
        · subst he
          obtain ⟨i1, i2, i3, i4, i5⟩ := rcmd_inv hx hcn (by omega) hf
          simp -implicitDefEqProofs only [go_sem, rkS, rkS0, rkE, rkB, rkB0, intB, longB, boolB, zRow, wkA, nilV]
          refine ⟨(k + 1, w', T'), ?_, ⟨?_, i1.le (by simp only; omega), hT' rfl, i2, by simp only; omega, by simp only; omega, by simp only; omega, ?_⟩, ?_⟩
          · show b.length - (k + 1) < b.length - k; omega
          · show k + 1 ≤ b.length; omega
          · show rwalkR (b.drop (k + 1)) w' = rwalkR b rBegin
            rw [← hG, hdrop, rwalkR_ok (by rw [hf]), hf]
          · rw [show rwS t (k + 1, w', T') = rwL t w' T' (k + 1) from if_neg (by simp)]
            refine weak_to [0, 2, 4, 7] [0, 1, 13, 14, 15, 16, 17, 18, 19, 20, 21, 22, 23] ?_ (by decide) (fun i h => by cases h)
            simp -implicitDefEqProofs only [go_sem, St.keep, tA, rwL, rkS, rkS0, rkE, rkB, rkB0, intB, longB, boolB, zRow, wkA, nilV, hw1]
        · have hne : (e = 0) = False := eq_false he
          simp -implicitDefEqProofs only [go_sem, rkS, rkS0, rkE, rkB, rkB0, intB, longB, boolB, zRow, wkA, nilV, hne]
          refine ⟨_, Le.refl _, .inl ⟨e, w', T', ?_, he, rfl⟩⟩
          rw [hpw, ← hG, hdrop, rwalkR_bad (by rw [hf]; exact he), hf]
      · rw [show rwS t (k, w, T) = rwL t w T k from if_neg hk0]
        simp -implicitDefEqProofs only [go_sem, tA, rwL, rkS, rkS0, rkE, rkB, rkB0, intB, longB, boolB, zRow, wkA, nilV, e2, hlt, hg, hi1, hi2]
        refine call_con 1000 [1, 2, 3, 4, 5, 6, 7, 8, 9, 10, 11, 12] (do_con w T (255 * k) s hT hx (by omega) hcn (by omega) hcm.2 (by omega) (by omega) (by omega)) ?_ ?_ (by simp) (by simp) rfl ?_
        · simp -implicitDefEqProofs only [go_sem]
        · simp -implicitDefEqProofs only [go_sem, rkS, rkS0, rkE, rkB, rkB0, intB, longB, boolB, zRow, wkA, nilV]
        rintro r hcal ⟨e, w', T', hf, rfl, rfl, hT'⟩
        refine ⟨by simp [rkE], ?_⟩
        by_cases he : e = 0
        · subst he
          obtain ⟨i1, i2, i3, i4, i5⟩ := rcmd_inv hx hcn (by omega) hf
          simp -implicitDefEqProofs only [go_sem, rkS, rkS0, rkE, rkB, rkB0, intB, longB, boolB, zRow, wkA, nilV]
          refine ⟨(k + 1, w', T'), ?_, ⟨?_, i1.le (by simp only; omega), hT' rfl, i2, by simp only; omega, by simp only; omega, by simp only; omega, ?_⟩, ?_⟩
          · show b.length - (k + 1) < b.length - k; omega
          · show k + 1 ≤ b.length; omega
          · show rwalkR (b.drop (k + 1)) w' = rwalkR b rBegin
            rw [← hG, hdrop, rwalkR_ok (by rw [hf]), hf]
          · rw [show rwS t (k + 1, w', T') = rwL t w' T' (k + 1) from if_neg (by simp)]
            refine weak_to [0, 2, 4, 7] [0, 1, 13, 14, 15, 16, 17, 18, 19, 20, 21, 22, 23] ?_ (by decide) (fun i h => by cases h)
            simp -implicitDefEqProofs only [go_sem, St.keep, tA, rwL, rkS, rkS0, rkE, rkB, rkB0, intB, longB, boolB, zRow, wkA, nilV, hw1]
        · have hne : (e = 0) = False := eq_false he
          simp -implicitDefEqProofs only [go_sem, rkS, rkS0, rkE, rkB, rkB0, intB, longB, boolB, zRow, wkA, nilV, hne]
          refine ⟨_, Le.refl _, .inl ⟨e, w', T', ?_, he, rfl⟩⟩
          rw [hpw, ← hG, hdrop, rwalkR_bad (by rw [hf]; exact he), hf]
    · have hlt : (((k + 1 : Nat) : Int) < ((t.length - 2 : Nat) : Int)) = False := eq_false (by omega)
      have hG' : rwalkR b rBegin = (0, w) := by
        rw [← hG, List.drop_eq_nil_of_le (by omega)]; rfl
      rw [hG'] at hpw
      by_cases hk0 : k = 0
      · rw [show rwS t (k, w, T) = rwN t w T k from if_pos hk0]
        simp -implicitDefEqProofs only [go_sem, tA, rwN, rkS, rkS0, rkE, rkB, rkB0, intB, longB, boolB, zRow, wkA, nilV, e2, hlt]
        refine ⟨.tup [rkV w T, .v (.int .i64 0)], ?_, .inr ⟨by rw [hpw], T, by rw [hpw]⟩⟩
        refine Le.tup (.cons (Le.agg ?_) (LeL.refl _))
        rw [rkR, List.length_eq_zero_iff.1 (ha.trans hk0), List.length_eq_zero_iff.1 (hac.trans hk0), List.length_eq_zero_iff.1 (hwr.trans hk0)]
        refine .cons (Le.refl _) ?_
        refine .cons (Le.refl _) ?_
        refine .cons (Le.refl _) ?_
        refine .cons (Le.refl _) ?_
        refine .cons (Le.refl _) ?_
        refine .cons (Le.refl _) ?_
        refine .cons (Le.refl _) ?_
        refine .cons (Le.refl _) ?_
        refine .cons (Le.refl _) ?_
        refine .cons (Le.refl _) ?_
        refine .cons (Le.refl _) ?_
        refine .cons (Le.refl _) ?_
        refine .cons (Le.refl _) ?_
        
        exact .cons (Le.nil 1) (.cons (Le.nil 1) (.cons (Le.nil 1) .nil))
      · rw [show rwS t (k, w, T) = rwL t w T k from if_neg hk0]
        simp -implicitDefEqProofs only [go_sem, tA, rwL, rkS, rkS0, rkE, rkB, rkB0, intB, longB, boolB, zRow, wkA, nilV, e2, hlt]
        exact ⟨_, Le.refl _, .inr ⟨by rw [hpw], T, by rw [hpw]; rfl⟩⟩
  · have h71 : checkE t = 71 := by unfold checkE at hc ⊢; split at hc <;> rename_i h <;> first | exact absurd rfl hc | rw [if_neg h]
    have hpw : refWalk t = (71, rBegin) := by unfold refWalk; rw [if_neg hc]
    rw [h71] at hck
    simp -implicitDefEqProofs only [go_sem, tA, iA]
    (repeat' (first | exact trivial | contradiction | exact ⟨_, rfl⟩ | refine And.intro ?_ ?_ | (refine om ?_; omega) | (refine wait_draw 1000 mixed (by decide +kernel) ?_; simp -implicitDefEqProofs only [go_sem, tA, iA]) | ((first | refine call_eq 1000 (hck) ?_ ?_ rfl | refine call_draw 1000 (hck) ?_ ?_); (focus (simp -implicitDefEqProofs only [go_sem, tA, iA]; done)); simp -implicitDefEqProofs only [go_sem, tA, iA]) | intro _))
    refine ⟨.tup [rkV ⟨[], [], [], [], [], [], 0, 1, 0, 1, 0, [], [], []⟩ [], .v (.int .i64 71)], ?_, .inl ⟨71, _, _, by rw [hpw], by decide, rfl⟩⟩
    refine Le.tup (.cons (Le.agg ?_) (LeL.refl _))
    refine .cons (Le.nil 1) ?_
    refine .cons (Le.nil 1) ?_
    refine .cons (Le.nil 1) ?_
    refine .cons (Le.nil 1) ?_
    refine .cons (Le.nil 1) ?_
    refine .cons (Le.nil 1) ?_
    refine .cons (Le.nil 1) ?_
    refine .cons (Le.nil 1) ?_
    
    refine .cons (Le.refl _) ?_
    refine .cons (Le.refl _) ?_
    refine .cons (Le.refl _) ?_
    refine .cons (Le.refl _) ?_
    refine .cons (Le.refl _) ?_
    
    exact .cons (Le.nil 1) (.cons (Le.nil 1) (.cons (Le.nil 1) .nil))
end Go.Proofs.YtdgoompjoeffcaaGreat
/- What a tape means: one list by places, told by a place. -/
namespace Go.Proofs.YtdgoompjoeffcaaGreat
open Pm
attribute [local irreducible] Wait CallT CallW NextT Le Weak
def lk {α : Type} (K : List Pl) (L : List α) (d : α) (p : Pl) : α := if p ∈ K then L.getD (kI K p).toNat d else d
theorem kI_app {K : List Pl} {p q : Pl} (hn : K.Nodup) (hp : p ∉ K) (hq : q ∈ K) : kI (K ++ [p]) q = kI K q := by
  obtain ⟨i, h1, h2, h3⟩ := kI_mem hq
  rw [h1]
  refine kI_at (List.nodup_append.2 ⟨hn, by simp, fun a ha b hb => ?_⟩) (by rw [List.getElem?_append_left h2]; exact h3)
  simp only [List.mem_singleton] at hb
  subst hb
  exact fun e => hp (e ▸ ha)
theorem lk_app {α : Type} {K : List Pl} {L : List α} {d : α} {p : Pl} (hn : K.Nodup) (hl : L.length = K.length) (hp : p ∉ K) (q : Pl) : lk (K ++ [p]) (L ++ [d]) d q = lk K L d q := by
  unfold lk
  by_cases hq : q ∈ K
  · obtain ⟨i, h1, h2, -⟩ := kI_mem hq
    rw [if_pos (by simp [hq]), if_pos hq, kI_app hn hp hq, h1, Int.toNat_natCast, List.getD_eq_getElem?_getD, List.getElem?_append_left (by omega), List.getD_eq_getElem?_getD]
  · rw [if_neg hq]
    split
    · rename_i h
      simp only [List.mem_append, hq, false_or, List.mem_singleton] at h
      subst h
      rw [kI_new hn hq, Int.toNat_natCast, List.getD_eq_getElem?_getD, List.getElem?_append_right (by omega), hl, Nat.sub_self]
      rfl
    · rfl
theorem lk_set {α : Type} {K : List Pl} {L : List α} {d a : α} {i : Nat} (hn : K.Nodup) (hl : L.length = K.length) (hi : i < K.length) (q : Pl) : lk K (L.set i a) d q = if q = K.getD i (0, 0) then a else lk K L d q := by
  unfold lk
  have hg : K[i]? = some (K.getD i (0, 0)) := by rw [List.getD_eq_getElem?_getD, List.getElem?_eq_getElem hi]; rfl
  by_cases hq : q ∈ K
  · obtain ⟨j, h1, h2, h3⟩ := kI_mem hq
    rw [if_pos hq, if_pos hq, h1, Int.toNat_natCast]
    by_cases hij : i = j
    · subst hij
      rw [hg] at h3
      rw [if_pos (Option.some.inj h3).symm, List.getD_eq_getElem?_getD, List.getElem?_set_self (by omega)]
      rfl
    · rw [if_neg, List.getD_eq_getElem?_getD, List.getElem?_set_ne hij, List.getD_eq_getElem?_getD]
      intro e
      have h4 := kI_at hn hg
      rw [← e, h1] at h4
      omega
  · rw [if_neg hq, if_neg hq, if_neg]
    intro e
    exact hq (e ▸ (List.mem_of_getElem? hg))
theorem lk_at {α : Type} {K : List Pl} {L : List α} {d : α} {p : Pl} (hp : p ∈ K) : L.getD (kI K p).toNat d = lk K L d p := by rw [lk, if_pos hp]
theorem kind0 : ¬ kindOf 0 = 9 := by decide
def faceL (K : List Pl) (S : List Int) (p : Pl) (d : Int) : Prop := kindOf (lk K S 0 (onP p d)) = 9 ∧ dirOf (lk K S 0 (onP p d)) = (d + 2) % 4
theorem faceB_iff (K : List Pl) (S : List Int) (p : Pl) (d : Int) : faceB K S p d = true ↔ faceL K S p d := by
  unfold faceB faceL lk
  by_cases hq : onP p d ∈ K
  · obtain ⟨j, h1, h2, h3⟩ := kI_mem hq
    simp only [if_pos hq, h1, Int.toNat_natCast, Bool.and_eq_true, decide_eq_true_eq]
    constructor
    · exact fun h => h.2
    · exact fun h => ⟨by omega, h⟩
  · simp only [if_neg hq, kI_none hq]
    constructor
    · intro h
      simp only [Bool.and_eq_true, decide_eq_true_eq] at h
      omega
    · exact fun h => absurd h.1 kind0
theorem facedB_iff (K : List Pl) (S : List Int) (p : Pl) : facedB K S p = true ↔ ∃ d : Int, (0 ≤ d ∧ d < 4) ∧ faceL K S p d := by
  unfold facedB
  simp only [Bool.or_eq_true, faceB_iff]
  constructor
  · rintro (h | h | h | h)
    · exact ⟨0, by omega, h⟩
    · exact ⟨1, by omega, h⟩
    · exact ⟨2, by omega, h⟩
    · exact ⟨3, by omega, h⟩
  · rintro ⟨d, hd, h⟩
    have : d = 0 ∨ d = 1 ∨ d = 2 ∨ d = 3 := by omega
    rcases this with rfl | rfl | rfl | rfl
    · exact .inl h
    · exact .inr (.inl h)
    · exact .inr (.inr (.inl h))
    · exact .inr (.inr (.inr h))
theorem onP_back {p : Pl} {d : Int} (hd : 0 ≤ d ∧ d < 4) : onP (onP p d) ((d + 2) % 4) = p := by
  have : d = 0 ∨ d = 1 ∨ d = 2 ∨ d = 3 := by omega
  rcases this with rfl | rfl | rfl | rfl <;> simp [onP]
theorem onP_ne {p : Pl} {d : Int} : onP p d ≠ p := by
  obtain ⟨x, y⟩ := p
  unfold onP
  intro h
  split at h
  · have := congrArg Prod.fst h; simp only at this; omega
  · split at h
    · have := congrArg Prod.snd h; simp only at this; omega
    · split at h
      · have := congrArg Prod.fst h; simp only at this; omega
      · have := congrArg Prod.snd h; simp only at this; omega
theorem mod4 {d : Int} (hd : 0 ≤ d ∧ d < 4) : ((d + 2) % 4 + 2) % 4 = d := by omega
/-- A state put where none was. -/
theorem faced_set {K : List Pl} {S : List Int} {i : Nat} {s : Int} (hn : K.Nodup) (hl : S.length = K.length) (hi : i < K.length) (h0 : lk K S 0 (K.getD i (0, 0)) = 0) (p : Pl) :
    facedB K (S.set i s) p = true ↔ (kindOf s = 9 ∧ p = onP (K.getD i (0, 0)) (dirOf s)) ∨ facedB K S p = true := by
  rw [facedB_iff, facedB_iff]
  unfold faceL
  generalize hh : K.getD i (0, 0) = h at h0
  constructor
  · rintro ⟨d, hd, h1⟩
    rw [lk_set hn hl hi, hh] at h1
    by_cases he : onP p d = h
    · rw [if_pos he] at h1
      refine .inl ⟨h1.1, ?_⟩
      rw [h1.2, ← he, onP_back hd]
    · rw [if_neg he] at h1
      exact .inr ⟨d, hd, h1⟩
  · rintro (⟨h1, rfl⟩ | ⟨d, hd, h1⟩)
    · have hb := onP_back (p := h) (dir_ok s)
      refine ⟨(dirOf s + 2) % 4, by omega, ?_⟩
      rw [lk_set hn hl hi, hh, if_pos hb]
      exact ⟨h1, (mod4 (dir_ok s)).symm⟩
    · refine ⟨d, hd, ?_⟩
      rw [lk_set hn hl hi, hh]
      by_cases he : onP p d = h
      · rw [he, h0] at h1
        exact absurd h1.1 kind0
      · rw [if_neg he]; exact h1
/-- A place more, with nothing. -/
theorem faced_app {K : List Pl} {S : List Int} {q : Pl} (hn : K.Nodup) (hl : S.length = K.length) (hq : q ∉ K) (p : Pl) : facedB (K ++ [q]) (S ++ [0]) p = facedB K S p := by
  rw [Bool.eq_iff_iff, facedB_iff, facedB_iff]
  unfold faceL
  simp only [lk_app hn hl hq]
theorem spot_lk {w : Rk} {n : Nat} (h : RkIn w n) (p q : Pl) : lk (spotW w p).K (spotW w p).S 0 q = lk w.K w.S 0 q ∧ lk (spotW w p).K (spotW w p).A false q = lk w.K w.A false q ∧ lk (spotW w p).K (spotW w p).R false q = lk w.K w.R false q ∧ facedB (spotW w p).K (spotW w p).S q = facedB w.K w.S q := by
  by_cases hp : p ∈ w.K
  · rw [spot_old hp]; exact ⟨rfl, rfl, rfl, rfl⟩
  · rw [spot_new hp]; exact ⟨lk_app h.nd h.s hp q, lk_app h.nd h.a hp q, lk_app h.nd h.r hp q, faced_app h.nd h.s hp q⟩
theorem spot_plc {w : Rk} (p : Pl) {i : Nat} (hi : i < w.K.length) : (spotW w p).K.getD i (0, 0) = w.K.getD i (0, 0) := by
  by_cases hp : p ∈ w.K
  · rw [spot_old hp]
  · rw [spot_new hp]
    simp only
    rw [List.getD_eq_getElem?_getD, List.getElem?_append_left hi, List.getD_eq_getElem?_getD]
end Go.Proofs.YtdgoompjoeffcaaGreat
