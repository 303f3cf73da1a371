/- What a tape means, the document's way: places known, places that an arm faces. -/
import Derived.Test.YtiipggfhjkalfaaProg
import Derived.Test.YtiipggfhjkalfaaPmU
import Derived.Test.YtiipggfhjkalfaaRmB
import Derived.Test.YtiipggfhjkalfaaYaJ
set_option linter.unusedSimpArgs false
set_option linter.unusedVariables false
set_option maxRecDepth 20000
open Go Go.Proofs
namespace Go.Proofs.Ytiipggfhjkalfaa
open Pm
attribute [local irreducible] Wait CallT CallW NextT Le Weak
def xsA (K : List Pl) : List AV := (K.map Prod.fst).map iA
def ysA (K : List Pl) : List AV := (K.map Prod.snd).map iA
theorem known_pc (T : List Int) (K : List Pl) (x y : Int) (rest : List AV) (hT : Tab T K K.length) (hn : K.Nodup) (hn' : T.length < 1000000000) (hx : -100000 ≤ x ∧ x ≤ 100000) (hy : -100000 ≤ y ∧ y ≤ 100000) (hr : ∀ f, AV.renL f rest = rest)
    (hneg : ∀ h, h < T.length → -1 ≤ T.getD h 0) :
    PCon Try.prog 108 [.fptr (.fsl 1 (T.map iA) :: .fsl 1 (xsA K) :: .fsl 1 (ysA K) :: rest), .v (.int .i64 x), .v (.int .i64 y)] (· = .v (.int .i64 (kI K (x, y)))) := by
  have hp := hT.pos
  obtain ⟨d, h1, h2, h3, h4⟩ := hT.find (Nat.le_refl _) hn x y
  have hlt := Nat.mod_lt (hash0 x y T.length + d) (show 0 < T.length by omega)
  have hv : T.getD ((hash0 x y T.length + d) % T.length) 0 = kI K (x, y) := by
    by_cases hm : (x, y) ∈ K
    · exact h3 (by rw [List.take_length]; exact hm)
    · have h5 := h4 (by rw [List.take_length]; exact hm)
      have := hneg _ hlt
      rw [kI_none hm]; omega
  have hs := slot_pc T (K.map Prod.fst) (K.map Prod.snd) x y rest d (by omega) hn' hx hy (by simp) (by simp; omega) hr (fun e _ => by
    rcases hT.rng _ (Nat.mod_lt (hash0 x y T.length + e) (show 0 < T.length by omega)) with h | h
    · rw [List.length_map]; omega
    · rw [List.length_map]; omega) h1 h2
  obtain ⟨p, hpz⟩ : ∃ p, p = (hash0 x y T.length + d) % T.length := ⟨_, rfl⟩
  rw [← hpz] at hs hv hlt
  have hg := getD_iA T p hlt
  rw [hv] at hg
  have hlt2 : ((p : Int) < (T.length : Int)) = True := eq_true (by omega)
  have hz : ((T.length : Int) = 0) = False := eq_false (by omega)
  simp only [iA] at hg
  refine pcon_run 1000 Try.func108 rfl Try.results108 Try.ntmps108 (Nat.le_of_ble_eq_true rfl) ?_
  simp (maxSteps := 1000000) -implicitDefEqProofs only [go_sem, ↓reduceIte, reduceCtorEq, Nat.reduceEqDiff, Nat.reduceLT, Nat.reduceAdd, Nat.reduceLeDiff, Nat.reduceMul, Nat.reduceSub, Int.reduceToNat, Int.reduceLT, Int.reduceLE, Int.reduceEq, Int.reduceBNe, Nat.reduceBEq, xsA, ysA, hz]
  (repeat' (first | exact trivial | contradiction | exact ⟨_, rfl⟩ | refine And.intro ?_ ?_ | ((first | show (_ : Nat) ≤ _ | show (_ : Nat) < _ | show (_ : Int) ≤ _ | show (_ : Int) < _); omega) | (refine wait_draw 1000 mixed (by decide +kernel) ?_; simp (maxSteps := 1000000) -implicitDefEqProofs only [go_sem, ↓reduceIte, reduceCtorEq, Nat.reduceEqDiff, Nat.reduceLT, Nat.reduceAdd, Nat.reduceLeDiff, Nat.reduceMul, Nat.reduceSub, Int.reduceToNat, Int.reduceLT, Int.reduceLE, Int.reduceEq, Int.reduceBNe, Nat.reduceBEq, xsA, ysA, hz, hg, hlt2, hr, renL_iA]) | ((first | refine call_eq 1000 (hs) ?_ ?_ rfl | refine call_draw 1000 (hs) ?_ ?_); (focus (simp (maxSteps := 1000000) -implicitDefEqProofs only [go_sem, ↓reduceIte, reduceCtorEq, Nat.reduceEqDiff, Nat.reduceLT, Nat.reduceAdd, Nat.reduceLeDiff, Nat.reduceMul, Nat.reduceSub, Int.reduceToNat, Int.reduceLT, Int.reduceLE, Int.reduceEq, Int.reduceBNe, Nat.reduceBEq, xsA, ysA, hz, hg, hlt2, hr, renL_iA]; done)); simp (maxSteps := 1000000) -implicitDefEqProofs only [go_sem, ↓reduceIte, reduceCtorEq, Nat.reduceEqDiff, Nat.reduceLT, Nat.reduceAdd, Nat.reduceLeDiff, Nat.reduceMul, Nat.reduceSub, Int.reduceToNat, Int.reduceLT, Int.reduceLE, Int.reduceEq, Int.reduceBNe, Nat.reduceBEq, xsA, ysA, hz, hg, hlt2, hr, renL_iA]) | intro _))
/-- Whether an arm that was written faces a place: is there one on side d? -/
def faceB (K : List Pl) (S : List Int) (p : Pl) (d : Int) : Bool :=
  let k := kI K (onP p d)
  decide (0 ≤ k) && (decide (kindOf (S.getD k.toNat 0) = 9) && decide (dirOf (S.getD k.toNat 0) = (d + 2) % 4))
def facedB (K : List Pl) (S : List Int) (p : Pl) : Bool := faceB K S p 0 || (faceB K S p 1 || (faceB K S p 2 || faceB K S p 3))
theorem kI_lt (K : List Pl) (p : Pl) : -1 ≤ kI K p ∧ kI K p < K.length := by
  by_cases h : p ∈ K
  · obtain ⟨i, h1, h2, -⟩ := kI_mem h
    rw [h1]; omega
  · rw [kI_none h]; omega
theorem facedB_true {K : List Pl} {S : List Int} {p : Pl} {k : Nat} (hk : k < 4) (h : faceB K S p k = true) : facedB K S p = true := by
  unfold facedB
  have : k = 0 ∨ k = 1 ∨ k = 2 ∨ k = 3 := by omega
  rcases this with rfl | rfl | rfl | rfl
  · have h' : faceB K S p 0 = true := h
    simp [h']
  · have h' : faceB K S p 1 = true := h
    simp [h']
  · have h' : faceB K S p 2 = true := h
    simp [h']
  · have h' : faceB K S p 3 = true := h
    simp [h']
theorem facedB_false {K : List Pl} {S : List Int} {p : Pl} (h : ∀ j : Nat, j < 4 → faceB K S p j = false) : facedB K S p = false := by
  unfold facedB
  have h0 : faceB K S p 0 = false := h 0 (by omega)
  have h1 : faceB K S p 1 = false := h 1 (by omega)
  have h2 : faceB K S p 2 = false := h 2 (by omega)
  have h3 : faceB K S p 3 = false := h 3 (by omega)
  simp [h0, h1, h2, h3]
theorem ryard10 (s : Int) : ∃ a2 a3 a4 a5 a6 a7 a8 a9, (RefYardOfE s).1 = [kindOf s, dirOf s, a2, a3, a4, a5, a6, a7, a8, a9] := by rw [← yard_eq]; exact yard10 s
theorem faced_pc (T : List Int) (K : List Pl) (S : List Int) (x y : Int) (rest : List AV) (hT : Tab T K K.length) (hn : K.Nodup) (hn' : T.length < 1000000000) (hx : -90000 ≤ x ∧ x ≤ 90000) (hy : -90000 ≤ y ∧ y ≤ 90000) (hr : ∀ f, AV.renL f rest = rest)
    (hneg : ∀ h, h < T.length → -1 ≤ T.getD h 0) (hS : S.length = K.length) :
    PCon Try.prog 109 [.fptr (.fsl 1 (T.map iA) :: .fsl 1 (xsA K) :: .fsl 1 (ysA K) :: .fsl 1 (S.map iA) :: rest), .v (.int .i64 x), .v (.int .i64 y)] (· = .v (.bool (facedB K S (x, y)))) := by
  have hp := hT.pos
  refine pcon_run 1000 Try.func109 rfl Try.results109 Try.ntmps109 (Nat.le_of_ble_eq_true rfl) ?_
  simp (maxSteps := 1000000) -implicitDefEqProofs only [go_sem, ↓reduceIte, reduceCtorEq, Nat.reduceEqDiff, Nat.reduceLT, Nat.reduceAdd, Nat.reduceLeDiff, Nat.reduceMul, Nat.reduceSub, Int.reduceToNat, Int.reduceLT, Int.reduceLE, Int.reduceEq, Int.reduceBNe, Nat.reduceBEq, xsA, ysA]
  refine wait_range 4 (fun k => ⟨52, 0, [(0, .fptr (.fsl 1 (T.map iA) :: .fsl 1 (xsA K) :: .fsl 1 (ysA K) :: .fsl 1 (S.map iA) :: rest)), (1, .v (.int .i64 x)), (2, .v (.int .i64 y)), (7, .v (.int .i64 (k : Int)))], []⟩)
    (fun k => ∀ j : Nat, j < k → faceB K S (x, y) j = false) (weak_to [0, 1, 2, 7] [] ?_ (by simp) (fun i h => by cases h)) (fun j hj => by omega) ?_
  · simp (maxSteps := 1000000) -implicitDefEqProofs only [go_sem, ↓reduceIte, reduceCtorEq, Nat.reduceEqDiff, Nat.reduceLT, Nat.reduceAdd, Nat.reduceLeDiff, Nat.reduceMul, Nat.reduceSub, Int.reduceToNat, Int.reduceLT, Int.reduceLE, Int.reduceEq, Int.reduceBNe, Nat.reduceBEq, St.keep, xsA, ysA, renL_iA, hr, Int.natCast_zero]
  · intro k hk hG
    refine run_sound 1000 _ _ ?_
    by_cases hk4 : k < 4
    · have hlt : ((k : Int) < 4) = True := eq_true (by omega)
      obtain ⟨a, b, hab⟩ : ∃ a b, onP (x, y) k = (a, b) := ⟨_, _, rfl⟩
      have hon := next_pc x y k (by omega) (by omega) (by omega) (by omega) (by omega) (by omega)
      rw [hab] at hon
      have hbd : (-100000 ≤ a ∧ a ≤ 100000) ∧ (-100000 ≤ b ∧ b ≤ 100000) := by
        unfold onP at hab
        split at hab
        · cases hab; omega
        · split at hab
          · cases hab; omega
          · split at hab
            · cases hab; omega
            · cases hab; omega
      have hkn := known_pc T K a b (.fsl 1 (S.map iA) :: rest) hT hn hn' hbd.1 hbd.2 (fun f => by simp only [renL_cons, ren_fsl, renL_iA, hr]) hneg
      simp only [xsA, ysA] at hkn
      have hk1 := kI_lt K (a, b)
      obtain ⟨v, hv⟩ : ∃ v, v = kI K (a, b) := ⟨_, rfl⟩
      rw [← hv] at hkn hk1
      have hw1 : IntKind.i64.wrap ((k : Int) + 1) = ((k + 1 : Nat) : Int) := by rw [wrap64 (by omega) (by omega)]; omega
      have hw2 : IntKind.i64.wrap ((k : Int) + 2) = (k : Int) + 2 := wrap64 (by omega) (by omega)
      have hw3 : ((k : Int) + 2).tmod 4 = ((k : Int) + 2) % 4 := Int.tmod_eq_emod_of_nonneg (by omega)
      have hw4 : IntKind.i64.wrap (((k : Int) + 2) % 4) = ((k : Int) + 2) % 4 := wrap64 (by omega) (by omega)
      have hface : faceB K S (x, y) k = (decide (0 ≤ v) && (decide (kindOf (S.getD v.toNat 0) = 9) && decide (dirOf (S.getD v.toNat 0) = ((k : Int) + 2) % 4))) := by
        simp only [faceB, hab, ← hv]
      have hnext : faceB K S (x, y) k = false → ∀ j : Nat, j < k + 1 → faceB K S (x, y) j = false := fun h j hj => by
        rcases Nat.lt_or_ge j k with h1 | h1
        · exact hG j h1
        · rw [show j = k by omega]; exact h
      by_cases hv0 : v < 0
      · have f1 : (v < 0) = True := eq_true hv0
        have hF : faceB K S (x, y) k = false := by rw [hface, decide_eq_false (by omega)]; rfl
        simp (maxSteps := 1000000) -implicitDefEqProofs only [go_sem, ↓reduceIte, reduceCtorEq, Nat.reduceEqDiff, Nat.reduceLT, Nat.reduceAdd, Nat.reduceLeDiff, Nat.reduceMul, Nat.reduceSub, Int.reduceToNat, Int.reduceLT, Int.reduceLE, Int.reduceEq, Int.reduceBNe, Nat.reduceBEq, xsA, ysA, hlt]
        (repeat' (first | exact trivial | contradiction | exact ⟨_, rfl⟩ | refine And.intro ?_ ?_ | ((first | show (_ : Nat) ≤ _ | show (_ : Nat) < _ | show (_ : Int) ≤ _ | show (_ : Int) < _); omega) | (refine wait_draw 1000 mixed (by decide +kernel) ?_; simp (maxSteps := 1000000) -implicitDefEqProofs only [go_sem, ↓reduceIte, reduceCtorEq, Nat.reduceEqDiff, Nat.reduceLT, Nat.reduceAdd, Nat.reduceLeDiff, Nat.reduceMul, Nat.reduceSub, Int.reduceToNat, Int.reduceLT, Int.reduceLE, Int.reduceEq, Int.reduceBNe, Nat.reduceBEq, xsA, ysA, hlt, hr, renL_iA, f1]) | ((first | refine call_eq 1000 (hon) ?_ ?_ rfl | refine call_draw 1000 (hon) ?_ ?_ | refine call_eq 1000 (hkn) ?_ ?_ rfl | refine call_draw 1000 (hkn) ?_ ?_); (focus (simp (maxSteps := 1000000) -implicitDefEqProofs only [go_sem, ↓reduceIte, reduceCtorEq, Nat.reduceEqDiff, Nat.reduceLT, Nat.reduceAdd, Nat.reduceLeDiff, Nat.reduceMul, Nat.reduceSub, Int.reduceToNat, Int.reduceLT, Int.reduceLE, Int.reduceEq, Int.reduceBNe, Nat.reduceBEq, xsA, ysA, hlt, hr, renL_iA, f1]; done)); simp (maxSteps := 1000000) -implicitDefEqProofs only [go_sem, ↓reduceIte, reduceCtorEq, Nat.reduceEqDiff, Nat.reduceLT, Nat.reduceAdd, Nat.reduceLeDiff, Nat.reduceMul, Nat.reduceSub, Int.reduceToNat, Int.reduceLT, Int.reduceLE, Int.reduceEq, Int.reduceBNe, Nat.reduceBEq, xsA, ysA, hlt, hr, renL_iA, f1]) | intro _))
        all_goals first
          | exact hnext hF _ ‹_›
          | ((refine weak_to [0, 1, 2, 7] [] ?_ (by simp) (fun i h => by cases h); simp (maxSteps := 1000000) -implicitDefEqProofs only [go_sem, ↓reduceIte, reduceCtorEq, Nat.reduceEqDiff, Nat.reduceLT, Nat.reduceAdd, Nat.reduceLeDiff, Nat.reduceMul, Nat.reduceSub, Int.reduceToNat, Int.reduceLT, Int.reduceLE, Int.reduceEq, Int.reduceBNe, Nat.reduceBEq, St.keep, xsA, ysA, renL_iA, hr, hw1]; done))
      · have f1 : (v < 0) = False := eq_false hv0
        have f2 : (0 ≤ v) = True := eq_true (by omega)
        have f3 : (v < (S.length : Int)) = True := eq_true (by omega)
        have hg := getD_iA S v.toNat (by omega)
        obtain ⟨a2, a3, a4, a5, a6, a7, a8, a9, hy10⟩ := ryard10 (S.getD v.toNat 0)
        have hyp := refYardOf_pc (S.getD v.toNat 0)
        rw [hy10] at hyp
        simp only [yA, iA, List.map_cons, List.map_nil] at hyp
        simp only [iA] at hg
        simp (maxSteps := 1000000) -implicitDefEqProofs only [go_sem, ↓reduceIte, reduceCtorEq, Nat.reduceEqDiff, Nat.reduceLT, Nat.reduceAdd, Nat.reduceLeDiff, Nat.reduceMul, Nat.reduceSub, Int.reduceToNat, Int.reduceLT, Int.reduceLE, Int.reduceEq, Int.reduceBNe, Nat.reduceBEq, xsA, ysA, hlt]
        (repeat' (first | exact trivial | contradiction | exact ⟨_, rfl⟩ | refine And.intro ?_ ?_ | ((first | show (_ : Nat) ≤ _ | show (_ : Nat) < _ | show (_ : Int) ≤ _ | show (_ : Int) < _); omega) | (refine wait_draw 1000 mixed (by decide +kernel) ?_; simp (maxSteps := 1000000) -implicitDefEqProofs only [go_sem, ↓reduceIte, reduceCtorEq, Nat.reduceEqDiff, Nat.reduceLT, Nat.reduceAdd, Nat.reduceLeDiff, Nat.reduceMul, Nat.reduceSub, Int.reduceToNat, Int.reduceLT, Int.reduceLE, Int.reduceEq, Int.reduceBNe, Nat.reduceBEq, xsA, ysA, hlt, hr, renL_iA, f1, f2, f3, hg, hw1, hw2, hw3, hw4]) | ((first | refine call_eq 1000 (hon) ?_ ?_ rfl | refine call_draw 1000 (hon) ?_ ?_ | refine call_eq 1000 (hkn) ?_ ?_ rfl | refine call_draw 1000 (hkn) ?_ ?_ | refine call_eq 1000 (hyp) ?_ ?_ rfl | refine call_draw 1000 (hyp) ?_ ?_); (focus (simp (maxSteps := 1000000) -implicitDefEqProofs only [go_sem, ↓reduceIte, reduceCtorEq, Nat.reduceEqDiff, Nat.reduceLT, Nat.reduceAdd, Nat.reduceLeDiff, Nat.reduceMul, Nat.reduceSub, Int.reduceToNat, Int.reduceLT, Int.reduceLE, Int.reduceEq, Int.reduceBNe, Nat.reduceBEq, xsA, ysA, hlt, hr, renL_iA, f1, f2, f3, hg, hw1, hw2, hw3, hw4]; done)); simp (maxSteps := 1000000) -implicitDefEqProofs only [go_sem, ↓reduceIte, reduceCtorEq, Nat.reduceEqDiff, Nat.reduceLT, Nat.reduceAdd, Nat.reduceLeDiff, Nat.reduceMul, Nat.reduceSub, Int.reduceToNat, Int.reduceLT, Int.reduceLE, Int.reduceEq, Int.reduceBNe, Nat.reduceBEq, xsA, ysA, hlt, hr, renL_iA, f1, f2, f3, hg, hw1, hw2, hw3, hw4]) | intro _))
        all_goals first
          | (have hF : faceB K S (x, y) k = true := by
               rw [hface]; simp only [Bool.and_eq_true, decide_eq_true_eq]; exact ⟨by omega, ‹_›, ‹_›⟩
             rw [facedB_true hk4 hF]; done)
          | (have hF : faceB K S (x, y) k = false := by
               rw [hface]; simp only [Bool.and_eq_false_iff, decide_eq_false_iff_not]; first | exact .inr (.inl ‹_›) | exact .inr (.inr ‹_›)
             first
             | exact hnext hF _ ‹_›
             | ((refine weak_to [0, 1, 2, 7] [] ?_ (by simp) (fun i h => by cases h); simp (maxSteps := 1000000) -implicitDefEqProofs only [go_sem, ↓reduceIte, reduceCtorEq, Nat.reduceEqDiff, Nat.reduceLT, Nat.reduceAdd, Nat.reduceLeDiff, Nat.reduceMul, Nat.reduceSub, Int.reduceToNat, Int.reduceLT, Int.reduceLE, Int.reduceEq, Int.reduceBNe, Nat.reduceBEq, St.keep, xsA, ysA, renL_iA, hr, hw1]; done)))
    · have hlt : ((k : Int) < 4) = False := eq_false (by omega)
      have hk5 : k = 4 := by omega
      subst hk5
      simp (maxSteps := 1000000) -implicitDefEqProofs only [go_sem, ↓reduceIte, reduceCtorEq, Nat.reduceEqDiff, Nat.reduceLT, Nat.reduceAdd, Nat.reduceLeDiff, Nat.reduceMul, Nat.reduceSub, Int.reduceToNat, Int.reduceLT, Int.reduceLE, Int.reduceEq, Int.reduceBNe, Nat.reduceBEq, xsA, ysA, hlt]
      rw [facedB_false hG]
end Go.Proofs.Ytiipggfhjkalfaa
