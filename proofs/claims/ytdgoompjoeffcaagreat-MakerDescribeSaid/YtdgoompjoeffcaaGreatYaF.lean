import Derived.Test.YtdgoompjoeffcaaGreatProg
import Derived.Test.YtdgoompjoeffcaaGreatPmY
import Derived.Test.YtdgoompjoeffcaaGreatYaE
/- A state of the yard put together. -/
set_option linter.unusedSimpArgs false
set_option linter.unusedVariables false
set_option maxRecDepth 20000
open Go Go.Proofs
namespace Go.Proofs.YtdgoompjoeffcaaGreat
open Pm
attribute [local irreducible] Wait CallT CallW NextT Le Weak
def wt (F : List (Nat × Nat)) : Nat := F.foldl (fun w f => w * f.1) 1
def payF (y : List Int) : List (Nat × Nat) → Int
  | [] => 0
  | f :: F => y.getD f.2 0 + f.1 * payF y F
def inR (y : List Int) (F : List (Nat × Nat)) : Bool := F.all fun f => decide (0 ≤ y.getD f.2 0) && decide (y.getD f.2 0 < f.1)
def bare (y : List Int) : List Int := [y.getD 0 0, y.getD 1 0, 0, 0, 0, 0, 0, 0, 0, 0]
def onlyL (y : List Int) (F : List (Nat × Nat)) : List Int := F.foldl (fun l f => l.set f.2 (y.getD f.2 0)) (bare y)
theorem wt_snoc (F : List (Nat × Nat)) (f : Nat × Nat) : wt (F ++ [f]) = wt F * f.1 := by simp [wt, List.foldl_append]
theorem wt_foldl : ∀ (F : List (Nat × Nat)) (a b : Nat), F.foldl (fun w f => w * f.1) (a * b) = a * F.foldl (fun w f => w * f.1) b
  | [], _, _ => rfl
  | f :: F, a, b => by simp only [List.foldl_cons]; rw [Nat.mul_assoc]; exact wt_foldl F a (b * f.1)
theorem wt_cons (F : List (Nat × Nat)) (f : Nat × Nat) : wt (f :: F) = f.1 * wt F := by
  have := wt_foldl F f.1 1
  simpa [wt] using this
theorem payF_snoc (y : List Int) : ∀ (F : List (Nat × Nat)) (f : Nat × Nat), payF y (F ++ [f]) = payF y F + wt F * y.getD f.2 0
  | [], f => by simp [payF, wt]
  | g :: F, f => by
    simp only [List.cons_append, payF, payF_snoc y F f, wt_cons]
    rw [Int.mul_add, Int.natCast_mul, Int.mul_assoc, Int.add_assoc]
theorem take_snoc {α : Type} [Inhabited α] (F : List α) (k : Nat) (hk : k < F.length) : F.take (k + 1) = F.take k ++ [F.getD k default] := by
  rw [List.take_add_one]
  simp [List.getD_eq_getElem?_getD, hk]
theorem wt_ok (k : Int) (j : Nat) (hj : j ≤ 5) : wt ((kindF k).take j) ≤ 131072 := by
  have key : ∀ F : List (Nat × Nat), ((List.range 6).all fun j => decide (wt (F.take j) ≤ 131072)) = true → wt (F.take j) ≤ 131072 := fun F h => of_decide_eq_true (List.all_eq_true.1 h j (List.mem_range.2 (by omega)))
  refine key _ ?_
  unfold kindF
  repeat' (first | rfl | refine ite_P (Q := fun F : List (Nat × Nat) => ((List.range 6).all fun j => decide (wt (F.take j) ≤ 131072)) = true) ?_ ?_)
theorem payF_bd (y : List Int) : ∀ F : List (Nat × Nat), inR y F = true → 0 ≤ payF y F ∧ payF y F < wt F
  | [], _ => by simp [payF, wt]
  | f :: F, h => by
    simp only [inR, List.all_cons, Bool.and_eq_true, decide_eq_true_eq] at h
    obtain ⟨h1, h2⟩ := payF_bd y F h.2
    have hm : (0 : Int) ≤ f.1 * payF y F := Int.mul_nonneg (by omega) h1
    have hm2 : (f.1 : Int) * payF y F ≤ f.1 * (wt F - 1) := Int.mul_le_mul_of_nonneg_left (by omega) (by omega)
    rw [Int.mul_sub, Int.mul_one] at hm2
    rw [wt_cons, payF, Int.natCast_mul]
    omega
theorem inR_snoc (y : List Int) (F : List (Nat × Nat)) (f : Nat × Nat) : inR y (F ++ [f]) = (inR y F && (decide (0 ≤ y.getD f.2 0) && decide (y.getD f.2 0 < f.1))) := by
  simp [inR, List.all_append]
theorem inR_take {y : List Int} {F : List (Nat × Nat)} (h : inR y F = true) (k : Nat) : inR y (F.take k) = true := by
  simp only [inR, List.all_eq_true] at h ⊢
  exact fun f hf => h f (List.mem_of_mem_take hf)
theorem onlyL_snoc (y : List Int) (F : List (Nat × Nat)) (f : Nat × Nat) : onlyL y (F ++ [f]) = (onlyL y F).set f.2 (y.getD f.2 0) := by simp [onlyL, List.foldl_append]
theorem onlyL_len (y : List Int) (F : List (Nat × Nat)) : (onlyL y F).length = 10 := by
  have key : ∀ (F : List (Nat × Nat)) (l : List Int), (F.foldl (fun l f => l.set f.2 (y.getD f.2 0)) l).length = l.length := by
    intro F
    induction F with
    | nil => intro l; rfl
    | cons f F ih => intro l; rw [List.foldl_cons, ih]; simp
  unfold onlyL
  rw [key]
  rfl
def YardStateE (y : List Int) : Int × Int :=
  if y.getD 0 0 < 0 ∨ 15 < y.getD 0 0 ∨ y.getD 1 0 < 0 ∨ 3 < y.getD 1 0 then (0, 11) else
  if inR y (kindF (y.getD 0 0)) = false then (0, 11) else
  if onlyL y (kindF (y.getD 0 0)) = y ∧ properB y = true then (y.getD 0 0 + 16 * y.getD 1 0 + 64 * payF y (kindF (y.getD 0 0)), 0) else (0, 11)
theorem ten_eq (a0 a1 a2 a3 a4 a5 a6 a7 a8 a9 b0 b1 b2 b3 b4 b5 b6 b7 b8 b9 : Int) : ((a0 == b0) && ((a1 == b1) && ((a2 == b2) && ((a3 == b3) && ((a4 == b4) && ((a5 == b5) && ((a6 == b6) && ((a7 == b7) && ((a8 == b8) && (a9 == b9)))))))))) = decide ([a0, a1, a2, a3, a4, a5, a6, a7, a8, a9] = [b0, b1, b2, b3, b4, b5, b6, b7, b8, b9]) := by
  refine bool_eq ?_
  simp
set_option maxHeartbeats 1000000 in
theorem yardState_pc (y : List Int) (hy : y.length = 10) : PCon Tryz.prog 66 [yA y] (· = .tup [iA (YardStateE y).1, iA (YardStateE y).2]) := by
  refine pcon_run 1000 Tryz.func66 rfl Tryz.results66 Tryz.ntmps66 (Nat.le_of_ble_eq_true rfl) ?_
  have hy' := hy
  obtain ⟨k, d, s, s1, s2, ph, as1, se, ro, co, hyy⟩ := ten_of y hy
  have hk0 : y.getD 0 0 = k := by rw [hyy]; rfl
  have hd0 : y.getD 1 0 = d := by rw [hyy]; rfl
  have hyA : yA y = .agg [iA k, iA d, iA s, iA s1, iA s2, iA ph, iA as1, iA se, iA ro, iA co] := by rw [hyy]; rfl
  have hE : YardStateE y = if k < 0 ∨ 15 < k ∨ d < 0 ∨ 3 < d then (0, 11) else if inR y (kindF k) = false then (0, 11) else if onlyL y (kindF k) = y ∧ properB y = true then (k + 16 * d + 64 * payF y (kindF k), 0) else (0, 11) := by
    unfold YardStateE; rw [hk0, hd0]
  simp -implicitDefEqProofs only [go_sem, hyA, iA]
  refine ⟨fun h1 => ⟨fun h2 => ⟨fun h3 => ⟨fun h4 => ?_, fun h4 => ?_⟩, fun h3 => ?_⟩, fun h2 => ?_⟩, fun h1 => ?_⟩
  · rw [hE]; simp [fz_v, fz_agg, fz_tup, fz_fsl, fzL_nil, fzL_cons, h1, h2, h3, h4, iA]
  · refine call_con_eq 1000 [0] (fields_con y hy) (by simp -implicitDefEqProofs only [go_sem, idxOf]) (by simp -implicitDefEqProofs only [go_sem, keepB, Blk.ren, idxOf, hyA, iA]) ?_ (by simp) (by simp) rfl (by simp)
    rw [hk0]
    have hok := kindF_ok k
    have h5 := kindF_len k
    have hwt := wt_ok k
    have hk00 : ∀ x : List Int, x.getD 0 0 = k → kindF (x.getD 0 0) = kindF k := fun x h => by rw [h]
    have hkk := hk00 (bare y) hk0
    generalize kindF k = F at hok hE h5 hwt hkk
    by_cases hne : F = []
    · subst hne
      simp -implicitDefEqProofs only [go_sem, idxOf, fsV, fsH, Blk.ren, hyA, iA]
      refine call_con_eq 1000 [1] (fields_con (bare y) rfl) (by simp -implicitDefEqProofs only [go_sem, idxOf]) (by simp -implicitDefEqProofs only [go_sem, keepB, Blk.ren, idxOf, yA, bare, iA, hk0, hd0]) ?_ (by simp) (by simp) rfl (by simp)
      rw [hkk]
      simp -implicitDefEqProofs only [go_sem, idxOf, fsV, fsH, Blk.ren, iA, yA, bare, hk0, hd0]
      refine wait_range 0 (fun k' => ⟨97, 0, [(1, .ptr 0 10 0 0), (2, iA 0), (3, iA 0), (4, .ptr 1 10 0 0), (7, iA 0), (8, iA 1), (37, iA 0), (38, iA 0)], [some (.row 106 10 [yA y]), some (.row 106 10 [yA (bare y)])]⟩) (fun _ => True) (weak_to [1, 2, 3, 4, 7, 8, 37, 38] [0, 1] ?_ (by simp) (fun i h => by cases h)) trivial ?_
      · simp -implicitDefEqProofs only [go_sem, St.keep, keepB, Blk.ren, idxOf, iA, hyA]
        simp -implicitDefEqProofs only [go_sem, yA, bare, hk0, hd0, iA]
      · intro k' _ _
        refine run_sound 1000 _ _ ?_
        rw [hE, if_neg (by omega)]
        have hw : ∀ x : Int, 0 ≤ x → x ≤ 255 → IntKind.i64.wrap x = x := fun x h h' => wrapI (by omega) (by omega)
        have w1 : IntKind.i64.wrap (16 * d) = 16 * d := hw _ (by omega) (by omega)
        have w2 : IntKind.i64.wrap (k + 16 * d) = k + 16 * d := hw _ (by omega) (by omega)
        have hb : bare y = [k, d, 0, 0, 0, 0, 0, 0, 0, 0] := by simp only [bare, hk0, hd0]
        have hbA : yA (bare y) = .agg [iA k, iA d, iA 0, iA 0, iA 0, iA 0, iA 0, iA 0, iA 0, iA 0] := by rw [hb]; rfl
        have w3 : IntKind.i64.wrap 0 = 0 := rfl
        simp -implicitDefEqProofs only [go_sem, hbA, hyA, iA, w1, w2, w3, Bool.and_true, ten_eq, ← hyy, ← hb, Int.mul_zero, Int.add_zero]
        (repeat' (first | exact trivial | contradiction | exact ⟨_, rfl⟩ | refine And.intro ?_ ?_ | (refine om ?_; omega) | (refine wait_draw 1000 mixed (by decide +kernel) ?_; simp -implicitDefEqProofs only [go_sem, hyA, iA, w1, w2, w3, Int.mul_zero, Int.add_zero]) | ((first | refine call_eq 1000 (proper_pc y hy) ?_ ?_ rfl | refine call_draw 1000 (proper_pc y hy) ?_ ?_); (focus (simp -implicitDefEqProofs only [go_sem, hyA, iA, w1, w2, w3, Int.mul_zero, Int.add_zero]; done)); simp -implicitDefEqProofs only [go_sem, hyA, iA, w1, w2, w3, Int.mul_zero, Int.add_zero]) | intro _))
        all_goals (clear hok h5 hwt hkk hk00 hE hyA hbA hb hyy w1 w2 w3; simp_all [fz_v, fz_tup, fzL_nil, fzL_cons, iA, inR, onlyL, payF])
    · rw [fsV_ne hne, fsH_ne hne]
      simp -implicitDefEqProofs only [go_sem, idxOf, Blk.ren, hyA, iA, renL_fA, fAo_some]
      refine call_con_eq 1000 [1] (fields_con (bare y) rfl) (by simp -implicitDefEqProofs only [go_sem, idxOf]) (by simp -implicitDefEqProofs only [go_sem, keepB, Blk.ren, idxOf, yA, bare, iA, hk0, hd0]) ?_ (by simp) (by simp) rfl (by simp)
      rw [hkk, fsV_ne hne, fsH_ne hne]
      simp -implicitDefEqProofs only [go_sem, idxOf, fsV, fsH, Blk.ren, iA, yA, bare, hk0, hd0, renL_fA, fAo_some]
      refine wait_range F.length (fun j => ⟨97, 0, [(1, .ptr 0 10 0 0), (2, iA 0), (3, iA 0), (4, .ptr 1 10 0 0), (6, .sl 3 2 0 F.length), (7, iA (payF y (F.take j))), (8, iA (wt (F.take j))), (36, .sl 2 2 0 F.length), (37, iA F.length), (38, iA j)],
        [some (.row 106 10 [yA y]), some (.row 106 10 [yA (onlyL y (F.take j))]), some (.row 143 2 (F.map (fA 0))), some (.row 143 2 (F.map (fA 1)))]⟩) (fun j => inR y (F.take j) = true) (weak_to [1, 2, 3, 4, 6, 7, 8, 36, 37, 38] [0, 1, 2, 3] ?_ (by simp) (fun i h => by cases h)) (by simp [inR]) ?_
      · simp -implicitDefEqProofs only [go_sem, St.keep, keepB, Blk.ren, idxOf, iA, hyA, renL_fA, fAo_some]
        simp -implicitDefEqProofs only [go_sem, yA, onlyL, bare, List.foldl_nil, hk0, hd0, iA, payF, wt, Int.natCast_one]
      · intro j hj hin
        refine run_sound 1000 _ _ ?_
        have hbd := payF_bd y (F.take j) hin
        have hwj := hwt j (by omega)
        by_cases hj1 : j < F.length
        · have hm := hok (F.getD j default) (by rw [List.getD_eq_getElem?_getD, List.getElem?_eq_getElem hj1]; exact List.getElem_mem hj1)
          have g0 := getD_fA 0 F j hj1
          have g1 := getD_fA 1 F j hj1
          have hlo := onlyL_len y (F.take j)
          rw [take_snoc F j hj1, inR_snoc, payF_snoc, wt_snoc, onlyL_snoc, hin]
          have hout : (decide (0 ≤ y.getD (F.getD j default).2 0) && decide (y.getD (F.getD j default).2 0 < (F.getD j default).1)) = false → YardStateE y = (0, 11) := fun h => by
            rw [hE, if_neg (by omega), if_pos]
            refine Bool.eq_false_iff.2 fun h' => ?_
            have := inR_take h' (j + 1)
            rw [take_snoc F j hj1, inR_snoc, h] at this
            simp at this
          generalize payF y (F.take j) = pj at hbd
          generalize wt (F.take j) = wj at hbd hwj
          generalize onlyL y (F.take j) = oj at hlo
          generalize F.getD j default = f at hm g0 g1 hout
          obtain ⟨b, c⟩ := f
          simp only at hm hout
          have gy := getD_iA y c (by omega)
          generalize hv : y.getD c 0 = v at gy hout
          have hw2 : IntKind.i64.wrap ((j : Int) + 1) = ((j + 1 : Nat) : Int) := by rw [wrapI (by omega) (by omega)]; omega
          have hmul : 0 ≤ v → v < b → 0 ≤ (wj : Int) * v ∧ (wj : Int) * v ≤ 131072 * 256 := fun a a' => ⟨Int.mul_nonneg (by omega) a, Int.mul_le_mul (by omega) (by omega) a (by omega)⟩
          have hmul2 : (wj : Int) * b ≤ 131072 * 256 := Int.mul_le_mul (by omega) (by omega) (by omega) (by omega)
          have hmul3 : 0 ≤ (wj : Int) * b := Int.mul_nonneg (by omega) (by omega)
          have v1 : 0 ≤ v → v < b → IntKind.i64.wrap ((wj : Int) * v) = wj * v := fun a a' => wrapI (by have := hmul a a'; omega) (by have := hmul a a'; omega)
          have v2 : 0 ≤ v → v < b → IntKind.i64.wrap (pj + (wj : Int) * v) = pj + wj * v := fun a a' => wrapI (by have := hmul a a'; omega) (by have := hmul a a'; omega)
          have v3 : IntKind.i64.wrap ((wj : Int) * b) = ((wj * b : Nat) : Int) := by rw [wrapI (by omega) (by omega)]; exact (Int.natCast_mul _ _).symm
          clear hE hkk hk00 hwt
          simp -implicitDefEqProofs only [go_sem, iA, yA, hj1, g0, g1, fA]
          refine wait_draw 1000 mixed (by decide +kernel) ?_
          simp -implicitDefEqProofs only [go_sem, iA, yA, hj1, g0, g1, fA, gy]
          refine ⟨by omega, fun q1 => ⟨by omega, fun q2 => ?_, fun q2 => ?_⟩, fun q1 => ?_⟩
          · rw [hout (by simp; omega)]
          · have h0v : 0 ≤ v := by omega
            have hvb : v < b := by omega
            refine wait_draw 1000 mixed (by decide +kernel) ?_
            simp -implicitDefEqProofs only [go_sem, iA, yA, hj1, g0, g1, fA, gy, v1 h0v hvb, v2 h0v hvb, v3, hlo, put_iA]
            refine ⟨by omega, by omega, by omega, ⟨h0v, hvb⟩, ?_⟩
            refine weak_to [1, 2, 3, 4, 6, 7, 8, 36, 37, 38] [0, 1, 2, 3] ?_ (by simp) (fun i h => by cases h)
            simp -implicitDefEqProofs only [go_sem, St.keep, keepB, Blk.ren, idxOf, iA, yA, hw2, renL_iA, renL_fA, fAo_some]
          · rw [hout (by simp; omega)]
        · have hj2 : j = F.length := by omega
          subst hj2
          rw [List.take_length] at hin hbd hwj
          simp only [List.take_length]
          rw [hE, if_neg (by omega), if_neg (by rw [hin]; exact Bool.noConfusion)]
          have hlo := onlyL_len y F
          generalize onlyL y F = oj at hlo
          generalize payF y F = pj at hbd
          generalize wt F = wj at hbd hwj
          obtain ⟨a0, a1, a2, a3, a4, a5, a6, a7, a8, a9, hoo⟩ := ten_of oj hlo
          have hoA : yA oj = .agg [iA a0, iA a1, iA a2, iA a3, iA a4, iA a5, iA a6, iA a7, iA a8, iA a9] := by rw [hoo]; rfl
          have w1 : IntKind.i64.wrap (16 * d) = 16 * d := wrapI (by omega) (by omega)
          have w2 : IntKind.i64.wrap (k + 16 * d) = k + 16 * d := wrapI (by omega) (by omega)
          have w3 : IntKind.i64.wrap (64 * pj) = 64 * pj := wrapI (by omega) (by omega)
          have w4 : IntKind.i64.wrap (k + 16 * d + 64 * pj) = k + 16 * d + 64 * pj := wrapI (by omega) (by omega)
          simp -implicitDefEqProofs only [go_sem, hoA, hyA, iA, w1, w2, w3, w4, hj1, Bool.and_true, ten_eq, ← hyy, ← hoo]
          (repeat' (first | exact trivial | contradiction | exact ⟨_, rfl⟩ | refine And.intro ?_ ?_ | (refine om ?_; omega) | (refine wait_draw 1000 mixed (by decide +kernel) ?_; simp -implicitDefEqProofs only [go_sem, hyA, iA, w1, w2, w3, w4]) | ((first | refine call_eq 1000 (proper_pc y hy) ?_ ?_ rfl | refine call_draw 1000 (proper_pc y hy) ?_ ?_); (focus (simp -implicitDefEqProofs only [go_sem, hyA, iA, w1, w2, w3, w4]; done)); simp -implicitDefEqProofs only [go_sem, hyA, iA, w1, w2, w3, w4]) | intro _))
          all_goals (clear hok h5 hwt hkk hk00 hE hyA hoA hyy hoo w1 w2 w3 w4; simp_all [fz_v, fz_tup, fzL_nil, fzL_cons, iA])
  · rw [hE]; simp [fz_v, fz_agg, fz_tup, fz_fsl, fzL_nil, fzL_cons, h1, h2, h3, iA]
  · rw [hE]; simp [fz_v, fz_agg, fz_tup, fz_fsl, fzL_nil, fzL_cons, h1, h2, iA]
  · rw [hE]; simp [fz_v, fz_agg, fz_tup, fz_fsl, fzL_nil, fzL_cons, h1, iA]
end Go.Proofs.YtdgoompjoeffcaaGreat
