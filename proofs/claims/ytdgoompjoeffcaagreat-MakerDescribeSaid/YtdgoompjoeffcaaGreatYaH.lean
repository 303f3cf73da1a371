import Derived.Test.YtdgoompjoeffcaaGreatProg
import Derived.Test.YtdgoompjoeffcaaGreatPmY
import Derived.Test.YtdgoompjoeffcaaGreatYaF
/- A state of the yard put together: the reference. -/
set_option linter.unusedSimpArgs false
set_option linter.unusedVariables false
set_option maxRecDepth 20000
open Go Go.Proofs
namespace Go.Proofs.YtdgoompjoeffcaaGreat
open Pm
attribute [local irreducible] Wait CallT CallW NextT Le Weak
def payR (y : List Int) (G : List (Nat × Nat)) : Int := G.foldl (fun o f => o * f.1 + y.getD f.2 0) 0
theorem payR_snoc (y : List Int) (G : List (Nat × Nat)) (f : Nat × Nat) : payR y (G ++ [f]) = payR y G * f.1 + y.getD f.2 0 := by simp [payR, List.foldl_append]
theorem payR_rev (y : List Int) : ∀ F : List (Nat × Nat), payR y F.reverse = payF y F
  | [] => rfl
  | f :: F => by rw [List.reverse_cons, payR_snoc, payR_rev y F, payF, Int.mul_comm]; omega
theorem wt_rev (k : Int) (j : Nat) (hj : j ≤ 5) : wt ((kindF k).reverse.take j) ≤ 131072 := by
  have key : ∀ F : List (Nat × Nat), ((List.range 6).all fun j => decide (wt (F.reverse.take j) ≤ 131072)) = true → wt (F.reverse.take j) ≤ 131072 := fun F h => of_decide_eq_true (List.all_eq_true.1 h j (List.mem_range.2 (by omega)))
  refine key _ ?_
  unfold kindF
  repeat' (first | rfl | refine ite_P (Q := fun F : List (Nat × Nat) => ((List.range 6).all fun j => decide (wt (F.reverse.take j) ≤ 131072)) = true) ?_ ?_)
theorem payR_bd (y : List Int) (G : List (Nat × Nat)) : inR y G = true → 0 ≤ payR y G ∧ payR y G < wt G := by
  have key : ∀ n : Nat, n ≤ G.length → inR y (G.take n) = true → 0 ≤ payR y (G.take n) ∧ payR y (G.take n) < wt (G.take n) := by
    intro n
    induction n with
    | zero => intro _ _; simp [payR, wt]
    | succ n ih =>
      intro hn h
      rw [take_snoc G n (by omega), inR_snoc] at h
      simp only [Bool.and_eq_true, decide_eq_true_eq] at h
      obtain ⟨h1, h2⟩ := ih (by omega) h.1
      rw [take_snoc G n (by omega), payR_snoc, wt_snoc]
      have hm : (0 : Int) ≤ payR y (G.take n) * (G.getD n default).1 := Int.mul_nonneg h1 (by omega)
      have hm2 : payR y (G.take n) * ((G.getD n default).1 : Int) ≤ (wt (G.take n) - 1) * ((G.getD n default).1 : Int) := Int.mul_le_mul_of_nonneg_right (by omega) (by omega)
      rw [Int.sub_mul, Int.one_mul] at hm2
      rw [Int.natCast_mul]
      omega
  intro h
  have := key G.length (Nat.le_refl _)
  rw [List.take_length] at this
  exact this h
def RefYardStateE (y : List Int) : Int × Int :=
  if y.getD 0 0 < 0 ∨ 15 < y.getD 0 0 ∨ y.getD 1 0 < 0 ∨ 3 < y.getD 1 0 ∨ ((y.getD 0 0 = 0 ∨ y.getD 0 0 = 14) ∧ y.getD 1 0 ≠ 0) then (0, 11) else
  if inR y (kindF (y.getD 0 0)).reverse = false then (0, 11) else
  if onlyL y (kindF (y.getD 0 0)).reverse = y ∧ rightB y = true then (y.getD 0 0 + 16 * y.getD 1 0 + 64 * payR y (kindF (y.getD 0 0)).reverse, 0) else (0, 11)
theorem rev_get {α : Type} [Inhabited α] (F : List α) (m : Nat) (h : m < F.length) : F.reverse.getD m default = F.getD (F.length - 1 - m) default := by
  rw [List.getD_eq_getElem?_getD, List.getD_eq_getElem?_getD, List.getElem?_reverse h]
set_option maxHeartbeats 1000000 in
theorem refYardState_pc (y : List Int) (hy : y.length = 10) : PCon Tryz.prog 55 [yA y] (· = .tup [iA (RefYardStateE y).1, iA (RefYardStateE y).2]) := by
  refine pcon_run 1000 Tryz.func55 rfl Tryz.results55 Tryz.ntmps55 (Nat.le_of_ble_eq_true rfl) ?_
  obtain ⟨k, d, s, s1, s2, ph, as1, se, ro, co, hyy⟩ := ten_of y hy
  have hk0 : y.getD 0 0 = k := by rw [hyy]; rfl
  have hd0 : y.getD 1 0 = d := by rw [hyy]; rfl
  have hyA : yA y = .agg [iA k, iA d, iA s, iA s1, iA s2, iA ph, iA as1, iA se, iA ro, iA co] := by rw [hyy]; rfl
  have hE : RefYardStateE y = if k < 0 ∨ 15 < k ∨ d < 0 ∨ 3 < d ∨ ((k = 0 ∨ k = 14) ∧ d ≠ 0) then (0, 11) else if inR y (kindF k).reverse = false then (0, 11) else if onlyL y (kindF k).reverse = y ∧ rightB y = true then (k + 16 * d + 64 * payR y (kindF k).reverse, 0) else (0, 11) := by
    unfold RefYardStateE; rw [hk0, hd0]
  have hbase := bases_pc' k
  have hok := kindF_ok k
  have h5 := kindF_len k
  have hwt := wt_rev k
  have hmain : ∀ x : Int × Int, x = (if inR y (kindF k).reverse = false then (0, 11) else if onlyL y (kindF k).reverse = y ∧ rightB y = true then (k + 16 * d + 64 * payR y (kindF k).reverse, 0) else (0, 11)) → 0 ≤ k → k ≤ 15 → 0 ≤ d → d ≤ 3 → True := fun _ _ _ _ _ _ => trivial
  clear hmain
  simp -implicitDefEqProofs only [go_sem, hyA, iA]
  (repeat' (first | exact trivial | contradiction | refine And.intro ?_ ?_ | intro _))
  all_goals try (rw [hE, if_pos (by omega)]; done)
  all_goals
    rw [hE, if_neg (by omega)]
    have e0 : 0 ≤ k := by omega
    have e1 : k ≤ 15 := by omega
    have e2 : 0 ≤ d := by omega
    have e3 : d ≤ 3 := by omega
    refine call_eq 1000 hbase (by simp -implicitDefEqProofs only [go_sem, iA]) ?_ rfl
    clear hE hbase
    generalize kindF k = F at *
    simp -implicitDefEqProofs only [go_sem]
    refine wait_range F.length (fun m => ⟨109, 0, [(1, .ptr 0 10 0 0), (2, iA 0), (3, iA 0), (4, .fsl 1 (F.map b1)), (5, .fsl 1 (F.map b2)), (6, .ptr 1 10 0 0), (7, iA (payR y (F.reverse.take m))), (8, iA ((F.length : Int) - 1 - m))],
      [some (.row 106 10 [yA y]), some (.row 106 10 [yA (onlyL y (F.reverse.take m))])]⟩) (fun j => inR y (F.reverse.take j) = true) (weak_to [1, 2, 3, 4, 5, 6, 7, 8] [0, 1] ?_ (by simp) (fun i h => by cases h)) (by simp [inR]) ?_
    · have w0 : IntKind.i64.wrap ((F.length : Int) - 1) = (F.length : Int) - 1 - (0 : Nat) := by rw [wrapI (by omega) (by omega)]; simp
      simp -implicitDefEqProofs only [go_sem, St.keep, keepB, Blk.ren, idxOf, iA, hyA, renL_b1, renL_b2, w0]
      simp -implicitDefEqProofs only [go_sem, yA, onlyL, bare, List.foldl_nil, hk0, hd0, iA, payR]
    · intro j hj hin
      refine run_sound 1000 _ _ ?_
      have hbd := payR_bd y (F.reverse.take j) hin
      have hwj := hwt j (by omega)
      by_cases hj1 : j < F.length
      · have hidx : (F.length : Int) - 1 - j = ((F.length - 1 - j : Nat) : Int) := by omega
        have hi1 : F.length - 1 - j < F.length := by omega
        have hlr : j < F.reverse.length := by simpa using hj1
        have hm := hok (F.reverse.getD j default) (by rw [rev_get F j hj1, List.getD_eq_getElem?_getD, List.getElem?_eq_getElem hi1]; exact List.getElem_mem hi1)
        have g0 := getD_b1 F _ hi1
        have g1 := getD_b2 F _ hi1
        rw [← rev_get F j hj1] at g0 g1
        have hlo := onlyL_len y (F.reverse.take j)
        rw [take_snoc F.reverse j hlr, inR_snoc, payR_snoc, onlyL_snoc, hin]
        have hout : (decide (0 ≤ y.getD (F.reverse.getD j default).2 0) && decide (y.getD (F.reverse.getD j default).2 0 < (F.reverse.getD j default).1)) = false → inR y F.reverse = false := fun h => by
          refine Bool.eq_false_iff.2 fun h' => ?_
          have := inR_take h' (j + 1)
          rw [take_snoc F.reverse j hlr, inR_snoc, h] at this
          simp at this
        generalize payR y (F.reverse.take j) = pj at hbd
        generalize wt (F.reverse.take j) = wj at hbd hwj
        generalize onlyL y (F.reverse.take j) = oj at hlo
        generalize F.reverse.getD j default = f at hm g0 g1 hout
        obtain ⟨b, c⟩ := f
        simp only at hm hout
        have hfe := fieldE_get y c hm.2.1 hm.1
        generalize hv : y.getD c 0 = v at hfe hout
        have hw2 : IntKind.i64.wrap (((F.length - 1 - j : Nat) : Int) - 1) = (F.length : Int) - 1 - ((j + 1 : Nat) : Int) := by rw [wrapI (by omega) (by omega)]; omega
        have hmul : 0 ≤ pj * b := Int.mul_nonneg (by omega) (by omega)
        have hmul2 : pj * b ≤ 131072 * 256 := Int.mul_le_mul (by omega) (by omega) (by omega) (by omega)
        have v1 : IntKind.i64.wrap (pj * b) = pj * b := wrapI (by omega) (by omega)
        have v2 : 0 ≤ v → v < b → IntKind.i64.wrap (pj * b + v) = pj * b + v := fun a a' => wrapI (by omega) (by omega)
        have hge : (0 : Int) ≤ ((F.length - 1 - j : Nat) : Int) := by omega
        simp only [hidx]
        simp -implicitDefEqProofs only [go_sem, iA, yA, hi1, g0, g1, b1, b2, hge, hidx]
        refine wait_draw 1000 mixed (by decide +kernel) ?_
        simp -implicitDefEqProofs only [go_sem, iA, yA, hi1, g0, g1, b1, b2, take_iA y 10 hy]
        refine call_draw 1000 (field_pc y hy ((c : Int) - 2)) (by simp -implicitDefEqProofs only [go_sem, yA, iA, renL_iA]) ?_
        rw [hfe]
        simp -implicitDefEqProofs only [go_sem, iA, yA, hi1, g0, g1, b1, b2]
        refine ⟨fun q1 => ⟨fun q2 => ?_, fun q2 => ?_⟩, fun q1 => ?_⟩
        · rw [if_pos (hout (by simp; omega))]
        · have h0v : 0 ≤ v := by omega
          have hvb : v < b := by omega
          refine wait_draw 1000 mixed (by decide +kernel) ?_
          simp -implicitDefEqProofs only [go_sem, iA, yA, hi1, g0, g1, b1, b2, take_iA oj 10 hlo]
          refine call_draw 1000 (with_pc oj hlo ((c : Int) - 2) v) (by simp -implicitDefEqProofs only [go_sem, yA, iA, renL_iA]) ?_
          rw [withE_set oj c v hm.2.1 hm.1]
          have hl2 : (oj.set c v).length = 10 := by simp [hlo]
          generalize oj.set c v = y2 at hl2
          obtain ⟨a0, a1, a2, a3, a4, a5, a6, a7, a8, a9, hy2⟩ := ten_of y2 hl2
          obtain ⟨c0, c1, c2, c3, c4, c5, c6, c7, c8, c9, hoo⟩ := ten_of oj hlo
          have hoA : oj.map iA = [iA c0, iA c1, iA c2, iA c3, iA c4, iA c5, iA c6, iA c7, iA c8, iA c9] := by rw [hoo]; rfl
          have h2A : y2.map iA = [iA a0, iA a1, iA a2, iA a3, iA a4, iA a5, iA a6, iA a7, iA a8, iA a9] := by rw [hy2]; rfl
          simp -implicitDefEqProofs only [go_sem, iA, yA, hi1, g0, g1, b1, b2, v1, v2 h0v hvb, hoA, h2A]
          refine ⟨hj1, ⟨h0v, hvb⟩, ?_⟩
          refine weak_to [1, 2, 3, 4, 5, 6, 7, 8] [0, 1] ?_ (by simp) (fun i h => by cases h)
          simp -implicitDefEqProofs only [go_sem, St.keep, keepB, Blk.ren, idxOf, iA, yA, hw2, renL_iA, renL_b1, renL_b2, h2A]
        · rw [if_pos (hout (by simp; omega))]
      · have hj2 : j = F.length := by omega
        subst hj2
        have hr : F.length = F.reverse.length := by simp
        rw [hr, List.take_length] at hin hbd hwj
        have ht : F.reverse.take F.length = F.reverse := by rw [hr, List.take_length]
        simp only [ht]
        rw [if_neg (by rw [hin]; exact Bool.noConfusion)]
        have hlo := onlyL_len y F.reverse
        generalize onlyL y F.reverse = oj at hlo
        generalize payR y F.reverse = pj at hbd
        generalize wt F.reverse = wj at hbd hwj
        obtain ⟨a0, a1, a2, a3, a4, a5, a6, a7, a8, a9, hoo⟩ := ten_of oj hlo
        have hoA : yA oj = .agg [iA a0, iA a1, iA a2, iA a3, iA a4, iA a5, iA a6, iA a7, iA a8, iA a9] := by rw [hoo]; rfl
        have w1 : IntKind.i64.wrap (16 * d) = 16 * d := wrapI (by omega) (by omega)
        have w2 : IntKind.i64.wrap (k + 16 * d) = k + 16 * d := wrapI (by omega) (by omega)
        have w3 : IntKind.i64.wrap (64 * pj) = 64 * pj := wrapI (by omega) (by omega)
        have w4 : IntKind.i64.wrap (k + 16 * d + 64 * pj) = k + 16 * d + 64 * pj := wrapI (by omega) (by omega)
        have hneg : ((0 : Int) ≤ (F.length : Int) - 1 - F.length) = False := eq_false (by omega)
        simp -implicitDefEqProofs only [go_sem, hoA, hyA, iA, w1, w2, w3, w4, hneg, Bool.and_true, ten_eq, ← hyy, ← hoo]
        (repeat' (first | exact trivial | contradiction | exact ⟨_, rfl⟩ | refine And.intro ?_ ?_ | (refine om ?_; omega) | (refine wait_draw 1000 mixed (by decide +kernel) ?_; simp -implicitDefEqProofs only [go_sem, hyA, iA, w1, w2, w3, w4]) | ((first | refine call_eq 1000 (right_pc y hy) ?_ ?_ rfl | refine call_draw 1000 (right_pc y hy) ?_ ?_); (focus (simp -implicitDefEqProofs only [go_sem, hyA, iA, w1, w2, w3, w4]; done)); simp -implicitDefEqProofs only [go_sem, hyA, iA, w1, w2, w3, w4]) | intro _))
        all_goals (clear hok h5 hwt hyA hoA hyy hoo w1 w2 w3 w4 hneg hr ht hj; simp_all [fz_v, fz_tup, fzL_nil, fzL_cons, iA])
end Go.Proofs.YtdgoompjoeffcaaGreat
/- The states that a tape writes. -/
namespace Go.Proofs.YtdgoompjoeffcaaGreat
open Pm
attribute [local irreducible] Wait CallT CallW NextT Le Weak
def WrittenY (i : Int) : List Int :=
  if i = 0 then zero10
  else if i ≤ 4 then [1, i - 1, 0, 0, 0, 0, 0, 0, 0, 0]
  else if i ≤ 12 then [1, (i - 5).tdiv 2, 0, 8 + (i - 5).tmod 2, 0, 0, 0, 0, 0, 0]
  else if i ≤ 16 then [2, i - 13, 0, 0, 0, 0, 0, 0, 0, 0]
  else if i ≤ 24 then [3, (i - 17).tdiv 2, (i - 17).tmod 2, 0, 0, 0, 0, 0, 0, 0]
  else if i ≤ 32 then [4, (i - 25).tdiv 2, (i - 25).tmod 2, 0, 0, 0, 0, 0, 0, 0]
  else if i ≤ 40 then [5, (i - 33).tdiv 2, (i - 33).tmod 2, 0, 0, 0, 0, 0, 0, 0]
  else if i ≤ 48 then [6, (i - 41).tdiv 2, (i - 41).tmod 2, 0, 0, 0, 0, 0, 0, 0]
  else if i ≤ 56 then [7, (i - 49).tdiv 2, (i - 49).tmod 2, 0, 0, 0, 0, 0, 0, 0]
  else if i ≤ 64 then [8, (i - 57).tdiv 2, (i - 57).tmod 2, 0, 0, 0, 1, 0, 0, 0]
  else if i ≤ 68 then [9, i - 65, 0, 0, 0, 0, 0, 0, 1, 0]
  else [10, i - 69, 0, 0, 0, 1, 0, 0, 0, 0]
def WrittenStateE (i : Int) : Int × Int := if i < 0 ∨ 73 ≤ i then (0, 19) else YardStateE (WrittenY i)
def RefWrittenStateE (i : Int) : Int × Int := if i < 0 ∨ 73 ≤ i then (0, 19) else if i = 0 then (0, 0) else ((RefYardStateE (WrittenY i)).1, 0)
theorem wI (i c : Int) (h0 : 0 ≤ i) (h1 : i < 73) (h2 : 0 ≤ c) (h3 : c < 73) : IntKind.i64.wrap (i - c) = i - c := wrapI (by omega) (by omega)
theorem tdiv_bd (a : Int) (h0 : -73 ≤ a) (h1 : a < 73) : -73 ≤ a.tdiv 2 ∧ a.tdiv 2 < 73 := by
  rcases Int.le_total 0 a with h | h
  · rw [Int.tdiv_eq_ediv_of_nonneg h]; omega
  · have e : a = -(-a) := by omega
    rw [e, Int.neg_tdiv, Int.tdiv_eq_ediv_of_nonneg (by omega)]; omega
theorem tmod_bd (a : Int) : -2 < a.tmod 2 ∧ a.tmod 2 < 2 := by
  have h1 := Int.tmod_lt_of_pos a (show (0 : Int) < 2 by omega)
  have h2 := Int.lt_tmod_of_pos a (show (0 : Int) < 2 by omega)
  omega
theorem wQ (i c : Int) (h0 : 0 ≤ i) (h1 : i < 73) (h2 : 0 ≤ c) (h3 : c < 73) : IntKind.i64.wrap ((i - c).tdiv 2) = (i - c).tdiv 2 := by
  have := tdiv_bd (i - c) (by omega) (by omega)
  exact wrapI (by omega) (by omega)
theorem wM (a : Int) : IntKind.i64.wrap (8 + a.tmod 2) = 8 + a.tmod 2 := by
  have := tmod_bd a
  exact wrapI (by omega) (by omega)
theorem two_con (i kind first : Int) (y : List Int) (hy : y.length = 10) (h0 : 0 ≤ i) (h1 : i < 73) (h2 : 0 ≤ first) (h3 : first < 73) :
    Con Tryz.prog 65 [iA kind, iA first, .ptr 0 1 0 0, .ptr 1 10 0 0] [some (.row 3 1 [iA i]), some (.row 106 10 [yA y])]
      fun x h => x = .tup [] ∧ h = [some (.row 3 1 [iA i]), some (.row 106 10 [yA (((y.set 0 kind).set 1 ((i - first).tdiv 2)).set 2 ((i - first).tmod 2))])] := by
  obtain ⟨k, d, s, s1, s2, ph, as1, se, ro, co, rfl⟩ := ten_of y hy
  have w1 := wI i first h0 h1 h2 h3
  have w2 := wQ i first h0 h1 h2 h3
  refine con_run 1000 Tryz.func65 rfl Tryz.results65 Tryz.ntmps65 (Nat.le_of_ble_eq_true rfl) ?_
  simp -implicitDefEqProofs only [go_sem, yA, iA]
  refine wait_drawW (fun id => id == 1) 1000 mixed (by decide +kernel) ?_
  simp -implicitDefEqProofs only [go_sem, w1, w2]
theorem writtenY_len (i : Int) : (WrittenY i).length = 10 := by
  unfold WrittenY
  repeat' (first | rfl | refine ite_P (Q := fun l : List Int => l.length = 10) ?_ ?_)
theorem written_pc (i : Int) : PCon Tryz.prog 39 [iA i] (· = .tup [iA (WrittenStateE i).1, iA (WrittenStateE i).2]) := by
  refine pcon_run 1000 Tryz.func39 rfl Tryz.results39 Tryz.ntmps39 (Nat.le_of_ble_eq_true rfl) ?_
  by_cases h0 : i < 0
  · simp -implicitDefEqProofs only [go_sem, iA, h0]
    simp [fz_v, fz_agg, fz_tup, fz_fsl, fzL_nil, fzL_cons, WrittenStateE, h0, iA]
  · by_cases h1 : 73 ≤ i
    · simp -implicitDefEqProofs only [go_sem, iA, h0, h1]
      simp [fz_v, fz_agg, fz_tup, fz_fsl, fzL_nil, fzL_cons, WrittenStateE, h1, iA]
    · have e0 : 0 ≤ i := by omega
      have e1 : i < 73 := by omega
      have w1 := wI i 1 e0 e1 (by omega) (by omega)
      have w5 := wI i 5 e0 e1 (by omega) (by omega)
      have q5 := wQ i 5 e0 e1 (by omega) (by omega)
      have w13 := wI i 13 e0 e1 (by omega) (by omega)
      have w65 := wI i 65 e0 e1 (by omega) (by omega)
      have w69 := wI i 69 e0 e1 (by omega) (by omega)
      have hE : WrittenStateE i = YardStateE (WrittenY i) := by unfold WrittenStateE; rw [if_neg (by omega)]
      rw [hE]
      simp -implicitDefEqProofs only [go_sem, iA, h0, h1]
      (repeat' (first | exact trivial | contradiction | exact ⟨_, rfl⟩ | refine And.intro ?_ ?_ | (refine om ?_; omega) | ((first | refine wait_draw 1000 mixed (by decide +kernel) ?_ | refine wait_drawW (fun id => id == 1) 1000 mixed (by decide +kernel) ?_); simp -implicitDefEqProofs only [go_sem, w1, w5, q5, w13, w65, w69, wM, zero10, yA, iA]) | ((first | refine call_con_eq 1000 [0, 1] (two_con i 3 17 zero10 rfl e0 e1 (by omega) (by omega)) ?_ ?_ ?_ | refine call_draw_con 1000 [0, 1] (two_con i 3 17 zero10 rfl e0 e1 (by omega) (by omega)) (by decide +kernel) ?_ ?_ ?_); (focus (simp -implicitDefEqProofs only [go_sem, w1, w5, q5, w13, w65, w69, wM, zero10, yA, iA]; done)); (focus (simp -implicitDefEqProofs only [go_sem, w1, w5, q5, w13, w65, w69, wM, zero10, yA, iA]; done)); simp -implicitDefEqProofs only [go_sem, w1, w5, q5, w13, w65, w69, wM, zero10, yA, iA]) | ((first | refine call_con_eq 1000 [0, 1] (two_con i 4 25 zero10 rfl e0 e1 (by omega) (by omega)) ?_ ?_ ?_ | refine call_draw_con 1000 [0, 1] (two_con i 4 25 zero10 rfl e0 e1 (by omega) (by omega)) (by decide +kernel) ?_ ?_ ?_); (focus (simp -implicitDefEqProofs only [go_sem, w1, w5, q5, w13, w65, w69, wM, zero10, yA, iA]; done)); (focus (simp -implicitDefEqProofs only [go_sem, w1, w5, q5, w13, w65, w69, wM, zero10, yA, iA]; done)); simp -implicitDefEqProofs only [go_sem, w1, w5, q5, w13, w65, w69, wM, zero10, yA, iA]) | ((first | refine call_con_eq 1000 [0, 1] (two_con i 5 33 zero10 rfl e0 e1 (by omega) (by omega)) ?_ ?_ ?_ | refine call_draw_con 1000 [0, 1] (two_con i 5 33 zero10 rfl e0 e1 (by omega) (by omega)) (by decide +kernel) ?_ ?_ ?_); (focus (simp -implicitDefEqProofs only [go_sem, w1, w5, q5, w13, w65, w69, wM, zero10, yA, iA]; done)); (focus (simp -implicitDefEqProofs only [go_sem, w1, w5, q5, w13, w65, w69, wM, zero10, yA, iA]; done)); simp -implicitDefEqProofs only [go_sem, w1, w5, q5, w13, w65, w69, wM, zero10, yA, iA]) | ((first | refine call_con_eq 1000 [0, 1] (two_con i 6 41 zero10 rfl e0 e1 (by omega) (by omega)) ?_ ?_ ?_ | refine call_draw_con 1000 [0, 1] (two_con i 6 41 zero10 rfl e0 e1 (by omega) (by omega)) (by decide +kernel) ?_ ?_ ?_); (focus (simp -implicitDefEqProofs only [go_sem, w1, w5, q5, w13, w65, w69, wM, zero10, yA, iA]; done)); (focus (simp -implicitDefEqProofs only [go_sem, w1, w5, q5, w13, w65, w69, wM, zero10, yA, iA]; done)); simp -implicitDefEqProofs only [go_sem, w1, w5, q5, w13, w65, w69, wM, zero10, yA, iA]) | ((first | refine call_con_eq 1000 [0, 1] (two_con i 7 49 zero10 rfl e0 e1 (by omega) (by omega)) ?_ ?_ ?_ | refine call_draw_con 1000 [0, 1] (two_con i 7 49 zero10 rfl e0 e1 (by omega) (by omega)) (by decide +kernel) ?_ ?_ ?_); (focus (simp -implicitDefEqProofs only [go_sem, w1, w5, q5, w13, w65, w69, wM, zero10, yA, iA]; done)); (focus (simp -implicitDefEqProofs only [go_sem, w1, w5, q5, w13, w65, w69, wM, zero10, yA, iA]; done)); simp -implicitDefEqProofs only [go_sem, w1, w5, q5, w13, w65, w69, wM, zero10, yA, iA]) | ((first | refine call_con_eq 1000 [0, 1] (two_con i 8 57 zero10 rfl e0 e1 (by omega) (by omega)) ?_ ?_ ?_ | refine call_draw_con 1000 [0, 1] (two_con i 8 57 zero10 rfl e0 e1 (by omega) (by omega)) (by decide +kernel) ?_ ?_ ?_); (focus (simp -implicitDefEqProofs only [go_sem, w1, w5, q5, w13, w65, w69, wM, zero10, yA, iA]; done)); (focus (simp -implicitDefEqProofs only [go_sem, w1, w5, q5, w13, w65, w69, wM, zero10, yA, iA]; done)); simp -implicitDefEqProofs only [go_sem, w1, w5, q5, w13, w65, w69, wM, zero10, yA, iA]) | intro _))
      all_goals (refine call_eq 1000 (yardState_pc (WrittenY i) (writtenY_len i)) ?_ ?_ rfl)
      all_goals first | (simp -implicitDefEqProofs only [go_sem, iA]; done) | (simp -implicitDefEqProofs only [go_sem]; simp [WrittenY, yA, iA, zero10, *])
def refWY (i : Int) : List Int :=
  if i = 0 then zero10
  else if i < 5 then [1, i - 1, 0, 0, 0, 0, 0, 0, 0, 0]
  else if i < 13 then [1, (i - 5).tdiv 2, 0, 8 + (i - 5).tmod 2, 0, 0, 0, 0, 0, 0]
  else if i < 17 then [2, i - 13, 0, 0, 0, 0, 0, 0, 0, 0]
  else if i < 25 then [3, (i - 17).tdiv 2, (i - 17).tmod 2, 0, 0, 0, 0, 0, 0, 0]
  else if i < 33 then [4, (i - 25).tdiv 2, (i - 25).tmod 2, 0, 0, 0, 0, 0, 0, 0]
  else if i < 41 then [5, (i - 33).tdiv 2, (i - 33).tmod 2, 0, 0, 0, 0, 0, 0, 0]
  else if i < 49 then [6, (i - 41).tdiv 2, (i - 41).tmod 2, 0, 0, 0, 0, 0, 0, 0]
  else if i < 57 then [7, (i - 49).tdiv 2, (i - 49).tmod 2, 0, 0, 0, 0, 0, 0, 0]
  else if i < 65 then [8, (i - 57).tdiv 2, (i - 57).tmod 2, 0, 0, 0, 1, 0, 0, 0]
  else if i < 69 then [9, i - 65, 0, 0, 0, 0, 0, 0, 1, 0]
  else [10, i - 69, 0, 0, 0, 1, 0, 0, 0, 0]
theorem refWY_eq (i : Int) : refWY i = WrittenY i := by
  unfold refWY WrittenY
  repeat' (first | rfl | (refine ite_congr ?_ (fun _ => ?_) (fun _ => ?_)) | (apply propext; omega))
theorem refWritten_pc (i : Int) : PCon Tryz.prog 28 [iA i] (· = .tup [iA (RefWrittenStateE i).1, iA (RefWrittenStateE i).2]) := by
  refine pcon_run 1000 Tryz.func28 rfl Tryz.results28 Tryz.ntmps28 (Nat.le_of_ble_eq_true rfl) ?_
  by_cases h0 : i < 0
  · simp -implicitDefEqProofs only [go_sem, iA, h0]
    simp [fz_v, fz_agg, fz_tup, fz_fsl, fzL_nil, fzL_cons, RefWrittenStateE, h0, iA]
  · by_cases h1 : 73 ≤ i
    · simp -implicitDefEqProofs only [go_sem, iA, h0, h1]
      simp [fz_v, fz_agg, fz_tup, fz_fsl, fzL_nil, fzL_cons, RefWrittenStateE, h1, iA]
    · have e0 : 0 ≤ i := by omega
      have e1 : i < 73 := by omega
      have w1 := wI i 1 e0 e1 (by omega) (by omega)
      have w5 := wI i 5 e0 e1 (by omega) (by omega)
      have q5 := wQ i 5 e0 e1 (by omega) (by omega)
      have w13 := wI i 13 e0 e1 (by omega) (by omega)
      have w17 := wI i 17 e0 e1 (by omega) (by omega)
      have q17 := wQ i 17 e0 e1 (by omega) (by omega)
      have w25 := wI i 25 e0 e1 (by omega) (by omega)
      have q25 := wQ i 25 e0 e1 (by omega) (by omega)
      have w33 := wI i 33 e0 e1 (by omega) (by omega)
      have q33 := wQ i 33 e0 e1 (by omega) (by omega)
      have w41 := wI i 41 e0 e1 (by omega) (by omega)
      have q41 := wQ i 41 e0 e1 (by omega) (by omega)
      have w49 := wI i 49 e0 e1 (by omega) (by omega)
      have q49 := wQ i 49 e0 e1 (by omega) (by omega)
      have w57 := wI i 57 e0 e1 (by omega) (by omega)
      have q57 := wQ i 57 e0 e1 (by omega) (by omega)
      have w65 := wI i 65 e0 e1 (by omega) (by omega)
      have w69 := wI i 69 e0 e1 (by omega) (by omega)
      have hE : RefWrittenStateE i = if i = 0 then (0, 0) else ((RefYardStateE (WrittenY i)).1, 0) := by unfold RefWrittenStateE; rw [if_neg (by omega)]
      rw [hE]
      simp -implicitDefEqProofs only [go_sem, iA, h0, h1]
      (repeat' (first | exact trivial | contradiction | exact ⟨_, rfl⟩ | refine And.intro ?_ ?_ | (refine om ?_; omega)  | (refine wait_draw 1000 mixed (by decide +kernel) ?_; simp -implicitDefEqProofs only [go_sem w1, w5, q5, w13, w17, q17, w25, q25, w33, q33, w41, q41, w49, q49, w57, q57, w65, w69, wM, zero10, yA, iA]) | intro _))
      all_goals first | (simp [*]; done) | (refine call_eq 1000 (refYardState_pc (refWY i) (by rw [refWY_eq]; exact writtenY_len i)) ?_ ?_ rfl)
      all_goals first | (simp -implicitDefEqProofs only [go_sem, iA, refWY_eq, if_neg (by assumption : ¬ i = 0)]; done) | (simp -implicitDefEqProofs only [go_sem]; simp [refWY, yA, iA, zero10, wM, *])
end Go.Proofs.YtdgoompjoeffcaaGreat
