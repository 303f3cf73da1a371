import Derived.Test.YtdgoompjoeffcaaGreatProg
import Derived.Test.YtdgoompjoeffcaaGreatPmY
import Derived.Test.YtdgoompjoeffcaaGreatDeK
import Derived.Test.YtdgoompjoeffcaaGreatDwO
/- A tape that describes: the document's rows. -/
set_option linter.unusedSimpArgs false
set_option linter.unusedVariables false
set_option maxRecDepth 20000
open Go Go.Proofs
namespace Go.Proofs.YtdgoompjoeffcaaGreat
open Pm
attribute [local irreducible] Wait CallT CallW NextT Le Weak
def rd0 : Rd := ⟨[], [], 0⟩
def bareD (m : Int) (s : Rd) : Bool := !sidedD s && s.mid == m
theorem twD_len (p : Rd → Bool) : ∀ (l : List Rd) (k : Nat), k ≤ l.length → (∀ j, j < k → p (l.getD j rd0) = true) → (k = l.length ∨ p (l.getD k rd0) = false) → (l.takeWhile p).length = k
  | [], k, h, _, _ => by simp at h; subst h; rfl
  | a :: l, 0, _, _, h => by
    rcases h with h | h
    · simp at h
    · have : p a = false := h
      rw [List.takeWhile_cons, this]
      rfl
  | a :: l, k + 1, h, h1, h2 => by
    have h0 : p a = true := h1 0 (by omega)
    rw [List.takeWhile_cons, h0]
    simp only [if_true, List.length_cons]
    rw [twD_len p l k (by simpa using h) (fun j hj => h1 (j + 1) (by omega)) (by simpa using h2)]
theorem grpD_one {r : Rd} {l : List Rd} (h : sidedD r = true) : grpD (r :: l) = (sideD 6 7 r.west ++ (sideD 7 6 r.east ++ numD 1 (24 + numF r.mid))) :: grpD l := by rw [grpD, if_pos h]
theorem grpD_mid {r : Rd} {l : List Rd} {k : Nat} (h : sidedD r = false) (hk : (l.takeWhile (bareD r.mid)).length = k) : grpD (r :: l) = numD (1 + k) (24 + numF r.mid) :: grpD (l.drop k) := by
  rw [grpD, if_neg (by rw [h]; decide)]
  have : (l.takeWhile fun s => !sidedD s && s.mid == r.mid).length = k := hk
  rw [this]
theorem bareD_eq {r : Rd} (h : sidedD r = false) : r.west = [] ∧ r.east = [] := by
  obtain ⟨w, e, m⟩ := r
  simp only [sidedD, Bool.not_eq_false', Bool.and_eq_true, List.isEmpty_iff] at h
  exact h
theorem rowsDL_get (p : List Ce) (K i : Nat) (h : i < K) : (rowsDL p K).getD i rd0 = rowD p ((i : Int) - (K : Int)) := by
  simp [rowsDL, List.getD_eq_getElem?_getD, h]
theorem rowsDL_len (p : List Ce) (K : Nat) : (rowsDL p K).length = K := by simp [rowsDL]
theorem rowsDL_drop (p : List Ce) (K i : Nat) (h : i < K) : (rowsDL p K).drop i = rowD p ((i : Int) - (K : Int)) :: (rowsDL p K).drop (i + 1) := by
  have h1 : i < (rowsDL p K).length := by rw [rowsDL_len]; exact h
  rw [List.drop_eq_getElem_cons h1]
  congr 1
  have := rowsDL_get p K i h
  rw [List.getD_eq_getElem?_getD, List.getElem?_eq_getElem h1] at this
  exact this
theorem numD_len (n : Nat) (s : Int) (h : 1 ≤ n) : (numD n s).length ≤ n := by
  rw [numD_times s n h, ← timN_Q]
  exact timN_len s n
theorem flat_len : ∀ R : List (Nat × Int), (∀ r ∈ R, 1 ≤ r.1) → (R.flatMap fun r => numD r.1 (24 + numF r.2)).length ≤ (lineN R).length
  | [], _ => Nat.le_refl _
  | r :: R, h => by
    have h1 := flat_len R fun x hx => h x (by simp [hx])
    have h2 := numD_len r.1 (24 + numF r.2) (h r (by simp))
    rw [List.flatMap_cons, List.length_append, show r :: R = [r] ++ R from rfl, lineN_app, List.length_append]
    obtain ⟨n, s⟩ := r
    rw [lineN_one, List.length_replicate]
    exact Nat.add_le_add h2 h1
theorem rowD_bd {p : List Ce} (ho : inOrder p) (M : Nat) (hx : ∀ c ∈ p, -(M : Int) ≤ c.1.1 ∧ c.1.1 ≤ M) (y : Int) : (rowD p y).west.length ≤ M ∧ (rowD p y).east.length ≤ M := by
  obtain ⟨r1, r2, _⟩ := rowD_parts ho y
  rw [r1, r2, westD_len, eastD_len]
  have hasc := asc_row id ho y
  have h1 := mnF_asc hasc
  have h2 := mxF_asc hasc
  have hb : ∀ d ∈ rowCells id p y, -(M : Int) ≤ d.1 ∧ d.1 ≤ M := fun d hd => by
    obtain ⟨c, hc, rfl⟩ := List.mem_map.1 hd
    exact hx c (List.mem_filter.1 hc).1
  have h3 := min_between _ 0 (-(M : Int)) (by omega) fun d hd => (hb d hd).1
  have h4 := max_between _ 0 (M : Int) (by omega) fun d hd => (hb d hd).2
  unfold mnF at h1
  unfold mxF at h2
  omega
theorem lineN_rle : ∀ L : List Int, lineN (rle L) = L
  | [] => rfl
  | x :: l => by
    have ih := lineN_rle l
    simp only [rle]
    split
    · rename_i n y r h
      rw [h] at ih
      have e1 : lineN ((n, y) :: r) = List.replicate n y ++ lineN r := by rw [show (n, y) :: r = [(n, y)] ++ r from rfl, lineN_app, lineN_one]
      rw [e1] at ih
      split
      · rename_i e
        subst e
        rw [show (n + 1, x) :: r = [(n + 1, x)] ++ r from rfl, lineN_app, lineN_one, List.replicate_succ, List.cons_append, ih]
      · rw [show (1, x) :: (n, y) :: r = [(1, x)] ++ ((n, y) :: r) from rfl, lineN_app, lineN_one, e1, ih]
        rfl
    · rename_i h
      rw [h] at ih
      rw [lineN_one, ← ih]
      rfl
theorem lineD_len (L : List Int) : (lineD L).length ≤ L.length := by
  have h := flat_len (rle L) (rle_pos L)
  rw [lineN_rle] at h
  exact h
def rrS (p : List Ce) (K : Nat) (x : Nat × List Int) : St := ⟨114, 1, [(0, .sl 1 1 0 x.2.length), (1, .fsl 3 (ceL p)), (3, .v (.int .i64 (-1))), (9, .v (.int .i64 ((x.1 : Int) - (K : Int))))], [none, tpB x.2]⟩
def rrQ (X : List Int) (r : AV) (h : List (Option Blk)) : Prop := ∃ b, r = .sl b 1 0 X.length ∧ h[b]? = some (tpB X) ∧ 0 < b ∧ h[0]? = some none
theorem rowsDL_ge (p : List Ce) (K i : Nat) (h : K ≤ i) : (rowsDL p K).drop i = [] := List.drop_eq_nil_of_le (by rw [rowsDL_len]; exact h)
set_option maxHeartbeats 8000000 in
theorem rrows_con (p : List Ce) (K : Nat) (T : List Int) (hl : p.length < 1000000) (hK : K ≤ 4000) (ho : inOrder p) (hx : ∀ c ∈ p, -((4000 : Nat) : Int) ≤ c.1.1 ∧ c.1.1 ≤ ((4000 : Nat) : Int)) (hT : T.length < 10000) :
    Con Tryz.prog 13 [.sl 0 1 0 T.length, .fsl 3 (ceL p), .v (.int .i64 (-(K : Int))), .v (.int .i64 (-1))] [tpB T] (rrQ (exitD (grpD (rowsDL p K)) T)) := by
  refine con_run 1000 Tryz.func13 rfl Tryz.results13 Tryz.ntmps13 (Nat.le_of_ble_eq_true rfl) ?_
  obtain ⟨X, hX0⟩ : ∃ X, X = exitD (grpD (rowsDL p K)) T := ⟨_, rfl⟩
  rw [← hX0]
  simp -implicitDefEqProofs only [go_sem, tpB]
  refine wait_data (rrS p K) (fun x => x.1 ≤ K ∧ exitD (grpD ((rowsDL p K).drop x.1)) x.2 = X ∧ x.2.length < 10000) (fun x => K - x.1) (0, T) (weak_to' [0, 1, 3, 9] [100, 0] ?_ (by decide) (stay_of rfl)) ⟨Nat.zero_le _, by rw [List.drop_zero]; exact hX0.symm, hT⟩ ?_
  · simp -implicitDefEqProofs only [go_sem, St.keep, rrS, tpB, Int.natCast_zero, Int.zero_sub]
  rintro ⟨i, T'⟩ ⟨hi, hX, hTl⟩
  simp only at hi hX hTl
  refine run_sound 1000 _ _ ?_
  by_cases hil : i < K
  · have h1 : ((i : Int) - (K : Int) ≤ -1) = True := eq_true (by omega)
    rw [rowsDL_drop p K i hil] at hX
    have hxx : ∀ c ∈ p, -1000000 ≤ c.1.1 ∧ c.1.1 ≤ 1000000 := fun c hc => by have := hx c hc; omega
    have rc := rowD_pc p ((i : Int) - (K : Int)) hl ho hxx
    obtain ⟨bw, be⟩ := rowD_bd ho 4000 hx ((i : Int) - (K : Int))
    by_cases hs : sidedD (rowD p ((i : Int) - (K : Int))) = true
    focus
      rw [grpD_one hs, exitD] at hX
      generalize rowD p ((i : Int) - (K : Int)) = r at rc bw be hs hX
      obtain ⟨w, e, m⟩ := r
      simp only at rc bw be hX
      have hm1 := numF_pos m
      have hm2 := numF_le m
      have nc := numD_pc m
      simp only [iA] at nc
      have hw2 : IntKind.i64.wrap (24 + numF m) = 24 + numF m := wrap64 (by omega) (by omega)
      have hw3 : IntKind.i64.wrap ((w.length : Int) + (e.length : Int)) = ((w.length + e.length : Nat) : Int) := by rw [wrapN (by omega) (by omega)]; omega
      have hw4 : IntKind.i64.wrap ((w.length : Int)) = (w.length : Int) := wrapN (by omega) (by omega)
      have hw5 : IntKind.i64.wrap ((e.length : Int)) = (e.length : Int) := wrapN (by omega) (by omega)
      have hw6 : IntKind.i64.wrap ((i : Int) - (K : Int) + 1) = ((i + 1 : Nat) : Int) - (K : Int) := by rw [wrap64 (by omega) (by omega)]; omega
      have lw := lineD_len w
      have le := lineD_len e
      obtain ⟨A, hA⟩ : ∃ A, A = sideD 6 7 w := ⟨_, rfl⟩
      obtain ⟨C, hC⟩ : ∃ C, C = sideD 7 6 e := ⟨_, rfl⟩
      rw [← hA, ← hC] at hX
      have hcase : (w = [] ∧ e ≠ []) ∨ (w ≠ [] ∧ e = []) ∨ (w ≠ [] ∧ e ≠ []) := by
        by_cases hw : w = [] <;> by_cases he : e = []
        · subst hw he; simp [sidedD] at hs
        · exact .inl ⟨hw, he⟩
        · exact .inr (.inl ⟨hw, he⟩)
        · exact .inr (.inr ⟨hw, he⟩)
      unfold rrS
      rcases hcase with ⟨hw, he⟩ | ⟨hw, he⟩ | ⟨hw, he⟩
      focus
        subst hw
        have eA : A = [] := by rw [hA]; rfl
        rw [eA, List.nil_append] at hX
        have eC : C = 7 :: (numD e.length 5 ++ (lineD e ++ [6])) := by rw [hC]; unfold sideD; rw [if_neg he]
        have e0 : 0 < e.length := List.length_pos_iff.2 he
        have e1 : ((0 : Int) < (e.length : Int)) = True := eq_true (by omega)
        have nle := numD_len e.length 5 e0
        have b1 := number_pcon (T' ++ [7]) e.length 5 (by omega) (by omega) (by simp only [List.length_append, List.length_cons, List.length_nil]; omega)
        have b2 := line_con (T' ++ [7] ++ numD e.length 5) e (by simp only [List.length_append, List.length_cons, List.length_nil]; omega) (by omega)
        unfold tpB at b1 b2
        have c1 := number_pcon (T' ++ [7] ++ numD e.length 5 ++ lineD e ++ [6]) 1 (24 + numF m) (by decide) (by decide) (by simp only [List.length_append, List.length_cons, List.length_nil]; omega)
        rw [show ((1 : Nat) : Int) = 1 from rfl] at c1
        unfold tpB at c1
        obtain ⟨TC, hTC⟩ : ∃ TC, TC = (T' ++ [7] ++ numD e.length 5 ++ lineD e ++ [6]) ++ numD 1 (24 + numF m) := ⟨_, rfl⟩
        rw [← hTC] at c1
        have z1 : ((e.length : Int) == 0) = false := beq_false_of_ne (by omega)
        have hcat : T' ++ (C ++ numD 1 (24 + numF m)) = TC := by
          rw [eC, hTC]
          simp only [List.append_assoc, List.cons_append, List.nil_append]
        rw [hcat] at hX
        by_cases hlong : 4096 < TC.length
        focus
          have l1 : ((4096 : Int) < (TC.length : Int)) = True := eq_true (by omega)
          rw [if_pos hlong] at hX
          simp -implicitDefEqProofs only [go_sem, tpB, h1]
          (repeat' (first | exact trivial | contradiction | exact ⟨_, rfl⟩ | refine And.intro ?_ ?_ | (refine om ?_; omega) | (refine wait_draw 1000 mixed (by decide +kernel) ?_; simp -implicitDefEqProofs only [go_sem, h1, hw2, hw3, hw4, hw5, hw6, Int.zero_add, Int.add_zero, List.length_append, List.length_cons, List.length_nil, e1, z1, l1]) | ((first | refine call_eq 1000 (rc) ?_ ?_ rfl | refine call_draw 1000 (rc) ?_ ?_ | refine call_eq 1000 (nc) ?_ ?_ rfl | refine call_draw 1000 (nc) ?_ ?_); (focus (simp -implicitDefEqProofs only [go_sem, h1, hw2, hw3, hw4, hw5, hw6, Int.zero_add, Int.add_zero, List.length_append, List.length_cons, List.length_nil, e1, z1, l1]; done)); simp -implicitDefEqProofs only [go_sem, h1, hw2, hw3, hw4, hw5, hw6, Int.zero_add, Int.add_zero, List.length_append, List.length_cons, List.length_nil, e1, z1, l1]) | ((first | refine call_con_eq 1000 [4] (b1) ?_ ?_ ?_ | refine call_draw_con 1000 [4] (b1) (by decide +kernel) ?_ ?_ ?_); (focus (simp -implicitDefEqProofs only [go_sem, h1, hw2, hw3, hw4, hw5, hw6, Int.zero_add, Int.add_zero, List.length_append, List.length_cons, List.length_nil, e1, z1, l1]; done)); (focus (simp -implicitDefEqProofs only [go_sem, h1, hw2, hw3, hw4, hw5, hw6, Int.zero_add, Int.add_zero, List.length_append, List.length_cons, List.length_nil, e1, z1, l1]; done)); simp -implicitDefEqProofs only [go_sem, h1, hw2, hw3, hw4, hw5, hw6, Int.zero_add, Int.add_zero, List.length_append, List.length_cons, List.length_nil, e1, z1, l1]) | ((first | refine call_con_eq 1000 [5] (b2) ?_ ?_ ?_ | refine call_draw_con 1000 [5] (b2) (by decide +kernel) ?_ ?_ ?_); (focus (simp -implicitDefEqProofs only [go_sem, h1, hw2, hw3, hw4, hw5, hw6, Int.zero_add, Int.add_zero, List.length_append, List.length_cons, List.length_nil, e1, z1, l1]; done)); (focus (simp -implicitDefEqProofs only [go_sem, h1, hw2, hw3, hw4, hw5, hw6, Int.zero_add, Int.add_zero, List.length_append, List.length_cons, List.length_nil, e1, z1, l1]; done)); simp -implicitDefEqProofs only [go_sem, h1, hw2, hw3, hw4, hw5, hw6, Int.zero_add, Int.add_zero, List.length_append, List.length_cons, List.length_nil, e1, z1, l1]) | ((first | refine call_con_eq 1000 [8] (c1) ?_ ?_ ?_ | refine call_draw_con 1000 [8] (c1) (by decide +kernel) ?_ ?_ ?_); (focus (simp -implicitDefEqProofs only [go_sem, h1, hw2, hw3, hw4, hw5, hw6, Int.zero_add, Int.add_zero, List.length_append, List.length_cons, List.length_nil, e1, z1, l1]; done)); (focus (simp -implicitDefEqProofs only [go_sem, h1, hw2, hw3, hw4, hw5, hw6, Int.zero_add, Int.add_zero, List.length_append, List.length_cons, List.length_nil, e1, z1, l1]; done)); simp -implicitDefEqProofs only [go_sem, h1, hw2, hw3, hw4, hw5, hw6, Int.zero_add, Int.add_zero, List.length_append, List.length_cons, List.length_nil, e1, z1, l1]) | intro _))
          all_goals
            rw [← hX]
            exact ⟨9, rfl, rfl, by decide, rfl⟩
        focus
          have l1 : ((4096 : Int) < (TC.length : Int)) = False := eq_false (by omega)
          rw [if_neg hlong] at hX
          simp -implicitDefEqProofs only [go_sem, tpB, h1]
          (repeat' (first | exact trivial | contradiction | exact ⟨_, rfl⟩ | refine And.intro ?_ ?_ | (refine om ?_; omega) | (refine wait_draw 1000 mixed (by decide +kernel) ?_; simp -implicitDefEqProofs only [go_sem, h1, hw2, hw3, hw4, hw5, hw6, Int.zero_add, Int.add_zero, List.length_append, List.length_cons, List.length_nil, e1, z1, l1]) | ((first | refine call_eq 1000 (rc) ?_ ?_ rfl | refine call_draw 1000 (rc) ?_ ?_ | refine call_eq 1000 (nc) ?_ ?_ rfl | refine call_draw 1000 (nc) ?_ ?_); (focus (simp -implicitDefEqProofs only [go_sem, h1, hw2, hw3, hw4, hw5, hw6, Int.zero_add, Int.add_zero, List.length_append, List.length_cons, List.length_nil, e1, z1, l1]; done)); simp -implicitDefEqProofs only [go_sem, h1, hw2, hw3, hw4, hw5, hw6, Int.zero_add, Int.add_zero, List.length_append, List.length_cons, List.length_nil, e1, z1, l1]) | ((first | refine call_con_eq 1000 [4] (b1) ?_ ?_ ?_ | refine call_draw_con 1000 [4] (b1) (by decide +kernel) ?_ ?_ ?_); (focus (simp -implicitDefEqProofs only [go_sem, h1, hw2, hw3, hw4, hw5, hw6, Int.zero_add, Int.add_zero, List.length_append, List.length_cons, List.length_nil, e1, z1, l1]; done)); (focus (simp -implicitDefEqProofs only [go_sem, h1, hw2, hw3, hw4, hw5, hw6, Int.zero_add, Int.add_zero, List.length_append, List.length_cons, List.length_nil, e1, z1, l1]; done)); simp -implicitDefEqProofs only [go_sem, h1, hw2, hw3, hw4, hw5, hw6, Int.zero_add, Int.add_zero, List.length_append, List.length_cons, List.length_nil, e1, z1, l1]) | ((first | refine call_con_eq 1000 [5] (b2) ?_ ?_ ?_ | refine call_draw_con 1000 [5] (b2) (by decide +kernel) ?_ ?_ ?_); (focus (simp -implicitDefEqProofs only [go_sem, h1, hw2, hw3, hw4, hw5, hw6, Int.zero_add, Int.add_zero, List.length_append, List.length_cons, List.length_nil, e1, z1, l1]; done)); (focus (simp -implicitDefEqProofs only [go_sem, h1, hw2, hw3, hw4, hw5, hw6, Int.zero_add, Int.add_zero, List.length_append, List.length_cons, List.length_nil, e1, z1, l1]; done)); simp -implicitDefEqProofs only [go_sem, h1, hw2, hw3, hw4, hw5, hw6, Int.zero_add, Int.add_zero, List.length_append, List.length_cons, List.length_nil, e1, z1, l1]) | ((first | refine call_con_eq 1000 [8] (c1) ?_ ?_ ?_ | refine call_draw_con 1000 [8] (c1) (by decide +kernel) ?_ ?_ ?_); (focus (simp -implicitDefEqProofs only [go_sem, h1, hw2, hw3, hw4, hw5, hw6, Int.zero_add, Int.add_zero, List.length_append, List.length_cons, List.length_nil, e1, z1, l1]; done)); (focus (simp -implicitDefEqProofs only [go_sem, h1, hw2, hw3, hw4, hw5, hw6, Int.zero_add, Int.add_zero, List.length_append, List.length_cons, List.length_nil, e1, z1, l1]; done)); simp -implicitDefEqProofs only [go_sem, h1, hw2, hw3, hw4, hw5, hw6, Int.zero_add, Int.add_zero, List.length_append, List.length_cons, List.length_nil, e1, z1, l1]) | intro _))
          all_goals
            refine ⟨(i + 1, TC), by simp only; omega, ⟨by simp only; omega, hX, by simp only; omega⟩, weak_to' [0, 1, 3, 9] [0, 9] ?_ (by decide) (stay_of rfl)⟩
            simp -implicitDefEqProofs only [go_sem, St.keep, rrS, tpB, hw6]
      focus
        have eA : A = 6 :: (numD w.length 5 ++ (lineD w ++ [7])) := by rw [hA]; unfold sideD; rw [if_neg hw]
        have w0 : 0 < w.length := List.length_pos_iff.2 hw
        have w1 : ((0 : Int) < (w.length : Int)) = True := eq_true (by omega)
        have nlw := numD_len w.length 5 w0
        have a1 := number_pcon (T' ++ [6]) w.length 5 (by omega) (by omega) (by simp only [List.length_append, List.length_cons, List.length_nil]; omega)
        have a2 := line_con (T' ++ [6] ++ numD w.length 5) w (by simp only [List.length_append, List.length_cons, List.length_nil]; omega) (by omega)
        unfold tpB at a1 a2
        subst he
        have eC : C = [] := by rw [hC]; rfl
        rw [eC, List.nil_append] at hX
        have c1 := number_pcon (T' ++ [6] ++ numD w.length 5 ++ lineD w ++ [7]) 1 (24 + numF m) (by decide) (by decide) (by simp only [List.length_append, List.length_cons, List.length_nil]; omega)
        rw [show ((1 : Nat) : Int) = 1 from rfl] at c1
        unfold tpB at c1
        obtain ⟨TC, hTC⟩ : ∃ TC, TC = (T' ++ [6] ++ numD w.length 5 ++ lineD w ++ [7]) ++ numD 1 (24 + numF m) := ⟨_, rfl⟩
        rw [← hTC] at c1
        have z1 : ((w.length : Int) == 0) = false := beq_false_of_ne (by omega)
        have hcat : T' ++ (A ++ numD 1 (24 + numF m)) = TC := by
          rw [eA, hTC]
          simp only [List.append_assoc, List.cons_append, List.nil_append]
        rw [hcat] at hX
        by_cases hlong : 4096 < TC.length
        focus
          have l1 : ((4096 : Int) < (TC.length : Int)) = True := eq_true (by omega)
          rw [if_pos hlong] at hX
          simp -implicitDefEqProofs only [go_sem, tpB, h1]
          (repeat' (first | exact trivial | contradiction | exact ⟨_, rfl⟩ | refine And.intro ?_ ?_ | (refine om ?_; omega) | (refine wait_draw 1000 mixed (by decide +kernel) ?_; simp -implicitDefEqProofs only [go_sem, h1, hw2, hw3, hw4, hw5, hw6, Int.zero_add, Int.add_zero, List.length_append, List.length_cons, List.length_nil, w1, z1, l1]) | ((first | refine call_eq 1000 (rc) ?_ ?_ rfl | refine call_draw 1000 (rc) ?_ ?_ | refine call_eq 1000 (nc) ?_ ?_ rfl | refine call_draw 1000 (nc) ?_ ?_); (focus (simp -implicitDefEqProofs only [go_sem, h1, hw2, hw3, hw4, hw5, hw6, Int.zero_add, Int.add_zero, List.length_append, List.length_cons, List.length_nil, w1, z1, l1]; done)); simp -implicitDefEqProofs only [go_sem, h1, hw2, hw3, hw4, hw5, hw6, Int.zero_add, Int.add_zero, List.length_append, List.length_cons, List.length_nil, w1, z1, l1]) | ((first | refine call_con_eq 1000 [4] (a1) ?_ ?_ ?_ | refine call_draw_con 1000 [4] (a1) (by decide +kernel) ?_ ?_ ?_); (focus (simp -implicitDefEqProofs only [go_sem, h1, hw2, hw3, hw4, hw5, hw6, Int.zero_add, Int.add_zero, List.length_append, List.length_cons, List.length_nil, w1, z1, l1]; done)); (focus (simp -implicitDefEqProofs only [go_sem, h1, hw2, hw3, hw4, hw5, hw6, Int.zero_add, Int.add_zero, List.length_append, List.length_cons, List.length_nil, w1, z1, l1]; done)); simp -implicitDefEqProofs only [go_sem, h1, hw2, hw3, hw4, hw5, hw6, Int.zero_add, Int.add_zero, List.length_append, List.length_cons, List.length_nil, w1, z1, l1]) | ((first | refine call_con_eq 1000 [5] (a2) ?_ ?_ ?_ | refine call_draw_con 1000 [5] (a2) (by decide +kernel) ?_ ?_ ?_); (focus (simp -implicitDefEqProofs only [go_sem, h1, hw2, hw3, hw4, hw5, hw6, Int.zero_add, Int.add_zero, List.length_append, List.length_cons, List.length_nil, w1, z1, l1]; done)); (focus (simp -implicitDefEqProofs only [go_sem, h1, hw2, hw3, hw4, hw5, hw6, Int.zero_add, Int.add_zero, List.length_append, List.length_cons, List.length_nil, w1, z1, l1]; done)); simp -implicitDefEqProofs only [go_sem, h1, hw2, hw3, hw4, hw5, hw6, Int.zero_add, Int.add_zero, List.length_append, List.length_cons, List.length_nil, w1, z1, l1]) | ((first | refine call_con_eq 1000 [8] (c1) ?_ ?_ ?_ | refine call_draw_con 1000 [8] (c1) (by decide +kernel) ?_ ?_ ?_); (focus (simp -implicitDefEqProofs only [go_sem, h1, hw2, hw3, hw4, hw5, hw6, Int.zero_add, Int.add_zero, List.length_append, List.length_cons, List.length_nil, w1, z1, l1]; done)); (focus (simp -implicitDefEqProofs only [go_sem, h1, hw2, hw3, hw4, hw5, hw6, Int.zero_add, Int.add_zero, List.length_append, List.length_cons, List.length_nil, w1, z1, l1]; done)); simp -implicitDefEqProofs only [go_sem, h1, hw2, hw3, hw4, hw5, hw6, Int.zero_add, Int.add_zero, List.length_append, List.length_cons, List.length_nil, w1, z1, l1]) | intro _))
          all_goals
            rw [← hX]
            exact ⟨9, rfl, rfl, by decide, rfl⟩
        focus
          have l1 : ((4096 : Int) < (TC.length : Int)) = False := eq_false (by omega)
          rw [if_neg hlong] at hX
          simp -implicitDefEqProofs only [go_sem, tpB, h1]
          (repeat' (first | exact trivial | contradiction | exact ⟨_, rfl⟩ | refine And.intro ?_ ?_ | (refine om ?_; omega) | (refine wait_draw 1000 mixed (by decide +kernel) ?_; simp -implicitDefEqProofs only [go_sem, h1, hw2, hw3, hw4, hw5, hw6, Int.zero_add, Int.add_zero, List.length_append, List.length_cons, List.length_nil, w1, z1, l1]) | ((first | refine call_eq 1000 (rc) ?_ ?_ rfl | refine call_draw 1000 (rc) ?_ ?_ | refine call_eq 1000 (nc) ?_ ?_ rfl | refine call_draw 1000 (nc) ?_ ?_); (focus (simp -implicitDefEqProofs only [go_sem, h1, hw2, hw3, hw4, hw5, hw6, Int.zero_add, Int.add_zero, List.length_append, List.length_cons, List.length_nil, w1, z1, l1]; done)); simp -implicitDefEqProofs only [go_sem, h1, hw2, hw3, hw4, hw5, hw6, Int.zero_add, Int.add_zero, List.length_append, List.length_cons, List.length_nil, w1, z1, l1]) | ((first | refine call_con_eq 1000 [4] (a1) ?_ ?_ ?_ | refine call_draw_con 1000 [4] (a1) (by decide +kernel) ?_ ?_ ?_); (focus (simp -implicitDefEqProofs only [go_sem, h1, hw2, hw3, hw4, hw5, hw6, Int.zero_add, Int.add_zero, List.length_append, List.length_cons, List.length_nil, w1, z1, l1]; done)); (focus (simp -implicitDefEqProofs only [go_sem, h1, hw2, hw3, hw4, hw5, hw6, Int.zero_add, Int.add_zero, List.length_append, List.length_cons, List.length_nil, w1, z1, l1]; done)); simp -implicitDefEqProofs only [go_sem, h1, hw2, hw3, hw4, hw5, hw6, Int.zero_add, Int.add_zero, List.length_append, List.length_cons, List.length_nil, w1, z1, l1]) | ((first | refine call_con_eq 1000 [5] (a2) ?_ ?_ ?_ | refine call_draw_con 1000 [5] (a2) (by decide +kernel) ?_ ?_ ?_); (focus (simp -implicitDefEqProofs only [go_sem, h1, hw2, hw3, hw4, hw5, hw6, Int.zero_add, Int.add_zero, List.length_append, List.length_cons, List.length_nil, w1, z1, l1]; done)); (focus (simp -implicitDefEqProofs only [go_sem, h1, hw2, hw3, hw4, hw5, hw6, Int.zero_add, Int.add_zero, List.length_append, List.length_cons, List.length_nil, w1, z1, l1]; done)); simp -implicitDefEqProofs only [go_sem, h1, hw2, hw3, hw4, hw5, hw6, Int.zero_add, Int.add_zero, List.length_append, List.length_cons, List.length_nil, w1, z1, l1]) | ((first | refine call_con_eq 1000 [8] (c1) ?_ ?_ ?_ | refine call_draw_con 1000 [8] (c1) (by decide +kernel) ?_ ?_ ?_); (focus (simp -implicitDefEqProofs only [go_sem, h1, hw2, hw3, hw4, hw5, hw6, Int.zero_add, Int.add_zero, List.length_append, List.length_cons, List.length_nil, w1, z1, l1]; done)); (focus (simp -implicitDefEqProofs only [go_sem, h1, hw2, hw3, hw4, hw5, hw6, Int.zero_add, Int.add_zero, List.length_append, List.length_cons, List.length_nil, w1, z1, l1]; done)); simp -implicitDefEqProofs only [go_sem, h1, hw2, hw3, hw4, hw5, hw6, Int.zero_add, Int.add_zero, List.length_append, List.length_cons, List.length_nil, w1, z1, l1]) | intro _))
          all_goals
            refine ⟨(i + 1, TC), by simp only; omega, ⟨by simp only; omega, hX, by simp only; omega⟩, weak_to' [0, 1, 3, 9] [0, 9] ?_ (by decide) (stay_of rfl)⟩
            simp -implicitDefEqProofs only [go_sem, St.keep, rrS, tpB, hw6]
      focus
        have eA : A = 6 :: (numD w.length 5 ++ (lineD w ++ [7])) := by rw [hA]; unfold sideD; rw [if_neg hw]
        have w0 : 0 < w.length := List.length_pos_iff.2 hw
        have w1 : ((0 : Int) < (w.length : Int)) = True := eq_true (by omega)
        have nlw := numD_len w.length 5 w0
        have a1 := number_pcon (T' ++ [6]) w.length 5 (by omega) (by omega) (by simp only [List.length_append, List.length_cons, List.length_nil]; omega)
        have a2 := line_con (T' ++ [6] ++ numD w.length 5) w (by simp only [List.length_append, List.length_cons, List.length_nil]; omega) (by omega)
        unfold tpB at a1 a2
        have eC : C = 7 :: (numD e.length 5 ++ (lineD e ++ [6])) := by rw [hC]; unfold sideD; rw [if_neg he]
        have e0 : 0 < e.length := List.length_pos_iff.2 he
        have e1 : ((0 : Int) < (e.length : Int)) = True := eq_true (by omega)
        have nle := numD_len e.length 5 e0
        have b1 := number_pcon ((T' ++ [6] ++ numD w.length 5 ++ lineD w ++ [7]) ++ [7]) e.length 5 (by omega) (by omega) (by simp only [List.length_append, List.length_cons, List.length_nil]; omega)
        have b2 := line_con ((T' ++ [6] ++ numD w.length 5 ++ lineD w ++ [7]) ++ [7] ++ numD e.length 5) e (by simp only [List.length_append, List.length_cons, List.length_nil]; omega) (by omega)
        unfold tpB at b1 b2
        have c1 := number_pcon ((T' ++ [6] ++ numD w.length 5 ++ lineD w ++ [7]) ++ [7] ++ numD e.length 5 ++ lineD e ++ [6]) 1 (24 + numF m) (by decide) (by decide) (by simp only [List.length_append, List.length_cons, List.length_nil]; omega)
        rw [show ((1 : Nat) : Int) = 1 from rfl] at c1
        unfold tpB at c1
        obtain ⟨TC, hTC⟩ : ∃ TC, TC = ((T' ++ [6] ++ numD w.length 5 ++ lineD w ++ [7]) ++ [7] ++ numD e.length 5 ++ lineD e ++ [6]) ++ numD 1 (24 + numF m) := ⟨_, rfl⟩
        rw [← hTC] at c1
        have z1 : (((w.length + e.length : Nat) : Int) == 0) = false := beq_false_of_ne (by omega)
        have hcat : T' ++ (A ++ (C ++ numD 1 (24 + numF m))) = TC := by
          rw [eA, eC, hTC]
          simp only [List.append_assoc, List.cons_append, List.nil_append]
        rw [hcat] at hX
        by_cases hlong : 4096 < TC.length
        focus
          have l1 : ((4096 : Int) < (TC.length : Int)) = True := eq_true (by omega)
          rw [if_pos hlong] at hX
          simp -implicitDefEqProofs only [go_sem, tpB, h1]
          (repeat' (first | exact trivial | contradiction | exact ⟨_, rfl⟩ | refine And.intro ?_ ?_ | (refine om ?_; omega) | (refine wait_draw 1000 mixed (by decide +kernel) ?_; simp -implicitDefEqProofs only [go_sem, h1, hw2, hw3, hw4, hw5, hw6, Int.zero_add, Int.add_zero, List.length_append, List.length_cons, List.length_nil, w1, e1, z1, l1]) | ((first | refine call_eq 1000 (rc) ?_ ?_ rfl | refine call_draw 1000 (rc) ?_ ?_ | refine call_eq 1000 (nc) ?_ ?_ rfl | refine call_draw 1000 (nc) ?_ ?_); (focus (simp -implicitDefEqProofs only [go_sem, h1, hw2, hw3, hw4, hw5, hw6, Int.zero_add, Int.add_zero, List.length_append, List.length_cons, List.length_nil, w1, e1, z1, l1]; done)); simp -implicitDefEqProofs only [go_sem, h1, hw2, hw3, hw4, hw5, hw6, Int.zero_add, Int.add_zero, List.length_append, List.length_cons, List.length_nil, w1, e1, z1, l1]) | ((first | refine call_con_eq 1000 [4] (a1) ?_ ?_ ?_ | refine call_draw_con 1000 [4] (a1) (by decide +kernel) ?_ ?_ ?_); (focus (simp -implicitDefEqProofs only [go_sem, h1, hw2, hw3, hw4, hw5, hw6, Int.zero_add, Int.add_zero, List.length_append, List.length_cons, List.length_nil, w1, e1, z1, l1]; done)); (focus (simp -implicitDefEqProofs only [go_sem, h1, hw2, hw3, hw4, hw5, hw6, Int.zero_add, Int.add_zero, List.length_append, List.length_cons, List.length_nil, w1, e1, z1, l1]; done)); simp -implicitDefEqProofs only [go_sem, h1, hw2, hw3, hw4, hw5, hw6, Int.zero_add, Int.add_zero, List.length_append, List.length_cons, List.length_nil, w1, e1, z1, l1]) | ((first | refine call_con_eq 1000 [5] (a2) ?_ ?_ ?_ | refine call_draw_con 1000 [5] (a2) (by decide +kernel) ?_ ?_ ?_); (focus (simp -implicitDefEqProofs only [go_sem, h1, hw2, hw3, hw4, hw5, hw6, Int.zero_add, Int.add_zero, List.length_append, List.length_cons, List.length_nil, w1, e1, z1, l1]; done)); (focus (simp -implicitDefEqProofs only [go_sem, h1, hw2, hw3, hw4, hw5, hw6, Int.zero_add, Int.add_zero, List.length_append, List.length_cons, List.length_nil, w1, e1, z1, l1]; done)); simp -implicitDefEqProofs only [go_sem, h1, hw2, hw3, hw4, hw5, hw6, Int.zero_add, Int.add_zero, List.length_append, List.length_cons, List.length_nil, w1, e1, z1, l1]) | ((first | refine call_con_eq 1000 [10] (b1) ?_ ?_ ?_ | refine call_draw_con 1000 [10] (b1) (by decide +kernel) ?_ ?_ ?_); (focus (simp -implicitDefEqProofs only [go_sem, h1, hw2, hw3, hw4, hw5, hw6, Int.zero_add, Int.add_zero, List.length_append, List.length_cons, List.length_nil, w1, e1, z1, l1]; done)); (focus (simp -implicitDefEqProofs only [go_sem, h1, hw2, hw3, hw4, hw5, hw6, Int.zero_add, Int.add_zero, List.length_append, List.length_cons, List.length_nil, w1, e1, z1, l1]; done)); simp -implicitDefEqProofs only [go_sem, h1, hw2, hw3, hw4, hw5, hw6, Int.zero_add, Int.add_zero, List.length_append, List.length_cons, List.length_nil, w1, e1, z1, l1]) | ((first | refine call_con_eq 1000 [11] (b2) ?_ ?_ ?_ | refine call_draw_con 1000 [11] (b2) (by decide +kernel) ?_ ?_ ?_); (focus (simp -implicitDefEqProofs only [go_sem, h1, hw2, hw3, hw4, hw5, hw6, Int.zero_add, Int.add_zero, List.length_append, List.length_cons, List.length_nil, w1, e1, z1, l1]; done)); (focus (simp -implicitDefEqProofs only [go_sem, h1, hw2, hw3, hw4, hw5, hw6, Int.zero_add, Int.add_zero, List.length_append, List.length_cons, List.length_nil, w1, e1, z1, l1]; done)); simp -implicitDefEqProofs only [go_sem, h1, hw2, hw3, hw4, hw5, hw6, Int.zero_add, Int.add_zero, List.length_append, List.length_cons, List.length_nil, w1, e1, z1, l1]) | ((first | refine call_con_eq 1000 [14] (c1) ?_ ?_ ?_ | refine call_draw_con 1000 [14] (c1) (by decide +kernel) ?_ ?_ ?_); (focus (simp -implicitDefEqProofs only [go_sem, h1, hw2, hw3, hw4, hw5, hw6, Int.zero_add, Int.add_zero, List.length_append, List.length_cons, List.length_nil, w1, e1, z1, l1]; done)); (focus (simp -implicitDefEqProofs only [go_sem, h1, hw2, hw3, hw4, hw5, hw6, Int.zero_add, Int.add_zero, List.length_append, List.length_cons, List.length_nil, w1, e1, z1, l1]; done)); simp -implicitDefEqProofs only [go_sem, h1, hw2, hw3, hw4, hw5, hw6, Int.zero_add, Int.add_zero, List.length_append, List.length_cons, List.length_nil, w1, e1, z1, l1]) | intro _))
          all_goals
            rw [← hX]
            exact ⟨15, rfl, rfl, by decide, rfl⟩
        focus
          have l1 : ((4096 : Int) < (TC.length : Int)) = False := eq_false (by omega)
          rw [if_neg hlong] at hX
          simp -implicitDefEqProofs only [go_sem, tpB, h1]
          (repeat' (first | exact trivial | contradiction | exact ⟨_, rfl⟩ | refine And.intro ?_ ?_ | (refine om ?_; omega) | (refine wait_draw 1000 mixed (by decide +kernel) ?_; simp -implicitDefEqProofs only [go_sem, h1, hw2, hw3, hw4, hw5, hw6, Int.zero_add, Int.add_zero, List.length_append, List.length_cons, List.length_nil, w1, e1, z1, l1]) | ((first | refine call_eq 1000 (rc) ?_ ?_ rfl | refine call_draw 1000 (rc) ?_ ?_ | refine call_eq 1000 (nc) ?_ ?_ rfl | refine call_draw 1000 (nc) ?_ ?_); (focus (simp -implicitDefEqProofs only [go_sem, h1, hw2, hw3, hw4, hw5, hw6, Int.zero_add, Int.add_zero, List.length_append, List.length_cons, List.length_nil, w1, e1, z1, l1]; done)); simp -implicitDefEqProofs only [go_sem, h1, hw2, hw3, hw4, hw5, hw6, Int.zero_add, Int.add_zero, List.length_append, List.length_cons, List.length_nil, w1, e1, z1, l1]) | ((first | refine call_con_eq 1000 [4] (a1) ?_ ?_ ?_ | refine call_draw_con 1000 [4] (a1) (by decide +kernel) ?_ ?_ ?_); (focus (simp -implicitDefEqProofs only [go_sem, h1, hw2, hw3, hw4, hw5, hw6, Int.zero_add, Int.add_zero, List.length_append, List.length_cons, List.length_nil, w1, e1, z1, l1]; done)); (focus (simp -implicitDefEqProofs only [go_sem, h1, hw2, hw3, hw4, hw5, hw6, Int.zero_add, Int.add_zero, List.length_append, List.length_cons, List.length_nil, w1, e1, z1, l1]; done)); simp -implicitDefEqProofs only [go_sem, h1, hw2, hw3, hw4, hw5, hw6, Int.zero_add, Int.add_zero, List.length_append, List.length_cons, List.length_nil, w1, e1, z1, l1]) | ((first | refine call_con_eq 1000 [5] (a2) ?_ ?_ ?_ | refine call_draw_con 1000 [5] (a2) (by decide +kernel) ?_ ?_ ?_); (focus (simp -implicitDefEqProofs only [go_sem, h1, hw2, hw3, hw4, hw5, hw6, Int.zero_add, Int.add_zero, List.length_append, List.length_cons, List.length_nil, w1, e1, z1, l1]; done)); (focus (simp -implicitDefEqProofs only [go_sem, h1, hw2, hw3, hw4, hw5, hw6, Int.zero_add, Int.add_zero, List.length_append, List.length_cons, List.length_nil, w1, e1, z1, l1]; done)); simp -implicitDefEqProofs only [go_sem, h1, hw2, hw3, hw4, hw5, hw6, Int.zero_add, Int.add_zero, List.length_append, List.length_cons, List.length_nil, w1, e1, z1, l1]) | ((first | refine call_con_eq 1000 [10] (b1) ?_ ?_ ?_ | refine call_draw_con 1000 [10] (b1) (by decide +kernel) ?_ ?_ ?_); (focus (simp -implicitDefEqProofs only [go_sem, h1, hw2, hw3, hw4, hw5, hw6, Int.zero_add, Int.add_zero, List.length_append, List.length_cons, List.length_nil, w1, e1, z1, l1]; done)); (focus (simp -implicitDefEqProofs only [go_sem, h1, hw2, hw3, hw4, hw5, hw6, Int.zero_add, Int.add_zero, List.length_append, List.length_cons, List.length_nil, w1, e1, z1, l1]; done)); simp -implicitDefEqProofs only [go_sem, h1, hw2, hw3, hw4, hw5, hw6, Int.zero_add, Int.add_zero, List.length_append, List.length_cons, List.length_nil, w1, e1, z1, l1]) | ((first | refine call_con_eq 1000 [11] (b2) ?_ ?_ ?_ | refine call_draw_con 1000 [11] (b2) (by decide +kernel) ?_ ?_ ?_); (focus (simp -implicitDefEqProofs only [go_sem, h1, hw2, hw3, hw4, hw5, hw6, Int.zero_add, Int.add_zero, List.length_append, List.length_cons, List.length_nil, w1, e1, z1, l1]; done)); (focus (simp -implicitDefEqProofs only [go_sem, h1, hw2, hw3, hw4, hw5, hw6, Int.zero_add, Int.add_zero, List.length_append, List.length_cons, List.length_nil, w1, e1, z1, l1]; done)); simp -implicitDefEqProofs only [go_sem, h1, hw2, hw3, hw4, hw5, hw6, Int.zero_add, Int.add_zero, List.length_append, List.length_cons, List.length_nil, w1, e1, z1, l1]) | ((first | refine call_con_eq 1000 [14] (c1) ?_ ?_ ?_ | refine call_draw_con 1000 [14] (c1) (by decide +kernel) ?_ ?_ ?_); (focus (simp -implicitDefEqProofs only [go_sem, h1, hw2, hw3, hw4, hw5, hw6, Int.zero_add, Int.add_zero, List.length_append, List.length_cons, List.length_nil, w1, e1, z1, l1]; done)); (focus (simp -implicitDefEqProofs only [go_sem, h1, hw2, hw3, hw4, hw5, hw6, Int.zero_add, Int.add_zero, List.length_append, List.length_cons, List.length_nil, w1, e1, z1, l1]; done)); simp -implicitDefEqProofs only [go_sem, h1, hw2, hw3, hw4, hw5, hw6, Int.zero_add, Int.add_zero, List.length_append, List.length_cons, List.length_nil, w1, e1, z1, l1]) | intro _))
          all_goals
            refine ⟨(i + 1, TC), by simp only; omega, ⟨by simp only; omega, hX, by simp only; omega⟩, weak_to' [0, 1, 3, 9] [0, 15] ?_ (by decide) (stay_of rfl)⟩
            simp -implicitDefEqProofs only [go_sem, St.keep, rrS, tpB, hw6]
    focus
      have hs0 : sidedD (rowD p ((i : Int) - (K : Int))) = false := by simpa using hs
      obtain ⟨hw0, he0⟩ := bareD_eq hs0
      have hX2 : ∀ k, (((rowsDL p K).drop (i + 1)).takeWhile (bareD (rowD p ((i : Int) - (K : Int))).mid)).length = k → (if 4096 < (T' ++ numD (k + 1) (24 + numF (rowD p ((i : Int) - (K : Int))).mid)).length then T' ++ numD (k + 1) (24 + numF (rowD p ((i : Int) - (K : Int))).mid) else exitD (grpD ((rowsDL p K).drop (i + 1 + k))) (T' ++ numD (k + 1) (24 + numF (rowD p ((i : Int) - (K : Int))).mid))) = X := fun k hk => by
        rw [← hX, grpD_mid hs0 hk, exitD, List.drop_drop, Nat.add_comm 1 k]
      rw [hw0, he0] at rc
      generalize (rowD p ((i : Int) - (K : Int))).mid = m at rc hX2
      clear hX hs hs0 hw0 he0 bw be
      have hm1 := numF_pos m
      have hm2 := numF_le m
      have nc := numD_pc m
      simp only [iA] at nc
      rw [show List.map zA [] = [] from rfl] at rc
      have hw2 : IntKind.i64.wrap (24 + numF m) = 24 + numF m := wrap64 (by omega) (by omega)
      unfold rrS
      simp -implicitDefEqProofs only [go_sem, tpB, h1]
      (repeat' (first | exact trivial | contradiction | exact ⟨_, rfl⟩ | refine And.intro ?_ ?_ | (refine om ?_; omega) | (refine wait_draw 1000 mixed (by decide +kernel) ?_; simp -implicitDefEqProofs only [go_sem, h1, List.length_nil]) | ((first | refine call_eq 1000 (rc) ?_ ?_ rfl | refine call_draw 1000 (rc) ?_ ?_); (focus (simp -implicitDefEqProofs only [go_sem, h1, List.length_nil]; done)); simp -implicitDefEqProofs only [go_sem, h1, List.length_nil]) | intro _))
      refine wait_range (K - i - 1) (fun k => ⟨114, 1, [(0, .sl 1 1 0 T'.length), (1, .fsl 3 (ceL p)), (3, .v (.int .i64 (-1))), (9, .v (.int .i64 ((i : Int) - (K : Int)))), (10, .ptr 2 3 0 0), (11, .v (.int .i64 ((k + 1 : Nat) : Int)))], [none, tpB T', some (.row 80 3 [.agg [.fsl 1 [], .fsl 1 [], .v (.int .i64 m)]])]⟩)
        (fun k => ∀ j, j < k → bareD m (rowD p (((i + 1 + j : Nat) : Int) - (K : Int))) = true) (weak_to' [0, 1, 3, 9, 10, 11] [0, 1, 2] ?_ (by decide) (stay_of rfl)) (fun j hj => by omega) ?_
      focus
        simp -implicitDefEqProofs only [go_sem, St.keep, tpB]
      intro k hk hG
      refine run_sound 1000 _ _ ?_
      have q0 : IntKind.i64.wrap ((i : Int) - (K : Int) + ((k + 1 : Nat) : Int)) = ((i + 1 + k : Nat) : Int) - (K : Int) := by rw [wrap64 (by omega) (by omega)]; omega
      have q1 : IntKind.i64.wrap (((k + 1 : Nat) : Int) + 1) = ((k + 1 + 1 : Nat) : Int) := by rw [wrapN (by omega) (by omega)]; omega
      have nl := numD_len (k + 1) (24 + numF m) (by omega)
      have s3 := number_pcon T' (k + 1) (24 + numF m) (by omega) (by omega) (by omega)
      have hexit : (i + 1 + k = K ∨ bareD m (rowD p (((i + 1 + k : Nat) : Int) - (K : Int))) = false) → (if 4096 < (T' ++ numD (k + 1) (24 + numF m)).length then T' ++ numD (k + 1) (24 + numF m) else exitD (grpD ((rowsDL p K).drop (i + 1 + k))) (T' ++ numD (k + 1) (24 + numF m))) = X := fun h => by
        refine hX2 k (twD_len _ _ k (by rw [List.length_drop, rowsDL_len]; omega) (fun j hj => ?_) ?_)
        · have := hG j hj
          rw [List.getD_eq_getElem?_getD, List.getElem?_drop, ← List.getD_eq_getElem?_getD, rowsDL_get p K (i + 1 + j) (by omega)]
          exact this
        · rcases h with h | h
          · exact .inl (by rw [List.length_drop, rowsDL_len]; omega)
          · by_cases e : i + 1 + k < K
            · refine .inr ?_
              rw [List.getD_eq_getElem?_getD, List.getElem?_drop, ← List.getD_eq_getElem?_getD, rowsDL_get p K (i + 1 + k) e]
              exact h
            · exact .inl (by rw [List.length_drop, rowsDL_len]; omega)
      obtain ⟨TC, hTC⟩ : ∃ TC, TC = T' ++ numD (k + 1) (24 + numF m) := ⟨_, rfl⟩
      have hTCl : TC.length < 20000 := by rw [hTC, List.length_append]; omega
      rw [← hTC] at s3 hexit
      unfold tpB at s3
      by_cases hkl : i + 1 + k < K
      focus
        have k1 : (((i + 1 + k : Nat) : Int) - (K : Int) ≤ -1) = True := eq_true (by omega)
        have rk := rowD_pc p (((i + 1 + k : Nat) : Int) - (K : Int)) hl ho hxx
        obtain ⟨bw, be⟩ := rowD_bd ho 4000 hx (((i + 1 + k : Nat) : Int) - (K : Int))
        have hG' : bareD m (rowD p (((i + 1 + k : Nat) : Int) - (K : Int))) = true → ∀ j, j < k + 1 → bareD m (rowD p (((i + 1 + j : Nat) : Int) - (K : Int))) = true := fun h j hj => by
          by_cases e : j = k
          · subst e; exact h
          · exact hG j (by omega)
        generalize rowD p (((i + 1 + k : Nat) : Int) - (K : Int)) = r at rk bw be hexit hG'
        obtain ⟨w, e, m'⟩ := r
        simp only at rk bw be
        have hw3 : IntKind.i64.wrap ((w.length : Int) + (e.length : Int)) = ((w.length + e.length : Nat) : Int) := by rw [wrapN (by omega) (by omega)]; omega
        by_cases hz : w.length + e.length = 0
        focus
          have hw0 : w = [] := List.eq_nil_of_length_eq_zero (by omega)
          have he0 : e = [] := List.eq_nil_of_length_eq_zero (by omega)
          subst hw0 he0
          rw [show List.map zA [] = [] from rfl] at rk
          by_cases hmm : m' = m
          focus
            subst hmm
            have hn := hG' (by simp [bareD, sidedD])
            have k3 : (m' != m') = false := by simp
            simp -implicitDefEqProofs only [go_sem, tpB, q0, k1]
            (repeat' (first | exact trivial | contradiction | exact ⟨_, rfl⟩ | refine And.intro ?_ ?_ | (refine om ?_; omega) | (refine wait_draw 1000 mixed (by decide +kernel) ?_; simp -implicitDefEqProofs only [go_sem, q0, q1, k1, k3, List.length_nil, bne_self_eq_false]) | ((first | refine call_eq 1000 (rk) ?_ ?_ rfl | refine call_draw 1000 (rk) ?_ ?_); (focus (simp -implicitDefEqProofs only [go_sem, q0, q1, k1, k3, List.length_nil, bne_self_eq_false]; done)); simp -implicitDefEqProofs only [go_sem, q0, q1, k1, k3, List.length_nil, bne_self_eq_false]) | intro _))
            all_goals
              first
                | exact hn _ (by assumption)
                | (refine weak_to' [0, 1, 3, 9, 10, 11] [0, 1, 2] ?_ (by decide) (stay_of rfl)
                   simp -implicitDefEqProofs only [go_sem, St.keep, tpB]
                   done)
          focus
            have hX3 := hexit (.inr (by simp [bareD, hmm]))
            have k3 : (m' != m) = true := by simpa using hmm
            by_cases hlong : 4096 < TC.length
            focus
              have l1 : ((4096 : Int) < (TC.length : Int)) = True := eq_true (by omega)
              rw [if_pos hlong] at hX3
              simp -implicitDefEqProofs only [go_sem, tpB, q0, k1]
              (repeat' (first | exact trivial | contradiction | exact ⟨_, rfl⟩ | refine And.intro ?_ ?_ | (refine om ?_; omega) | (refine wait_draw 1000 mixed (by decide +kernel) ?_; simp -implicitDefEqProofs only [go_sem, q0, k1, k3, hw2, List.length_nil, l1]) | ((first | refine call_eq 1000 (rk) ?_ ?_ rfl | refine call_draw 1000 (rk) ?_ ?_ | refine call_eq 1000 (nc) ?_ ?_ rfl | refine call_draw 1000 (nc) ?_ ?_); (focus (simp -implicitDefEqProofs only [go_sem, q0, k1, k3, hw2, List.length_nil, l1]; done)); simp -implicitDefEqProofs only [go_sem, q0, k1, k3, hw2, List.length_nil, l1]) | ((first | refine call_con_eq 1000 [1] (s3) ?_ ?_ ?_ | refine call_draw_con 1000 [1] (s3) (by decide +kernel) ?_ ?_ ?_); (focus (simp -implicitDefEqProofs only [go_sem, q0, k1, k3, hw2, List.length_nil, l1]; done)); (focus (simp -implicitDefEqProofs only [go_sem, q0, k1, k3, hw2, List.length_nil, l1]; done)); simp -implicitDefEqProofs only [go_sem, q0, k1, k3, hw2, List.length_nil, l1]) | intro _))
              all_goals
                rw [← hX3]
                exact ⟨4, rfl, rfl, by decide, rfl⟩
            focus
              have l1 : ((4096 : Int) < (TC.length : Int)) = False := eq_false (by omega)
              rw [if_neg hlong] at hX3
              simp -implicitDefEqProofs only [go_sem, tpB, q0, k1]
              (repeat' (first | exact trivial | contradiction | exact ⟨_, rfl⟩ | refine And.intro ?_ ?_ | (refine om ?_; omega) | (refine wait_draw 1000 mixed (by decide +kernel) ?_; simp -implicitDefEqProofs only [go_sem, q0, k1, k3, hw2, List.length_nil, l1]) | ((first | refine call_eq 1000 (rk) ?_ ?_ rfl | refine call_draw 1000 (rk) ?_ ?_ | refine call_eq 1000 (nc) ?_ ?_ rfl | refine call_draw 1000 (nc) ?_ ?_); (focus (simp -implicitDefEqProofs only [go_sem, q0, k1, k3, hw2, List.length_nil, l1]; done)); simp -implicitDefEqProofs only [go_sem, q0, k1, k3, hw2, List.length_nil, l1]) | ((first | refine call_con_eq 1000 [1] (s3) ?_ ?_ ?_ | refine call_draw_con 1000 [1] (s3) (by decide +kernel) ?_ ?_ ?_); (focus (simp -implicitDefEqProofs only [go_sem, q0, k1, k3, hw2, List.length_nil, l1]; done)); (focus (simp -implicitDefEqProofs only [go_sem, q0, k1, k3, hw2, List.length_nil, l1]; done)); simp -implicitDefEqProofs only [go_sem, q0, k1, k3, hw2, List.length_nil, l1]) | intro _))
              all_goals
                refine ⟨(i + 1 + k, TC), by simp only; omega, ⟨by simp only; omega, hX3, by simp only; omega⟩, weak_to' [0, 1, 3, 9] [0, 4] ?_ (by decide) (stay_of rfl)⟩
                simp -implicitDefEqProofs only [go_sem, St.keep, rrS, tpB, q0]
        focus
          have hX3 := hexit (.inr (by
            cases w with
            | nil =>
              cases e with
              | nil => exact absurd rfl hz
              | cons a e => rfl
            | cons a w => rfl))
          have k3 : ((0 : Int) < ((w.length + e.length : Nat) : Int)) = True := eq_true (by omega)
          by_cases hlong : 4096 < TC.length
          focus
            have l1 : ((4096 : Int) < (TC.length : Int)) = True := eq_true (by omega)
            rw [if_pos hlong] at hX3
            simp -implicitDefEqProofs only [go_sem, tpB, q0, k1]
            (repeat' (first | exact trivial | contradiction | exact ⟨_, rfl⟩ | refine And.intro ?_ ?_ | (refine om ?_; omega) | (refine wait_draw 1000 mixed (by decide +kernel) ?_; simp -implicitDefEqProofs only [go_sem, q0, k1, k3, hw2, hw3, zl_len, l1]) | ((first | refine call_eq 1000 (rk) ?_ ?_ rfl | refine call_draw 1000 (rk) ?_ ?_ | refine call_eq 1000 (nc) ?_ ?_ rfl | refine call_draw 1000 (nc) ?_ ?_); (focus (simp -implicitDefEqProofs only [go_sem, q0, k1, k3, hw2, hw3, zl_len, l1]; done)); simp -implicitDefEqProofs only [go_sem, q0, k1, k3, hw2, hw3, zl_len, l1]) | ((first | refine call_con_eq 1000 [1] (s3) ?_ ?_ ?_ | refine call_draw_con 1000 [1] (s3) (by decide +kernel) ?_ ?_ ?_); (focus (simp -implicitDefEqProofs only [go_sem, q0, k1, k3, hw2, hw3, zl_len, l1]; done)); (focus (simp -implicitDefEqProofs only [go_sem, q0, k1, k3, hw2, hw3, zl_len, l1]; done)); simp -implicitDefEqProofs only [go_sem, q0, k1, k3, hw2, hw3, zl_len, l1]) | intro _))
            all_goals
              rw [← hX3]
              exact ⟨4, rfl, rfl, by decide, rfl⟩
          focus
            have l1 : ((4096 : Int) < (TC.length : Int)) = False := eq_false (by omega)
            rw [if_neg hlong] at hX3
            simp -implicitDefEqProofs only [go_sem, tpB, q0, k1]
            (repeat' (first | exact trivial | contradiction | exact ⟨_, rfl⟩ | refine And.intro ?_ ?_ | (refine om ?_; omega) | (refine wait_draw 1000 mixed (by decide +kernel) ?_; simp -implicitDefEqProofs only [go_sem, q0, k1, k3, hw2, hw3, zl_len, l1]) | ((first | refine call_eq 1000 (rk) ?_ ?_ rfl | refine call_draw 1000 (rk) ?_ ?_ | refine call_eq 1000 (nc) ?_ ?_ rfl | refine call_draw 1000 (nc) ?_ ?_); (focus (simp -implicitDefEqProofs only [go_sem, q0, k1, k3, hw2, hw3, zl_len, l1]; done)); simp -implicitDefEqProofs only [go_sem, q0, k1, k3, hw2, hw3, zl_len, l1]) | ((first | refine call_con_eq 1000 [1] (s3) ?_ ?_ ?_ | refine call_draw_con 1000 [1] (s3) (by decide +kernel) ?_ ?_ ?_); (focus (simp -implicitDefEqProofs only [go_sem, q0, k1, k3, hw2, hw3, zl_len, l1]; done)); (focus (simp -implicitDefEqProofs only [go_sem, q0, k1, k3, hw2, hw3, zl_len, l1]; done)); simp -implicitDefEqProofs only [go_sem, q0, k1, k3, hw2, hw3, zl_len, l1]) | intro _))
            all_goals
              refine ⟨(i + 1 + k, TC), by simp only; omega, ⟨by simp only; omega, hX3, by simp only; omega⟩, weak_to' [0, 1, 3, 9] [0, 4] ?_ (by decide) (stay_of rfl)⟩
              simp -implicitDefEqProofs only [go_sem, St.keep, rrS, tpB, q0]
      focus
        have k1 : (((i + 1 + k : Nat) : Int) - (K : Int) ≤ -1) = False := eq_false (by omega)
        have hX3 := hexit (.inl (by omega))
        have rk := nc
        by_cases hlong : 4096 < TC.length
        focus
          have l1 : ((4096 : Int) < (TC.length : Int)) = True := eq_true (by omega)
          rw [if_pos hlong] at hX3
          simp -implicitDefEqProofs only [go_sem, tpB, q0, k1]
          (repeat' (first | exact trivial | contradiction | exact ⟨_, rfl⟩ | refine And.intro ?_ ?_ | (refine om ?_; omega) | (refine wait_draw 1000 mixed (by decide +kernel) ?_; simp -implicitDefEqProofs only [go_sem, q0, k1, hw2, List.length_nil, l1]) | ((first | refine call_eq 1000 (rk) ?_ ?_ rfl | refine call_draw 1000 (rk) ?_ ?_ | refine call_eq 1000 (nc) ?_ ?_ rfl | refine call_draw 1000 (nc) ?_ ?_); (focus (simp -implicitDefEqProofs only [go_sem, q0, k1, hw2, List.length_nil, l1]; done)); simp -implicitDefEqProofs only [go_sem, q0, k1, hw2, List.length_nil, l1]) | ((first | refine call_con_eq 1000 [1] (s3) ?_ ?_ ?_ | refine call_draw_con 1000 [1] (s3) (by decide +kernel) ?_ ?_ ?_); (focus (simp -implicitDefEqProofs only [go_sem, q0, k1, hw2, List.length_nil, l1]; done)); (focus (simp -implicitDefEqProofs only [go_sem, q0, k1, hw2, List.length_nil, l1]; done)); simp -implicitDefEqProofs only [go_sem, q0, k1, hw2, List.length_nil, l1]) | intro _))
          all_goals
            rw [← hX3]
            exact ⟨3, rfl, rfl, by decide, rfl⟩
        focus
          have l1 : ((4096 : Int) < (TC.length : Int)) = False := eq_false (by omega)
          rw [if_neg hlong] at hX3
          simp -implicitDefEqProofs only [go_sem, tpB, q0, k1]
          (repeat' (first | exact trivial | contradiction | exact ⟨_, rfl⟩ | refine And.intro ?_ ?_ | (refine om ?_; omega) | (refine wait_draw 1000 mixed (by decide +kernel) ?_; simp -implicitDefEqProofs only [go_sem, q0, k1, hw2, List.length_nil, l1]) | ((first | refine call_eq 1000 (rk) ?_ ?_ rfl | refine call_draw 1000 (rk) ?_ ?_ | refine call_eq 1000 (nc) ?_ ?_ rfl | refine call_draw 1000 (nc) ?_ ?_); (focus (simp -implicitDefEqProofs only [go_sem, q0, k1, hw2, List.length_nil, l1]; done)); simp -implicitDefEqProofs only [go_sem, q0, k1, hw2, List.length_nil, l1]) | ((first | refine call_con_eq 1000 [1] (s3) ?_ ?_ ?_ | refine call_draw_con 1000 [1] (s3) (by decide +kernel) ?_ ?_ ?_); (focus (simp -implicitDefEqProofs only [go_sem, q0, k1, hw2, List.length_nil, l1]; done)); (focus (simp -implicitDefEqProofs only [go_sem, q0, k1, hw2, List.length_nil, l1]; done)); simp -implicitDefEqProofs only [go_sem, q0, k1, hw2, List.length_nil, l1]) | intro _))
          all_goals
            refine ⟨(i + 1 + k, TC), by simp only; omega, ⟨by simp only; omega, hX3, by simp only; omega⟩, weak_to' [0, 1, 3, 9] [0, 3] ?_ (by decide) (stay_of rfl)⟩
            simp -implicitDefEqProofs only [go_sem, St.keep, rrS, tpB, q0]
  · have h1 : ((i : Int) - (K : Int) ≤ -1) = False := eq_false (by omega)
    rw [rowsDL_ge p K i (by omega), grpD, exitD] at hX
    unfold rrS
    simp -implicitDefEqProofs only [go_sem, tpB, h1]
    rw [← hX]
    exact ⟨1, rfl, rfl, by decide, rfl⟩
end Go.Proofs.YtdgoompjoeffcaaGreat
