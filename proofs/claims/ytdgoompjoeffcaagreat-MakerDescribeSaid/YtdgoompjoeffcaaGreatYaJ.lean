import Derived.Test.YtdgoompjoeffcaaGreatProg
import Derived.Test.YtdgoompjoeffcaaGreatPmY
import Derived.Test.YtdgoompjoeffcaaGreatDwA
import Derived.Test.YtdgoompjoeffcaaGreatYaH
/- A tape that describes: what the program asks of a pattern. -/
set_option linter.unusedSimpArgs false
set_option linter.unusedVariables false
set_option maxRecDepth 20000
open Go Go.Proofs
namespace Go.Proofs.YtdgoompjoeffcaaGreat
open Pm
attribute [local irreducible] Wait CallT CallW NextT Le Weak
def stB (s : Int) : Bool := decide (s ≠ 0 ∧ (YardOfE s).2 = 0)
def cloP : AV := .clo (.func 37) [] [.fptr [iA 2, .v (.slice none 0 0)]]
theorem good_pc (s : Int) (h : s ≤ 9223372036854775807) : PCon Tryz.prog 37 [iA s, .fptr [iA 2, .v (.slice none 0 0)]] (· = .v (.bool (stB s))) := by
  have c := isState_pc s h
  refine pcon_run 1000 Tryz.func37 rfl Tryz.results37 Tryz.ntmps37 (Nat.le_of_ble_eq_true rfl) ?_
  simp only [iA] at c
  unfold stB
  by_cases h0 : s = 0
  · subst h0
    simp -implicitDefEqProofs only [go_sem, iA, bne_self_eq_false]
    (repeat' (first | exact trivial | contradiction | exact ⟨_, rfl⟩ | refine And.intro ?_ ?_ | (refine om ?_; omega) | (refine wait_draw 1000 mixed (by decide +kernel) ?_; simp -implicitDefEqProofs only [go_sem, bne_self_eq_false]) | ((first | refine call_eq 1000 (c) ?_ ?_ rfl | refine call_draw 1000 (c) ?_ ?_); (focus (simp -implicitDefEqProofs only [go_sem, bne_self_eq_false]; done)); simp -implicitDefEqProofs only [go_sem, bne_self_eq_false]) | intro _))
    all_goals simp [fz_v]
  · have h1 : (s != 0) = true := by simpa using h0
    simp -implicitDefEqProofs only [go_sem, iA, h1]
    (repeat' (first | exact trivial | contradiction | exact ⟨_, rfl⟩ | refine And.intro ?_ ?_ | (refine om ?_; omega) | (refine wait_draw 1000 mixed (by decide +kernel) ?_; simp -implicitDefEqProofs only [go_sem, h1]) | ((first | refine call_eq 1000 (c) ?_ ?_ rfl | refine call_draw 1000 (c) ?_ ?_); (focus (simp -implicitDefEqProofs only [go_sem, h1]; done)); simp -implicitDefEqProofs only [go_sem, h1]) | intro _))
    all_goals simp [fz_v, h0]
/-- What is wrong with a cell of a list. -/
def badE (p : List Ce) (i : Nat) : Int :=
  if farP (p.getD i ((0, 0), 0)).1.1 (p.getD i ((0, 0), 0)).1.2 then 13 else if stB (p.getD i ((0, 0), 0)).2 = false then 11 else
  if 0 < i ∧ 0 ≤ cmpE (p.getD (i - 1) ((0, 0), 0)) (p.getD i ((0, 0), 0)) then 12 else 0
def firstE (f : Nat → Int) : Nat → Nat → Int → Int
  | 0, _, e => e
  | n + 1, i, e => if f i = 0 then firstE f n (i + 1) e else f i
def properE (p : List Ce) : Int := firstE (badE p) p.length 0 (if 65536 < p.length then 14 else 0)
theorem firstE_here (f : Nat → Int) (e : Int) : ∀ (n i k : Nat), (∀ j, i ≤ j → j < k → f j = 0) → i ≤ k → k < i + n → f k ≠ 0 → firstE f n i e = f k
  | 0, i, k, _, h1, h2, _ => by omega
  | n + 1, i, k, h, h1, h2, h3 => by
    simp only [firstE]
    by_cases e1 : i = k
    · subst e1; rw [if_neg h3]
    · rw [if_pos (h i (Nat.le_refl _) (by omega))]
      exact firstE_here f e n (i + 1) k (fun j a b => h j (by omega) b) (by omega) (by omega) h3
theorem firstE_all (f : Nat → Int) (e : Int) : ∀ (n i : Nat), (∀ j, i ≤ j → j < i + n → f j = 0) → firstE f n i e = e
  | 0, _, _ => rfl
  | n + 1, i, h => by
    simp only [firstE]
    rw [if_pos (h i (Nat.le_refl _) (by omega))]
    exact firstE_all f e n (i + 1) fun j a b => h j (by omega) (by omega)
theorem ceA_at (p : List Ce) (k : Nat) (h : k < p.length) : (ceL p).getD k .junk = .agg [.v (.int .i64 (p.getD k ((0, 0), 0)).1.1), .v (.int .i64 (p.getD k ((0, 0), 0)).1.2), .v (.int .i64 (p.getD k ((0, 0), 0)).2)] := by
  simp [ceL, ceA, List.getD_eq_getElem?_getD, h]
set_option maxHeartbeats 4000000 in
theorem look_pc (p : List Ce) (hl : p.length < 9223372036854775808) (hs : ∀ c ∈ p, c.2 ≤ 9223372036854775807) : PCon Tryz.prog 36 [.fsl 3 (ceL p), cloP] (· = iA (properE p)) := by
  refine pcon_run 1000 Tryz.func36 rfl Tryz.results36 Tryz.ntmps36 (Nat.le_of_ble_eq_true rfl) ?_
  unfold cloP
  simp -implicitDefEqProofs only [go_sem, iA]
  refine wait_range p.length (fun k => ⟨43, 0, [(0, .fsl 3 (ceL p)), (1, .clo (.func 37) [] [.fptr [.v (.int .i64 2), .v (.slice none 0 0)]]), (4, .v (.int .i64 0)), (7, .fsl 3 (ceL p)), (8, .v (.int .i64 (p.length : Int))), (9, .v (.int .i64 (k : Int)))], []⟩) (fun k => ∀ j, j < k → badE p j = 0) (weak_to [0, 1, 4, 7, 8, 9] [] ?_ (by decide) (fun i h => by cases h)) (fun j hj => by omega) ?_
  · simp -implicitDefEqProofs only [go_sem, St.keep, Int.natCast_zero]
  intro k hk hG
  refine run_sound 1000 _ _ ?_
  by_cases hkl : k < p.length
  · have h1 : ((k : Int) < (p.length : Int)) = True := eq_true (by omega)
    have h2 : (k < p.length) = True := eq_true hkl
    have ga := ceA_at p k hkl
    have hmem : p.getD k ((0, 0), 0) ∈ p := by rw [List.getD_eq_getElem?_getD, List.getElem?_eq_getElem hkl]; exact List.getElem_mem hkl
    have hw1 : IntKind.i64.wrap ((k : Int) + 1) = ((k + 1 : Nat) : Int) := by rw [wrapN (by omega) (by omega)]; omega
    have hbad : badE p k ≠ 0 → properE p = badE p k := fun h => firstE_here (badE p) _ p.length 0 k (fun j _ hj => hG j hj) (Nat.zero_le _) (by omega) h
    have hok : badE p k = 0 → ∀ j, j < k + 1 → badE p j = 0 := fun h j hj => by
      by_cases e : j = k
      · subst e; exact h
      · exact hG j (by omega)
    have fc := far_pc (p.getD k ((0, 0), 0)).1.1 (p.getD k ((0, 0), 0)).1.2
    have gc := good_pc (p.getD k ((0, 0), 0)).2 (hs _ hmem)
    have bc := behind_pc (p.getD (k - 1) ((0, 0), 0)) (p.getD k ((0, 0), 0))
    have gb := ceA_at p (k - 1) (by omega)
    have hB : badE p k = (if farP (p.getD k ((0, 0), 0)).1.1 (p.getD k ((0, 0), 0)).1.2 then 13 else if stB (p.getD k ((0, 0), 0)).2 = false then 11 else
  if 0 < k ∧ 0 ≤ cmpE (p.getD (k - 1) ((0, 0), 0)) (p.getD k ((0, 0), 0)) then 12 else 0) := rfl
    unfold ceA3 at bc
    simp only [iA] at gc
    generalize p.getD k ((0, 0), 0) = c at ga fc gc bc hB
    generalize p.getD (k - 1) ((0, 0), 0) = b at gb bc hB
    generalize cmpE b c = cm at bc hB
    obtain ⟨⟨x, y⟩, s⟩ := c
    simp only at ga fc gc hB bc
    by_cases hf : farP x y
    · rw [if_pos hf] at hB
      have hp := hbad (by rw [hB]; decide)
      rw [hB] at hp
      rw [decide_eq_true hf] at fc
      simp -implicitDefEqProofs only [go_sem, iA, h1, h2, ga]
      (repeat' (first | exact trivial | contradiction | exact ⟨_, rfl⟩ | refine And.intro ?_ ?_ | (refine om ?_; omega) | (refine wait_draw 1000 mixed (by decide +kernel) ?_; simp -implicitDefEqProofs only [go_sem, h1, h2, ga]) | ((first | refine call_eq 1000 (fc) ?_ ?_ rfl | refine call_draw 1000 (fc) ?_ ?_); (focus (simp -implicitDefEqProofs only [go_sem, h1, h2, ga]; done)); simp -implicitDefEqProofs only [go_sem, h1, h2, ga]) | intro _))
      all_goals simp only [hp, fz_v]
    · rw [if_neg hf] at hB
      rw [decide_eq_false hf] at fc
      cases hg : stB s with
      | false =>
        rw [hg] at hB gc
        rw [if_pos rfl] at hB
        have hp := hbad (by rw [hB]; decide)
        rw [hB] at hp
        simp -implicitDefEqProofs only [go_sem, iA, h1, h2, ga]
        (repeat' (first | exact trivial | contradiction | exact ⟨_, rfl⟩ | refine And.intro ?_ ?_ | (refine om ?_; omega) | (refine wait_draw 1000 mixed (by decide +kernel) ?_; simp -implicitDefEqProofs only [go_sem, h1, h2, ga, Bool.not_false]) | ((first | refine call_eq 1000 (fc) ?_ ?_ rfl | refine call_draw 1000 (fc) ?_ ?_ | refine call_eq 1000 (gc) ?_ ?_ rfl | refine call_draw 1000 (gc) ?_ ?_); (focus (simp -implicitDefEqProofs only [go_sem, h1, h2, ga, Bool.not_false]; done)); simp -implicitDefEqProofs only [go_sem, h1, h2, ga, Bool.not_false]) | intro _))
        all_goals simp only [hp]
      | true =>
        rw [hg] at hB gc
        rw [if_neg (by decide)] at hB
        by_cases hk0 : 0 < k
        · have k0 : ((0 : Int) < (k : Int)) = True := eq_true (by omega)
          have k1 : IntKind.i64.wrap ((k : Int) - 1) = ((k - 1 : Nat) : Int) := by rw [wrapN (by omega) (by omega)]; omega
          have k2 : (k - 1 < p.length) = True := eq_true (by omega)
          by_cases hc : 0 ≤ cm
          · rw [if_pos ⟨hk0, hc⟩] at hB
            have hp := hbad (by rw [hB]; decide)
            rw [hB] at hp
            have k3 : ((0 : Int) ≤ cm) = True := eq_true hc
            simp -implicitDefEqProofs only [go_sem, iA, h1, h2, ga]
            (repeat' (first | exact trivial | contradiction | exact ⟨_, rfl⟩ | refine And.intro ?_ ?_ | (refine om ?_; omega) | (refine wait_draw 1000 mixed (by decide +kernel) ?_; simp -implicitDefEqProofs only [go_sem, h1, h2, ga, gb, k0, k1, k2, k3, Bool.not_true]) | ((first | refine call_eq 1000 (fc) ?_ ?_ rfl | refine call_draw 1000 (fc) ?_ ?_ | refine call_eq 1000 (gc) ?_ ?_ rfl | refine call_draw 1000 (gc) ?_ ?_ | refine call_eq 1000 (bc) ?_ ?_ rfl | refine call_draw 1000 (bc) ?_ ?_); (focus (simp -implicitDefEqProofs only [go_sem, h1, h2, ga, gb, k0, k1, k2, k3, Bool.not_true]; done)); simp -implicitDefEqProofs only [go_sem, h1, h2, ga, gb, k0, k1, k2, k3, Bool.not_true]) | intro _))
            all_goals simp only [hp]
          · rw [if_neg (fun h => hc h.2)] at hB
            have hn := hok hB
            have k3 : ((0 : Int) ≤ cm) = False := eq_false hc
            simp -implicitDefEqProofs only [go_sem, iA, h1, h2, ga]
            (repeat' (first | exact trivial | contradiction | exact ⟨_, rfl⟩ | refine And.intro ?_ ?_ | (refine om ?_; omega) | (refine wait_draw 1000 mixed (by decide +kernel) ?_; simp -implicitDefEqProofs only [go_sem, h1, h2, ga, gb, k0, k1, k2, k3, hw1, Bool.not_true]) | ((first | refine call_eq 1000 (fc) ?_ ?_ rfl | refine call_draw 1000 (fc) ?_ ?_ | refine call_eq 1000 (gc) ?_ ?_ rfl | refine call_draw 1000 (gc) ?_ ?_ | refine call_eq 1000 (bc) ?_ ?_ rfl | refine call_draw 1000 (bc) ?_ ?_); (focus (simp -implicitDefEqProofs only [go_sem, h1, h2, ga, gb, k0, k1, k2, k3, hw1, Bool.not_true]; done)); simp -implicitDefEqProofs only [go_sem, h1, h2, ga, gb, k0, k1, k2, k3, hw1, Bool.not_true]) | intro _))
            all_goals
              first
                | exact hn _ (by assumption)
                | (refine weak_to [0, 1, 4, 7, 8, 9] [] ?_ (by decide) (fun i h => by cases h)
                   simp -implicitDefEqProofs only [go_sem, St.keep]
                   done)
        · have hk1 : k = 0 := by omega
          subst hk1
          rw [if_neg (fun h => hk0 h.1)] at hB
          have hn := hok hB
          have z0 : ((0 : Nat) : Int) = 0 := rfl
          rw [z0] at h1 hw1
          simp -implicitDefEqProofs only [go_sem, iA, h1, h2, ga, z0]
          (repeat' (first | exact trivial | contradiction | exact ⟨_, rfl⟩ | refine And.intro ?_ ?_ | (refine om ?_; omega) | (refine wait_draw 1000 mixed (by decide +kernel) ?_; simp -implicitDefEqProofs only [go_sem, h1, h2, ga, gb, hw1, z0, Bool.not_true]) | ((first | refine call_eq 1000 (fc) ?_ ?_ rfl | refine call_draw 1000 (fc) ?_ ?_ | refine call_eq 1000 (gc) ?_ ?_ rfl | refine call_draw 1000 (gc) ?_ ?_ | refine call_eq 1000 (bc) ?_ ?_ rfl | refine call_draw 1000 (bc) ?_ ?_); (focus (simp -implicitDefEqProofs only [go_sem, h1, h2, ga, gb, hw1, z0, Bool.not_true]; done)); simp -implicitDefEqProofs only [go_sem, h1, h2, ga, gb, hw1, z0, Bool.not_true]) | intro _))
          all_goals
            first
              | exact hn _ (by assumption)
              | (refine weak_to [0, 1, 4, 7, 8, 9] [] ?_ (by decide) (fun i h => by cases h)
                 simp -implicitDefEqProofs only [go_sem, St.keep]
                 done)
  · have h1 : ((k : Int) < (p.length : Int)) = False := eq_false (by omega)
    have hp : properE p = (if 65536 < p.length then 14 else 0) := firstE_all (badE p) _ p.length 0 fun j _ hj => hG j (by omega)
    rw [hp]
    simp -implicitDefEqProofs only [go_sem, h1, iA]
    exact ⟨fun h => by rw [if_pos (by omega)], fun h => by rw [if_neg (by omega)]⟩
theorem properC_pc (p : List Ce) (hl : p.length < 9223372036854775808) (hs : ∀ c ∈ p, c.2 ≤ 9223372036854775807) : PCon Tryz.prog 15 [ruleA, .fsl 3 (ceL p)] (· = iA (properE p)) := by
  have c1 := ruleCheck_pc
  have c2 := look_pc p hl hs
  refine pcon_run 1000 Tryz.func15 rfl Tryz.results15 Tryz.ntmps15 (Nat.le_of_ble_eq_true rfl) ?_
  unfold ruleA at c1 ⊢
  unfold cloP at c2
  simp only [iA] at c1 c2 ⊢
  simp -implicitDefEqProofs only [go_sem]
  (repeat' (first | exact trivial | contradiction | exact ⟨_, rfl⟩ | refine And.intro ?_ ?_ | (refine om ?_; omega) | (refine wait_draw 1000 mixed (by decide +kernel) ?_; simp -implicitDefEqProofs only [go_sem]) | ((first | refine call_eq 1000 (c1) ?_ ?_ rfl | refine call_draw 1000 (c1) ?_ ?_); (focus (simp -implicitDefEqProofs only [go_sem]; done)); simp -implicitDefEqProofs only [go_sem]) | ((first | refine call_eq_read 1000 (c2) ?_ ?_ ?_ rfl | refine call_draw_read 1000 (c2) ?_ ?_ ?_); (focus (simp -implicitDefEqProofs only [go_sem]; done)); (focus ((first | intro ext | skip); simp -implicitDefEqProofs only [go_sem]; done)); simp -implicitDefEqProofs only [go_sem]) | intro _))
end Go.Proofs.YtdgoompjoeffcaaGreat
/- The yard's states: the plain law. -/
namespace Go.Proofs.YtdgoompjoeffcaaGreat
open Pm
attribute [local irreducible] Wait CallT CallW NextT Le Weak
/-- What any state of a kind from 0 to 15 obeys, shown kind by kind. -/
theorem kinds {Q : Int → List (Nat × Nat) → Prop} (h0 : Q 0 []) (h1 : Q 1 [(128, 3)]) (h2 : Q 2 [(128, 3)]) (h3 : Q 3 [(2, 2), (128, 3), (4, 7)]) (h4 : Q 4 [(2, 2), (128, 3), (128, 4)])
    (h5 : Q 5 [(2, 2), (3, 3), (3, 4)]) (h6 : Q 6 [(2, 2), (3, 3), (3, 4)]) (h7 : Q 7 [(2, 2), (2, 5), (128, 3)]) (h8 : Q 8 [(2, 2), (8, 5), (4, 6), (4, 7), (128, 3)])
    (h9 : Q 9 [(2, 8), (4, 6), (128, 3)]) (h10 : Q 10 [(4, 5), (128, 3), (256, 9)]) (h11 : Q 11 [(256, 9)]) (h12 : Q 12 [(128, 3), (256, 9)]) (h13 : Q 13 [(2, 5), (128, 3)]) (h14 : Q 14 []) (h15 : Q 15 [])
    (k : Int) (ha : 0 ≤ k) (hb : k ≤ 15) : Q k (kindF k) := by
  obtain ⟨n, rfl⟩ := Int.eq_ofNat_of_zero_le ha
  match n, hb with
  | 0, _ => exact h0
  | 1, _ => exact h1
  | 2, _ => exact h2
  | 3, _ => exact h3
  | 4, _ => exact h4
  | 5, _ => exact h5
  | 6, _ => exact h6
  | 7, _ => exact h7
  | 8, _ => exact h8
  | 9, _ => exact h9
  | 10, _ => exact h10
  | 11, _ => exact h11
  | 12, _ => exact h12
  | 13, _ => exact h13
  | 14, _ => exact h14
  | 15, _ => exact h15
  | n + 16, h => exfalso; omega
def okY (y : List Int) : Bool := !(decide ((y.getD 0 0 = 0 ∨ y.getD 0 0 = 14) ∧ y.getD 1 0 ≠ 0)) && rightB y
/-- The two ways to say which fields fit together. -/
theorem fit_eq (k d s s1 s2 ph as1 se ro co : Int) (h0 : 0 ≤ k) (h15 : k ≤ 15) (hr : inR [k, d, s, s1, s2, ph, as1, se, ro, co] (kindF k) = true) (ho : onlyL [k, d, s, s1, s2, ph, as1, se, ro, co] (kindF k) = [k, d, s, s1, s2, ph, as1, se, ro, co]) :
    properB [k, d, s, s1, s2, ph, as1, se, ro, co] = okY [k, d, s, s1, s2, ph, as1, se, ro, co] := by
  revert hr ho
  refine kinds (Q := fun k F => inR [k, d, s, s1, s2, ph, as1, se, ro, co] F = true → onlyL [k, d, s, s1, s2, ph, as1, se, ro, co] F = [k, d, s, s1, s2, ph, as1, se, ro, co] → properB [k, d, s, s1, s2, ph, as1, se, ro, co] = okY [k, d, s, s1, s2, ph, as1, se, ro, co])
    ?_ ?_ ?_ ?_ ?_ ?_ ?_ ?_ ?_ ?_ ?_ ?_ ?_ ?_ ?_ ?_ k h0 h15
  all_goals
    intro hr ho
    simp only [inR, onlyL, bare, List.all_cons, List.all_nil, Bool.and_true, Bool.and_eq_true, decide_eq_true_eq, List.foldl_cons, List.foldl_nil, List.getD_cons_zero, List.getD_cons_succ, List.set_cons_zero, List.set_cons_succ, List.cons.injEq, and_true, true_and] at hr ho
    refine bool_eq ?_
    simp only [properB, okY, rightB, List.getD_cons_zero, List.getD_cons_succ]
    simp
    first | omega | (split <;> split <;> omega)
theorem rev_eq (k d s s1 s2 ph as1 se ro co : Int) (h0 : 0 ≤ k) (h15 : k ≤ 15) : inR [k, d, s, s1, s2, ph, as1, se, ro, co] (kindF k).reverse = inR [k, d, s, s1, s2, ph, as1, se, ro, co] (kindF k) ∧ onlyL [k, d, s, s1, s2, ph, as1, se, ro, co] (kindF k).reverse = onlyL [k, d, s, s1, s2, ph, as1, se, ro, co] (kindF k) := by
  refine ⟨List.all_reverse, ?_⟩
  refine kinds (Q := fun k' F => onlyL [k, d, s, s1, s2, ph, as1, se, ro, co] F.reverse = onlyL [k, d, s, s1, s2, ph, as1, se, ro, co] F) ?_ ?_ ?_ ?_ ?_ ?_ ?_ ?_ ?_ ?_ ?_ ?_ ?_ ?_ ?_ ?_ k h0 h15 <;> rfl
theorem state_eq (y : List Int) (hy : y.length = 10) : YardStateE y = RefYardStateE y := by
  obtain ⟨k, d, s, s1, s2, ph, as1, se, ro, co, rfl⟩ := ten_of y hy
  unfold YardStateE RefYardStateE
  simp only [List.getD_cons_zero, List.getD_cons_succ]
  by_cases h : k < 0 ∨ 15 < k ∨ d < 0 ∨ 3 < d
  · rw [if_pos h, if_pos (by omega)]
  · rw [if_neg h]
    obtain ⟨e1, e2⟩ := rev_eq k d s s1 s2 ph as1 se ro co (by omega) (by omega)
    rw [e1, e2, payR_rev]
    by_cases hr : inR [k, d, s, s1, s2, ph, as1, se, ro, co] (kindF k) = false
    · rw [if_pos hr]
      split
      · rfl
      · rfl
    · rw [if_neg hr]
      have hr' : inR [k, d, s, s1, s2, ph, as1, se, ro, co] (kindF k) = true := by simpa using hr
      by_cases ho : onlyL [k, d, s, s1, s2, ph, as1, se, ro, co] (kindF k) = [k, d, s, s1, s2, ph, as1, se, ro, co]
      · have hf := fit_eq k d s s1 s2 ph as1 se ro co (by omega) (by omega) hr' ho
        rw [hf]
        simp only [okY, List.getD_cons_zero, List.getD_cons_succ]
        by_cases hc : (k = 0 ∨ k = 14) ∧ d ≠ 0
        · rw [if_pos (show k < 0 ∨ 15 < k ∨ d < 0 ∨ 3 < d ∨ ((k = 0 ∨ k = 14) ∧ d ≠ 0) by omega)]
          simp [hc]
        · rw [if_neg (show ¬ (k < 0 ∨ 15 < k ∨ d < 0 ∨ 3 < d ∨ ((k = 0 ∨ k = 14) ∧ d ≠ 0)) by omega), decide_eq_false hc]
          simp [hr']
      · rw [if_neg (fun h => ho h.1)]
        split
        · rfl
        · rw [if_neg (fun h => ho h.1)]
/-- The digits of a number, kind by kind: they are in range, the rest is what the bases leave. -/
theorem digs_all (s : Int) (h0 : 0 ≤ s) : let p := digs (kindF (s % 16)) (part0 s) (s / 64)
    inR p.1 (kindF (s % 16)) = true ∧ onlyL p.1 (kindF (s % 16)) = p.1 ∧ p.1.getD 0 0 = s % 16 ∧ p.1.getD 1 0 = s / 16 % 4 ∧ (8388608 ≤ s → p.2 ≠ 0) ∧ (p.2 = 0 → s % 16 + 16 * (s / 16 % 4) + 64 * payF p.1 (kindF (s % 16)) = s) := by
  have hk0 : 0 ≤ s % 16 := by omega
  have hk1 : s % 16 ≤ 15 := by omega
  generalize hk : s % 16 = k at hk0 hk1
  have hp : part0 s = [k, s / 16 % 4, 0, 0, 0, 0, 0, 0, 0, 0] := by unfold part0; rw [hk]
  rw [hp]
  generalize hr : s / 64 = r
  refine kinds (Q := fun k' F => let p := digs F [k, s / 16 % 4, 0, 0, 0, 0, 0, 0, 0, 0] r
    inR p.1 F = true ∧ onlyL p.1 F = p.1 ∧ p.1.getD 0 0 = k ∧ p.1.getD 1 0 = s / 16 % 4 ∧ (8388608 ≤ s → p.2 ≠ 0) ∧ (p.2 = 0 → k + 16 * (s / 16 % 4) + 64 * payF p.1 F = s)) ?_ ?_ ?_ ?_ ?_ ?_ ?_ ?_ ?_ ?_ ?_ ?_ ?_ ?_ ?_ ?_ k hk0 hk1
  all_goals
    simp only [digs, stepD, List.foldl_cons, List.foldl_nil, inR, onlyL, bare, payF, List.all_cons, List.all_nil, Bool.and_true, Bool.and_eq_true, decide_eq_true_eq, List.getD_cons_zero, List.getD_cons_succ, List.set_cons_zero, List.set_cons_succ]
    (repeat' (first | exact trivial | exact rfl | refine And.intro ?_ ?_)) <;> omega
theorem yard_eq (s : Int) : YardOfE s = RefYardOfE s := by
  by_cases h0 : s < 0
  · rw [YardOfE, RefYardOfE, if_pos h0, if_pos (.inl h0)]
  · obtain ⟨a1, a2, a3, a4, a5, a6⟩ := digs_all s (by omega)
    have hlen := digs_ok (kindF (s % 16)) (part0 s) (s / 64) rfl (by omega) fun p hp => (kindF_ok (s % 16) p hp).2.2.1
    rw [YardOfE, RefYardOfE, if_neg h0]
    generalize digs (kindF (s % 16)) (part0 s) (s / 64) = p at *
    obtain ⟨y, r⟩ := p
    simp only at *
    by_cases h1 : 8388608 ≤ s
    · rw [if_neg (show ¬ (r = 0 ∧ properB y = true) from fun h => a5 h1 h.1), if_pos (show s < 0 ∨ 8388608 ≤ s from .inr h1)]
    · rw [if_neg (show ¬ (s < 0 ∨ 8388608 ≤ s) by omega)]
      obtain ⟨k, d, x1, x2, x3, x4, x5, x6, x7, x8, rfl⟩ := ten_of y hlen.1
      simp only [List.getD_cons_zero, List.getD_cons_succ] at a3 a4 ⊢
      rw [← a3] at a1 a2
      have hf := fit_eq k d x1 x2 x3 x4 x5 x6 x7 x8 (by omega) (by omega) a1 a2
      rw [hf]
      simp only [okY, List.getD_cons_zero, List.getD_cons_succ, Bool.and_eq_true, Bool.not_eq_true', decide_eq_false_iff_not]
theorem written_ok1 : ∀ n : Nat, n < 73 → (YardStateE (WrittenY n)).2 = 0 := by
  have h : ((List.range 73).all fun n => decide ((YardStateE (WrittenY n)).2 = 0)) = true := by decide +kernel
  exact fun n hn => of_decide_eq_true (List.all_eq_true.1 h n (List.mem_range.2 hn))
theorem written_zero : YardStateE (WrittenY 0) = (0, 0) := by decide +kernel
theorem written_eq (i : Int) : WrittenStateE i = RefWrittenStateE i := by
  unfold WrittenStateE RefWrittenStateE
  by_cases h : i < 0 ∨ 73 ≤ i
  · rw [if_pos h, if_pos h]
  · rw [if_neg h, if_neg h]
    obtain ⟨n, rfl⟩ := Int.eq_ofNat_of_zero_le (show 0 ≤ i by omega)
    have hw := written_ok1 n (by omega)
    rw [← state_eq _ (writtenY_len _)]
    split
    · rename_i h0; rw [h0, written_zero]
    · rw [← hw]
end Go.Proofs.YtdgoompjoeffcaaGreat
