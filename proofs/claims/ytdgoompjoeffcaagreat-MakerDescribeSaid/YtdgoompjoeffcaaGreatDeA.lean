import Derived.Test.YtdgoompjoeffcaaGreatProg
import Derived.Test.YtdgoompjoeffcaaGreatPmY
import Derived.Test.YtdgoompjoeffcaaGreatYaJ
import Derived.Test.YtdgoompjoeffcaaGreatMmJ
/- A tape that describes: what the document asks of a pattern. -/
set_option linter.unusedSimpArgs false
set_option linter.unusedVariables false
set_option maxRecDepth 20000
open Go Go.Proofs
namespace Go.Proofs.YtdgoompjoeffcaaGreat
open Pm
attribute [local irreducible] Wait CallT CallW NextT Le Weak
theorem near_pc (x y : Int) : PCon Tryz.prog 52 [.v (.int .i64 x), .v (.int .i64 y)] (· = .v (.bool (!decide (farP x y)))) := by
  refine pcon_run 1000 Tryz.func52 rfl Tryz.results52 Tryz.ntmps52 (Nat.le_of_ble_eq_true rfl) ?_
  simp -implicitDefEqProofs only [go_sem]
  all_goals (repeat' (first | exact trivial | contradiction | exact ⟨_, rfl⟩ | refine And.intro ?_ ?_ | (refine om ?_; omega)  | (refine wait_draw 1000 mixed (by decide +kernel) ?_; simp -implicitDefEqProofs only [go_sem]) | intro _))
  all_goals simp_all [farP, fz_v]
  all_goals first | omega | done | (first | omega | exact Bool.beq_eq_decide_eq _ _ | (refine bool_eq ?_; simp only [Bool.and_eq_true, Bool.or_eq_true, Bool.not_eq_true', decide_eq_true_eq, beq_iff_eq, bne_iff_ne, decide_eq_false_iff_not, ne_eq, Bool.true_eq, Bool.false_eq, iff_self]; done) | (refine bool_eq ?_; simp only [Bool.and_eq_true, Bool.or_eq_true, Bool.not_eq_true', decide_eq_true_eq, beq_iff_eq, bne_iff_ne, decide_eq_false_iff_not, ne_eq, Bool.true_eq, Bool.false_eq, iff_self]; omega))
def afterB (a b : Ce) : Bool := decide (b.1.2 < a.1.2 ∨ a.1.2 = b.1.2 ∧ b.1.1 < a.1.1)
theorem rbehind_pc (a b : Ce) : PCon Tryz.prog 54 [ceA3 a, ceA3 b] (· = .v (.bool (afterB a b))) := by
  refine pcon_run 1000 Tryz.func54 rfl Tryz.results54 Tryz.ntmps54 (Nat.le_of_ble_eq_true rfl) ?_
  unfold ceA3 afterB
  simp -implicitDefEqProofs only [go_sem]
  all_goals (repeat' (first | exact trivial | contradiction | exact ⟨_, rfl⟩ | refine And.intro ?_ ?_ | (refine om ?_; omega)  | (refine wait_draw 1000 mixed (by decide +kernel) ?_; simp -implicitDefEqProofs only [go_sem]) | intro _))
  all_goals simp_all [fz_v]
  all_goals first | omega | done | (first | omega | exact Bool.beq_eq_decide_eq _ _ | (refine bool_eq ?_; simp only [Bool.and_eq_true, Bool.or_eq_true, Bool.not_eq_true', decide_eq_true_eq, beq_iff_eq, bne_iff_ne, decide_eq_false_iff_not, ne_eq, Bool.true_eq, Bool.false_eq, iff_self]; done) | (refine bool_eq ?_; simp only [Bool.and_eq_true, Bool.or_eq_true, Bool.not_eq_true', decide_eq_true_eq, beq_iff_eq, bne_iff_ne, decide_eq_false_iff_not, ne_eq, Bool.true_eq, Bool.false_eq, iff_self]; omega))
theorem after_cmp (a b : Ce) : afterB a b = !decide (0 ≤ cmpE b a) := by
  unfold afterB cmpE cmpI
  rw [Bool.eq_iff_iff]
  simp only [decide_eq_true_eq, Bool.not_eq_true', decide_eq_false_iff_not]
  (repeat' split) <;> omega
theorem risState_pc (s : Int) : PCon Tryz.prog 53 [ruleA, iA s] (· = .v (.bool (decide ((YardOfE s).2 = 0)))) := by
  have c1 := refYardOf_pc s
  rw [← yard_eq] at c1
  obtain ⟨a0, a1, a2, a3, a4, a5, a6, a7, a8, a9, e⟩ := yA_ten s
  rw [e] at c1
  generalize (YardOfE s).2 = er at c1 ⊢
  unfold ruleA
  simp only [iA] at c1 ⊢
  refine pcon_run 1000 Tryz.func53 rfl Tryz.results53 Tryz.ntmps53 (Nat.le_of_ble_eq_true rfl) ?_
  simp -implicitDefEqProofs only [go_sem]
  (repeat' (first | exact trivial | contradiction | exact ⟨_, rfl⟩ | refine And.intro ?_ ?_ | (refine om ?_; omega) | (refine wait_draw 1000 mixed (by decide +kernel) ?_; simp -implicitDefEqProofs only [go_sem]) | ((first | refine call_eq 1000 (c1) ?_ ?_ rfl | refine call_draw 1000 (c1) ?_ ?_); (focus (simp -implicitDefEqProofs only [go_sem]; done)); simp -implicitDefEqProofs only [go_sem]) | intro _))
  all_goals simp_all
  all_goals (first | omega | exact Bool.beq_eq_decide_eq _ _ | (refine bool_eq ?_; simp only [Bool.and_eq_true, Bool.or_eq_true, Bool.not_eq_true', decide_eq_true_eq, beq_iff_eq, bne_iff_ne, decide_eq_false_iff_not, ne_eq, Bool.true_eq, Bool.false_eq, iff_self]; done) | (refine bool_eq ?_; simp only [Bool.and_eq_true, Bool.or_eq_true, Bool.not_eq_true', decide_eq_true_eq, beq_iff_eq, bne_iff_ne, decide_eq_false_iff_not, ne_eq, Bool.true_eq, Bool.false_eq, iff_self]; omega))
theorem ruleCheckD_pc : PCon Tryz.prog 26 [ruleA] (· = iA 0) := by
  refine pcon_run 1000 Tryz.func26 rfl Tryz.results26 Tryz.ntmps26 (Nat.le_of_ble_eq_true rfl) ?_
  simp -implicitDefEqProofs only [go_sem, ruleA, iA]
theorem yardRule_pc : PCon Tryz.prog 10 [] (· = ruleA) := by
  refine pcon_run 1000 Tryz.func10 rfl Tryz.results10 Tryz.ntmps10 (Nat.le_of_ble_eq_true rfl) ?_
  unfold ruleA
  simp -implicitDefEqProofs only [go_sem, iA]
theorem yard_neg {s : Int} (h : (YardOfE s).2 = 0) : 0 ≤ s := by
  unfold YardOfE at h
  by_cases h0 : s < 0
  · rw [if_pos h0] at h; cases h
  · omega
theorem stB_true {s : Int} (h : stB s = true) : ¬ s < 1 ∧ decide ((YardOfE s).2 = 0) = true := by
  unfold stB at h
  have h1 := of_decide_eq_true h
  have := yard_neg h1.2
  exact ⟨by omega, decide_eq_true h1.2⟩
theorem stB_false {s : Int} (h : stB s = false) : s < 1 ∨ decide ((YardOfE s).2 = 0) = false := by
  unfold stB at h
  have h1 := of_decide_eq_false h
  by_cases h2 : (YardOfE s).2 = 0
  · refine .inl ?_
    have := yard_neg h2
    have : s = 0 := by
      by_cases e : s = 0
      · exact e
      · exact absurd ⟨e, h2⟩ h1
    omega
  · exact .inr (decide_eq_false h2)
set_option maxHeartbeats 4000000 in
theorem rproper_pc (p : List Ce) (hl : p.length < 9223372036854775808) : PCon Tryz.prog 27 [ruleA, .v (.bool true), .fsl 3 (ceL p)] (· = iA (properE p)) := by
  refine pcon_run 1000 Tryz.func27 rfl Tryz.results27 Tryz.ntmps27 (Nat.le_of_ble_eq_true rfl) ?_
  unfold ruleA
  simp -implicitDefEqProofs only [go_sem, iA]
  refine wait_range p.length (fun k => ⟨63, 0, [(1, .v (.bool true)), (2, .fsl 3 (ceL p)), (3, .ptr 0 2 0 0), (6, .v (.int .i64 0)), (7, .v (.int .i64 (k : Int)))], [some (.row 39 2 [.agg [.v (.int .i64 2), .v (.slice none 0 0)]])]⟩) (fun k => ∀ j, j < k → badE p j = 0) (weak_to [1, 2, 3, 6, 7] [0] ?_ (by decide) (fun i h => by cases h)) (fun j hj => by omega) ?_
  · simp -implicitDefEqProofs only [go_sem, St.keep, Int.natCast_zero]
  intro k hk hG
  refine run_sound 1000 _ _ ?_
  by_cases hkl : k < p.length
  · have h1 : ((k : Int) < (p.length : Int)) = True := eq_true (by omega)
    have h2 : (k < p.length) = True := eq_true hkl
    have ga := ceA_at p k hkl
    have hw1 : IntKind.i64.wrap ((k : Int) + 1) = ((k + 1 : Nat) : Int) := by rw [wrapN (by omega) (by omega)]; omega
    have hbad : badE p k ≠ 0 → properE p = badE p k := fun h => firstE_here (badE p) _ p.length 0 k (fun j _ hj => hG j hj) (Nat.zero_le _) (by omega) h
    have hok : badE p k = 0 → ∀ j, j < k + 1 → badE p j = 0 := fun h j hj => by
      by_cases e : j = k
      · subst e; exact h
      · exact hG j (by omega)
    have fc := near_pc (p.getD k ((0, 0), 0)).1.1 (p.getD k ((0, 0), 0)).1.2
    have gc := risState_pc (p.getD k ((0, 0), 0)).2
    have bc := rbehind_pc (p.getD k ((0, 0), 0)) (p.getD (k - 1) ((0, 0), 0))
    rw [after_cmp] at bc
    have gb := ceA_at p (k - 1) (by omega)
    have hB : badE p k = (if farP (p.getD k ((0, 0), 0)).1.1 (p.getD k ((0, 0), 0)).1.2 then 13 else if stB (p.getD k ((0, 0), 0)).2 = false then 11 else
  if 0 < k ∧ 0 ≤ cmpE (p.getD (k - 1) ((0, 0), 0)) (p.getD k ((0, 0), 0)) then 12 else 0) := rfl
    unfold ceA3 at bc
    unfold ruleA at gc
    simp only [iA] at gc
    have hst := @stB_true (p.getD k ((0, 0), 0)).2
    have hsf := @stB_false (p.getD k ((0, 0), 0)).2
    generalize p.getD k ((0, 0), 0) = c at ga fc gc bc hB hst hsf
    generalize p.getD (k - 1) ((0, 0), 0) = b at gb bc hB
    generalize cmpE b c = cm at bc hB
    obtain ⟨⟨x, y⟩, s⟩ := c
    simp only at ga fc gc hB bc hst hsf
    by_cases hf : farP x y
    · rw [if_pos hf] at hB
      have hp := hbad (by rw [hB]; decide)
      rw [hB] at hp
      rw [decide_eq_true hf] at fc
      simp -implicitDefEqProofs only [go_sem, iA, h1, h2, ga]
      (repeat' (first | exact trivial | contradiction | exact ⟨_, rfl⟩ | refine And.intro ?_ ?_ | (refine om ?_; omega) | (refine wait_draw 1000 mixed (by decide +kernel) ?_; simp -implicitDefEqProofs only [go_sem, h1, h2, ga, Bool.not_true, Bool.not_false]) | ((first | refine call_eq 1000 (fc) ?_ ?_ rfl | refine call_draw 1000 (fc) ?_ ?_); (focus (simp -implicitDefEqProofs only [go_sem, h1, h2, ga, Bool.not_true, Bool.not_false]; done)); simp -implicitDefEqProofs only [go_sem, h1, h2, ga, Bool.not_true, Bool.not_false]) | intro _))
      all_goals simp only [hp]
    · rw [if_neg hf] at hB
      rw [decide_eq_false hf] at fc
      cases hg : stB s with
      | false =>
        rw [hg] at hB
        rw [if_pos rfl] at hB
        have hp := hbad (by rw [hB]; decide)
        rw [hB] at hp
        by_cases hs1 : s < 1
        · have s1 : (s < 1) = True := eq_true hs1
          simp -implicitDefEqProofs only [go_sem, iA, h1, h2, ga]
          (repeat' (first | exact trivial | contradiction | exact ⟨_, rfl⟩ | refine And.intro ?_ ?_ | (refine om ?_; omega) | (refine wait_draw 1000 mixed (by decide +kernel) ?_; simp -implicitDefEqProofs only [go_sem, h1, h2, ga, s1, Bool.not_false, Bool.not_true]) | ((first | refine call_eq 1000 (fc) ?_ ?_ rfl | refine call_draw 1000 (fc) ?_ ?_ | refine call_eq 1000 (gc) ?_ ?_ rfl | refine call_draw 1000 (gc) ?_ ?_); (focus (simp -implicitDefEqProofs only [go_sem, h1, h2, ga, s1, Bool.not_false, Bool.not_true]; done)); simp -implicitDefEqProofs only [go_sem, h1, h2, ga, s1, Bool.not_false, Bool.not_true]) | intro _))
          all_goals simp only [hp]
        · have s1 : (s < 1) = False := eq_false hs1
          have hs2 := (hsf hg).resolve_left hs1
          rw [hs2] at gc
          simp -implicitDefEqProofs only [go_sem, iA, h1, h2, ga]
          (repeat' (first | exact trivial | contradiction | exact ⟨_, rfl⟩ | refine And.intro ?_ ?_ | (refine om ?_; omega) | (refine wait_draw 1000 mixed (by decide +kernel) ?_; simp -implicitDefEqProofs only [go_sem, h1, h2, ga, s1, Bool.not_false, Bool.not_true]) | ((first | refine call_eq 1000 (fc) ?_ ?_ rfl | refine call_draw 1000 (fc) ?_ ?_ | refine call_eq 1000 (gc) ?_ ?_ rfl | refine call_draw 1000 (gc) ?_ ?_); (focus (simp -implicitDefEqProofs only [go_sem, h1, h2, ga, s1, Bool.not_false, Bool.not_true]; done)); simp -implicitDefEqProofs only [go_sem, h1, h2, ga, s1, Bool.not_false, Bool.not_true]) | intro _))
          all_goals simp only [hp]
      | true =>
        rw [hg] at hB
        rw [if_neg (by decide)] at hB
        obtain ⟨hs1, hs2⟩ := hst hg
        have s1 : (s < 1) = False := eq_false hs1
        rw [hs2] at gc
        by_cases hk0 : 0 < k
        · have k0 : ((0 : Int) < (k : Int)) = True := eq_true (by omega)
          have k1 : IntKind.i64.wrap ((k : Int) - 1) = ((k - 1 : Nat) : Int) := by rw [wrapN (by omega) (by omega)]; omega
          have k2 : (k - 1 < p.length) = True := eq_true (by omega)
          by_cases hc : 0 ≤ cm
          · rw [if_pos ⟨hk0, hc⟩] at hB
            have hp := hbad (by rw [hB]; decide)
            rw [hB] at hp
            rw [decide_eq_true hc] at bc
            simp -implicitDefEqProofs only [go_sem, iA, h1, h2, ga]
            (repeat' (first | exact trivial | contradiction | exact ⟨_, rfl⟩ | refine And.intro ?_ ?_ | (refine om ?_; omega) | (refine wait_draw 1000 mixed (by decide +kernel) ?_; simp -implicitDefEqProofs only [go_sem, h1, h2, ga, gb, k0, k1, k2, s1, Bool.not_true, Bool.not_false]) | ((first | refine call_eq 1000 (fc) ?_ ?_ rfl | refine call_draw 1000 (fc) ?_ ?_ | refine call_eq 1000 (gc) ?_ ?_ rfl | refine call_draw 1000 (gc) ?_ ?_ | refine call_eq 1000 (bc) ?_ ?_ rfl | refine call_draw 1000 (bc) ?_ ?_); (focus (simp -implicitDefEqProofs only [go_sem, h1, h2, ga, gb, k0, k1, k2, s1, Bool.not_true, Bool.not_false]; done)); simp -implicitDefEqProofs only [go_sem, h1, h2, ga, gb, k0, k1, k2, s1, Bool.not_true, Bool.not_false]) | intro _))
            all_goals simp only [hp]
          · rw [if_neg (fun h => hc h.2)] at hB
            have hn := hok hB
            rw [decide_eq_false hc] at bc
            simp -implicitDefEqProofs only [go_sem, iA, h1, h2, ga]
            (repeat' (first | exact trivial | contradiction | exact ⟨_, rfl⟩ | refine And.intro ?_ ?_ | (refine om ?_; omega) | (refine wait_draw 1000 mixed (by decide +kernel) ?_; simp -implicitDefEqProofs only [go_sem, h1, h2, ga, gb, k0, k1, k2, s1, hw1, Bool.not_true, Bool.not_false]) | ((first | refine call_eq 1000 (fc) ?_ ?_ rfl | refine call_draw 1000 (fc) ?_ ?_ | refine call_eq 1000 (gc) ?_ ?_ rfl | refine call_draw 1000 (gc) ?_ ?_ | refine call_eq 1000 (bc) ?_ ?_ rfl | refine call_draw 1000 (bc) ?_ ?_); (focus (simp -implicitDefEqProofs only [go_sem, h1, h2, ga, gb, k0, k1, k2, s1, hw1, Bool.not_true, Bool.not_false]; done)); simp -implicitDefEqProofs only [go_sem, h1, h2, ga, gb, k0, k1, k2, s1, hw1, Bool.not_true, Bool.not_false]) | intro _))
            all_goals
              first
                | exact hn _ (by assumption)
                | (refine weak_to [1, 2, 3, 6, 7] [0] ?_ (by decide) (fun i h => by cases h)
                   simp -implicitDefEqProofs only [go_sem, St.keep]
                   done)
        · have hk1 : k = 0 := by omega
          subst hk1
          rw [if_neg (fun h => hk0 h.1)] at hB
          have hn := hok hB
          have z0 : ((0 : Nat) : Int) = 0 := rfl
          rw [z0] at h1 hw1
          simp -implicitDefEqProofs only [go_sem, iA, h1, h2, ga, z0]
          (repeat' (first | exact trivial | contradiction | exact ⟨_, rfl⟩ | refine And.intro ?_ ?_ | (refine om ?_; omega) | (refine wait_draw 1000 mixed (by decide +kernel) ?_; simp -implicitDefEqProofs only [go_sem, h1, h2, ga, gb, hw1, s1, z0, Bool.not_true, Bool.not_false]) | ((first | refine call_eq 1000 (fc) ?_ ?_ rfl | refine call_draw 1000 (fc) ?_ ?_ | refine call_eq 1000 (gc) ?_ ?_ rfl | refine call_draw 1000 (gc) ?_ ?_ | refine call_eq 1000 (bc) ?_ ?_ rfl | refine call_draw 1000 (bc) ?_ ?_); (focus (simp -implicitDefEqProofs only [go_sem, h1, h2, ga, gb, hw1, s1, z0, Bool.not_true, Bool.not_false]; done)); simp -implicitDefEqProofs only [go_sem, h1, h2, ga, gb, hw1, s1, z0, Bool.not_true, Bool.not_false]) | intro _))
          all_goals
            first
              | exact hn _ (by assumption)
              | (refine weak_to [1, 2, 3, 6, 7] [0] ?_ (by decide) (fun i h => by cases h)
                 simp -implicitDefEqProofs only [go_sem, St.keep]
                 done)
  · have h1 : ((k : Int) < (p.length : Int)) = False := eq_false (by omega)
    have hp : properE p = (if 65536 < p.length then 14 else 0) := firstE_all (badE p) _ p.length 0 fun j _ hj => hG j (by omega)
    rw [hp]
    simp -implicitDefEqProofs only [go_sem, h1, iA]
    exact ⟨fun h => by rw [if_pos (by omega)], fun h => by rw [if_neg (by omega)]⟩
theorem properD_pc (p : List Ce) (hl : p.length < 9223372036854775808) : PCon Tryz.prog 9 [ruleA, .fsl 3 (ceL p)] (· = iA (properE p)) := by
  have c1 := ruleCheckD_pc
  have c2 := rproper_pc p hl
  refine pcon_run 1000 Tryz.func9 rfl Tryz.results9 Tryz.ntmps9 (Nat.le_of_ble_eq_true rfl) ?_
  unfold ruleA at c1 c2 ⊢
  simp only [iA] at c1 c2 ⊢
  simp -implicitDefEqProofs only [go_sem, bne_self_eq_false]
  (repeat' (first | exact trivial | contradiction | exact ⟨_, rfl⟩ | refine And.intro ?_ ?_ | (refine om ?_; omega) | (refine wait_draw 1000 mixed (by decide +kernel) ?_; simp -implicitDefEqProofs only [go_sem, bne_self_eq_false]) | ((first | refine call_eq 1000 (c1) ?_ ?_ rfl | refine call_draw 1000 (c1) ?_ ?_ | refine call_eq 1000 (c2) ?_ ?_ rfl | refine call_draw 1000 (c2) ?_ ?_); (focus (simp -implicitDefEqProofs only [go_sem, bne_self_eq_false]; done)); simp -implicitDefEqProofs only [go_sem, bne_self_eq_false]) | intro _))
end Go.Proofs.YtdgoompjoeffcaaGreat
/- A tape that describes: what commands do, a plain law of the walk. -/
namespace Go.Proofs.YtdgoompjoeffcaaGreat
open Pm
attribute [local irreducible] Wait CallT CallW NextT Le Weak
/-- So many places on, in a direction. -/
def mvP (p : Pl) (d : Int) : Nat → Pl
  | 0 => p
  | n + 1 => onP (mvP p d n) d
def sdP (p : Pl) (d : Int) : Sd := ⟨p.1, p.2, d⟩
/-- The stands on the way. -/
def rayP (p : Pl) (d : Int) (n : Nat) : List Sd := (List.range n).map fun i => sdP (mvP p d i) d
theorem rayP_succ (p : Pl) (d : Int) (n : Nat) : rayP p d (n + 1) = rayP p d n ++ [sdP (mvP p d n) d] := by unfold rayP; rw [List.range_succ, List.map_append]; rfl
theorem rayP_len (p : Pl) (d : Int) (n : Nat) : (rayP p d n).length = n := by simp [rayP]
theorem fwdR_eff {w w' : Wk} (e : fwdR w = (0, w')) : w'.s = sdP (onP (w.s.x, w.s.y) w.s.d) w.s.d ∧ w'.trail = w.trail ++ [w.s] ∧ w'.wrote = w.wrote ∧ w'.count = w.count := by
  simp only [fwdR] at e
  split at e
  · cases e
  · split at e
    · cases e
    · split at e
      · cases e
      · cases e
        exact ⟨rfl, rfl, rfl, rfl⟩
theorem fwdN_eff : ∀ (k : Nat) (w w' : Wk), fwdN k w = (0, w') → w'.s = sdP (mvP (w.s.x, w.s.y) w.s.d k) w.s.d ∧ w'.trail = w.trail ++ rayP (w.s.x, w.s.y) w.s.d k ∧ w'.wrote = w.wrote ∧ w'.count = w.count
  | 0, w, w', e => by cases e; exact ⟨rfl, by simp [rayP], rfl, rfl⟩
  | k + 1, w, w', e => by
    simp only [fwdN] at e
    split at e
    · rename_i h0
      obtain ⟨h1, h2, h3, h4⟩ := fwdR_eff (w' := (fwdR w).2) (by rw [← h0])
      obtain ⟨g1, g2, g3, g4⟩ := fwdN_eff k _ w' e
      rw [h1] at g1 g2
      have hm : ∀ i, mvP ((sdP (onP (w.s.x, w.s.y) w.s.d) w.s.d).x, (sdP (onP (w.s.x, w.s.y) w.s.d) w.s.d).y) w.s.d i = mvP (w.s.x, w.s.y) w.s.d (i + 1) := by
        intro i
        induction i with
        | zero => rfl
        | succ i ih => simp only [mvP] at ih ⊢; rw [ih]
      refine ⟨by rw [g1, show (sdP (onP (w.s.x, w.s.y) w.s.d) w.s.d).d = w.s.d from rfl, hm], ?_, g3.trans h3, g4.trans h4⟩
      rw [g2, h2, List.append_assoc]
      congr 1
      unfold rayP
      rw [List.range_succ_eq_map, List.map_cons, List.map_map, show (sdP (onP (w.s.x, w.s.y) w.s.d) w.s.d).d = w.s.d from rfl]
      rw [List.singleton_append]
      congr 1
      exact List.map_congr_left fun i _ => by simp only [Function.comp]; rw [hm]
    · rename_i h0; rw [e] at h0; exact absurd rfl h0
theorem wrR_eff {w w' : Wk} {s : Int} (e : wrR w s = (0, w')) : w.trail.length ≠ 1 ∧ w'.s = w.trail.getD (w.trail.length - 1) default ∧ w'.trail = w.trail.take (w.trail.length - 1) ∧ w'.wrote = aput (w.s.x, w.s.y) s w.wrote ∧ w'.count = w.count := by
  simp only [wrR] at e
  split at e
  · cases e
  · rename_i h1
    cases e
    exact ⟨fun h => h1 (.inl h), rfl, rfl, rfl, rfl⟩
/-- States are written, one behind the other. -/
def wrAll : List Int → Wk → Int × Wk
  | [], w => (0, w)
  | s :: l, w => let r := wrR w s; if r.1 = 0 then wrAll l r.2 else r
theorem wrN_all (s : Int) : ∀ (k : Nat) (w : Wk), wrN s k w = wrAll (List.replicate k s) w
  | 0, _ => rfl
  | k + 1, w => by simp only [wrN, List.replicate_succ, wrAll, wrN_all s k]
/-- What is written on the way back along a ray: the first one at its end. -/
def putR (p : Pl) (d : Int) : Nat → List Int → List (Pl × Int) → List (Pl × Int)
  | n + 1, v :: l, m => putR p d n l (aput (mvP p d (n + 1)) v m)
  | _, _, m => m
theorem wrAll_eff (p : Pl) (d : Int) (T : List Sd) (n : Nat) : ∀ (V : List Int) (w w' : Wk), V.length = n → w.s = sdP (mvP p d n) d → w.trail = T ++ rayP p d n → wrAll V w = (0, w') →
    w'.s = sdP p d ∧ w'.trail = T ∧ w'.wrote = putR p d n V w.wrote ∧ w'.count = w.count := by
  induction n with
  | zero =>
    intro V w w' hV hs ht e
    have hV := List.length_eq_zero_iff.1 hV
    subst hV
    simp only [wrAll, Prod.mk.injEq, true_and] at e
    subst e
    exact ⟨hs, by rw [ht]; simp [rayP], rfl, rfl⟩
  | succ n ih =>
    intro V w w' hV hs ht e
    cases V with
    | nil => simp at hV
    | cons v V =>
      simp only [wrAll] at e
      by_cases h0 : (wrR w v).1 = 0
      · rw [if_pos h0] at e
        obtain ⟨_, h1, h2, h3, h4⟩ := wrR_eff (w' := (wrR w v).2) (s := v) (w := w) (Prod.ext h0 rfl)
        have hl : w.trail.length = T.length + n + 1 := by rw [ht, List.length_append, rayP_len]; omega
        rw [hl, Nat.add_sub_cancel, ht, rayP_succ] at h1 h2
        have e1 : (T ++ (rayP p d n ++ [sdP (mvP p d n) d])).getD (T.length + n) default = sdP (mvP p d n) d := by
          rw [← List.append_assoc, List.getD_eq_getElem?_getD, List.getElem?_append_right (by rw [List.length_append, rayP_len]; exact Nat.le_refl _), List.length_append, rayP_len, Nat.sub_self]
          rfl
        have e2 : (T ++ (rayP p d n ++ [sdP (mvP p d n) d])).take (T.length + n) = T ++ rayP p d n := by
          rw [← List.append_assoc]
          exact List.take_left' (by rw [List.length_append, rayP_len])
        obtain ⟨g1, g2, g3, g4⟩ := ih V _ w' (by simpa using hV) (h1.trans e1) (h2.trans e2) e
        refine ⟨g1, g2, ?_, g4.trans h4⟩
        rw [g3, h3, hs]
        rfl
      · rw [if_neg h0] at e
        rw [e] at h0
        exact absurd rfl h0
theorem walkP_app : ∀ (l m : List Int) (w : Wk), walkP (l ++ m) w = let r := walkP l w; if r.1 = 0 then walkP m r.2 else r
  | [], m, w => by simp [walkP]
  | s :: l, m, w => by
    simp only [List.cons_append, walkP]
    by_cases h : (cmdP w s).1 = 0
    · simp only [if_pos h]; exact walkP_app l m _
    · simp only [if_neg h]
theorem walkP_split {l m : List Int} {w w' : Wk} (e : walkP (l ++ m) w = (0, w')) : ∃ v, walkP l w = (0, v) ∧ walkP m v = (0, w') := by
  rw [walkP_app] at e
  by_cases h : (walkP l w).1 = 0
  · simp only [if_pos h] at e
    exact ⟨(walkP l w).2, by rw [← h], e⟩
  · simp only [if_neg h] at e
    rw [e] at h
    exact absurd rfl h
end Go.Proofs.YtdgoompjoeffcaaGreat
