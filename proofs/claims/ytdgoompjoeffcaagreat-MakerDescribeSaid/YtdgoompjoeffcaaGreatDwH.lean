import Derived.Test.YtdgoompjoeffcaaGreatProg
import Derived.Test.YtdgoompjoeffcaaGreatPmY
import Derived.Test.YtdgoompjoeffcaaGreatDeM
import Derived.Test.YtdgoompjoeffcaaGreatDeI
/- A tape that describes: a row's west part. -/
set_option linter.unusedSimpArgs false
set_option linter.unusedVariables false
set_option maxRecDepth 20000
open Go Go.Proofs
namespace Go.Proofs.YtdgoompjoeffcaaGreat
open Pm
attribute [local irreducible] Wait CallT CallW NextT Le Weak
theorem add_con' (w : List (Nat × Int)) (n : Nat) (s : Int) (hw : w ≠ []) (hl : w.length < 1000000000) (hb : ∀ r ∈ w, r.1 < 1000000000) (hn : n < 1000000000) :
    Con Tryz.prog 70 [.sl 0 2 0 w.length, .v (.int .i64 (n : Int)), .v (.int .i64 s)] [rnB w] fun r h => r = .sl 1 2 0 (addP w n s).length ∧ h = [none, rnB (addP w n s)] := by
  obtain ⟨d, ⟨m, t⟩, rfl⟩ : ∃ d r, w = d ++ [r] := ⟨w.dropLast, w.getLast hw, (List.dropLast_concat_getLast hw).symm⟩
  have c := add_con d m t n s (by simp at hl; omega) (hb (m, t) (by simp)) hn
  rw [show addL d m t n s = addP (d ++ [(m, t)]) n s from addL_P d m t n s] at c
  rw [show (d ++ [(m, t)]).length = d.length + 1 by simp]
  exact c
def nilA : AV := .v (.slice none 0 0)
def rwB (a b : AV) (m : Int) : Option Blk := some (.row 93 3 [.agg [a, b, .v (.int .i64 m)]])
def lnS (i : Nat) (w : List (Nat × Int)) : AV := if w = [] then nilA else .sl i 2 0 w.length
def lnB (w : List (Nat × Int)) : Option Blk := if w = [] then none else rnB w
theorem lnS_ne {w : List (Nat × Int)} (h : w ≠ []) (i : Nat) : lnS i w = .sl i 2 0 w.length := if_neg h
theorem lnB_ne {w : List (Nat × Int)} (h : w ≠ []) : lnB w = rnB w := if_neg h
theorem lnS_nil (i : Nat) : lnS i [] = nilA := rfl
theorem lnB_nil : lnB [] = none := rfl
def cloN : AV := .v (.func (.func 69) #[] #[])
def roE (p : List Ce) (a : Int) : List (Nat × AV) := [(0, .fsl 3 (ceL p)), (2, .ptr 0 3 0 0), (3, .ptr 1 3 0 0), (4, cloN), (5, .v (.int .i64 a))]
def roS (p : List Ce) (w : List (Nat × Int)) (a m : Int) (k : Nat) : St := ⟨111, 0, roE p a ++ [(13, .fsl 3 (ceL p)), (14, .v (.int .i64 (p.length : Int))), (15, .v (.int .i64 (k : Int)))], [rwB nilA nilA 0, rwB (lnS 2 w) nilA m, lnB w]⟩
def cutA (ν : Int → Int) (p : List Ce) : List (Int × Int) := p.map fun c => (c.1.1, ν c.2)
theorem cutA_len (ν : Int → Int) (p : List Ce) : (cutA ν p).length = p.length := by simp [cutA]
theorem cutA_get (ν : Int → Int) (p : List Ce) (k : Nat) (h : k < p.length) : (cutA ν p).getD k (0, 0) = ((p.getD k ((0, 0), 0)).1.1, ν (p.getD k ((0, 0), 0)).2) := by
  simp [cutA, List.getD_eq_getElem?_getD, h]
theorem ceL_at (p : List Ce) (k : Nat) (h : k < p.length) : (ceL p).getD k .junk = .agg [.v (.int .i64 (p.getD k ((0, 0), 0)).1.1), .v (.int .i64 (p.getD k ((0, 0), 0)).1.2), .v (.int .i64 (p.getD k ((0, 0), 0)).2)] := by
  simp [ceL, ceA, List.getD_eq_getElem?_getD, h]
def lnA (w : List (Nat × Int)) : AV := if w = [] then nilA else .fsl 2 (rnL w)
def roT (p : List Ce) (W e : List (Nat × Int)) (a m i : Int) : St := ⟨111, 0, roE p a ++ [(8, .v (.int .i64 i))], [rwB nilA nilA 0, rwB (lnS 2 W) (lnS 3 e) m, lnB W, lnB e]⟩
theorem negL_len (l : List (Int × Int)) : (negL l).length = l.length := by simp [negL]
theorem negL_get (l : List (Int × Int)) (k : Nat) (h : k < l.length) : (negL l).getD k (0, 0) = (-(l.getD (l.length - 1 - k) (0, 0)).1, (l.getD (l.length - 1 - k) (0, 0)).2) := by
  have h2 : l.length - 1 - k < l.length := by omega
  unfold negL
  rw [List.getD_eq_getElem?_getD, List.getElem?_map, List.getElem?_reverse h]
  simp [List.getD_eq_getElem?_getD, h2]
theorem wst_far {l : List (Int × Int)} (h : asc l) (hn : l ≠ []) (hw : (wst l l.length).1 ≠ []) : far0 l ≤ 0 := by
  by_cases h0 : far0 l ≤ 0
  · exact h0
  · have := wst_stop h (Nat.zero_le _) (.inr (show ¬ (l.getD 0 (0, 0)).1 < 0 by unfold far0 at h0; omega))
    rw [this] at hw
    exact absurd rfl hw
set_option maxHeartbeats 4000000 in
/-- A row of which these are the cells. -/
theorem row_pc (ν : Int → Int) (hν : ∀ x y s : Int, PCon Tryz.prog 69 [.agg [.v (.int .i64 x), .v (.int .i64 y), .v (.int .i64 s)]] (· = .v (.int .i64 (ν s)))) (p : List Ce) (hp : p ≠ []) (hl : p.length < 1000000) (hA : asc (cutA ν p)) (hb : ∀ c ∈ p, -1000000 ≤ c.1.1 ∧ c.1.1 ≤ 1000000) :
    PCon Tryz.prog 41 [.fsl 3 (ceL p)] (· = .agg [lnA (westP (cutA ν p)), lnA (westP (negL (cutA ν p))), .v (.int .i64 (nAt (cutA ν p) 0))]) := by
  refine pcon_run 1000 Tryz.func41 rfl Tryz.results41 Tryz.ntmps41 (Nat.le_of_ble_eq_true rfl) ?_
  have hp0 : 0 < p.length := List.length_pos_iff.2 hp
  have g0 := ceL_at p 0 hp0
  have hf : far0 (cutA ν p) = (p.getD 0 ((0, 0), 0)).1.1 := by unfold far0; rw [cutA_get ν p 0 hp0]
  have i0 : (0 < p.length) = True := eq_true hp0
  have i1 : ((0 : Int) < (p.length : Int)) = True := eq_true (by omega)
  have hcl : (ceL p).length = p.length := by simp [ceL]
  simp -implicitDefEqProofs only [go_sem, g0, i0, i1, hcl]
  refine wait_range p.length (fun k => roS p (wst (cutA ν p) k).1 (wst (cutA ν p) k).2 (midF (cutA ν p) k) k) (fun _ => True) (weak_to' [0, 2, 3, 4, 5, 13, 14, 15] [0, 1, 100] ?_ (by decide) (stay_of rfl)) trivial ?_
  · simp -implicitDefEqProofs only [go_sem, St.keep, roS, roE, cloN, rwB, nilA, wst_zero, midF_zero, lnS_nil, lnB_nil, hf, Int.natCast_zero]
  intro k hk _
  clear g0 i0 i1
  obtain ⟨w1, w2, w3, w4, w5, w6⟩ := wst_spec hA (show k ≤ (cutA ν p).length by rw [cutA_len]; exact hk)
  obtain ⟨b1, b2⟩ := canon_bound _ w5
  by_cases hkp : k < p.length
  · refine run_sound 1000 _ _ ?_
    have hkA : k < (cutA ν p).length := by rw [cutA_len]; exact hkp
    have gc := cutA_get ν p k hkp
    have ga := ceL_at p k hkp
    have hgap := fun h => wst_gap hA hkA h
    have hle := fun h => wst_le hA hkA h
    have hS := wst_succ (cutA ν p) k hkA
    have hM := midF_succ (cutA ν p) k hkA
    have hbk := hb (p.getD k ((0, 0), 0)) (by rw [List.getD_eq_getElem?_getD, List.getElem?_eq_getElem hkp]; exact List.getElem_mem hkp)
    have hb0 := hb (p.getD 0 ((0, 0), 0)) (by rw [List.getD_eq_getElem?_getD, List.getElem?_eq_getElem hp0]; exact List.getElem_mem hp0)
    rw [← hf] at hb0
    rw [gc] at hgap hle hS hM
    rw [hS, hM]
    generalize p.getD k ((0, 0), 0) = c at ga hgap hle hbk hS hM ⊢
    obtain ⟨⟨x, y⟩, s⟩ := c
    generalize wst (cutA ν p) k = W at w1 w2 w3 w4 w5 w6 b1 b2 hgap hle ⊢
    obtain ⟨w, a⟩ := W
    generalize midF (cutA ν p) k = m
    generalize far0 (cutA ν p) = f0 at hb0 w1 w2 w4 w6
    simp only at ga hgap hle hbk w1 w2 w3 w4 w5 w6 b1 b2 ⊢
    have h1 : ((k : Int) < (p.length : Int)) = True := eq_true (by omega)
    have h2 : (k < p.length) = True := eq_true hkp
    have hw1 : IntKind.i64.wrap ((k : Int) + 1) = ((k + 1 : Nat) : Int) := by rw [wrapN (by omega) (by omega)]; omega
    have cν := hν x y s
    by_cases hx : x < 0
    · have hx0 : ¬ x = 0 := by omega
      rw [if_pos hx, if_neg hx0]
      have ha := hle hx
      have c1 : (x < 0) = True := eq_true hx
      have c2 : (x == 0) = false := beq_false_of_ne hx0
      have e1 : IntKind.i64.wrap (x - a) = ((x - a).toNat : Int) := by rw [wrap64 (by omega) (by omega)]; omega
      have e2 : IntKind.i64.wrap (x + 1) = x + 1 := wrap64 (by omega) (by omega)
      by_cases hw : w = []
      · subst hw
        have hxa := hgap hx rfl
        subst hxa
        have e3 : IntKind.i64.wrap (x - x) = 0 := by rw [Int.sub_self]; rfl
        have a1 := add_none 0
        have a2 := add_nil 1 (ν s) (by decide)
        rw [show ((1 : Nat) : Int) = 1 from rfl] at a2
        unfold rnB at a2
        have a3 : addP (addP [] (x - x).toNat 0) 1 (ν s) = [(1, ν s)] := by rw [Int.sub_self]; rfl
        simp only [a3]
        unfold roS roE cloN rwB nilA
        simp -implicitDefEqProofs only [go_sem, lnS_nil, lnB_nil, nilA, h1, h2, ga, hcl, c1, c2]
        (repeat' (first | exact trivial | contradiction | exact ⟨_, rfl⟩ | refine And.intro ?_ ?_ | (refine om ?_; omega) | (refine wait_drawL [0, 1, 2, 3, 4, 5, 6, 7, 8, 9, 10, 11, 12] (fun id => id == 10 + hardK || id == lastK) 1000 mixed (by decide +kernel) ?_; simp -implicitDefEqProofs only [go_sem, e2, e3, c1, c2]) | (refine call_eq 1000 (a1) ?_ ?_ rfl; (focus (simp -implicitDefEqProofs only [go_sem, e2, e3, c1, c2]; done)); simp -implicitDefEqProofs only [go_sem, e2, e3, c1, c2]) | (refine call_draw 1000 (a1) ?_ ?_; (focus (simp -implicitDefEqProofs only [go_sem, e2, e3, c1, c2]; done)); simp -implicitDefEqProofs only [go_sem, e2, e3, c1, c2]) | (refine call_eq 1000 (cν) ?_ ?_ rfl; (focus (simp -implicitDefEqProofs only [go_sem, e2, e3, c1, c2]; done)); simp -implicitDefEqProofs only [go_sem, e2, e3, c1, c2]) | (refine call_draw 1000 (cν) ?_ ?_; (focus (simp -implicitDefEqProofs only [go_sem, e2, e3, c1, c2]; done)); simp -implicitDefEqProofs only [go_sem, e2, e3, c1, c2]) | (refine call_draw_new 1000 (a2) (by decide +kernel) ?_ rfl ?_; (focus (simp -implicitDefEqProofs only [go_sem, e2, e3, c1, c2]; done)); simp -implicitDefEqProofs only [go_sem, e2, e3, c1, c2]) | intro _))
        all_goals
          refine weak_to' [0, 2, 3, 4, 5, 13, 14, 15] [0, 1, 4] ?_ (by decide) (stay_of rfl)
          simp -implicitDefEqProofs only [go_sem, St.keep, hw1, rnB, lnS_ne, lnB_ne, ne_eq, reduceCtorEq, not_false_eq_true, List.length_cons, List.length_nil]
      · have hg0 : (lineN w).length ≤ 2000000 := by rw [w4]; omega
        have d1 := add_con' w (x - a).toNat 0 hw (by omega) (fun r hr => by have := b2 r hr; omega) (by omega)
        obtain ⟨w', hw'⟩ : ∃ w', w' = addP w (x - a).toNat 0 := ⟨_, rfl⟩
        have hc' : canon w' := by rw [hw']; exact canon_add _ _ w5
        have hl' : (lineN w').length ≤ 4000000 := by rw [hw', lineN_add, List.length_append, List.length_replicate]; omega
        have hn' : w' ≠ [] := by rw [hw']; exact addP_keep _ _ hw
        obtain ⟨b3, b4⟩ := canon_bound w' hc'
        rw [← hw'] at d1 ⊢
        have d2 := add_con' w' 1 (ν s) hn' (by omega) (fun r hr => by have := b4 r hr; omega) (by decide)
        rw [show ((1 : Nat) : Int) = 1 from rfl] at d2
        have hne : addP w' 1 (ν s) ≠ [] := addP_ne (by decide)
        unfold rnB at d1 d2
        unfold roS roE cloN rwB nilA
        simp -implicitDefEqProofs only [go_sem, lnS_ne hw, lnB_ne hw, rnB, nilA, h1, h2, ga, hcl, c1, c2]
        (repeat' (first | exact trivial | contradiction | exact ⟨_, rfl⟩ | refine And.intro ?_ ?_ | (refine om ?_; omega) | (refine wait_drawL [0, 1, 2, 3, 4, 5, 7, 8, 6, 9, 10, 11, 12] (fun id => id == 2 || id == 4 || id == 2 + killK || id == 4 + killK || id == 6 + hardK || id == 10 + hardK || id == lastK) 1000 mixed (by decide +kernel) ?_; simp -implicitDefEqProofs only [go_sem, e1, e2, c1, c2, implies_true]) | (refine call_eq 1000 (cν) ?_ ?_ rfl; (focus (simp -implicitDefEqProofs only [go_sem, e1, e2, c1, c2, implies_true]; done)); simp -implicitDefEqProofs only [go_sem, e1, e2, c1, c2, implies_true]) | (refine call_draw 1000 (cν) ?_ ?_; (focus (simp -implicitDefEqProofs only [go_sem, e1, e2, c1, c2, implies_true]; done)); simp -implicitDefEqProofs only [go_sem, e1, e2, c1, c2, implies_true]) | (refine call_draw_hard 1000 [2] (d1) (by decide +kernel) ?_ ?_ ?_ ?_; (focus (simp -implicitDefEqProofs only [go_sem, e1, e2, c1, c2, implies_true]; done)); (focus (simp -implicitDefEqProofs only [go_sem, e1, e2, c1, c2, implies_true]; done)); (focus (simp -implicitDefEqProofs only [go_sem, e1, e2, c1, c2, implies_true]; done)); simp -implicitDefEqProofs only [go_sem, e1, e2, c1, c2, implies_true]) | (refine call_draw_hard 1000 [4] (d2) (by decide +kernel) ?_ ?_ ?_ ?_; (focus (simp -implicitDefEqProofs only [go_sem, e1, e2, c1, c2, implies_true]; done)); (focus (simp -implicitDefEqProofs only [go_sem, e1, e2, c1, c2, implies_true]; done)); (focus (simp -implicitDefEqProofs only [go_sem, e1, e2, c1, c2, implies_true]; done)); simp -implicitDefEqProofs only [go_sem, e1, e2, c1, c2, implies_true]) | intro _))
        all_goals
          refine weak_to' [0, 2, 3, 4, 5, 13, 14, 15] [0, 1, 5] ?_ (by decide) (stay_of rfl)
          simp -implicitDefEqProofs only [go_sem, St.keep, hw1, rnB, lnS_ne hne, lnB_ne hne]
    · rw [if_neg hx]
      have c1 : (x < 0) = False := eq_false hx
      by_cases hx0 : x = 0
      · rw [if_pos hx0]
        have c2 : (x == 0) = true := by rw [hx0]; rfl
        unfold roS roE cloN rwB nilA
        simp -implicitDefEqProofs only [go_sem, nilA, h1, h2, ga, hcl, c1, c2]
        (repeat' (first | exact trivial | contradiction | exact ⟨_, rfl⟩ | refine And.intro ?_ ?_ | (refine om ?_; omega) | (refine wait_draw 1000 mixed (by decide +kernel) ?_; simp -implicitDefEqProofs only [go_sem, c1, c2, hw1]) | ((first | refine call_eq 1000 (cν) ?_ ?_ rfl | refine call_draw 1000 (cν) ?_ ?_); (focus (simp -implicitDefEqProofs only [go_sem, c1, c2, hw1]; done)); simp -implicitDefEqProofs only [go_sem, c1, c2, hw1]) | intro _))
        all_goals
          by_cases hw : w = []
          · subst hw
            simp only [lnS_nil, lnB_nil, nilA]
            refine weak_to' [0, 2, 3, 4, 5, 13, 14, 15] [0, 1, 100] ?_ (by decide) (stay_of rfl)
            simp -implicitDefEqProofs only [go_sem, St.keep]
          · simp only [lnS_ne hw, lnB_ne hw, rnB]
            refine weak_to' [0, 2, 3, 4, 5, 13, 14, 15] [0, 1, 2] ?_ (by decide) (stay_of rfl)
            simp -implicitDefEqProofs only [go_sem, St.keep]
      · rw [if_neg hx0]
        have c2 : (x == 0) = false := beq_false_of_ne hx0
        unfold roS roE cloN rwB nilA
        simp -implicitDefEqProofs only [go_sem, nilA, h1, h2, ga, hcl, c1, c2, hw1]
        all_goals
          by_cases hw : w = []
          · subst hw
            simp only [lnS_nil, lnB_nil, nilA]
            refine weak_to' [0, 2, 3, 4, 5, 13, 14, 15] [0, 1, 100] ?_ (by decide) (stay_of rfl)
            simp -implicitDefEqProofs only [go_sem, St.keep]
          · simp only [lnS_ne hw, lnB_ne hw, rnB]
            refine weak_to' [0, 2, 3, 4, 5, 13, 14, 15] [0, 1, 2] ?_ (by decide) (stay_of rfl)
            simp -implicitDefEqProofs only [go_sem, St.keep]
  · obtain rfl : k = p.length := by omega
    have hcl2 := cutA_len ν p
    have hAne : cutA ν p ≠ [] := fun e => by rw [e] at hcl2; simp at hcl2; omega
    have hwp := wst_all _ hAne
    have hmid : midF (cutA ν p) p.length = nAt (cutA ν p) 0 := by rw [← midF_all hA, hcl2]
    have hfar := wst_far hA hAne
    rw [hcl2] at hwp hfar
    rw [hmid]
    have hb0 := hb (p.getD 0 ((0, 0), 0)) (by rw [List.getD_eq_getElem?_getD, List.getElem?_eq_getElem hp0]; exact List.getElem_mem hp0)
    rw [← hf] at hb0
    have hlast := hb (p.getD (p.length - 1) ((0, 0), 0)) (by rw [List.getD_eq_getElem?_getD, List.getElem?_eq_getElem (by omega)]; exact List.getElem_mem (by omega))
    generalize hm : nAt (cutA ν p) 0 = m
    obtain ⟨W, hW⟩ : ∃ W, W = westP (cutA ν p) := ⟨_, rfl⟩
    rw [← hW]
    rw [hwp] at hW
    generalize wst (cutA ν p) p.length = V at w1 w2 w3 w4 w5 w6 b1 b2 hW hfar ⊢
    obtain ⟨w, a⟩ := V
    generalize hf0 : far0 (cutA ν p) = f0 at hb0 w1 w2 w4 w6 hfar
    simp only at w1 w2 w3 w4 w5 w6 b1 b2 hW hfar ⊢
    refine run_sound 1000 _ _ ?_
    have h1 : ((p.length : Int) < (p.length : Int)) = False := eq_false (by omega)
    have e1 : IntKind.i64.wrap ((p.length : Int) - 1) = ((p.length - 1 : Nat) : Int) := by rw [wrapN (by omega) (by omega)]; omega
    have e2 : (p.length - 1 < p.length) = True := eq_true (by omega)
    have g1 := ceL_at p (p.length - 1) (by omega)
    have hc0 : w = [] ∨ w ≠ [] := Classical.em _
    rcases hc0 with hw | hw
    focus
      subst hw
      rw [if_pos rfl] at hW
      have hWc : W = [] := hW
      unfold roS roE cloN rwB nilA
      simp -implicitDefEqProofs only [go_sem, lnS_nil, lnB_nil, nilA, h1, hcl, e1, e2, g1]
    rotate_left
    focus
      rw [if_neg hw] at hW
      have hf1 := hfar hw
      have ha := w2 hf1
      have e3 : IntKind.i64.wrap (0 - a) = ((-a).toNat : Int) := by rw [wrap64 (by omega) (by omega)]; omega
      have hw0 : 0 < w.length := List.length_pos_iff.2 hw
      have c0 : (0 < w.length) = True := eq_true hw0
      have c1 : ((0 : Int) < (w.length : Int)) = True := eq_true (by omega)
      have hg0 : (lineN w).length ≤ 1000000 := by rw [w4]; omega
      have d1 := add_con' w (-a).toNat 0 hw (by omega) (fun r hr => by have := b2 r hr; omega) (by omega)
      rw [← hW] at d1
      have hWc : W ≠ [] := by rw [hW]; exact addP_keep _ _ hw
      unfold rnB at d1
      unfold roS roE cloN rwB nilA
      simp -implicitDefEqProofs only [go_sem, lnS_ne hw, lnB_ne hw, rnB, nilA, h1, hcl, e1, e2, g1, c0, c1]
      (repeat' (first | exact trivial | contradiction | exact ⟨_, rfl⟩ | refine And.intro ?_ ?_ | (refine om ?_; omega) | (refine wait_draw 1000 mixed (by decide +kernel) ?_; simp -implicitDefEqProofs only [go_sem, e1, e2, e3, g1, c0, c1, hcl]) | ((first | refine call_con_eq 1000 [2] (d1) ?_ ?_ ?_ | refine call_draw_con 1000 [2] (d1) (by decide +kernel) ?_ ?_ ?_); (focus (simp -implicitDefEqProofs only [go_sem, e1, e2, e3, g1, c0, c1, hcl]; done)); (focus (simp -implicitDefEqProofs only [go_sem, e1, e2, e3, g1, c0, c1, hcl]; done)); simp -implicitDefEqProofs only [go_sem, e1, e2, e3, g1, c0, c1, hcl]) | intro _))
    rotate_left
    all_goals
      clear w1 w2 w3 w4 w5 w6 b1 b2 hfar
      have hA' := asc_neg hA
      have hl' := negL_len (cutA ν p)
      rw [hcl2] at hl'
      have hne' : negL (cutA ν p) ≠ [] := fun e => by rw [e] at hl'; simp at hl'; omega
      have hf' : far0 (negL (cutA ν p)) = -(p.getD (p.length - 1) ((0, 0), 0)).1.1 := by
        unfold far0
        rw [negL_get _ 0 (by omega), hcl2, Nat.sub_zero, cutA_get _ _ _ (by omega)]
      have hwp' := wst_all _ hne'
      have hfar' := wst_far hA' hne'
      rw [hl'] at hwp' hfar'
      refine wait_range p.length (fun k => roT p W (wst (negL (cutA ν p)) k).1 (-(wst (negL (cutA ν p)) k).2) m ((p.length : Int) - 1 - k)) (fun _ => True) ?_ trivial ?_
      focus
        unfold roT roE cloN rwB nilA
        have ex : -(-(p.getD (p.length - 1) ((0, 0), 0)).1.1) = (p.getD (p.length - 1) ((0, 0), 0)).1.1 := Int.neg_neg _
        have ey : (p.length : Int) - 1 - ((0 : Nat) : Int) = ((p.length - 1 : Nat) : Int) := by omega
        rw [wst_zero, hf', ex, ey, lnS_nil, lnB_nil]
        first
          | (rw [hWc, lnS_nil, lnB_nil]
             refine weak_to' [0, 2, 3, 4, 5, 8] [0, 1, 100, 101] ?_ (by decide) (stay_of rfl)
             simp -implicitDefEqProofs only [go_sem, St.keep, nilA]
             done)
          | (rw [lnS_ne hWc, lnB_ne hWc]
             refine weak_to' [0, 2, 3, 4, 5, 8] [0, 1, 3, 100] ?_ (by decide) (stay_of rfl)
             simp -implicitDefEqProofs only [go_sem, St.keep, nilA, rnB]
             done)
      intro k hk _
      obtain ⟨w1, w2, w3, w4, w5, w6⟩ := wst_spec hA' (show k ≤ (negL (cutA ν p)).length by rw [hl']; exact hk)
      obtain ⟨b1, b2⟩ := canon_bound _ w5
      have hfb : -1000000 ≤ far0 (negL (cutA ν p)) ∧ far0 (negL (cutA ν p)) ≤ 1000000 := by rw [hf']; omega
      by_cases hkp : k < p.length ∧ ((negL (cutA ν p)).getD k (0, 0)).1 < 0
      focus
        obtain ⟨hkl, hneg⟩ := hkp
        refine run_sound 1000 _ _ ?_
        have hj : p.length - 1 - k < p.length := by omega
        have gj : (negL (cutA ν p)).getD k (0, 0) = (-(p.getD (p.length - 1 - k) ((0, 0), 0)).1.1, ν (p.getD (p.length - 1 - k) ((0, 0), 0)).2) := by rw [negL_get _ k (by omega), hcl2, cutA_get _ _ _ hj]
        have ga := ceL_at p (p.length - 1 - k) hj
        have hgap := fun h => wst_gap hA' (show k < (negL (cutA ν p)).length by omega) h
        have hle := wst_le hA' (show k < (negL (cutA ν p)).length by omega) hneg
        have hS := wst_succ (negL (cutA ν p)) k (by omega)
        have hbk := hb (p.getD (p.length - 1 - k) ((0, 0), 0)) (by rw [List.getD_eq_getElem?_getD, List.getElem?_eq_getElem hj]; exact List.getElem_mem hj)
        rw [gj] at hgap hle hS hneg
        rw [hS, if_pos hneg]
        clear g1 hwp' hfar' hlast hb0 hS
        generalize p.getD (p.length - 1 - k) ((0, 0), 0) = c at ga hgap hle hbk hneg ⊢
        obtain ⟨⟨x, y⟩, s⟩ := c
        generalize wst (negL (cutA ν p)) k = V at w1 w2 w3 w4 w5 w6 b1 b2 hgap hle ⊢
        obtain ⟨e, a'⟩ := V
        generalize far0 (negL (cutA ν p)) = f1 at hfb w1 w2 w4 w6
        simp only at ga hgap hle hbk hneg w1 w2 w3 w4 w5 w6 b1 b2 ⊢
        have ez : -(-x + 1) = x - 1 := by omega
        have ei : (p.length : Int) - 1 - (k : Int) = ((p.length - 1 - k : Nat) : Int) := by omega
        obtain ⟨j, hj0⟩ : ∃ j, j = p.length - 1 - k := ⟨_, rfl⟩
        rw [ez, ei]
        rw [← hj0] at ga hj ⊢
        have j1 : (j < p.length) = True := eq_true hj
        have j2 : ((0 : Int) ≤ (j : Int)) = True := eq_true (by omega)
        have j3 : IntKind.i64.wrap ((j : Int) - 1) = (p.length : Int) - 1 - ((k + 1 : Nat) : Int) := by rw [wrap64 (by omega) (by omega)]; omega
        have x1 : (0 < x) = True := eq_true (by omega)
        have x2 : IntKind.i64.wrap (x - 1) = x - 1 := wrap64 (by omega) (by omega)
        have x3 : IntKind.i64.wrap (-a' - x) = ((-x - a').toNat : Int) := by rw [wrap64 (by omega) (by omega)]; omega
        have cν := hν x y s
        have hg0 : (lineN e).length ≤ 2000000 := by rw [w4]; omega
        by_cases he : e = []
        focus
          subst he
          have hxa := hgap (by omega) rfl
          subst hxa
          have x4 : IntKind.i64.wrap (-(-x) - x) = 0 := by rw [show -(-x) - x = 0 by omega]; rfl
          have a1 := add_none 0
          have a2 := add_nil 1 (ν s) (by decide)
          rw [show ((1 : Nat) : Int) = 1 from rfl] at a2
          unfold rnB at a2
          have a3 : addP (addP [] (-x - -x).toNat 0) 1 (ν s) = [(1, ν s)] := by rw [Int.sub_self]; rfl
          simp only [a3]
          unfold roT roE cloN rwB nilA
          simp -implicitDefEqProofs only [go_sem, lnS_nil, lnB_nil, nilA, j1, j2, ga, hcl, x1, x4]
          (repeat' (first | exact trivial | contradiction | exact ⟨_, rfl⟩ | refine And.intro ?_ ?_ | (refine om ?_; omega) | (refine wait_drawL [0, 1, 2, 3, 4, 5, 6, 7, 8, 10, 11, 12, 13, 14, 9, 15, 16, 17, 18] (fun id => id == 16 + hardK || id == lastK) 1000 mixed (by decide +kernel) ?_; simp -implicitDefEqProofs only [go_sem, j1, j2, ga, hcl, x1, x4]) | (refine call_eq 1000 (a1) ?_ ?_ rfl; (focus (simp -implicitDefEqProofs only [go_sem, j1, j2, ga, hcl, x1, x4]; done)); simp -implicitDefEqProofs only [go_sem, j1, j2, ga, hcl, x1, x4]) | (refine call_draw 1000 (a1) ?_ ?_; (focus (simp -implicitDefEqProofs only [go_sem, j1, j2, ga, hcl, x1, x4]; done)); simp -implicitDefEqProofs only [go_sem, j1, j2, ga, hcl, x1, x4]) | (refine call_eq 1000 (cν) ?_ ?_ rfl; (focus (simp -implicitDefEqProofs only [go_sem, j1, j2, ga, hcl, x1, x4]; done)); simp -implicitDefEqProofs only [go_sem, j1, j2, ga, hcl, x1, x4]) | (refine call_draw 1000 (cν) ?_ ?_; (focus (simp -implicitDefEqProofs only [go_sem, j1, j2, ga, hcl, x1, x4]; done)); simp -implicitDefEqProofs only [go_sem, j1, j2, ga, hcl, x1, x4]) | (refine call_draw_new 1000 (a2) (by decide +kernel) ?_ rfl ?_; (focus (simp -implicitDefEqProofs only [go_sem, j1, j2, ga, hcl, x1, x4]; done)); simp -implicitDefEqProofs only [go_sem, j1, j2, ga, hcl, x1, x4]) | intro _))
          have hne1 : [(1, ν s)] ≠ [] := by simp
          all_goals
            first
              | (simp only [hWc, lnS_nil, lnB_nil, nilA, lnS_ne hne1, lnB_ne hne1, rnB]
                 refine weak_to' [0, 2, 3, 4, 5, 8] [0, 1, 100, 4] ?_ (by decide) (stay_of rfl)
                 simp -implicitDefEqProofs only [go_sem, St.keep, x2, j3, List.length_cons, List.length_nil]
                 done)
              | (simp only [lnS_ne hWc, lnB_ne hWc, rnB, lnS_ne hne1, lnB_ne hne1, rnB]
                 refine weak_to' [0, 2, 3, 4, 5, 8] [0, 1, 2, 4] ?_ (by decide) (stay_of rfl)
                 simp -implicitDefEqProofs only [go_sem, St.keep, x2, j3, List.length_cons, List.length_nil]
                 done)
        focus
          have d1 := add_con' e (-x - a').toNat 0 he (by omega) (fun r hr => by have := b2 r hr; omega) (by omega)
          obtain ⟨e', he'⟩ : ∃ e', e' = addP e (-x - a').toNat 0 := ⟨_, rfl⟩
          have hc' : canon e' := by rw [he']; exact canon_add _ _ w5
          have hlx : (lineN e').length ≤ 4000000 := by rw [he', lineN_add, List.length_append, List.length_replicate]; omega
          have hn' : e' ≠ [] := by rw [he']; exact addP_keep _ _ he
          obtain ⟨b3, b4⟩ := canon_bound e' hc'
          rw [← he'] at d1 ⊢
          have d2 := add_con' e' 1 (ν s) hn' (by omega) (fun r hr => by have := b4 r hr; omega) (by decide)
          rw [show ((1 : Nat) : Int) = 1 from rfl] at d2
          have hne : addP e' 1 (ν s) ≠ [] := addP_ne (by decide)
          unfold rnB at d1 d2
          unfold roT roE cloN rwB nilA
          simp -implicitDefEqProofs only [go_sem, lnS_ne he, lnB_ne he, rnB, nilA, j1, j2, ga, hcl, x1]
          (repeat' (first | exact trivial | contradiction | exact ⟨_, rfl⟩ | refine And.intro ?_ ?_ | (refine om ?_; omega) | (refine wait_drawL [0, 1, 2, 3, 4, 5, 6, 7, 8, 10, 11, 12, 13, 14, 9, 15, 16, 17, 18] (fun id => id == 3 || id == 4 || id == 3 + killK || id == 4 + killK || id == 9 + hardK || id == 16 + hardK || id == lastK) 1000 mixed (by decide +kernel) ?_; simp -implicitDefEqProofs only [go_sem, j1, j2, ga, hcl, x1, x3, implies_true]) | (refine call_eq 1000 (cν) ?_ ?_ rfl; (focus (simp -implicitDefEqProofs only [go_sem, j1, j2, ga, hcl, x1, x3, implies_true]; done)); simp -implicitDefEqProofs only [go_sem, j1, j2, ga, hcl, x1, x3, implies_true]) | (refine call_draw 1000 (cν) ?_ ?_; (focus (simp -implicitDefEqProofs only [go_sem, j1, j2, ga, hcl, x1, x3, implies_true]; done)); simp -implicitDefEqProofs only [go_sem, j1, j2, ga, hcl, x1, x3, implies_true]) | (refine call_draw_hard 1000 [3] (d1) (by decide +kernel) ?_ ?_ ?_ ?_; (focus (simp -implicitDefEqProofs only [go_sem, j1, j2, ga, hcl, x1, x3, implies_true]; done)); (focus (simp -implicitDefEqProofs only [go_sem, j1, j2, ga, hcl, x1, x3, implies_true]; done)); (focus (simp -implicitDefEqProofs only [go_sem, j1, j2, ga, hcl, x1, x3, implies_true]; done)); simp -implicitDefEqProofs only [go_sem, j1, j2, ga, hcl, x1, x3, implies_true]) | (refine call_draw_hard 1000 [4] (d2) (by decide +kernel) ?_ ?_ ?_ ?_; (focus (simp -implicitDefEqProofs only [go_sem, j1, j2, ga, hcl, x1, x3, implies_true]; done)); (focus (simp -implicitDefEqProofs only [go_sem, j1, j2, ga, hcl, x1, x3, implies_true]; done)); (focus (simp -implicitDefEqProofs only [go_sem, j1, j2, ga, hcl, x1, x3, implies_true]; done)); simp -implicitDefEqProofs only [go_sem, j1, j2, ga, hcl, x1, x3, implies_true]) | intro _))
          all_goals
            first
              | (simp only [hWc, lnS_nil, lnB_nil, nilA, lnS_ne hne, lnB_ne hne, rnB]
                 refine weak_to' [0, 2, 3, 4, 5, 8] [0, 1, 100, 5] ?_ (by decide) (stay_of rfl)
                 simp -implicitDefEqProofs only [go_sem, St.keep, x2, j3, List.length_cons, List.length_nil]
                 done)
              | (simp only [lnS_ne hWc, lnB_ne hWc, rnB, lnS_ne hne, lnB_ne hne, rnB]
                 refine weak_to' [0, 2, 3, 4, 5, 8] [0, 1, 2, 5] ?_ (by decide) (stay_of rfl)
                 simp -implicitDefEqProofs only [go_sem, St.keep, x2, j3, List.length_cons, List.length_nil]
                 done)
      focus
        refine run_sound 1000 _ _ ?_
        have hs : k = (negL (cutA ν p)).length ∨ ¬ ((negL (cutA ν p)).getD k (0, 0)).1 < 0 := by
          by_cases hkl : k < p.length
          · exact .inr fun h => hkp ⟨hkl, h⟩
          · exact .inl (by omega)
        have hst := wst_stop hA' (by omega) hs
        rw [hl'] at hst
        rw [hst] at hwp' hfar'
        obtain ⟨E, hE⟩ : ∃ E, E = westP (negL (cutA ν p)) := ⟨_, rfl⟩
        rw [← hE]
        rw [hwp'] at hE
        clear hst hwp' hf'
        generalize wst (negL (cutA ν p)) k = V at w1 w2 w3 w4 w5 w6 b1 b2 hE hfar' ⊢
        obtain ⟨e, a'⟩ := V
        generalize far0 (negL (cutA ν p)) = f1 at hfb w1 w2 w4 w6 hfar'
        simp only at w1 w2 w3 w4 w5 w6 b1 b2 hE hfar' ⊢
        have hend : ∀ i : Int, (i < 0 ∨ ∃ (j : Nat) (x y s : Int), i = (j : Int) ∧ j < p.length ∧ (ceL p).getD j .junk = .agg [.v (.int .i64 x), .v (.int .i64 y), .v (.int .i64 s)] ∧ ¬ 0 < x) → i = (p.length : Int) - 1 - (k : Int) → (p.length : Int) - 1 - (k : Int) = i := fun i _ h => h.symm
        have hi : (p.length : Int) - 1 - (k : Int) < 0 ∨ ∃ (j : Nat) (x y s : Int), (p.length : Int) - 1 - (k : Int) = (j : Int) ∧ j < p.length ∧ (ceL p).getD j .junk = .agg [.v (.int .i64 x), .v (.int .i64 y), .v (.int .i64 s)] ∧ ¬ 0 < x := by
          by_cases hkl : k < p.length
          · have hj : p.length - 1 - k < p.length := by omega
            have gj : (negL (cutA ν p)).getD k (0, 0) = (-(p.getD (p.length - 1 - k) ((0, 0), 0)).1.1, ν (p.getD (p.length - 1 - k) ((0, 0), 0)).2) := by rw [negL_get _ k (by omega), hcl2, cutA_get _ _ _ hj]
            refine .inr ⟨p.length - 1 - k, _, _, _, by omega, hj, ceL_at p (p.length - 1 - k) hj, fun h => hkp ⟨hkl, ?_⟩⟩
            rw [gj]
            simp only
            omega
          · exact .inl (by omega)
        clear hend hs
        generalize (p.length : Int) - 1 - (k : Int) = i at hi ⊢
        have hE0 : e = [] ∨ e ≠ [] := Classical.em _
        rcases hi with hi | ⟨j, x, y, s, rfl, hj, ga, hx⟩ <;> rcases hE0 with he | he
        focus
          have j2 : ((0 : Int) ≤ i) = False := eq_false (by omega)
          subst he
          rw [if_pos rfl] at hE
          subst hE
          unfold roT roE cloN rwB nilA
          simp -implicitDefEqProofs only [go_sem, lnS_nil, lnB_nil, nilA, j2]
          all_goals
            first
              | (simp -implicitDefEqProofs only [go_sem, hWc, lnS_nil, lnB_nil, nilA, lnA, rnB, ite_true]
                 done)
              | (simp -implicitDefEqProofs only [go_sem, lnS_ne hWc, lnB_ne hWc, rnB, lnA, if_neg hWc, ite_true, nilA]
                 done)
        focus
          have j2 : ((0 : Int) ≤ i) = False := eq_false (by omega)
          rw [if_neg he] at hE
          have hf2 := w2 (hfar' he)
          obtain ⟨b, hb0⟩ : ∃ b : Nat, -a' = (b : Int) := ⟨(-a').toNat, by omega⟩
          rw [hb0] at hE ⊢
          rw [Int.toNat_natCast] at hE
          have hg0 : (lineN e).length ≤ 2000000 := by rw [w4]; omega
          have d2 := add_con' e b 0 he (by omega) (fun r hr => by have := b2 r hr; omega) (by omega)
          rw [← hE] at d2
          have hEn : E ≠ [] := by rw [hE]; exact addP_keep _ _ he
          have k0 : (0 < e.length) = True := eq_true (List.length_pos_iff.2 he)
          have k1 : ((0 : Int) < (e.length : Int)) = True := eq_true (by have := List.length_pos_iff.2 he; omega)
          unfold rnB at d2
          unfold roT roE cloN rwB nilA
          simp -implicitDefEqProofs only [go_sem, lnS_ne he, lnB_ne he, rnB, nilA, j2, k0, k1]
          (repeat' (first | exact trivial | contradiction | exact ⟨_, rfl⟩ | refine And.intro ?_ ?_ | (refine om ?_; omega) | (refine wait_draw 1000 mixed (by decide +kernel) ?_; simp -implicitDefEqProofs only [go_sem, k0, k1, j2]) | ((first | refine call_con_eq 1000 [3] (d2) ?_ ?_ ?_ | refine call_draw_con 1000 [3] (d2) (by decide +kernel) ?_ ?_ ?_); (focus (simp -implicitDefEqProofs only [go_sem, k0, k1, j2]; done)); (focus (simp -implicitDefEqProofs only [go_sem, k0, k1, j2]; done)); simp -implicitDefEqProofs only [go_sem, k0, k1, j2]) | intro _))
          all_goals
            first
              | (simp -implicitDefEqProofs only [go_sem, hWc, lnS_nil, lnB_nil, nilA, lnA, rnB, ite_true, if_neg hEn]
                 done)
              | (simp -implicitDefEqProofs only [go_sem, lnS_ne hWc, lnB_ne hWc, rnB, lnA, if_neg hWc, ite_true, nilA, if_neg hEn]
                 done)
        focus
          have j1 : (j < p.length) = True := eq_true hj
          have j2 : ((0 : Int) ≤ (j : Int)) = True := eq_true (by omega)
          have x1 : (0 < x) = False := eq_false hx
          subst he
          rw [if_pos rfl] at hE
          subst hE
          unfold roT roE cloN rwB nilA
          simp -implicitDefEqProofs only [go_sem, lnS_nil, lnB_nil, nilA, j1, j2, ga, hcl, x1]
          all_goals
            first
              | (simp -implicitDefEqProofs only [go_sem, hWc, lnS_nil, lnB_nil, nilA, lnA, rnB, ite_true]
                 done)
              | (simp -implicitDefEqProofs only [go_sem, lnS_ne hWc, lnB_ne hWc, rnB, lnA, if_neg hWc, ite_true, nilA]
                 done)
        focus
          have j1 : (j < p.length) = True := eq_true hj
          have j2 : ((0 : Int) ≤ (j : Int)) = True := eq_true (by omega)
          have x1 : (0 < x) = False := eq_false hx
          rw [if_neg he] at hE
          have hf2 := w2 (hfar' he)
          obtain ⟨b, hb0⟩ : ∃ b : Nat, -a' = (b : Int) := ⟨(-a').toNat, by omega⟩
          rw [hb0] at hE ⊢
          rw [Int.toNat_natCast] at hE
          have hg0 : (lineN e).length ≤ 2000000 := by rw [w4]; omega
          have d2 := add_con' e b 0 he (by omega) (fun r hr => by have := b2 r hr; omega) (by omega)
          rw [← hE] at d2
          have hEn : E ≠ [] := by rw [hE]; exact addP_keep _ _ he
          have k0 : (0 < e.length) = True := eq_true (List.length_pos_iff.2 he)
          have k1 : ((0 : Int) < (e.length : Int)) = True := eq_true (by have := List.length_pos_iff.2 he; omega)
          unfold rnB at d2
          unfold roT roE cloN rwB nilA
          simp -implicitDefEqProofs only [go_sem, lnS_ne he, lnB_ne he, rnB, nilA, j1, j2, ga, hcl, x1, k0, k1]
          (repeat' (first | exact trivial | contradiction | exact ⟨_, rfl⟩ | refine And.intro ?_ ?_ | (refine om ?_; omega) | (refine wait_draw 1000 mixed (by decide +kernel) ?_; simp -implicitDefEqProofs only [go_sem, k0, k1, j1, j2, ga, hcl, x1]) | ((first | refine call_con_eq 1000 [3] (d2) ?_ ?_ ?_ | refine call_draw_con 1000 [3] (d2) (by decide +kernel) ?_ ?_ ?_); (focus (simp -implicitDefEqProofs only [go_sem, k0, k1, j1, j2, ga, hcl, x1]; done)); (focus (simp -implicitDefEqProofs only [go_sem, k0, k1, j1, j2, ga, hcl, x1]; done)); simp -implicitDefEqProofs only [go_sem, k0, k1, j1, j2, ga, hcl, x1]) | intro _))
          all_goals
            first
              | (simp -implicitDefEqProofs only [go_sem, hWc, lnS_nil, lnB_nil, nilA, lnA, rnB, ite_true, if_neg hEn]
                 done)
              | (simp -implicitDefEqProofs only [go_sem, lnS_ne hWc, lnB_ne hWc, rnB, lnA, if_neg hWc, ite_true, nilA, if_neg hEn]
                 done)
end Go.Proofs.YtdgoompjoeffcaaGreat
