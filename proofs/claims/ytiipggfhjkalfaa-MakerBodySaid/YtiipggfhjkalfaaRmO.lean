/- What a tape means, the document's way: what a walk means. Printed by gen_made.py. -/
import Derived.Test.YtiipggfhjkalfaaProg
import Derived.Test.YtiipggfhjkalfaaPmU
import Derived.Test.YtiipggfhjkalfaaRmN
set_option linter.unusedSimpArgs false
set_option linter.unusedVariables false
set_option maxRecDepth 20000
open Go Go.Proofs
namespace Go.Proofs.Ytiipggfhjkalfaa
open Pm
attribute [local irreducible] Wait CallT CallW NextT Le Weak
def cellsK (K : List Pl) (S : List Int) (n : Nat) : List Ce := ((K.take n).zip (S.take n)).filter nz
def roadK (K : List Pl) (R : List Bool) (n : Nat) : List Ce := (((K.take n).zip (R.take n)).filter fun c => c.2).map bare0
theorem take_snocD {α : Type} (l : List α) (k : Nat) (d : α) (h : k < l.length) : l.take (k + 1) = l.take k ++ [l.getD k d] := by
  rw [List.take_add_one, List.getElem?_eq_getElem h, List.getD_eq_getElem?_getD, List.getElem?_eq_getElem h]; rfl
theorem cellsK_succ {K : List Pl} {S : List Int} {k : Nat} (hk : k < K.length) (hS : S.length = K.length) : cellsK K S (k + 1) = if S.getD k 0 ≠ 0 then cellsK K S k ++ [(K.getD k (0, 0), S.getD k 0)] else cellsK K S k := by
  unfold cellsK
  rw [take_snocD K k (0, 0) hk, take_snocD S k 0 (by omega), List.zip_append (by simp only [List.length_take]; omega), List.filter_append]
  split
  · rename_i h
    rw [List.zip_cons_cons, List.zip_nil_right, List.filter_cons_of_pos (by simpa only [nz, decide_eq_true_eq] using h), List.filter_nil]
  · rename_i h
    rw [List.zip_cons_cons, List.zip_nil_right, List.filter_cons_of_neg (by simpa only [nz, decide_eq_true_eq] using h), List.filter_nil, List.append_nil]
theorem roadK_succ {K : List Pl} {R : List Bool} {k : Nat} (hk : k < K.length) (hR : R.length = K.length) : roadK K R (k + 1) = if R.getD k false = true then roadK K R k ++ [(K.getD k (0, 0), 0)] else roadK K R k := by
  unfold roadK
  rw [take_snocD K k (0, 0) hk, take_snocD R k false (by omega), List.zip_append (by simp only [List.length_take]; omega), List.filter_append]
  split
  · rename_i h; rw [h]; simp [bare0]
  · rename_i h; simp only [Bool.not_eq_true] at h; rw [h]; simp
theorem cellsK_len (K : List Pl) (S : List Int) (k : Nat) : (cellsK K S k).length ≤ k := by
  unfold cellsK
  refine Nat.le_trans (List.length_filter_le _ _) ?_
  rw [List.length_zip, List.length_take, List.length_take]; omega
theorem roadK_len (K : List Pl) (R : List Bool) (k : Nat) : (roadK K R k).length ≤ k := by
  unfold roadK
  rw [List.length_map]
  refine Nat.le_trans (List.length_filter_le _ _) ?_
  rw [List.length_zip, List.length_take, List.length_take]; omega
theorem zip_keys {α : Type} : ∀ (K : List Pl) (S : List α), ((K.zip S).map Prod.fst).Sublist K
  | [], S => by simp
  | a :: K, [] => by simp
  | a :: K, b :: S => by simp only [List.zip_cons_cons, List.map_cons]; exact (zip_keys K S).cons_cons a
theorem cellsK_nodup {K : List Pl} {S : List Int} (hn : K.Nodup) (k : Nat) : ((cellsK K S k).map Prod.fst).Nodup := by
  unfold cellsK
  exact List.Sublist.nodup (((List.filter_sublist).map _).trans ((zip_keys _ _).trans (List.take_sublist _ _))) hn
theorem roadK_nodup {K : List Pl} {R : List Bool} (hn : K.Nodup) (k : Nat) : ((roadK K R k).map Prod.fst).Nodup := by
  unfold roadK
  rw [List.map_map]
  exact List.Sublist.nodup (((List.filter_sublist).map _).trans ((zip_keys _ _).trans (List.take_sublist _ _))) hn
def mdRow (c r : AV) (long : Int) (copies : Bool) : Option Blk := some (.row 46 7 [.agg [c, r, .v (.int .i64 long), .v (.bool copies), .v (.int .i64 0), .v (.int .i64 0), .v (.int .i64 0)]])
def wRow (w : Rk) (T : List Int) : Option Blk := some (.row 82 16 [.agg (.fsl 1 (T.map iA) :: .fsl 1 ((w.K.map Prod.fst).map iA) :: .fsl 1 ((w.K.map Prod.snd).map iA) :: rkR w)])
def ceN (id : Nat) (l : List Ce) : AV := if l = [] then .v (.slice none 0 0) else .sl id 3 0 l.length
def ceB (l : List Ce) : Option Blk := if l = [] then none else some (.row 33 3 (ceL l))
theorem ceN_ne {id : Nat} {l : List Ce} (h : l ≠ []) : ceN id l = .sl id 3 0 l.length := if_neg h
theorem ceB_ne {l : List Ce} (h : l ≠ []) : ceB l = some (.row 33 3 (ceL l)) := if_neg h
theorem ceN_nil {id : Nat} : ceN id [] = .v (.slice none 0 0) := rfl
theorem ceB_nil : ceB [] = none := rfl
def mdS (w : Rk) (T : List Int) (cp : Bool) (k : Nat) (C R : List Ce) : St := ⟨91, 0, [(1, .v (.bool cp)), (2, .ptr 0 16 0 0), (4, .ptr 1 7 0 0), (5, .ptr 2 7 0 0), (6, .v (.int .i64 (k : Int)))],
  [wRow w T, mdRow (.v (.slice none 0 0)) (.v (.slice none 0 0)) 0 false, mdRow (ceN 3 C) (ceN 4 R) w.long cp, ceB C, ceB R]⟩
theorem ceN_app (id : Nat) (l : List Ce) (c : Ce) : ceN id (l ++ [c]) = .sl id 3 0 (l.length + 1) := by
  rw [ceN_ne (by simp), List.length_append, List.length_singleton]
theorem ceB_app (l : List Ce) (c : Ce) : ceB (l ++ [c]) = some (.row 33 3 (ceL (l ++ [c]))) := ceB_ne (by simp)
theorem ceN_one (id : Nat) (c : Ce) : ceN id [c] = .sl id 3 0 1 := rfl
theorem ceB_one (c : Ce) : ceB [c] = some (.row 33 3 (ceL [c])) := rfl
def ceZ (l : List Ce) : AV := if l = [] then .v (.slice none 0 0) else .fsl 3 (ceL l)
theorem ceZ_ne {l : List Ce} (h : l ≠ []) : ceZ l = .fsl 3 (ceL l) := if_neg h
theorem ceZ_nil : ceZ [] = .v (.slice none 0 0) := rfl
def mdX (w : Rk) (T : List Int) (cp : Bool) (k : Nat) (c r : AV) (b3 b4 : Option Blk) : St := ⟨91, 0, [(1, .v (.bool cp)), (2, .ptr 0 16 0 0), (4, .ptr 1 7 0 0), (5, .ptr 2 7 0 0), (6, .v (.int .i64 (k : Int)))],
  [wRow w T, mdRow (.v (.slice none 0 0)) (.v (.slice none 0 0)) 0 false, mdRow c r w.long cp, b3, b4]⟩
theorem frzL_bA (id : Nat) (b : Blk) (t : List Bool) : AV.frzL id b (t.map bA) = t.map bA := by
  rw [frzL_eq, List.map_map]; exact List.map_congr_left fun i _ => by simp [bA, frz_v]
theorem md_weak3 (w : Rk) (T : List Int) (cp : Bool) (k : Nat) (C R : List Ce) : Weak (mdX w T cp k (ceN 3 C) (ceN 4 R) (ceB C) (ceB R)) (mdX w T cp k (ceZ C) (ceN 4 R) none (ceB R)) := by
  by_cases h : C = []
  · subst h; exact Weak.refl _
  rw [ceN_ne h, ceB_ne h, ceZ_ne h]
  by_cases hr : R = []
  · subst hr
    refine weak_frzB 3 (b := .row 33 3 (ceL C)) rfl rfl (fun f => by simp (maxSteps := 1000000) -implicitDefEqProofs only [go_sem, ↓reduceIte, reduceCtorEq, Nat.reduceEqDiff, Nat.reduceLT, Nat.reduceAdd, Nat.reduceLeDiff]) ?_
    simp (maxSteps := 1000000) -implicitDefEqProofs only [go_sem, ↓reduceIte, reduceCtorEq, Nat.reduceEqDiff, Nat.reduceLT, Nat.reduceAdd, Nat.reduceLeDiff, mdX, wRow, mdRow, rkR, ceN_nil, ceB_nil, frzL_bA]
  · rw [ceN_ne hr, ceB_ne hr]
    refine weak_frzB 3 (b := .row 33 3 (ceL C)) rfl rfl (fun f => by simp (maxSteps := 1000000) -implicitDefEqProofs only [go_sem, ↓reduceIte, reduceCtorEq, Nat.reduceEqDiff, Nat.reduceLT, Nat.reduceAdd, Nat.reduceLeDiff]) ?_
    simp (maxSteps := 1000000) -implicitDefEqProofs only [go_sem, ↓reduceIte, reduceCtorEq, Nat.reduceEqDiff, Nat.reduceLT, Nat.reduceAdd, Nat.reduceLeDiff, mdX, wRow, mdRow, rkR, frzL_bA]
theorem md_weak4 (w : Rk) (T : List Int) (cp : Bool) (k : Nat) (C R : List Ce) : Weak (mdX w T cp k (ceZ C) (ceN 4 R) none (ceB R)) (mdX w T cp k (ceZ C) (ceZ R) none none) := by
  by_cases h : R = []
  · subst h; exact Weak.refl _
  rw [ceN_ne h, ceB_ne h, ceZ_ne h]
  by_cases hr : C = []
  · subst hr
    refine weak_frzB 4 (b := .row 33 3 (ceL R)) rfl rfl (fun f => by simp (maxSteps := 1000000) -implicitDefEqProofs only [go_sem, ↓reduceIte, reduceCtorEq, Nat.reduceEqDiff, Nat.reduceLT, Nat.reduceAdd, Nat.reduceLeDiff]) ?_
    simp (maxSteps := 1000000) -implicitDefEqProofs only [go_sem, ↓reduceIte, reduceCtorEq, Nat.reduceEqDiff, Nat.reduceLT, Nat.reduceAdd, Nat.reduceLeDiff, mdX, wRow, mdRow, rkR, ceZ_nil, frzL_bA]
  · rw [ceZ_ne hr]
    refine weak_frzB 4 (b := .row 33 3 (ceL R)) rfl rfl (fun f => by simp (maxSteps := 1000000) -implicitDefEqProofs only [go_sem, ↓reduceIte, reduceCtorEq, Nat.reduceEqDiff, Nat.reduceLT, Nat.reduceAdd, Nat.reduceLeDiff]) ?_
    simp (maxSteps := 1000000) -implicitDefEqProofs only [go_sem, ↓reduceIte, reduceCtorEq, Nat.reduceEqDiff, Nat.reduceLT, Nat.reduceAdd, Nat.reduceLeDiff, mdX, wRow, mdRow, rkR, frzL_bA]
theorem md_weak (w : Rk) (T : List Int) (cp : Bool) (k : Nat) (C R : List Ce) : Weak (mdS w T cp k C R) (mdX w T cp k (ceZ C) (ceZ R) none none) := (md_weak3 w T cp k C R).trans (md_weak4 w T cp k C R)
theorem rsortedZ (l : List Ce) (hn : (l.map Prod.fst).Nodup) (hs : l.length < 1000000000000) : PCon Try.prog 78 [ceZ l] (· = .fsl 3 (ceL (sortC l))) := by
  have h := rsorted_pc l.length l (Nat.le_refl _) hn hs
  by_cases hl : l = []
  · subst hl
    exact PCon.args h (.cons (Le.nil 3) .nil)
  · rw [ceZ_ne hl]; exact h
def refMd (w : Rk) (cp : Bool) : Md := ⟨sortC (cellsK w.K w.S w.K.length), sortC (roadK w.K w.R w.K.length), w.long, cp, if cp = true then (hereP w, 0) else ((0, 0), 0)⟩
set_option maxHeartbeats 4000000 in
theorem made_pc (w : Rk) (T : List Int) (cp : Bool) (hnd : w.K.Nodup) (hS : w.S.length = w.K.length) (hR : w.R.length = w.K.length) (hh : 0 ≤ w.here ∧ w.here < w.K.length) (hsm : w.K.length < 1000000000) : PCon Try.prog 47 [rkV w T, .v (.bool cp)] (· = mdA (refMd w cp)) := by
  refine pcon_run 1000 Try.func47 rfl Try.results47 Try.ntmps47 (Nat.le_of_ble_eq_true rfl) ?_
  simp (maxSteps := 1000000) -implicitDefEqProofs only [go_sem, ↓reduceIte, reduceCtorEq, Nat.reduceEqDiff, Nat.reduceLT, Nat.reduceAdd, Nat.reduceLeDiff, rkV, rkR]
  (repeat' (first | exact trivial | contradiction | exact ⟨_, rfl⟩ | refine And.intro ?_ ?_ | ((first | show (_ : Nat) ≤ _ | show (_ : Nat) < _ | show (_ : Int) ≤ _ | show (_ : Int) < _); omega) | (refine wait_draw 1000 mixed (by decide +kernel) ?_; simp (maxSteps := 1000000) -implicitDefEqProofs only [go_sem, ↓reduceIte, reduceCtorEq, Nat.reduceEqDiff, Nat.reduceLT, Nat.reduceAdd, Nat.reduceLeDiff , rkV, rkR]) | intro _))
  refine wait_range w.K.length (fun k => mdS w T cp k (cellsK w.K w.S k) (roadK w.K w.R k)) (fun _ => True) (weak_to [1, 2, 4, 5, 6] [0, 1, 2, 100, 101] ?_ (by decide) (fun i h => by cases h)) trivial ?_
  · rw [show cellsK w.K w.S 0 = [] from rfl, show roadK w.K w.R 0 = [] from rfl]
    simp (maxSteps := 1000000) -implicitDefEqProofs only [go_sem, ↓reduceIte, reduceCtorEq, Nat.reduceEqDiff, Nat.reduceLT, Nat.reduceAdd, Nat.reduceLeDiff, St.keep, mdS, wRow, mdRow, ceN_nil, ceB_nil, rkR, Int.natCast_zero]
  intro k hk _
  have hcl := cellsK_len w.K w.S k
  have hrl := roadK_len w.K w.R k
  by_cases hkK : k < w.K.length
  · refine run_sound 1000 _ _ ?_
    have h1 : ((k : Int) < (w.K.length : Int)) = True := eq_true (by omega)
    have h2 : (k < w.K.length) = True := eq_true hkK
    have h3 : ((k : Int) < (w.S.length : Int)) = True := eq_true (by omega)
    have h4 : ((k : Int) < (w.R.length : Int)) = True := eq_true (by omega)
    have hw1 : IntKind.i64.wrap ((k : Int) + 1) = ((k + 1 : Nat) : Int) := by rw [wrap64 (by omega) (by omega)]; omega
    have gx := getD_iA (w.K.map Prod.fst) k (by simpa using hkK)
    have gy := getD_iA (w.K.map Prod.snd) k (by simpa using hkK)
    rw [show (w.K.map Prod.fst).getD k 0 = (w.K.getD k (0, 0)).1 by simp [List.getD_eq_getElem?_getD, hkK]] at gx
    rw [show (w.K.map Prod.snd).getD k 0 = (w.K.getD k (0, 0)).2 by simp [List.getD_eq_getElem?_getD, hkK]] at gy
    have gS := get_tA w.S k (by omega)
    have gR := bl_get w.R k (by omega)
    simp only [iA] at gx gy
    have hC := cellsK_succ hkK hS
    have hRd := roadK_succ hkK hR
    rw [hC, hRd]
    generalize cellsK w.K w.S k = C at hcl
    generalize roadK w.K w.R k = Rd at hrl
    obtain ⟨⟨x, y⟩, hxy⟩ : ∃ p, p = w.K.getD k (0, 0) := ⟨_, rfl⟩
    rw [← hxy] at gx gy ⊢
    obtain ⟨s, hs⟩ : ∃ s, s = w.S.getD k 0 := ⟨_, rfl⟩
    rw [← hs] at gS ⊢
    obtain ⟨q, hq⟩ : ∃ q, q = w.R.getD k false := ⟨_, rfl⟩
    rw [← hq] at gR ⊢
    by_cases hc0 : C = []
    · subst hc0
      by_cases hr0 : Rd = []
      · subst hr0
        simp (maxSteps := 1000000) -implicitDefEqProofs only [go_sem, ↓reduceIte, reduceCtorEq, Nat.reduceEqDiff, Nat.reduceLT, Nat.reduceAdd, Nat.reduceLeDiff, mdS, wRow, mdRow, rkR, ceN_nil, ceB_nil, h1, h2, h3, h4, gx, gy, gS, gR]
        (repeat' (first | exact trivial | contradiction | exact ⟨_, rfl⟩ | refine And.intro ?_ ?_ | ((first | show (_ : Nat) ≤ _ | show (_ : Nat) < _ | show (_ : Int) ≤ _ | show (_ : Int) < _); omega) | (refine wait_draw 1000 mixed (by decide +kernel) ?_; simp (maxSteps := 1000000) -implicitDefEqProofs only [go_sem, ↓reduceIte, reduceCtorEq, Nat.reduceEqDiff, Nat.reduceLT, Nat.reduceAdd, Nat.reduceLeDiff , mdS, wRow, mdRow, rkR, ceN_nil, ceB_nil, h1, h2, h3, h4, gx, gy, gS, gR]) | intro _))
        all_goals first
        | (rw [if_pos (show s ≠ 0 from ‹¬ s = 0›), if_pos ‹q = true›]
           refine weak_to [1, 2, 4, 5, 6] [0, 1, 2, 9, 7] ?_ (by decide) (fun i h => by cases h)
           simp (maxSteps := 1000000) -implicitDefEqProofs only [go_sem, ↓reduceIte, reduceCtorEq, Nat.reduceEqDiff, Nat.reduceLT, Nat.reduceAdd, Nat.reduceLeDiff, St.keep, mdS, wRow, mdRow, rkR, ceN_nil, ceB_nil, ceN_app, ceB_app, ceN_one, ceB_one, ceL_cons, ceL_nil, hw1, List.nil_append, List.length_append]; done)
        | (rw [if_neg (show ¬ s ≠ 0 from fun h => h ‹s = 0›), if_pos ‹q = true›]
           refine weak_to [1, 2, 4, 5, 6] [0, 1, 2, 100, 7] ?_ (by decide) (fun i h => by cases h)
           simp (maxSteps := 1000000) -implicitDefEqProofs only [go_sem, ↓reduceIte, reduceCtorEq, Nat.reduceEqDiff, Nat.reduceLT, Nat.reduceAdd, Nat.reduceLeDiff, St.keep, mdS, wRow, mdRow, rkR, ceN_nil, ceB_nil, ceN_app, ceB_app, ceN_one, ceB_one, ceL_cons, ceL_nil, hw1, List.nil_append, List.length_append]; done)
        | (rw [if_pos (show s ≠ 0 from ‹¬ s = 0›), if_neg (show ¬ q = true from fun h => by simp_all)]
           refine weak_to [1, 2, 4, 5, 6] [0, 1, 2, 7, 101] ?_ (by decide) (fun i h => by cases h)
           simp (maxSteps := 1000000) -implicitDefEqProofs only [go_sem, ↓reduceIte, reduceCtorEq, Nat.reduceEqDiff, Nat.reduceLT, Nat.reduceAdd, Nat.reduceLeDiff, St.keep, mdS, wRow, mdRow, rkR, ceN_nil, ceB_nil, ceN_app, ceB_app, ceN_one, ceB_one, ceL_cons, ceL_nil, hw1, List.nil_append, List.length_append]; done)
        | (rw [if_neg (show ¬ s ≠ 0 from fun h => h ‹s = 0›), if_neg (show ¬ q = true from fun h => by simp_all)]
           refine weak_to [1, 2, 4, 5, 6] [0, 1, 2, 100, 101] ?_ (by decide) (fun i h => by cases h)
           simp (maxSteps := 1000000) -implicitDefEqProofs only [go_sem, ↓reduceIte, reduceCtorEq, Nat.reduceEqDiff, Nat.reduceLT, Nat.reduceAdd, Nat.reduceLeDiff, St.keep, mdS, wRow, mdRow, rkR, ceN_nil, ceB_nil, ceN_app, ceB_app, ceN_one, ceB_one, ceL_cons, ceL_nil, hw1, List.nil_append, List.length_append]; done)
      · skip
        simp (maxSteps := 1000000) -implicitDefEqProofs only [go_sem, ↓reduceIte, reduceCtorEq, Nat.reduceEqDiff, Nat.reduceLT, Nat.reduceAdd, Nat.reduceLeDiff, mdS, wRow, mdRow, rkR, ceN_nil, ceB_nil, ceN_ne hr0, ceB_ne hr0, h1, h2, h3, h4, gx, gy, gS, gR]
        (repeat' (first | exact trivial | contradiction | exact ⟨_, rfl⟩ | refine And.intro ?_ ?_ | ((first | show (_ : Nat) ≤ _ | show (_ : Nat) < _ | show (_ : Int) ≤ _ | show (_ : Int) < _); omega) | (refine wait_draw 1000 mixed (by decide +kernel) ?_; simp (maxSteps := 1000000) -implicitDefEqProofs only [go_sem, ↓reduceIte, reduceCtorEq, Nat.reduceEqDiff, Nat.reduceLT, Nat.reduceAdd, Nat.reduceLeDiff , mdS, wRow, mdRow, rkR, ceN_nil, ceB_nil, ceN_ne hr0, ceB_ne hr0, h1, h2, h3, h4, gx, gy, gS, gR]) | intro _))
        all_goals first
        | (rw [if_pos (show s ≠ 0 from ‹¬ s = 0›), if_pos ‹q = true›]
           refine weak_to [1, 2, 4, 5, 6] [0, 1, 2, 9, 7] ?_ (by decide) (fun i h => by cases h)
           simp (maxSteps := 1000000) -implicitDefEqProofs only [go_sem, ↓reduceIte, reduceCtorEq, Nat.reduceEqDiff, Nat.reduceLT, Nat.reduceAdd, Nat.reduceLeDiff, St.keep, mdS, wRow, mdRow, rkR, ceN_nil, ceB_nil, ceN_ne hr0, ceB_ne hr0, ceN_app, ceB_app, ceN_one, ceB_one, ceL_cons, ceL_nil, hw1, List.nil_append, List.length_append]; done)
        | (rw [if_neg (show ¬ s ≠ 0 from fun h => h ‹s = 0›), if_pos ‹q = true›]
           refine weak_to [1, 2, 4, 5, 6] [0, 1, 2, 100, 7] ?_ (by decide) (fun i h => by cases h)
           simp (maxSteps := 1000000) -implicitDefEqProofs only [go_sem, ↓reduceIte, reduceCtorEq, Nat.reduceEqDiff, Nat.reduceLT, Nat.reduceAdd, Nat.reduceLeDiff, St.keep, mdS, wRow, mdRow, rkR, ceN_nil, ceB_nil, ceN_ne hr0, ceB_ne hr0, ceN_app, ceB_app, ceN_one, ceB_one, ceL_cons, ceL_nil, hw1, List.nil_append, List.length_append]; done)
        | (rw [if_pos (show s ≠ 0 from ‹¬ s = 0›), if_neg (show ¬ q = true from fun h => by simp_all)]
           refine weak_to [1, 2, 4, 5, 6] [0, 1, 2, 7, 4] ?_ (by decide) (fun i h => by cases h)
           simp (maxSteps := 1000000) -implicitDefEqProofs only [go_sem, ↓reduceIte, reduceCtorEq, Nat.reduceEqDiff, Nat.reduceLT, Nat.reduceAdd, Nat.reduceLeDiff, St.keep, mdS, wRow, mdRow, rkR, ceN_nil, ceB_nil, ceN_ne hr0, ceB_ne hr0, ceN_app, ceB_app, ceN_one, ceB_one, ceL_cons, ceL_nil, hw1, List.nil_append, List.length_append]; done)
        | (rw [if_neg (show ¬ s ≠ 0 from fun h => h ‹s = 0›), if_neg (show ¬ q = true from fun h => by simp_all)]
           refine weak_to [1, 2, 4, 5, 6] [0, 1, 2, 100, 4] ?_ (by decide) (fun i h => by cases h)
           simp (maxSteps := 1000000) -implicitDefEqProofs only [go_sem, ↓reduceIte, reduceCtorEq, Nat.reduceEqDiff, Nat.reduceLT, Nat.reduceAdd, Nat.reduceLeDiff, St.keep, mdS, wRow, mdRow, rkR, ceN_nil, ceB_nil, ceN_ne hr0, ceB_ne hr0, ceN_app, ceB_app, ceN_one, ceB_one, ceL_cons, ceL_nil, hw1, List.nil_append, List.length_append]; done)
    · skip
      by_cases hr0 : Rd = []
      · subst hr0
        simp (maxSteps := 1000000) -implicitDefEqProofs only [go_sem, ↓reduceIte, reduceCtorEq, Nat.reduceEqDiff, Nat.reduceLT, Nat.reduceAdd, Nat.reduceLeDiff, mdS, wRow, mdRow, rkR, ceN_nil, ceB_nil, ceN_ne hc0, ceB_ne hc0, h1, h2, h3, h4, gx, gy, gS, gR]
        (repeat' (first | exact trivial | contradiction | exact ⟨_, rfl⟩ | refine And.intro ?_ ?_ | ((first | show (_ : Nat) ≤ _ | show (_ : Nat) < _ | show (_ : Int) ≤ _ | show (_ : Int) < _); omega) | (refine wait_draw 1000 mixed (by decide +kernel) ?_; simp (maxSteps := 1000000) -implicitDefEqProofs only [go_sem, ↓reduceIte, reduceCtorEq, Nat.reduceEqDiff, Nat.reduceLT, Nat.reduceAdd, Nat.reduceLeDiff , mdS, wRow, mdRow, rkR, ceN_nil, ceB_nil, ceN_ne hc0, ceB_ne hc0, h1, h2, h3, h4, gx, gy, gS, gR]) | intro _))
        all_goals first
        | (rw [if_pos (show s ≠ 0 from ‹¬ s = 0›), if_pos ‹q = true›]
           refine weak_to [1, 2, 4, 5, 6] [0, 1, 2, 9, 7] ?_ (by decide) (fun i h => by cases h)
           simp (maxSteps := 1000000) -implicitDefEqProofs only [go_sem, ↓reduceIte, reduceCtorEq, Nat.reduceEqDiff, Nat.reduceLT, Nat.reduceAdd, Nat.reduceLeDiff, St.keep, mdS, wRow, mdRow, rkR, ceN_nil, ceB_nil, ceN_ne hc0, ceB_ne hc0, ceN_app, ceB_app, ceN_one, ceB_one, ceL_cons, ceL_nil, hw1, List.nil_append, List.length_append]; done)
        | (rw [if_neg (show ¬ s ≠ 0 from fun h => h ‹s = 0›), if_pos ‹q = true›]
           refine weak_to [1, 2, 4, 5, 6] [0, 1, 2, 3, 7] ?_ (by decide) (fun i h => by cases h)
           simp (maxSteps := 1000000) -implicitDefEqProofs only [go_sem, ↓reduceIte, reduceCtorEq, Nat.reduceEqDiff, Nat.reduceLT, Nat.reduceAdd, Nat.reduceLeDiff, St.keep, mdS, wRow, mdRow, rkR, ceN_nil, ceB_nil, ceN_ne hc0, ceB_ne hc0, ceN_app, ceB_app, ceN_one, ceB_one, ceL_cons, ceL_nil, hw1, List.nil_append, List.length_append]; done)
        | (rw [if_pos (show s ≠ 0 from ‹¬ s = 0›), if_neg (show ¬ q = true from fun h => by simp_all)]
           refine weak_to [1, 2, 4, 5, 6] [0, 1, 2, 7, 101] ?_ (by decide) (fun i h => by cases h)
           simp (maxSteps := 1000000) -implicitDefEqProofs only [go_sem, ↓reduceIte, reduceCtorEq, Nat.reduceEqDiff, Nat.reduceLT, Nat.reduceAdd, Nat.reduceLeDiff, St.keep, mdS, wRow, mdRow, rkR, ceN_nil, ceB_nil, ceN_ne hc0, ceB_ne hc0, ceN_app, ceB_app, ceN_one, ceB_one, ceL_cons, ceL_nil, hw1, List.nil_append, List.length_append]; done)
        | (rw [if_neg (show ¬ s ≠ 0 from fun h => h ‹s = 0›), if_neg (show ¬ q = true from fun h => by simp_all)]
           refine weak_to [1, 2, 4, 5, 6] [0, 1, 2, 3, 101] ?_ (by decide) (fun i h => by cases h)
           simp (maxSteps := 1000000) -implicitDefEqProofs only [go_sem, ↓reduceIte, reduceCtorEq, Nat.reduceEqDiff, Nat.reduceLT, Nat.reduceAdd, Nat.reduceLeDiff, St.keep, mdS, wRow, mdRow, rkR, ceN_nil, ceB_nil, ceN_ne hc0, ceB_ne hc0, ceN_app, ceB_app, ceN_one, ceB_one, ceL_cons, ceL_nil, hw1, List.nil_append, List.length_append]; done)
      · skip
        simp (maxSteps := 1000000) -implicitDefEqProofs only [go_sem, ↓reduceIte, reduceCtorEq, Nat.reduceEqDiff, Nat.reduceLT, Nat.reduceAdd, Nat.reduceLeDiff, mdS, wRow, mdRow, rkR, ceN_ne hc0, ceB_ne hc0, ceN_ne hr0, ceB_ne hr0, h1, h2, h3, h4, gx, gy, gS, gR]
        (repeat' (first | exact trivial | contradiction | exact ⟨_, rfl⟩ | refine And.intro ?_ ?_ | ((first | show (_ : Nat) ≤ _ | show (_ : Nat) < _ | show (_ : Int) ≤ _ | show (_ : Int) < _); omega) | (refine wait_draw 1000 mixed (by decide +kernel) ?_; simp (maxSteps := 1000000) -implicitDefEqProofs only [go_sem, ↓reduceIte, reduceCtorEq, Nat.reduceEqDiff, Nat.reduceLT, Nat.reduceAdd, Nat.reduceLeDiff , mdS, wRow, mdRow, rkR, ceN_ne hc0, ceB_ne hc0, ceN_ne hr0, ceB_ne hr0, h1, h2, h3, h4, gx, gy, gS, gR]) | intro _))
        all_goals first
        | (rw [if_pos (show s ≠ 0 from ‹¬ s = 0›), if_pos ‹q = true›]
           refine weak_to [1, 2, 4, 5, 6] [0, 1, 2, 9, 7] ?_ (by decide) (fun i h => by cases h)
           simp (maxSteps := 1000000) -implicitDefEqProofs only [go_sem, ↓reduceIte, reduceCtorEq, Nat.reduceEqDiff, Nat.reduceLT, Nat.reduceAdd, Nat.reduceLeDiff, St.keep, mdS, wRow, mdRow, rkR, ceN_ne hc0, ceB_ne hc0, ceN_ne hr0, ceB_ne hr0, ceN_app, ceB_app, ceN_one, ceB_one, ceL_cons, ceL_nil, hw1, List.nil_append, List.length_append]; done)
        | (rw [if_neg (show ¬ s ≠ 0 from fun h => h ‹s = 0›), if_pos ‹q = true›]
           refine weak_to [1, 2, 4, 5, 6] [0, 1, 2, 3, 7] ?_ (by decide) (fun i h => by cases h)
           simp (maxSteps := 1000000) -implicitDefEqProofs only [go_sem, ↓reduceIte, reduceCtorEq, Nat.reduceEqDiff, Nat.reduceLT, Nat.reduceAdd, Nat.reduceLeDiff, St.keep, mdS, wRow, mdRow, rkR, ceN_ne hc0, ceB_ne hc0, ceN_ne hr0, ceB_ne hr0, ceN_app, ceB_app, ceN_one, ceB_one, ceL_cons, ceL_nil, hw1, List.nil_append, List.length_append]; done)
        | (rw [if_pos (show s ≠ 0 from ‹¬ s = 0›), if_neg (show ¬ q = true from fun h => by simp_all)]
           refine weak_to [1, 2, 4, 5, 6] [0, 1, 2, 7, 4] ?_ (by decide) (fun i h => by cases h)
           simp (maxSteps := 1000000) -implicitDefEqProofs only [go_sem, ↓reduceIte, reduceCtorEq, Nat.reduceEqDiff, Nat.reduceLT, Nat.reduceAdd, Nat.reduceLeDiff, St.keep, mdS, wRow, mdRow, rkR, ceN_ne hc0, ceB_ne hc0, ceN_ne hr0, ceB_ne hr0, ceN_app, ceB_app, ceN_one, ceB_one, ceL_cons, ceL_nil, hw1, List.nil_append, List.length_append]; done)
        | (rw [if_neg (show ¬ s ≠ 0 from fun h => h ‹s = 0›), if_neg (show ¬ q = true from fun h => by simp_all)]
           refine weak_to [1, 2, 4, 5, 6] [0, 1, 2, 3, 4] ?_ (by decide) (fun i h => by cases h)
           simp (maxSteps := 1000000) -implicitDefEqProofs only [go_sem, ↓reduceIte, reduceCtorEq, Nat.reduceEqDiff, Nat.reduceLT, Nat.reduceAdd, Nat.reduceLeDiff, St.keep, mdS, wRow, mdRow, rkR, ceN_ne hc0, ceB_ne hc0, ceN_ne hr0, ceB_ne hr0, ceN_app, ceB_app, ceN_one, ceB_one, ceL_cons, ceL_nil, hw1, List.nil_append, List.length_append]; done)
  · obtain rfl : k = w.K.length := by omega
    refine TriT.weak (md_weak w T cp w.K.length _ _) trivial (run_sound 1000 _ _ ?_)
    have hA := rsortedZ (cellsK w.K w.S w.K.length) (cellsK_nodup hnd _) (by omega)
    have hB := rsortedZ (roadK w.K w.R w.K.length) (roadK_nodup hnd _) (by omega)
    have n1 : ((w.K.length : Int) < (w.K.length : Int)) = False := eq_false (by omega)
    have n2 : (0 ≤ w.here) = True := eq_true hh.1
    have n3 : (w.here < (w.K.length : Int)) = True := eq_true hh.2
    have n4 : (w.here.toNat < w.K.length) = True := eq_true (by omega)
    obtain ⟨x, y, hxy⟩ : ∃ x y, hereP w = (x, y) := ⟨_, _, rfl⟩
    have hq : w.K.getD w.here.toNat (0, 0) = (x, y) := hxy
    have gx := getD_iA (w.K.map Prod.fst) w.here.toNat (by simp; omega)
    have gy := getD_iA (w.K.map Prod.snd) w.here.toNat (by simp; omega)
    rw [show (w.K.map Prod.fst).getD w.here.toNat 0 = x by
      have := congrArg Prod.fst hq
      rw [List.getD_eq_getElem?_getD, List.getElem?_eq_getElem (by omega)] at this
      simpa [List.getD_eq_getElem?_getD, List.getElem?_eq_getElem (show w.here.toNat < w.K.length by omega)] using this] at gx
    rw [show (w.K.map Prod.snd).getD w.here.toNat 0 = y by
      have := congrArg Prod.snd hq
      rw [List.getD_eq_getElem?_getD, List.getElem?_eq_getElem (by omega)] at this
      simpa [List.getD_eq_getElem?_getD, List.getElem?_eq_getElem (show w.here.toNat < w.K.length by omega)] using this] at gy
    simp only [iA] at gx gy
    unfold refMd
    rw [hxy]
    generalize cellsK w.K w.S w.K.length = C at hA hcl ⊢
    generalize roadK w.K w.R w.K.length = Rd at hB hrl ⊢
    cases cp
    all_goals
      by_cases hc0 : C = []
      · subst hc0
        by_cases hr0 : Rd = []
        · subst hr0
          simp only [ceZ_nil] at hA hB
          simp (maxSteps := 1000000) -implicitDefEqProofs only [go_sem, ↓reduceIte, reduceCtorEq, Nat.reduceEqDiff, Nat.reduceLT, Nat.reduceAdd, Nat.reduceLeDiff, mdX, wRow, mdRow, rkR, ceZ_nil, n1]
          (repeat' (first | exact trivial | contradiction | exact ⟨_, rfl⟩ | refine And.intro ?_ ?_ | ((first | show (_ : Nat) ≤ _ | show (_ : Nat) < _ | show (_ : Int) ≤ _ | show (_ : Int) < _); omega) | (refine wait_draw 1000 mixed (by decide +kernel) ?_; simp (maxSteps := 1000000) -implicitDefEqProofs only [go_sem, ↓reduceIte, reduceCtorEq, Nat.reduceEqDiff, Nat.reduceLT, Nat.reduceAdd, Nat.reduceLeDiff, mdX, wRow, mdRow, rkR, ceZ_nil, n1, n2, n3, n4, gx, gy]) | (refine call_eq 1000 (hA) ?_ ?_ rfl; (focus (simp (maxSteps := 1000000) -implicitDefEqProofs only [go_sem, ↓reduceIte, reduceCtorEq, Nat.reduceEqDiff, Nat.reduceLT, Nat.reduceAdd, Nat.reduceLeDiff, mdX, wRow, mdRow, rkR, ceZ_nil, n1, n2, n3, n4, gx, gy]; done)); simp (maxSteps := 1000000) -implicitDefEqProofs only [go_sem, ↓reduceIte, reduceCtorEq, Nat.reduceEqDiff, Nat.reduceLT, Nat.reduceAdd, Nat.reduceLeDiff, mdX, wRow, mdRow, rkR, ceZ_nil, n1, n2, n3, n4, gx, gy]) | (refine call_draw 1000 (hA) ?_ ?_; (focus (simp (maxSteps := 1000000) -implicitDefEqProofs only [go_sem, ↓reduceIte, reduceCtorEq, Nat.reduceEqDiff, Nat.reduceLT, Nat.reduceAdd, Nat.reduceLeDiff, mdX, wRow, mdRow, rkR, ceZ_nil, n1, n2, n3, n4, gx, gy]; done)); simp (maxSteps := 1000000) -implicitDefEqProofs only [go_sem, ↓reduceIte, reduceCtorEq, Nat.reduceEqDiff, Nat.reduceLT, Nat.reduceAdd, Nat.reduceLeDiff, mdX, wRow, mdRow, rkR, ceZ_nil, n1, n2, n3, n4, gx, gy]) | (refine call_eq 1000 (hB) ?_ ?_ rfl; (focus (simp (maxSteps := 1000000) -implicitDefEqProofs only [go_sem, ↓reduceIte, reduceCtorEq, Nat.reduceEqDiff, Nat.reduceLT, Nat.reduceAdd, Nat.reduceLeDiff, mdX, wRow, mdRow, rkR, ceZ_nil, n1, n2, n3, n4, gx, gy]; done)); simp (maxSteps := 1000000) -implicitDefEqProofs only [go_sem, ↓reduceIte, reduceCtorEq, Nat.reduceEqDiff, Nat.reduceLT, Nat.reduceAdd, Nat.reduceLeDiff, mdX, wRow, mdRow, rkR, ceZ_nil, n1, n2, n3, n4, gx, gy]) | (refine call_draw 1000 (hB) ?_ ?_; (focus (simp (maxSteps := 1000000) -implicitDefEqProofs only [go_sem, ↓reduceIte, reduceCtorEq, Nat.reduceEqDiff, Nat.reduceLT, Nat.reduceAdd, Nat.reduceLeDiff, mdX, wRow, mdRow, rkR, ceZ_nil, n1, n2, n3, n4, gx, gy]; done)); simp (maxSteps := 1000000) -implicitDefEqProofs only [go_sem, ↓reduceIte, reduceCtorEq, Nat.reduceEqDiff, Nat.reduceLT, Nat.reduceAdd, Nat.reduceLeDiff, mdX, wRow, mdRow, rkR, ceZ_nil, n1, n2, n3, n4, gx, gy]) | intro _))
          all_goals rfl
        · skip
          simp only [ceZ_nil, ceZ_ne hr0] at hA hB
          simp (maxSteps := 1000000) -implicitDefEqProofs only [go_sem, ↓reduceIte, reduceCtorEq, Nat.reduceEqDiff, Nat.reduceLT, Nat.reduceAdd, Nat.reduceLeDiff, mdX, wRow, mdRow, rkR, ceZ_nil, ceZ_ne hr0, n1]
          (repeat' (first | exact trivial | contradiction | exact ⟨_, rfl⟩ | refine And.intro ?_ ?_ | ((first | show (_ : Nat) ≤ _ | show (_ : Nat) < _ | show (_ : Int) ≤ _ | show (_ : Int) < _); omega) | (refine wait_draw 1000 mixed (by decide +kernel) ?_; simp (maxSteps := 1000000) -implicitDefEqProofs only [go_sem, ↓reduceIte, reduceCtorEq, Nat.reduceEqDiff, Nat.reduceLT, Nat.reduceAdd, Nat.reduceLeDiff, mdX, wRow, mdRow, rkR, ceZ_nil, ceZ_ne hr0, n1, n2, n3, n4, gx, gy]) | (refine call_eq 1000 (hA) ?_ ?_ rfl; (focus (simp (maxSteps := 1000000) -implicitDefEqProofs only [go_sem, ↓reduceIte, reduceCtorEq, Nat.reduceEqDiff, Nat.reduceLT, Nat.reduceAdd, Nat.reduceLeDiff, mdX, wRow, mdRow, rkR, ceZ_nil, ceZ_ne hr0, n1, n2, n3, n4, gx, gy]; done)); simp (maxSteps := 1000000) -implicitDefEqProofs only [go_sem, ↓reduceIte, reduceCtorEq, Nat.reduceEqDiff, Nat.reduceLT, Nat.reduceAdd, Nat.reduceLeDiff, mdX, wRow, mdRow, rkR, ceZ_nil, ceZ_ne hr0, n1, n2, n3, n4, gx, gy]) | (refine call_draw 1000 (hA) ?_ ?_; (focus (simp (maxSteps := 1000000) -implicitDefEqProofs only [go_sem, ↓reduceIte, reduceCtorEq, Nat.reduceEqDiff, Nat.reduceLT, Nat.reduceAdd, Nat.reduceLeDiff, mdX, wRow, mdRow, rkR, ceZ_nil, ceZ_ne hr0, n1, n2, n3, n4, gx, gy]; done)); simp (maxSteps := 1000000) -implicitDefEqProofs only [go_sem, ↓reduceIte, reduceCtorEq, Nat.reduceEqDiff, Nat.reduceLT, Nat.reduceAdd, Nat.reduceLeDiff, mdX, wRow, mdRow, rkR, ceZ_nil, ceZ_ne hr0, n1, n2, n3, n4, gx, gy]) | (refine call_eq 1000 (hB) ?_ ?_ rfl; (focus (simp (maxSteps := 1000000) -implicitDefEqProofs only [go_sem, ↓reduceIte, reduceCtorEq, Nat.reduceEqDiff, Nat.reduceLT, Nat.reduceAdd, Nat.reduceLeDiff, mdX, wRow, mdRow, rkR, ceZ_nil, ceZ_ne hr0, n1, n2, n3, n4, gx, gy]; done)); simp (maxSteps := 1000000) -implicitDefEqProofs only [go_sem, ↓reduceIte, reduceCtorEq, Nat.reduceEqDiff, Nat.reduceLT, Nat.reduceAdd, Nat.reduceLeDiff, mdX, wRow, mdRow, rkR, ceZ_nil, ceZ_ne hr0, n1, n2, n3, n4, gx, gy]) | (refine call_draw 1000 (hB) ?_ ?_; (focus (simp (maxSteps := 1000000) -implicitDefEqProofs only [go_sem, ↓reduceIte, reduceCtorEq, Nat.reduceEqDiff, Nat.reduceLT, Nat.reduceAdd, Nat.reduceLeDiff, mdX, wRow, mdRow, rkR, ceZ_nil, ceZ_ne hr0, n1, n2, n3, n4, gx, gy]; done)); simp (maxSteps := 1000000) -implicitDefEqProofs only [go_sem, ↓reduceIte, reduceCtorEq, Nat.reduceEqDiff, Nat.reduceLT, Nat.reduceAdd, Nat.reduceLeDiff, mdX, wRow, mdRow, rkR, ceZ_nil, ceZ_ne hr0, n1, n2, n3, n4, gx, gy]) | intro _))
          all_goals rfl
      · skip
        by_cases hr0 : Rd = []
        · subst hr0
          simp only [ceZ_nil, ceZ_ne hc0] at hA hB
          simp (maxSteps := 1000000) -implicitDefEqProofs only [go_sem, ↓reduceIte, reduceCtorEq, Nat.reduceEqDiff, Nat.reduceLT, Nat.reduceAdd, Nat.reduceLeDiff, mdX, wRow, mdRow, rkR, ceZ_nil, ceZ_ne hc0, n1]
          (repeat' (first | exact trivial | contradiction | exact ⟨_, rfl⟩ | refine And.intro ?_ ?_ | ((first | show (_ : Nat) ≤ _ | show (_ : Nat) < _ | show (_ : Int) ≤ _ | show (_ : Int) < _); omega) | (refine wait_draw 1000 mixed (by decide +kernel) ?_; simp (maxSteps := 1000000) -implicitDefEqProofs only [go_sem, ↓reduceIte, reduceCtorEq, Nat.reduceEqDiff, Nat.reduceLT, Nat.reduceAdd, Nat.reduceLeDiff, mdX, wRow, mdRow, rkR, ceZ_nil, ceZ_ne hc0, n1, n2, n3, n4, gx, gy]) | (refine call_eq 1000 (hA) ?_ ?_ rfl; (focus (simp (maxSteps := 1000000) -implicitDefEqProofs only [go_sem, ↓reduceIte, reduceCtorEq, Nat.reduceEqDiff, Nat.reduceLT, Nat.reduceAdd, Nat.reduceLeDiff, mdX, wRow, mdRow, rkR, ceZ_nil, ceZ_ne hc0, n1, n2, n3, n4, gx, gy]; done)); simp (maxSteps := 1000000) -implicitDefEqProofs only [go_sem, ↓reduceIte, reduceCtorEq, Nat.reduceEqDiff, Nat.reduceLT, Nat.reduceAdd, Nat.reduceLeDiff, mdX, wRow, mdRow, rkR, ceZ_nil, ceZ_ne hc0, n1, n2, n3, n4, gx, gy]) | (refine call_draw 1000 (hA) ?_ ?_; (focus (simp (maxSteps := 1000000) -implicitDefEqProofs only [go_sem, ↓reduceIte, reduceCtorEq, Nat.reduceEqDiff, Nat.reduceLT, Nat.reduceAdd, Nat.reduceLeDiff, mdX, wRow, mdRow, rkR, ceZ_nil, ceZ_ne hc0, n1, n2, n3, n4, gx, gy]; done)); simp (maxSteps := 1000000) -implicitDefEqProofs only [go_sem, ↓reduceIte, reduceCtorEq, Nat.reduceEqDiff, Nat.reduceLT, Nat.reduceAdd, Nat.reduceLeDiff, mdX, wRow, mdRow, rkR, ceZ_nil, ceZ_ne hc0, n1, n2, n3, n4, gx, gy]) | (refine call_eq 1000 (hB) ?_ ?_ rfl; (focus (simp (maxSteps := 1000000) -implicitDefEqProofs only [go_sem, ↓reduceIte, reduceCtorEq, Nat.reduceEqDiff, Nat.reduceLT, Nat.reduceAdd, Nat.reduceLeDiff, mdX, wRow, mdRow, rkR, ceZ_nil, ceZ_ne hc0, n1, n2, n3, n4, gx, gy]; done)); simp (maxSteps := 1000000) -implicitDefEqProofs only [go_sem, ↓reduceIte, reduceCtorEq, Nat.reduceEqDiff, Nat.reduceLT, Nat.reduceAdd, Nat.reduceLeDiff, mdX, wRow, mdRow, rkR, ceZ_nil, ceZ_ne hc0, n1, n2, n3, n4, gx, gy]) | (refine call_draw 1000 (hB) ?_ ?_; (focus (simp (maxSteps := 1000000) -implicitDefEqProofs only [go_sem, ↓reduceIte, reduceCtorEq, Nat.reduceEqDiff, Nat.reduceLT, Nat.reduceAdd, Nat.reduceLeDiff, mdX, wRow, mdRow, rkR, ceZ_nil, ceZ_ne hc0, n1, n2, n3, n4, gx, gy]; done)); simp (maxSteps := 1000000) -implicitDefEqProofs only [go_sem, ↓reduceIte, reduceCtorEq, Nat.reduceEqDiff, Nat.reduceLT, Nat.reduceAdd, Nat.reduceLeDiff, mdX, wRow, mdRow, rkR, ceZ_nil, ceZ_ne hc0, n1, n2, n3, n4, gx, gy]) | intro _))
          all_goals rfl
        · skip
          simp only [ceZ_ne hc0, ceZ_ne hr0] at hA hB
          simp (maxSteps := 1000000) -implicitDefEqProofs only [go_sem, ↓reduceIte, reduceCtorEq, Nat.reduceEqDiff, Nat.reduceLT, Nat.reduceAdd, Nat.reduceLeDiff, mdX, wRow, mdRow, rkR, ceZ_ne hc0, ceZ_ne hr0, n1]
          (repeat' (first | exact trivial | contradiction | exact ⟨_, rfl⟩ | refine And.intro ?_ ?_ | ((first | show (_ : Nat) ≤ _ | show (_ : Nat) < _ | show (_ : Int) ≤ _ | show (_ : Int) < _); omega) | (refine wait_draw 1000 mixed (by decide +kernel) ?_; simp (maxSteps := 1000000) -implicitDefEqProofs only [go_sem, ↓reduceIte, reduceCtorEq, Nat.reduceEqDiff, Nat.reduceLT, Nat.reduceAdd, Nat.reduceLeDiff, mdX, wRow, mdRow, rkR, ceZ_ne hc0, ceZ_ne hr0, n1, n2, n3, n4, gx, gy]) | (refine call_eq 1000 (hA) ?_ ?_ rfl; (focus (simp (maxSteps := 1000000) -implicitDefEqProofs only [go_sem, ↓reduceIte, reduceCtorEq, Nat.reduceEqDiff, Nat.reduceLT, Nat.reduceAdd, Nat.reduceLeDiff, mdX, wRow, mdRow, rkR, ceZ_ne hc0, ceZ_ne hr0, n1, n2, n3, n4, gx, gy]; done)); simp (maxSteps := 1000000) -implicitDefEqProofs only [go_sem, ↓reduceIte, reduceCtorEq, Nat.reduceEqDiff, Nat.reduceLT, Nat.reduceAdd, Nat.reduceLeDiff, mdX, wRow, mdRow, rkR, ceZ_ne hc0, ceZ_ne hr0, n1, n2, n3, n4, gx, gy]) | (refine call_draw 1000 (hA) ?_ ?_; (focus (simp (maxSteps := 1000000) -implicitDefEqProofs only [go_sem, ↓reduceIte, reduceCtorEq, Nat.reduceEqDiff, Nat.reduceLT, Nat.reduceAdd, Nat.reduceLeDiff, mdX, wRow, mdRow, rkR, ceZ_ne hc0, ceZ_ne hr0, n1, n2, n3, n4, gx, gy]; done)); simp (maxSteps := 1000000) -implicitDefEqProofs only [go_sem, ↓reduceIte, reduceCtorEq, Nat.reduceEqDiff, Nat.reduceLT, Nat.reduceAdd, Nat.reduceLeDiff, mdX, wRow, mdRow, rkR, ceZ_ne hc0, ceZ_ne hr0, n1, n2, n3, n4, gx, gy]) | (refine call_eq 1000 (hB) ?_ ?_ rfl; (focus (simp (maxSteps := 1000000) -implicitDefEqProofs only [go_sem, ↓reduceIte, reduceCtorEq, Nat.reduceEqDiff, Nat.reduceLT, Nat.reduceAdd, Nat.reduceLeDiff, mdX, wRow, mdRow, rkR, ceZ_ne hc0, ceZ_ne hr0, n1, n2, n3, n4, gx, gy]; done)); simp (maxSteps := 1000000) -implicitDefEqProofs only [go_sem, ↓reduceIte, reduceCtorEq, Nat.reduceEqDiff, Nat.reduceLT, Nat.reduceAdd, Nat.reduceLeDiff, mdX, wRow, mdRow, rkR, ceZ_ne hc0, ceZ_ne hr0, n1, n2, n3, n4, gx, gy]) | (refine call_draw 1000 (hB) ?_ ?_; (focus (simp (maxSteps := 1000000) -implicitDefEqProofs only [go_sem, ↓reduceIte, reduceCtorEq, Nat.reduceEqDiff, Nat.reduceLT, Nat.reduceAdd, Nat.reduceLeDiff, mdX, wRow, mdRow, rkR, ceZ_ne hc0, ceZ_ne hr0, n1, n2, n3, n4, gx, gy]; done)); simp (maxSteps := 1000000) -implicitDefEqProofs only [go_sem, ↓reduceIte, reduceCtorEq, Nat.reduceEqDiff, Nat.reduceLT, Nat.reduceAdd, Nat.reduceLeDiff, mdX, wRow, mdRow, rkR, ceZ_ne hc0, ceZ_ne hr0, n1, n2, n3, n4, gx, gy]) | intro _))
          all_goals rfl
end Go.Proofs.Ytiipggfhjkalfaa
