import Derived.Test.YtiipggfhjkalfaaProg
import Derived.Test.YtiipggfhjkalfaaPmU
import Derived.Test.YtiipggfhjkalfaaBdR
/- The road, moved: the program's way. -/
set_option linter.unusedSimpArgs false
set_option linter.unusedVariables false
set_option maxRecDepth 20000
open Go Go.Proofs
namespace Go.Proofs.Ytiipggfhjkalfaa
open Pm
attribute [local irreducible] Wait CallT CallW NextT Le Weak
def shB (dx : Int) (c : Pl × Bool) : Ce := ((c.1.1 + dx, c.1.2), 0)
theorem shB_nodup (dx : Int) {l : List (Pl × Bool)} (h : (l.map Prod.fst).Nodup) : ((l.map (shB dx)).map Prod.fst).Nodup := by
  rw [List.map_map]
  have e : (Prod.fst ∘ shB dx) = fun c : Pl × Bool => (fun p : Pl => (p.1 + dx, p.2)) c.1 := rfl
  rw [e, show (l.map fun c : Pl × Bool => (fun p : Pl => (p.1 + dx, p.2)) c.1) = (l.map Prod.fst).map (fun p : Pl => (p.1 + dx, p.2)) by rw [List.map_map]; rfl]
  rw [List.nodup_iff_pairwise_ne, List.pairwise_map]
  refine List.Pairwise.imp ?_ (List.nodup_iff_pairwise_ne.1 h)
  rintro ⟨a, b⟩ ⟨c, d⟩ hne e
  simp only [Prod.mk.injEq] at e
  exact hne (by rw [show a = c by omega, e.2])
def mvS (dx : Int) (p : List (Pl × Bool) × List Ce) : St := ⟨24, 0, [(1, .v (.int .i64 dx)), (5, .map 0), (9, .ptr 1 0 0 0)], [some (.mp (mE iA p.2)), some (.it [] (mK p.1) (mV bA p.1))]⟩
theorem moved_pc (rd : List (Pl × Bool)) (dx : Int) (hdx : 0 ≤ dx ∧ dx ≤ 4096) (hrn : (rd.map Prod.fst).Nodup) (hrl : rd.length < 1000000000) (hrf : ∀ c ∈ rd, near c.1) : PCon Try.prog 64 [.fmap (mK rd) (mV bA rd), .v (.int .i64 dx)] (· = .fsl 3 (ceL (sortC (rd.map (shB dx))))) := by
  refine pcon_run 1000 Try.func64 rfl Try.results64 Try.ntmps64 (Nat.le_of_ble_eq_true rfl) ?_
  have hbn := shB_nodup dx hrn
  simp (maxSteps := 1000000) -implicitDefEqProofs only [go_sem, ↓reduceIte, reduceCtorEq, Nat.reduceEqDiff, Nat.reduceLT, Nat.reduceAdd, Nat.reduceLeDiff]
  (repeat' (first | exact trivial | contradiction | exact ⟨_, rfl⟩ | refine And.intro ?_ ?_ | ((first | show (_ : Nat) ≤ _ | show (_ : Nat) < _ | show (_ : Int) ≤ _ | show (_ : Int) < _); omega) | (refine wait_draw 1000 mixed (by decide +kernel) ?_; simp (maxSteps := 1000000) -implicitDefEqProofs only [go_sem, ↓reduceIte, reduceCtorEq, Nat.reduceEqDiff, Nat.reduceLT, Nat.reduceAdd, Nat.reduceLeDiff]) | intro _))
  refine wait_data (mvS dx) (fun p => (p.1.map (shB dx) ++ p.2).Perm (rd.map (shB dx))) (fun p => p.1.length) (rd, []) (weak_to [1, 5, 9] [0, 1] ?_ (by simp) (fun i h => by cases h)) (by simp) ?_
  · simp (maxSteps := 1000000) -implicitDefEqProofs only [go_sem, ↓reduceIte, reduceCtorEq, Nat.reduceEqDiff, Nat.reduceLT, Nat.reduceAdd, Nat.reduceLeDiff, St.keep, mvS]
    rfl
  rintro ⟨L, M⟩ hp
  simp only at hp
  refine run_sound 1000 _ _ ?_
  unfold mvS
  simp (maxSteps := 1000000) -implicitDefEqProofs only [go_sem, ↓reduceIte, reduceCtorEq, Nat.reduceEqDiff, Nat.reduceLT, Nat.reduceAdd, Nat.reduceLeDiff]
  refine next_t 0 (id := 1) rfl rfl (fun h0 => ?_) (fun q hq => ?_)
  · have hL : L = [] := by cases L with | nil => rfl | cons a b => simp [mK] at h0
    subst hL
    have hMp : M.Perm (rd.map (shB dx)) := by simpa using hp
    have hMl : M.length < 1000000000000 := by have := hMp.length_eq; rw [List.length_map] at this; omega
    have hMb : ∀ c ∈ M, far c := fun c hc => by
      obtain ⟨d, hd, rfl⟩ := List.mem_map.1 (hMp.mem_iff.1 hc)
      have := hrf d hd; unfold near at this; unfold far shB; simp only; omega
    have hMn : (M.map Prod.fst).Nodup := (hMp.map _).nodup_iff.2 hbn
    have hsp := sorted_pc M hMb hMn hMl
    rw [sortC_congr hMp hbn] at hsp
    refine run_weak 1000 (weak_frzB 0 rfl rfl (fun f => by simp (maxSteps := 1000000) -implicitDefEqProofs only [go_sem, ↓reduceIte, reduceCtorEq, Nat.reduceEqDiff, Nat.reduceLT, Nat.reduceAdd, Nat.reduceLeDiff]) rfl) ?_
    simp (maxSteps := 1000000) -implicitDefEqProofs only [go_sem, ↓reduceIte, reduceCtorEq, Nat.reduceEqDiff, Nat.reduceLT, Nat.reduceAdd, Nat.reduceLeDiff]
    (repeat' (first | exact trivial | contradiction | exact ⟨_, rfl⟩ | refine And.intro ?_ ?_ | ((first | show (_ : Nat) ≤ _ | show (_ : Nat) < _ | show (_ : Int) ≤ _ | show (_ : Int) < _); omega) | (refine wait_draw 1000 mixed (by decide +kernel) ?_; simp (maxSteps := 1000000) -implicitDefEqProofs only [go_sem, ↓reduceIte, reduceCtorEq, Nat.reduceEqDiff, Nat.reduceLT, Nat.reduceAdd, Nat.reduceLeDiff]) | ((first | refine call_eq 1000 (hsp) ?_ ?_ rfl | refine call_draw 1000 (hsp) ?_ ?_); (focus (simp (maxSteps := 1000000) -implicitDefEqProofs only [go_sem, ↓reduceIte, reduceCtorEq, Nat.reduceEqDiff, Nat.reduceLT, Nat.reduceAdd, Nat.reduceLeDiff]; done)); simp (maxSteps := 1000000) -implicitDefEqProofs only [go_sem, ↓reduceIte, reduceCtorEq, Nat.reduceEqDiff, Nat.reduceLT, Nat.reduceAdd, Nat.reduceLeDiff]) | intro _))
  · rw [mK_len] at hq
    have gk := mK_get L q hq
    have gv := mV_get bA L q hq
    have hpe := perm_erase L q hq
    have hmem : L.getD q default ∈ L := by rw [List.getD_eq_getElem?_getD, List.getElem?_eq_getElem hq]; exact List.getElem_mem hq
    have hnr : near (L.getD q default).1 := by
      have h1 : shB dx (L.getD q default) ∈ rd.map (shB dx) := hp.mem_iff.1 (List.mem_append_left _ (List.mem_map_of_mem hmem))
      obtain ⟨d, hd, e⟩ := List.mem_map.1 h1
      have := hrf d hd
      unfold shB at e
      simp only [Prod.mk.injEq] at e
      unfold near at this ⊢
      omega
    generalize L.getD q default = e at gk gv hpe hnr
    obtain ⟨⟨x, y⟩, s⟩ := e
    simp only [kA] at gk
    simp only [bA] at gv
    have ex : IntKind.i64.wrap (x + dx) = x + dx := by unfold near at hnr; simp only at hnr; exact wrap64 (by omega) (by omega)
    have hlen2 := hpe.length_eq
    rw [List.length_cons] at hlen2
    have hpe2 : ((L.eraseIdx q).map (shB dx) ++ (M ++ [((x + dx, y), 0)])).Perm (rd.map (shB dx)) := by
      rw [← List.append_assoc]
      exact ((List.perm_append_singleton _ _).trans (List.Perm.append_right M (hpe.map (shB dx)))).trans hp
    have hnew : (x + dx, y) ∉ M.map Prod.fst := by
      have h1 : (((L.eraseIdx q).map (shB dx) ++ (M ++ [((x + dx, y), (0 : Int))])).map Prod.fst).Nodup := (hpe2.map _).nodup_iff.2 hbn
      rw [List.map_append, List.map_append] at h1
      have := (List.nodup_append.1 (List.nodup_append.1 h1).2.1).2.2
      intro h
      exact this _ h _ (by simp) rfl
    refine run_again 1000 ?_
    simp (maxSteps := 1000000) -implicitDefEqProofs only [go_sem, ↓reduceIte, reduceCtorEq, Nat.reduceEqDiff, Nat.reduceLT, Nat.reduceAdd, Nat.reduceLeDiff, gk, gv, mget_pl, ex]
    (repeat' (first | exact trivial | contradiction | exact ⟨_, rfl⟩ | refine And.intro ?_ ?_ | ((first | show (_ : Nat) ≤ _ | show (_ : Nat) < _ | show (_ : Int) ≤ _ | show (_ : Int) < _); omega) | (refine wait_draw 1000 mixed (by decide +kernel) ?_; simp (maxSteps := 1000000) -implicitDefEqProofs only [go_sem, ↓reduceIte, reduceCtorEq, Nat.reduceEqDiff, Nat.reduceLT, Nat.reduceAdd, Nat.reduceLeDiff , mget_pl, ex]) | intro _))
    refine ⟨(L.eraseIdx q, aput (x + dx, y) 0 M), ?_, ?_, ?_⟩
    · show (L.eraseIdx q).length < L.length; omega
    · show ((L.eraseIdx q).map (shB dx) ++ aput (x + dx, y) 0 M).Perm (rd.map (shB dx))
      rw [aput_new hnew]; exact hpe2
    · refine (weak_it 1 rfl).trans (weak_to [1, 5, 9] [0, 1] ?_ (by simp) (fun i h => by cases h))
      simp (maxSteps := 1000000) -implicitDefEqProofs only [go_sem, ↓reduceIte, reduceCtorEq, Nat.reduceEqDiff, Nat.reduceLT, Nat.reduceAdd, Nat.reduceLeDiff, St.keep, mvS]
end Go.Proofs.Ytiipggfhjkalfaa
/- The road: the program's way. -/
set_option linter.unusedSimpArgs false
set_option linter.unusedVariables false
set_option maxRecDepth 20000
open Go Go.Proofs
namespace Go.Proofs.Ytiipggfhjkalfaa
open Pm
attribute [local irreducible] Wait CallT CallW NextT Le Weak
def roadE (t : List Int) : List Ce × Int := if tellE t = 0 then (sortC ((progWalk t).2.road.map (shB (((t.length + 3 - 1) / 2 : Nat) : Int))), 0) else ([], tellE t)
theorem road_pc (t : List Int) (hm : t.length < 9223372036854775808) : PCon Try.prog 29 [tA t] (· = .tup [.fsl 3 (ceL (roadE t).1), .v (.int .i64 (roadE t).2)]) := by
  refine PCon.upto (pcon_run 1000 Try.func29 rfl Try.results29 Try.ntmps29 (Nat.le_of_ble_eq_true rfl) ?_)
  obtain ⟨N, hN⟩ : ∃ N : Int, N = ((2 * (t.length + 3) : Nat) : Int) := ⟨_, rfl⟩
  have tp := tell_pc t N (by omega) hm
  simp (maxSteps := 1000000) -implicitDefEqProofs only [go_sem, ↓reduceIte, reduceCtorEq, Nat.reduceEqDiff, Nat.reduceLT, Nat.reduceAdd, Nat.reduceLeDiff, tA]
  refine call_pure 0 tp ?_ rfl ?_
  · simp (maxSteps := 1000000) -implicitDefEqProofs only [go_sem, ↓reduceIte, reduceCtorEq, Nat.reduceEqDiff, Nat.reduceLT, Nat.reduceAdd, Nat.reduceLeDiff, tA]
  rintro r (⟨he, rfl⟩ | ⟨he, rfl⟩)
  · have hpm : roadE t = ([], tellE t) := by unfold roadE; rw [if_neg he]
    have hf : (tellE t = 0) = False := eq_false he
    rw [hpm]
    refine run_again 1000 ?_
    simp (maxSteps := 1000000) -implicitDefEqProofs only [go_sem, ↓reduceIte, reduceCtorEq, Nat.reduceEqDiff, Nat.reduceLT, Nat.reduceAdd, Nat.reduceLeDiff, ab0, tA, hf]
    exact Le.tup (.cons (Le.nil 3) (LeL.refl _))
  · have hpm : roadE t = (sortC ((progWalk t).2.road.map (shB (((t.length + 3 - 1) / 2 : Nat) : Int))), 0) := by unfold roadE; rw [if_pos he]
    obtain ⟨_, h2, h3, h4⟩ := tell_ok he
    obtain ⟨w, hw⟩ : ∃ w, w = (progWalk t).2 := ⟨_, rfl⟩
    obtain ⟨hM, _, _, _⟩ := progWalk_inv (show progWalk t = (0, w) by rw [hw, ← h3])
    rw [← hw, hpm, ← hw]
    have rt := root_pc (t.length + 3) (by omega) (by omega)
    obtain ⟨a, ha⟩ : ∃ a, a = (t.length + 3 - 1) / 2 := ⟨_, rfl⟩
    have mp := moved_pc w.road ((a : Nat) : Int) (by omega) hM.rn (by have := hM.rl; omega) hM.rf
    rw [← ha] at rt ⊢
    simp only [rgA, ← hN] at rt
    generalize sortC (w.road.map (shB (a : Int))) = L at mp ⊢
    refine run_again 1000 ?_
    simp (maxSteps := 1000000) -implicitDefEqProofs only [go_sem, ↓reduceIte, reduceCtorEq, Nat.reduceEqDiff, Nat.reduceLT, Nat.reduceAdd, Nat.reduceLeDiff, abA_eq, abC, tA, wkC]
    (repeat' (first | exact trivial | contradiction | exact ⟨_, rfl⟩ | refine And.intro ?_ ?_ | ((first | show (_ : Nat) ≤ _ | show (_ : Nat) < _ | show (_ : Int) ≤ _ | show (_ : Int) < _); omega) | (refine wait_draw 1000 mixed (by decide +kernel) ?_; simp (maxSteps := 1000000) -implicitDefEqProofs only [go_sem, ↓reduceIte, reduceCtorEq, Nat.reduceEqDiff, Nat.reduceLT, Nat.reduceAdd, Nat.reduceLeDiff, tA, wkC]) | ((first | refine call_eq 1000 (rt) ?_ ?_ rfl | refine call_draw 1000 (rt) ?_ ?_ | refine call_eq 1000 (mp) ?_ ?_ rfl | refine call_draw 1000 (mp) ?_ ?_); (focus (simp (maxSteps := 1000000) -implicitDefEqProofs only [go_sem, ↓reduceIte, reduceCtorEq, Nat.reduceEqDiff, Nat.reduceLT, Nat.reduceAdd, Nat.reduceLeDiff, tA, wkC]; done)); simp (maxSteps := 1000000) -implicitDefEqProofs only [go_sem, ↓reduceIte, reduceCtorEq, Nat.reduceEqDiff, Nat.reduceLT, Nat.reduceAdd, Nat.reduceLeDiff, tA, wkC]) | intro _))
    all_goals exact Le.refl _
end Go.Proofs.Ytiipggfhjkalfaa
/- Cells moved: the document's way. -/
set_option linter.unusedSimpArgs false
set_option linter.unusedVariables false
set_option maxRecDepth 20000
open Go Go.Proofs
namespace Go.Proofs.Ytiipggfhjkalfaa
open Pm
attribute [local irreducible] Wait CallT CallW NextT Le Weak
def shC (dx dy : Int) (c : Ce) : Ce := ((c.1.1 + dx, c.1.2 + dy), c.2)
def rvN (l : List Ce) (dx dy : Int) : St := ⟨39, 0, [(0, .fsl 3 (ceL l)), (1, .v (.int .i64 dx)), (2, .v (.int .i64 dy)), (7, .v (.slice none 0 0)), (8, .v (.int .i64 0))], []⟩
def rvC (l : List Ce) (dx dy : Int) (k : Nat) (o : List Ce) : St := ⟨39, 0, [(0, .fsl 3 (ceL l)), (1, .v (.int .i64 dx)), (2, .v (.int .i64 dy)), (7, .sl 0 3 0 o.length), (8, .v (.int .i64 (k : Int)))], [some (.row 33 3 (ceL o))]⟩
def rvS (l : List Ce) (dx dy : Int) (k : Nat) : St := if k = 0 then rvN l dx dy else rvC l dx dy k ((l.take k).map (shC dx dy))
theorem ceL_getD (l : List Ce) (k : Nat) (h : k < l.length) : (ceL l).getD k .junk = .agg [.v (.int .i64 (l.getD k ((0, 0), 0)).1.1), .v (.int .i64 (l.getD k ((0, 0), 0)).1.2), .v (.int .i64 (l.getD k ((0, 0), 0)).2)] := by simp [ceL, ceA, List.getD_eq_getElem?_getD, h]
theorem rmoved_con (l : List Ce) (dx dy : Int) (hl : l.length < 1000000000000) (hne : l ≠ []) (hb : ∀ c ∈ l, IntKind.i64.wrap (c.1.1 + dx) = c.1.1 + dx ∧ IntKind.i64.wrap (c.1.2 + dy) = c.1.2 + dy) :
    Con Try.prog 62 [.fsl 3 (ceL l), .v (.int .i64 dx), .v (.int .i64 dy)] [] fun r h => r = .sl 0 3 0 l.length ∧ h = [some (.row 33 3 (ceL (l.map (shC dx dy))))] := by
  refine con_run 1000 Try.func62 rfl Try.results62 Try.ntmps62 (Nat.le_of_ble_eq_true rfl) ?_
  simp (maxSteps := 1000000) -implicitDefEqProofs only [go_sem, ↓reduceIte, reduceCtorEq, Nat.reduceEqDiff, Nat.reduceLT, Nat.reduceAdd, Nat.reduceLeDiff, Nat.reduceMul, Nat.reduceSub, Int.reduceToNat, Int.reduceLT, Int.reduceLE, Int.reduceEq, Int.reduceBNe, Nat.reduceBEq, Int.reduceAdd]
  refine wait_range l.length (rvS l dx dy) (fun _ => True) (weak_to [0, 1, 2, 7, 8] [] ?_ (by decide) (fun i h => by cases h)) trivial ?_
  · rw [show rvS l dx dy 0 = rvN l dx dy from rfl]
    simp (maxSteps := 1000000) -implicitDefEqProofs only [go_sem, ↓reduceIte, reduceCtorEq, Nat.reduceEqDiff, Nat.reduceLT, Nat.reduceAdd, Nat.reduceLeDiff, Nat.reduceMul, Nat.reduceSub, Int.reduceToNat, Int.reduceLT, Int.reduceLE, Int.reduceEq, Int.reduceBNe, Nat.reduceBEq, Int.reduceAdd, St.keep, rvN]
  intro k hk _
  have hll := ceL_len l
  by_cases hkl : k < l.length
  · refine run_sound 1000 _ _ ?_
    have g := ceL_getD l k hkl
    have hbk := hb (l.getD k ((0, 0), 0)) (by rw [List.getD_eq_getElem?_getD, List.getElem?_eq_getElem hkl]; exact List.getElem_mem hkl)
    have hsucc : (l.take (k + 1)).map (shC dx dy) = (l.take k).map (shC dx dy) ++ [shC dx dy (l.getD k ((0, 0), 0))] := by rw [take_snocD l k ((0, 0), 0) hkl, List.map_append]; rfl
    rw [show rvS l dx dy (k + 1) = rvC l dx dy (k + 1) ((l.take (k + 1)).map (shC dx dy)) from rfl, hsucc]
    generalize l.getD k ((0, 0), 0) = c at g hbk
    obtain ⟨⟨x, y⟩, s⟩ := c
    simp only at g hbk
    obtain ⟨ex, ey⟩ := hbk
    have hw1 : IntKind.i64.wrap ((k : Int) + 1) = ((k + 1 : Nat) : Int) := by rw [wrap64 (by omega) (by omega)]; omega
    rw [show shC dx dy ((x, y), s) = ((x + dx, y + dy), s) from rfl]
    by_cases hk0 : k = 0
    · subst hk0
      have h1 : ((0 : Int) < (l.length : Int)) = True := eq_true (by omega)
      have h2 : (0 < l.length) = True := eq_true hkl
      rw [show rvS l dx dy 0 = rvN l dx dy from rfl]
      simp (maxSteps := 1000000) -implicitDefEqProofs only [go_sem, ↓reduceIte, reduceCtorEq, Nat.reduceEqDiff, Nat.reduceLT, Nat.reduceAdd, Nat.reduceLeDiff, Nat.reduceMul, Nat.reduceSub, Int.reduceToNat, Int.reduceLT, Int.reduceLE, Int.reduceEq, Int.reduceBNe, Nat.reduceBEq, Int.reduceAdd, rvN, h1, h2, g, ex, ey, hll]
      (repeat' (first | exact trivial | contradiction | exact ⟨_, rfl⟩ | refine And.intro ?_ ?_ | ((first | show (_ : Nat) ≤ _ | show (_ : Nat) < _ | show (_ : Int) ≤ _ | show (_ : Int) < _); omega) | (refine wait_draw 1000 mixed (by decide +kernel) ?_; simp (maxSteps := 1000000) -implicitDefEqProofs only [go_sem, ↓reduceIte, reduceCtorEq, Nat.reduceEqDiff, Nat.reduceLT, Nat.reduceAdd, Nat.reduceLeDiff, Nat.reduceMul, Nat.reduceSub, Int.reduceToNat, Int.reduceLT, Int.reduceLE, Int.reduceEq, Int.reduceBNe, Nat.reduceBEq, Int.reduceAdd, rvN, h1, h2, g, ex, ey, hll]) | intro _))
      refine weak_to [0, 1, 2, 7, 8] [1] ?_ (by decide) (fun i h => by cases h)
      simp (maxSteps := 1000000) -implicitDefEqProofs only [go_sem, ↓reduceIte, reduceCtorEq, Nat.reduceEqDiff, Nat.reduceLT, Nat.reduceAdd, Nat.reduceLeDiff, Nat.reduceMul, Nat.reduceSub, Int.reduceToNat, Int.reduceLT, Int.reduceLE, Int.reduceEq, Int.reduceBNe, Nat.reduceBEq, Int.reduceAdd, St.keep, rvC, List.nil_append, ceL_cons, ceL_nil]
    · have h1 : ((k : Int) < (l.length : Int)) = True := eq_true (by omega)
      have h2 : (k < l.length) = True := eq_true hkl
      rw [show rvS l dx dy k = rvC l dx dy k ((l.take k).map (shC dx dy)) from if_neg hk0]
      have hol : ((l.take k).map (shC dx dy)).length = k := by simp; omega
      generalize (l.take k).map (shC dx dy) = O at hol ⊢
      simp (maxSteps := 1000000) -implicitDefEqProofs only [go_sem, ↓reduceIte, reduceCtorEq, Nat.reduceEqDiff, Nat.reduceLT, Nat.reduceAdd, Nat.reduceLeDiff, Nat.reduceMul, Nat.reduceSub, Int.reduceToNat, Int.reduceLT, Int.reduceLE, Int.reduceEq, Int.reduceBNe, Nat.reduceBEq, Int.reduceAdd, rvC, h1, h2, g, ex, ey, hll, hol]
      (repeat' (first | exact trivial | contradiction | exact ⟨_, rfl⟩ | refine And.intro ?_ ?_ | ((first | show (_ : Nat) ≤ _ | show (_ : Nat) < _ | show (_ : Int) ≤ _ | show (_ : Int) < _); omega) | (refine wait_draw 1000 mixed (by decide +kernel) ?_; simp (maxSteps := 1000000) -implicitDefEqProofs only [go_sem, ↓reduceIte, reduceCtorEq, Nat.reduceEqDiff, Nat.reduceLT, Nat.reduceAdd, Nat.reduceLeDiff, Nat.reduceMul, Nat.reduceSub, Int.reduceToNat, Int.reduceLT, Int.reduceLE, Int.reduceEq, Int.reduceBNe, Nat.reduceBEq, Int.reduceAdd, rvC, h1, h2, g, ex, ey, hll, hol]) | intro _))
      refine weak_to [0, 1, 2, 7, 8] [2] ?_ (by decide) (fun i h => by cases h)
      simp (maxSteps := 1000000) -implicitDefEqProofs only [go_sem, ↓reduceIte, reduceCtorEq, Nat.reduceEqDiff, Nat.reduceLT, Nat.reduceAdd, Nat.reduceLeDiff, Nat.reduceMul, Nat.reduceSub, Int.reduceToNat, Int.reduceLT, Int.reduceLE, Int.reduceEq, Int.reduceBNe, Nat.reduceBEq, Int.reduceAdd, St.keep, rvC, hw1, hol, List.length_append]
  · obtain rfl : k = l.length := by omega
    have hk0 : ¬ l.length = 0 := fun e => hne (List.length_eq_zero_iff.1 e)
    have h1 : ((l.length : Int) < (l.length : Int)) = False := eq_false (by omega)
    rw [show rvS l dx dy l.length = rvC l dx dy l.length ((l.take l.length).map (shC dx dy)) from if_neg hk0, List.take_length]
    refine run_sound 1000 _ _ ?_
    simp (maxSteps := 1000000) -implicitDefEqProofs only [go_sem, ↓reduceIte, reduceCtorEq, Nat.reduceEqDiff, Nat.reduceLT, Nat.reduceAdd, Nat.reduceLeDiff, Nat.reduceMul, Nat.reduceSub, Int.reduceToNat, Int.reduceLT, Int.reduceLE, Int.reduceEq, Int.reduceBNe, Nat.reduceBEq, Int.reduceAdd, rvC, h1, hll, List.length_map]
end Go.Proofs.Ytiipggfhjkalfaa
/- The road: the document's way; both roads are one. -/
set_option linter.unusedSimpArgs false
set_option linter.unusedVariables false
set_option maxRecDepth 20000
open Go Go.Proofs
namespace Go.Proofs.Ytiipggfhjkalfaa
open Pm
attribute [local irreducible] Wait CallT CallW NextT Le Weak
theorem leC_sh (dx dy : Int) (a b : Ce) : leC (shC dx dy a) (shC dx dy b) = leC a b := by
  unfold leC shC
  simp only [decide_eq_decide]
  omega
theorem sort_sh (dx : Int) {l : List (Pl × Bool)} (hn : (l.map Prod.fst).Nodup) : sortC (l.map (shB dx)) = (sortC (l.map bare0)).map (shC dx 0) := by
  refine (sortC_uniq ?_ ?_ (shB_nodup dx hn)).symm
  · have h1 := (sortC_perm (l.map bare0)).map (shC dx 0)
    rw [List.map_map] at h1
    have e : shC dx 0 ∘ bare0 = shB dx := by
      funext c
      simp only [Function.comp, shC, bare0, shB, Int.add_zero]
    rw [e] at h1
    exact h1
  · rw [List.pairwise_map]
    exact (sortC_sorted (l.map bare0)).imp fun h => by rw [leC_sh]; exact h
def roadR (t : List Int) : List Ce := sortC (roadK (refWalk t).2.K (refWalk t).2.R (refWalk t).2.K.length)
def rroadE (t : List Int) : List Ce × Int := if tellE t = 0 then ((roadR t).map (shC (((t.length + 3 - 1) / 2 : Nat) : Int) 0), 0) else ([], tellE t)
theorem tell_ref {t : List Int} (h : tellE t = 0) : ∃ w, refWalk t = (0, w) ∧ RkX w 1100000 := by
  obtain ⟨_, _, h3, _⟩ := tell_ok h
  rw [(sim_all t).1] at h3
  have e : refWalk t = (0, (refWalk t).2) := by rw [← h3]
  exact ⟨_, e, (refWalk_inv e).1⟩
theorem roadR_eq {t : List Int} (h : tellE t = 0) : sortC ((progWalk t).2.road.map bare0) = roadR t := by
  obtain ⟨_, _, h3, _⟩ := tell_ok h
  obtain ⟨v, hv, hx⟩ := tell_ref h
  have hs := (sim_all t).2 h3
  obtain ⟨hM, _, _, _⟩ := progWalk_inv (show progWalk t = (0, (progWalk t).2) by rw [← h3])
  exact road_same hs hM (by rw [hv]; exact hx)
theorem road_two (t : List Int) : roadE t = rroadE t := by
  unfold roadE rroadE
  by_cases h : tellE t = 0
  · rw [if_pos h, if_pos h]
    obtain ⟨_, _, h3, _⟩ := tell_ok h
    obtain ⟨hM, _, _, _⟩ := progWalk_inv (show progWalk t = (0, (progWalk t).2) by rw [← h3])
    rw [sort_sh _ hM.rn, roadR_eq h]
  · rw [if_neg h, if_neg h]
/-- The places of the road are near. -/
theorem roadR_near {t : List Int} (h : tellE t = 0) : ∀ c ∈ roadR t, near c.1 := fun c hc => by
  obtain ⟨_, _, h3, _⟩ := tell_ok h
  obtain ⟨hM, _, _, _⟩ := progWalk_inv (show progWalk t = (0, (progWalk t).2) by rw [← h3])
  rw [← roadR_eq h] at hc
  obtain ⟨d, hd, e⟩ := List.mem_map.1 ((sortC_perm _).mem_iff.1 hc)
  rw [← e]
  exact hM.rf d hd
theorem roadR_len {t : List Int} (h : tellE t = 0) : (roadR t).length < 1000000000 := by
  obtain ⟨_, _, h3, _⟩ := tell_ok h
  obtain ⟨hM, _, _, _⟩ := progWalk_inv (show progWalk t = (0, (progWalk t).2) by rw [← h3])
  rw [← roadR_eq h, sortC_len, List.length_map]
  have := hM.rl
  omega
theorem rroad_pc (t : List Int) (hm : t.length < 9223372036854775808) (hne : tellE t = 0 → roadR t ≠ []) : PCon Try.prog 28 [tA t] (· = .tup [.fsl 3 (ceL (rroadE t).1), .v (.int .i64 (rroadE t).2)]) := by
  refine PCon.upto (pcon_run 1000 Try.func28 rfl Try.results28 Try.ntmps28 (Nat.le_of_ble_eq_true rfl) ?_)
  have bc := begin_pc t hm
  simp (maxSteps := 1000000) -implicitDefEqProofs only [go_sem, ↓reduceIte, reduceCtorEq, Nat.reduceEqDiff, Nat.reduceLT, Nat.reduceAdd, Nat.reduceLeDiff, tA]
  refine call_pure 0 bc ?_ rfl ?_
  · simp (maxSteps := 1000000) -implicitDefEqProofs only [go_sem, ↓reduceIte, reduceCtorEq, Nat.reduceEqDiff, Nat.reduceLT, Nat.reduceAdd, Nat.reduceLeDiff, tA]
  rintro r (⟨he, w, T, rfl⟩ | ⟨he, T, rfl⟩)
  · have hpm : rroadE t = ([], tellE t) := by unfold rroadE; rw [if_neg he]
    have hf : (tellE t = 0) = False := eq_false he
    rw [hpm]
    refine run_again 1000 ?_
    simp (maxSteps := 1000000) -implicitDefEqProofs only [go_sem, ↓reduceIte, reduceCtorEq, Nat.reduceEqDiff, Nat.reduceLT, Nat.reduceAdd, Nat.reduceLeDiff, rkV, rkR, tA, hf]
    exact Le.tup (.cons (Le.nil 3) (LeL.refl _))
  · have hpm : rroadE t = ((roadR t).map (shC (((t.length + 3 - 1) / 2 : Nat) : Int) 0), 0) := by unfold rroadE; rw [if_pos he]
    obtain ⟨_, h2, _, h4⟩ := tell_ok he
    obtain ⟨v, hv, hx⟩ := tell_ref he
    have hrn := roadR_near he
    have hrl := roadR_len he
    have hne := hne he
    have hmd := made_pc v T false hx.i.nd hx.i.s hx.i.r hx.i.h (by have := hx.i.kl; omega)
    obtain ⟨N, hN⟩ : ∃ N : Int, N = ((2 * (t.length + 3) : Nat) : Int) := ⟨_, rfl⟩
    have rg := rrg_pc t (by omega) N (by omega)
    have rh := rhalf_pc (t.length + 3) (by omega) (by omega)
    obtain ⟨a, ha⟩ : ∃ a, a = (t.length + 3 - 1) / 2 := ⟨_, rfl⟩
    have mc := rmoved_con (roadR t) ((a : Nat) : Int) 0 (by omega) hne (fun c hc => by
      have := hrn c hc
      unfold near at this
      exact ⟨wrap64 (by omega) (by omega), by rw [Int.add_zero]; exact wrap64 (by omega) (by omega)⟩)
    rw [hpm, hv, ← ha]
    rw [← ha] at rh
    simp only [rgA, ← hN] at rh
    have hR : (refMd v false).road = roadR t := by unfold roadR; rw [hv]; rfl
    have hRl : ((roadR t).map (shC (a : Int) 0)).length = (roadR t).length := List.length_map _
    generalize (roadR t).map (shC (a : Int) 0) = L at mc hRl ⊢
    have htk : (ceL L).take (roadR t).length = ceL L := List.take_of_length_le (by rw [ceL_len]; omega)
    generalize refMd v false = M at hmd hR
    simp only [mdA, hR] at hmd
    simp only [rkV, rkR, tA] at hmd rg ⊢
    refine run_again 1000 ?_
    simp (maxSteps := 1000000) -implicitDefEqProofs only [go_sem, ↓reduceIte, reduceCtorEq, Nat.reduceEqDiff, Nat.reduceLT, Nat.reduceAdd, Nat.reduceLeDiff, rkV, rkR, tA]
    (repeat' (first | exact trivial | contradiction | exact ⟨_, rfl⟩ | refine And.intro ?_ ?_ | ((first | show (_ : Nat) ≤ _ | show (_ : Nat) < _ | show (_ : Int) ≤ _ | show (_ : Int) < _); omega) | (refine wait_draw 1000 mixed (by decide +kernel) ?_; simp (maxSteps := 1000000) -implicitDefEqProofs only [go_sem, ↓reduceIte, reduceCtorEq, Nat.reduceEqDiff, Nat.reduceLT, Nat.reduceAdd, Nat.reduceLeDiff, tA, rkV, rkR, htk]) | ((first | refine call_eq 1000 (hmd) ?_ ?_ rfl | refine call_draw 1000 (hmd) ?_ ?_ | refine call_eq 1000 (rg) ?_ ?_ rfl | refine call_draw 1000 (rg) ?_ ?_ | refine call_eq 1000 (rh) ?_ ?_ rfl | refine call_draw 1000 (rh) ?_ ?_); (focus (simp (maxSteps := 1000000) -implicitDefEqProofs only [go_sem, ↓reduceIte, reduceCtorEq, Nat.reduceEqDiff, Nat.reduceLT, Nat.reduceAdd, Nat.reduceLeDiff, tA, rkV, rkR, htk]; done)); simp (maxSteps := 1000000) -implicitDefEqProofs only [go_sem, ↓reduceIte, reduceCtorEq, Nat.reduceEqDiff, Nat.reduceLT, Nat.reduceAdd, Nat.reduceLeDiff, tA, rkV, rkR, htk]) | ((first | refine call_con_eq 1000 [] (mc) ?_ ?_ ?_ (by simp) (by simp) rfl (by first | (simp; done) | exact Nat.le_of_ble_eq_true rfl) | refine call_draw_con 1000 [] (mc) (by decide +kernel) ?_ ?_ ?_ (by simp) (by simp) rfl (by first | (simp; done) | exact Nat.le_of_ble_eq_true rfl)); (focus (simp (maxSteps := 1000000) -implicitDefEqProofs only [go_sem, ↓reduceIte, reduceCtorEq, Nat.reduceEqDiff, Nat.reduceLT, Nat.reduceAdd, Nat.reduceLeDiff, tA, rkV, rkR, htk]; done)); (focus (simp (maxSteps := 1000000) -implicitDefEqProofs only [go_sem, ↓reduceIte, reduceCtorEq, Nat.reduceEqDiff, Nat.reduceLT, Nat.reduceAdd, Nat.reduceLeDiff, tA, rkV, rkR, htk]; done)); simp (maxSteps := 1000000) -implicitDefEqProofs only [go_sem, ↓reduceIte, reduceCtorEq, Nat.reduceEqDiff, Nat.reduceLT, Nat.reduceAdd, Nat.reduceLeDiff, tA, rkV, rkR, htk]) | intro _))
    all_goals
      rw [if_pos (by omega)]
      exact Le.refl _
end Go.Proofs.Ytiipggfhjkalfaa
/- The room: a box around places, a plain law. -/
set_option linter.unusedSimpArgs false
set_option linter.unusedVariables false
set_option maxRecDepth 20000
open Go Go.Proofs
namespace Go.Proofs.Ytiipggfhjkalfaa
open Pm
attribute [local irreducible] Wait CallT CallW NextT Le Weak
def growB (b : Pl × Pl) (p : Pl) : Pl × Pl := ((min b.1.1 p.1, min b.1.2 p.2), (max b.2.1 p.1, max b.2.2 p.2))
def bxL (b : Pl × Pl) (l : List Pl) : Pl × Pl := l.foldl growB b
theorem bxL_cons (b : Pl × Pl) (p : Pl) (l : List Pl) : bxL b (p :: l) = bxL (growB b p) l := rfl
theorem bxL_app (b : Pl × Pl) (l m : List Pl) : bxL b (l ++ m) = bxL (bxL b l) m := by simp [bxL]
theorem growB_comm (b : Pl × Pl) (p q : Pl) : growB (growB b p) q = growB (growB b q) p := by
  unfold growB
  simp only [Prod.mk.injEq]
  refine ⟨⟨?_, ?_⟩, ?_, ?_⟩ <;> omega
theorem bxL_perm {l m : List Pl} (h : l.Perm m) : ∀ b, bxL b l = bxL b m := by
  induction h with
  | nil => intro b; rfl
  | cons x _ ih => intro b; rw [bxL_cons, bxL_cons, ih]
  | swap x y l => intro b; rw [bxL_cons, bxL_cons, bxL_cons, bxL_cons, growB_comm]
  | trans _ _ ih1 ih2 => intro b; rw [ih1, ih2]
/-- A place in a box. -/
def inB (b : Pl × Pl) (p : Pl) : Prop := (b.1.1 ≤ p.1 ∧ b.1.2 ≤ p.2) ∧ (p.1 ≤ b.2.1 ∧ p.2 ≤ b.2.2)
theorem growB_in {b : Pl × Pl} {p : Pl} (h : inB b p) : growB b p = b := by
  obtain ⟨⟨a, c⟩, d, e⟩ := b
  unfold inB at h
  unfold growB
  simp only at h
  simp only [Prod.mk.injEq]
  omega
theorem inB_grow {b : Pl × Pl} {p q : Pl} (h : inB b p) : inB (growB b q) p := by
  unfold inB growB at *
  simp only
  omega
theorem inB_self (b : Pl × Pl) (p : Pl) : inB (growB b p) p := by
  unfold inB growB
  simp only
  omega
theorem inB_bx {p : Pl} : ∀ (l : List Pl) (b : Pl × Pl), inB b p → inB (bxL b l) p
  | [], _, h => h
  | q :: l, b, h => by rw [bxL_cons]; exact inB_bx l _ (inB_grow h)
theorem inB_mem {p : Pl} : ∀ (l : List Pl) (b : Pl × Pl), p ∈ l → inB (bxL b l) p
  | q :: l, b, h => by
    rw [bxL_cons]
    rcases List.mem_cons.1 h with rfl | h
    · exact inB_bx l _ (inB_self b p)
    · exact inB_mem l _ h
theorem bxL_in {b : Pl × Pl} : ∀ m : List Pl, (∀ p ∈ m, inB b p) → bxL b m = b
  | [], _ => rfl
  | p :: m, h => by rw [bxL_cons, growB_in (h p (by simp))]; exact bxL_in m fun q hq => h q (by simp [hq])
theorem bxL_sub {b : Pl × Pl} {l m : List Pl} (h : ∀ p ∈ m, p ∈ l) : bxL (bxL b l) m = bxL b l := bxL_in m fun p hp => inB_mem l b (h p hp)
/-- What is written lies on the road. -/
structure OnRoad (w : Wk) : Prop where
  here : (w.s.x, w.s.y) ∈ w.road.map Prod.fst
  tr : ∀ s ∈ w.trail.drop 1, (s.x, s.y) ∈ w.road.map Prod.fst
  wr : ∀ p ∈ w.wrote.map Prod.fst, p ∈ w.road.map Prod.fst
  ne : 0 < w.trail.length
theorem fwdR_on {w w' : Wk} (h : OnRoad w) (e : fwdR w = (0, w')) : OnRoad w' := by
  obtain ⟨a, b, hab⟩ : ∃ a b, onP (w.s.x, w.s.y) w.s.d = (a, b) := ⟨_, _, rfl⟩
  simp only [fwdR, hab] at e
  split at e
  · cases e
  · split at e
    · cases e
    · split at e
      · cases e
      · cases e
        refine ⟨(key_put _ _ _ _).2 (.inl rfl), fun s hs => (key_put _ _ _ _).2 (.inr ?_), fun p hp => (key_put _ _ _ _).2 (.inr (h.wr p hp)), by simp⟩
        simp only [List.drop_append] at hs
        rcases List.mem_append.1 hs with hs | hs
        · exact h.tr s hs
        · have := List.mem_of_mem_drop hs
          simp only [List.mem_singleton] at this
          rw [this]
          exact h.here
theorem wrR_on {w w' : Wk} {s : Int} (h : OnRoad w) (e : wrR w s = (0, w')) : OnRoad w' := by
  simp only [wrR] at e
  split at e
  · cases e
  · rename_i h1
    cases e
    have h0 : ¬ w.trail.length = 1 := fun h2 => h1 (.inl h2)
    have := h.ne
    refine ⟨h.tr _ ?_, fun x hx => h.tr x ?_, fun p hp => ?_, by simp; omega⟩
    · rw [List.getD_eq_getElem?_getD, List.getElem?_eq_getElem (by omega), Option.getD_some, List.mem_iff_getElem]
      exact ⟨w.trail.length - 2, by simp; omega, by rw [List.getElem_drop]; congr 1; omega⟩
    · rw [List.drop_take] at hx
      exact List.mem_of_mem_take hx
    · rcases (key_put _ _ _ _).1 hp with rfl | hp
      · exact h.here
      · exact h.wr p hp
theorem fwdN_on : ∀ (k : Nat) (w w' : Wk), OnRoad w → fwdN k w = (0, w') → OnRoad w'
  | 0, w, w', h, e => by cases e; exact h
  | k + 1, w, w', h, e => by
    simp only [fwdN] at e
    split at e
    · rename_i h0
      exact fwdN_on k _ w' (fwdR_on (w' := (fwdR w).2) h (by rw [← h0])) e
    · rename_i h0; rw [e] at h0; exact absurd rfl h0
theorem wrN_on (s : Int) : ∀ (k : Nat) (w w' : Wk), OnRoad w → wrN s k w = (0, w') → OnRoad w'
  | 0, w, w', h, e => by cases e; exact h
  | k + 1, w, w', h, e => by
    simp only [wrN] at e
    split at e
    · rename_i h0
      exact wrN_on s k _ w' (wrR_on (w' := (wrR w s).2) h (by rw [← h0])) e
    · rename_i h0; rw [e] at h0; exact absurd rfl h0
theorem paid_on {w : Wk} (k : Int → Int) (h : OnRoad w) : OnRoad (paidW w k) := ⟨h.here, h.tr, h.wr, h.ne⟩
theorem cmd_on {w w' : Wk} {s : Int} (h : OnRoad w) (e : cmdP w s = (0, w')) : OnRoad w' := by
  unfold cmdP at e
  split at e
  · exact fwdN_on _ _ w' (paid_on _ h) e
  · split at e
    · cases e; exact ⟨h.here, h.tr, h.wr, h.ne⟩
    · split at e
      · cases e; exact ⟨h.here, h.tr, h.wr, h.ne⟩
      · exact wrN_on _ _ _ w' (paid_on _ h) e
theorem walk_on : ∀ (l : List Int) (w w' : Wk), OnRoad w → walkP l w = (0, w') → OnRoad w'
  | [], w, w', h, e => by cases e; exact h
  | s :: l, w, w', h, e => by
    simp only [walkP] at e
    split at e
    · rename_i h0
      exact walk_on l _ w' (cmd_on (w' := (cmdP w s).2) h (by rw [← h0])) e
    · rename_i h0; rw [e] at h0; exact absurd rfl h0
theorem begin_on : OnRoad beginW := ⟨by simp [beginW], by simp [beginW], by simp [beginW], by simp [beginW]⟩
theorem progWalk_on {t : List Int} {w : Wk} (h : progWalk t = (0, w)) : OnRoad w := by
  unfold progWalk at h
  split at h
  · exact walk_on _ _ _ begin_on h
  · rename_i hc
    cases h
end Go.Proofs.Ytiipggfhjkalfaa
