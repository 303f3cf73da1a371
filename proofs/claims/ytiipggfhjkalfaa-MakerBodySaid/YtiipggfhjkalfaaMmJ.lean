import Derived.Test.YtiipggfhjkalfaaProg
import Derived.Test.YtiipggfhjkalfaaPmU
import Derived.Test.YtiipggfhjkalfaaMmH
/- What a tape means: the walker's beginning. -/
set_option linter.unusedSimpArgs false
set_option linter.unusedVariables false
set_option maxRecDepth 20000
open Go Go.Proofs
namespace Go.Proofs.Ytiipggfhjkalfaa
open Pm
attribute [local irreducible] Wait CallT CallW NextT Le Weak
theorem mget_nil {P : Program} {kt : TypeId} {k : AV} {n : Nat} : mget P kt k [] n = some none := rfl
theorem mput_nil {k v : AV} {es : List (AV × AV)} : mputR k v es none = es ++ [(k, v)] := rfl
theorem push_nil (x y d : Int) (a0 a1 a2 a4 a5 a6 a7 a8 a9 a10 : AV) (b1 b2 b3 b4 : Option Blk) :
    Con Try.prog 100 [.ptr 0 11 0 3, .agg [.v (.int .i64 x), .v (.int .i64 y), .v (.int .i64 d)]] [wrowA a0 a1 a2 (.v (.slice none 0 0)) a4 a5 a6 a7 a8 a9 a10, b1, b2, b3, b4]
    fun r h' => r = .tup [] ∧ h' = [wrowA a0 a1 a2 (.sl 7 3 0 1) a4 a5 a6 a7 a8 a9 a10, b1, b2, b3, b4, some (.row 93 3 [sdA ⟨x, y, d⟩]), trB [⟨x, y, d⟩], trB [⟨x, y, d⟩]] := by
  refine con_run 1000 Try.func100 rfl Try.results100 Try.ntmps100 (Nat.le_of_ble_eq_true rfl) ?_
  simp (maxSteps := 1000000) -implicitDefEqProofs only [go_sem, ↓reduceIte, reduceCtorEq, Nat.reduceEqDiff, Nat.reduceLT, Nat.reduceAdd, Nat.reduceLeDiff, wrowA, trB]
  (repeat' (first | exact trivial | contradiction | exact ⟨_, rfl⟩ | refine And.intro ?_ ?_ | ((first | show (_ : Nat) ≤ _ | show (_ : Nat) < _ | show (_ : Int) ≤ _ | show (_ : Int) < _); omega) | ((first | refine wait_draw 1000 mixed (by decide +kernel) ?_ | refine wait_drawV (fun id => id == 99 || id == lastK) 1000 mixed (by decide +kernel) ?_); simp (maxSteps := 1000000) -implicitDefEqProofs only [go_sem, ↓reduceIte, reduceCtorEq, Nat.reduceEqDiff, Nat.reduceLT, Nat.reduceAdd, Nat.reduceLeDiff, wrowA, trB]) | intro _))
  all_goals rfl
def beginW : Wk := ⟨⟨0, 0, 1⟩, [⟨0, 1, 1⟩], 0, [((0, 1), true)], [], [], [((0, 0), true)], 1, 4⟩
theorem new_con : Con Try.prog 80 [] [] fun r h' => r = .ptr 0 11 0 0 ∧ h' = wkS beginW := by
  refine Con.keep (r := .ptr 4 11 0 0) (h1 := [some (.mp (mE bA [((0, 1), true)])), some (.mp (mE iA [])), some (.mp (mE bA [])), some (.mp (mE bA [((0, 0), true)])), some (.row 100 11 [.agg [.v (.int .i64 0), .v (.int .i64 0), .v (.int .i64 1), .sl 7 3 0 1, .v (.int .i64 0), .map 0, .map 1, .map 2, .map 3, .v (.int .i64 1), .v (.int .i64 4)]]), some (.row 93 3 [sdA ⟨0, 1, 1⟩]), trB [⟨0, 1, 1⟩], trB [⟨0, 1, 1⟩]]) ?_ [4, 0, 1, 2, 3, 7] ?_ ?_ (by decide) (stay_of rfl)
  · refine con_run 1000 Try.func80 rfl Try.results80 Try.ntmps80 (Nat.le_of_ble_eq_true rfl) ?_
    simp (maxSteps := 1000000) -implicitDefEqProofs only [go_sem, ↓reduceIte, reduceCtorEq, Nat.reduceEqDiff, Nat.reduceLT, Nat.reduceAdd, Nat.reduceLeDiff]
    (repeat' (first | exact trivial | contradiction | exact ⟨_, rfl⟩ | refine And.intro ?_ ?_ | ((first | show (_ : Nat) ≤ _ | show (_ : Nat) < _ | show (_ : Int) ≤ _ | show (_ : Int) < _); omega) | (refine wait_draw 1000 mixed (by decide +kernel) ?_; simp (maxSteps := 1000000) -implicitDefEqProofs only [go_sem, ↓reduceIte, reduceCtorEq, Nat.reduceEqDiff, Nat.reduceLT, Nat.reduceAdd, Nat.reduceLeDiff, wrowA, trB, sdA, mget_nil, mput_nil]) | ((first | refine call_con_eq 1000 [4, 0, 1, 2, 3] (push_nil 0 1 1 (.v (.int .i64 0)) (.v (.int .i64 0)) (.v (.int .i64 1)) (.v (.int .i64 0)) (.map 1) (.map 2) (.map 3) (.map 4) (.v (.int .i64 1)) (.v (.int .i64 4)) (some (.mp [])) (some (.mp [])) (some (.mp [])) (some (.mp []))) ?_ ?_ ?_ (by simp) (by simp) rfl (by first | (simp; done) | exact Nat.le_of_ble_eq_true rfl) | refine call_draw_con 1000 [4, 0, 1, 2, 3] (push_nil 0 1 1 (.v (.int .i64 0)) (.v (.int .i64 0)) (.v (.int .i64 1)) (.v (.int .i64 0)) (.map 1) (.map 2) (.map 3) (.map 4) (.v (.int .i64 1)) (.v (.int .i64 4)) (some (.mp [])) (some (.mp [])) (some (.mp [])) (some (.mp []))) (by decide +kernel) ?_ ?_ ?_ (by simp) (by simp) rfl (by first | (simp; done) | exact Nat.le_of_ble_eq_true rfl)); (focus (simp (maxSteps := 1000000) -implicitDefEqProofs only [go_sem, ↓reduceIte, reduceCtorEq, Nat.reduceEqDiff, Nat.reduceLT, Nat.reduceAdd, Nat.reduceLeDiff, wrowA, trB, sdA, mget_nil, mput_nil]; done)); (focus (simp (maxSteps := 1000000) -implicitDefEqProofs only [go_sem, ↓reduceIte, reduceCtorEq, Nat.reduceEqDiff, Nat.reduceLT, Nat.reduceAdd, Nat.reduceLeDiff, wrowA, trB, sdA, mget_nil, mput_nil]; done)); simp (maxSteps := 1000000) -implicitDefEqProofs only [go_sem, ↓reduceIte, reduceCtorEq, Nat.reduceEqDiff, Nat.reduceLT, Nat.reduceAdd, Nat.reduceLeDiff, wrowA, trB, sdA, mget_nil, mput_nil]) | intro _))
    all_goals rfl
  · simp (maxSteps := 1000000) -implicitDefEqProofs only [go_sem, ↓reduceIte, reduceCtorEq, Nat.reduceEqDiff, Nat.reduceLT, Nat.reduceAdd, Nat.reduceLeDiff]
  · simp (maxSteps := 1000000) -implicitDefEqProofs only [go_sem, ↓reduceIte, reduceCtorEq, Nat.reduceEqDiff, Nat.reduceLT, Nat.reduceAdd, Nat.reduceLeDiff, wkS, wkB, trB, beginW]
end Go.Proofs.Ytiipggfhjkalfaa
/- What a tape means: the program's walk. -/
set_option linter.unusedSimpArgs false
set_option linter.unusedVariables false
set_option maxRecDepth 20000
open Go Go.Proofs
namespace Go.Proofs.Ytiipggfhjkalfaa
open Pm
attribute [local irreducible] Wait CallT CallW NextT Le Weak
def takeP (l : Int → Int) (w : Wk) : Wk := paidW w l
def forthP (w : Wk) : Int × Wk := fwdN (max w.count 1).toNat (paidW w fun l => IntKind.i64.wrap (IntKind.i64.wrap (l + IntKind.i64.wrap (3 * (max w.count 1))) + 2))
def writeP (w : Wk) (s : Int) : Int × Wk := wrN (WrittenStateE (s - 24)).1 (max w.count 1).toNat (paidW w fun l => IntKind.i64.wrap (IntKind.i64.wrap (l + max w.count 1) + 2))
def cmdP (w : Wk) (s : Int) : Int × Wk := if s = 5 then forthP w else if s = 6 ∨ s = 7 then (0, turnW w s) else if s < 24 then (0, digitW w s) else writeP w s
def walkP : List Int → Wk → Int × Wk
  | [], w => (0, w)
  | s :: l, w => let r := cmdP w s; if r.1 = 0 then walkP l r.2 else r
/-- A walker between two commands. -/
structure WkIn (w : Wk) (n : Nat) : Prop where
  ok : WkOk w n
  c : 0 ≤ w.count ∧ w.count ≤ 255
theorem onP_ok {x y d : Int} (h : 0 ≤ d ∧ d < 4) : True := trivial
theorem fwdR_inv {w w' : Wk} {n : Nat} (h : WkOk w n) (e : fwdR w = (0, w')) : WkOk w' (n + 1) ∧ w'.count = w.count := by
  obtain ⟨a, b, hab⟩ : ∃ a b, onP (w.s.x, w.s.y) w.s.d = (a, b) := ⟨_, _, rfl⟩
  simp only [fwdR, hab] at e
  split at e
  · cases e
  · rename_i h1
    split at e
    · cases e
    · split at e
      · cases e
      · cases e
        refine ⟨⟨by have := h.tl; simp; omega, by simp, ⟨by simp only; omega, by simp only; omega, h.s.d⟩, fun t ht => ?_⟩, rfl⟩
        simp only [List.mem_append, List.mem_singleton] at ht
        rcases ht with ht | rfl
        · exact h.all t ht
        · exact h.s
theorem fwdN_inv : ∀ (k n : Nat) (w w' : Wk), WkOk w n → fwdN k w = (0, w') → WkOk w' (n + k) ∧ w'.count = w.count
  | 0, n, w, w', h, e => by cases e; exact ⟨h, rfl⟩
  | k + 1, n, w, w', h, e => by
    simp only [fwdN] at e
    split at e
    · rename_i h0
      obtain ⟨h1, h2⟩ := fwdR_inv (w' := (fwdR w).2) h (by rw [← h0])
      obtain ⟨h3, h4⟩ := fwdN_inv k (n + 1) _ w' h1 e
      exact ⟨by rw [show n + (k + 1) = n + 1 + k by omega]; exact h3, h4.trans h2⟩
    · rename_i h0; rw [e] at h0; exact absurd rfl h0
theorem wrR_inv {w w' : Wk} {s : Int} {n : Nat} (h : WkOk w n) (e : wrR w s = (0, w')) : WkOk w' n ∧ w'.count = w.count := by
  simp only [wrR] at e
  split at e
  · cases e
  · rename_i h1
    cases e
    have h0 : ¬ w.trail.length = 1 := fun h2 => h1 (.inl h2)
    have := h.ne
    refine ⟨⟨by have := h.tl; simp; omega, by simp; omega, ?_, fun t ht => h.all t (List.mem_of_mem_take ht)⟩, rfl⟩
    refine h.all _ ?_
    rw [List.getD_eq_getElem?_getD, List.getElem?_eq_getElem (by omega)]
    exact List.getElem_mem _
theorem wrN_inv (s : Int) : ∀ (k n : Nat) (w w' : Wk), WkOk w n → wrN s k w = (0, w') → WkOk w' n ∧ w'.count = w.count
  | 0, n, w, w', h, e => by cases e; exact ⟨h, rfl⟩
  | k + 1, n, w, w', h, e => by
    simp only [wrN] at e
    split at e
    · rename_i h0
      obtain ⟨h1, h2⟩ := wrR_inv (w' := (wrR w s).2) h (by rw [← h0])
      obtain ⟨h3, h4⟩ := wrN_inv s k n _ w' h1 e
      exact ⟨h3, h4.trans h2⟩
    · rename_i h0; rw [e] at h0; exact absurd rfl h0
theorem paid_ok {w : Wk} {n : Nat} (h : WkOk w n) (l : Int → Int) : WkOk (paidW w l) n := ⟨h.tl, h.ne, h.s, h.all⟩
theorem forthP_inv {w w' : Wk} {n : Nat} (h : WkIn w n) (e : forthP w = (0, w')) : WkIn w' (n + 255) := by
  obtain ⟨h1, h2⟩ := fwdN_inv _ n _ _ (paid_ok h.ok _) e
  have := h.c
  exact ⟨⟨by have := h1.tl; omega, h1.ne, h1.s, h1.all⟩, by rw [h2]; simp [paidW]⟩
theorem writeP_inv {w w' : Wk} {s : Int} {n : Nat} (h : WkIn w n) (e : writeP w s = (0, w')) : WkIn w' (n + 255) := by
  obtain ⟨h1, h2⟩ := wrN_inv _ _ n _ _ (paid_ok h.ok _) e
  exact ⟨⟨by have := h1.tl; omega, h1.ne, h1.s, h1.all⟩, by rw [h2]; simp [paidW]⟩
theorem turn_in {w : Wk} {s : Int} {n : Nat} (h : WkIn w n) (hs : 6 ≤ s) (hs' : s < 8) : WkIn (turnW w s) (n + 255) := by
  have hd := h.ok.s.d
  refine ⟨⟨by have := h.ok.tl; simp only [turnW]; omega, h.ok.ne, ⟨h.ok.s.x, h.ok.s.y, ?_⟩, h.ok.all⟩, by simp [turnW]⟩
  simp only [turnW]
  rw [Int.tmod_eq_emod_of_nonneg (by omega)]
  omega
theorem digit_in {w : Wk} {s : Int} {n : Nat} (h : WkIn w n) (hs : 8 ≤ s) : WkIn (digitW w s) (n + 255) := by
  have := h.c
  exact ⟨⟨by have := h.ok.tl; simp only [digitW]; omega, h.ok.ne, h.ok.s, h.ok.all⟩, by simp only [digitW]; omega⟩
theorem walkP_bad {s : Int} {l : List Int} {w : Wk} (h : (cmdP w s).1 ≠ 0) : walkP (s :: l) w = cmdP w s := by simp only [walkP, if_neg h]
theorem walkP_ok {s : Int} {l : List Int} {w : Wk} (h : (cmdP w s).1 = 0) : walkP (s :: l) w = walkP l (cmdP w s).2 := by simp only [walkP, if_pos h]
/-- What the program's walk does: how it ends, and the walker. -/
def progWalk (t : List Int) : Int × Wk := if checkE t = 0 then walkP ((t.take (t.length - 2)).drop 1) beginW else (71, beginW)
end Go.Proofs.Ytiipggfhjkalfaa
