import Derived.Test.YtiipggfhjkalfaaProg
import Derived.Test.YtiipggfhjkalfaaPmU
import Derived.Test.YtiipggfhjkalfaaMmC
/- What a tape means: the trail as a stack; commands that only turn. -/
set_option linter.unusedSimpArgs false
set_option linter.unusedVariables false
set_option maxRecDepth 20000
open Go Go.Proofs
namespace Go.Proofs.Ytiipggfhjkalfaa
open Pm
attribute [local irreducible] Wait CallT CallW NextT Le Weak
/-- A place and a direction. -/
structure Sd where
  x : Int
  y : Int
  d : Int
  deriving Inhabited
def sdA (s : Sd) : AV := .agg [.v (.int .i64 s.x), .v (.int .i64 s.y), .v (.int .i64 s.d)]
def trA (l : List Sd) : List AV := l.map sdA
theorem trA_len (l : List Sd) : (trA l).length = l.length := by simp [trA]
theorem trA_ren (f : Nat → Option Nat) (l : List Sd) : AV.renL f (trA l) = trA l := by rw [AV.renL_eq]; simp [trA, sdA, AV.ren, AV.renL]
theorem trA_fy (h : List (Option Blk)) (l : List Sd) : fyL h (trA l) = trA l := by rw [fyL_eq]; simp [trA, sdA, fy_agg, fyL_cons, fyL_nil, fy_v]
theorem trA_no (l : List Sd) : (trA l).map (AV.ren noF) = trA l := by simp [trA, sdA, AV.ren, AV.renL]
theorem trA_frz (id : Nat) (b : Blk) (l : List Sd) : AV.frzL id b (trA l) = trA l := by rw [frzL_eq]; simp [trA, sdA, frz_agg, frzL_cons, frzL_nil, frz_v]
theorem trA_take (l : List Sd) : (trA l).take l.length = trA l := List.take_of_length_le (by simp [trA])
theorem trA_app (l : List Sd) (x y d : Int) : trA l ++ [.agg [.v (.int .i64 x), .v (.int .i64 y), .v (.int .i64 d)]] = trA (l ++ [⟨x, y, d⟩]) := by simp [trA, sdA]
theorem trA_get (l : List Sd) (k : Nat) (h : k < l.length) : (trA l).getD k .junk = sdA (l.getD k default) := by simp [trA, List.getD_eq_getElem?_getD, h]
theorem trA_takeN (l : List Sd) (n : Nat) : (trA l).take n = trA (l.take n) := by simp [trA, List.map_take]
attribute [go_sem] trA_len trA_ren trA_fy trA_no trA_frz trA_take trA_app
theorem size_pc (l : List Sd) (rest : List AV) (hl : l.length ≤ 9223372036854775807) : PCon Try.prog 102 [.fptr (.fsl 3 (trA l) :: rest)] (· = .v (.int .i64 l.length)) := by
  refine pcon_run 1000 Try.func102 rfl Try.results102 Try.ntmps102 (Nat.le_of_ble_eq_true rfl) ?_
  simp (maxSteps := 1000000) -implicitDefEqProofs only [go_sem, ↓reduceIte, reduceCtorEq, Nat.reduceEqDiff, Nat.reduceLT, Nat.reduceAdd, Nat.reduceLeDiff]
  (repeat' (first | exact trivial | contradiction | exact ⟨_, rfl⟩ | refine And.intro ?_ ?_ | ((first | show (_ : Nat) ≤ _ | show (_ : Nat) < _ | show (_ : Int) ≤ _ | show (_ : Int) < _); omega) | (refine wait_draw 1000 mixed (by decide +kernel) ?_; simp (maxSteps := 1000000) -implicitDefEqProofs only [go_sem, ↓reduceIte, reduceCtorEq, Nat.reduceEqDiff, Nat.reduceLT, Nat.reduceAdd, Nat.reduceLeDiff]) | intro _))
  all_goals simp [fz_v, fz_agg, fz_tup, fz_fsl, fzL_nil, fzL_cons]
def trB (l : List Sd) : Option Blk := some (.row 93 3 (trA l))
theorem push_con (n : Nat) (l : List Sd) (hn : n = l.length) (x y d : Int) (a0 a1 a2 a4 a5 a6 a7 a8 a9 a10 : AV) (b1 b2 b3 b4 : Option Blk) (hl : l.length < 1000000000000) :
    Con Try.prog 100 [.ptr 0 11 0 3, .agg [.v (.int .i64 x), .v (.int .i64 y), .v (.int .i64 d)]] [wrowA a0 a1 a2 (.sl 5 3 0 n) a4 a5 a6 a7 a8 a9 a10, b1, b2, b3, b4, trB l]
    fun r h' => r = .tup [] ∧ h' = [wrowA a0 a1 a2 (.sl 8 3 0 (n + 1)) a4 a5 a6 a7 a8 a9 a10, b1, b2, b3, b4, none, some (.row 93 3 [sdA ⟨x, y, d⟩]), trB [⟨x, y, d⟩], trB (l ++ [⟨x, y, d⟩])] := by
  subst hn
  refine con_run 1000 Try.func100 rfl Try.results100 Try.ntmps100 (Nat.le_of_ble_eq_true rfl) ?_
  simp (maxSteps := 1000000) -implicitDefEqProofs only [go_sem, ↓reduceIte, reduceCtorEq, Nat.reduceEqDiff, Nat.reduceLT, Nat.reduceAdd, Nat.reduceLeDiff, wrowA, trB]
  (repeat' (first | exact trivial | contradiction | exact ⟨_, rfl⟩ | refine And.intro ?_ ?_ | ((first | show (_ : Nat) ≤ _ | show (_ : Nat) < _ | show (_ : Int) ≤ _ | show (_ : Int) < _); omega) | ((first | refine wait_draw 1000 mixed (by decide +kernel) ?_ | refine wait_drawV (fun id => id == 5 || id == 5 + killK || id == lastK) 1000 mixed (by decide +kernel) ?_); simp (maxSteps := 1000000) -implicitDefEqProofs only [go_sem, ↓reduceIte, reduceCtorEq, Nat.reduceEqDiff, Nat.reduceLT, Nat.reduceAdd, Nat.reduceLeDiff, wrowA, trB]) | intro _))
  all_goals rfl
end Go.Proofs.Ytiipggfhjkalfaa
/- What a tape means: the walker, its methods that neither go nor write. -/
set_option linter.unusedSimpArgs false
set_option linter.unusedVariables false
set_option maxRecDepth 20000
open Go Go.Proofs
namespace Go.Proofs.Ytiipggfhjkalfaa
open Pm
attribute [local irreducible] Wait CallT CallW NextT Le Weak
/-- The walker. -/
structure Wk where
  s : Sd
  trail : List Sd
  count : Int
  onto : List (Pl × Bool)
  wrote : List (Pl × Int)
  fronts : List (Pl × Bool)
  road : List (Pl × Bool)
  long : Int
  give : Int
  deriving Inhabited
/-- The walker's struct; the trail's row is the block t. -/
def wkB (t : Nat) (x y d : Int) (n : Nat) (c long give : Int) : Option Blk := some (.row 100 11 [.agg [.v (.int .i64 x), .v (.int .i64 y), .v (.int .i64 d), .sl t 3 0 n, .v (.int .i64 c), .map 1, .map 2, .map 3, .map 4, .v (.int .i64 long), .v (.int .i64 give)]])
def wkS (w : Wk) : List (Option Blk) := [wkB 5 w.s.x w.s.y w.s.d w.trail.length w.count w.long w.give, some (.mp (mE bA w.onto)), some (.mp (mE iA w.wrote)), some (.mp (mE bA w.fronts)), some (.mp (mE bA w.road)), trB w.trail]
/-- Behind a call: the trail's row lies at another place. -/
def wkE (w : Wk) : List (Option Blk) := [wkB 6 w.s.x w.s.y w.s.d w.trail.length w.count w.long w.give, some (.mp (mE bA w.onto)), some (.mp (mE iA w.wrote)), some (.mp (mE bA w.fronts)), some (.mp (mE bA w.road)), none, trB w.trail]
theorem trA_getL (l : List Sd) (k : Nat) (h : k < l.length) : (trA l).getD k .junk = .agg [.v (.int .i64 (l.getD k default).x), .v (.int .i64 (l.getD k default).y), .v (.int .i64 (l.getD k default).d)] := trA_get l k h
theorem pop_con (w : Wk) (n : Nat) (hn : n + 1 = w.trail.length) (hl : w.trail.length < 1000000000000) : Con Try.prog 103 [.ptr 0 11 0 3] (wkS w)
    fun r h' => r = sdA (w.trail.getD n default) ∧ h' = wkE { w with trail := w.trail.take n } := by
  have hlen : (w.trail.take n).length = n := by rw [List.length_take]; omega
  refine Con.keep (r := sdA (w.trail.getD n default)) (h1 := [wkB 5 w.s.x w.s.y w.s.d n w.count w.long w.give, some (.mp (mE bA w.onto)), some (.mp (mE iA w.wrote)), some (.mp (mE bA w.fronts)), some (.mp (mE bA w.road)), some (.row 93 3 ((trA w.trail).take n)), some (.row 93 3 [sdA (w.trail.getD n default)]), some (.row 93 3 [sdA (w.trail.getD n default)])]) ?_ [0, 1, 2, 3, 4, 8, 5] ?_ ?_ (by decide) (stay_of rfl)
  · refine Con.cut (h1 := [wkB 5 w.s.x w.s.y w.s.d n w.count w.long w.give, some (.mp (mE bA w.onto)), some (.mp (mE iA w.wrote)), some (.mp (mE bA w.fronts)), some (.mp (mE bA w.road)), trB w.trail, some (.row 93 3 [sdA (w.trail.getD n default)]), some (.row 93 3 [sdA (w.trail.getD n default)])]) (id := 5) ?_ n rfl rfl
    refine con_run 1000 Try.func103 rfl Try.results103 Try.ntmps103 (Nat.le_of_ble_eq_true rfl) ?_
    have e1 : IntKind.i64.wrap ((w.trail.length : Int) - 1) = (n : Int) := by rw [wrap64 (by omega) (by omega)]; omega
    have h1 : (n < w.trail.length) = True := by simp; omega
    have h2 : ((n : Int) < (w.trail.length : Int)) = True := by simp; omega
    have g := trA_getL w.trail n (by omega)
    simp (maxSteps := 1000000) -implicitDefEqProofs only [go_sem, ↓reduceIte, reduceCtorEq, Nat.reduceEqDiff, Nat.reduceLT, Nat.reduceAdd, Nat.reduceLeDiff, wkS, wkB, trB, e1, h1, h2, g]
    (repeat' (first | exact trivial | contradiction | exact ⟨_, rfl⟩ | refine And.intro ?_ ?_ | ((first | show (_ : Nat) ≤ _ | show (_ : Nat) < _ | show (_ : Int) ≤ _ | show (_ : Int) < _); omega) | ((first | refine wait_draw 1000 mixed (by decide +kernel) ?_ | refine wait_drawV (fun id => id == 0 || id == lastK) 1000 mixed (by decide +kernel) ?_); simp (maxSteps := 1000000) -implicitDefEqProofs only [go_sem, ↓reduceIte, reduceCtorEq, Nat.reduceEqDiff, Nat.reduceLT, Nat.reduceAdd, Nat.reduceLeDiff, wkB, trB, e1, h1, h2, g]) | intro _))
    all_goals rfl
  · simp (maxSteps := 1000000) -implicitDefEqProofs only [go_sem, ↓reduceIte, reduceCtorEq, Nat.reduceEqDiff, Nat.reduceLT, Nat.reduceAdd, Nat.reduceLeDiff, sdA]
  · simp (maxSteps := 1000000) -implicitDefEqProofs only [go_sem, ↓reduceIte, reduceCtorEq, Nat.reduceEqDiff, Nat.reduceLT, Nat.reduceAdd, Nat.reduceLeDiff, wkB, wkE, trB, trA_takeN, hlen, sdA]
end Go.Proofs.Ytiipggfhjkalfaa
/- What a tape means: digits and turns. -/
set_option linter.unusedSimpArgs false
set_option linter.unusedVariables false
set_option maxRecDepth 20000
open Go Go.Proofs
namespace Go.Proofs.Ytiipggfhjkalfaa
open Pm
attribute [local irreducible] Wait CallT CallW NextT Le Weak
theorem mnmx_max (a b : Int) : mnmx true a b = max a b := by simp only [mnmx, if_true]; split <;> omega
theorem mnmx_min (a b : Int) : mnmx false a b = min a b := by simp only [mnmx, Bool.false_eq_true, if_false]; split <;> omega
theorem size_wk (l : List Sd) (c : Int) (o : List (Pl × Bool)) (wr : List (Pl × Int)) (f rd : List (Pl × Bool)) (lo gi : Int) (hl : l.length < 1000000000000) : PCon Try.prog 102 [.fptr [.fsl 3 (trA l), .v (.int .i64 c), .fmap (mK o) (mV bA o), .fmap (mK wr) (mV iA wr),
    .fmap (mK f) (mV bA f), .fmap (mK rd) (mV bA rd), .v (.int .i64 lo), .v (.int .i64 gi)]] (· = .v (.int .i64 l.length)) := size_pc l _ (by omega)
def giveD (w : Wk) (k : Int) : Int := IntKind.i64.wrap (w.give + IntKind.i64.wrap (IntKind.i64.wrap (2 * (w.trail.length : Int)) + k))
def digitW (w : Wk) (s : Int) : Wk := { w with give := giveD w 2, count := min (16 * w.count + s - 8) 255 }
def turnW (w : Wk) (s : Int) : Wk := { w with give := giveD w 2, s := { w.s with d := (w.s.d + 1 + 2 * (s - 6)).tmod 4 }, count := 0 }
theorem digit_con (w : Wk) (s : Int) (hl : w.trail.length < 1000000000000) (hc : 0 ≤ w.count) (hc' : w.count ≤ 255) (hs : 0 ≤ s) (hs' : s < 200) : Con Try.prog 84 [.ptr 0 11 0 0, .v (.int .i64 s)] (wkS w)
    fun r h' => r = .v (.int .i64 0) ∧ h' = wkS (digitW w s) := by
  refine con_run 1000 Try.func84 rfl Try.results84 Try.ntmps84 (Nat.le_of_ble_eq_true rfl) ?_
  have e1 : IntKind.i64.wrap (16 * w.count) = 16 * w.count := wrap64 (by omega) (by omega)
  have e2 : IntKind.i64.wrap (16 * w.count + s) = 16 * w.count + s := wrap64 (by omega) (by omega)
  have e3 : IntKind.i64.wrap (16 * w.count + s - 8) = 16 * w.count + s - 8 := wrap64 (by omega) (by omega)
  have e4 : mnmx false (16 * w.count + s - 8) 255 = min (16 * w.count + s - 8) 255 := by simp only [mnmx, Bool.false_eq_true, if_false]; split <;> omega
  simp (maxSteps := 1000000) -implicitDefEqProofs only [go_sem, ↓reduceIte, reduceCtorEq, Nat.reduceEqDiff, Nat.reduceLT, Nat.reduceAdd, Nat.reduceLeDiff, Nat.reduceMul, Nat.reduceSub, Int.reduceToNat, Int.reduceLT, Int.reduceLE, Int.reduceEq, Int.reduceBNe, Nat.reduceBEq, wkS, wkB, trB, e1, e2, e3, e4]
  (repeat' (first | exact trivial | contradiction | exact ⟨_, rfl⟩ | refine And.intro ?_ ?_ | ((first | show (_ : Nat) ≤ _ | show (_ : Nat) < _ | show (_ : Int) ≤ _ | show (_ : Int) < _); omega) | (refine wait_draw 1000 mixed (by decide +kernel) ?_; simp (maxSteps := 1000000) -implicitDefEqProofs only [go_sem, ↓reduceIte, reduceCtorEq, Nat.reduceEqDiff, Nat.reduceLT, Nat.reduceAdd, Nat.reduceLeDiff, Nat.reduceMul, Nat.reduceSub, Int.reduceToNat, Int.reduceLT, Int.reduceLE, Int.reduceEq, Int.reduceBNe, Nat.reduceBEq, wkS, wkB, trB, e1, e2, e3, e4]) | ((first | refine call_eq_read 1000 (size_wk w.trail w.count w.onto w.wrote w.fronts w.road w.long w.give hl) ?_ ?_ ?_ rfl | refine call_draw_read 1000 (size_wk w.trail w.count w.onto w.wrote w.fronts w.road w.long w.give hl) ?_ ?_ ?_); (focus (simp (maxSteps := 1000000) -implicitDefEqProofs only [go_sem, ↓reduceIte, reduceCtorEq, Nat.reduceEqDiff, Nat.reduceLT, Nat.reduceAdd, Nat.reduceLeDiff, Nat.reduceMul, Nat.reduceSub, Int.reduceToNat, Int.reduceLT, Int.reduceLE, Int.reduceEq, Int.reduceBNe, Nat.reduceBEq, wkS, wkB, trB, e1, e2, e3, e4]; done)); (focus ((first | intro ext | skip); simp (maxSteps := 1000000) -implicitDefEqProofs only [go_sem, ↓reduceIte, reduceCtorEq, Nat.reduceEqDiff, Nat.reduceLT, Nat.reduceAdd, Nat.reduceLeDiff, Nat.reduceMul, Nat.reduceSub, Int.reduceToNat, Int.reduceLT, Int.reduceLE, Int.reduceEq, Int.reduceBNe, Nat.reduceBEq, wkS, wkB, trB, e1, e2, e3, e4]; done)); simp (maxSteps := 1000000) -implicitDefEqProofs only [go_sem, ↓reduceIte, reduceCtorEq, Nat.reduceEqDiff, Nat.reduceLT, Nat.reduceAdd, Nat.reduceLeDiff, Nat.reduceMul, Nat.reduceSub, Int.reduceToNat, Int.reduceLT, Int.reduceLE, Int.reduceEq, Int.reduceBNe, Nat.reduceBEq, wkS, wkB, trB, e1, e2, e3, e4]) | intro _))
  all_goals rfl
theorem turn_con (w : Wk) (s : Int) (hl : w.trail.length < 1000000000000) (hd : 0 ≤ w.s.d) (hd' : w.s.d < 4) (hs : 6 ≤ s) (hs' : s < 8) : Con Try.prog 83 [.ptr 0 11 0 0, .v (.int .i64 s)] (wkS w)
    fun r h' => r = .v (.int .i64 0) ∧ h' = wkS (turnW w s) := by
  refine con_run 1000 Try.func83 rfl Try.results83 Try.ntmps83 (Nat.le_of_ble_eq_true rfl) ?_
  have e1 : IntKind.i64.wrap (w.s.d + 1) = w.s.d + 1 := wrap64 (by omega) (by omega)
  have e2 : IntKind.i64.wrap (s - 6) = s - 6 := wrap64 (by omega) (by omega)
  have e3 : IntKind.i64.wrap (2 * (s - 6)) = 2 * (s - 6) := wrap64 (by omega) (by omega)
  have e4 : IntKind.i64.wrap (w.s.d + 1 + 2 * (s - 6)) = w.s.d + 1 + 2 * (s - 6) := wrap64 (by omega) (by omega)
  simp (maxSteps := 1000000) -implicitDefEqProofs only [go_sem, ↓reduceIte, reduceCtorEq, Nat.reduceEqDiff, Nat.reduceLT, Nat.reduceAdd, Nat.reduceLeDiff, Nat.reduceMul, Nat.reduceSub, Int.reduceToNat, Int.reduceLT, Int.reduceLE, Int.reduceEq, Int.reduceBNe, Nat.reduceBEq, wkS, wkB, trB, e1, e2, e3, e4]
  (repeat' (first | exact trivial | contradiction | exact ⟨_, rfl⟩ | refine And.intro ?_ ?_ | ((first | show (_ : Nat) ≤ _ | show (_ : Nat) < _ | show (_ : Int) ≤ _ | show (_ : Int) < _); omega) | (refine wait_draw 1000 mixed (by decide +kernel) ?_; simp (maxSteps := 1000000) -implicitDefEqProofs only [go_sem, ↓reduceIte, reduceCtorEq, Nat.reduceEqDiff, Nat.reduceLT, Nat.reduceAdd, Nat.reduceLeDiff, Nat.reduceMul, Nat.reduceSub, Int.reduceToNat, Int.reduceLT, Int.reduceLE, Int.reduceEq, Int.reduceBNe, Nat.reduceBEq, wkS, wkB, trB, e1, e2, e3, e4]) | ((first | refine call_eq_read 1000 (size_wk w.trail w.count w.onto w.wrote w.fronts w.road w.long w.give hl) ?_ ?_ ?_ rfl | refine call_draw_read 1000 (size_wk w.trail w.count w.onto w.wrote w.fronts w.road w.long w.give hl) ?_ ?_ ?_); (focus (simp (maxSteps := 1000000) -implicitDefEqProofs only [go_sem, ↓reduceIte, reduceCtorEq, Nat.reduceEqDiff, Nat.reduceLT, Nat.reduceAdd, Nat.reduceLeDiff, Nat.reduceMul, Nat.reduceSub, Int.reduceToNat, Int.reduceLT, Int.reduceLE, Int.reduceEq, Int.reduceBNe, Nat.reduceBEq, wkS, wkB, trB, e1, e2, e3, e4]; done)); (focus ((first | intro ext | skip); simp (maxSteps := 1000000) -implicitDefEqProofs only [go_sem, ↓reduceIte, reduceCtorEq, Nat.reduceEqDiff, Nat.reduceLT, Nat.reduceAdd, Nat.reduceLeDiff, Nat.reduceMul, Nat.reduceSub, Int.reduceToNat, Int.reduceLT, Int.reduceLE, Int.reduceEq, Int.reduceBNe, Nat.reduceBEq, wkS, wkB, trB, e1, e2, e3, e4]; done)); simp (maxSteps := 1000000) -implicitDefEqProofs only [go_sem, ↓reduceIte, reduceCtorEq, Nat.reduceEqDiff, Nat.reduceLT, Nat.reduceAdd, Nat.reduceLeDiff, Nat.reduceMul, Nat.reduceSub, Int.reduceToNat, Int.reduceLT, Int.reduceLE, Int.reduceEq, Int.reduceBNe, Nat.reduceBEq, wkS, wkB, trB, e1, e2, e3, e4]) | intro _))
  all_goals rfl
end Go.Proofs.Ytiipggfhjkalfaa
