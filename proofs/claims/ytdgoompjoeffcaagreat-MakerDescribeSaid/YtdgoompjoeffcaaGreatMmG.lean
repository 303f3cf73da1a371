import Derived.Test.YtdgoompjoeffcaaGreatProg
import Derived.Test.YtdgoompjoeffcaaGreatPmY
import Derived.Test.YtdgoompjoeffcaaGreatMmE
/- What a tape means: digits and turns. -/
set_option linter.unusedSimpArgs false
set_option linter.unusedVariables false
set_option maxRecDepth 20000
open Go Go.Proofs
namespace Go.Proofs.YtdgoompjoeffcaaGreat
open Pm
attribute [local irreducible] Wait CallT CallW NextT Le Weak
theorem mnmx_max (a b : Int) : mnmx true a b = max a b := by simp only [mnmx, if_true]; split <;> omega
theorem mnmx_min (a b : Int) : mnmx false a b = min a b := by simp only [mnmx, Bool.false_eq_true, if_false]; split <;> omega
theorem size_wk (l : List Sd) (c : Int) (o : List (Pl × Bool)) (wr : List (Pl × Int)) (f rd : List (Pl × Bool)) (lo gi : Int) (hl : l.length < 1000000000000) : PCon Tryz.prog 73 [.fptr [.fsl 3 (trA l), .v (.int .i64 c), .fmap (mK o) (mV bA o), .fmap (mK wr) (mV iA wr),
    .fmap (mK f) (mV bA f), .fmap (mK rd) (mV bA rd), .v (.int .i64 lo), .v (.int .i64 gi)]] (· = .v (.int .i64 l.length)) := size_pc l _ (by omega)
def giveD (w : Wk) (k : Int) : Int := IntKind.i64.wrap (w.give + IntKind.i64.wrap (IntKind.i64.wrap (2 * (w.trail.length : Int)) + k))
def digitW (w : Wk) (s : Int) : Wk := { w with give := giveD w 2, count := min (16 * w.count + s - 8) 255 }
def turnW (w : Wk) (s : Int) : Wk := { w with give := giveD w 2, s := { w.s with d := (w.s.d + 1 + 2 * (s - 6)).tmod 4 }, count := 0 }
theorem digit_con (w : Wk) (s : Int) (hl : w.trail.length < 1000000000000) (hc : 0 ≤ w.count) (hc' : w.count ≤ 255) (hs : 0 ≤ s) (hs' : s < 200) : Con Tryz.prog 47 [.ptr 0 11 0 0, .v (.int .i64 s)] (wkS w)
    fun r h' => r = .v (.int .i64 0) ∧ h' = wkS (digitW w s) := by
  refine con_run 1000 Tryz.func47 rfl Tryz.results47 Tryz.ntmps47 (Nat.le_of_ble_eq_true rfl) ?_
  have e1 : IntKind.i64.wrap (16 * w.count) = 16 * w.count := wrap64 (by omega) (by omega)
  have e2 : IntKind.i64.wrap (16 * w.count + s) = 16 * w.count + s := wrap64 (by omega) (by omega)
  have e3 : IntKind.i64.wrap (16 * w.count + s - 8) = 16 * w.count + s - 8 := wrap64 (by omega) (by omega)
  have e4 : mnmx false (16 * w.count + s - 8) 255 = min (16 * w.count + s - 8) 255 := by simp only [mnmx, Bool.false_eq_true, if_false]; split <;> omega
  simp -implicitDefEqProofs only [go_sem, wkS, wkB, trB, e1, e2, e3, e4]
  (repeat' (first | exact trivial | contradiction | exact ⟨_, rfl⟩ | refine And.intro ?_ ?_ | (refine om ?_; omega) | (refine wait_draw 1000 mixed (by decide +kernel) ?_; simp -implicitDefEqProofs only [go_sem, wkS, wkB, trB, e1, e2, e3, e4]) | ((first | refine call_eq_read 1000 (size_wk w.trail w.count w.onto w.wrote w.fronts w.road w.long w.give hl) ?_ ?_ ?_ rfl | refine call_draw_read 1000 (size_wk w.trail w.count w.onto w.wrote w.fronts w.road w.long w.give hl) ?_ ?_ ?_); (focus (simp -implicitDefEqProofs only [go_sem, wkS, wkB, trB, e1, e2, e3, e4]; done)); (focus ((first | intro ext | skip); simp -implicitDefEqProofs only [go_sem, wkS, wkB, trB, e1, e2, e3, e4]; done)); simp -implicitDefEqProofs only [go_sem, wkS, wkB, trB, e1, e2, e3, e4]) | intro _))
  all_goals rfl
theorem turn_con (w : Wk) (s : Int) (hl : w.trail.length < 1000000000000) (hd : 0 ≤ w.s.d) (hd' : w.s.d < 4) (hs : 6 ≤ s) (hs' : s < 8) : Con Tryz.prog 46 [.ptr 0 11 0 0, .v (.int .i64 s)] (wkS w)
    fun r h' => r = .v (.int .i64 0) ∧ h' = wkS (turnW w s) := by
  refine con_run 1000 Tryz.func46 rfl Tryz.results46 Tryz.ntmps46 (Nat.le_of_ble_eq_true rfl) ?_
  have e1 : IntKind.i64.wrap (w.s.d + 1) = w.s.d + 1 := wrap64 (by omega) (by omega)
  have e2 : IntKind.i64.wrap (s - 6) = s - 6 := wrap64 (by omega) (by omega)
  have e3 : IntKind.i64.wrap (2 * (s - 6)) = 2 * (s - 6) := wrap64 (by omega) (by omega)
  have e4 : IntKind.i64.wrap (w.s.d + 1 + 2 * (s - 6)) = w.s.d + 1 + 2 * (s - 6) := wrap64 (by omega) (by omega)
  simp -implicitDefEqProofs only [go_sem, wkS, wkB, trB, e1, e2, e3, e4]
  (repeat' (first | exact trivial | contradiction | exact ⟨_, rfl⟩ | refine And.intro ?_ ?_ | (refine om ?_; omega) | (refine wait_draw 1000 mixed (by decide +kernel) ?_; simp -implicitDefEqProofs only [go_sem, wkS, wkB, trB, e1, e2, e3, e4]) | ((first | refine call_eq_read 1000 (size_wk w.trail w.count w.onto w.wrote w.fronts w.road w.long w.give hl) ?_ ?_ ?_ rfl | refine call_draw_read 1000 (size_wk w.trail w.count w.onto w.wrote w.fronts w.road w.long w.give hl) ?_ ?_ ?_); (focus (simp -implicitDefEqProofs only [go_sem, wkS, wkB, trB, e1, e2, e3, e4]; done)); (focus ((first | intro ext | skip); simp -implicitDefEqProofs only [go_sem, wkS, wkB, trB, e1, e2, e3, e4]; done)); simp -implicitDefEqProofs only [go_sem, wkS, wkB, trB, e1, e2, e3, e4]) | intro _))
  all_goals rfl
end Go.Proofs.YtdgoompjoeffcaaGreat
/- What a tape means: steps ahead. -/
namespace Go.Proofs.YtdgoompjoeffcaaGreat
open Pm
attribute [local irreducible] Wait CallT CallW NextT Le Weak
/-- One step ahead: how it ends, and the walker behind it. -/
def fwdR (w : Wk) : Int × Wk :=
  let n := onP (w.s.x, w.s.y) w.s.d
  if n.1 < -4000 ∨ 4000 < n.1 ∨ n.2 < -4000 ∨ -1 < n.2 then (74, w)
  else if aget false n w.onto = true ∨ aget 0 n w.wrote ≠ 0 ∨ aget false n w.fronts = true then (70, w)
  else
    let w' := { w with trail := w.trail ++ [w.s], onto := aput (w.s.x, w.s.y) true w.onto, s := ⟨n.1, n.2, w.s.d⟩, road := aput n true w.road }
    if 65536 < w'.road.length then (74, w') else (0, { w' with long := max w.long w'.trail.length })
def fwdN : Nat → Wk → Int × Wk
  | 0, w => (0, w)
  | k + 1, w => let r := fwdR w; if r.1 = 0 then fwdN k r.2 else r
/-- What a walker may be. -/
structure SdOk (s : Sd) : Prop where
  x : -4000 ≤ s.x ∧ s.x ≤ 4000
  y : -4000 ≤ s.y ∧ s.y ≤ 1
  d : 0 ≤ s.d ∧ s.d < 4
structure WkOk (w : Wk) (n : Nat) : Prop where
  tl : w.trail.length ≤ n
  ne : 0 < w.trail.length
  s : SdOk w.s
  all : ∀ t, t ∈ w.trail → SdOk t
def paidW (w : Wk) (k : Int → Int) : Wk := { w with give := IntKind.i64.wrap (w.give + k (IntKind.i64.wrap (2 * (w.trail.length : Int)))), count := 0 }
theorem fwdN_bad {k : Nat} {w : Wk} (h : (fwdR w).1 ≠ 0) : fwdN (k + 1) w = fwdR w := by simp only [fwdN, if_neg h]
theorem fwdN_ok {k : Nat} {w : Wk} (h : (fwdR w).1 = 0) : fwdN (k + 1) w = fwdN k (fwdR w).2 := by simp only [fwdN, if_pos h]
def fwdW (v : Wk) (a b : Int) : Wk := { v with trail := v.trail ++ [v.s], onto := aput (v.s.x, v.s.y) true v.onto, s := ⟨a, b, v.s.d⟩, road := aput (a, b) true v.road }
section
variable {v : Wk} {a b : Int}
theorem fwdR_room (hab : onP (v.s.x, v.s.y) v.s.d = (a, b)) (h : a < -4000 ∨ 4000 < a ∨ b < -4000 ∨ -1 < b) : fwdR v = (74, v) := by simp only [fwdR, hab, if_pos h]
theorem fwdR_reach (hab : onP (v.s.x, v.s.y) v.s.d = (a, b)) (h : ¬ (a < -4000 ∨ 4000 < a ∨ b < -4000 ∨ -1 < b)) (h2 : aget false (a, b) v.onto = true ∨ aget 0 (a, b) v.wrote ≠ 0 ∨ aget false (a, b) v.fronts = true) : fwdR v = (70, v) := by
  simp only [fwdR, hab, if_neg h, if_pos h2]
theorem fwdR_full (hab : onP (v.s.x, v.s.y) v.s.d = (a, b)) (h : ¬ (a < -4000 ∨ 4000 < a ∨ b < -4000 ∨ -1 < b)) (h2 : ¬ (aget false (a, b) v.onto = true ∨ aget 0 (a, b) v.wrote ≠ 0 ∨ aget false (a, b) v.fronts = true)) (h3 : 65536 < (aput (a, b) true v.road).length) : fwdR v = (74, fwdW v a b) := by
  simp only [fwdR, hab, if_neg h, if_neg h2, if_pos h3, fwdW]
theorem fwdR_ok (hab : onP (v.s.x, v.s.y) v.s.d = (a, b)) (h : ¬ (a < -4000 ∨ 4000 < a ∨ b < -4000 ∨ -1 < b)) (h2 : ¬ (aget false (a, b) v.onto = true ∨ aget 0 (a, b) v.wrote ≠ 0 ∨ aget false (a, b) v.fronts = true)) (h3 : ¬ 65536 < (aput (a, b) true v.road).length) :
    fwdR v = (0, { fwdW v a b with long := max v.long (v.trail ++ [v.s]).length }) := by
  simp only [fwdR, hab, if_neg h, if_neg h2, if_neg h3, fwdW]
end
def fwS (C : Nat) (b : Nat × Wk) : St := ⟨126, 6, [(0, .ptr 0 11 0 0), (25, .v (.int .i64 (C : Int))), (26, .v (.int .i64 (b.1 : Int)))], wkE b.2⟩
theorem forth_con (w : Wk) (s : Int) (n : Nat) (hw : WkOk w n) (hn : n < 900000000000) (hc : 0 ≤ w.count) (hc' : w.count ≤ 255) : Con Tryz.prog 45 [.ptr 0 11 0 0, .v (.int .i64 s)] (wkS w)
    fun r h' => ∃ e w', fwdN (max w.count 1).toNat (paidW w fun l => IntKind.i64.wrap (IntKind.i64.wrap (l + IntKind.i64.wrap (3 * (max w.count 1))) + 2)) = (e, w') ∧ r = .v (.int .i64 e) ∧ 6 ≤ h'.length ∧ (e = 0 → h' = wkE w') := by
  refine con_run 1000 Tryz.func45 rfl Tryz.results45 Tryz.ntmps45 (Nat.le_of_ble_eq_true rfl) ?_
  obtain ⟨C, hC⟩ : ∃ C, C = (max w.count 1).toNat := ⟨_, rfl⟩
  have hC' : max w.count 1 = (C : Int) := by omega
  have hCm : C ≤ 255 := by omega
  rw [← hC]
  simp -implicitDefEqProofs only [go_sem, wkS, wkB, trB]
  (repeat' (first | exact trivial | contradiction | exact ⟨_, rfl⟩ | refine And.intro ?_ ?_ | (refine om ?_; omega) | (refine wait_draw 1000 mixed (by decide +kernel) ?_; simp -implicitDefEqProofs only [go_sem, wrowA, wkS, wkB, trB, hC']) | ((first | refine call_con_eq 1000 [0,1,2,3,4,5] (times_con w.count (.v (.int .i64 w.s.x)) (.v (.int .i64 w.s.y)) (.v (.int .i64 w.s.d)) (.sl 5 3 0 w.trail.length) (.map 1) (.map 2) (.map 3) (.map 4) (.v (.int .i64 w.long)) (.v (.int .i64 w.give)) [some (.mp (mE bA w.onto)), some (.mp (mE iA w.wrote)), some (.mp (mE bA w.fronts)), some (.mp (mE bA w.road)), trB w.trail]) ?_ ?_ ?_ | refine call_draw_con 1000 [0,1,2,3,4,5] (times_con w.count (.v (.int .i64 w.s.x)) (.v (.int .i64 w.s.y)) (.v (.int .i64 w.s.d)) (.sl 5 3 0 w.trail.length) (.map 1) (.map 2) (.map 3) (.map 4) (.v (.int .i64 w.long)) (.v (.int .i64 w.give)) [some (.mp (mE bA w.onto)), some (.mp (mE iA w.wrote)), some (.mp (mE bA w.fronts)), some (.mp (mE bA w.road)), trB w.trail]) (by decide +kernel) ?_ ?_ ?_); (focus (simp -implicitDefEqProofs only [go_sem, wrowA, wkS, wkB, trB, hC']; done)); (focus (simp -implicitDefEqProofs only [go_sem, wrowA, wkS, wkB, trB, hC']; done)); simp -implicitDefEqProofs only [go_sem, wrowA, wkS, wkB, trB, hC']) | ((first | refine call_eq_read 1000 (size_wk w.trail 0 w.onto w.wrote w.fronts w.road w.long w.give (Nat.lt_of_le_of_lt hw.tl (by omega))) ?_ ?_ ?_ rfl | refine call_draw_read 1000 (size_wk w.trail 0 w.onto w.wrote w.fronts w.road w.long w.give (Nat.lt_of_le_of_lt hw.tl (by omega))) ?_ ?_ ?_); (focus (simp -implicitDefEqProofs only [go_sem, wrowA, wkS, wkB, trB, hC']; done)); (focus ((first | intro ext | skip); simp -implicitDefEqProofs only [go_sem, wrowA, wkS, wkB, trB, hC']; done)); simp -implicitDefEqProofs only [go_sem, wrowA, wkS, wkB, trB, hC']) | intro _))
  obtain ⟨w0, hw0⟩ : ∃ w0, w0 = paidW w fun l => IntKind.i64.wrap (IntKind.i64.wrap (l + IntKind.i64.wrap (3 * (C : Int))) + 2) := ⟨_, rfl⟩
  rw [← hw0]
  refine wait_data (fwS C) (fun b => b.1 ≤ C ∧ WkOk b.2 (n + b.1) ∧ fwdN (C - b.1) b.2 = fwdN C w0) (fun b => C - b.1) (0, w0) (weak_to' [0, 25, 26] [0, 1, 2, 3, 4, 100, 5] ?_ (by decide) (stay_of rfl)) ⟨Nat.zero_le _, (by rw [hw0]; exact ⟨hw.tl, hw.ne, hw.s, hw.all⟩), rfl⟩ ?_
  · simp -implicitDefEqProofs only [go_sem, St.keep, fwS, wkE, wkB, trB, hw0, paidW, Int.natCast_zero]
  rintro ⟨k, v⟩ ⟨hk, hv, hG⟩
  simp only at hk hv hG
  refine run_sound 1000 _ _ ?_
  by_cases hkC : k < C
  · have hlt : ((k : Int) < (C : Int)) = True := eq_true (by omega)
    obtain ⟨m, hm⟩ : ∃ m, C - k = m + 1 := ⟨C - k - 1, by omega⟩
    obtain ⟨a, b, hab⟩ : ∃ a b, onP (v.s.x, v.s.y) v.s.d = (a, b) := ⟨_, _, rfl⟩
    have hon := on_pc v.s.x v.s.y v.s.d hv.s.d.1 hv.s.d.2 (by have := hv.s.x; omega) (by have := hv.s.x; omega) (by have := hv.s.y; omega) (by have := hv.s.y; omega)
    rw [hab] at hon
    have hw1 : IntKind.i64.wrap ((k : Int) + 1) = ((k + 1 : Nat) : Int) := by rw [wrap64 (by omega) (by omega)]; omega
    have htl : v.trail.length < 900000000255 := by have := hv.tl; omega
    have htl2 : (v.trail ++ [(⟨v.s.x, v.s.y, v.s.d⟩ : Sd)]).length < 1000000000000 := by rw [List.length_append, List.length_singleton]; omega
    have hln : (v.trail ++ [(⟨v.s.x, v.s.y, v.s.d⟩ : Sd)]).length = v.trail.length + 1 := by rw [List.length_append, List.length_singleton]
    have hta : (trA (v.trail ++ [(⟨v.s.x, v.s.y, v.s.d⟩ : Sd)])).take (v.trail.length + 1) = trA (v.trail ++ [(⟨v.s.x, v.s.y, v.s.d⟩ : Sd)]) := by rw [← hln]; exact trA_take _
    simp -implicitDefEqProofs only [go_sem, fwS, wkE, wkB, trB, hlt, mget_pl]
    (repeat' (first | exact trivial | contradiction | exact ⟨_, rfl⟩ | refine And.intro ?_ ?_ | (refine om ?_; omega) | (refine wait_draw 1000 mixed (by decide +kernel) ?_; simp -implicitDefEqProofs only [go_sem, wkB, trB, hlt, mget_pl, wrowA, sdA, hln, hta, mnmx_max]) | ((first | refine call_eq 1000 ((show PCon Tryz.prog 74 _ (· = AV.agg [.v (.int .i64 a), .v (.int .i64 b)]) from hon)) ?_ ?_ rfl | refine call_draw 1000 ((show PCon Tryz.prog 74 _ (· = AV.agg [.v (.int .i64 a), .v (.int .i64 b)]) from hon)) ?_ ?_); (focus (simp -implicitDefEqProofs only [go_sem, wkB, trB, hlt, mget_pl, wrowA, sdA, hln, hta, mnmx_max]; done)); simp -implicitDefEqProofs only [go_sem, wkB, trB, hlt, mget_pl, wrowA, sdA, hln, hta, mnmx_max]) | ((first | refine call_con_eq 1000 [0,1,2,3,4,6] (push_con v.trail.length v.trail rfl v.s.x v.s.y v.s.d (.v (.int .i64 v.s.x)) (.v (.int .i64 v.s.y)) (.v (.int .i64 v.s.d)) (.v (.int .i64 v.count)) (.map 1) (.map 2) (.map 3) (.map 4) (.v (.int .i64 v.long)) (.v (.int .i64 v.give)) (some (.mp (mE bA v.onto))) (some (.mp (mE iA v.wrote))) (some (.mp (mE bA v.fronts))) (some (.mp (mE bA v.road))) (Nat.lt_trans htl (by omega))) ?_ ?_ ?_ | refine call_draw_con 1000 [0,1,2,3,4,6] (push_con v.trail.length v.trail rfl v.s.x v.s.y v.s.d (.v (.int .i64 v.s.x)) (.v (.int .i64 v.s.y)) (.v (.int .i64 v.s.d)) (.v (.int .i64 v.count)) (.map 1) (.map 2) (.map 3) (.map 4) (.v (.int .i64 v.long)) (.v (.int .i64 v.give)) (some (.mp (mE bA v.onto))) (some (.mp (mE iA v.wrote))) (some (.mp (mE bA v.fronts))) (some (.mp (mE bA v.road))) (Nat.lt_trans htl (by omega))) (by decide +kernel) ?_ ?_ ?_); (focus (simp -implicitDefEqProofs only [go_sem, wkB, trB, hlt, mget_pl, wrowA, sdA, hln, hta, mnmx_max]; done)); (focus (simp -implicitDefEqProofs only [go_sem, wkB, trB, hlt, mget_pl, wrowA, sdA, hln, hta, mnmx_max]; done)); simp -implicitDefEqProofs only [go_sem, wkB, trB, hlt, mget_pl, wrowA, sdA, hln, hta, mnmx_max]) | ((first | refine call_eq_read 1000 (size_wk (v.trail ++ [⟨v.s.x, v.s.y, v.s.d⟩]) v.count (aput (v.s.x, v.s.y) true v.onto) v.wrote v.fronts (aput (a, b) true v.road) v.long v.give htl2) ?_ ?_ ?_ rfl | refine call_draw_read 1000 (size_wk (v.trail ++ [⟨v.s.x, v.s.y, v.s.d⟩]) v.count (aput (v.s.x, v.s.y) true v.onto) v.wrote v.fronts (aput (a, b) true v.road) v.long v.give htl2) ?_ ?_ ?_); (focus (simp -implicitDefEqProofs only [go_sem, wkB, trB, hlt, mget_pl, wrowA, sdA, hln, hta, mnmx_max]; done)); (focus ((first | intro ext | skip); simp -implicitDefEqProofs only [go_sem, wkB, trB, hlt, mget_pl, wrowA, sdA, hln, hta, mnmx_max]; done)); simp -implicitDefEqProofs only [go_sem, wkB, trB, hlt, mget_pl, wrowA, sdA, hln, hta, mnmx_max]) | intro _))
    all_goals first
      | (refine ⟨74, v, ?_, rfl, fun h => by omega⟩
         have hr := fwdR_room hab (by omega)
         rw [← hG, hm, show fwdN (m + 1) v = fwdR v from fwdN_bad (by rw [hr]; simp), hr])
      | (have h2 : aget false (a, b) v.onto = true ∨ aget 0 (a, b) v.wrote ≠ 0 ∨ aget false (a, b) v.fronts = true := by first | exact .inl ‹_› | exact .inr (.inl ‹_›) | exact .inr (.inr ‹_›)
         refine ⟨70, v, ?_, rfl, fun h => by omega⟩
         have hr := fwdR_reach hab (by omega) h2
         rw [← hG, hm, show fwdN (m + 1) v = fwdR v from fwdN_bad (by rw [hr]; simp), hr])
      | (have h2 : ¬ (aget false (a, b) v.onto = true ∨ aget 0 (a, b) v.wrote ≠ 0 ∨ aget false (a, b) v.fronts = true) := by
           rintro (h | h | h)
           · rw [‹aget false (a, b) v.onto = false›] at h; cases h
           · exact h ‹_›
           · rw [‹aget false (a, b) v.fronts = false›] at h; cases h
         have h3 : 65536 < (aput (a, b) true v.road).length := by omega
         refine ⟨74, fwdW v a b, ?_, rfl, fun h => by omega⟩
         have hr := fwdR_full hab (by omega) h2 h3
         rw [← hG, hm, show fwdN (m + 1) v = fwdR v from fwdN_bad (by rw [hr]; simp), hr])
      | (have h2 : ¬ (aget false (a, b) v.onto = true ∨ aget 0 (a, b) v.wrote ≠ 0 ∨ aget false (a, b) v.fronts = true) := by
           rintro (h | h | h)
           · rw [‹aget false (a, b) v.onto = false›] at h; cases h
           · exact h ‹_›
           · rw [‹aget false (a, b) v.fronts = false›] at h; cases h
         have h3 : ¬ 65536 < (aput (a, b) true v.road).length := by omega
         have hok := fwdR_ok hab (by omega) h2 h3
         refine ⟨(k + 1, (fwdR v).2), ?_, ⟨?_, ?_, ?_⟩, ?_⟩
         · show C - (k + 1) < C - k; omega
         · show k + 1 ≤ C; omega
         · rw [hok]
           refine ⟨by have := hv.tl; simp [fwdW]; omega, by simp [fwdW], ⟨by simp only [fwdW]; omega, by simp only [fwdW]; omega, hv.s.d⟩, fun t ht => ?_⟩
           simp only [fwdW, List.mem_append, List.mem_singleton] at ht
           rcases ht with ht | rfl
           · exact hv.all t ht
           · exact hv.s
         · show fwdN (C - (k + 1)) (fwdR v).2 = _
           rw [← hG, hm, show fwdN (m + 1) v = fwdN m (fwdR v).2 from fwdN_ok (by rw [hok]), show C - (k + 1) = m by omega]
         · rw [hok]
           refine weak_to' [0, 25, 26] [0, 1, 2, 3, 4, 100, 10] ?_ (by decide) (stay_of rfl)
           simp -implicitDefEqProofs only [go_sem, St.keep, wkB, trB, hw1, hln, hta, mnmx_max, fwdW])
  · have hlt : ((k : Int) < (C : Int)) = False := eq_false (by omega)
    simp -implicitDefEqProofs only [go_sem, fwS, wkE, wkB, trB, hlt]
    refine ⟨0, v, ?_, rfl, fun _ => rfl⟩
    rw [← hG, show C - k = 0 by omega]
    rfl
end Go.Proofs.YtdgoompjoeffcaaGreat
