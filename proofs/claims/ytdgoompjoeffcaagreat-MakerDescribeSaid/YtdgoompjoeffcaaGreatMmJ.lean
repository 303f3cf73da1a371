import Derived.Test.YtdgoompjoeffcaaGreatProg
import Derived.Test.YtdgoompjoeffcaaGreatPmY
import Derived.Test.YtdgoompjoeffcaaGreatMmG
/- What a tape means: writing. -/
set_option linter.unusedSimpArgs false
set_option linter.unusedVariables false
set_option maxRecDepth 20000
open Go Go.Proofs
namespace Go.Proofs.YtdgoompjoeffcaaGreat
open Pm
attribute [local irreducible] Wait CallT CallW NextT Le Weak
def kindOf (s : Int) : Int := (YardOfE s).1.getD 0 0
def dirOf (s : Int) : Int := (YardOfE s).1.getD 1 0
theorem digs_keep : ∀ (F : List (Nat × Nat)) (y : List Int) (r : Int), (∀ p ∈ F, 2 ≤ p.2) → (digs F y r).1.getD 1 0 = y.getD 1 0
  | [], _, _, _ => rfl
  | f :: F, y, r, h => by
    have h1 := digs_keep F (y.set f.2 (r % f.1)) (r / f.1) (fun p hp => h p (List.mem_cons_of_mem _ hp))
    have h2 : digs (f :: F) y r = digs F (y.set f.2 (r % f.1)) (r / f.1) := rfl
    rw [h2, h1]
    have := h f (by simp)
    rw [List.getD_eq_getElem?_getD, List.getElem?_set_ne (by omega), List.getD_eq_getElem?_getD]
theorem yardOf_len (s : Int) : (YardOfE s).1.length = 10 := by
  unfold YardOfE
  split
  · rfl
  · rename_i h
    split
    · exact (digs_ok _ _ _ (by rfl) (by omega) fun p hp => (kindF_ok _ p hp).2.2.1).1
    · rfl
theorem dir_ok (s : Int) : 0 ≤ dirOf s ∧ dirOf s < 4 := by
  unfold dirOf YardOfE
  split
  · simp [zero10]
  · split
    · simp only
      rw [digs_keep _ _ _ fun p hp => (kindF_ok _ p hp).2.1]
      simp only [part0, List.getD_cons_succ, List.getD_cons_zero]
      omega
    · simp [zero10]
theorem yard10 (s : Int) : ∃ a2 a3 a4 a5 a6 a7 a8 a9, (YardOfE s).1 = [kindOf s, dirOf s, a2, a3, a4, a5, a6, a7, a8, a9] := by
  have h := yardOf_len s
  unfold kindOf dirOf
  generalize (YardOfE s).1 = l at h ⊢
  match l, h with
  | [a0, a1, a2, a3, a4, a5, a6, a7, a8, a9], _ => exact ⟨a2, a3, a4, a5, a6, a7, a8, a9, rfl⟩
theorem wState_nat : ∀ n : Nat, n < 73 → 0 ≤ (YardStateE (WrittenY n)).1 ∧ (YardStateE (WrittenY n)).1 ≤ 1000000 := by decide +kernel
theorem wState_bd (i : Int) : 0 ≤ (WrittenStateE i).1 ∧ (WrittenStateE i).1 ≤ 1000000 := by
  unfold WrittenStateE
  split
  · simp
  · rename_i h
    obtain ⟨n, rfl⟩ : ∃ n : Nat, i = n := ⟨i.toNat, by omega⟩
    exact wState_nat n (by omega)
/-- One state written. -/
def wrR (w : Wk) (s : Int) : Int × Wk :=
  let f := onP (w.s.x, w.s.y) (dirOf s)
  if w.trail.length = 1 ∨ kindOf s = 9 ∧ aget false f w.onto = true then (70, w)
  else
    let t := w.trail.getD (w.trail.length - 1) default
    (0, { w with fronts := if kindOf s = 9 then aput f true w.fronts else w.fronts, wrote := aput (w.s.x, w.s.y) s w.wrote, s := t, trail := w.trail.take (w.trail.length - 1), onto := adel (t.x, t.y) w.onto })
def wrN (s : Int) : Nat → Wk → Int × Wk
  | 0, w => (0, w)
  | k + 1, w => let r := wrR w s; if r.1 = 0 then wrN s k r.2 else r
theorem wrN_bad {s : Int} {k : Nat} {w : Wk} (h : (wrR w s).1 ≠ 0) : wrN s (k + 1) w = wrR w s := by simp only [wrN, if_neg h]
theorem wrN_ok {s : Int} {k : Nat} {w : Wk} (h : (wrR w s).1 = 0) : wrN s (k + 1) w = wrN s k (wrR w s).2 := by simp only [wrN, if_pos h]
def wrW (v : Wk) (s : Int) (t : Sd) (n : Nat) (f : List (Pl × Bool)) : Wk := { v with fronts := f, wrote := aput (v.s.x, v.s.y) s v.wrote, s := t, trail := v.trail.take n, onto := adel (t.x, t.y) v.onto }
section
variable {v : Wk} {q a b : Int} {n : Nat}
theorem wrR_bad (hab : onP (v.s.x, v.s.y) (dirOf q) = (a, b)) (h : v.trail.length = 1 ∨ kindOf q = 9 ∧ aget false (a, b) v.onto = true) : wrR v q = (70, v) := by simp only [wrR, hab, if_pos h]
theorem wrR_arm (hab : onP (v.s.x, v.s.y) (dirOf q) = (a, b)) (hn : n + 1 = v.trail.length) (h : ¬ v.trail.length = 1) (h9 : kindOf q = 9) (h2 : aget false (a, b) v.onto = false) : wrR v q = (0, wrW v q (v.trail.getD n default) n (aput (a, b) true v.fronts)) := by
  have h3 : ¬ (v.trail.length = 1 ∨ kindOf q = 9 ∧ aget false (a, b) v.onto = true) := by rintro (h0 | ⟨_, h0⟩) ; exact h h0 ; rw [h2] at h0 ; cases h0
  simp only [wrR, hab, if_neg h3, if_pos h9, show v.trail.length - 1 = n by omega, wrW]
theorem wrR_other (hab : onP (v.s.x, v.s.y) (dirOf q) = (a, b)) (hn : n + 1 = v.trail.length) (h : ¬ v.trail.length = 1) (h9 : ¬ kindOf q = 9) : wrR v q = (0, wrW v q (v.trail.getD n default) n v.fronts) := by
  have h3 : ¬ (v.trail.length = 1 ∨ kindOf q = 9 ∧ aget false (a, b) v.onto = true) := by rintro (h0 | ⟨h0, _⟩) ; exact h h0 ; exact h9 h0
  simp only [wrR, hab, if_neg h3, if_neg h9, show v.trail.length - 1 = n by omega, wrW]
end
def wrS (i : Int) (C : Nat) (b : Nat × Wk) : St := ⟨98, 6, [(0, .ptr 0 11 0 0), (6, .v (.int .i64 i)), (31, .v (.int .i64 (C : Int))), (32, .v (.int .i64 (b.1 : Int)))], wkE b.2⟩
theorem write_con (w : Wk) (s : Int) (n : Nat) (hw : WkOk w n) (hn : n < 900000000000) (hc : 0 ≤ w.count) (hc' : w.count ≤ 255) (hs : 24 ≤ s) (hs' : s < 97) : Con Tryz.prog 44 [.ptr 0 11 0 0, .v (.int .i64 s)] (wkS w)
    fun r h' => ∃ e w', wrN (WrittenStateE (s - 24)).1 (max w.count 1).toNat (paidW w fun l => IntKind.i64.wrap (IntKind.i64.wrap (l + max w.count 1) + 2)) = (e, w') ∧ r = .v (.int .i64 e) ∧ 6 ≤ h'.length ∧ (e = 0 → h' = wkE w') := by
  refine con_run 1000 Tryz.func44 rfl Tryz.results44 Tryz.ntmps44 (Nat.le_of_ble_eq_true rfl) ?_
  obtain ⟨C, hC⟩ : ∃ C, C = (max w.count 1).toNat := ⟨_, rfl⟩
  have hC' : max w.count 1 = (C : Int) := by omega
  have hCm : C ≤ 255 := by omega
  have es : IntKind.i64.wrap (s - 24) = s - 24 := wrap64 (by omega) (by omega)
  rw [← hC]
  simp -implicitDefEqProofs only [go_sem, wkS, wkB, trB, es]
  (repeat' (first | exact trivial | contradiction | exact ⟨_, rfl⟩ | refine And.intro ?_ ?_ | (refine om ?_; omega) | (refine wait_draw 1000 mixed (by decide +kernel) ?_; simp -implicitDefEqProofs only [go_sem, wrowA, wkS, wkB, trB, hC', es]) | ((first | refine call_con_eq 1000 [0,1,2,3,4,5] (times_con w.count (.v (.int .i64 w.s.x)) (.v (.int .i64 w.s.y)) (.v (.int .i64 w.s.d)) (.sl 5 3 0 w.trail.length) (.map 1) (.map 2) (.map 3) (.map 4) (.v (.int .i64 w.long)) (.v (.int .i64 w.give)) [some (.mp (mE bA w.onto)), some (.mp (mE iA w.wrote)), some (.mp (mE bA w.fronts)), some (.mp (mE bA w.road)), trB w.trail]) ?_ ?_ ?_ | refine call_draw_con 1000 [0,1,2,3,4,5] (times_con w.count (.v (.int .i64 w.s.x)) (.v (.int .i64 w.s.y)) (.v (.int .i64 w.s.d)) (.sl 5 3 0 w.trail.length) (.map 1) (.map 2) (.map 3) (.map 4) (.v (.int .i64 w.long)) (.v (.int .i64 w.give)) [some (.mp (mE bA w.onto)), some (.mp (mE iA w.wrote)), some (.mp (mE bA w.fronts)), some (.mp (mE bA w.road)), trB w.trail]) (by decide +kernel) ?_ ?_ ?_); (focus (simp -implicitDefEqProofs only [go_sem, wrowA, wkS, wkB, trB, hC', es]; done)); (focus (simp -implicitDefEqProofs only [go_sem, wrowA, wkS, wkB, trB, hC', es]; done)); simp -implicitDefEqProofs only [go_sem, wrowA, wkS, wkB, trB, hC', es]) | ((first | refine call_eq_read 1000 (size_wk w.trail 0 w.onto w.wrote w.fronts w.road w.long w.give (Nat.lt_of_le_of_lt hw.tl (by omega))) ?_ ?_ ?_ rfl | refine call_draw_read 1000 (size_wk w.trail 0 w.onto w.wrote w.fronts w.road w.long w.give (Nat.lt_of_le_of_lt hw.tl (by omega))) ?_ ?_ ?_); (focus (simp -implicitDefEqProofs only [go_sem, wrowA, wkS, wkB, trB, hC', es]; done)); (focus ((first | intro ext | skip); simp -implicitDefEqProofs only [go_sem, wrowA, wkS, wkB, trB, hC', es]; done)); simp -implicitDefEqProofs only [go_sem, wrowA, wkS, wkB, trB, hC', es]) | intro _))
  obtain ⟨w0, hw0⟩ : ∃ w0, w0 = paidW w fun l => IntKind.i64.wrap (IntKind.i64.wrap (l + (C : Int)) + 2) := ⟨_, rfl⟩
  rw [← hw0]
  obtain ⟨q, hq⟩ : ∃ q, q = (WrittenStateE (s - 24)).1 := ⟨_, rfl⟩
  rw [← hq]
  refine wait_data (wrS (s - 24) C) (fun b => b.1 ≤ C ∧ WkOk b.2 n ∧ wrN q (C - b.1) b.2 = wrN q C w0) (fun b => C - b.1) (0, w0) (weak_to' [0, 6, 31, 32] [0, 1, 2, 3, 4, 100, 5] ?_ (by decide) (stay_of rfl)) ⟨Nat.zero_le _, (by rw [hw0]; exact ⟨hw.tl, hw.ne, hw.s, hw.all⟩), rfl⟩ ?_
  · simp -implicitDefEqProofs only [go_sem, St.keep, wrS, wkE, wkB, trB, hw0, paidW, Int.natCast_zero]
  rintro ⟨k, v⟩ ⟨hk, hv, hG⟩
  simp only at hk hv hG
  refine run_sound 1000 _ _ ?_
  by_cases hkC : k < C
  · have hlt : ((k : Int) < (C : Int)) = True := eq_true (by omega)
    obtain ⟨m, hm⟩ : ∃ m, C - k = m + 1 := ⟨C - k - 1, by omega⟩
    obtain ⟨a, b, hab⟩ : ∃ a b, onP (v.s.x, v.s.y) (dirOf q) = (a, b) := ⟨_, _, rfl⟩
    have hon := on_pc v.s.x v.s.y (dirOf q) (dir_ok q).1 (dir_ok q).2 (by have := hv.s.x; omega) (by have := hv.s.x; omega) (by have := hv.s.y; omega) (by have := hv.s.y; omega)
    rw [hab] at hon
    obtain ⟨a2, a3, a4, a5, a6, a7, a8, a9, hy⟩ := yard10 q
    have hyp := yardOf_pc q (by have := (wState_bd (s - 24)).2; rw [← hq] at this; omega)
    rw [hy] at hyp
    simp only [yA, iA, List.map_cons, List.map_nil] at hyp
    have hwp := written_pc (s - 24)
    rw [← hq] at hwp
    simp only [iA] at hwp
    obtain ⟨tn, htn⟩ : ∃ tn, tn + 1 = v.trail.length := ⟨v.trail.length - 1, by have := hv.ne; omega⟩
    have htl3 : v.trail.length < 1000000000000 := by have := hv.tl; omega
    have hpop : ¬ v.trail.length = 1 → ∀ f, WkOk (wrW v q (v.trail.getD tn default) tn f) n := fun h0 f => by
      refine ⟨by have := hv.tl; simp [wrW]; omega, by simp [wrW]; omega, ?_, fun t ht => hv.all t (List.mem_of_mem_take ht)⟩
      refine hv.all _ ?_
      rw [List.getD_eq_getElem?_getD, List.getElem?_eq_getElem (by omega)]
      exact List.getElem_mem _
    have hw1 : IntKind.i64.wrap ((k : Int) + 1) = ((k + 1 : Nat) : Int) := by rw [wrap64 (by omega) (by omega)]; omega
    have htl : v.trail.length < 900000000255 := by have := hv.tl; omega
    simp -implicitDefEqProofs only [go_sem, wrS, wkE, wkB, trB, hlt, mget_pl]
    (repeat' (first | exact trivial | contradiction | exact ⟨_, rfl⟩ | refine And.intro ?_ ?_ | (refine om ?_; omega) | (refine wait_draw 1000 mixed (by decide +kernel) ?_; simp -implicitDefEqProofs only [go_sem, wkS, wkE, wkB, trB, hlt, mget_pl, sdA]) | ((first | refine call_eq 1000 (hwp) ?_ ?_ rfl | refine call_draw 1000 (hwp) ?_ ?_ | refine call_eq 1000 (hyp) ?_ ?_ rfl | refine call_draw 1000 (hyp) ?_ ?_ | refine call_eq 1000 ((show PCon Tryz.prog 74 _ (· = AV.agg [.v (.int .i64 a), .v (.int .i64 b)]) from hon)) ?_ ?_ rfl | refine call_draw 1000 ((show PCon Tryz.prog 74 _ (· = AV.agg [.v (.int .i64 a), .v (.int .i64 b)]) from hon)) ?_ ?_); (focus (simp -implicitDefEqProofs only [go_sem, wkS, wkE, wkB, trB, hlt, mget_pl, sdA]; done)); simp -implicitDefEqProofs only [go_sem, wkS, wkE, wkB, trB, hlt, mget_pl, sdA]) | ((first | refine call_con_eq 1000 [0,1,2,3,4,6] (pop_con { v with fronts := aput (a, b) true v.fronts, wrote := aput (v.s.x, v.s.y) q v.wrote } tn htn htl3) ?_ ?_ ?_ | refine call_draw_con 1000 [0,1,2,3,4,6] (pop_con { v with fronts := aput (a, b) true v.fronts, wrote := aput (v.s.x, v.s.y) q v.wrote } tn htn htl3) (by decide +kernel) ?_ ?_ ?_); (focus (simp -implicitDefEqProofs only [go_sem, wkS, wkE, wkB, trB, hlt, mget_pl, sdA]; done)); (focus (simp -implicitDefEqProofs only [go_sem, wkS, wkE, wkB, trB, hlt, mget_pl, sdA]; done)); simp -implicitDefEqProofs only [go_sem, wkS, wkE, wkB, trB, hlt, mget_pl, sdA]) | ((first | refine call_con_eq 1000 [0,1,2,3,4,6] (pop_con { v with wrote := aput (v.s.x, v.s.y) q v.wrote } tn htn htl3) ?_ ?_ ?_ | refine call_draw_con 1000 [0,1,2,3,4,6] (pop_con { v with wrote := aput (v.s.x, v.s.y) q v.wrote } tn htn htl3) (by decide +kernel) ?_ ?_ ?_); (focus (simp -implicitDefEqProofs only [go_sem, wkS, wkE, wkB, trB, hlt, mget_pl, sdA]; done)); (focus (simp -implicitDefEqProofs only [go_sem, wkS, wkE, wkB, trB, hlt, mget_pl, sdA]; done)); simp -implicitDefEqProofs only [go_sem, wkS, wkE, wkB, trB, hlt, mget_pl, sdA]) | ((first | refine call_eq_read 1000 (size_wk v.trail v.count v.onto v.wrote v.fronts v.road v.long v.give (Nat.lt_trans htl (by omega))) ?_ ?_ ?_ rfl | refine call_draw_read 1000 (size_wk v.trail v.count v.onto v.wrote v.fronts v.road v.long v.give (Nat.lt_trans htl (by omega))) ?_ ?_ ?_); (focus (simp -implicitDefEqProofs only [go_sem, wkS, wkE, wkB, trB, hlt, mget_pl, sdA]; done)); (focus ((first | intro ext | skip); simp -implicitDefEqProofs only [go_sem, wkS, wkE, wkB, trB, hlt, mget_pl, sdA]; done)); simp -implicitDefEqProofs only [go_sem, wkS, wkE, wkB, trB, hlt, mget_pl, sdA]) | intro _))
    all_goals first
      | (have h1 : v.trail.length = 1 ∨ kindOf q = 9 ∧ aget false (a, b) v.onto = true := by first | exact .inr ⟨‹_›, ‹_›⟩ | exact .inl (by omega)
         refine ⟨70, v, ?_, rfl, fun h => by omega⟩
         have hr := wrR_bad hab h1
         rw [← hG, hm, show wrN q (m + 1) v = wrR v q from wrN_bad (by rw [hr]; simp), hr])
      | (have h0 : ¬ v.trail.length = 1 := by omega
         have hok := wrR_arm hab htn h0 ‹_› ‹_›
         refine ⟨(k + 1, (wrR v q).2), ?_, ⟨?_, ?_, ?_⟩, ?_⟩
         · show C - (k + 1) < C - k; omega
         · show k + 1 ≤ C; omega
         · rw [hok]; exact hpop h0 _
         · show wrN q (C - (k + 1)) (wrR v q).2 = _
           rw [← hG, hm, show wrN q (m + 1) v = wrN q m (wrR v q).2 from wrN_ok (by rw [hok]), show C - (k + 1) = m by omega]
         · rw [hok]
           refine weak_to' [0, 6, 31, 32] [0, 1, 2, 3, 4, 100, 9] ?_ (by decide) (stay_of rfl)
           simp -implicitDefEqProofs only [go_sem, St.keep, wkB, trB, hw1, wrW, wkE])
      | (have h0 : ¬ v.trail.length = 1 := by omega
         have hok := wrR_other hab htn h0 ‹_›
         refine ⟨(k + 1, (wrR v q).2), ?_, ⟨?_, ?_, ?_⟩, ?_⟩
         · show C - (k + 1) < C - k; omega
         · show k + 1 ≤ C; omega
         · rw [hok]; exact hpop h0 _
         · show wrN q (C - (k + 1)) (wrR v q).2 = _
           rw [← hG, hm, show wrN q (m + 1) v = wrN q m (wrR v q).2 from wrN_ok (by rw [hok]), show C - (k + 1) = m by omega]
         · rw [hok]
           refine weak_to' [0, 6, 31, 32] [0, 1, 2, 3, 4, 100, 8] ?_ (by decide) (stay_of rfl)
           simp -implicitDefEqProofs only [go_sem, St.keep, wkB, trB, hw1, wrW, wkE])
  · have hlt : ((k : Int) < (C : Int)) = False := eq_false (by omega)
    simp -implicitDefEqProofs only [go_sem, wrS, wkE, wkB, trB, hlt]
    refine ⟨0, v, ?_, rfl, fun _ => rfl⟩
    rw [← hG, show C - k = 0 by omega]
    rfl
end Go.Proofs.YtdgoompjoeffcaaGreat
/- What a tape means: the walker's beginning. -/
namespace Go.Proofs.YtdgoompjoeffcaaGreat
open Pm
attribute [local irreducible] Wait CallT CallW NextT Le Weak
theorem mget_nil {P : Program} {kt : TypeId} {k : AV} {n : Nat} : mget P kt k [] n = some none := rfl
theorem mput_nil {k v : AV} {es : List (AV × AV)} : mputR k v es none = es ++ [(k, v)] := rfl
theorem push_nil (x y d : Int) (a0 a1 a2 a4 a5 a6 a7 a8 a9 a10 : AV) (b1 b2 b3 b4 : Option Blk) :
    Con Tryz.prog 71 [.ptr 0 11 0 3, .agg [.v (.int .i64 x), .v (.int .i64 y), .v (.int .i64 d)]] [wrowA a0 a1 a2 (.v (.slice none 0 0)) a4 a5 a6 a7 a8 a9 a10, b1, b2, b3, b4]
    fun r h' => r = .tup [] ∧ h' = [wrowA a0 a1 a2 (.sl 7 3 0 1) a4 a5 a6 a7 a8 a9 a10, b1, b2, b3, b4, some (.row 67 3 [sdA ⟨x, y, d⟩]), trB [⟨x, y, d⟩], trB [⟨x, y, d⟩]] := by
  refine con_run 1000 Tryz.func71 rfl Tryz.results71 Tryz.ntmps71 (Nat.le_of_ble_eq_true rfl) ?_
  simp -implicitDefEqProofs only [go_sem, wrowA, trB]
  (repeat' (first | exact trivial | contradiction | exact ⟨_, rfl⟩ | refine And.intro ?_ ?_ | (refine om ?_; omega) | ((first | refine wait_draw 1000 mixed (by decide +kernel) ?_ | refine wait_drawV (fun id => id == 99 || id == lastK) 1000 mixed (by decide +kernel) ?_); simp -implicitDefEqProofs only [go_sem, wrowA, trB]) | intro _))
  all_goals rfl
def beginW : Wk := ⟨⟨0, 0, 1⟩, [⟨0, 1, 1⟩], 0, [((0, 1), true)], [], [], [((0, 0), true)], 1, 4⟩
theorem new_con : Con Tryz.prog 43 [] [] fun r h' => r = .ptr 0 11 0 0 ∧ h' = wkS beginW := by
  refine Con.keep (r := .ptr 4 11 0 0) (h1 := [some (.mp (mE bA [((0, 1), true)])), some (.mp (mE iA [])), some (.mp (mE bA [])), some (.mp (mE bA [((0, 0), true)])), some (.row 74 11 [.agg [.v (.int .i64 0), .v (.int .i64 0), .v (.int .i64 1), .sl 7 3 0 1, .v (.int .i64 0), .map 0, .map 1, .map 2, .map 3, .v (.int .i64 1), .v (.int .i64 4)]]), some (.row 67 3 [sdA ⟨0, 1, 1⟩]), trB [⟨0, 1, 1⟩], trB [⟨0, 1, 1⟩]]) ?_ [4, 0, 1, 2, 3, 7] ?_ ?_ (by decide) (stay_of rfl)
  · refine con_run 1000 Tryz.func43 rfl Tryz.results43 Tryz.ntmps43 (Nat.le_of_ble_eq_true rfl) ?_
    simp -implicitDefEqProofs only [go_sem]
    (repeat' (first | exact trivial | contradiction | exact ⟨_, rfl⟩ | refine And.intro ?_ ?_ | (refine om ?_; omega) | (refine wait_draw 1000 mixed (by decide +kernel) ?_; simp -implicitDefEqProofs only [go_sem, wrowA, trB, sdA, mget_nil, mput_nil]) | ((first | refine call_con_eq 1000 [4, 0, 1, 2, 3] (push_nil 0 1 1 (.v (.int .i64 0)) (.v (.int .i64 0)) (.v (.int .i64 1)) (.v (.int .i64 0)) (.map 1) (.map 2) (.map 3) (.map 4) (.v (.int .i64 1)) (.v (.int .i64 4)) (some (.mp [])) (some (.mp [])) (some (.mp [])) (some (.mp []))) ?_ ?_ ?_ | refine call_draw_con 1000 [4, 0, 1, 2, 3] (push_nil 0 1 1 (.v (.int .i64 0)) (.v (.int .i64 0)) (.v (.int .i64 1)) (.v (.int .i64 0)) (.map 1) (.map 2) (.map 3) (.map 4) (.v (.int .i64 1)) (.v (.int .i64 4)) (some (.mp [])) (some (.mp [])) (some (.mp [])) (some (.mp []))) (by decide +kernel) ?_ ?_ ?_); (focus (simp -implicitDefEqProofs only [go_sem, wrowA, trB, sdA, mget_nil, mput_nil]; done)); (focus (simp -implicitDefEqProofs only [go_sem, wrowA, trB, sdA, mget_nil, mput_nil]; done)); simp -implicitDefEqProofs only [go_sem, wrowA, trB, sdA, mget_nil, mput_nil]) | intro _))
    all_goals rfl
  · simp -implicitDefEqProofs only [go_sem]
  · simp -implicitDefEqProofs only [go_sem, wkS, wkB, trB, beginW]
end Go.Proofs.YtdgoompjoeffcaaGreat
/- What a tape means: the program's walk. -/
namespace Go.Proofs.YtdgoompjoeffcaaGreat
open Pm
attribute [local irreducible] Wait CallT CallW NextT Le Weak
def forthP (w : Wk) : Int × Wk := fwdN (max w.count 1).toNat (paidW w fun l => IntKind.i64.wrap (IntKind.i64.wrap (l + IntKind.i64.wrap (3 * (max w.count 1))) + 2))
def writeP (w : Wk) (s : Int) : Int × Wk := wrN (WrittenStateE (s - 24)).1 (max w.count 1).toNat (paidW w fun l => IntKind.i64.wrap (IntKind.i64.wrap (l + max w.count 1) + 2))
def cmdP (w : Wk) (s : Int) : Int × Wk := if s = 5 then forthP w else if s = 6 ∨ s = 7 then (0, turnW w s) else if s < 24 then (0, digitW w s) else writeP w s
def walkP : List Int → Wk → Int × Wk
  | [], w => (0, w)
  | s :: l, w => let r := cmdP w s; if r.1 = 0 then walkP l r.2 else r
/-- A walker between two commands. -/
structure WkIn (w : Wk) (n : Nat) : Prop where
  ok : WkOk w n
  c : 0 ≤ w.count ∧ w.count ≤ 255
theorem fwdR_inv {w w' : Wk} {n : Nat} (h : WkOk w n) (e : fwdR w = (0, w')) : WkOk w' (n + 1) ∧ w'.count = w.count := by
  obtain ⟨a, b, hab⟩ : ∃ a b, onP (w.s.x, w.s.y) w.s.d = (a, b) := ⟨_, _, rfl⟩
  simp only [fwdR, hab] at e
  split at e
  · cases e
  · rename_i h1
    split at e
    · cases e
    · split at e
      · cases e
      · cases e
        refine ⟨⟨by have := h.tl; simp; omega, by simp, ⟨by simp only; omega, by simp only; omega, h.s.d⟩, fun t ht => ?_⟩, rfl⟩
        simp only [List.mem_append, List.mem_singleton] at ht
        rcases ht with ht | rfl
        · exact h.all t ht
        · exact h.s
theorem fwdN_inv : ∀ (k n : Nat) (w w' : Wk), WkOk w n → fwdN k w = (0, w') → WkOk w' (n + k) ∧ w'.count = w.count
  | 0, n, w, w', h, e => by cases e; exact ⟨h, rfl⟩
  | k + 1, n, w, w', h, e => by
    simp only [fwdN] at e
    split at e
    · rename_i h0
      obtain ⟨h1, h2⟩ := fwdR_inv (w' := (fwdR w).2) h (by rw [← h0])
      obtain ⟨h3, h4⟩ := fwdN_inv k (n + 1) _ w' h1 e
      exact ⟨by rw [show n + (k + 1) = n + 1 + k by omega]; exact h3, h4.trans h2⟩
    · rename_i h0; rw [e] at h0; exact absurd rfl h0
theorem wrR_inv {w w' : Wk} {s : Int} {n : Nat} (h : WkOk w n) (e : wrR w s = (0, w')) : WkOk w' n ∧ w'.count = w.count := by
  simp only [wrR] at e
  split at e
  · cases e
  · rename_i h1
    cases e
    have h0 : ¬ w.trail.length = 1 := fun h2 => h1 (.inl h2)
    have := h.ne
    refine ⟨⟨by have := h.tl; simp; omega, by simp; omega, ?_, fun t ht => h.all t (List.mem_of_mem_take ht)⟩, rfl⟩
    refine h.all _ ?_
    rw [List.getD_eq_getElem?_getD, List.getElem?_eq_getElem (by omega)]
    exact List.getElem_mem _
theorem wrN_inv (s : Int) : ∀ (k n : Nat) (w w' : Wk), WkOk w n → wrN s k w = (0, w') → WkOk w' n ∧ w'.count = w.count
  | 0, n, w, w', h, e => by cases e; exact ⟨h, rfl⟩
  | k + 1, n, w, w', h, e => by
    simp only [wrN] at e
    split at e
    · rename_i h0
      obtain ⟨h1, h2⟩ := wrR_inv (w' := (wrR w s).2) h (by rw [← h0])
      obtain ⟨h3, h4⟩ := wrN_inv s k n _ w' h1 e
      exact ⟨h3, h4.trans h2⟩
    · rename_i h0; rw [e] at h0; exact absurd rfl h0
theorem paid_ok {w : Wk} {n : Nat} (h : WkOk w n) (l : Int → Int) : WkOk (paidW w l) n := ⟨h.tl, h.ne, h.s, h.all⟩
theorem forthP_inv {w w' : Wk} {n : Nat} (h : WkIn w n) (e : forthP w = (0, w')) : WkIn w' (n + 255) := by
  obtain ⟨h1, h2⟩ := fwdN_inv _ n _ _ (paid_ok h.ok _) e
  have := h.c
  exact ⟨⟨by have := h1.tl; omega, h1.ne, h1.s, h1.all⟩, by rw [h2]; simp [paidW]⟩
theorem writeP_inv {w w' : Wk} {s : Int} {n : Nat} (h : WkIn w n) (e : writeP w s = (0, w')) : WkIn w' (n + 255) := by
  obtain ⟨h1, h2⟩ := wrN_inv _ _ n _ _ (paid_ok h.ok _) e
  exact ⟨⟨by have := h1.tl; omega, h1.ne, h1.s, h1.all⟩, by rw [h2]; simp [paidW]⟩
theorem turn_in {w : Wk} {s : Int} {n : Nat} (h : WkIn w n) (hs : 6 ≤ s) (hs' : s < 8) : WkIn (turnW w s) (n + 255) := by
  have hd := h.ok.s.d
  refine ⟨⟨by have := h.ok.tl; simp only [turnW]; omega, h.ok.ne, ⟨h.ok.s.x, h.ok.s.y, ?_⟩, h.ok.all⟩, by simp [turnW]⟩
  simp only [turnW]
  rw [Int.tmod_eq_emod_of_nonneg (by omega)]
  omega
theorem digit_in {w : Wk} {s : Int} {n : Nat} (h : WkIn w n) (hs : 8 ≤ s) : WkIn (digitW w s) (n + 255) := by
  have := h.c
  exact ⟨⟨by have := h.ok.tl; simp only [digitW]; omega, h.ok.ne, h.ok.s, h.ok.all⟩, by simp only [digitW]; omega⟩
theorem walkP_bad {s : Int} {l : List Int} {w : Wk} (h : (cmdP w s).1 ≠ 0) : walkP (s :: l) w = cmdP w s := by simp only [walkP, if_neg h]
theorem walkP_ok {s : Int} {l : List Int} {w : Wk} (h : (cmdP w s).1 = 0) : walkP (s :: l) w = walkP l (cmdP w s).2 := by simp only [walkP, if_pos h]
/-- What the program's walk does: how it ends, and the walker. -/
def progWalk (t : List Int) : Int × Wk := if checkE t = 0 then walkP ((t.take (t.length - 2)).drop 1) beginW else (71, beginW)
end Go.Proofs.YtdgoompjoeffcaaGreat
