import Derived.Test.YtdgoompjoeffcaaGreatProg
import Derived.Test.YtdgoompjoeffcaaGreatPmY
import Derived.Test.YtdgoompjoeffcaaGreatMmT
import Derived.Test.YtdgoompjoeffcaaGreatPmZ
/- A tape that describes: what the program asks of a pattern, the parts. -/
set_option linter.unusedSimpArgs false
set_option linter.unusedVariables false
set_option maxRecDepth 20000
open Go Go.Proofs
namespace Go.Proofs.YtdgoompjoeffcaaGreat
open Pm
attribute [local irreducible] Wait CallT CallW NextT Le Weak
def farP (x y : Int) : Prop := x < -1073741824 ∨ x > 1073741824 ∨ y < -1073741824 ∨ y > 1073741824
instance (x y : Int) : Decidable (farP x y) := by unfold farP; infer_instance
theorem fFar_pc (x y : Int) : PCon Tryz.prog 89 [.v (.int .i64 x), .v (.int .i64 y)] (· = .v (.bool (decide (farP x y)))) := by
  refine pcon_run 1000 Tryz.func89 rfl Tryz.results89 Tryz.ntmps89 (Nat.le_of_ble_eq_true rfl) ?_
  simp -implicitDefEqProofs only [go_sem]
  all_goals (repeat' (first | exact trivial | contradiction | exact ⟨_, rfl⟩ | refine And.intro ?_ ?_ | (refine om ?_; omega)  | (refine wait_draw 1000 mixed (by decide +kernel) ?_; simp -implicitDefEqProofs only [go_sem]) | intro _))
  all_goals simp_all [farP, fz_v]
  all_goals first | omega | done | (first | omega | exact Bool.beq_eq_decide_eq _ _ | (refine bool_eq ?_; simp only [Bool.and_eq_true, Bool.or_eq_true, Bool.not_eq_true', decide_eq_true_eq, beq_iff_eq, bne_iff_ne, decide_eq_false_iff_not, ne_eq, Bool.true_eq, Bool.false_eq, iff_self]; done) | (refine bool_eq ?_; simp only [Bool.and_eq_true, Bool.or_eq_true, Bool.not_eq_true', decide_eq_true_eq, beq_iff_eq, bne_iff_ne, decide_eq_false_iff_not, ne_eq, Bool.true_eq, Bool.false_eq, iff_self]; omega))
theorem far_pc (x y : Int) : PCon Tryz.prog 62 [.v (.int .i64 x), .v (.int .i64 y)] (· = .v (.bool (decide (farP x y)))) := by
  have c := fFar_pc x y
  refine pcon_run 1000 Tryz.func62 rfl Tryz.results62 Tryz.ntmps62 (Nat.le_of_ble_eq_true rfl) ?_
  simp -implicitDefEqProofs only [go_sem]
  (repeat' (first | exact trivial | contradiction | exact ⟨_, rfl⟩ | refine And.intro ?_ ?_ | (refine om ?_; omega) | (refine wait_draw 1000 mixed (by decide +kernel) ?_; simp -implicitDefEqProofs only [go_sem]) | ((first | refine call_eq 1000 (c) ?_ ?_ rfl | refine call_draw 1000 (c) ?_ ?_); (focus (simp -implicitDefEqProofs only [go_sem]; done)); simp -implicitDefEqProofs only [go_sem]) | intro _))
theorem nan_pc (x : Int) : PCon Tryz.prog 111 [.v (.int .i64 x)] (· = .v (.bool false)) := by
  refine pcon_run 1000 Tryz.func111 rfl Tryz.results111 Tryz.ntmps111 (Nat.le_of_ble_eq_true rfl) ?_
  simp -implicitDefEqProofs only [go_sem, bne_self_eq_false]
def cmpI (x y : Int) : Int := if x < y then -1 else if y < x then 1 else 0
theorem cmp_pc (x y : Int) : PCon Tryz.prog 105 [.v (.int .i64 x), .v (.int .i64 y)] (· = .v (.int .i64 (cmpI x y))) := by
  have c1 := nan_pc x
  have c2 := nan_pc y
  refine pcon_run 1000 Tryz.func105 rfl Tryz.results105 Tryz.ntmps105 (Nat.le_of_ble_eq_true rfl) ?_
  simp -implicitDefEqProofs only [go_sem]
  (repeat' (first | exact trivial | contradiction | exact ⟨_, rfl⟩ | refine And.intro ?_ ?_ | (refine om ?_; omega) | (refine wait_draw 1000 mixed (by decide +kernel) ?_; simp -implicitDefEqProofs only [go_sem]) | (refine call_eq 1000 (c1) ?_ ?_ rfl; (focus (simp -implicitDefEqProofs only [go_sem]; done)); simp -implicitDefEqProofs only [go_sem]) | (refine call_draw 1000 (c1) ?_ ?_; (focus (simp -implicitDefEqProofs only [go_sem]; done)); simp -implicitDefEqProofs only [go_sem]) | (refine call_eq 1000 (c2) ?_ ?_ rfl; (focus (simp -implicitDefEqProofs only [go_sem]; done)); simp -implicitDefEqProofs only [go_sem]) | (refine call_draw 1000 (c2) ?_ ?_; (focus (simp -implicitDefEqProofs only [go_sem]; done)); simp -implicitDefEqProofs only [go_sem]) | intro _))
  all_goals simp_all [cmpI, fz_v]
  all_goals try omega
theorem or_pc (a b : Int) : PCon Tryz.prog 104 [.fsl 1 [.v (.int .i64 a), .v (.int .i64 b)]] (· = .v (.int .i64 (if a = 0 then b else a))) := by
  refine pcon_run 1000 Tryz.func104 rfl Tryz.results104 Tryz.ntmps104 (Nat.le_of_ble_eq_true rfl) ?_
  simp -implicitDefEqProofs only [go_sem]
  refine wait_range 2 (fun k => ⟨18, 0, [(2, .v (.int .i64 0)), (3, .v (.int .i64 0)), (6, .fsl 1 [.v (.int .i64 a), .v (.int .i64 b)]), (7, .v (.int .i64 2)), (8, .v (.int .i64 (k : Int)))], []⟩) (fun k => (0 < k → a = 0) ∧ (1 < k → b = 0)) (weak_to [2, 3, 6, 7, 8] [] ?_ (by decide) (fun i h => by cases h)) ⟨fun h => by omega, fun h => by omega⟩ ?_
  · simp -implicitDefEqProofs only [go_sem, St.keep, Int.natCast_zero]
  intro k hk hG
  refine run_sound 1000 _ _ ?_
  obtain rfl | rfl | rfl : k = 0 ∨ k = 1 ∨ k = 2 := by omega
  · by_cases ha : a = 0
    · subst ha
      simp -implicitDefEqProofs only [go_sem, Int.natCast_zero, bne_self_eq_false, List.getD_cons_zero]
      refine weak_to [2, 3, 6, 7, 8] [] ?_ (by decide) (fun i h => by cases h)
      simp -implicitDefEqProofs only [go_sem, St.keep]
    · have h1 : (a != 0) = true := by simpa using ha
      simp -implicitDefEqProofs only [go_sem, Int.natCast_zero, h1, List.getD_cons_zero, if_neg ha]
  · have ha := hG.1 (by decide)
    subst ha
    have z1 : ((1 : Nat) : Int) = 1 := rfl
    by_cases hb : b = 0
    · subst hb
      simp -implicitDefEqProofs only [go_sem, z1, bne_self_eq_false, List.getD_cons_zero, List.getD_cons_succ]
      refine weak_to [2, 3, 6, 7, 8] [] ?_ (by decide) (fun i h => by cases h)
      simp -implicitDefEqProofs only [go_sem, St.keep]
    · have h1 : (b != 0) = true := by simpa using hb
      simp -implicitDefEqProofs only [go_sem, z1, h1, List.getD_cons_zero, List.getD_cons_succ]
  · have ha := hG.1 (by decide)
    have hb := hG.2 (by decide)
    subst ha hb
    have z1 : ((2 : Nat) : Int) = 2 := rfl
    simp -implicitDefEqProofs only [go_sem, z1]
def ceA3 (c : Ce) : AV := .agg [.v (.int .i64 c.1.1), .v (.int .i64 c.1.2), .v (.int .i64 c.2)]
def cmpE (a b : Ce) : Int := if cmpI a.1.2 b.1.2 = 0 then cmpI a.1.1 b.1.1 else cmpI a.1.2 b.1.2
theorem fBehind_pc (a b : Ce) : PCon Tryz.prog 90 [ceA3 a, ceA3 b] (· = .v (.int .i64 (cmpE a b))) := by
  have c1 := cmp_pc a.1.2 b.1.2
  have c2 := cmp_pc a.1.1 b.1.1
  have c3 := or_pc (cmpI a.1.2 b.1.2) (cmpI a.1.1 b.1.1)
  refine pcon_run 1000 Tryz.func90 rfl Tryz.results90 Tryz.ntmps90 (Nat.le_of_ble_eq_true rfl) ?_
  unfold ceA3 cmpE
  generalize cmpI a.1.2 b.1.2 = u at c1 c3 ⊢
  generalize cmpI a.1.1 b.1.1 = v at c2 c3 ⊢
  simp -implicitDefEqProofs only [go_sem]
  (repeat' (first | exact trivial | contradiction | exact ⟨_, rfl⟩ | refine And.intro ?_ ?_ | (refine om ?_; omega) | (refine wait_draw 1000 mixed (by decide +kernel) ?_; simp -implicitDefEqProofs only [go_sem]) | (refine call_eq 1000 (c1) ?_ ?_ rfl; (focus (simp -implicitDefEqProofs only [go_sem]; done)); simp -implicitDefEqProofs only [go_sem]) | (refine call_draw 1000 (c1) ?_ ?_; (focus (simp -implicitDefEqProofs only [go_sem]; done)); simp -implicitDefEqProofs only [go_sem]) | (refine call_eq 1000 (c2) ?_ ?_ rfl; (focus (simp -implicitDefEqProofs only [go_sem]; done)); simp -implicitDefEqProofs only [go_sem]) | (refine call_draw 1000 (c2) ?_ ?_; (focus (simp -implicitDefEqProofs only [go_sem]; done)); simp -implicitDefEqProofs only [go_sem]) | (refine call_eq_read 1000 (c3) ?_ ?_ ?_ rfl; (focus (simp -implicitDefEqProofs only [go_sem]; done)); (focus ((first | intro ext | skip); simp -implicitDefEqProofs only [go_sem]; done)); simp -implicitDefEqProofs only [go_sem]) | (refine call_draw_read 1000 (c3) ?_ ?_ ?_; (focus (simp -implicitDefEqProofs only [go_sem]; done)); (focus ((first | intro ext | skip); simp -implicitDefEqProofs only [go_sem]; done)); simp -implicitDefEqProofs only [go_sem]) | intro _))
theorem behind_pc (a b : Ce) : PCon Tryz.prog 63 [ceA3 a, ceA3 b] (· = .v (.int .i64 (cmpE a b))) := by
  have c := fBehind_pc a b
  refine pcon_run 1000 Tryz.func63 rfl Tryz.results63 Tryz.ntmps63 (Nat.le_of_ble_eq_true rfl) ?_
  unfold ceA3 at c ⊢
  simp -implicitDefEqProofs only [go_sem]
  (repeat' (first | exact trivial | contradiction | exact ⟨_, rfl⟩ | refine And.intro ?_ ?_ | (refine om ?_; omega) | (refine wait_draw 1000 mixed (by decide +kernel) ?_; simp -implicitDefEqProofs only [go_sem]) | ((first | refine call_eq 1000 (c) ?_ ?_ rfl | refine call_draw 1000 (c) ?_ ?_); (focus (simp -implicitDefEqProofs only [go_sem]; done)); simp -implicitDefEqProofs only [go_sem]) | intro _))
theorem yA_ten (s : Int) : ∃ a0 a1 a2 a3 a4 a5 a6 a7 a8 a9 : Int, yA (YardOfE s).1 = .agg [iA a0, iA a1, iA a2, iA a3, iA a4, iA a5, iA a6, iA a7, iA a8, iA a9] := by
  have h := yardOf_len s
  generalize (YardOfE s).1 = l at h ⊢
  match l, h with
  | [a0, a1, a2, a3, a4, a5, a6, a7, a8, a9], _ => exact ⟨a0, a1, a2, a3, a4, a5, a6, a7, a8, a9, rfl⟩
theorem isState_pc (s : Int) (h : s ≤ 9223372036854775807) : PCon Tryz.prog 38 [iA 2, iA s] (· = .v (.bool (decide ((YardOfE s).2 = 0)))) := by
  have c1 := yardOf_pc s h
  obtain ⟨a0, a1, a2, a3, a4, a5, a6, a7, a8, a9, e⟩ := yA_ten s
  rw [e] at c1
  generalize (YardOfE s).2 = er at c1 ⊢
  simp only [iA] at c1
  refine pcon_run 1000 Tryz.func38 rfl Tryz.results38 Tryz.ntmps38 (Nat.le_of_ble_eq_true rfl) ?_
  simp -implicitDefEqProofs only [go_sem, iA]
  (repeat' (first | exact trivial | contradiction | exact ⟨_, rfl⟩ | refine And.intro ?_ ?_ | (refine om ?_; omega) | (refine wait_draw 1000 mixed (by decide +kernel) ?_; simp -implicitDefEqProofs only [go_sem]) | ((first | refine call_eq 1000 (c1) ?_ ?_ rfl | refine call_draw 1000 (c1) ?_ ?_); (focus (simp -implicitDefEqProofs only [go_sem]; done)); simp -implicitDefEqProofs only [go_sem]) | intro _))
  all_goals simp_all
  all_goals (first | omega | exact Bool.beq_eq_decide_eq _ _ | (refine bool_eq ?_; simp only [Bool.and_eq_true, Bool.or_eq_true, Bool.not_eq_true', decide_eq_true_eq, beq_iff_eq, bne_iff_ne, decide_eq_false_iff_not, ne_eq, Bool.true_eq, Bool.false_eq, iff_self]; done) | (refine bool_eq ?_; simp only [Bool.and_eq_true, Bool.or_eq_true, Bool.not_eq_true', decide_eq_true_eq, beq_iff_eq, bne_iff_ne, decide_eq_false_iff_not, ne_eq, Bool.true_eq, Bool.false_eq, iff_self]; omega))
def ruleA : AV := .agg [iA 2, .v (.slice none 0 0)]
theorem ruleCheck_pc : PCon Tryz.prog 35 [ruleA] (· = iA 0) := by
  refine pcon_run 1000 Tryz.func35 rfl Tryz.results35 Tryz.ntmps35 (Nat.le_of_ble_eq_true rfl) ?_
  simp -implicitDefEqProofs only [go_sem, ruleA, iA]
end Go.Proofs.YtdgoompjoeffcaaGreat
/- A tape that describes: a command given a number of times, the document's way. -/
namespace Go.Proofs.YtdgoompjoeffcaaGreat
open Pm
attribute [local irreducible] Wait CallT CallW NextT Le Weak
def zA (x : Int) : AV := .v (.int .i64 x)
def tpB (T : List Int) : Option Blk := some (.row 3 1 (T.map zA))
theorem zl_len (l : List Int) : (l.map zA).length = l.length := by simp
theorem zl_ren (f : Nat → Option Nat) (l : List Int) : AV.renL f (l.map zA) = l.map zA := by rw [AV.renL_eq, List.map_map]; exact List.map_congr_left fun b _ => by simp only [Function.comp, zA, ren_v]
theorem zl_fy (h : List (Option Blk)) (l : List Int) : fyL h (l.map zA) = l.map zA := by rw [fyL_eq, List.map_map]; exact List.map_congr_left fun b _ => by simp only [Function.comp, zA, fy_v]
theorem zl_take (l : List Int) : (l.map zA).take l.length = l.map zA := List.take_of_length_le (by simp)
theorem zl_app (l : List Int) (x : Int) : l.map zA ++ [.v (.int .i64 x)] = (l ++ [x]).map zA := by simp [zA]
attribute [go_sem] zl_len zl_ren zl_fy zl_take zl_app
theorem wrapN {a : Int} (h : -9223372036854775808 ≤ a) (h' : a < 9223372036854775808) : IntKind.i64.wrap a = a := IntWalk.i64_in _ (by omega)
/-- What is given behind k parts of 255. -/
def chunkT (T : List Int) (s : Int) : Nat → List Int
  | 0 => T
  | k + 1 => chunkT T s k ++ [23] ++ [23] ++ [s]
theorem chunkT_len (T : List Int) (s : Int) : ∀ k, (chunkT T s k).length = T.length + 3 * k
  | 0 => rfl
  | k + 1 => by simp only [chunkT, List.length_append, chunkT_len T s k, List.length_cons, List.length_nil]; omega
def numT (n : Nat) (s : Int) : List Int := (if 15 < n then [8 + ((n / 16 : Nat) : Int)] else []) ++ (if 1 < n then [8 + ((n % 16 : Nat) : Int)] else []) ++ [s]
def nuN (T : List Int) (n s : Int) : St := ⟨39, 1, [(0, .sl 0 1 0 T.length), (1, .v (.int .i64 n)), (2, .v (.int .i64 s))], [tpB T]⟩
def nuC (T : List Int) (n s : Int) : St := ⟨39, 1, [(0, .sl 1 1 0 T.length), (1, .v (.int .i64 n)), (2, .v (.int .i64 s))], [none, tpB T]⟩
def nuS (T : List Int) (n s : Int) (k : Nat) : St := if k = 0 then nuN T n s else nuC (chunkT T s k) (n - 255 * (k : Int)) s
theorem number_con (T : List Int) (n : Nat) (s : Int) (h1 : 1 ≤ n) (h2 : n < 1000000000) (hT : T.length < 1000000000) :
    Con Tryz.prog 12 [.sl 0 1 0 T.length, .v (.int .i64 (n : Int)), .v (.int .i64 s)] [tpB T] fun r h => ∃ b, r = .sl b 1 0 (chunkT T s ((n - 1) / 255) ++ numT (n - 255 * ((n - 1) / 255)) s).length ∧ h[b]? = some (tpB (chunkT T s ((n - 1) / 255) ++ numT (n - 255 * ((n - 1) / 255)) s)) ∧ 0 < b ∧ h[0]? = some none := by
  refine con_run 1000 Tryz.func12 rfl Tryz.results12 Tryz.ntmps12 (Nat.le_of_ble_eq_true rfl) ?_
  obtain ⟨q, hq⟩ : ∃ q, q = (n - 1) / 255 := ⟨_, rfl⟩
  rw [← hq]
  simp -implicitDefEqProofs only [go_sem, tpB]
  refine wait_range q (nuS T n s) (fun _ => True) (weak_to' [0, 1, 2] [0] ?_ (by decide) (stay_of rfl)) trivial ?_
  · simp -implicitDefEqProofs only [go_sem, St.keep, nuS, nuN, tpB]
  intro k hk _
  have hlen := chunkT_len T s k
  by_cases hkq : k < q
  · refine run_sound 1000 _ _ ?_
    rw [show nuS T n s (k + 1) = nuC (chunkT T s (k + 1)) (n - 255 * ((k + 1 : Nat) : Int)) s from rfl, show chunkT T s (k + 1) = chunkT T s k ++ [23] ++ [23] ++ [s] from rfl]
    have e2 : IntKind.i64.wrap ((n : Int) - 255 * (k : Int) - 255) = (n : Int) - 255 * ((k + 1 : Nat) : Int) := by rw [wrapN (by omega) (by omega)]; omega
    by_cases hk0 : k = 0
    · subst hk0
      have e1 : (255 < (n : Int)) = True := eq_true (by omega)
      have e3 : IntKind.i64.wrap ((n : Int) - 255) = (n : Int) - 255 * ((0 + 1 : Nat) : Int) := by rw [wrapN (by omega) (by omega)]; omega
      rw [show nuS T n s 0 = nuN T n s from rfl, show chunkT T s 0 = T from rfl]
      simp -implicitDefEqProofs only [go_sem, nuN, tpB, e1, List.length_append, List.length_cons, List.length_nil]
      (repeat' (first | exact trivial | contradiction | exact ⟨_, rfl⟩ | refine And.intro ?_ ?_ | (refine om ?_; omega)  | (refine wait_draw 1000 mixed (by decide +kernel) ?_; simp -implicitDefEqProofs only [go_sem , e1, List.length_append, List.length_cons, List.length_nil]) | intro _))
      all_goals
        refine weak_to' [0, 1, 2] [100, 6] ?_ (by decide) (stay_of rfl)
        simp -implicitDefEqProofs only [go_sem, St.keep, nuC, tpB, e3, List.length_append, List.length_cons, List.length_nil]
    · rw [show nuS T n s k = nuC (chunkT T s k) (n - 255 * (k : Int)) s from if_neg hk0]
      generalize chunkT T s k = X at hlen ⊢
      have e1 : (255 < (n : Int) - 255 * (k : Int)) = True := eq_true (by omega)
      simp -implicitDefEqProofs only [go_sem, nuC, tpB, e1, e2, List.length_append, List.length_cons, List.length_nil]
      (repeat' (first | exact trivial | contradiction | exact ⟨_, rfl⟩ | refine And.intro ?_ ?_ | (refine om ?_; omega)  | (refine wait_draw 1000 mixed (by decide +kernel) ?_; simp -implicitDefEqProofs only [go_sem , e1, e2, List.length_append, List.length_cons, List.length_nil]) | intro _))
      all_goals
        refine weak_to' [0, 1, 2] [0, 7] ?_ (by decide) (stay_of rfl)
        simp -implicitDefEqProofs only [go_sem, St.keep, tpB, e2, List.length_append, List.length_cons, List.length_nil]
  · obtain rfl : k = q := by omega
    obtain ⟨m, hm⟩ : ∃ m, m = n - 255 * k := ⟨_, rfl⟩
    have hm1 : 1 ≤ m ∧ m ≤ 255 := by omega
    rw [← hm]
    have e1 : (255 < (m : Int)) = False := eq_false (by omega)
    have d1 : (m : Int).tdiv 16 = ((m / 16 : Nat) : Int) := by rw [Int.tdiv_eq_ediv_of_nonneg (by omega)]; omega
    have d2 : (m : Int).tmod 16 = ((m % 16 : Nat) : Int) := by rw [Int.tmod_eq_emod_of_nonneg (by omega)]; omega
    have d3 : IntKind.i64.wrap ((m / 16 : Nat) : Int) = ((m / 16 : Nat) : Int) := wrapN (by omega) (by omega)
    have d4 : IntKind.i64.wrap ((m % 16 : Nat) : Int) = ((m % 16 : Nat) : Int) := wrapN (by omega) (by omega)
    have d5 : IntKind.i64.wrap (8 + ((m / 16 : Nat) : Int)) = 8 + ((m / 16 : Nat) : Int) := wrapN (by omega) (by omega)
    have d6 : IntKind.i64.wrap (8 + ((m % 16 : Nat) : Int)) = 8 + ((m % 16 : Nat) : Int) := wrapN (by omega) (by omega)
    generalize hX : chunkT T s k = X at hlen ⊢
    have hS : nuS T n s k = nuN X m s ∨ nuS T n s k = nuC X m s := by
      unfold nuS
      by_cases hk0 : k = 0
      · subst hk0
        left
        rw [if_pos rfl, ← hX, show chunkT T s 0 = T from rfl, hm]
        rfl
      · right
        rw [if_neg hk0, hX, hm]
        congr 1
        omega
    unfold numT
    rcases hS with hS | hS
    all_goals
      rw [hS]
      refine run_sound 1000 _ _ ?_
      by_cases h15 : 15 < m
      · have c1 : (15 < (m : Int)) = True := eq_true (by omega)
        have c2 : (1 < (m : Int)) = True := eq_true (by omega)
        rw [if_pos h15, if_pos (show 1 < m by omega)]
        simp -implicitDefEqProofs only [go_sem, nuN, nuC, tpB, e1, c1, c2, d1, d2, d3, d4, d5, d6, List.length_append, List.length_cons, List.length_nil]
        (repeat' (first | exact trivial | contradiction | exact ⟨_, rfl⟩ | refine And.intro ?_ ?_ | (refine om ?_; omega)  | (refine wait_draw 1000 mixed (by decide +kernel) ?_; simp -implicitDefEqProofs only [go_sem , e1, c1, c2, d1, d2, d3, d4, d5, d6, List.length_append, List.length_cons, List.length_nil]) | intro _))
        all_goals
          refine ⟨_, rfl, ?_, by decide⟩
          simp [List.append_assoc]
      · have c1 : (15 < (m : Int)) = False := eq_false (by omega)
        rw [if_neg h15]
        by_cases hm2 : 1 < m
        · have c2 : (1 < (m : Int)) = True := eq_true (by omega)
          rw [if_pos hm2]
          simp -implicitDefEqProofs only [go_sem, nuN, nuC, tpB, e1, c1, c2, d1, d2, d3, d4, d5, d6, List.length_append, List.length_cons, List.length_nil]
          (repeat' (first | exact trivial | contradiction | exact ⟨_, rfl⟩ | refine And.intro ?_ ?_ | (refine om ?_; omega)  | (refine wait_draw 1000 mixed (by decide +kernel) ?_; simp -implicitDefEqProofs only [go_sem , e1, c1, c2, d1, d2, d3, d4, d5, d6, List.length_append, List.length_cons, List.length_nil]) | intro _))
          all_goals
            refine ⟨_, rfl, ?_, by decide⟩
            simp [List.append_assoc]
        · have c2 : (1 < (m : Int)) = False := eq_false (by omega)
          rw [if_neg hm2]
          simp -implicitDefEqProofs only [go_sem, nuN, nuC, tpB, e1, c1, c2, d1, d2, d3, d4, d5, d6, List.length_append, List.length_cons, List.length_nil]
          (repeat' (first | exact trivial | contradiction | exact ⟨_, rfl⟩ | refine And.intro ?_ ?_ | (refine om ?_; omega)  | (refine wait_draw 1000 mixed (by decide +kernel) ?_; simp -implicitDefEqProofs only [go_sem , e1, c1, c2, d1, d2, d3, d4, d5, d6, List.length_append, List.length_cons, List.length_nil]) | intro _))
          all_goals
            refine ⟨_, rfl, ?_, by decide⟩
            simp [List.append_assoc]
end Go.Proofs.YtdgoompjoeffcaaGreat
