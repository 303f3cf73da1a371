import Derived.Test.YtdgoompjoeffcaaGreatProg
import Derived.Test.YtdgoompjoeffcaaGreatPmY
import Derived.Test.YtdgoompjoeffcaaGreatPmZ
import Derived.Test.YtdgoompjoeffcaaGreatYaC
import Derived.Test.YtdgoompjoeffcaaGreatYaH
/- What a tape means: places, the trail as a stack, the program's Check. -/
set_option linter.unusedSimpArgs false
set_option linter.unusedVariables false
set_option maxRecDepth 20000
open Go Go.Proofs
namespace Go.Proofs.YtdgoompjoeffcaaGreat
open Pm
attribute [local irreducible] Wait CallT CallW NextT Le Weak
theorem mget_pl {α : Type} (f : α → AV) (x y : Int) (l : List (Pl × α)) : mget Tryz.prog 65 (.agg [.v (.int .i64 x), .v (.int .i64 y)]) (mE f l) 0 = some (rget f (x, y) l) := mget_mE (by kernel_rfl) f x y l
attribute [go_sem] mget_pl
/-- The place next to one. -/
def onP (p : Pl) (d : Int) : Pl := if d = 0 then (p.1 + 1, p.2) else if d = 1 then (p.1, p.2 - 1) else if d = 2 then (p.1 - 1, p.2) else (p.1, p.2 + 1)
theorem on_pc (x y d : Int) (h0 : 0 ≤ d) (h4 : d < 4) (hx : -9223372036854775807 ≤ x) (hx' : x < 9223372036854775807) (hy : -9223372036854775807 ≤ y) (hy' : y < 9223372036854775807) :
    PCon Tryz.prog 74 [.agg [.v (.int .i64 x), .v (.int .i64 y)], .v (.int .i64 d)] (· = .agg [.v (.int .i64 (onP (x, y) d).1), .v (.int .i64 (onP (x, y) d).2)]) := by
  have hd : d = 0 ∨ d = 1 ∨ d = 2 ∨ d = 3 := by omega
  refine pcon_run 1000 Tryz.func74 rfl Tryz.results74 Tryz.ntmps74 (Nat.le_of_ble_eq_true rfl) ?_
  rcases hd with rfl | rfl | rfl | rfl
  all_goals
    simp -implicitDefEqProofs only [go_sem]
    (repeat' (first | exact trivial | contradiction | exact ⟨_, rfl⟩ | refine And.intro ?_ ?_ | (refine om ?_; omega)  | (refine wait_draw 1000 mixed (by decide +kernel) ?_; simp -implicitDefEqProofs only [go_sem]) | intro _))
    all_goals simp [fz_v, fz_agg, fzL_nil, fzL_cons, onP]
    all_goals (try rw [wrap64 (by omega) (by omega)])
    all_goals (try rw [wrap64 (by omega) (by omega)])
    all_goals (try simp)
    all_goals (try omega)
theorem cell_pc (x y s : Int) : PCon Tryz.prog 24 [.agg [.v (.int .i64 x), .v (.int .i64 y)], .v (.int .i64 s)] (· = .agg [.v (.int .i64 x), .v (.int .i64 y), .v (.int .i64 s)]) := by
  refine pcon_run 1000 Tryz.func24 rfl Tryz.results24 Tryz.ntmps24 (Nat.le_of_ble_eq_true rfl) ?_
  simp -implicitDefEqProofs only [go_sem]
  (repeat' (first | exact trivial | contradiction | exact ⟨_, rfl⟩ | refine And.intro ?_ ?_ | (refine om ?_; omega)  | (refine wait_draw 1000 mixed (by decide +kernel) ?_; simp -implicitDefEqProofs only [go_sem]) | intro _))
  all_goals simp [fz_v, fz_agg, fz_tup, fz_fsl, fzL_nil, fzL_cons]
end Go.Proofs.YtdgoompjoeffcaaGreat
/- What a tape means: whether a tape is one. -/
namespace Go.Proofs.YtdgoompjoeffcaaGreat
open Pm
attribute [local irreducible] Wait CallT CallW NextT Le Weak
def tA (t : List Int) : AV := .fsl 1 (t.map iA)
def cmdB (x : Int) : Bool := decide (5 ≤ x) && decide (x < 97)
theorem command_pc (x : Int) : PCon Tryz.prog 56 [iA x] (· = .v (.bool (cmdB x))) := by
  refine pcon_run 1000 Tryz.func56 rfl Tryz.results56 Tryz.ntmps56 (Nat.le_of_ble_eq_true rfl) ?_
  simp -implicitDefEqProofs only [go_sem, iA]
  (repeat' (first | exact trivial | contradiction | exact ⟨_, rfl⟩ | refine And.intro ?_ ?_ | (refine om ?_; omega)  | (refine wait_draw 1000 mixed (by decide +kernel) ?_; simp -implicitDefEqProofs only [go_sem]) | intro _))
  all_goals simp_all [cmdB]
  all_goals omega
/-! ### Whether a tape is one -/
theorem get_tA (t : List Int) (k : Nat) (h : k < t.length) : (t.map iA).getD k .junk = .v (.int .i64 (t.getD k 0)) := by simp [List.getD_eq_getElem?_getD, h, iA]
theorem renL_tA (f : Nat → Option Nat) (t : List Int) : AV.renL f (t.map iA) = t.map iA := by
  rw [AV.renL_eq, List.map_map]
  exact List.map_congr_left fun p _ => by simp [iA, AV.ren]
attribute [go_sem] renL_tA
def headB (t : List Int) : Bool := decide (3 ≤ t.length ∧ t.length ≤ 4096 ∧ t.getD 0 0 = 1 ∧ t.getD (t.length - 1) 0 = 4 ∧ (t.getD (t.length - 2) 0 = 2 ∨ t.getD (t.length - 2) 0 = 3))
def checkE (t : List Int) : Int := if headB t = true ∧ ((t.take (t.length - 2)).drop 1).all cmdB = true then 0 else 71
theorem checkE_head {t : List Int} (h : headB t = false) : checkE t = 71 := by simp [checkE, h]
theorem checkE_bad {t : List Int} (h : ((t.take (t.length - 2)).drop 1).all cmdB = false) : checkE t = 71 := by unfold checkE; rw [h]; simp
theorem checkE_ok {t : List Int} (h : headB t = true) (ha : ((t.take (t.length - 2)).drop 1).all cmdB = true) : checkE t = 0 := by unfold checkE; rw [h, ha]; simp
theorem all_step {p : Int → Bool} (l : List Int) (k : Nat) (h : k < l.length) : (l.drop k).all p = (p (l.getD k 0) && (l.drop (k + 1)).all p) := by
  rw [List.drop_eq_getElem_cons h, List.all_cons]
  simp [List.getD_eq_getElem?_getD, h]
theorem refCheck_pc (t : List Int) (hm : t.length < 9223372036854775808) : PCon Tryz.prog 31 [tA t] (· = iA (checkE t)) := by
  refine pcon_run 1000 Tryz.func31 rfl Tryz.results31 Tryz.ntmps31 (Nat.le_of_ble_eq_true rfl) ?_
  rcases Nat.lt_or_ge t.length 3 with h3 | h3
  · have h1 : ((t.length : Int) < 3) = True := by simp; omega
    simp -implicitDefEqProofs only [go_sem, tA, h1]
    simp [checkE, headB, show ¬ 3 ≤ t.length by omega, iA, fz_v]
  · have h1 : ((t.length : Int) < 3) = False := by simp; omega
    have e1 : IntKind.i64.wrap ((t.length : Int) - 1) = ((t.length - 1 : Nat) : Int) := by rw [wrap64 (by omega) (by omega)]; omega
    have e2 : IntKind.i64.wrap ((t.length : Int) - 2) = ((t.length - 2 : Nat) : Int) := by rw [wrap64 (by omega) (by omega)]; omega
    have g0 := get_tA t 0 (by omega)
    have g1 := get_tA t (t.length - 1) (by omega)
    have g2 := get_tA t (t.length - 2) (by omega)
    simp -implicitDefEqProofs only [go_sem, tA, h1, e1, e2, g0, g1, g2]
    have hg : ∀ k, k < t.length - 2 → (t.take (t.length - 2)).getD k 0 = t.getD k 0 := fun k hk => by rw [List.getD_eq_getElem?_getD, List.getElem?_take, if_pos hk, List.getD_eq_getElem?_getD]
    have hl2 : (t.take (t.length - 2)).length = t.length - 2 := by rw [List.length_take]; omega
    (repeat' (first | exact trivial | contradiction | exact ⟨_, rfl⟩ | refine And.intro ?_ ?_ | (refine om ?_; omega)  | (refine wait_draw 1000 mixed (by decide +kernel) ?_; simp -implicitDefEqProofs only [go_sem tA, h1, e1, e2, g0, g1, g2]) | intro _))
    all_goals first
      | (have hh : headB t = false := by simp only [headB, decide_eq_false_iff_not]; omega
         simp [checkE, hh, iA]
         done)
      | (have hh : headB t = true := by simp only [headB, decide_eq_true_eq]; omega
         refine wait_range (t.length - 3) (fun k => ⟨55, 0, [(0, tA t), (3, .v (.int .i64 t.length)), (4, .v (.int .i64 ((k + 1 : Nat) : Int)))], []⟩)
          (fun k => ((t.take (t.length - 2)).drop (k + 1)).all cmdB = ((t.take (t.length - 2)).drop 1).all cmdB) (weak_to [0, 3, 4] [] ?_ (by simp) (fun i h => by cases h)) rfl ?_
         · simp -implicitDefEqProofs only [go_sem, St.keep, Nat.zero_add, Int.natCast_one, tA]
         · intro k hk hp
           refine run_sound 1000 _ _ ?_
           have hw2 : IntKind.i64.wrap (((k + 1 : Nat) : Int) + 1) = ((k + 1 + 1 : Nat) : Int) := by rw [wrap64 (by omega) (by omega)]; omega
           by_cases hk1 : k < t.length - 3
           · have hlt : (((k + 1 : Nat) : Int) < ((t.length - 2 : Nat) : Int)) = True := by simp; omega
             have hi : (((k + 1 : Nat) : Int) < (t.length : Int)) = True := by simp; omega
             have g3 := get_tA t (k + 1) (by omega)
             rw [all_step _ _ (by rw [hl2]; omega), hg _ (by omega)] at hp
             simp -implicitDefEqProofs only [go_sem, tA, e2, hlt, hi, g3]
             (repeat' (first | exact trivial | contradiction | exact ⟨_, rfl⟩ | refine And.intro ?_ ?_ | (refine om ?_; omega) | (refine wait_draw 1000 mixed (by decide +kernel) ?_; simp -implicitDefEqProofs only [go_sem, tA, e2, hlt, hi, g3]) | ((first | refine call_eq 1000 ((show PCon Tryz.prog 56 [.v (.int .i64 (t.getD (k + 1) 0))] (· = .v (.bool (cmdB (t.getD (k + 1) 0)))) from command_pc _)) ?_ ?_ rfl | refine call_draw 1000 ((show PCon Tryz.prog 56 [.v (.int .i64 (t.getD (k + 1) 0))] (· = .v (.bool (cmdB (t.getD (k + 1) 0)))) from command_pc _)) ?_ ?_); (focus (simp -implicitDefEqProofs only [go_sem, tA, e2, hlt, hi, g3]; done)); simp -implicitDefEqProofs only [go_sem, tA, e2, hlt, hi, g3]) | intro _))
             all_goals first
               | omega
               | ((refine weak_to [0, 3, 4] [] ?_ (by simp) (fun i h => by cases h); simp -implicitDefEqProofs only [go_sem, St.keep, hw2, tA]; done))
               | (rw [‹cmdB _ = true›, Bool.true_and] at hp; exact hp)
               | (rw [‹cmdB _ = false›, Bool.false_and] at hp; rw [checkE_bad hp.symm]; rfl)
           · have hlt : (((k + 1 : Nat) : Int) < ((t.length - 2 : Nat) : Int)) = False := by simp; omega
             have hk2 : k = t.length - 3 := by omega
             rw [List.drop_eq_nil_of_le (by rw [hl2]; omega), List.all_nil] at hp
             simp -implicitDefEqProofs only [go_sem, tA, e2, hlt]
             rw [checkE_ok hh hp.symm]; rfl)
theorem check_pc (t : List Int) (hm : t.length < 9223372036854775808) : PCon Tryz.prog 42 [tA t] (· = iA (checkE t)) := by
  refine pcon_run 1000 Tryz.func42 rfl Tryz.results42 Tryz.ntmps42 (Nat.le_of_ble_eq_true rfl) ?_
  rcases Nat.lt_or_ge t.length 3 with h3 | h3
  · have h1 : ((t.length : Int) < 3) = True := by simp; omega
    simp -implicitDefEqProofs only [go_sem, tA, h1]
    simp [checkE, headB, show ¬ 3 ≤ t.length by omega, iA, fz_v]
  · have h1 : ((t.length : Int) < 3) = False := by simp; omega
    have e1 : IntKind.i64.wrap ((t.length : Int) - 1) = ((t.length - 1 : Nat) : Int) := by rw [wrap64 (by omega) (by omega)]; omega
    have e2 : IntKind.i64.wrap ((t.length : Int) - 2) = ((t.length - 2 : Nat) : Int) := by rw [wrap64 (by omega) (by omega)]; omega
    have g0 := get_tA t 0 (by omega)
    have g1 := get_tA t (t.length - 1) (by omega)
    have g2 := get_tA t (t.length - 2) (by omega)
    have hg : ∀ k, k < t.length - 2 → (t.take (t.length - 2)).getD k 0 = t.getD k 0 := fun k hk => by rw [List.getD_eq_getElem?_getD, List.getElem?_take, if_pos hk, List.getD_eq_getElem?_getD]
    have hl2 : (t.take (t.length - 2)).length = t.length - 2 := by rw [List.length_take]; omega
    have hsl : ((t.map iA).take (t.length - 2)).drop 1 = ((t.take (t.length - 2)).drop 1).map iA := by rw [List.map_drop, List.map_take]
    generalize hb : (t.take (t.length - 2)).drop 1 = b at hsl
    have hbl : b.length = t.length - 3 := by rw [← hb, List.length_drop, hl2]; omega
    simp -implicitDefEqProofs only [go_sem, tA, h1, e1, e2, g0, g1, g2, hsl]
    (repeat' (first | exact trivial | contradiction | exact ⟨_, rfl⟩ | refine And.intro ?_ ?_ | (refine om ?_; omega)  | (refine wait_draw 1000 mixed (by decide +kernel) ?_; simp -implicitDefEqProofs only [go_sem tA, h1, e1, e2, g0, g1, g2, hsl]) | intro _))
    all_goals first
      | (have hh : headB t = false := by simp only [headB, decide_eq_false_iff_not]; omega
         rw [checkE_head hh]
         rfl)
      | (have hh : headB t = true := by simp only [headB, decide_eq_true_eq]; omega
         refine wait_range b.length (fun k => ⟨60, 0, [(47, tA b), (48, .v (.int .i64 b.length)), (49, .v (.int .i64 k))], []⟩)
          (fun k => (b.drop k).all cmdB = b.all cmdB) (weak_to [47, 48, 49] [] ?_ (by simp) (fun i h => by cases h)) rfl ?_
         · simp -implicitDefEqProofs only [go_sem, St.keep, Nat.zero_add, Int.natCast_one, tA, hsl]
         · intro k hk hp
           refine run_sound 1000 _ _ ?_
           have hw2 : IntKind.i64.wrap ((k : Int) + 1) = ((k + 1 : Nat) : Int) := by rw [wrap64 (by omega) (by omega)]; omega
           by_cases hk1 : k < b.length
           · have hlt : ((k : Int) < (b.length : Int)) = True := by simp; omega
             have g3 := get_tA b k (by omega)
             rw [all_step _ _ hk1] at hp
             simp -implicitDefEqProofs only [go_sem, tA, hlt, g3]
             (repeat' (first | exact trivial | contradiction | exact ⟨_, rfl⟩ | refine And.intro ?_ ?_ | (refine om ?_; omega)  | (refine wait_draw 1000 mixed (by decide +kernel) ?_; simp -implicitDefEqProofs only [go_sem tA, hlt, g3]) | intro _))
             all_goals first
               | omega
               | ((refine weak_to [47, 48, 49] [] ?_ (by simp) (fun i h => by cases h); simp -implicitDefEqProofs only [go_sem, St.keep, hw2, tA]; done))
               | (have hc : cmdB (b.getD k 0) = true := by simp only [cmdB, Bool.and_eq_true, decide_eq_true_eq]; omega
                  rw [hc, Bool.true_and] at hp; exact hp)
               | (have hc : cmdB (b.getD k 0) = false := by simp only [cmdB, Bool.and_eq_false_iff, decide_eq_false_iff_not]; omega
                  rw [hc, Bool.false_and, ← hb] at hp; rw [checkE_bad hp.symm]; rfl)
           · have hlt : ((k : Int) < (b.length : Int)) = False := by simp; omega
             have hk2 : k = b.length := by omega
             rw [List.drop_eq_nil_of_le (by omega), List.all_nil, ← hb] at hp
             simp -implicitDefEqProofs only [go_sem, tA, hlt]
             rw [checkE_ok hh hp.symm]; rfl)
end Go.Proofs.YtdgoompjoeffcaaGreat
/- What a tape means: the trail as a stack; commands that only turn. -/
namespace Go.Proofs.YtdgoompjoeffcaaGreat
open Pm
attribute [local irreducible] Wait CallT CallW NextT Le Weak
/-- A place and a direction. -/
structure Sd where
  x : Int
  y : Int
  d : Int
  deriving Inhabited
def sdA (s : Sd) : AV := .agg [.v (.int .i64 s.x), .v (.int .i64 s.y), .v (.int .i64 s.d)]
def trA (l : List Sd) : List AV := l.map sdA
theorem trA_len (l : List Sd) : (trA l).length = l.length := by simp [trA]
theorem trA_ren (f : Nat → Option Nat) (l : List Sd) : AV.renL f (trA l) = trA l := by rw [AV.renL_eq]; simp [trA, sdA, AV.ren, AV.renL]
theorem trA_fy (h : List (Option Blk)) (l : List Sd) : fyL h (trA l) = trA l := by rw [fyL_eq]; simp [trA, sdA, fy_agg, fyL_cons, fyL_nil, fy_v]
theorem trA_no (l : List Sd) : (trA l).map (AV.ren noF) = trA l := by simp [trA, sdA, AV.ren, AV.renL]
theorem trA_frz (id : Nat) (b : Blk) (l : List Sd) : AV.frzL id b (trA l) = trA l := by rw [frzL_eq]; simp [trA, sdA, frz_agg, frzL_cons, frzL_nil, frz_v]
theorem trA_take (l : List Sd) : (trA l).take l.length = trA l := List.take_of_length_le (by simp [trA])
theorem trA_app (l : List Sd) (x y d : Int) : trA l ++ [.agg [.v (.int .i64 x), .v (.int .i64 y), .v (.int .i64 d)]] = trA (l ++ [⟨x, y, d⟩]) := by simp [trA, sdA]
theorem trA_get (l : List Sd) (k : Nat) (h : k < l.length) : (trA l).getD k .junk = sdA (l.getD k default) := by simp [trA, List.getD_eq_getElem?_getD, h]
theorem trA_takeN (l : List Sd) (n : Nat) : (trA l).take n = trA (l.take n) := by simp [trA, List.map_take]
attribute [go_sem] trA_len trA_ren trA_fy trA_no trA_frz trA_take trA_app
theorem size_pc (l : List Sd) (rest : List AV) (hl : l.length ≤ 9223372036854775807) : PCon Tryz.prog 73 [.fptr (.fsl 3 (trA l) :: rest)] (· = .v (.int .i64 l.length)) := by
  refine pcon_run 1000 Tryz.func73 rfl Tryz.results73 Tryz.ntmps73 (Nat.le_of_ble_eq_true rfl) ?_
  simp -implicitDefEqProofs only [go_sem]
  (repeat' (first | exact trivial | contradiction | exact ⟨_, rfl⟩ | refine And.intro ?_ ?_ | (refine om ?_; omega)  | (refine wait_draw 1000 mixed (by decide +kernel) ?_; simp -implicitDefEqProofs only [go_sem]) | intro _))
  all_goals simp [fz_v, fz_agg, fz_tup, fz_fsl, fzL_nil, fzL_cons]
def trB (l : List Sd) : Option Blk := some (.row 67 3 (trA l))
theorem push_con (n : Nat) (l : List Sd) (hn : n = l.length) (x y d : Int) (a0 a1 a2 a4 a5 a6 a7 a8 a9 a10 : AV) (b1 b2 b3 b4 : Option Blk) (hl : l.length < 1000000000000) :
    Con Tryz.prog 71 [.ptr 0 11 0 3, .agg [.v (.int .i64 x), .v (.int .i64 y), .v (.int .i64 d)]] [wrowA a0 a1 a2 (.sl 5 3 0 n) a4 a5 a6 a7 a8 a9 a10, b1, b2, b3, b4, trB l]
    fun r h' => r = .tup [] ∧ h' = [wrowA a0 a1 a2 (.sl 8 3 0 (n + 1)) a4 a5 a6 a7 a8 a9 a10, b1, b2, b3, b4, none, some (.row 67 3 [sdA ⟨x, y, d⟩]), trB [⟨x, y, d⟩], trB (l ++ [⟨x, y, d⟩])] := by
  subst hn
  refine con_run 1000 Tryz.func71 rfl Tryz.results71 Tryz.ntmps71 (Nat.le_of_ble_eq_true rfl) ?_
  simp -implicitDefEqProofs only [go_sem, wrowA, trB]
  (repeat' (first | exact trivial | contradiction | exact ⟨_, rfl⟩ | refine And.intro ?_ ?_ | (refine om ?_; omega) | ((first | refine wait_draw 1000 mixed (by decide +kernel) ?_ | refine wait_drawV (fun id => id == 5 || id == 5 + killK || id == lastK) 1000 mixed (by decide +kernel) ?_); simp -implicitDefEqProofs only [go_sem, wrowA, trB]) | intro _))
  all_goals rfl
end Go.Proofs.YtdgoompjoeffcaaGreat
/- What a tape means: the walker, its methods that neither go nor write. -/
namespace Go.Proofs.YtdgoompjoeffcaaGreat
open Pm
attribute [local irreducible] Wait CallT CallW NextT Le Weak
/-- The walker. -/
structure Wk where
  s : Sd
  trail : List Sd
  count : Int
  onto : List (Pl × Bool)
  wrote : List (Pl × Int)
  fronts : List (Pl × Bool)
  road : List (Pl × Bool)
  long : Int
  give : Int
  deriving Inhabited
/-- The walker's struct; the trail's row is the block t. -/
def wkB (t : Nat) (x y d : Int) (n : Nat) (c long give : Int) : Option Blk := some (.row 74 11 [.agg [.v (.int .i64 x), .v (.int .i64 y), .v (.int .i64 d), .sl t 3 0 n, .v (.int .i64 c), .map 1, .map 2, .map 3, .map 4, .v (.int .i64 long), .v (.int .i64 give)]])
def wkS (w : Wk) : List (Option Blk) := [wkB 5 w.s.x w.s.y w.s.d w.trail.length w.count w.long w.give, some (.mp (mE bA w.onto)), some (.mp (mE iA w.wrote)), some (.mp (mE bA w.fronts)), some (.mp (mE bA w.road)), trB w.trail]
/-- Behind a call: the trail's row lies at another place. -/
def wkE (w : Wk) : List (Option Blk) := [wkB 6 w.s.x w.s.y w.s.d w.trail.length w.count w.long w.give, some (.mp (mE bA w.onto)), some (.mp (mE iA w.wrote)), some (.mp (mE bA w.fronts)), some (.mp (mE bA w.road)), none, trB w.trail]
theorem trA_getL (l : List Sd) (k : Nat) (h : k < l.length) : (trA l).getD k .junk = .agg [.v (.int .i64 (l.getD k default).x), .v (.int .i64 (l.getD k default).y), .v (.int .i64 (l.getD k default).d)] := trA_get l k h
theorem pop_con (w : Wk) (n : Nat) (hn : n + 1 = w.trail.length) (hl : w.trail.length < 1000000000000) : Con Tryz.prog 75 [.ptr 0 11 0 3] (wkS w)
    fun r h' => r = sdA (w.trail.getD n default) ∧ h' = wkE { w with trail := w.trail.take n } := by
  have hlen : (w.trail.take n).length = n := by rw [List.length_take]; omega
  refine Con.keep (r := sdA (w.trail.getD n default)) (h1 := [wkB 5 w.s.x w.s.y w.s.d n w.count w.long w.give, some (.mp (mE bA w.onto)), some (.mp (mE iA w.wrote)), some (.mp (mE bA w.fronts)), some (.mp (mE bA w.road)), some (.row 67 3 ((trA w.trail).take n)), some (.row 67 3 [sdA (w.trail.getD n default)]), some (.row 67 3 [sdA (w.trail.getD n default)])]) ?_ [0, 1, 2, 3, 4, 8, 5] ?_ ?_ (by decide) (stay_of rfl)
  · refine Con.cut (h1 := [wkB 5 w.s.x w.s.y w.s.d n w.count w.long w.give, some (.mp (mE bA w.onto)), some (.mp (mE iA w.wrote)), some (.mp (mE bA w.fronts)), some (.mp (mE bA w.road)), trB w.trail, some (.row 67 3 [sdA (w.trail.getD n default)]), some (.row 67 3 [sdA (w.trail.getD n default)])]) (id := 5) ?_ n rfl rfl
    refine con_run 1000 Tryz.func75 rfl Tryz.results75 Tryz.ntmps75 (Nat.le_of_ble_eq_true rfl) ?_
    have e1 : IntKind.i64.wrap ((w.trail.length : Int) - 1) = (n : Int) := by rw [wrap64 (by omega) (by omega)]; omega
    have h1 : (n < w.trail.length) = True := by simp; omega
    have h2 : ((n : Int) < (w.trail.length : Int)) = True := by simp; omega
    have g := trA_getL w.trail n (by omega)
    simp -implicitDefEqProofs only [go_sem, wkS, wkB, trB, e1, h1, h2, g]
    (repeat' (first | exact trivial | contradiction | exact ⟨_, rfl⟩ | refine And.intro ?_ ?_ | (refine om ?_; omega) | ((first | refine wait_draw 1000 mixed (by decide +kernel) ?_ | refine wait_drawV (fun id => id == 0 || id == lastK) 1000 mixed (by decide +kernel) ?_); simp -implicitDefEqProofs only [go_sem, wkB, trB, e1, h1, h2, g]) | intro _))
    all_goals rfl
  · simp -implicitDefEqProofs only [go_sem, sdA]
  · simp -implicitDefEqProofs only [go_sem, wkB, wkE, trB, trA_takeN, hlen, sdA]
end Go.Proofs.YtdgoompjoeffcaaGreat
