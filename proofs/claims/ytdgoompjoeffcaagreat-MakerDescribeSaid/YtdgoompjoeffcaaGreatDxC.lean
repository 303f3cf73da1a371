import Derived.Test.YtdgoompjoeffcaaGreatProg
import Derived.Test.YtdgoompjoeffcaaGreatPmY
import Derived.Test.YtdgoompjoeffcaaGreatDwA
import Derived.Test.YtdgoompjoeffcaaGreatDxA
import Derived.Deep.Strs
import Derived.OpenShut
import Derived.Test.YtdgoompjoeffcaaGreatRows
import Derived.ProofKit
import Derived.JoinedCond
/- A tape that describes: one list is the same as itself. -/
set_option linter.unusedSimpArgs false
set_option linter.unusedVariables false
set_option maxRecDepth 20000
open Go Go.Proofs
namespace Go.Proofs.YtdgoompjoeffcaaGreat
open Pm
attribute [local irreducible] Wait CallT CallW NextT Le Weak
theorem zl_get (l : List Int) (k : Nat) (h : k < l.length) : (l.map zA).getD k .junk = .v (.int .i64 (l.getD k 0)) := by simp [List.getD_eq_getElem?_getD, h, zA]
theorem sameInts1_pc (l : List Int) (hs : l.length < 1000000000000) : PCon Tryz.prog 21 [.fsl 1 (l.map zA), .fsl 1 (l.map zA)] (· = .v (.bool true)) := by
  refine pcon_run 1000 Tryz.func21 rfl Tryz.results21 Tryz.ntmps21 (Nat.le_of_ble_eq_true rfl) ?_
  simp -implicitDefEqProofs only [go_sem, bne_self_eq_false]
  (repeat' (first | exact trivial | contradiction | exact ⟨_, rfl⟩ | refine And.intro ?_ ?_ | (refine om ?_; omega)  | (refine wait_draw 1000 mixed (by decide +kernel) ?_; simp -implicitDefEqProofs only [go_sem , bne_self_eq_false]) | intro _))
  refine wait_range l.length (fun k => ⟨26, 0, [(0, .fsl 1 (l.map zA)), (1, .fsl 1 (l.map zA)), (5, .v (.int .i64 (k : Int)))], []⟩) (fun _ => True) (weak_to [0, 1, 5] [] ?_ (by simp) (fun i h => by cases h)) trivial ?_
  · simp -implicitDefEqProofs only [go_sem, St.keep, Int.natCast_zero]
  intro k hk _
  refine run_sound 1000 _ _ ?_
  by_cases hkl : k < l.length
  · have h1 : ((k : Int) < (l.length : Int)) = True := eq_true (by omega)
    have h2 : (k < l.length) = True := eq_true hkl
    have hw1 : IntKind.i64.wrap ((k : Int) + 1) = ((k + 1 : Nat) : Int) := by rw [wrapN (by omega) (by omega)]; omega
    have hg := zl_get l k hkl
    generalize l.getD k 0 = o at hg
    simp -implicitDefEqProofs only [go_sem, h1, h2, hg, bne_self_eq_false, beq_self_eq_true, Bool.and_self, Bool.not_true]
    (repeat' (first | exact trivial | contradiction | exact ⟨_, rfl⟩ | refine And.intro ?_ ?_ | (refine om ?_; omega)  | (refine wait_draw 1000 mixed (by decide +kernel) ?_; simp -implicitDefEqProofs only [go_sem , h1, h2, hg, bne_self_eq_false, beq_self_eq_true, Bool.and_self, Bool.not_true]) | intro _))
    all_goals
      refine weak_to [0, 1, 5] [] ?_ (by simp) (fun i h => by cases h)
      simp -implicitDefEqProofs only [go_sem, St.keep, hw1]
  · have h1 : ((k : Int) < (l.length : Int)) = False := eq_false (by omega)
    simp -implicitDefEqProofs only [go_sem, h1]
theorem sameInts_pc (l : List Int) (hs : l.length < 1000000000000) : PCon Tryz.prog 6 [.fsl 1 (l.map zA), .fsl 1 (l.map zA)] (· = .v (.bool true)) := by
  have c := sameInts1_pc l hs
  refine pcon_run 1000 Tryz.func6 rfl Tryz.results6 Tryz.ntmps6 (Nat.le_of_ble_eq_true rfl) ?_
  simp -implicitDefEqProofs only [go_sem]
  (repeat' (first | exact trivial | contradiction | exact ⟨_, rfl⟩ | refine And.intro ?_ ?_ | (refine om ?_; omega) | (refine wait_draw 1000 mixed (by decide +kernel) ?_; simp -implicitDefEqProofs only [go_sem]) | ((first | refine call_eq 1000 (c) ?_ ?_ rfl | refine call_draw 1000 (c) ?_ ?_); (focus (simp -implicitDefEqProofs only [go_sem]; done)); simp -implicitDefEqProofs only [go_sem]) | intro _))
theorem zl_fz (h : List (Option Blk)) (l : List Int) : fzL h (l.map zA) = l.map zA := by rw [fzL_eq, List.map_map]; exact List.map_congr_left fun b _ => by simp only [Function.comp, zA, fz_v]
attribute [go_sem] zl_fz
end Go.Proofs.YtdgoompjoeffcaaGreat
/- A tape that describes: the law's function. -/
namespace Go.Proofs.YtdgoompjoeffcaaGreat
open Pm
attribute [local irreducible] Wait CallT CallW NextT Le Weak
theorem sameInts_nil1 : PCon Tryz.prog 21 [.v (.slice none 0 0), .v (.slice none 0 0)] (· = .v (.bool true)) := by
  refine pcon_run 1000 Tryz.func21 rfl Tryz.results21 Tryz.ntmps21 (Nat.le_of_ble_eq_true rfl) ?_
  simp -implicitDefEqProofs only [go_sem, bne_self_eq_false]
  refine wait_range 0 (fun k => ⟨26, 0, [(0, .v (.slice none 0 0)), (1, .v (.slice none 0 0)), (5, .v (.int .i64 0))], []⟩) (fun _ => True) (weak_to [0, 1, 5] [] ?_ (by simp) (fun i h => by cases h)) trivial ?_
  · simp -implicitDefEqProofs only [go_sem, St.keep]
  intro k hk _
  refine run_sound 1000 _ _ ?_
  simp -implicitDefEqProofs only [go_sem]
theorem sameInts_nil : PCon Tryz.prog 6 [.v (.slice none 0 0), .v (.slice none 0 0)] (· = .v (.bool true)) := by
  have c := sameInts_nil1
  refine pcon_run 1000 Tryz.func6 rfl Tryz.results6 Tryz.ntmps6 (Nat.le_of_ble_eq_true rfl) ?_
  simp -implicitDefEqProofs only [go_sem]
  (repeat' (first | exact trivial | contradiction | exact ⟨_, rfl⟩ | refine And.intro ?_ ?_ | (refine om ?_; omega) | (refine wait_draw 1000 mixed (by decide +kernel) ?_; simp -implicitDefEqProofs only [go_sem]) | ((first | refine call_eq 1000 (c) ?_ ?_ rfl | refine call_draw 1000 (c) ?_ ?_); (focus (simp -implicitDefEqProofs only [go_sem]; done)); simp -implicitDefEqProofs only [go_sem]) | intro _))
theorem rsame_pc (l : List Ce) (hs : l.length < 1000000000000) : PCon Tryz.prog 25 [.fsl 3 (ceL l), .fsl 3 (ceL l)] (· = .v (.bool true)) := by
  refine pcon_run 1000 Tryz.func25 rfl Tryz.results25 Tryz.ntmps25 (Nat.le_of_ble_eq_true rfl) ?_
  simp -implicitDefEqProofs only [go_sem, bne_self_eq_false]
  (repeat' (first | exact trivial | contradiction | exact ⟨_, rfl⟩ | refine And.intro ?_ ?_ | (refine om ?_; omega)  | (refine wait_draw 1000 mixed (by decide +kernel) ?_; simp -implicitDefEqProofs only [go_sem , bne_self_eq_false]) | intro _))
  refine wait_range l.length (fun k => ⟨26, 0, [(0, .fsl 3 (ceL l)), (1, .fsl 3 (ceL l)), (5, .v (.int .i64 (k : Int)))], []⟩) (fun _ => True) (weak_to [0, 1, 5] [] ?_ (by simp) (fun i h => by cases h)) trivial ?_
  · simp -implicitDefEqProofs only [go_sem, St.keep, Int.natCast_zero]
  intro k hk _
  refine run_sound 1000 _ _ ?_
  by_cases hkl : k < l.length
  · have h1 : ((k : Int) < (l.length : Int)) = True := eq_true (by omega)
    have h2 : (k < l.length) = True := eq_true hkl
    have hw1 : IntKind.i64.wrap ((k : Int) + 1) = ((k + 1 : Nat) : Int) := by rw [wrapN (by omega) (by omega)]; omega
    have hg := ceA_at l k hkl
    generalize l.getD k ((0, 0), 0) = o at hg
    simp -implicitDefEqProofs only [go_sem, h1, h2, hg, bne_self_eq_false, beq_self_eq_true, Bool.and_self, Bool.not_true]
    (repeat' (first | exact trivial | contradiction | exact ⟨_, rfl⟩ | refine And.intro ?_ ?_ | (refine om ?_; omega)  | (refine wait_draw 1000 mixed (by decide +kernel) ?_; simp -implicitDefEqProofs only [go_sem , h1, h2, hg, bne_self_eq_false, beq_self_eq_true, Bool.and_self, Bool.not_true]) | intro _))
    all_goals
      refine weak_to [0, 1, 5] [] ?_ (by simp) (fun i h => by cases h)
      simp -implicitDefEqProofs only [go_sem, St.keep, hw1]
  · have h1 : ((k : Int) < (l.length : Int)) = False := eq_false (by omega)
    simp -implicitDefEqProofs only [go_sem, h1]
theorem same_pc (l : List Ce) (hs : l.length < 1000000000000) : PCon Tryz.prog 8 [.fsl 3 (ceL l), .fsl 3 (ceL l)] (· = .v (.bool true)) := by
  have c := rsame_pc l hs
  refine pcon_run 1000 Tryz.func8 rfl Tryz.results8 Tryz.ntmps8 (Nat.le_of_ble_eq_true rfl) ?_
  simp -implicitDefEqProofs only [go_sem]
  (repeat' (first | exact trivial | contradiction | exact ⟨_, rfl⟩ | refine And.intro ?_ ?_ | (refine om ?_; omega) | (refine wait_draw 1000 mixed (by decide +kernel) ?_; simp -implicitDefEqProofs only [go_sem]) | ((first | refine call_eq 1000 (c) ?_ ?_ rfl | refine call_draw 1000 (c) ?_ ?_); (focus (simp -implicitDefEqProofs only [go_sem]; done)); simp -implicitDefEqProofs only [go_sem]) | intro _))
theorem desc_cases (p : List Ce) : descE tapeR p = descE tapeD p ∧ (descE tapeD p = 0 → tapeR p = tapeD p ∧ Desc p ∧ p.length ≤ 65536 ∧ (tapeD p).length ≤ 4096 ∧ (progWalk (tapeD p)).1 = 0) := by
  by_cases h0 : properE p = 0
  · obtain ⟨ho, hnz, hlen⟩ := properE_ok h0
    by_cases hN : numOK p
    · by_cases hR : roomOK p
      · have hp : Desc p := ⟨ho, hnz, hN, fun c hc => (hR c hc).2.2.2⟩
        have hd : ∀ T : List Ce → List Int, descE T p = if 4096 < (T p).length then 71 else (progWalk (T p)).1 := fun T => by
          unfold descE
          rw [if_neg (by omega), if_neg (fun g => g hN), if_neg (fun g => g hR)]
        rw [hd, hd]
        rcases tape_same hp with e | ⟨e1, e2⟩
        · rw [e]
          refine ⟨rfl, fun h => ?_⟩
          by_cases hlong : 4096 < (tapeD p).length
          · rw [if_pos hlong] at h; cases h
          · rw [if_neg hlong] at h
            exact ⟨rfl, hp, hlen, by omega, h⟩
        · rw [if_pos e1, if_pos e2]
          exact ⟨rfl, fun h => by cases h⟩
      · have hd : ∀ T : List Ce → List Int, descE T p = 74 := fun T => by
          unfold descE
          rw [if_neg (by omega), if_neg (fun g => g hN), if_pos hR]
        rw [hd, hd]
        exact ⟨rfl, fun h => by cases h⟩
    · have hd : ∀ T : List Ce → List Int, descE T p = 72 := fun T => by
        unfold descE
        rw [if_neg (by omega), if_pos hN]
      rw [hd, hd]
      exact ⟨rfl, fun h => by cases h⟩
  · have hd : ∀ T : List Ce → List Int, descE T p = properE p := fun T => by
      unfold descE
      rw [if_pos h0]
    rw [hd, hd]
    exact ⟨rfl, fun h => absurd h h0⟩
/-- The law's function answers true. -/
theorem law8 (p : List Ce) (hl : p.length < 9223372036854775808) (hs : ∀ c ∈ p, c.2 ≤ 9223372036854775807) : PCon Tryz.prog 3 [.fsl 3 (ceL p)] (· = .v (.bool true)) := by
  have c1 := describeD_pc p hl
  have c2 := describe_pc p hl hs
  obtain ⟨he, hk⟩ := desc_cases p
  rw [he] at c1
  by_cases h0 : descE tapeD p = 0
  · obtain ⟨ht, hp, hlen, hlong, hw⟩ := hk h0
    rw [h0, tupE_ok] at c1 c2
    rw [ht] at c1
    have hm := describe_means hp hw
    have hcop := tapeD_cop p
    have c3 := sameInts_pc (tapeD p) (by omega)
    have c4 := meaning_pc (tapeD p) (by omega)
    have c5 := same_pc p (by omega)
    have hpm : ∃ rd lo pt, progMade (tapeD p) = (⟨p, rd, lo, false, pt⟩, 0) := by
      unfold progMade
      simp only [hw, if_true, hm, hcop]
      exact ⟨_, _, _, rfl⟩
    obtain ⟨rd, lo, pt, hpm⟩ := hpm
    rw [hpm] at c4
    unfold tZ at c1 c2
    have c4' : PCon Tryz.prog 7 [.fsl 1 ((tapeD p).map zA)] (· = .tup [mdA ⟨p, rd, lo, false, pt⟩, .v (.int .i64 0)]) := c4
    unfold mdA at c4'
    generalize tapeD p = Y at c1 c2 c3 c4'
    clear c4 hpm hm hcop hw ht hk he
    refine pcon_run 1000 Tryz.func3 rfl Tryz.results3 Tryz.ntmps3 (Nat.le_of_ble_eq_true rfl) ?_
    simp -implicitDefEqProofs only [go_sem]
    (repeat' (first | exact trivial | contradiction | exact ⟨_, rfl⟩ | refine And.intro ?_ ?_ | (refine om ?_; omega) | (refine wait_draw 1000 mixed (by decide +kernel) ?_; simp -implicitDefEqProofs only [go_sem, bne_self_eq_false, beq_self_eq_true, Bool.not_true, Bool.not_false]) | (refine call_eq 1000 (c1) ?_ ?_ rfl; (focus (simp -implicitDefEqProofs only [go_sem, bne_self_eq_false, beq_self_eq_true, Bool.not_true, Bool.not_false]; done)); simp -implicitDefEqProofs only [go_sem, bne_self_eq_false, beq_self_eq_true, Bool.not_true, Bool.not_false]) | (refine call_draw 1000 (c1) ?_ ?_; (focus (simp -implicitDefEqProofs only [go_sem, bne_self_eq_false, beq_self_eq_true, Bool.not_true, Bool.not_false]; done)); simp -implicitDefEqProofs only [go_sem, bne_self_eq_false, beq_self_eq_true, Bool.not_true, Bool.not_false]) | (refine call_eq 1000 (c2) ?_ ?_ rfl; (focus (simp -implicitDefEqProofs only [go_sem, bne_self_eq_false, beq_self_eq_true, Bool.not_true, Bool.not_false]; done)); simp -implicitDefEqProofs only [go_sem, bne_self_eq_false, beq_self_eq_true, Bool.not_true, Bool.not_false]) | (refine call_draw 1000 (c2) ?_ ?_; (focus (simp -implicitDefEqProofs only [go_sem, bne_self_eq_false, beq_self_eq_true, Bool.not_true, Bool.not_false]; done)); simp -implicitDefEqProofs only [go_sem, bne_self_eq_false, beq_self_eq_true, Bool.not_true, Bool.not_false]) | (refine call_eq 1000 (c3) ?_ ?_ rfl; (focus (simp -implicitDefEqProofs only [go_sem, bne_self_eq_false, beq_self_eq_true, Bool.not_true, Bool.not_false]; done)); simp -implicitDefEqProofs only [go_sem, bne_self_eq_false, beq_self_eq_true, Bool.not_true, Bool.not_false]) | (refine call_draw 1000 (c3) ?_ ?_; (focus (simp -implicitDefEqProofs only [go_sem, bne_self_eq_false, beq_self_eq_true, Bool.not_true, Bool.not_false]; done)); simp -implicitDefEqProofs only [go_sem, bne_self_eq_false, beq_self_eq_true, Bool.not_true, Bool.not_false]) | (refine call_eq 1000 (c4') ?_ ?_ rfl; (focus (simp -implicitDefEqProofs only [go_sem, bne_self_eq_false, beq_self_eq_true, Bool.not_true, Bool.not_false]; done)); simp -implicitDefEqProofs only [go_sem, bne_self_eq_false, beq_self_eq_true, Bool.not_true, Bool.not_false]) | (refine call_draw 1000 (c4') ?_ ?_; (focus (simp -implicitDefEqProofs only [go_sem, bne_self_eq_false, beq_self_eq_true, Bool.not_true, Bool.not_false]; done)); simp -implicitDefEqProofs only [go_sem, bne_self_eq_false, beq_self_eq_true, Bool.not_true, Bool.not_false]) | (refine call_eq 1000 (c5) ?_ ?_ rfl; (focus (simp -implicitDefEqProofs only [go_sem, bne_self_eq_false, beq_self_eq_true, Bool.not_true, Bool.not_false]; done)); simp -implicitDefEqProofs only [go_sem, bne_self_eq_false, beq_self_eq_true, Bool.not_true, Bool.not_false]) | (refine call_draw 1000 (c5) ?_ ?_; (focus (simp -implicitDefEqProofs only [go_sem, bne_self_eq_false, beq_self_eq_true, Bool.not_true, Bool.not_false]; done)); simp -implicitDefEqProofs only [go_sem, bne_self_eq_false, beq_self_eq_true, Bool.not_true, Bool.not_false]) | intro _))
  · rw [tupE_bad _ h0] at c1 c2
    have c3 := sameInts_nil
    have hb : (descE tapeD p != 0) = true := by simpa using h0
    generalize descE tapeD p = E at c1 c2 hb
    refine pcon_run 1000 Tryz.func3 rfl Tryz.results3 Tryz.ntmps3 (Nat.le_of_ble_eq_true rfl) ?_
    simp -implicitDefEqProofs only [go_sem]
    (repeat' (first | exact trivial | contradiction | exact ⟨_, rfl⟩ | refine And.intro ?_ ?_ | (refine om ?_; omega) | (refine wait_draw 1000 mixed (by decide +kernel) ?_; simp -implicitDefEqProofs only [go_sem, bne_self_eq_false, hb, Bool.not_true, Bool.not_false]) | (refine call_eq 1000 (c1) ?_ ?_ rfl; (focus (simp -implicitDefEqProofs only [go_sem, bne_self_eq_false, hb, Bool.not_true, Bool.not_false]; done)); simp -implicitDefEqProofs only [go_sem, bne_self_eq_false, hb, Bool.not_true, Bool.not_false]) | (refine call_draw 1000 (c1) ?_ ?_; (focus (simp -implicitDefEqProofs only [go_sem, bne_self_eq_false, hb, Bool.not_true, Bool.not_false]; done)); simp -implicitDefEqProofs only [go_sem, bne_self_eq_false, hb, Bool.not_true, Bool.not_false]) | (refine call_eq 1000 (c2) ?_ ?_ rfl; (focus (simp -implicitDefEqProofs only [go_sem, bne_self_eq_false, hb, Bool.not_true, Bool.not_false]; done)); simp -implicitDefEqProofs only [go_sem, bne_self_eq_false, hb, Bool.not_true, Bool.not_false]) | (refine call_draw 1000 (c2) ?_ ?_; (focus (simp -implicitDefEqProofs only [go_sem, bne_self_eq_false, hb, Bool.not_true, Bool.not_false]; done)); simp -implicitDefEqProofs only [go_sem, bne_self_eq_false, hb, Bool.not_true, Bool.not_false]) | (refine call_eq 1000 (c3) ?_ ?_ rfl; (focus (simp -implicitDefEqProofs only [go_sem, bne_self_eq_false, hb, Bool.not_true, Bool.not_false]; done)); simp -implicitDefEqProofs only [go_sem, bne_self_eq_false, hb, Bool.not_true, Bool.not_false]) | (refine call_draw 1000 (c3) ?_ ?_; (focus (simp -implicitDefEqProofs only [go_sem, bne_self_eq_false, hb, Bool.not_true, Bool.not_false]; done)); simp -implicitDefEqProofs only [go_sem, bne_self_eq_false, hb, Bool.not_true, Bool.not_false]) | intro _))
end Go.Proofs.YtdgoompjoeffcaaGreat
/- PM, part V: a law's row: structs of whole numbers, and the last steps, alike from law to law. -/
namespace Go.Proofs.YtdgoompjoeffcaaGreat
namespace Pm
section
variable {H : Type} {enc : TypeId × Value → H} {P : Program} {W : World}
theorem i64_wf {x : Int} (h : (Lit.int .i64 x).wf = true) : -9223372036854775808 ≤ x ∧ x ≤ 9223372036854775807 := by
  simp [Lit.wf, IntKind.min, IntKind.max, IntKind.bits, IntKind.signed] at h
  omega
def intV : Value → Int
  | .int _ y => y
  | _ => 0
/-- A struct of whole numbers. -/
theorem ints_reads {t : TypeId} {fs : Array Field} {fuel : Nat} {cs : List Value} {x : DataW H × List MemPlace} (ht : P.underlying t = some (.struct fs)) (hsz : P.cellsOf t = fs.size)
    (hall : ∀ i : Nat, i < fs.size → ∃ f, fs[i]? = some f ∧ f.offset = i ∧ P.underlying f.type = some (.int .i64) ∧ P.cellsOf f.type = 1)
    (h : DataW.trod enc P W 0 (fun _ => true) true fuel t cs = some x) : ∃ l : List Int, l.length = fs.size ∧ cs = l.map (Value.int .i64) ∧ ∀ y ∈ l, -9223372036854775808 ≤ y ∧ y ≤ 9223372036854775807 := by
  obtain ⟨xs, n, _, rfl, hl, hlen, hf⟩ := DataW.trod_struct ht h
  rw [hsz] at hl
  have each : ∀ i : Nat, i < fs.size → ∃ y, cs[i]? = some (.int .i64 y) ∧ (Lit.int .i64 y).wf = true := fun i hi => by
    obtain ⟨f, h1, h2, h3, h4⟩ := hall i hi
    have h5 := hf i f h1
    rw [h2, h4] at h5
    obtain ⟨r, hr⟩ : ∃ r, xs[i]? = some r := ⟨xs[i]'(by omega), List.getElem?_eq_getElem (by omega)⟩
    rw [hr] at h5
    obtain ⟨y, h6, h7⟩ := int_reads h3 h5
    refine ⟨y, ?_, h7⟩
    have h8 := congrArg (fun l : List Value => l[0]?) h6
    simpa using h8
  refine ⟨(List.range fs.size).map fun i => intV (cs.getD i undef), by simp, ?_, ?_⟩
  · apply List.ext_getElem?
    intro i
    by_cases hi : i < fs.size
    · obtain ⟨y, hy, _⟩ := each i hi
      simp [List.getElem?_map, List.getElem?_range hi, List.getD_eq_getElem?_getD, hy, intV]
    · rw [List.getElem?_eq_none (by omega), List.getElem?_eq_none (by simp; omega)]
  · intro y hy
    obtain ⟨i, hi, rfl⟩ := List.mem_map.1 hy
    obtain ⟨z, hz, hw⟩ := each i (List.mem_range.1 hi)
    simp only [List.getD_eq_getElem?_getD, hz, Option.getD_some, intV]
    exact i64_wf hw
end
end Pm
end Go.Proofs.YtdgoompjoeffcaaGreat
/- MakerDescribe answers true for every input, and leaves what it was given. No condition. -/
set_option linter.constructorNameAsVariable false
namespace Go.Proofs.YtdgoompjoeffcaaGreat
open Pm
open Go.ChangeSpec Go.ChangeShapes Go.WideShapes Go.ChangeAt Go.RowKit
theorem own8 : ownKnob Tryz.prog.godebug = none := by kernel_rfl
theorem laid8 : laidOutB Tryz.prog = true := by kernel_rfl
theorem one_cell8 {W : World} {b : Nat} {v : Value} {t e : TypeId} (ht : Tryz.prog.underlying t = some (.slice e)) (h : Value.okWide Tryz.prog W .any b t v) {x : Value} (hx : v.cells.toList = [x]) : v = x := by
  unfold Value.okWide at h
  rw [ht] at h
  cases v <;> first | (simp [Value.cells] at hx; exact hx) | (exfalso; simp [Cell.okWide, Cell.ok, ht] at h; done)
/-- A cell whose state is a number of the machine's. -/
structure CeB where
  v : Ce
  h : v.2 ≤ 9223372036854775807
instance : Inhabited CeB := ⟨⟨((0, 0), 0), by decide⟩⟩
theorem cells_rd {H : Type} {enc : TypeId × Value → H} {W : World} {fuel : Nat} {cs : List Value} {d : DataW H} {ps : List MemPlace} (h : DataW.trod enc Tryz.prog W 0 (fun _ => true) true fuel 22 cs = some (d, ps)) :
    ∃ (p : List Ce) (v : Value), cs = [v] ∧ RV W noρ noD (zOf W) (.fsl 3 (ceL p)) v ∧ ∀ c ∈ p, c.2 ≤ 9223372036854775807 := by
  obtain ⟨l, v, e, hrv, -⟩ := slice_reads (α := CeB) (fun c => ceA c.v) (sz := 3) (ht := (Tryz.underlying22 : Tryz.prog.underlying 22 = some (.slice 29))) (hsz := by kernel_rfl) (rd := fun n cs d ps hlen hrd => by
    obtain ⟨l, h1, h2, h3⟩ := ints_reads Tryz.underlying29 (by kernel_rfl) (fun i hi => by
      match i, hi with
      | 0, _ => exact ⟨_, rfl, rfl, by kernel_rfl, by kernel_rfl⟩
      | 1, _ => exact ⟨_, rfl, rfl, by kernel_rfl, by kernel_rfl⟩
      | 2, _ => exact ⟨_, rfl, rfl, by kernel_rfl, by kernel_rfl⟩
      | n + 3, h => exact absurd h (by simp)) hrd
    match l, h1 with
    | [x, y, s], _ =>
      subst h2
      refine ⟨⟨((x, y), s), (h3 s (by simp)).2⟩, rfl, fun j hj => ?_⟩
      match j, hj with
      | 0, _ => exact ⟨.v _, rfl⟩
      | 1, _ => exact ⟨.v _, rfl⟩
      | 2, _ => exact ⟨.v _, rfl⟩) h
  refine ⟨l.map CeB.v, v, e, ?_, fun c hc => ?_⟩
  · have : ceL (l.map CeB.v) = l.map (fun c => ceA c.v) := by unfold ceL; rw [List.map_map]; rfl
    rw [this]
    exact hrv
  · obtain ⟨x, _, rfl⟩ := List.mem_map.1 hc
    exact x.h
theorem cells_len {W : World} {D Z : Nat → Prop} {ρ : Nat → Option Nat} {p : List Ce} {v : Value} (h : RV W ρ D Z (.fsl 3 (ceL p)) v) : p.length < 9223372036854775808 := by
  obtain ⟨_, _, _, _, h1, h2, _⟩ := RV.fsl_inv h
  rw [ceL_len] at h1
  have h3 : maxLen ≤ 9223372036854775807 := by decide
  omega
set_option maxRecDepth 100000 in
theorem contract8 (H : Type) (enc : TypeId × Value → H) (W : World) (base : Nat) (args : Array Value) (ds gs : List (DataW H)) (before : List MemPlace)
    (hval : ∀ (j : Nat) t v, Tryz.f3.params[j]? = some t → args[j]? = some v → Value.okWide Tryz.prog W .any base t v)
    (hW : DataW.Whole enc Tryz.prog Tryz.f3.params.toList Rows.makerDescribeSpec.vars false W args.toList ds gs before) :
    Calls Tryz.prog 3 args W fun e W' => ∃ v, e = .returned v ∧ Rows.makerDescribeSpec.post enc Tryz.prog Tryz.f3 false true false false W args v W' := by
  have hW' := hW
  obtain ⟨p, q, hA0, hV, rfl, _, _⟩ := hW
  have hA : DataW.TrodAll enc Tryz.prog W 0 (fun _ => true) true Tryz.f3.params.toList args.toList ds p := hA0
  rw [Tryz.params3] at hA hval
  obtain ⟨v0, d0, rfl, rfl, n0, h0⟩ := trodAll_one hA
  obtain ⟨rfl, rfl⟩ := trodVars_none hV
  obtain ⟨l, v, e0, r0, hs⟩ := cells_rd h0
  have e0' := one_cell8 Tryz.underlying22 (hval 0 22 v0 rfl rfl) e0
  subst e0'
  refine (law8 l (cells_len r0) hs W (zOf W) _ rfl (fun j hj => ?_) (fun k hk => hk) ⟨fun _ _ hg => (nomatch hg), fun _ hg => (nomatch hg)⟩).mono ?_
  · match j, hj with
    | 0, _ => exact r0
  · rintro e W' ⟨r, v, Z', rfl, rfl, hv, hb, _⟩
    cases hv.v_inv
    exact ⟨_, rfl, post_true laid8 hW' rfl (by rw [Tryz.params3]; intro t ht; simp at ht; rcases ht with rfl; exact ⟨by kernel_rfl, of_decide_eq_true (by kernel_rfl)⟩) rfl un_4 (fun ds' _ hd => by subst hd; rfl) hb⟩
set_option maxRecDepth 100000 in
theorem lifted8 (os : Os) (started : os.Started) (H : Type) (enc : TypeId × Value → H) :
    ReturnsInHanded {} Tryz.checked os 3 .any (Rows.makerDescribeSpec.pre6 enc Tryz.prog Tryz.f3 Rows.makerDescribeRow.domain false) (Rows.makerDescribeSpec.post enc Tryz.prog Tryz.f3 false true false false) := by
  refine returnsInHanded_of_change (C := Tryz.checked) own8 started (by kernel_rfl) Tryz.func3
    (ChangeSpec.witness6 (enc := enc) (C := Tryz.checked) false ⟨#[], #[.slice none 0 0], []⟩ 8 (by kernel_rfl) (by kernel_rfl) (by kernel_rfl) (by kernel_rfl)) ?_
  intro W base args ds gs before hval hW _ _
  exact contract8 H enc W base args ds gs before hval hW
theorem makerDescribe_proved : Rows.MakerDescribeSaid :=
  OpenClaim.holds_of_wide 3 Tryz.f3 rfl rfl rfl rfl rfl rfl rfl ⟨rfl, rfl, rfl, rfl, rfl⟩ rfl rfl rfl rfl rfl (by kernel_rfl) Tryz.func3 (by kernel_rfl)
    (of_decide_eq_true (by kernel_rfl)) (by unfold Func.isWrapper; first | (rw [if_pos (by decide +kernel)]; kernel_rfl) | (rw [if_neg (by decide +kernel)]; exact ⟨rfl, rfl⟩))
    (fun os started H enc _ => lifted8 os started H enc)
#print axioms makerDescribe_proved
end Go.Proofs.YtdgoompjoeffcaaGreat
