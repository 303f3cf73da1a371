import Derived.Test.YtdgoompjoeffcaaGreatProg
import Derived.Test.YtdgoompjoeffcaaGreatPmY
import Derived.Test.YtdgoompjoeffcaaGreatMmJ
import Derived.Shelf.SlSortCmp.WholeK
import Derived.Shelf.SlSortCmp.NoneTotal
import Derived.Shelf.SlGeneric
import Derived.Ground.SlsfProg
/- What a tape means: the program's walk, its loop. -/
set_option linter.unusedSimpArgs false
set_option linter.unusedVariables false
set_option maxRecDepth 20000
open Go Go.Proofs
namespace Go.Proofs.YtdgoompjoeffcaaGreat
open Pm
attribute [local irreducible] Wait CallT CallW NextT Le Weak
def wlS (t : List Int) (b : List Int) (p : Nat × Wk) : St := ⟨55, 0, [(0, tA t), (5, .ptr 0 11 0 0), (20, tA b), (21, .v (.int .i64 b.length)), (22, .v (.int .i64 (p.1 : Int)))], wkS p.2⟩
theorem begin_in : WkIn beginW (1 + 255 * 0) := ⟨⟨by decide, by decide, ⟨by decide, by decide, by decide⟩, by simp only [beginW, List.mem_singleton, forall_eq]; exact ⟨by decide, by decide, by decide⟩⟩, by decide⟩
theorem walk_con (t : List Int) (hm : t.length < 9223372036854775808) : Con Tryz.prog 20 [tA t] []
    fun r h' => (∃ e, (progWalk t).1 = e ∧ e ≠ 0 ∧ r = .tup [.v (.pointer none), .v (.int .i64 e)]) ∨ ((progWalk t).1 = 0 ∧ r = .tup [.ptr 0 11 0 0, .v (.int .i64 0)] ∧ h' = wkS (progWalk t).2) := by
  refine con_run 1000 Tryz.func20 rfl Tryz.results20 Tryz.ntmps20 (Nat.le_of_ble_eq_true rfl) ?_
  have hck := check_pc t hm
  by_cases hc : checkE t = 0
  · have hh : headB t = true := by
      cases h : headB t with
      | true => rfl
      | false => rw [checkE_head h] at hc; cases hc
    have hlen : 3 ≤ t.length ∧ t.length ≤ 4096 := by simp only [headB, decide_eq_true_eq] at hh; omega
    have hall : ((t.take (t.length - 2)).drop 1).all cmdB = true := by
      cases h : ((t.take (t.length - 2)).drop 1).all cmdB with
      | true => rfl
      | false => rw [checkE_bad h] at hc; cases hc
    have hpw : progWalk t = walkP ((t.take (t.length - 2)).drop 1) beginW := by unfold progWalk; rw [if_pos hc]
    rw [hpw]
    have e2 : IntKind.i64.wrap ((t.length : Int) - 2) = ((t.length - 2 : Nat) : Int) := by rw [wrap64 (by omega) (by omega)]; omega
    have hsl : ((t.map iA).take (t.length - 2)).drop 1 = ((t.take (t.length - 2)).drop 1).map iA := by rw [List.map_drop, List.map_take]
    have hbl : ((t.take (t.length - 2)).drop 1).length = t.length - 3 := by rw [List.length_drop, List.length_take]; omega
    generalize hb : (t.take (t.length - 2)).drop 1 = b at hsl hbl hall
    simp -implicitDefEqProofs only [go_sem, tA, iA]
    (repeat' (first | exact trivial | contradiction | exact ⟨_, rfl⟩ | refine And.intro ?_ ?_ | (refine om ?_; omega) | (refine wait_draw 1000 mixed (by decide +kernel) ?_; simp -implicitDefEqProofs only [go_sem, tA, iA, hc, hsl, e2]) | ((first | refine call_eq 1000 (hck) ?_ ?_ rfl | refine call_draw 1000 (hck) ?_ ?_); (focus (simp -implicitDefEqProofs only [go_sem, tA, iA, hc, hsl, e2]; done)); simp -implicitDefEqProofs only [go_sem, tA, iA, hc, hsl, e2]) | ((first | refine call_con_eq 1000 [] (new_con) ?_ ?_ ?_ | refine call_draw_con 1000 [] (new_con) (by decide +kernel) ?_ ?_ ?_); (focus (simp -implicitDefEqProofs only [go_sem, tA, iA, hc, hsl, e2]; done)); (focus (simp -implicitDefEqProofs only [go_sem, tA, iA, hc, hsl, e2]; done)); simp -implicitDefEqProofs only [go_sem, tA, iA, hc, hsl, e2]) | intro _))
    refine wait_data (wlS t b) (fun p => p.1 ≤ b.length ∧ WkIn p.2 (1 + 255 * p.1) ∧ walkP (b.drop p.1) p.2 = walkP b beginW) (fun p => b.length - p.1) (0, beginW) (weak_to [0, 5, 20, 21, 22] [0, 1, 2, 3, 4, 5] ?_ (by decide) (fun i h => by cases h)) ⟨Nat.zero_le _, begin_in, rfl⟩ ?_
    · simp -implicitDefEqProofs only [go_sem, St.keep, wlS, wkS, wkB, trB, tA, beginW, Int.natCast_zero]
    rintro ⟨k, v⟩ ⟨hk, hv, hG⟩
    simp only at hk hv hG
    refine run_sound 1000 _ _ ?_
    by_cases hkb : k < b.length
    · have hlt : ((k : Int) < (b.length : Int)) = True := eq_true (by omega)
      obtain ⟨s, hs⟩ : ∃ s, s = b.getD k 0 := ⟨_, rfl⟩
      have hg := get_tA b k hkb
      rw [← hs] at hg
      have hdrop : b.drop k = s :: b.drop (k + 1) := by
        rw [List.drop_eq_getElem_cons hkb, hs, List.getD_eq_getElem?_getD, List.getElem?_eq_getElem hkb]
        rfl
      rw [hdrop] at hG
      have hcmd : cmdB s = true := by
        rw [hs, List.getD_eq_getElem?_getD, List.getElem?_eq_getElem hkb]
        exact List.all_eq_true.1 hall _ (List.getElem_mem hkb)
      simp only [cmdB, Bool.and_eq_true, decide_eq_true_eq] at hcmd
      have hw1 : IntKind.i64.wrap ((k : Int) + 1) = ((k + 1 : Nat) : Int) := by rw [wrap64 (by omega) (by omega)]; omega
      have htl : v.trail.length < 1000000000000 := by have := hv.ok.tl; omega
      have hnext : ∀ (w' : Wk), cmdP v s = (0, w') → WkIn w' (1 + 255 * k + 255) → walkP (b.drop (k + 1)) w' = walkP b beginW ∧ WkIn w' (1 + 255 * (k + 1)) := fun w' h1 h2 => by
        refine ⟨?_, by rw [show 1 + 255 * (k + 1) = 1 + 255 * k + 255 by omega]; exact h2⟩
        rw [← hG, walkP_ok (by rw [h1]), h1]
      rcases (show s = 5 ∨ s = 6 ∨ s = 7 ∨ (8 ≤ s ∧ s < 24) ∨ 24 ≤ s by omega) with h5 | h6 | h7 | h8 | h24
      · have hc5 : cmdP v s = forthP v := by unfold cmdP; rw [if_pos h5]
        subst h5
        simp -implicitDefEqProofs only [go_sem, wlS, wkS, wkB, trB, tA, hlt, hg]
        refine call_con 1000 [0, 1, 2, 3, 4, 5] (forth_con v 5 (1 + 255 * k) hv.ok (by omega) hv.c.1 hv.c.2) ?_ ?_ (by simp) (by simp) rfl ?_
        · simp -implicitDefEqProofs only [go_sem]
        · simp -implicitDefEqProofs only [go_sem, wkS, wkB, trB]
        rintro r hcal ⟨e, w', hf, rfl, hlen2, hh'⟩
        refine ⟨hlen2, ?_⟩
        have hfp : forthP v = (e, w') := hf
        by_cases he : e = 0
        · subst he
          rw [hh' rfl]
          obtain ⟨h1, h2⟩ := hnext w' (by rw [hc5, hfp]) (forthP_inv hv hfp)
          simp -implicitDefEqProofs only [go_sem, wkE, wkB, trB]
          refine ⟨(k + 1, w'), ?_, ⟨?_, h2, h1⟩, ?_⟩
          · show b.length - (k + 1) < b.length - k; omega
          · show k + 1 ≤ b.length; omega
          · refine weak_to [0, 5, 20, 21, 22] [0, 1, 2, 3, 4, 6] ?_ (by decide) (fun i h => by cases h)
            simp -implicitDefEqProofs only [go_sem, St.keep, wkB, trB, hw1]
        · have hne : (e = 0) = False := eq_false he
          simp -implicitDefEqProofs only [go_sem, hne]
          refine .inl ⟨e, ?_, he, rfl⟩
          rw [← hG, walkP_bad (by rw [hc5, hfp]; exact he), hc5, hfp]
      · have hc6 : cmdP v s = (0, turnW v s) := by unfold cmdP; rw [if_neg (by omega), if_pos (by omega)]
        subst h6
        simp -implicitDefEqProofs only [go_sem, wlS, wkS, wkB, trB, tA, hlt, hg]
        (repeat' (first | exact trivial | contradiction | exact ⟨_, rfl⟩ | refine And.intro ?_ ?_ | (refine om ?_; omega) | (refine wait_draw 1000 mixed (by decide +kernel) ?_; simp -implicitDefEqProofs only [go_sem, tA, hlt, hg, wkS, wkB, trB]) | ((first | refine call_con_eq 1000 [0,1,2,3,4,5] (turn_con v 6 htl hv.ok.s.d.1 hv.ok.s.d.2 (by omega) (by omega)) ?_ ?_ ?_ | refine call_draw_con 1000 [0,1,2,3,4,5] (turn_con v 6 htl hv.ok.s.d.1 hv.ok.s.d.2 (by omega) (by omega)) (by decide +kernel) ?_ ?_ ?_); (focus (simp -implicitDefEqProofs only [go_sem, tA, hlt, hg, wkS, wkB, trB]; done)); (focus (simp -implicitDefEqProofs only [go_sem, tA, hlt, hg, wkS, wkB, trB]; done)); simp -implicitDefEqProofs only [go_sem, tA, hlt, hg, wkS, wkB, trB]) | intro _))
        obtain ⟨h1, h2⟩ := hnext _ hc6 (turn_in hv (by omega) (by omega))
        refine ⟨(k + 1, turnW v 6), ?_, ⟨?_, h2, h1⟩, ?_⟩
        · show b.length - (k + 1) < b.length - k; omega
        · show k + 1 ≤ b.length; omega
        · refine weak_to [0, 5, 20, 21, 22] [0, 1, 2, 3, 4, 5] ?_ (by decide) (fun i h => by cases h)
          simp -implicitDefEqProofs only [go_sem, St.keep, wkS, wkB, trB, hw1]
      · have hc6 : cmdP v s = (0, turnW v s) := by unfold cmdP; rw [if_neg (by omega), if_pos (by omega)]
        subst h7
        simp -implicitDefEqProofs only [go_sem, wlS, wkS, wkB, trB, tA, hlt, hg]
        (repeat' (first | exact trivial | contradiction | exact ⟨_, rfl⟩ | refine And.intro ?_ ?_ | (refine om ?_; omega) | (refine wait_draw 1000 mixed (by decide +kernel) ?_; simp -implicitDefEqProofs only [go_sem, tA, hlt, hg, wkS, wkB, trB]) | ((first | refine call_con_eq 1000 [0,1,2,3,4,5] (turn_con v 7 htl hv.ok.s.d.1 hv.ok.s.d.2 (by omega) (by omega)) ?_ ?_ ?_ | refine call_draw_con 1000 [0,1,2,3,4,5] (turn_con v 7 htl hv.ok.s.d.1 hv.ok.s.d.2 (by omega) (by omega)) (by decide +kernel) ?_ ?_ ?_); (focus (simp -implicitDefEqProofs only [go_sem, tA, hlt, hg, wkS, wkB, trB]; done)); (focus (simp -implicitDefEqProofs only [go_sem, tA, hlt, hg, wkS, wkB, trB]; done)); simp -implicitDefEqProofs only [go_sem, tA, hlt, hg, wkS, wkB, trB]) | intro _))
        obtain ⟨h1, h2⟩ := hnext _ hc6 (turn_in hv (by omega) (by omega))
        refine ⟨(k + 1, turnW v 7), ?_, ⟨?_, h2, h1⟩, ?_⟩
        · show b.length - (k + 1) < b.length - k; omega
        · show k + 1 ≤ b.length; omega
        · refine weak_to [0, 5, 20, 21, 22] [0, 1, 2, 3, 4, 5] ?_ (by decide) (fun i h => by cases h)
          simp -implicitDefEqProofs only [go_sem, St.keep, wkS, wkB, trB, hw1]
      · have hne5 : (s = 5) = False := eq_false (by omega)
        have hne6 : (s = 6) = False := eq_false (by omega)
        have hne7 : (s = 7) = False := eq_false (by omega)
        have hlt24 : (s < 24) = True := eq_true (by omega)
        have hc8 : cmdP v s = (0, digitW v s) := by unfold cmdP; rw [if_neg (by omega), if_neg (by omega), if_pos (by omega)]
        simp -implicitDefEqProofs only [go_sem, wlS, wkS, wkB, trB, tA, hlt, hg, hne5, hne6, hne7, hlt24]
        (repeat' (first | exact trivial | contradiction | exact ⟨_, rfl⟩ | refine And.intro ?_ ?_ | (refine om ?_; omega) | (refine wait_draw 1000 mixed (by decide +kernel) ?_; simp -implicitDefEqProofs only [go_sem, tA, hlt, hg, hne5, hne6, hne7, hlt24, wkS, wkB, trB]) | ((first | refine call_con_eq 1000 [0,1,2,3,4,5] (digit_con v s htl hv.c.1 hv.c.2 (by omega) (by omega)) ?_ ?_ ?_ | refine call_draw_con 1000 [0,1,2,3,4,5] (digit_con v s htl hv.c.1 hv.c.2 (by omega) (by omega)) (by decide +kernel) ?_ ?_ ?_); (focus (simp -implicitDefEqProofs only [go_sem, tA, hlt, hg, hne5, hne6, hne7, hlt24, wkS, wkB, trB]; done)); (focus (simp -implicitDefEqProofs only [go_sem, tA, hlt, hg, hne5, hne6, hne7, hlt24, wkS, wkB, trB]; done)); simp -implicitDefEqProofs only [go_sem, tA, hlt, hg, hne5, hne6, hne7, hlt24, wkS, wkB, trB]) | intro _))
        obtain ⟨h1, h2⟩ := hnext _ hc8 (digit_in hv (by omega))
        refine ⟨(k + 1, digitW v s), ?_, ⟨?_, h2, h1⟩, ?_⟩
        · show b.length - (k + 1) < b.length - k; omega
        · show k + 1 ≤ b.length; omega
        · refine weak_to [0, 5, 20, 21, 22] [0, 1, 2, 3, 4, 5] ?_ (by decide) (fun i h => by cases h)
          simp -implicitDefEqProofs only [go_sem, St.keep, wkS, wkB, trB, hw1]
      · have hne5 : (s = 5) = False := eq_false (by omega)
        have hne6 : (s = 6) = False := eq_false (by omega)
        have hne7 : (s = 7) = False := eq_false (by omega)
        have hlt24 : (s < 24) = False := eq_false (by omega)
        have hc24 : cmdP v s = writeP v s := by unfold cmdP; rw [if_neg (by omega), if_neg (by omega), if_neg (by omega)]
        simp -implicitDefEqProofs only [go_sem, wlS, wkS, wkB, trB, tA, hlt, hg, hne5, hne6, hne7, hlt24]
        repeat' (first | refine And.intro ?_ ?_ | (intro _))
        refine call_con 1000 [0, 1, 2, 3, 4, 5] (write_con v s (1 + 255 * k) hv.ok (by omega) hv.c.1 hv.c.2 h24 hcmd.2) ?_ ?_ (by simp) (by simp) rfl ?_
        · simp -implicitDefEqProofs only [go_sem]
        · simp -implicitDefEqProofs only [go_sem, wkS, wkB, trB]
        rintro r hcal ⟨e, w', hf, rfl, hlen2, hh'⟩
        refine ⟨hlen2, ?_⟩
        have hfp : writeP v s = (e, w') := hf
        by_cases he : e = 0
        · subst he
          rw [hh' rfl]
          obtain ⟨h1, h2⟩ := hnext w' (by rw [hc24, hfp]) (writeP_inv hv hfp)
          simp -implicitDefEqProofs only [go_sem, wkE, wkB, trB]
          refine ⟨(k + 1, w'), ?_, ⟨?_, h2, h1⟩, ?_⟩
          · show b.length - (k + 1) < b.length - k; omega
          · show k + 1 ≤ b.length; omega
          · refine weak_to [0, 5, 20, 21, 22] [0, 1, 2, 3, 4, 6] ?_ (by decide) (fun i h => by cases h)
            simp -implicitDefEqProofs only [go_sem, St.keep, wkB, trB, hw1]
        · have hne : (e = 0) = False := eq_false he
          simp -implicitDefEqProofs only [go_sem, hne]
          refine .inl ⟨e, ?_, he, rfl⟩
          rw [← hG, walkP_bad (by rw [hc24, hfp]; exact he), hc24, hfp]
    · have hlt : ((k : Int) < (b.length : Int)) = False := eq_false (by omega)
      rw [List.drop_eq_nil_of_le (by omega)] at hG
      have hG' : walkP b beginW = (0, v) := hG.symm
      rw [hG']
      simp -implicitDefEqProofs only [go_sem, wlS, wkS, wkB, trB, tA, hlt]
  · have h71 : checkE t = 71 := by unfold checkE at hc ⊢; split at hc <;> rename_i h <;> first | exact absurd rfl hc | rw [if_neg h]
    have hpw : progWalk t = (71, beginW) := by unfold progWalk; rw [if_neg hc]
    rw [hpw]
    rw [h71] at hck
    simp -implicitDefEqProofs only [go_sem, tA, iA]
    (repeat' (first | exact trivial | contradiction | exact ⟨_, rfl⟩ | refine And.intro ?_ ?_ | (refine om ?_; omega) | (refine wait_draw 1000 mixed (by decide +kernel) ?_; simp -implicitDefEqProofs only [go_sem, tA, iA]) | ((first | refine call_eq 1000 (hck) ?_ ?_ rfl | refine call_draw 1000 (hck) ?_ ?_); (focus (simp -implicitDefEqProofs only [go_sem, tA, iA]; done)); simp -implicitDefEqProofs only [go_sem, tA, iA]) | intro _))
    all_goals exact .inl ⟨71, rfl, by decide, rfl⟩
end Go.Proofs.YtdgoompjoeffcaaGreat
/- What a tape means: cells in order, a plain law. -/
namespace Go.Proofs.YtdgoompjoeffcaaGreat
open Pm
attribute [local irreducible] Wait CallT CallW NextT Le Weak
abbrev Ce := Pl × Int
def leC (a b : Ce) : Bool := decide (a.1.2 < b.1.2 ∨ a.1.2 = b.1.2 ∧ a.1.1 ≤ b.1.1)
def sortC (l : List Ce) : List Ce := l.mergeSort leC
theorem leC_trans (a b c : Ce) (h1 : leC a b = true) (h2 : leC b c = true) : leC a c = true := by
  simp only [leC, decide_eq_true_eq] at *; omega
theorem leC_total (a b : Ce) : (leC a b || leC b a) = true := by
  simp only [leC, Bool.or_eq_true, decide_eq_true_eq]; omega
theorem leC_anti (a b : Ce) (h1 : leC a b = true) (h2 : leC b a = true) : a.1 = b.1 := by
  simp only [leC, decide_eq_true_eq] at *
  exact Prod.ext (by omega) (by omega)
theorem sortC_perm (l : List Ce) : (sortC l).Perm l := List.mergeSort_perm l leC
theorem sortC_sorted (l : List Ce) : (sortC l).Pairwise (fun a b => leC a b = true) := List.pairwise_mergeSort leC_trans leC_total l
theorem key_inj {l : List Ce} (hn : (l.map Prod.fst).Nodup) {a b : Ce} (ha : a ∈ l) (hb : b ∈ l) (h : a.1 = b.1) : a = b := by
  induction l with
  | nil => cases ha
  | cons c l ih =>
    simp only [List.map_cons, List.nodup_cons, List.mem_map, not_exists, not_and] at hn
    rcases List.mem_cons.1 ha with e1 | ha2
    · rcases List.mem_cons.1 hb with e2 | hb2
      · rw [e1, e2]
      · exact absurd (by rw [← h, e1]) (hn.1 b hb2)
    · rcases List.mem_cons.1 hb with e2 | hb2
      · exact absurd (by rw [h, e2]) (hn.1 a ha2)
      · exact ih hn.2 ha2 hb2
theorem sortC_uniq {l l' : List Ce} (hp : l'.Perm l) (hs : l'.Pairwise (fun a b => leC a b = true)) (hn : (l.map Prod.fst).Nodup) : l' = sortC l := by
  refine List.Perm.eq_of_pairwise (le := fun a b => leC a b = true) (fun a b ha hb h1 h2 => ?_) hs (sortC_sorted l) (hp.trans (sortC_perm l).symm)
  exact key_inj hn (hp.mem_iff.1 ha) ((sortC_perm l).mem_iff.1 hb) (leC_anti a b h1 h2)
theorem sortC_congr {l l' : List Ce} (hp : l'.Perm l) (hn : (l.map Prod.fst).Nodup) : sortC l' = sortC l :=
  sortC_uniq ((sortC_perm l').trans hp) (sortC_sorted l') hn
theorem sortC_len (l : List Ce) : (sortC l).length = l.length := (sortC_perm l).length_eq
/-- A place with a state, as the program's cell. -/
def ceA (c : Ce) : AV := .agg [.v (.int .i64 c.1.1), .v (.int .i64 c.1.2), .v (.int .i64 c.2)]
def ceL (l : List Ce) : List AV := l.map ceA
end Go.Proofs.YtdgoompjoeffcaaGreat
/-
  DERIVED: THE SHELF's CONTRACTS AT THIS DUMP, IN PLAIN WORDS (tools/lay-plain.mjs out of 'TrySorts.lean', which tools/lay-shelf.mjs wrote): THE SAME DECLARATIONS UNDER THE SAME NAMES: 'import', 'namespace', 'open', 'def', 'theorem' AND NOTHING ELSE: no command of the shelf's: FOR A HAND-IN. Each laying: the table of numbers ('.._ren') and one theorem, a field a fact of the dump's own or the kernel's comparison; each contract: ONE APPLICATION.
-/
namespace Go.Proofs
open Go.Shelf
def Tryz.sortCell_ren : Go.Shelf.Ren := ⟨fun | 6 => 48 | 15 => 77 | 14 => 76 | 28 => 102 | 29 => 103 | 20 => 94 | 21 => 95 | 22 => 96 | 23 => 97 | 24 => 98 | 25 => 99 | 26 => 100 | 27 => 101 | 46 => 106 | 47 => 107 | 48 => 108 | 49 => 109 | 50 => 110 | 57 => 112 | n => n, fun | 22 => 22 | 24 => 29 | 25 => 98 | 3 => 3 | 39 => 128 | 0 => 0 | 53 => 158 | 55 => 160 | 4 => 4 | 46 => 151 | 45 => 150 | 50 => 155 | 5 => 5 | 9 => 9 | 66 => 162 | 70 => 141 | 76 => 168 | 77 => 169 | n => n, fun | n => n⟩
theorem Tryz.sortCell : Go.Proofs.SlLaysF0.n6 Tryz.prog Tryz.sortCell_ren := {
  mixed := by kernel_rfl
  f6 := ⟨Tryz.f48.name, by decide, Tryz.func48.trans (congrArg some (by kernel_rfl))⟩
  f14 := ⟨Tryz.f76.name, by decide, Tryz.func76.trans (congrArg some (by kernel_rfl))⟩
  f15 := Tryz.func77.trans (congrArg some (by kernel_rfl))
  f20 := ⟨Tryz.f94.name, by decide, Tryz.func94.trans (congrArg some (by kernel_rfl))⟩
  f21 := ⟨Tryz.f95.name, by decide, Tryz.func95.trans (congrArg some (by kernel_rfl))⟩
  f22 := ⟨Tryz.f96.name, by decide, Tryz.func96.trans (congrArg some (by kernel_rfl))⟩
  f23 := ⟨Tryz.f97.name, by decide, Tryz.func97.trans (congrArg some (by kernel_rfl))⟩
  f24 := ⟨Tryz.f98.name, by decide, Tryz.func98.trans (congrArg some (by kernel_rfl))⟩
  f25 := ⟨Tryz.f99.name, by decide, Tryz.func99.trans (congrArg some (by kernel_rfl))⟩
  f26 := ⟨Tryz.f100.name, by decide, Tryz.func100.trans (congrArg some (by kernel_rfl))⟩
  f27 := ⟨Tryz.f101.name, by decide, Tryz.func101.trans (congrArg some (by kernel_rfl))⟩
  f28 := Tryz.func102.trans (congrArg some (by kernel_rfl))
  f29 := Tryz.func103.trans (congrArg some (by kernel_rfl))
  f46 := ⟨Tryz.f106.name, by decide, Tryz.func106.trans (congrArg some (by kernel_rfl))⟩
  f47 := Tryz.func107.trans (congrArg some (by kernel_rfl))
  f48 := Tryz.func108.trans (congrArg some (by kernel_rfl))
  f49 := ⟨Tryz.f109.name, by decide, Tryz.func109.trans (congrArg some (by kernel_rfl))⟩
  f50 := ⟨Tryz.f110.name, by decide, Tryz.func110.trans (congrArg some (by kernel_rfl))⟩
  f57 := ⟨Tryz.f112.name, by decide, Tryz.func112.trans (congrArg some (by kernel_rfl))⟩
  t0 := Tryz.underlying0
  a0 := Tryz.isAgg0
  z0 := Tryz.sizeOf0
  v0 := Tryz.zeroValue0
  t3 := Tryz.underlying3
  a3 := Tryz.isAgg3
  z3 := Tryz.sizeOf3
  v3 := Tryz.zeroValue3
  t4 := Tryz.underlying4
  a4 := Tryz.isAgg4
  z4 := Tryz.sizeOf4
  v4 := Tryz.zeroValue4
  t5 := Tryz.underlying5
  a5 := Tryz.isAgg5
  z5 := Tryz.sizeOf5
  v5 := Tryz.zeroValue5
  t9 := Tryz.underlying9
  a9 := Tryz.isAgg9
  z9 := Tryz.sizeOf9
  v9 := Tryz.zeroValue9
  t22 := Tryz.underlying22
  a22 := Tryz.isAgg22
  z22 := Tryz.sizeOf22
  v22 := Tryz.zeroValue22
  t25 := Tryz.underlying98
  a25 := Tryz.isAgg98
  z25 := Tryz.sizeOf98
  v25 := Tryz.zeroValue98
  t39 := Tryz.underlying128
  a39 := Tryz.isAgg128
  z39 := Tryz.sizeOf128
  v39 := Tryz.zeroValue128
  t45 := Tryz.underlying150
  a45 := Tryz.isAgg150
  z45 := Tryz.sizeOf150
  v45 := Tryz.zeroValue150
  t46 := Tryz.underlying151
  a46 := Tryz.isAgg151
  z46 := Tryz.sizeOf151
  v46 := Tryz.zeroValue151
  t50 := Tryz.underlying155
  a50 := Tryz.isAgg155
  z50 := Tryz.sizeOf155
  v50 := Tryz.zeroValue155
  t53 := Tryz.underlying158
  a53 := Tryz.isAgg158
  z53 := Tryz.sizeOf158
  v53 := Tryz.zeroValue158
  t55 := Tryz.underlying160
  a55 := Tryz.isAgg160
  z55 := Tryz.sizeOf160
  v55 := Tryz.zeroValue160
  t66 := Tryz.underlying162
  a66 := Tryz.isAgg162
  z66 := Tryz.sizeOf162
  v66 := Tryz.zeroValue162
  t70 := Tryz.underlying141
  a70 := Tryz.isAgg141
  z70 := Tryz.sizeOf141
  v70 := Tryz.zeroValue141
  t76 := Tryz.underlying168
  a76 := Tryz.isAgg168
  z76 := Tryz.sizeOf168
  v76 := Tryz.zeroValue168
  t77 := Tryz.underlying169
  a77 := Tryz.isAgg169
  z77 := Tryz.sizeOf169
  v77 := Tryz.zeroValue169 }
end Go.Proofs
