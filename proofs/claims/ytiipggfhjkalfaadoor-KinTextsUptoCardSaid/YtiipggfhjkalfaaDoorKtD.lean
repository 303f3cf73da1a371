/- Books as texts: Go's library, by the shelf's contracts. -/
import Derived.Test.YtiipggfhjkalfaaDoorProg
import Derived.Test.YtiipggfhjkalfaaDoorPmU
import Derived.Test.YtiipggfhjkalfaaDoorPmY
import Derived.Test.YtiipggfhjkalfaaDoorKtB
import Derived.Test.YtiipggfhjkalfaaDoorKtC
set_option linter.unusedSimpArgs false
set_option linter.unusedVariables false
set_option maxRecDepth 20000
open Go Go.Proofs
namespace Go.Proofs.YtiipggfhjkalfaaDoor
open Pm
attribute [local irreducible] Wait CallT CallW Le Weak
open Kt
theorem tab_of {w : World} {Z : Nat → Prop} (h : Gl w Z) : Go.Lib.TabIs Tryd.prog w "internal/strconv.uint64pow10" .u64 Go.Lib.pow10Tab := by
  obtain ⟨_, t, fr, hh⟩ := h.a 2 _ rfl
  have hg : Tryd.prog.globalNamed "internal/strconv.uint64pow10" = some 2 := by kernel_rfl
  unfold Go.Lib.TabIs World.var?
  rw [hg, Option.bind_some, hh]
  rfl
theorem below_grown (w : World) (k : Nat) (os : Array Obj) : RowKit.Below w.heap.size w (Go.Sort.grow (w.drewN k) os) where
  os := rfl
  tape := rfl
  output := rfl
  size := by show w.heap.size ≤ (w.heap ++ os).size; simp
  block i hi := by show (w.heap ++ os)[i]? = _; rw [Array.getElem?_append_left hi]
theorem itoa_pc (n : Int) (h : inI n) : PCon Tryd.prog 18 [iA n] (· = sA (Go.Lib.itoa n)) :=
  pcon_lib [.int .i64 n] fun w Z hgl => (Tryd.strconv_Itoa n h.1 h.2 w (tab_of hgl)).mono fun e w' ⟨he, k, os, hw⟩ => ⟨_, _, he, rfl, fun _ => .v _, hw ▸ below_grown w k os⟩
theorem fmt_pc (n : Int) (h : inI n) : PCon Tryd.prog 28 [iA n, iA 10] (· = sA (Go.Lib.itoa n)) :=
  pcon_lib [.int .i64 n, .int .i64 10] fun w Z hgl => (Tryd.strconv_FormatInt_10 n h.1 h.2 w (tab_of hgl)).mono fun e w' ⟨he, k, os, hw⟩ => ⟨_, _, he, rfl, fun _ => .v _, hw ▸ below_grown w k os⟩
theorem below_bytes (w : World) (e : TypeId) (s : ByteArray) : RowKit.Below w.heap.size w (Go.Lib.bytesWorld w e s) := by
  rw [bytesWorld_eq]
  exact (RowKit.Below.refl _ w).drew.alloc (Nat.le_refl _) _
/-- What ParseInt answers. -/
def PintQ (w : List UInt8) (r : AV) : Prop := ∃ v e, r = .tup [iA v, .v e] ∧ match pintB w with
  | some n => v = n ∧ e = .nilIface
  | none => ∃ t p, e = .iface t p
theorem rv_two (w : World) (a b : Value) : RV w noρ noD (fun _ => False) (.tup [.v a, .v b]) (.tuple #[a, b]) := .tup rfl fun i hi => by
  match i, hi with
  | 0, _ => exact .v _
  | 1, _ => exact .v _
theorem parseInt_pc (s : List UInt8) (hs : s.length ≤ 281474976710656) : PCon Tryd.prog 31 [sA s, iA 10, iA 64] (PintQ s) :=
  pcon_lib [.string (bs s), .int .i64 10, .int .i64 64] fun w Z hgl => by
    have hsz : (bs s).size ≤ 281474976710656 := by rw [bs_size]; exact hs
    rcases hp : Go.Lib.parseIntB 64 s with v | _ | _
    · refine (Tryd.strconv_ParseInt_10_at64_ok (bs s) (by omega) v (by rw [bs_data]; exact hp) w).mono ?_
      rintro e w' ⟨he, hw⟩
      refine ⟨_, _, he, ⟨v, .nilIface, rfl, ?_⟩, fun w => rv_two w _ _, ?_⟩
      · unfold pintB; rw [hp]; exact ⟨rfl, rfl⟩
      · rcases hw with rfl | ⟨t, rfl⟩
        · exact RowKit.Below.refl _ _
        · exact below_bytes w _ t
    · obtain ⟨_, ev, h1, h2⟩ := hgl.e 3 rfl
      refine (Tryd.strconv_ParseInt_10_at64_syntax (bs s) hsz (by rw [bs_data]; exact hp) ev w h1 h2).mono ?_
      rintro e w' ⟨N, he, _, _, hb⟩
      refine ⟨_, _, he, ⟨0, _, rfl, ?_⟩, fun w => rv_two w _ _, hb⟩
      unfold pintB; rw [hp]; exact ⟨_, _, rfl⟩
    · obtain ⟨_, ev, h1, h2⟩ := hgl.e 4 rfl
      refine (Tryd.strconv_ParseInt_10_at64_range (bs s) hsz (by rw [bs_data]; exact hp) ev w h1 h2).mono ?_
      rintro e w' ⟨N, he, _, _, hb⟩
      refine ⟨_, _, he, ⟨_, _, rfl, ?_⟩, fun w => rv_two w _ _, hb⟩
      unfold pintB; rw [hp]; exact ⟨_, _, rfl⟩
theorem count_pc (s : List UInt8) (c : UInt8) : PCon Tryd.prog 21 [sA s, sA [c]] (· = iA (s.count c)) :=
  pcon_same [.string (bs s), .string (bs [c])] (fun w => .v _) fun w => (Tryd.strings_Count_one (bs s) c w).mono fun e w' ⟨he, hw⟩ => ⟨by rw [he, bs_data]; rfl, hw⟩
theorem index_pc (s : List UInt8) (c : UInt8) : PCon Tryd.prog 41 [sA s, sA [c]] (· = iA (Go.Lib.indexByte s c)) :=
  pcon_same [.string (bs s), .string (bs [c])] (fun w => .v _) fun w => (Tryd.strings_Index_one (bs s) c w).mono fun e w' ⟨he, hw⟩ => ⟨by rw [he, bs_data], hw⟩
/-! ### A text cut at a byte -/
theorem indexByte_none (s : List UInt8) (c : UInt8) (h : c ∉ s) : Go.Lib.indexByte s c = -1 := by
  induction s with
  | nil => rfl
  | cons b l ih =>
    simp only [List.mem_cons, not_or] at h
    unfold Go.Lib.indexByte
    rw [if_neg (by simpa using Ne.symm h.1), ih h.2]
    rfl
theorem indexByte_at (w r : List UInt8) (c : UInt8) (h : c ∉ w) : Go.Lib.indexByte (w ++ c :: r) c = w.length := by
  induction w with
  | nil => simp [Go.Lib.indexByte]
  | cons b l ih =>
    simp only [List.mem_cons, not_or] at h
    rw [List.cons_append]
    unfold Go.Lib.indexByte
    rw [if_neg (by simpa using Ne.symm h.1), ih h.2]
    rw [if_neg (by simp)]
    simp
theorem cut_at (s : List UInt8) (c : UInt8) (h : c ∈ s) : ∃ w r, s = w ++ c :: r ∧ c ∉ w := by
  induction s with
  | nil => simp at h
  | cons b l ih =>
    by_cases e : b = c
    · subst e; exact ⟨[], l, rfl, by simp⟩
    · rcases List.mem_cons.1 h with h | h
      · exact absurd h.symm e
      · obtain ⟨w, r, e1, e2⟩ := ih h
        exact ⟨b :: w, r, by rw [e1]; rfl, by simp [e2, Ne.symm e]⟩
structure Sp where
  done : List (List UInt8)
  rest : List UInt8
/-- What is there of the pieces. -/
def rowE (done : List (List UInt8)) (N : Nat) : List AV := done.map sA ++ List.replicate (N + 1 - done.length) (sA [])
theorem rowE_len (done : List (List UInt8)) (N : Nat) (h : done.length ≤ N + 1) : (rowE done N).length = N + 1 := by simp [rowE]; omega
theorem rowE_get (done : List (List UInt8)) (N : Nat) (h : done.length ≤ N) : (rowE done N).getD done.length .junk = .v (.string (bs [])) := by
  rw [List.getD_eq_getElem?_getD, rowE, List.getElem?_append_right (by simp)]
  simp [show done.length < N + 1 by omega, sA]
  rw [List.getElem?_replicate, if_pos (by omega)]
  rfl
theorem rowE_set (done : List (List UInt8)) (x : List UInt8) (N : Nat) (h : done.length ≤ N) : (rowE done N).set done.length (.v (.string (bs x))) = rowE (done ++ [x]) N := by
  unfold rowE
  rw [show N + 1 - done.length = (N + 1 - (done ++ [x]).length) + 1 by simp; omega, List.replicate_succ, List.set_append_right _ _ (by simp)]
  simp [sA]
theorem renL_rowE (f : Nat → Option Nat) (done : List (List UInt8)) (N : Nat) : AV.renL f (rowE done N) = rowE done N := by
  unfold rowE
  rw [renL_app, renL_sA]
  congr 1
  exact renL_rep f _ _
theorem rowE_done (done : List (List UInt8)) (N : Nat) (h : done.length = N + 1) : rowE done N = done.map sA := by
  unfold rowE
  rw [h, Nat.sub_self]
  simp
attribute [go_sem] renL_rowE
def spS (sep : UInt8) (N : Nat) (b : Sp) : St := ⟨66, 0, [(0, sA b.rest), (1, sA [sep]), (2, iA 0), (3, .v (.int .i64 N)), (9, .sl 0 1 0 (N + 1)), (10, .v (.int .i64 b.done.length))],
  [some (.row 9 1 (rowE b.done N))]⟩
def spG (sep : UInt8) (s : List UInt8) (N : Nat) (b : Sp) : Prop := b.done.length + b.rest.count sep = N ∧ b.done ++ spl sep [] b.rest = spl sep [] s ∧ b.rest.length ≤ s.length
theorem genSplit_pc (sep : UInt8) (s : List UInt8) (hs : s.length + 1 < 9223372036854775808) (hc : s.count sep ≤ 1048576) : PCon Tryd.prog 43 [sA s, sA [sep], iA 0, iA (-1)] (· = .fsl 1 ((spl sep [] s).map sA)) := by
  refine pcon_run 1000 Tryd.func43 rfl Tryd.results43 Tryd.ntmps43 (Nat.le_of_ble_eq_true rfl) ?_
  have hcl := List.count_le_length (a := sep) (l := s)
  have ew1 : IntKind.i64.wrap ((List.count sep s : Int) + 1) = ((List.count sep s + 1 : Nat) : Int) := by rw [wrap64 (by omega) (by omega)]; omega
  have ew2 : IntKind.i64.wrap ((s.length : Int) + 1) = ((s.length + 1 : Nat) : Int) := by rw [wrap64 (by omega) (by omega)]; omega
  have emn : mnmx false ((List.count sep s + 1 : Nat) : Int) ((s.length + 1 : Nat) : Int) = ((List.count sep s + 1 : Nat) : Int) := by unfold mnmx; simp; omega
  have ew3 : IntKind.i64.wrap (((List.count sep s + 1 : Nat) : Int) - 1) = (List.count sep s : Int) := by rw [wrap64 (by omega) (by omega)]; omega
  simp (maxSteps := 1000000) -implicitDefEqProofs only [go_sem, ↓reduceIte, reduceCtorEq, Nat.reduceEqDiff, Nat.reduceLT, Nat.reduceAdd, Nat.reduceLeDiff, Nat.reduceMul, Nat.reduceSub, Nat.reduceDiv, Nat.reduceMod, Int.reduceToNat, Int.reduceLT, Int.reduceLE, Int.reduceEq, Int.reduceAdd, Int.reduceSub, Int.reduceMul, Int.reduceNeg, Int.reduceTMod, Int.reduceTDiv, Int.reduceMod, Int.reduceDiv, Int.reduceBEq, Int.reduceBNe, Nat.reduceBEq, sA, iA, emn, ew3]
  (repeat' (first | exact trivial | contradiction | refine And.intro ?_ ?_ | (show (_ : Nat) ≤ _; omega) | (show (_ : Nat) < _; omega) | (show (_ : Int) ≤ _; omega) | (show (_ : Int) < _; omega)  | (refine wait_draw 1000 mixed (by decide +kernel) ?_; simp (maxSteps := 1000000) -implicitDefEqProofs only [go_sem, ↓reduceIte, reduceCtorEq, Nat.reduceEqDiff, Nat.reduceLT, Nat.reduceAdd, Nat.reduceLeDiff, Nat.reduceMul, Nat.reduceSub, Nat.reduceDiv, Nat.reduceMod, Int.reduceToNat, Int.reduceLT, Int.reduceLE, Int.reduceEq, Int.reduceAdd, Int.reduceSub, Int.reduceMul, Int.reduceNeg, Int.reduceTMod, Int.reduceTDiv, Int.reduceMod, Int.reduceDiv, Int.reduceBEq, Int.reduceBNe, Nat.reduceBEq, sA, iA, ew1, ew2, emn, ew3]) | (refine call_eq 1000 ((show PCon Tryd.prog 21 [.v (.string (bs s)), .v (.string (bs [sep]))] _ from count_pc s sep)) ?_ ?_ rfl; (focus (simp (maxSteps := 1000000) -implicitDefEqProofs only [go_sem, ↓reduceIte, reduceCtorEq, Nat.reduceEqDiff, Nat.reduceLT, Nat.reduceAdd, Nat.reduceLeDiff, Nat.reduceMul, Nat.reduceSub, Nat.reduceDiv, Nat.reduceMod, Int.reduceToNat, Int.reduceLT, Int.reduceLE, Int.reduceEq, Int.reduceAdd, Int.reduceSub, Int.reduceMul, Int.reduceNeg, Int.reduceTMod, Int.reduceTDiv, Int.reduceMod, Int.reduceDiv, Int.reduceBEq, Int.reduceBNe, Nat.reduceBEq, sA, iA, ew1, ew2, emn, ew3]; done)); simp (maxSteps := 1000000) -implicitDefEqProofs only [go_sem, ↓reduceIte, reduceCtorEq, Nat.reduceEqDiff, Nat.reduceLT, Nat.reduceAdd, Nat.reduceLeDiff, Nat.reduceMul, Nat.reduceSub, Nat.reduceDiv, Nat.reduceMod, Int.reduceToNat, Int.reduceLT, Int.reduceLE, Int.reduceEq, Int.reduceAdd, Int.reduceSub, Int.reduceMul, Int.reduceNeg, Int.reduceTMod, Int.reduceTDiv, Int.reduceMod, Int.reduceDiv, Int.reduceBEq, Int.reduceBNe, Nat.reduceBEq, sA, iA, ew1, ew2, emn, ew3]) | (refine call_draw 1000 ((show PCon Tryd.prog 21 [.v (.string (bs s)), .v (.string (bs [sep]))] _ from count_pc s sep)) ?_ ?_; (focus (simp (maxSteps := 1000000) -implicitDefEqProofs only [go_sem, ↓reduceIte, reduceCtorEq, Nat.reduceEqDiff, Nat.reduceLT, Nat.reduceAdd, Nat.reduceLeDiff, Nat.reduceMul, Nat.reduceSub, Nat.reduceDiv, Nat.reduceMod, Int.reduceToNat, Int.reduceLT, Int.reduceLE, Int.reduceEq, Int.reduceAdd, Int.reduceSub, Int.reduceMul, Int.reduceNeg, Int.reduceTMod, Int.reduceTDiv, Int.reduceMod, Int.reduceDiv, Int.reduceBEq, Int.reduceBNe, Nat.reduceBEq, sA, iA, ew1, ew2, emn, ew3]; done)); simp (maxSteps := 1000000) -implicitDefEqProofs only [go_sem, ↓reduceIte, reduceCtorEq, Nat.reduceEqDiff, Nat.reduceLT, Nat.reduceAdd, Nat.reduceLeDiff, Nat.reduceMul, Nat.reduceSub, Nat.reduceDiv, Nat.reduceMod, Int.reduceToNat, Int.reduceLT, Int.reduceLE, Int.reduceEq, Int.reduceAdd, Int.reduceSub, Int.reduceMul, Int.reduceNeg, Int.reduceTMod, Int.reduceTDiv, Int.reduceMod, Int.reduceDiv, Int.reduceBEq, Int.reduceBNe, Nat.reduceBEq, sA, iA, ew1, ew2, emn, ew3]) | intro _))
  refine wait_data (spS sep (s.count sep)) (spG sep s (s.count sep)) (fun b => s.count sep - b.done.length) ⟨[], s⟩ (weak_to [0, 1, 2, 3, 9, 10] [0] ?_ (by simp) (fun i h => by cases h)) ⟨by simp, rfl, Nat.le_refl _⟩ ?_
  · simp (maxSteps := 1000000) -implicitDefEqProofs only [go_sem, ↓reduceIte, reduceCtorEq, Nat.reduceEqDiff, Nat.reduceLT, Nat.reduceAdd, Nat.reduceLeDiff, Nat.reduceMul, Nat.reduceSub, Nat.reduceDiv, Nat.reduceMod, Int.reduceToNat, Int.reduceLT, Int.reduceLE, Int.reduceEq, Int.reduceAdd, Int.reduceSub, Int.reduceMul, Int.reduceNeg, Int.reduceTMod, Int.reduceTDiv, Int.reduceMod, Int.reduceDiv, Int.reduceBEq, Int.reduceBNe, Nat.reduceBEq, St.keep, spS, sA, iA, Int.natCast_zero, emn, ew3, Nat.sub_zero, rowE]
  · rintro ⟨done, rest⟩ ⟨h1, h2, h3⟩
    simp only at h1 h2 h3
    refine run_sound 1000 _ _ ?_
    have hdl : (done.map sA).length = done.length := by simp
    have g1 := rowE_get done (s.count sep) (by omega)
    have g2 := rowE_len done (s.count sep) (by omega)
    have ew6 : IntKind.i64.wrap ((done.length : Int) + 1) = ((done.length + 1 : Nat) : Int) := by rw [wrap64 (by omega) (by omega)]; omega
    by_cases hk : done.length < s.count sep
    · have hlt : ((done.length : Int) < (List.count sep s : Int)) = True := eq_true (by omega)
      have hmem : sep ∈ rest := by
        rw [← List.count_pos_iff]
        omega
      obtain ⟨w, r, rfl, hw⟩ := cut_at rest sep hmem
      have hi := indexByte_at w r sep hw
      have hf : ((w.length : Int) < 0) = False := eq_false (by omega)
      have hwl : (w ++ sep :: r).length = w.length + (r.length + 1) := by simp
      have ew4 : IntKind.i64.wrap ((w.length : Int) + 0) = (w.length : Int) := by rw [wrap64 (by omega) (by omega)]; omega
      have ew5 : IntKind.i64.wrap ((w.length : Int) + 1) = ((w.length + 1 : Nat) : Int) := by rw [wrap64 (by omega) (by omega)]; omega
      have d1 : (w ++ sep :: r).take w.length = w := by simp
      have d2 : (w ++ sep :: r).drop (w.length + 1) = r := by
        rw [show w ++ sep :: r = (w ++ [sep]) ++ r by simp, show w.length + 1 = (w ++ [sep]).length by simp, List.drop_left]
      have d3 : (w ++ sep :: r).take (w.length + (r.length + 1)) = w ++ sep :: r := by rw [← hwl, List.take_length]
      have hset := rowE_set done w (s.count sep) (by omega)
      simp (maxSteps := 1000000) -implicitDefEqProofs only [go_sem, ↓reduceIte, reduceCtorEq, Nat.reduceEqDiff, Nat.reduceLT, Nat.reduceAdd, Nat.reduceLeDiff, Nat.reduceMul, Nat.reduceSub, Nat.reduceDiv, Nat.reduceMod, Int.reduceToNat, Int.reduceLT, Int.reduceLE, Int.reduceEq, Int.reduceAdd, Int.reduceSub, Int.reduceMul, Int.reduceNeg, Int.reduceTMod, Int.reduceTDiv, Int.reduceMod, Int.reduceDiv, Int.reduceBEq, Int.reduceBNe, Nat.reduceBEq, spS, sA, iA, hlt]
      (repeat' (first | exact trivial | contradiction | refine And.intro ?_ ?_ | (show (_ : Nat) ≤ _; omega) | (show (_ : Nat) < _; omega) | (show (_ : Int) ≤ _; omega) | (show (_ : Int) < _; omega)  | (refine wait_draw 1000 mixed (by decide +kernel) ?_; simp (maxSteps := 1000000) -implicitDefEqProofs only [go_sem, ↓reduceIte, reduceCtorEq, Nat.reduceEqDiff, Nat.reduceLT, Nat.reduceAdd, Nat.reduceLeDiff, Nat.reduceMul, Nat.reduceSub, Nat.reduceDiv, Nat.reduceMod, Int.reduceToNat, Int.reduceLT, Int.reduceLE, Int.reduceEq, Int.reduceAdd, Int.reduceSub, Int.reduceMul, Int.reduceNeg, Int.reduceTMod, Int.reduceTDiv, Int.reduceMod, Int.reduceDiv, Int.reduceBEq, Int.reduceBNe, Nat.reduceBEq, sA, iA, hlt, hf, ew4, ew5, ew6, g1, g2, hset, d1, d2, hwl, d3]) | (refine call_eq 1000 ((show PCon Tryd.prog 41 [.v (.string (bs (w ++ sep :: r))), .v (.string (bs [sep]))] (· = .v (.int .i64 w.length)) from hi ▸ index_pc (w ++ sep :: r) sep)) ?_ ?_ rfl; (focus (simp (maxSteps := 1000000) -implicitDefEqProofs only [go_sem, ↓reduceIte, reduceCtorEq, Nat.reduceEqDiff, Nat.reduceLT, Nat.reduceAdd, Nat.reduceLeDiff, Nat.reduceMul, Nat.reduceSub, Nat.reduceDiv, Nat.reduceMod, Int.reduceToNat, Int.reduceLT, Int.reduceLE, Int.reduceEq, Int.reduceAdd, Int.reduceSub, Int.reduceMul, Int.reduceNeg, Int.reduceTMod, Int.reduceTDiv, Int.reduceMod, Int.reduceDiv, Int.reduceBEq, Int.reduceBNe, Nat.reduceBEq, sA, iA, hlt, hf, ew4, ew5, ew6, g1, g2, hset, d1, d2, hwl, d3]; done)); simp (maxSteps := 1000000) -implicitDefEqProofs only [go_sem, ↓reduceIte, reduceCtorEq, Nat.reduceEqDiff, Nat.reduceLT, Nat.reduceAdd, Nat.reduceLeDiff, Nat.reduceMul, Nat.reduceSub, Nat.reduceDiv, Nat.reduceMod, Int.reduceToNat, Int.reduceLT, Int.reduceLE, Int.reduceEq, Int.reduceAdd, Int.reduceSub, Int.reduceMul, Int.reduceNeg, Int.reduceTMod, Int.reduceTDiv, Int.reduceMod, Int.reduceDiv, Int.reduceBEq, Int.reduceBNe, Nat.reduceBEq, sA, iA, hlt, hf, ew4, ew5, ew6, g1, g2, hset, d1, d2, hwl, d3]) | (refine call_draw 1000 ((show PCon Tryd.prog 41 [.v (.string (bs (w ++ sep :: r))), .v (.string (bs [sep]))] (· = .v (.int .i64 w.length)) from hi ▸ index_pc (w ++ sep :: r) sep)) ?_ ?_; (focus (simp (maxSteps := 1000000) -implicitDefEqProofs only [go_sem, ↓reduceIte, reduceCtorEq, Nat.reduceEqDiff, Nat.reduceLT, Nat.reduceAdd, Nat.reduceLeDiff, Nat.reduceMul, Nat.reduceSub, Nat.reduceDiv, Nat.reduceMod, Int.reduceToNat, Int.reduceLT, Int.reduceLE, Int.reduceEq, Int.reduceAdd, Int.reduceSub, Int.reduceMul, Int.reduceNeg, Int.reduceTMod, Int.reduceTDiv, Int.reduceMod, Int.reduceDiv, Int.reduceBEq, Int.reduceBNe, Nat.reduceBEq, sA, iA, hlt, hf, ew4, ew5, ew6, g1, g2, hset, d1, d2, hwl, d3]; done)); simp (maxSteps := 1000000) -implicitDefEqProofs only [go_sem, ↓reduceIte, reduceCtorEq, Nat.reduceEqDiff, Nat.reduceLT, Nat.reduceAdd, Nat.reduceLeDiff, Nat.reduceMul, Nat.reduceSub, Nat.reduceDiv, Nat.reduceMod, Int.reduceToNat, Int.reduceLT, Int.reduceLE, Int.reduceEq, Int.reduceAdd, Int.reduceSub, Int.reduceMul, Int.reduceNeg, Int.reduceTMod, Int.reduceTDiv, Int.reduceMod, Int.reduceDiv, Int.reduceBEq, Int.reduceBNe, Nat.reduceBEq, sA, iA, hlt, hf, ew4, ew5, ew6, g1, g2, hset, d1, d2, hwl, d3]) | intro _))
      all_goals first | omega | (refine ⟨⟨done ++ [w], r⟩, ?_, ⟨?_, ?_, ?_⟩, ?_⟩)
      · simp; omega
      · simp [List.count_append] at h1 ⊢
        have : w.count sep = 0 := List.count_eq_zero.2 hw
        omega
      · show (done ++ [w]) ++ spl sep [] r = spl sep [] s
        rw [← h2, spl_cut sep w r hw]
        simp
      · show r.length ≤ s.length
        omega
      · simp only [List.length_append, List.length_cons, List.length_nil]
        ((refine weak_to [0, 1, 2, 3, 9, 10] [0] ?_ (by simp) (fun i h => by cases h); simp (maxSteps := 1000000) -implicitDefEqProofs only [go_sem, ↓reduceIte, reduceCtorEq, Nat.reduceEqDiff, Nat.reduceLT, Nat.reduceAdd, Nat.reduceLeDiff, Nat.reduceMul, Nat.reduceSub, Nat.reduceDiv, Nat.reduceMod, Int.reduceToNat, Int.reduceLT, Int.reduceLE, Int.reduceEq, Int.reduceAdd, Int.reduceSub, Int.reduceMul, Int.reduceNeg, Int.reduceTMod, Int.reduceTDiv, Int.reduceMod, Int.reduceDiv, Int.reduceBEq, Int.reduceBNe, Nat.reduceBEq, St.keep, spS, ew6, sA, iA, List.length_append]; done))
    · have hlt : ((done.length : Int) < (List.count sep s : Int)) = False := eq_false (by omega)
      have hN : done.length = s.count sep := by omega
      have hr0 : sep ∉ rest := by rw [← List.count_eq_zero]; omega
      rw [spl_none sep rest hr0] at h2
      have hset := rowE_set done rest (s.count sep) (by omega)
      have hE := rowE_done (done ++ [rest]) (s.count sep) (by simp; omega)
      have ht : ((done ++ [rest]).map sA).take (done.length + 1) = (done ++ [rest]).map sA := List.take_of_length_le (by simp)
      simp (maxSteps := 1000000) -implicitDefEqProofs only [go_sem, ↓reduceIte, reduceCtorEq, Nat.reduceEqDiff, Nat.reduceLT, Nat.reduceAdd, Nat.reduceLeDiff, Nat.reduceMul, Nat.reduceSub, Nat.reduceDiv, Nat.reduceMod, Int.reduceToNat, Int.reduceLT, Int.reduceLE, Int.reduceEq, Int.reduceAdd, Int.reduceSub, Int.reduceMul, Int.reduceNeg, Int.reduceTMod, Int.reduceTDiv, Int.reduceMod, Int.reduceDiv, Int.reduceBEq, Int.reduceBNe, Nat.reduceBEq, spS, sA, iA, hlt, g1, g2, ew6, hset, hE]
      refine ⟨by omega, by omega, by omega, ?_⟩
      rw [if_pos (by simp), Nat.sub_zero, ht, renL_sA, h2]
theorem split_pc (sep : UInt8) (s : List UInt8) (hs : s.length + 1 < 9223372036854775808) (hc : s.count sep ≤ 1048576) : PCon Tryd.prog 23 [sA s, sA [sep]] (· = .fsl 1 ((spl sep [] s).map sA)) := by
  refine pcon_run 1000 Tryd.func23 rfl Tryd.results23 Tryd.ntmps23 (Nat.le_of_ble_eq_true rfl) ?_
  simp (maxSteps := 1000000) -implicitDefEqProofs only [go_sem, ↓reduceIte, reduceCtorEq, Nat.reduceEqDiff, Nat.reduceLT, Nat.reduceAdd, Nat.reduceLeDiff, Nat.reduceMul, Nat.reduceSub, Nat.reduceDiv, Nat.reduceMod, Int.reduceToNat, Int.reduceLT, Int.reduceLE, Int.reduceEq, Int.reduceAdd, Int.reduceSub, Int.reduceMul, Int.reduceNeg, Int.reduceTMod, Int.reduceTDiv, Int.reduceMod, Int.reduceDiv, Int.reduceBEq, Int.reduceBNe, Nat.reduceBEq, sA, iA]
  (repeat' (first | exact trivial | contradiction | refine And.intro ?_ ?_ | (show (_ : Nat) ≤ _; omega) | (show (_ : Nat) < _; omega) | (show (_ : Int) ≤ _; omega) | (show (_ : Int) < _; omega)  | (refine wait_draw 1000 mixed (by decide +kernel) ?_; simp (maxSteps := 1000000) -implicitDefEqProofs only [go_sem, ↓reduceIte, reduceCtorEq, Nat.reduceEqDiff, Nat.reduceLT, Nat.reduceAdd, Nat.reduceLeDiff, Nat.reduceMul, Nat.reduceSub, Nat.reduceDiv, Nat.reduceMod, Int.reduceToNat, Int.reduceLT, Int.reduceLE, Int.reduceEq, Int.reduceAdd, Int.reduceSub, Int.reduceMul, Int.reduceNeg, Int.reduceTMod, Int.reduceTDiv, Int.reduceMod, Int.reduceDiv, Int.reduceBEq, Int.reduceBNe, Nat.reduceBEq, sA, iA]) | (refine call_eq 1000 ((show PCon Tryd.prog 43 [.v (.string (bs s)), .v (.string (bs [sep])), .v (.int .i64 0), .v (.int .i64 (-1))] _ from genSplit_pc sep s hs hc)) ?_ ?_ rfl; (focus (simp (maxSteps := 1000000) -implicitDefEqProofs only [go_sem, ↓reduceIte, reduceCtorEq, Nat.reduceEqDiff, Nat.reduceLT, Nat.reduceAdd, Nat.reduceLeDiff, Nat.reduceMul, Nat.reduceSub, Nat.reduceDiv, Nat.reduceMod, Int.reduceToNat, Int.reduceLT, Int.reduceLE, Int.reduceEq, Int.reduceAdd, Int.reduceSub, Int.reduceMul, Int.reduceNeg, Int.reduceTMod, Int.reduceTDiv, Int.reduceMod, Int.reduceDiv, Int.reduceBEq, Int.reduceBNe, Nat.reduceBEq, sA, iA]; done)); simp (maxSteps := 1000000) -implicitDefEqProofs only [go_sem, ↓reduceIte, reduceCtorEq, Nat.reduceEqDiff, Nat.reduceLT, Nat.reduceAdd, Nat.reduceLeDiff, Nat.reduceMul, Nat.reduceSub, Nat.reduceDiv, Nat.reduceMod, Int.reduceToNat, Int.reduceLT, Int.reduceLE, Int.reduceEq, Int.reduceAdd, Int.reduceSub, Int.reduceMul, Int.reduceNeg, Int.reduceTMod, Int.reduceTDiv, Int.reduceMod, Int.reduceDiv, Int.reduceBEq, Int.reduceBNe, Nat.reduceBEq, sA, iA]) | (refine call_draw 1000 ((show PCon Tryd.prog 43 [.v (.string (bs s)), .v (.string (bs [sep])), .v (.int .i64 0), .v (.int .i64 (-1))] _ from genSplit_pc sep s hs hc)) ?_ ?_; (focus (simp (maxSteps := 1000000) -implicitDefEqProofs only [go_sem, ↓reduceIte, reduceCtorEq, Nat.reduceEqDiff, Nat.reduceLT, Nat.reduceAdd, Nat.reduceLeDiff, Nat.reduceMul, Nat.reduceSub, Nat.reduceDiv, Nat.reduceMod, Int.reduceToNat, Int.reduceLT, Int.reduceLE, Int.reduceEq, Int.reduceAdd, Int.reduceSub, Int.reduceMul, Int.reduceNeg, Int.reduceTMod, Int.reduceTDiv, Int.reduceMod, Int.reduceDiv, Int.reduceBEq, Int.reduceBNe, Nat.reduceBEq, sA, iA]; done)); simp (maxSteps := 1000000) -implicitDefEqProofs only [go_sem, ↓reduceIte, reduceCtorEq, Nat.reduceEqDiff, Nat.reduceLT, Nat.reduceAdd, Nat.reduceLeDiff, Nat.reduceMul, Nat.reduceSub, Nat.reduceDiv, Nat.reduceMod, Int.reduceToNat, Int.reduceLT, Int.reduceLE, Int.reduceEq, Int.reduceAdd, Int.reduceSub, Int.reduceMul, Int.reduceNeg, Int.reduceTMod, Int.reduceTDiv, Int.reduceMod, Int.reduceDiv, Int.reduceBEq, Int.reduceBNe, Nat.reduceBEq, sA, iA]) | intro _))
end Go.Proofs.YtiipggfhjkalfaaDoor
