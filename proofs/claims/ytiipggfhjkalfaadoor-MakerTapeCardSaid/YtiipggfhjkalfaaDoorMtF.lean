/- Tapes: Go's library, by the shelf's contracts. -/
import Derived.Test.YtiipggfhjkalfaaDoorProg
import Derived.Test.YtiipggfhjkalfaaDoorPmU
import Derived.Test.YtiipggfhjkalfaaDoorMtD
import Derived.Test.YtiipggfhjkalfaaDoorMtE
set_option linter.unusedSimpArgs false
set_option linter.unusedVariables false
set_option maxRecDepth 20000
open Go Go.Proofs
namespace Go.Proofs.YtiipggfhjkalfaaDoor
open Pm
attribute [local irreducible] Wait CallT CallW Le Weak
open Mt
theorem args_v (xs : List Value) (cargs : Array Value) {w : World} {ρ : Nat → Option Nat} {D Z : Nat → Prop} (hl : (xs.map AV.v).length = cargs.size)
    (ha : ∀ i, i < (xs.map AV.v).length → RV w ρ D Z ((xs.map AV.v).getD i .junk) (cargs.getD i undef)) : cargs = xs.toArray := by
  have hs : xs.length = cargs.size := by simpa using hl
  apply Array.ext
  · simp [hs]
  · intro i h1 h2
    have hi : i < xs.length := by omega
    have := ha i (by simpa using hi)
    rw [show (xs.map AV.v).getD i .junk = .v xs[i] by simp [List.getD_eq_getElem?_getD, hi]] at this
    have e := this.v_inv
    rw [show cargs.getD i undef = cargs[i] by simp [Array.getD, h1]] at e
    rw [e]
    simp
/-- A call that leaves the world as it was. -/
theorem pcon_same {P : Program} {f : FuncId} (xs : List Value) {v : Value} {r : AV} (hr : ∀ w, RV w noρ noD (fun _ => False) r v)
    (h : ∀ w, Calls P f xs.toArray w fun e w' => e = .returned v ∧ w' = w) : PCon P f (xs.map .v) (· = r) := by
  intro w Z cargs hl ha hz hgl
  rw [args_v xs cargs hl ha]
  refine (h w).mono ?_
  rintro e w' ⟨rfl, rfl⟩
  exact ⟨r, v, fun _ => False, rfl, rfl, hr w', RowKit.Below.refl _ _, fun k hk => hk.elim⟩
theorem decD_small : ∀ n, n < 100 → Go.Lib.decDigits n = dig2 n := by
  intro n hn
  unfold Go.Lib.decDigits dig2
  by_cases h : n < 10
  · rw [dif_pos h, if_pos h]
  · rw [dif_neg h, if_neg h]
    unfold Go.Lib.decDigits
    rw [dif_pos (by omega)]
    rfl
theorem itoa_pc (n : Nat) (hn : n < 100) : PCon Tryd.prog 18 [iA n] (· = sA (dig2 n)) :=
  pcon_same [.int .i64 n] (fun w => .v _) fun w => (Tryd.strconv_Itoa_small n hn w).mono fun e w' ⟨he, hw⟩ => ⟨by rw [he, decD_small n hn]; rfl, hw⟩
theorem count_pc (s : List UInt8) (c : UInt8) : PCon Tryd.prog 21 [sA s, sA [c]] (· = iA (s.count c)) :=
  pcon_same [.string (bs s), .string (bs [c])] (fun w => .v _) fun w => (Tryd.strings_Count_one (bs s) c w).mono fun e w' ⟨he, hw⟩ => ⟨by rw [he, bs_data]; rfl, hw⟩
theorem index_pc (s : List UInt8) (c : UInt8) : PCon Tryd.prog 41 [sA s, sA [c]] (· = iA (Go.Lib.indexByte s c)) :=
  pcon_same [.string (bs s), .string (bs [c])] (fun w => .v _) fun w => (Tryd.strings_Index_one (bs s) c w).mono fun e w' ⟨he, hw⟩ => ⟨by rw [he, bs_data], hw⟩
theorem trim_pc (s p : List UInt8) (hs : s.length < 9223372036854775808) : PCon Tryd.prog 22 [sA s, sA p] (· = sA (Go.Lib.trimSuffix s p)) :=
  pcon_same [.string (bs s), .string (bs p)] (fun w => .v _) fun w => (Tryd.strings_TrimSuffix (bs s) (bs p) w (by rw [bs_size]; omega)).mono fun e w' ⟨he, hw⟩ => ⟨by rw [he, bs_data, bs_data]; rfl, hw⟩
theorem cut_pc (s p : List UInt8) (hs : s.length < 9223372036854775808) : PCon Tryd.prog 20 [sA s, sA p] (· = .tup [sA (Go.Lib.trimSuffix s p), .v (.bool (Go.Lib.hasSuffix s p))]) :=
  pcon_same [.string (bs s), .string (bs p)] (v := .tuple #[.string (bs (Go.Lib.trimSuffix s p)), .bool (Go.Lib.hasSuffix s p)]) (fun w => .tup rfl fun i hi => by
    match i, hi with
    | 0, _ => exact .v _
    | 1, _ => exact .v _) fun w => (Tryd.strings_CutSuffix (bs s) (bs p) w (by rw [bs_size]; omega)).mono fun e w' ⟨he, hw⟩ => ⟨by rw [he, bs_data, bs_data]; rfl, hw⟩
theorem join_con (ws : List (List UInt8)) (sep : List UInt8) (hn : ws.length ≤ 140737488355328) (hl : (Go.Lib.join ws sep).length ≤ 140737488355328) :
    Con Tryd.prog 19 [.sl 0 1 0 ws.length, sA sep] [some (.row 9 1 (ws.map sA))] (fun r h' => r = sA (Go.Lib.join ws sep) ∧ h' = [some (.row 9 1 (ws.map sA))]) := by
  intro B cargs hlen ha hh
  obtain ⟨g, c, hr, hcc, hcl, hs, hv⟩ := hh.row (id := 0) rfl
  have h0 := ha 0 (by simp)
  have h1 := ha 1 (by simp)
  simp only [List.getD_cons_zero, List.getD_cons_succ] at h0 h1
  obtain ⟨cap, e0, _, hcap, _⟩ := h0.sl_live hh (b := .row 9 1 (ws.map sA)) rfl hr
  have e1 := h1.v_inv
  have hargs : cargs = #[.slice (some ⟨g, 0, none⟩) (ws.map bs).length cap, .string (bs sep)] := by
    have hsz : cargs.size = 2 := by simpa using hlen.symm
    apply Array.ext
    · simp [hsz]
    · intro i i1 i2
      have : i = 0 ∨ i = 1 := by omega
      rcases this with rfl | rfl
      · have : cargs[0] = cargs.getD 0 undef := by simp [Array.getD, i1]
        rw [this, e0]; simp
      · have : cargs[1] = cargs.getD 1 undef := by simp [Array.getD, i1]
        rw [this, e1]; simp
  rw [hargs]
  have hcells : ∀ (j : Nat) x, (ws.map bs)[j]? = some x → B.w.cell? ⟨g, 0 + j, none⟩ = some (.string x) := by
    intro j x hj
    have hjl : j < ws.length := by have := (List.getElem?_eq_some_iff.1 hj).1; simpa using this
    have := (hv j 0 (by simpa using hjl) (by omega)).1
    rw [show (ws.map sA).getD j .junk = sA ws[j] by simp [List.getD_eq_getElem?_getD, hjl]] at this
    simp only [Nat.mul_one, Nat.add_zero, AV.cellAt, AV.cells, sA, List.getD_cons_zero] at this
    have e := this.v_inv
    have hx : x = bs ws[j] := by simpa [hjl] using hj.symm
    rw [Nat.zero_add, cell_row hcc (by simp at hcl; omega), e, hx]
  have hmap : (ws.map bs).map (·.data.toList) = ws := by
    rw [List.map_map]
    conv => rhs; rw [← List.map_id ws]
    exact List.map_congr_left fun x _ => bs_data x
  refine (Tryd.strings_Join g 0 cap (ws.map bs) (bs sep) B.w hcells (hh.lt hr) (by simpa using hn) (by simpa using hcap) (by rw [hmap, bs_data]; exact hl)).mono ?_
  rintro e w' ⟨rfl, hb⟩
  obtain ⟨s, H'⟩ := hh.callee (Z' := fun _ => False) hb (fun k (h : False) => h.elim)
  exact ⟨sA (Go.Lib.join ws sep), _, _, _, _, _, rfl, ⟨rfl, rfl⟩, by rw [hmap, bs_data]; exact .v _, H'⟩
/-! ### A text cut at its spaces -/
theorem indexByte_none (s : List UInt8) (c : UInt8) (h : c ∉ s) : Go.Lib.indexByte s c = -1 := by
  induction s with
  | nil => rfl
  | cons b l ih =>
    simp only [List.mem_cons, not_or] at h
    unfold Go.Lib.indexByte
    rw [if_neg (by simpa using Ne.symm h.1), ih h.2]
    rfl
theorem indexByte_at (w r : List UInt8) (c : UInt8) (h : c ∉ w) : Go.Lib.indexByte (w ++ c :: r) c = w.length := by
  induction w with
  | nil => simp [Go.Lib.indexByte]
  | cons b l ih =>
    simp only [List.mem_cons, not_or] at h
    rw [List.cons_append]
    unfold Go.Lib.indexByte
    rw [if_neg (by simpa using Ne.symm h.1), ih h.2]
    rw [if_neg (by simp)]
    simp
theorem cut_at (s : List UInt8) (c : UInt8) (h : c ∈ s) : ∃ w r, s = w ++ c :: r ∧ c ∉ w := by
  induction s with
  | nil => simp at h
  | cons b l ih =>
    by_cases e : b = c
    · subst e; exact ⟨[], l, rfl, by simp⟩
    · rcases List.mem_cons.1 h with h | h
      · exact absurd h.symm e
      · obtain ⟨w, r, e1, e2⟩ := ih h
        exact ⟨b :: w, r, by rw [e1]; rfl, by simp [e2, Ne.symm e]⟩
theorem spl_cut (w r : List UInt8) (h : (32 : UInt8) ∉ w) : spl [] (w ++ 32 :: r) = w :: spl [] r := by
  rw [spl_append w h, List.nil_append, spl, if_pos rfl]
theorem spl_none (w : List UInt8) (h : (32 : UInt8) ∉ w) : spl [] w = [w] := by
  have := spl_append w h [] []
  simpa [spl] using this
structure Sp where
  done : List (List UInt8)
  rest : List UInt8
theorem renL_sA (f : Nat → Option Nat) (t : List (List UInt8)) : AV.renL f (t.map sA) = t.map sA := by
  rw [AV.renL_eq, List.map_map]
  exact List.map_congr_left fun p _ => by simp [sA, AV.ren]
theorem fzL_sA (h : List (Option Blk)) (t : List (List UInt8)) : fzL h (t.map sA) = t.map sA := by
  rw [fzL_eq, List.map_map]
  exact List.map_congr_left fun p _ => by simp [sA, fz_v]
theorem renL_rep (f : Nat → Option Nat) (n : Nat) (x : Value) : AV.renL f (List.replicate n (.v x)) = List.replicate n (.v x) := by
  rw [AV.renL_eq, List.map_replicate]
  simp [AV.ren]
attribute [go_sem] renL_sA fzL_sA renL_rep
/-- What is there of the pieces. -/
def rowE (done : List (List UInt8)) (N : Nat) : List AV := done.map sA ++ List.replicate (N + 1 - done.length) (sA [])
theorem rowE_len (done : List (List UInt8)) (N : Nat) (h : done.length ≤ N + 1) : (rowE done N).length = N + 1 := by simp [rowE]; omega
theorem rowE_get (done : List (List UInt8)) (N : Nat) (h : done.length ≤ N) : (rowE done N).getD done.length .junk = .v (.string (bs [])) := by
  rw [List.getD_eq_getElem?_getD, rowE, List.getElem?_append_right (by simp)]
  simp [show done.length < N + 1 by omega, sA]
  rw [List.getElem?_replicate, if_pos (by omega)]
  rfl
theorem rowE_set (done : List (List UInt8)) (x : List UInt8) (N : Nat) (h : done.length ≤ N) : (rowE done N).set done.length (.v (.string (bs x))) = rowE (done ++ [x]) N := by
  unfold rowE
  rw [show N + 1 - done.length = (N + 1 - (done ++ [x]).length) + 1 by simp; omega, List.replicate_succ, List.set_append_right _ _ (by simp)]
  simp [sA]
theorem renL_rowE (f : Nat → Option Nat) (done : List (List UInt8)) (N : Nat) : AV.renL f (rowE done N) = rowE done N := by
  unfold rowE
  rw [renL_app, renL_sA]
  congr 1
  exact renL_rep f _ _
theorem rowE_done (done : List (List UInt8)) (N : Nat) (h : done.length = N + 1) : rowE done N = done.map sA := by
  unfold rowE
  rw [h, Nat.sub_self]
  simp
attribute [go_sem] renL_rowE
def spS (N : Nat) (b : Sp) : St := ⟨66, 0, [(0, sA b.rest), (1, sA [32]), (2, iA 0), (3, .v (.int .i64 N)), (9, .sl 0 1 0 (N + 1)), (10, .v (.int .i64 b.done.length))],
  [some (.row 9 1 (rowE b.done N))]⟩
def spG (s : List UInt8) (N : Nat) (b : Sp) : Prop := b.done.length + b.rest.count 32 = N ∧ b.done ++ spl [] b.rest = spl [] s ∧ b.rest.length ≤ s.length
theorem genSplit_pc (s : List UInt8) (hs : s.length + 1 < 9223372036854775808) (hc : s.count 32 ≤ 4096) : PCon Tryd.prog 43 [sA s, sA [32], iA 0, iA (-1)] (· = .fsl 1 ((spl [] s).map sA)) := by
  refine pcon_run 1000 Tryd.func43 rfl Tryd.results43 Tryd.ntmps43 (Nat.le_of_ble_eq_true rfl) ?_
  have hcl := List.count_le_length (a := (32 : UInt8)) (l := s)
  have ew1 : IntKind.i64.wrap ((List.count 32 s : Int) + 1) = ((List.count 32 s + 1 : Nat) : Int) := by rw [wrap64 (by omega) (by omega)]; omega
  have ew2 : IntKind.i64.wrap ((s.length : Int) + 1) = ((s.length + 1 : Nat) : Int) := by rw [wrap64 (by omega) (by omega)]; omega
  have emn : mnmx false ((List.count 32 s + 1 : Nat) : Int) ((s.length + 1 : Nat) : Int) = ((List.count 32 s + 1 : Nat) : Int) := by unfold mnmx; simp; omega
  have ew3 : IntKind.i64.wrap (((List.count 32 s + 1 : Nat) : Int) - 1) = (List.count 32 s : Int) := by rw [wrap64 (by omega) (by omega)]; omega
  simp (maxSteps := 1000000) -implicitDefEqProofs only [go_sem, ↓reduceIte, reduceCtorEq, Nat.reduceEqDiff, Nat.reduceLT, Nat.reduceAdd, Nat.reduceLeDiff, Nat.reduceMul, Nat.reduceSub, Nat.reduceDiv, Nat.reduceMod, Int.reduceToNat, Int.reduceLT, Int.reduceLE, Int.reduceEq, Int.reduceAdd, Int.reduceSub, Int.reduceMul, Int.reduceNeg, Int.reduceTMod, Int.reduceTDiv, Int.reduceMod, Int.reduceDiv, Int.reduceBEq, Int.reduceBNe, Nat.reduceBEq, sA, iA, emn, ew3]
  (repeat' (first | exact trivial | contradiction | refine And.intro ?_ ?_ | (show (_ : Nat) ≤ _; omega) | (show (_ : Nat) < _; omega) | (show (_ : Int) ≤ _; omega) | (show (_ : Int) < _; omega)  | (refine wait_draw 1000 mixed (by decide +kernel) ?_; simp (maxSteps := 1000000) -implicitDefEqProofs only [go_sem, ↓reduceIte, reduceCtorEq, Nat.reduceEqDiff, Nat.reduceLT, Nat.reduceAdd, Nat.reduceLeDiff, Nat.reduceMul, Nat.reduceSub, Nat.reduceDiv, Nat.reduceMod, Int.reduceToNat, Int.reduceLT, Int.reduceLE, Int.reduceEq, Int.reduceAdd, Int.reduceSub, Int.reduceMul, Int.reduceNeg, Int.reduceTMod, Int.reduceTDiv, Int.reduceMod, Int.reduceDiv, Int.reduceBEq, Int.reduceBNe, Nat.reduceBEq, sA, iA, ew1, ew2, emn, ew3]) | (refine call_eq 1000 ((show PCon Tryd.prog 21 [.v (.string (bs s)), .v (.string (bs [32]))] _ from count_pc s 32)) ?_ ?_ rfl; (focus (simp (maxSteps := 1000000) -implicitDefEqProofs only [go_sem, ↓reduceIte, reduceCtorEq, Nat.reduceEqDiff, Nat.reduceLT, Nat.reduceAdd, Nat.reduceLeDiff, Nat.reduceMul, Nat.reduceSub, Nat.reduceDiv, Nat.reduceMod, Int.reduceToNat, Int.reduceLT, Int.reduceLE, Int.reduceEq, Int.reduceAdd, Int.reduceSub, Int.reduceMul, Int.reduceNeg, Int.reduceTMod, Int.reduceTDiv, Int.reduceMod, Int.reduceDiv, Int.reduceBEq, Int.reduceBNe, Nat.reduceBEq, sA, iA, ew1, ew2, emn, ew3]; done)); simp (maxSteps := 1000000) -implicitDefEqProofs only [go_sem, ↓reduceIte, reduceCtorEq, Nat.reduceEqDiff, Nat.reduceLT, Nat.reduceAdd, Nat.reduceLeDiff, Nat.reduceMul, Nat.reduceSub, Nat.reduceDiv, Nat.reduceMod, Int.reduceToNat, Int.reduceLT, Int.reduceLE, Int.reduceEq, Int.reduceAdd, Int.reduceSub, Int.reduceMul, Int.reduceNeg, Int.reduceTMod, Int.reduceTDiv, Int.reduceMod, Int.reduceDiv, Int.reduceBEq, Int.reduceBNe, Nat.reduceBEq, sA, iA, ew1, ew2, emn, ew3]) | (refine call_draw 1000 ((show PCon Tryd.prog 21 [.v (.string (bs s)), .v (.string (bs [32]))] _ from count_pc s 32)) ?_ ?_; (focus (simp (maxSteps := 1000000) -implicitDefEqProofs only [go_sem, ↓reduceIte, reduceCtorEq, Nat.reduceEqDiff, Nat.reduceLT, Nat.reduceAdd, Nat.reduceLeDiff, Nat.reduceMul, Nat.reduceSub, Nat.reduceDiv, Nat.reduceMod, Int.reduceToNat, Int.reduceLT, Int.reduceLE, Int.reduceEq, Int.reduceAdd, Int.reduceSub, Int.reduceMul, Int.reduceNeg, Int.reduceTMod, Int.reduceTDiv, Int.reduceMod, Int.reduceDiv, Int.reduceBEq, Int.reduceBNe, Nat.reduceBEq, sA, iA, ew1, ew2, emn, ew3]; done)); simp (maxSteps := 1000000) -implicitDefEqProofs only [go_sem, ↓reduceIte, reduceCtorEq, Nat.reduceEqDiff, Nat.reduceLT, Nat.reduceAdd, Nat.reduceLeDiff, Nat.reduceMul, Nat.reduceSub, Nat.reduceDiv, Nat.reduceMod, Int.reduceToNat, Int.reduceLT, Int.reduceLE, Int.reduceEq, Int.reduceAdd, Int.reduceSub, Int.reduceMul, Int.reduceNeg, Int.reduceTMod, Int.reduceTDiv, Int.reduceMod, Int.reduceDiv, Int.reduceBEq, Int.reduceBNe, Nat.reduceBEq, sA, iA, ew1, ew2, emn, ew3]) | intro _))
  refine wait_data (spS (s.count 32)) (spG s (s.count 32)) (fun b => s.count 32 - b.done.length) ⟨[], s⟩ (weak_to [0, 1, 2, 3, 9, 10] [0] ?_ (by simp) (fun i h => by cases h)) ⟨by simp, rfl, Nat.le_refl _⟩ ?_
  · simp (maxSteps := 1000000) -implicitDefEqProofs only [go_sem, ↓reduceIte, reduceCtorEq, Nat.reduceEqDiff, Nat.reduceLT, Nat.reduceAdd, Nat.reduceLeDiff, Nat.reduceMul, Nat.reduceSub, Nat.reduceDiv, Nat.reduceMod, Int.reduceToNat, Int.reduceLT, Int.reduceLE, Int.reduceEq, Int.reduceAdd, Int.reduceSub, Int.reduceMul, Int.reduceNeg, Int.reduceTMod, Int.reduceTDiv, Int.reduceMod, Int.reduceDiv, Int.reduceBEq, Int.reduceBNe, Nat.reduceBEq, St.keep, spS, sA, iA, Int.natCast_zero, emn, ew3, Nat.sub_zero, rowE]
  · rintro ⟨done, rest⟩ ⟨h1, h2, h3⟩
    simp only at h1 h2 h3
    refine run_sound 1000 _ _ ?_
    have hdl : (done.map sA).length = done.length := by simp
    have g1 := rowE_get done (s.count 32) (by omega)
    have g2 := rowE_len done (s.count 32) (by omega)
    have ew6 : IntKind.i64.wrap ((done.length : Int) + 1) = ((done.length + 1 : Nat) : Int) := by rw [wrap64 (by omega) (by omega)]; omega
    by_cases hk : done.length < s.count 32
    · have hlt : ((done.length : Int) < (List.count 32 s : Int)) = True := eq_true (by omega)
      have hmem : (32 : UInt8) ∈ rest := by
        rw [← List.count_pos_iff]
        omega
      obtain ⟨w, r, rfl, hw⟩ := cut_at rest 32 hmem
      have hi := indexByte_at w r 32 hw
      have hf : ((w.length : Int) < 0) = False := eq_false (by omega)
      have hwl : (w ++ 32 :: r).length = w.length + (r.length + 1) := by simp
      have ew4 : IntKind.i64.wrap ((w.length : Int) + 0) = (w.length : Int) := by rw [wrap64 (by omega) (by omega)]; omega
      have ew5 : IntKind.i64.wrap ((w.length : Int) + 1) = ((w.length + 1 : Nat) : Int) := by rw [wrap64 (by omega) (by omega)]; omega
      have d1 : (w ++ 32 :: r).take w.length = w := by simp
      have d2 : (w ++ 32 :: r).drop (w.length + 1) = r := by
        rw [show w ++ 32 :: r = (w ++ [32]) ++ r by simp, show w.length + 1 = (w ++ [32]).length by simp, List.drop_left]
      have d3 : (w ++ 32 :: r).take (w.length + (r.length + 1)) = w ++ 32 :: r := by rw [← hwl, List.take_length]
      have hset := rowE_set done w (s.count 32) (by omega)
      simp (maxSteps := 1000000) -implicitDefEqProofs only [go_sem, ↓reduceIte, reduceCtorEq, Nat.reduceEqDiff, Nat.reduceLT, Nat.reduceAdd, Nat.reduceLeDiff, Nat.reduceMul, Nat.reduceSub, Nat.reduceDiv, Nat.reduceMod, Int.reduceToNat, Int.reduceLT, Int.reduceLE, Int.reduceEq, Int.reduceAdd, Int.reduceSub, Int.reduceMul, Int.reduceNeg, Int.reduceTMod, Int.reduceTDiv, Int.reduceMod, Int.reduceDiv, Int.reduceBEq, Int.reduceBNe, Nat.reduceBEq, spS, sA, iA, hlt]
      (repeat' (first | exact trivial | contradiction | refine And.intro ?_ ?_ | (show (_ : Nat) ≤ _; omega) | (show (_ : Nat) < _; omega) | (show (_ : Int) ≤ _; omega) | (show (_ : Int) < _; omega)  | (refine wait_draw 1000 mixed (by decide +kernel) ?_; simp (maxSteps := 1000000) -implicitDefEqProofs only [go_sem, ↓reduceIte, reduceCtorEq, Nat.reduceEqDiff, Nat.reduceLT, Nat.reduceAdd, Nat.reduceLeDiff, Nat.reduceMul, Nat.reduceSub, Nat.reduceDiv, Nat.reduceMod, Int.reduceToNat, Int.reduceLT, Int.reduceLE, Int.reduceEq, Int.reduceAdd, Int.reduceSub, Int.reduceMul, Int.reduceNeg, Int.reduceTMod, Int.reduceTDiv, Int.reduceMod, Int.reduceDiv, Int.reduceBEq, Int.reduceBNe, Nat.reduceBEq, sA, iA, hlt, hf, ew4, ew5, ew6, g1, g2, hset, d1, d2, hwl, d3]) | (refine call_eq 1000 ((show PCon Tryd.prog 41 [.v (.string (bs (w ++ 32 :: r))), .v (.string (bs [32]))] (· = .v (.int .i64 w.length)) from hi ▸ index_pc (w ++ 32 :: r) 32)) ?_ ?_ rfl; (focus (simp (maxSteps := 1000000) -implicitDefEqProofs only [go_sem, ↓reduceIte, reduceCtorEq, Nat.reduceEqDiff, Nat.reduceLT, Nat.reduceAdd, Nat.reduceLeDiff, Nat.reduceMul, Nat.reduceSub, Nat.reduceDiv, Nat.reduceMod, Int.reduceToNat, Int.reduceLT, Int.reduceLE, Int.reduceEq, Int.reduceAdd, Int.reduceSub, Int.reduceMul, Int.reduceNeg, Int.reduceTMod, Int.reduceTDiv, Int.reduceMod, Int.reduceDiv, Int.reduceBEq, Int.reduceBNe, Nat.reduceBEq, sA, iA, hlt, hf, ew4, ew5, ew6, g1, g2, hset, d1, d2, hwl, d3]; done)); simp (maxSteps := 1000000) -implicitDefEqProofs only [go_sem, ↓reduceIte, reduceCtorEq, Nat.reduceEqDiff, Nat.reduceLT, Nat.reduceAdd, Nat.reduceLeDiff, Nat.reduceMul, Nat.reduceSub, Nat.reduceDiv, Nat.reduceMod, Int.reduceToNat, Int.reduceLT, Int.reduceLE, Int.reduceEq, Int.reduceAdd, Int.reduceSub, Int.reduceMul, Int.reduceNeg, Int.reduceTMod, Int.reduceTDiv, Int.reduceMod, Int.reduceDiv, Int.reduceBEq, Int.reduceBNe, Nat.reduceBEq, sA, iA, hlt, hf, ew4, ew5, ew6, g1, g2, hset, d1, d2, hwl, d3]) | (refine call_draw 1000 ((show PCon Tryd.prog 41 [.v (.string (bs (w ++ 32 :: r))), .v (.string (bs [32]))] (· = .v (.int .i64 w.length)) from hi ▸ index_pc (w ++ 32 :: r) 32)) ?_ ?_; (focus (simp (maxSteps := 1000000) -implicitDefEqProofs only [go_sem, ↓reduceIte, reduceCtorEq, Nat.reduceEqDiff, Nat.reduceLT, Nat.reduceAdd, Nat.reduceLeDiff, Nat.reduceMul, Nat.reduceSub, Nat.reduceDiv, Nat.reduceMod, Int.reduceToNat, Int.reduceLT, Int.reduceLE, Int.reduceEq, Int.reduceAdd, Int.reduceSub, Int.reduceMul, Int.reduceNeg, Int.reduceTMod, Int.reduceTDiv, Int.reduceMod, Int.reduceDiv, Int.reduceBEq, Int.reduceBNe, Nat.reduceBEq, sA, iA, hlt, hf, ew4, ew5, ew6, g1, g2, hset, d1, d2, hwl, d3]; done)); simp (maxSteps := 1000000) -implicitDefEqProofs only [go_sem, ↓reduceIte, reduceCtorEq, Nat.reduceEqDiff, Nat.reduceLT, Nat.reduceAdd, Nat.reduceLeDiff, Nat.reduceMul, Nat.reduceSub, Nat.reduceDiv, Nat.reduceMod, Int.reduceToNat, Int.reduceLT, Int.reduceLE, Int.reduceEq, Int.reduceAdd, Int.reduceSub, Int.reduceMul, Int.reduceNeg, Int.reduceTMod, Int.reduceTDiv, Int.reduceMod, Int.reduceDiv, Int.reduceBEq, Int.reduceBNe, Nat.reduceBEq, sA, iA, hlt, hf, ew4, ew5, ew6, g1, g2, hset, d1, d2, hwl, d3]) | intro _))
      all_goals first | omega | (refine ⟨⟨done ++ [w], r⟩, ?_, ⟨?_, ?_, ?_⟩, ?_⟩)
      · simp; omega
      · simp [List.count_append] at h1 ⊢
        have : w.count 32 = 0 := List.count_eq_zero.2 hw
        omega
      · show (done ++ [w]) ++ spl [] r = spl [] s
        rw [← h2, spl_cut w r hw]
        simp
      · show r.length ≤ s.length
        omega
      · simp only [List.length_append, List.length_cons, List.length_nil]
        ((refine weak_to [0, 1, 2, 3, 9, 10] [0] ?_ (by simp) (fun i h => by cases h); simp (maxSteps := 1000000) -implicitDefEqProofs only [go_sem, ↓reduceIte, reduceCtorEq, Nat.reduceEqDiff, Nat.reduceLT, Nat.reduceAdd, Nat.reduceLeDiff, Nat.reduceMul, Nat.reduceSub, Nat.reduceDiv, Nat.reduceMod, Int.reduceToNat, Int.reduceLT, Int.reduceLE, Int.reduceEq, Int.reduceAdd, Int.reduceSub, Int.reduceMul, Int.reduceNeg, Int.reduceTMod, Int.reduceTDiv, Int.reduceMod, Int.reduceDiv, Int.reduceBEq, Int.reduceBNe, Nat.reduceBEq, St.keep, spS, ew6, sA, iA, List.length_append]; done))
    · have hlt : ((done.length : Int) < (List.count 32 s : Int)) = False := eq_false (by omega)
      have hN : done.length = s.count 32 := by omega
      have hr0 : (32 : UInt8) ∉ rest := by rw [← List.count_eq_zero]; omega
      rw [spl_none rest hr0] at h2
      have hset := rowE_set done rest (s.count 32) (by omega)
      have hE := rowE_done (done ++ [rest]) (s.count 32) (by simp; omega)
      have ht : ((done ++ [rest]).map sA).take (done.length + 1) = (done ++ [rest]).map sA := List.take_of_length_le (by simp)
      simp (maxSteps := 1000000) -implicitDefEqProofs only [go_sem, ↓reduceIte, reduceCtorEq, Nat.reduceEqDiff, Nat.reduceLT, Nat.reduceAdd, Nat.reduceLeDiff, Nat.reduceMul, Nat.reduceSub, Nat.reduceDiv, Nat.reduceMod, Int.reduceToNat, Int.reduceLT, Int.reduceLE, Int.reduceEq, Int.reduceAdd, Int.reduceSub, Int.reduceMul, Int.reduceNeg, Int.reduceTMod, Int.reduceTDiv, Int.reduceMod, Int.reduceDiv, Int.reduceBEq, Int.reduceBNe, Nat.reduceBEq, spS, sA, iA, hlt, g1, g2, ew6, hset, hE]
      refine ⟨by omega, by omega, by omega, ?_⟩
      rw [if_pos (by simp), Nat.sub_zero, ht, renL_sA, h2]
theorem split_pc (s : List UInt8) (hs : s.length + 1 < 9223372036854775808) (hc : s.count 32 ≤ 4096) : PCon Tryd.prog 23 [sA s, sA [32]] (· = .fsl 1 ((spl [] s).map sA)) := by
  refine pcon_run 1000 Tryd.func23 rfl Tryd.results23 Tryd.ntmps23 (Nat.le_of_ble_eq_true rfl) ?_
  simp (maxSteps := 1000000) -implicitDefEqProofs only [go_sem, ↓reduceIte, reduceCtorEq, Nat.reduceEqDiff, Nat.reduceLT, Nat.reduceAdd, Nat.reduceLeDiff, Nat.reduceMul, Nat.reduceSub, Nat.reduceDiv, Nat.reduceMod, Int.reduceToNat, Int.reduceLT, Int.reduceLE, Int.reduceEq, Int.reduceAdd, Int.reduceSub, Int.reduceMul, Int.reduceNeg, Int.reduceTMod, Int.reduceTDiv, Int.reduceMod, Int.reduceDiv, Int.reduceBEq, Int.reduceBNe, Nat.reduceBEq, sA, iA]
  (repeat' (first | exact trivial | contradiction | refine And.intro ?_ ?_ | (show (_ : Nat) ≤ _; omega) | (show (_ : Nat) < _; omega) | (show (_ : Int) ≤ _; omega) | (show (_ : Int) < _; omega)  | (refine wait_draw 1000 mixed (by decide +kernel) ?_; simp (maxSteps := 1000000) -implicitDefEqProofs only [go_sem, ↓reduceIte, reduceCtorEq, Nat.reduceEqDiff, Nat.reduceLT, Nat.reduceAdd, Nat.reduceLeDiff, Nat.reduceMul, Nat.reduceSub, Nat.reduceDiv, Nat.reduceMod, Int.reduceToNat, Int.reduceLT, Int.reduceLE, Int.reduceEq, Int.reduceAdd, Int.reduceSub, Int.reduceMul, Int.reduceNeg, Int.reduceTMod, Int.reduceTDiv, Int.reduceMod, Int.reduceDiv, Int.reduceBEq, Int.reduceBNe, Nat.reduceBEq, sA, iA]) | (refine call_eq 1000 ((show PCon Tryd.prog 43 [.v (.string (bs s)), .v (.string (bs [32])), .v (.int .i64 0), .v (.int .i64 (-1))] _ from genSplit_pc s hs hc)) ?_ ?_ rfl; (focus (simp (maxSteps := 1000000) -implicitDefEqProofs only [go_sem, ↓reduceIte, reduceCtorEq, Nat.reduceEqDiff, Nat.reduceLT, Nat.reduceAdd, Nat.reduceLeDiff, Nat.reduceMul, Nat.reduceSub, Nat.reduceDiv, Nat.reduceMod, Int.reduceToNat, Int.reduceLT, Int.reduceLE, Int.reduceEq, Int.reduceAdd, Int.reduceSub, Int.reduceMul, Int.reduceNeg, Int.reduceTMod, Int.reduceTDiv, Int.reduceMod, Int.reduceDiv, Int.reduceBEq, Int.reduceBNe, Nat.reduceBEq, sA, iA]; done)); simp (maxSteps := 1000000) -implicitDefEqProofs only [go_sem, ↓reduceIte, reduceCtorEq, Nat.reduceEqDiff, Nat.reduceLT, Nat.reduceAdd, Nat.reduceLeDiff, Nat.reduceMul, Nat.reduceSub, Nat.reduceDiv, Nat.reduceMod, Int.reduceToNat, Int.reduceLT, Int.reduceLE, Int.reduceEq, Int.reduceAdd, Int.reduceSub, Int.reduceMul, Int.reduceNeg, Int.reduceTMod, Int.reduceTDiv, Int.reduceMod, Int.reduceDiv, Int.reduceBEq, Int.reduceBNe, Nat.reduceBEq, sA, iA]) | (refine call_draw 1000 ((show PCon Tryd.prog 43 [.v (.string (bs s)), .v (.string (bs [32])), .v (.int .i64 0), .v (.int .i64 (-1))] _ from genSplit_pc s hs hc)) ?_ ?_; (focus (simp (maxSteps := 1000000) -implicitDefEqProofs only [go_sem, ↓reduceIte, reduceCtorEq, Nat.reduceEqDiff, Nat.reduceLT, Nat.reduceAdd, Nat.reduceLeDiff, Nat.reduceMul, Nat.reduceSub, Nat.reduceDiv, Nat.reduceMod, Int.reduceToNat, Int.reduceLT, Int.reduceLE, Int.reduceEq, Int.reduceAdd, Int.reduceSub, Int.reduceMul, Int.reduceNeg, Int.reduceTMod, Int.reduceTDiv, Int.reduceMod, Int.reduceDiv, Int.reduceBEq, Int.reduceBNe, Nat.reduceBEq, sA, iA]; done)); simp (maxSteps := 1000000) -implicitDefEqProofs only [go_sem, ↓reduceIte, reduceCtorEq, Nat.reduceEqDiff, Nat.reduceLT, Nat.reduceAdd, Nat.reduceLeDiff, Nat.reduceMul, Nat.reduceSub, Nat.reduceDiv, Nat.reduceMod, Int.reduceToNat, Int.reduceLT, Int.reduceLE, Int.reduceEq, Int.reduceAdd, Int.reduceSub, Int.reduceMul, Int.reduceNeg, Int.reduceTMod, Int.reduceTDiv, Int.reduceMod, Int.reduceDiv, Int.reduceBEq, Int.reduceBNe, Nat.reduceBEq, sA, iA]) | intro _))
end Go.Proofs.YtiipggfhjkalfaaDoor
