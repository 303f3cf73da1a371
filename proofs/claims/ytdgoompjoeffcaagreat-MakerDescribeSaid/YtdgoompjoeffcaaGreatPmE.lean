import Derived.Test.YtdgoompjoeffcaaGreatPmD
import Derived.Great.BuildSlice
import Derived.Deep.AppendSrc
/- PM, part E: new blocks, stores, literals, slices of slices. -/
namespace Go.Proofs.YtdgoompjoeffcaaGreat
namespace Pm

section
variable {P : Program} {B : Base} {w : World} {ρ : Nat → Option Nat} {D Z : Nat → Prop} {st : St} {a : Act} {K : AV → List (Option Blk) → Prop}

/-- Cells side by side. -/
def RVL (w : World) (ρ : Nat → Option Nat) (D Z : Nat → Prop) (l : List AV) (c : Array Value) : Prop :=
  l.length = c.size ∧ ∀ k, k < l.length → RV w ρ D Z (l.getD k .junk) (c.getD k undef) ∧ (c.getD k undef).oneCell' = true
theorem RVL.step {w' : World} {ρ' : Nat → Option Nat} {D' Z' : Nat → Prop} (s : Step w w' ρ ρ' D D' Z Z') {l : List AV} {c : Array Value} (h : RVL w ρ D Z l c) : RVL w' ρ' D' Z' l c :=
  ⟨h.1, fun k hk => ⟨(h.2 k hk).1.step s, (h.2 k hk).2⟩⟩
theorem RVL.of {av : AV} {x : Value} (hf : av.fit = true) (ho : av.ones = true) (h : RV w ρ D Z av x) : RVL w ρ D Z av.cells x.cells :=
  ⟨(h.cells hf).1, fun k hk => ⟨(h.cells hf).2 k hk, h.one_cells hf ho k (by have := (h.cells hf).1; omega)⟩⟩
/-- What a new block of rows wants. -/
theorem RVL.block {e : TypeId} {sz : Nat} {es : List AV} {c : Array Value} {g : Nat} {fl : List AV} (h : RVL w ρ D Z fl c) (hg : w.heap[g]? = some (.cells c e (0, 0))) (hs : ∀ i, i < es.length → (es.getD i .junk).cells.length = sz)
    (hf : ∀ i j, i < es.length → j < sz → fl.getD (i * sz + j) .junk = (es.getD i .junk).cellAt j) (hl : es.length * sz ≤ fl.length) : RB w ρ D Z (.row e sz es) g :=
  ⟨c, (0, 0), hg, .inl (Nat.le_refl _), by rw [← h.1]; exact hl, hs, fun i j hi hj => by
    have := h.2 (i * sz + j) (by have := mul_lt hi hj; omega)
    rw [hf i j hi hj] at this
    exact this⟩
theorem heap_new (w : World) (o : Obj) : (w.alloc o).heap[w.heap.size]? = some o := by
  show (w.heap.push o)[w.heap.size]? = _
  simp

/-- The result of a new block of one element. -/
theorem out_new (I : Inv B ρ D Z st a w) {s : Sem Next} {e : TypeId} {av : AV} {c : Array Value} (hs : s.run P w = .ok (.value (.pointer (some ⟨w.heap.size, 0, none⟩))) (w.alloc (.cells c e)))
    (hv : RVL w ρ D Z av.cells c) (hk : K (.ptr st.h.length av.cells.length 0 0) (st.h ++ [some (.row e av.cells.length [av])])) : Out P B st a w K s := by
  have hst := I.h.alloc_step (.cells c e)
  refine ⟨_, _, hs, _, .inl rfl, _, _, setρ ρ st.h.length (some w.heap.size), D, Z, hk, ?_, I.moved hst (I.h.alloc _ _ ?_)⟩
  · have : (⟨w.heap.size, 0, none⟩ : Addr) = ⟨w.heap.size, 0 * av.cells.length + 0, none⟩ := by simp
    rw [this]
    exact .ptr (by simp [setρ])
  · refine (hv.step hst).block (heap_new w _) ?_ ?_ (by simp)
    · intro i hi
      have : i = 0 := by simpa using hi
      subst this; rfl
    · intro i j hi _
      have : i = 0 := by simpa using hi
      subst this
      simp [AV.cellAt]

def AV.zero (g : Bool) (z : List Value) : AV := if g then .agg (z.map .v) else match z with | [x] => .v x | _ => .junk
theorem RVL.vs (l : List Value) (c : Array Value) (hc : c.toList = l) (h1 : ∀ x ∈ l, x.oneCell' = true) : RVL w ρ D Z (l.map .v) c := by
  subst hc
  refine ⟨by simp, fun k hk => ?_⟩
  have hk' : k < c.size := by simpa using hk
  have e : c.getD k undef = c[k] := by simp [Array.getD, hk']
  rw [e]
  refine ⟨?_, h1 _ (by simp)⟩
  rw [List.getD_eq_getElem?_getD, List.getElem?_map]
  simp [hk']
  exact .v _
theorem out_alloc (I : Inv B ρ D Z st a w) {t : TypeId} {g : Bool} {z : List Value} (hg : aggOf P t = some g) (hz : zeroOf P t = some z) (h1 : g = false → z.length = 1) (ho : z.all (·.oneCell') = true)
    (hk : K (.ptr st.h.length z.length 0 0) (st.h ++ [some (.row t z.length [AV.zero g z])])) : Out P B st a w K (do pure (.value (← Instr.alloc t true (.tuple #[])))) := by
  obtain ⟨v, hv, hvz⟩ := run_zero (w := w) hz
  have hc : (AV.zero g z).cells = z.map .v := by
    unfold AV.zero
    cases g with
    | true => rfl
    | false =>
      have := h1 rfl
      match z, this with
      | [x], _ => rfl
  have hl : (AV.zero g z).cells.length = z.length := by rw [hc]; simp
  refine out_new I (av := AV.zero g z) (c := v.cells) (e := t) ?_ ?_ (by rw [hl]; exact hk)
  · simp [Instr.alloc, hv, newVar, newRow]
  · rw [hc]
    exact RVL.vs z v.cells hvz (fun x hx => by rw [List.all_eq_true] at ho; exact ho x hx)
theorem out_box (I : Inv B ρ D Z st a w) {t : TypeId} {x : Operand} (hf : (st.get x).fit = true) (ho : (st.get x).ones = true)
    (hk : K (.ptr st.h.length (st.get x).cells.length 0 0) (st.h ++ [some (.row t (st.get x).cells.length [st.get x])])) : Out P B st a w K (do pure (.value (← Instr.box t (a.eval x)))) := by
  refine out_new I (av := st.get x) (c := (a.eval x).cells) (e := t) ?_ (RVL.of hf ho (I.get x)) hk
  simp [Instr.box, newVar, newRow]

/-! ### Stores -/
theorem okFr.set {fr : Nat × Nat} {n m : Nat} (h : okFr fr n) (e : m = n) : okFr fr m := e ▸ h
/-- Cells are stored into a row of which nothing is frozen but behind its cells. -/
theorem run_storeCells_fr (g o : Nat) (t : TypeId) (fr : Nat × Nat) : ∀ (vs : List Value) (i : Nat) (cur : Array Value) (w : World), w.heap[g]? = some (.cells cur t fr) → okFr fr cur.size → o + i + vs.length ≤ cur.size → (∀ v ∈ vs, v.oneCell' = true) →
    (storeCells ⟨g, o, none⟩ vs i).run P w = .ok () (w.setRow g (cur.toList.take (o + i) ++ vs ++ cur.toList.drop (o + i + vs.length)).toArray)
  | [], i, cur, w, hg, _, _, _ => by
    simp only [storeCells, List.append_nil, List.length_nil, Nat.add_zero, List.take_append_drop, Array.toArray_toList]
    rw [setRow_self w g cur t fr hg]
    rfl
  | v :: rest, i, cur, w, hg, hf, hl, h1 => by
    have hi : o + i < cur.size := by simp at hl; omega
    have hadd : (⟨g, o, none⟩ : Addr).add i = ⟨g, o + i, none⟩ := by unfold Addr.add; split <;> simp_all
    have hcell : w.cell? ⟨g, o + i, none⟩ = some cur[o + i] := by simp [World.cell?, hg, hi]
    have hfro : w.frozen? ⟨g, o + i, none⟩ = false := by
      obtain ⟨lo, up⟩ := fr
      unfold okFr at hf
      simp only at hf
      simp only [World.frozen?, hg, Bool.and_eq_false_iff, decide_eq_false_iff_not]
      omega
    have hst : (store ((⟨g, o, none⟩ : Addr).add i) v).run P w = .ok () (w.setRow g (cur.setIfInBounds (o + i) v)) := by
      rw [hadd, run_store P w _ v _ (h1 v (by simp)), hcell]
      simp [hfro, setCell_eq_setRow w g (o + i) cur t fr v hg]
    have ih := run_storeCells_fr g o t fr rest (i + 1) (cur.setIfInBounds (o + i) v) (w.setRow g (cur.setIfInBounds (o + i) v)) (setRow_heap w g cur _ t _ hg) (hf.set (by simp)) (by simp at hl ⊢; omega) (fun x hx => h1 x (by simp [hx]))
    simp only [storeCells, Sem.run_bind, hst, Result.andThen_ok, ih, setRow_setRow]
    congr 3
    have e := list_seg_step cur.toList (o + i) v rest (by simp at hl ⊢; omega)
    simpa [Array.toList_setIfInBounds, Nat.add_assoc] using e
/-- Cells from j on put in the place of others. -/
def putL : List AV → Nat → List AV → List AV
  | c, _, [] => c
  | c, j, v :: vs => putL (c.set j v) (j + 1) vs
theorem putL_length : ∀ (vs c : List AV) (j : Nat), (putL c j vs).length = c.length
  | [], _, _ => rfl
  | v :: vs, c, j => by rw [putL, putL_length vs]; simp
theorem putL_getD : ∀ (vs c : List AV) (j k : Nat), j + vs.length ≤ c.length → (putL c j vs).getD k .junk = if j ≤ k ∧ k < j + vs.length then vs.getD (k - j) .junk else c.getD k .junk
  | [], c, j, k, _ => by rw [putL, if_neg (by simp)]
  | v :: vs, c, j, k, h => by
    rw [putL, putL_getD vs (c.set j v) (j + 1) k (by simp at h ⊢; omega)]
    simp only [List.length_cons] at h ⊢
    by_cases h1 : j + 1 ≤ k ∧ k < j + 1 + vs.length
    · rw [if_pos h1, if_pos (by omega), show k - j = (k - (j + 1)) + 1 by omega, List.getD_cons_succ]
    · rw [if_neg h1]
      by_cases h2 : k = j
      · subst h2
        rw [if_pos (by omega)]
        simp [List.getD_eq_getElem?_getD, show k < c.length by omega]
      · rw [if_neg (by omega)]
        simp [List.getD_eq_getElem?_getD, Ne.symm h2]
/-- An element with cells from j on changed. -/
def stA (e : AV) (j : Nat) (cs : List AV) : AV := match e with
  | .agg c => .agg (putL c j cs)
  | _ => cs.getD 0 .junk
theorem out_store (I : Inv B ρ D Z st a w) {t : TypeId} {x y : Operand} {id sz i j n : Nat} {e : TypeId} {es : List AV} (hx : st.get x = .ptr id sz i j) (hb : st.h[id]? = some (some (.row e sz es)))
    (hn : szOf P t = some n) (hi : i < es.length) (hf : (st.get y).fit = true) (ho : (st.get y).ones = true) (hc : (st.get y).cells.length = n) (hj : j + n ≤ sz)
    (hsh : (∃ c, es.getD i .junk = .agg c) ∨ (n = 1 ∧ sz = 1 ∧ (st.get y).cells = [st.get y]))
    (hk : K (.v undef) (st.h.set id (some (.row e sz (es.set i (stA (es.getD i .junk) j (st.get y).cells)))))) : Out P B st a w K (do Instr.storeAt t (a.eval x) (a.eval y); pure .skip) := by
  obtain ⟨gb, c, fr, hr, hcc, hfr, hl, hs, hv⟩ := I.h.row hb
  have hxv := I.get x
  rw [hx] at hxv
  rw [hxv.ptr_live I.h hb hr]
  have hY := RVL.of hf ho (I.get y)
  generalize a.eval y = vy at hY
  have hsz : vy.cells.size = n := by rw [← hY.1, hc]
  have hin : i * sz + j + n ≤ c.size := by
    have : (i + 1) * sz ≤ es.length * sz := Nat.mul_le_mul_right _ hi
    rw [Nat.add_mul] at this
    omega
  have h1 : ∀ v ∈ vy.cells.toList, v.oneCell' = true := fun v hv => by
    obtain ⟨k, hk, rfl⟩ := List.mem_iff_getElem.1 hv
    have hk' : k < vy.cells.size := by simpa using hk
    have := (hY.2 k (by rw [hY.1]; exact hk')).2
    simpa [Array.getD, hk'] using this
  have hst := run_storeCells_fr (P := P) gb (i * sz + j) e fr vy.cells.toList 0 c w hcc hfr (by simp; omega) h1
  simp only [Nat.add_zero] at hst
  -- the new cells
  let c' := (c.toList.take (i * sz + j) ++ vy.cells.toList ++ c.toList.drop (i * sz + j + vy.cells.toList.length)).toArray
  have hc's : c'.size = c.size := by simp [c']; omega
  have hget : ∀ k, k < c.size → c'.getD k undef = if i * sz + j ≤ k ∧ k < i * sz + j + n then vy.cells.getD (k - (i * sz + j)) undef else c.getD k undef := fun k hk => by
    simp only [c', Array.getD_eq_getD_getElem?, List.getElem?_toArray]
    by_cases h2 : k < i * sz + j
    · rw [if_neg (by omega), List.append_assoc, List.getElem?_append_left (by simp; omega)]
      simp [h2]
    · by_cases h3 : k < i * sz + j + n
      · rw [if_pos (by omega), List.append_assoc, List.getElem?_append_right (by simp; omega), List.getElem?_append_left (by simp; omega)]
        simp [show min (i * sz + j) c.size = i * sz + j by omega]
      · rw [if_neg (by omega), List.append_assoc, List.getElem?_append_right (by simp; omega), List.getElem?_append_right (by simp; omega)]
        simp [show min (i * sz + j) c.size = i * sz + j by omega]
        congr 2
        omega
  have hes : es.getD i .junk = es[i] := by simp [List.getD_eq_getElem?_getD, hi]
  have hlen : (stA (es.getD i .junk) j (st.get y).cells).cells.length = sz := by
    rcases hsh with ⟨d, hd⟩ | ⟨hn1, hs1, hy1⟩
    · rw [hd]
      simp only [stA, AV.cells, putL_length]
      have := hs i hi
      rw [hd] at this
      exact this
    · by_cases hd : ∃ d, es.getD i .junk = .agg d
      · obtain ⟨d, hd⟩ := hd
        rw [hd]
        simp only [stA, AV.cells, putL_length]
        have := hs i hi
        rw [hd] at this
        exact this
      · have : stA (es.getD i .junk) j (st.get y).cells = (st.get y).cells.getD 0 .junk := by
          unfold stA
          split
          · rename_i d hd'; exact absurd ⟨d, hd'⟩ hd
          · rfl
        rw [this, hy1]
        have h3 : (st.get y).cells.length = 1 := by rw [hy1]; rfl
        simp only [List.getD_cons_zero, hs1]
        exact h3
  have hcell : ∀ q, q < sz → (stA (es.getD i .junk) j (st.get y).cells).cellAt q = if j ≤ q ∧ q < j + n then (st.get y).cells.getD (q - j) .junk else (es.getD i .junk).cellAt q := fun q hq => by
    by_cases hd : ∃ d, es.getD i .junk = .agg d
    · obtain ⟨d, hd⟩ := hd
      rw [hd]
      have hdl : d.length = sz := by have := hs i hi; rw [hd] at this; exact this
      show (putL d j (st.get y).cells).getD q .junk = if j ≤ q ∧ q < j + n then (st.get y).cells.getD (q - j) .junk else d.getD q .junk
      rw [putL_getD _ _ _ _ (by omega), hc]
    · rcases hsh with hd' | ⟨hn1, hs1, hy1⟩
      · exact absurd hd' hd
      · have : stA (es.getD i .junk) j (st.get y).cells = (st.get y).cells.getD 0 .junk := by
          unfold stA
          split
          · rename_i d hd'; exact absurd ⟨d, hd'⟩ hd
          · rfl
        rw [this, hy1]
        have hq0 : q = 0 := by omega
        have hj0 : j = 0 := by omega
        subst hq0; subst hj0
        rw [if_pos (by omega)]
        show (st.get y).cells.getD 0 .junk = st.get y
        rw [hy1]
        rfl
  have H := I.h.set_row (c' := c') sz (es.set i (stA (es.getD i .junk) j (st.get y).cells)) hr hcc (hfr.set hc's) (by omega) (by simp; omega)
    (fun k hk => by
      have hk' : k < es.length := by simpa using hk
      by_cases ek : k = i
      · subst ek
        have : (es.set k (stA (es.getD k .junk) j (st.get y).cells)).getD k .junk = stA (es.getD k .junk) j (st.get y).cells := by simp [List.getD_eq_getElem?_getD, hi]
        rw [this]; exact hlen
      · have : (es.set i (stA (es.getD i .junk) j (st.get y).cells)).getD k .junk = es.getD k .junk := by simp [List.getD_eq_getElem?_getD, Ne.symm ek]
        rw [this]; exact hs k hk')
    (fun k q hk hq => by
      have hk' : k < es.length := by simpa using hk
      have hkq := mul_lt hk' hq
      rw [hget _ (by omega)]
      by_cases ek : k = i
      · subst ek
        have : (es.set k (stA (es.getD k .junk) j (st.get y).cells)).getD k .junk = stA (es.getD k .junk) j (st.get y).cells := by simp [List.getD_eq_getElem?_getD, hi]
        rw [this, hcell q hq]
        by_cases hq2 : j ≤ q ∧ q < j + n
        · rw [if_pos hq2, if_pos (by omega), show k * sz + q - (k * sz + j) = q - j by omega]
          exact hY.2 (q - j) (by omega)
        · rw [if_neg hq2, if_neg (by omega)]
          exact hv k q hk' hq
      · have : (es.set i (stA (es.getD i .junk) j (st.get y).cells)).getD k .junk = es.getD k .junk := by simp [List.getD_eq_getElem?_getD, Ne.symm ek]
        have hne : ¬ (i * sz + j ≤ k * sz + q ∧ k * sz + q < i * sz + j + n) := by
          rintro ⟨h2, h3⟩
          rcases Nat.lt_or_gt_of_ne ek with h4 | h4
          · have : (k + 1) * sz ≤ i * sz := Nat.mul_le_mul_right _ h4
            rw [Nat.add_mul] at this
            omega
          · have : (i + 1) * sz ≤ k * sz := Nat.mul_le_mul_right _ h4
            rw [Nat.add_mul] at this
            omega
        rw [this, if_neg hne]
        exact hv k q hk' hq)
  refine ⟨.skip, w.setRow gb c', ?_, undef, .inr ⟨rfl, rfl⟩, .v undef, _, ρ, D, Z, hk, .v _, I.moved (I.h.set_step hr hcc (by omega)) H⟩
  simp [Instr.storeAt, Instr.sureAddr, storeVar, hsz, run_sz hn, hst, c']
end
end Pm
end Go.Proofs.YtdgoompjoeffcaaGreat
