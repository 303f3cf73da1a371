import Derived.Test.YtdgoompjoeffcaaGreatPmC
import Derived.Laws.Slices
/- PM, part D: the operations over abstract values, and that the machine's own do the same. -/
namespace Go.Proofs.YtdgoompjoeffcaaGreat
namespace Pm

/-! ### What is asked of types -/
def szOf (P : Program) (t : TypeId) : Option Nat := (P.info? t).map (·.size)
def aggOf (P : Program) (t : TypeId) : Option Bool := (P.underlying t).map fun | .struct _ => true | .array _ _ => true | _ => false
def zeroOf (P : Program) (t : TypeId) : Option (List Value) := ((P.info? t).bind (·.zero)).map fun z => z.cells.toList
def slOf (P : Program) (t : TypeId) : Option TypeId := match P.underlying t with | some (.slice e) => some e | _ => none
def arrOf (P : Program) (t : TypeId) : Option (Nat × TypeId) := match P.underlying t with | some (.array n e) => some (n, e) | _ => none
/-- A field's place, its type and its size (not 0). -/
def fldOf (P : Program) (t : TypeId) (k : Nat) : Option (Nat × TypeId × Nat) := match P.underlying t with
  | some (.struct fs) => match fs[k]? with
    | some f => match szOf P f.type with
      | some n => if n = 0 then none else some (f.offset, f.type, n)
      | none => none
    | none => none
  | _ => none

section
variable {P : Program} {w : World}
theorem run_sz {t : TypeId} {n : Nat} (h : szOf P t = some n) : (sizeOf t).run P w = .ok n w := by
  unfold szOf at h
  cases hi : P.info? t with
  | none => simp [hi] at h
  | some i => simp [hi] at h; simp [sizeOf, typeInfo, hi, h]
theorem run_agg {t : TypeId} {b : Bool} (h : aggOf P t = some b) : (isAgg t).run P w = .ok b w := by
  unfold aggOf at h
  cases hi : P.underlying t with
  | none => simp [hi] at h
  | some d =>
    simp only [hi, Option.map_some, Option.some.injEq] at h
    unfold isAgg
    rw [Sem.run_bind, run_underlying hi w]
    subst h
    cases d <;> rfl
theorem run_zero {t : TypeId} {z : List Value} (h : zeroOf P t = some z) : ∃ v, (zeroValue t).run P w = .ok v w ∧ v.cells.toList = z := by
  unfold zeroOf at h
  cases hi : P.info? t with
  | none => simp [hi] at h
  | some i =>
    cases hz : i.zero with
    | none => simp [hi, hz] at h
    | some v => exact ⟨v, by simp [zeroValue, typeInfo, hi, hz], by simpa [hi, hz] using h⟩
theorem und_sl {t e : TypeId} (h : slOf P t = some e) : P.underlying t = some (.slice e) := by
  unfold slOf at h
  split at h <;> simp_all
theorem und_arr {t e : TypeId} {n : Nat} (h : arrOf P t = some (n, e)) : P.underlying t = some (.array n e) := by
  unfold arrOf at h
  split at h <;> simp_all
end

/-- A value of the text. -/
def AV.ofV : Value → AV
  | .agg c => .agg (c.toList.map .v)
  | x => .v x
theorem RV.ofV {w : World} {ρ : Nat → Option Nat} {D Z : Nat → Prop} (x : Value) : RV w ρ D Z (AV.ofV x) x := by
  unfold AV.ofV
  split
  · rename_i c
    refine .agg (by simp) fun i hi => ?_
    have hi' : i < c.size := by simpa using hi
    rw [List.getD_eq_getElem?_getD, List.getElem?_map]
    simp [hi', Array.getD]
    exact .v _
  · exact .v x
def AV.fit : AV → Bool
  | .agg _ => true
  | a => a.one
def AV.ones (a : AV) : Bool := a.cells.all AV.one

section
variable {w : World} {ρ : Nat → Option Nat} {D Z : Nat → Prop}
/-- A value's cells. -/
theorem RV.cells {a : AV} {x : Value} (hf : a.fit = true) (h : RV w ρ D Z a x) : a.cells.length = x.cells.size ∧ ∀ j, j < a.cells.length → RV w ρ D Z (a.cells.getD j .junk) (x.cells.getD j undef) := by
  by_cases hg : ∃ cs, a = .agg cs
  · obtain ⟨cs, rfl⟩ := hg
    obtain ⟨c, rfl, hl, hc⟩ := h.agg_inv
    exact ⟨hl, hc⟩
  · have h1 : a.one = true := by
      cases a <;> first | exact hf | exact absurd ⟨_, rfl⟩ hg
    have h2 := h.one h1
    have hac : a.cells = [a] := by
      cases a <;> first | rfl | exact absurd ⟨_, rfl⟩ hg
    have hxc : x.cells = #[x] := by
      cases x <;> first | rfl | simp [Value.oneCell'] at h2
    rw [hac, hxc]
    refine ⟨rfl, fun j hj => ?_⟩
    have : j = 0 := by simpa using hj
    subst this
    exact h
theorem RV.one_cells {a : AV} {x : Value} (hf : a.fit = true) (ho : a.ones = true) (h : RV w ρ D Z a x) (j : Nat) (hj : j < x.cells.size) : (x.cells.getD j undef).oneCell' = true := by
  obtain ⟨hl, hc⟩ := h.cells hf
  refine (hc j (by omega)).one ?_
  unfold AV.ones at ho
  rw [List.all_eq_true] at ho
  refine ho _ ?_
  rw [List.getD_eq_getElem?_getD, List.getElem?_eq_getElem (by omega)]
  exact List.getElem_mem _
end

theorem Addr.add_add (a : Addr) (m n : Nat) : (a.add m).add n = a.add (m + n) := by
  unfold Addr.add
  split
  · split
    · simp_all
    · simp_all
  · split
    · simp_all
    · rename_i h1 h2
      rw [if_neg (by omega)]
      simp [Nat.add_assoc]
theorem Addr.add_plain (g o n : Nat) : (⟨g, o, none⟩ : Addr).add n = ⟨g, o + n, none⟩ := by
  unfold Addr.add
  split <;> simp_all

/-- What is read of an element's cells. -/
def ldA (g : Bool) (n j : Nat) (cs : List AV) : AV := if g then .agg ((cs.drop j).take n) else cs.getD j .junk

section
variable {P : Program} {w : World} {ρ : Nat → Option Nat} {D Z : Nat → Prop}
theorem run_load {t : TypeId} {g : Bool} {n : Nat} (hg : aggOf P t = some g) (hn : szOf P t = some n) (h1 : g = false → n = 1) (a : Addr) (F : Nat → Value) (hc : ∀ k, k < n → w.cell? (a.add k) = some (F k)) :
    (loadVar t a).run P w = .ok (if g then .agg ((List.range n).map F).toArray else F 0) w := by
  unfold loadVar
  rw [Sem.run_bind, run_agg hg]
  cases g with
  | true => simp [run_sz hn, run_loadCells w a n F hc]
  | false =>
    have h0 := hc 0 (by rw [h1 rfl]; omega)
    have : a.add 0 = a := by simp [Addr.add]
    rw [this] at h0
    simp [load, Sem.run, h0]
theorem RV.ld {g : Bool} {n j : Nat} {cs : List AV} {F : Nat → Value} (h1 : g = false → n = 1) (hn : j + n ≤ cs.length) (h : ∀ k, k < n → RV w ρ D Z (cs.getD (j + k) .junk) (F k)) :
    RV w ρ D Z (ldA g n j cs) (if g then .agg ((List.range n).map F).toArray else F 0) := by
  unfold ldA
  cases g with
  | true =>
    simp only [if_true]
    refine .agg (by simp; omega) fun i hi => ?_
    have hi' : i < n := by simp at hi; omega
    have e1 : ((cs.drop j).take n).getD i .junk = cs.getD (j + i) .junk := by
      simp [List.getD_eq_getElem?_getD, hi']
    have e2 : ((List.range n).map F).toArray.getD i undef = F i := by
      simp [Array.getD, hi']
    rw [e1, e2]
    exact h i hi'
  | false =>
    have := h 0 (by rw [h1 rfl]; omega)
    simpa using this
end

/-- What an operation comes to. -/
def Out (P : Program) (B : Base) (st : St) (a : Act) (w : World) (K : AV → List (Option Blk) → Prop) (s : Sem Next) : Prop :=
  ∃ nx w', s.run P w = .ok nx w' ∧ ∃ v, (nx = .value v ∨ (nx = .skip ∧ v = undef)) ∧ ∃ av h' ρ' D' Z', K av h' ∧ RV w' ρ' D' Z' av v ∧ Inv B ρ' D' Z' { st with h := h' } a w'

section
variable {P : Program} {B : Base} {w : World} {ρ : Nat → Option Nat} {D Z : Nat → Prop} {st : St} {a : Act} {K : AV → List (Option Blk) → Prop}
theorem Out.same (I : Inv B ρ D Z st a w) {s : Sem Next} {v : Value} {av : AV} (hs : s.run P w = .ok (.value v) w) (hv : RV w ρ D Z av v) (hk : K av st.h) : Out P B st a w K s :=
  ⟨_, w, hs, v, .inl rfl, av, st.h, ρ, D, Z, hk, hv, I⟩

/-- A cell of a live row. -/
theorem HR.row {h : List (Option Blk)} (H : HR B w ρ D Z h) {id : Nat} {e : TypeId} {sz : Nat} {es : List AV} (hb : h[id]? = some (some (.row e sz es))) : ∃ g c fr, ρ id = some g ∧ w.heap[g]? = some (.cells c e fr) ∧ okFr fr c.size ∧ es.length * sz ≤ c.size ∧
    (∀ i, i < es.length → (es.getD i .junk).cells.length = sz) ∧
    (∀ i j, i < es.length → j < sz → RV w ρ D Z ((es.getD i .junk).cellAt j) (c.getD (i * sz + j) undef) ∧ (c.getD (i * sz + j) undef).oneCell' = true) := by
  obtain ⟨g, hg, c, fr, hc, hf, h1, h2, h3⟩ := H.live id _ hb
  exact ⟨g, c, fr, hg, hc, hf, h1, h2, h3⟩
theorem RV.ptr_live {h : List (Option Blk)} (H : HR B w ρ D Z h) {id sz i j g : Nat} {b : Blk} {x : Value} (hb : h[id]? = some (some b)) (hg : ρ id = some g) (hx : RV w ρ D Z (.ptr id sz i j) x) : x = .pointer (some ⟨g, i * sz + j, none⟩) := by
  rcases hx.ptr_inv with hd | ⟨g', hg', rfl⟩
  · exact absurd hd (H.not_dead hb)
  · rw [hg] at hg'; cases hg'; rfl
theorem RV.sl_live {h : List (Option Blk)} (H : HR B w ρ D Z h) {id sz off len g : Nat} {b : Blk} {x : Value} (hb : h[id]? = some (some b)) (hg : ρ id = some g) (hx : RV w ρ D Z (.sl id sz off len) x) :
    ∃ cap, x = .slice (some ⟨g, off * sz, none⟩) len cap ∧ (∃ c e fr, w.heap[g]? = some (.cells c e fr) ∧ (off + cap) * sz ≤ c.size) ∧ len ≤ cap ∧ cap ≤ maxLen := by
  rcases hx.sl_inv with hd | ⟨g', cap, hg', e, h1, h2, h3⟩
  · exact absurd hd (H.not_dead hb)
  · rw [hg] at hg'; cases hg'; exact ⟨cap, e, h1, h2, h3⟩
theorem cell_row {g k : Nat} {c : Array Value} {e : TypeId} {fr : Nat × Nat} (hc : w.heap[g]? = some (.cells c e fr)) (hk : k < c.size) : w.cell? ⟨g, k, none⟩ = some (c.getD k undef) := by
  simp [World.cell?, hc, hk, Array.getD]
theorem mul_lt {i n sz j : Nat} (hi : i < n) (hj : j < sz) : i * sz + j < n * sz := by
  have : (i + 1) * sz ≤ n * sz := Nat.mul_le_mul_right _ hi
  rw [Nat.add_mul] at this
  omega

/-! ### Loads -/
theorem out_load_ptr (I : Inv B ρ D Z st a w) {t : TypeId} {x : Operand} {id sz i j n : Nat} {g : Bool} {e : TypeId} {es : List AV} (hx : st.get x = .ptr id sz i j) (hb : st.h[id]? = some (some (.row e sz es)))
    (hg : aggOf P t = some g) (hn : szOf P t = some n) (h1 : g = false → n = 1) (hi : i < es.length) (hj : j + n ≤ sz) (hk : K (ldA g n j (es.getD i .junk).cells) st.h) :
    Out P B st a w K (do pure (.value (← Instr.loadAt t (a.eval x)))) := by
  obtain ⟨gb, c, fr, hr, hc, _, hl, hs, hv⟩ := I.h.row hb
  have hxv := I.get x
  rw [hx] at hxv
  rw [hxv.ptr_live I.h hb hr]
  have hcell : ∀ k, k < n → w.cell? ((⟨gb, i * sz + j, none⟩ : Addr).add k) = some (c.getD (i * sz + (j + k)) undef) := fun k hk => by
    rw [Addr.add_plain, Nat.add_assoc]
    have := mul_lt hi (show j + k < sz by omega)
    exact cell_row hc (by omega)
  refine Out.same I (v := if g then .agg ((List.range n).map fun k => c.getD (i * sz + (j + k)) undef).toArray else c.getD (i * sz + (j + 0)) undef) ?_ ?_ hk
  · simp only [Sem.run_bind, Instr.loadAt, Instr.sureAddr, Sem.run_pure, Result.andThen_ok]
    rw [run_load hg hn h1 _ _ hcell]
    rfl
  · exact RV.ld h1 (by rw [hs i hi]; exact hj) fun k hk => (hv i (j + k) hi (by omega)).1
theorem out_load_fptr (I : Inv B ρ D Z st a w) {t : TypeId} {x : Operand} {n : Nat} {g : Bool} {cs : List AV} (hx : st.get x = .fptr cs)
    (hg : aggOf P t = some g) (hn : szOf P t = some n) (h1 : g = false → n = 1) (hj : n ≤ cs.length) (hk : K (ldA g n 0 cs) st.h) :
    Out P B st a w K (do pure (.value (← Instr.loadAt t (a.eval x)))) := by
  have hxv := I.get x
  rw [hx] at hxv
  obtain ⟨ad, F, e, hz, hA, hR⟩ := hxv.fptr_inv
  rw [e]
  refine Out.same I (v := if g then .agg ((List.range n).map F).toArray else F 0) ?_ ?_ hk
  · simp only [Sem.run_bind, Instr.loadAt, Instr.sureAddr, Sem.run_pure, Result.andThen_ok]
    rw [run_load hg hn h1 _ F (fun k hk => hA k (by omega))]
    rfl
  · exact RV.ld h1 (by omega) fun k hk => by rw [Nat.zero_add]; exact hR k (by omega)

/-! ### Addresses -/
theorem out_field_ptr (I : Inv B ρ D Z st a w) {t : TypeId} {x : Operand} {k id sz i j off n : Nat} {ft : TypeId} {b : Blk} (hx : st.get x = .ptr id sz i j) (hb : st.h[id]? = some (some b)) (hf : fldOf P t k = some (off, ft, n))
    (hk : K (.ptr id sz i (j + off)) st.h) : Out P B st a w K (do pure (.value (← Instr.fieldAt t (a.eval x) k))) := by
  obtain ⟨gb, hr, _⟩ := I.h.live id _ hb
  have hxv := I.get x
  rw [hx] at hxv
  rw [hxv.ptr_live I.h hb hr]
  unfold fldOf at hf
  split at hf
  · rename_i fs hu
    split at hf
    · rename_i f hfk
      split at hf
      · rename_i m hm
        split at hf
        · cases hf
        · rename_i hm0
          simp only [Option.some.injEq, Prod.mk.injEq] at hf
          obtain ⟨rfl, rfl, rfl⟩ := hf
          refine Out.same I (v := .pointer (some ⟨gb, i * sz + (j + f.offset), none⟩)) ?_ (.ptr hr) hk
          simp [Instr.fieldAt, run_underlying hu, hfk, Instr.sureAddr, fieldPlace, run_sz hm, hm0, Addr.add_plain, Nat.add_assoc]
      · cases hf
    · cases hf
  · cases hf
theorem out_field_fptr (I : Inv B ρ D Z st a w) {t : TypeId} {x : Operand} {k off n : Nat} {ft : TypeId} {cs : List AV} (hx : st.get x = .fptr cs) (hf : fldOf P t k = some (off, ft, n))
    (hk : K (.fptr (cs.drop off)) st.h) : Out P B st a w K (do pure (.value (← Instr.fieldAt t (a.eval x) k))) := by
  have hxv := I.get x
  rw [hx] at hxv
  obtain ⟨ad, F, e, hz, hA, hR⟩ := hxv.fptr_inv
  rw [e]
  unfold fldOf at hf
  split at hf
  · rename_i fs hu
    split at hf
    · rename_i f hfk
      split at hf
      · rename_i m hm
        split at hf
        · cases hf
        · rename_i hm0
          simp only [Option.some.injEq, Prod.mk.injEq] at hf
          obtain ⟨rfl, rfl, rfl⟩ := hf
          refine Out.same I (v := .pointer (some (ad.add f.offset))) ?_ (.fptr (fun j => F (f.offset + j)) ?_ (fun j hj => ?_) (fun j hj => ?_)) hk
          · simp [Instr.fieldAt, run_underlying hu, hfk, Instr.sureAddr, fieldPlace, run_sz hm, hm0]
          · have : (ad.add f.offset).block = ad.block := by unfold Addr.add; split <;> rfl
            rw [this]; exact hz
          · rw [Addr.add_add]; exact hA _ (by simp at hj; omega)
          · have : (cs.drop f.offset).getD j .junk = cs.getD (f.offset + j) .junk := by simp [List.getD_eq_getElem?_getD]
            rw [this]; exact hR _ (by simp at hj; omega)
      · cases hf
    · cases hf
  · cases hf
theorem out_index_sl (I : Inv B ρ D Z st a w) {t e : TypeId} {x y : Operand} {id sz off len : Nat} {k : IntKind} {n : Int} {b : Blk} (hx : st.get x = .sl id sz off len) (hy : st.get y = .v (.int k n)) (hb : st.h[id]? = some (some b))
    (ht : slOf P t = some e) (hs : szOf P e = some sz) (h0 : 0 ≤ n) (h1 : n < len) (hk : K (.ptr id sz (off + n.toNat) 0) st.h) : Out P B st a w K (do pure (.value (← Instr.indexAt t (a.eval x) (a.eval y)))) := by
  obtain ⟨gb, hr, _⟩ := I.h.live id _ hb
  have hxv := I.get x
  rw [hx] at hxv
  obtain ⟨cap, e1, _⟩ := hxv.sl_live I.h hb hr
  have hyv := I.get y
  rw [hy] at hyv
  rw [e1, hyv.v_inv]
  refine Out.same I (v := .pointer (some ⟨gb, (off + n.toNat) * sz + 0, none⟩)) ?_ (.ptr hr) hk
  simp [Instr.indexAt, asIntOf, run_underlying (und_sl ht), h0, h1, run_sz hs, Addr.add_plain, Nat.add_mul]
theorem out_index_fsl (I : Inv B ρ D Z st a w) {t e : TypeId} {x y : Operand} {sz : Nat} {es : List AV} {k : IntKind} {n : Int} (hx : st.get x = .fsl sz es) (hy : st.get y = .v (.int k n))
    (ht : slOf P t = some e) (hs : szOf P e = some sz) (hz0 : 0 < sz) (h0 : 0 ≤ n) (h1 : n < es.length) (hk : K (.fptr (es.getD n.toNat .junk).cells) st.h) : Out P B st a w K (do pure (.value (← Instr.indexAt t (a.eval x) (a.eval y)))) := by
  have hxv := I.get x
  rw [hx] at hxv
  obtain ⟨A, cap, F, e1, hl, hm, hsz, hA, ho, hR⟩ := hxv.fsl_inv
  have hyv := I.get y
  rw [hy] at hyv
  rw [e1, hyv.v_inv]
  have hn : n.toNat < es.length := by omega
  obtain ⟨ad, rfl, hz, _⟩ := hA n.toNat 0 hn hz0
  refine Out.same I (v := .pointer (some (ad.add (n.toNat * sz)))) ?_ (.fptr (fun j => F n.toNat j) ?_ (fun j hj => ?_) (fun j hj => ?_)) hk
  · simp [Instr.indexAt, asIntOf, run_underlying (und_sl ht), h0, h1, run_sz hs]
  · have : (ad.add (n.toNat * sz)).block = ad.block := by unfold Addr.add; split <;> rfl
    rw [this]; exact hz
  · rw [Addr.add_add]
    obtain ⟨ad', e', _, hc⟩ := hA n.toNat j hn (by rw [hsz _ hn] at hj; exact hj)
    cases e'
    exact hc
  · exact hR n.toNat j hn (by rw [hsz _ hn] at hj; exact hj)
theorem out_index_ptr (I : Inv B ρ D Z st a w) {t e : TypeId} {x y : Operand} {id sz i j m len : Nat} {k : IntKind} {n : Int} {b : Blk} (hx : st.get x = .ptr id sz i j) (hy : st.get y = .v (.int k n)) (hb : st.h[id]? = some (some b))
    (ht : arrOf P t = some (len, e)) (hs : szOf P e = some m) (h0 : 0 ≤ n) (h1 : n < len) (hk : K (.ptr id sz i (j + n.toNat * m)) st.h) : Out P B st a w K (do pure (.value (← Instr.indexAt t (a.eval x) (a.eval y)))) := by
  obtain ⟨gb, hr, _⟩ := I.h.live id _ hb
  have hxv := I.get x
  rw [hx] at hxv
  have hyv := I.get y
  rw [hy] at hyv
  rw [hxv.ptr_live I.h hb hr, hyv.v_inv]
  refine Out.same I (v := .pointer (some ⟨gb, i * sz + (j + n.toNat * m), none⟩)) ?_ (.ptr hr) hk
  simp [Instr.indexAt, asIntOf, run_underlying (und_arr ht), h0, h1, run_sz hs, Addr.add_plain, Instr.sureAddr, Nat.add_assoc]
theorem out_index_fptr (I : Inv B ρ D Z st a w) {t e : TypeId} {x y : Operand} {m len : Nat} {cs : List AV} {k : IntKind} {n : Int} (hx : st.get x = .fptr cs) (hy : st.get y = .v (.int k n))
    (ht : arrOf P t = some (len, e)) (hs : szOf P e = some m) (h0 : 0 ≤ n) (h1 : n < len) (hk : K (.fptr (cs.drop (n.toNat * m))) st.h) : Out P B st a w K (do pure (.value (← Instr.indexAt t (a.eval x) (a.eval y)))) := by
  have hxv := I.get x
  rw [hx] at hxv
  obtain ⟨ad, F, e1, hz, hA, hR⟩ := hxv.fptr_inv
  have hyv := I.get y
  rw [hy] at hyv
  rw [e1, hyv.v_inv]
  refine Out.same I (v := .pointer (some (ad.add (n.toNat * m)))) ?_ (.fptr (fun j => F (n.toNat * m + j)) ?_ (fun j hj => ?_) (fun j hj => ?_)) hk
  · simp [Instr.indexAt, asIntOf, run_underlying (und_arr ht), h0, h1, run_sz hs, Instr.sureAddr]
  · have : (ad.add (n.toNat * m)).block = ad.block := by unfold Addr.add; split <;> rfl
    rw [this]; exact hz
  · rw [Addr.add_add]; exact hA _ (by simp at hj; omega)
  · have : (cs.drop (n.toNat * m)).getD j .junk = cs.getD (n.toNat * m + j) .junk := by simp [List.getD_eq_getElem?_getD]
    rw [this]; exact hR _ (by simp at hj; omega)
end
end Pm
end Go.Proofs.YtdgoompjoeffcaaGreat
