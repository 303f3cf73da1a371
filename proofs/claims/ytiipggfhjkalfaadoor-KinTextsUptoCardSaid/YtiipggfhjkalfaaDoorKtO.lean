/- Books as texts: how the input reads. -/
import Derived.Test.YtiipggfhjkalfaaDoorKtN
import Derived.Test.YtiipggfhjkalfaaDoorPmV
import Derived.Test.YtiipggfhjkalfaaDoorRows
set_option linter.constructorNameAsVariable false
set_option linter.unusedSimpArgs false
set_option linter.unusedVariables false
set_option maxRecDepth 20000
open Go Go.Proofs
namespace Go.Proofs.YtiipggfhjkalfaaDoor
open Pm Kt
section
variable {H : Type} {enc : TypeId × Value → H} {P : Program} {W : World}
/-- A slice whose elements read, each with what is known of its reading. -/
theorem slice_readsP {α : Type} [Inhabited α] (toA : α → AV) (Q : α → DataW H → Prop) {t e : TypeId} {sz fuel : Nat} {cs : List Value} {d : DataW H} {ps : List MemPlace} (ht : P.underlying t = some (.slice e)) (hsz : P.cellsOf e = sz)
    (rd : ∀ (n : Nat) (cs : List Value) (d : DataW H) (ps : List MemPlace), cs.length = sz → DataW.trod enc P W 0 (fun _ => true) true n e cs = some (d, ps) →
      ∃ x : α, Q x d ∧ (toA x).cells.length = sz ∧ ∀ j, j < sz → RV W noρ noD (zOf W) ((toA x).cellAt j) (cs.getD j undef) ∧ (cs.getD j undef).oneCell' = true)
    (h : DataW.trod enc P W 0 (fun _ => true) true fuel t cs = some (d, ps)) :
    ∃ (l : List α) (v : Value) (D : Nat → DataW H), cs = [v] ∧ RV W noρ noD (zOf W) (.fsl sz (l.map toA)) v ∧ (∀ i, i < l.length → Q (l.getD i default) (D i)) ∧ (l = [] ∨ ∃ rest, d = .slice ((List.range l.length).map D) rest) := by
  rcases Deep.open_slice ht h with ⟨rfl, hx⟩ | ⟨a, len, cap, m, n, D, Pl, rfl, _, hl, hm, hm', hx, hel⟩
  · exact ⟨[], _, fun _ => .nil, rfl, LeA.nil sz W noρ noD (zOf W) _ (.v _), fun i hi => by simp at hi, .inl rfl⟩
  · cases hx
    rw [if_pos rfl] at hm'
    subst hm'
    have each : ∀ i, ∃ x : α, i < len → Q x (D i) ∧ (toA x).cells.length = sz ∧ ∃ cs' : List Value, (∀ j, j < sz → W.cell? (a.add (i * sz + j)) = some (cs'.getD j undef)) ∧ ∀ j, j < sz → RV W noρ noD (zOf W) ((toA x).cellAt j) (cs'.getD j undef) ∧ (cs'.getD j undef).oneCell' = true := fun i => by
      by_cases hi : i < len
      · obtain ⟨cs', h1, h2⟩ := hel i (by omega)
        rw [hsz] at h1
        obtain ⟨h3, h4⟩ := cells_get h1
        obtain ⟨x, hq, hx1, hx2⟩ := rd n cs' _ _ h3 h2
        exact ⟨x, fun _ => ⟨hq, hx1, cs', fun j hj => by rw [← Deep.add_add]; exact h4 j hj, hx2⟩⟩
      · exact ⟨default, fun h => absurd h hi⟩
    let X : Nat → α := fun i => (each i).choose
    have hX : ∀ i, i < len → _ := fun i hi => (each i).choose_spec hi
    let F : Nat → Nat → Value := fun i j => (W.cell? (a.add (i * sz + j))).getD undef
    have hF : ∀ i j, i < len → j < sz → W.cell? (a.add (i * sz + j)) = some (F i j) ∧ RV W noρ noD (zOf W) ((toA (X i)).cellAt j) (F i j) ∧ (F i j).oneCell' = true := fun i j hi hj => by
      obtain ⟨_, h1, cs', h2, h3⟩ := hX i hi
      have e : F i j = cs'.getD j undef := by simp only [F, h2 j hj, Option.getD_some]
      rw [e]
      exact ⟨h2 j hj, h3 j hj⟩
    have hg : ∀ i, i < len → (((List.range len).map X).map toA).getD i .junk = toA (X i) := fun i hi => by simp [List.getD_eq_getElem?_getD, hi]
    have hlen : (((List.range len).map X).map toA).length = len := by simp
    have hll : ((List.range len).map X).length = len := by simp
    refine ⟨(List.range len).map X, _, D, rfl, ?_, fun i hi => ?_, .inr ⟨_, by rw [hll]⟩⟩
    · have key : RV W noρ noD (zOf W) (.fsl sz (((List.range len).map X).map toA)) (.slice (some a) (((List.range len).map X).map toA).length m) := by
        refine .fsl F (by rw [hlen]; exact hl) hm (fun i hi => ?_) (fun i j hi hj => ?_) (fun i j hi hj => ?_) (fun i j hi hj => ?_) <;> rw [hlen] at hi
        · rw [hg i hi]; exact (hX i hi).2.1
        · have := hF i j hi hj
          refine ⟨a, rfl, ?_, this.1⟩
          have := cell_lt this.1
          rwa [addr_block] at this
        · exact (hF i j hi hj).2.2
        · rw [hg i hi]; exact (hF i j hi hj).2.1
      rw [hlen] at key
      exact key
    · have hi' : i < len := by simpa using hi
      rw [show ((List.range len).map X).getD i default = X i by simp [List.getD_eq_getElem?_getD, hi']]
      exact (hX i hi').1
end
/-! ### How much -/
theorem bulk_pos {H : Type} (d : DataW H) : 1 ≤ Rows.uptoBulk d := by
  cases d with
  | lit a => cases a <;> simp [Rows.uptoBulk]
  | _ => simp [Rows.uptoBulk]
theorem bulk_all {H : Type} : ∀ l : List (DataW H), l.length ≤ Rows.uptoBulkAll l
  | [] => by simp [Rows.uptoBulkAll]
  | d :: l => by
    have h1 := bulk_pos d
    have h2 := bulk_all l
    simp only [Rows.uptoBulkAll, List.length_cons]
    omega
theorem bulk_get {H : Type} : ∀ (l : List (DataW H)) (i : Nat) (d : DataW H), l[i]? = some d → Rows.uptoBulk d + (l.length - 1) ≤ Rows.uptoBulkAll l
  | [], i, d, h => by simp at h
  | x :: l, 0, d, h => by
    have h2 := bulk_all l
    simp only [List.getElem?_cons_zero, Option.some.injEq] at h
    subst h
    simp only [Rows.uptoBulkAll, List.length_cons]
    omega
  | x :: l, i + 1, d, h => by
    have h1 := bulk_pos x
    have h2 := bulk_get l i d (by simpa using h)
    simp only [Rows.uptoBulkAll, List.length_cons]
    have : i < l.length := (List.getElem?_eq_some_iff.1 (by simpa using h : l[i]? = some d)).1
    omega
theorem bulk_cnt {H : Type} : ∀ (l : List Kin) (D : Nat → DataW H), (∀ i, i < l.length → (l.getD i zeroK).all.length ≤ Rows.uptoBulk (D i)) → cntB l ≤ Rows.uptoBulkAll ((List.range l.length).map D)
  | [], _, _ => by simp [cntB]
  | k :: l, D, h => by
    have h0 := h 0 (by simp)
    have h1 := bulk_cnt l (fun i => D (i + 1)) fun i hi => by have := h (i + 1) (by simpa using hi); simpa using this
    rw [List.length_cons, List.range_succ_eq_map, List.map_cons, List.map_map]
    simp only [Rows.uptoBulkAll, cntB, List.map_cons, List.sum_cons] at h1 ⊢
    simp only [List.getD_cons_zero] at h0
    have e : (List.range l.length).map (D ∘ Nat.succ) = (List.range l.length).map fun i => D (i + 1) := rfl
    rw [e]
    omega
instance : Inhabited Kin := ⟨zeroK⟩
theorem i64_in {x : Int} (h : (Lit.int .i64 x).wf = true) : inI x := i64_wf h
section
variable {H : Type} {enc : TypeId × Value → H} {W : World}
theorem ints_rd {fuel : Nat} {cs : List Value} {d : DataW H} {ps : List MemPlace} (h : DataW.trod enc Tryd.prog W 0 (fun _ => true) true fuel 22 cs = some (d, ps)) :
    ∃ (l : List Int) (v : Value), cs = [v] ∧ RV W noρ noD (zOf W) (.fsl 1 (l.map iA)) v ∧ (∀ n ∈ l, inI n) ∧ l.length ≤ Rows.uptoBulk d := by
  obtain ⟨l, v, D, e, hrv, hq, hd⟩ := slice_readsP (α := Int) iA (fun x _ => inI x) (sz := 1) (ht := (Tryd.underlying22 : Tryd.prog.underlying 22 = some (.slice 3))) (hsz := by kernel_rfl) (rd := fun n cs d ps hlen hrd => by
    obtain ⟨x, hx, hw⟩ := int_reads un_3 hrd
    subst hx
    exact ⟨x, i64_in hw, rfl, fun j hj => by
      have : j = 0 := by omega
      subst this
      exact ⟨.v _, rfl⟩⟩) h
  refine ⟨l, v, e, hrv, fun n hn => ?_, ?_⟩
  · obtain ⟨i, hi, rfl⟩ := List.mem_iff_getElem.1 hn
    have := hq i hi
    rwa [List.getD_eq_getElem?_getD, List.getElem?_eq_getElem hi] at this
  · rcases hd with rfl | ⟨rest, rfl⟩
    · simp
    · have := bulk_all ((List.range l.length).map D)
      simp only [List.length_map, List.length_range] at this
      simp only [Rows.uptoBulk]
      omega
theorem kin_rd {fuel : Nat} {cs : List Value} {d : DataW H} {ps : List MemPlace} (h : DataW.trod enc Tryd.prog W 0 (fun _ => true) true fuel 58 cs = some (d, ps)) :
    ∃ k : Kin, (k.ok ∧ k.all.length ≤ Rows.uptoBulk d) ∧ (kinA k).cells.length = 9 ∧ ∀ j, j < 9 → RV W noρ noD (zOf W) ((kinA k).cellAt j) (cs.getD j undef) ∧ (cs.getD j undef).oneCell' = true := by
  obtain ⟨xs, n, _, hx, hl, hlen, hf⟩ := DataW.trod_struct Tryd.underlying58 h
  have hlen9 : xs.length = 9 := hlen
  have hc3 : Tryd.prog.cellsOf 3 = 1 := by kernel_rfl
  have hc2 : Tryd.prog.cellsOf 2 = 1 := by kernel_rfl
  have hc22 : Tryd.prog.cellsOf 22 = 1 := by kernel_rfl
  have hxs : ∀ i, i < 9 → ∃ r, xs[i]? = some r := fun i hi => ⟨xs[i]'(by omega), List.getElem?_eq_getElem (by omega)⟩
  have one : ∀ (i : Nat) (x : Value), (cs.drop i).take 1 = [x] → cs.getD i undef = x := fun i x e => by
    have := congrArg (fun l : List Value => l[0]?) e
    simp [List.getElem?_take, List.getElem?_drop] at this
    simp [List.getD_eq_getElem?_getD, this]
  
  obtain ⟨r0, hr0⟩ := hxs 0 (by omega)
  have f0 : DataW.trod enc Tryd.prog W 0 (fun _ => true) true n 3 ((cs.drop 0).take (Tryd.prog.cellsOf 3)) = xs[0]? := hf 0 _ rfl
  rw [hr0, hc3] at f0
  obtain ⟨y0, c0, w0⟩ := int_reads un_3 f0
  have e0 := one 0 _ c0
  obtain ⟨r1, hr1⟩ := hxs 1 (by omega)
  have f1 : DataW.trod enc Tryd.prog W 0 (fun _ => true) true n 3 ((cs.drop 1).take (Tryd.prog.cellsOf 3)) = xs[1]? := hf 1 _ rfl
  rw [hr1, hc3] at f1
  obtain ⟨y1, c1, w1⟩ := int_reads un_3 f1
  have e1 := one 1 _ c1
  obtain ⟨r2, hr2⟩ := hxs 2 (by omega)
  have f2 : DataW.trod enc Tryd.prog W 0 (fun _ => true) true n 3 ((cs.drop 2).take (Tryd.prog.cellsOf 3)) = xs[2]? := hf 2 _ rfl
  rw [hr2, hc3] at f2
  obtain ⟨y2, c2, w2⟩ := int_reads un_3 f2
  have e2 := one 2 _ c2
  obtain ⟨r3, hr3⟩ := hxs 3 (by omega)
  have f3 : DataW.trod enc Tryd.prog W 0 (fun _ => true) true n 2 ((cs.drop 3).take (Tryd.prog.cellsOf 2)) = xs[3]? := hf 3 _ rfl
  rw [hr3, hc2] at f3
  obtain ⟨y3, c3, w3⟩ := int_reads un_2 f3
  have e3 := one 3 _ c3
  obtain ⟨r4, hr4⟩ := hxs 4 (by omega)
  have f4 : DataW.trod enc Tryd.prog W 0 (fun _ => true) true n 2 ((cs.drop 4).take (Tryd.prog.cellsOf 2)) = xs[4]? := hf 4 _ rfl
  rw [hr4, hc2] at f4
  obtain ⟨y4, c4, w4⟩ := int_reads un_2 f4
  have e4 := one 4 _ c4
  obtain ⟨r6, hr6⟩ := hxs 6 (by omega)
  have f6 : DataW.trod enc Tryd.prog W 0 (fun _ => true) true n 2 ((cs.drop 6).take (Tryd.prog.cellsOf 2)) = xs[6]? := hf 6 _ rfl
  rw [hr6, hc2] at f6
  obtain ⟨y6, c6, w6⟩ := int_reads un_2 f6
  have e6 := one 6 _ c6
  obtain ⟨r7, hr7⟩ := hxs 7 (by omega)
  have f7 : DataW.trod enc Tryd.prog W 0 (fun _ => true) true n 2 ((cs.drop 7).take (Tryd.prog.cellsOf 2)) = xs[7]? := hf 7 _ rfl
  rw [hr7, hc2] at f7
  obtain ⟨y7, c7, w7⟩ := int_reads un_2 f7
  have e7 := one 7 _ c7
  obtain ⟨r8, hr8⟩ := hxs 8 (by omega)
  have f8 : DataW.trod enc Tryd.prog W 0 (fun _ => true) true n 3 ((cs.drop 8).take (Tryd.prog.cellsOf 3)) = xs[8]? := hf 8 _ rfl
  rw [hr8, hc3] at f8
  obtain ⟨y8, c8, w8⟩ := int_reads un_3 f8
  have e8 := one 8 _ c8
  obtain ⟨r5, hr5⟩ := hxs 5 (by omega)
  have f5 : DataW.trod enc Tryd.prog W 0 (fun _ => true) true n 22 ((cs.drop 5).take (Tryd.prog.cellsOf 22)) = xs[5]? := hf 5 _ rfl
  rw [hr5, hc22] at f5
  obtain ⟨d5, p5⟩ := r5
  obtain ⟨tl, v5, c5, hv5, ht5, hb5⟩ := ints_rd f5
  have e5 := one 5 _ c5
  have hb := bulk_get (xs.map (·.1)) 5 d5 (by rw [List.getElem?_map, hr5]; rfl)
  rw [List.length_map, hlen9] at hb
  have hd : d = .agg (xs.map (·.1)) := congrArg Prod.fst hx
  refine ⟨⟨y0, y1, y2, y3, y4, some tl, y6, y7, y8⟩, ⟨fun m hm => ?_, ?_⟩, rfl, fun j hj => ?_⟩
  · simp only [Kin.all, Kin.nums, Kin.tl, Option.getD_some, List.cons_append, List.nil_append, List.mem_cons] at hm
    rcases hm with rfl | rfl | rfl | rfl | rfl | rfl | rfl | rfl | hm
    · exact i64_in w0
    · exact i64_in w1
    · exact i64_in w2
    · exact i64_in w3
    · exact i64_in w4
    · exact i64_in w6
    · exact i64_in w7
    · exact i64_in w8
    · exact ht5 m hm
  · rw [hd]
    simp only [Kin.all, Kin.nums, Kin.tl, Option.getD_some, List.cons_append, List.nil_append, List.length_cons, Rows.uptoBulk]
    omega
  · match j, hj with
    | 0, _ => rw [e0]; exact ⟨.v _, rfl⟩
    | 1, _ => rw [e1]; exact ⟨.v _, rfl⟩
    | 2, _ => rw [e2]; exact ⟨.v _, rfl⟩
    | 3, _ => rw [e3]; exact ⟨.v _, rfl⟩
    | 4, _ => rw [e4]; exact ⟨.v _, rfl⟩
    | 5, _ =>
      rw [e5]
      refine ⟨hv5, ?_⟩
      obtain ⟨A, cap, F, e, _⟩ := hv5.fsl_inv
      rw [e]
      rfl
    | 6, _ => rw [e6]; exact ⟨.v _, rfl⟩
    | 7, _ => rw [e7]; exact ⟨.v _, rfl⟩
    | 8, _ => rw [e8]; exact ⟨.v _, rfl⟩
theorem book_rd {fuel : Nat} {cs : List Value} {d : DataW H} {ps : List MemPlace} (h : DataW.trod enc Tryd.prog W 0 (fun _ => true) true fuel 31 cs = some (d, ps)) :
    ∃ (b : List Kin) (v : Value), cs = [v] ∧ RV W noρ noD (zOf W) (bookA b) v ∧ (∀ k ∈ b, k.ok) ∧ cntB b ≤ Rows.uptoBulk d := by
  obtain ⟨l, v, D, e, hrv, hq, hd⟩ := slice_readsP (α := Kin) kinA (fun k d => k.ok ∧ k.all.length ≤ Rows.uptoBulk d) (sz := 9) (ht := (Tryd.underlying31 : Tryd.prog.underlying 31 = some (.slice 58))) (hsz := by kernel_rfl) (rd := fun n cs d ps hlen hrd => kin_rd hrd) h
  refine ⟨l, v, e, hrv, fun n hn => ?_, ?_⟩
  · obtain ⟨i, hi, rfl⟩ := List.mem_iff_getElem.1 hn
    have := (hq i hi).1
    rwa [List.getD_eq_getElem?_getD, List.getElem?_eq_getElem hi] at this
  · rcases hd with rfl | ⟨rest, rfl⟩
    · simp [cntB]
    · have := bulk_cnt l D fun i hi => (hq i hi).2
      simp only [Rows.uptoBulk]
      omega
end
end Go.Proofs.YtiipggfhjkalfaaDoor
