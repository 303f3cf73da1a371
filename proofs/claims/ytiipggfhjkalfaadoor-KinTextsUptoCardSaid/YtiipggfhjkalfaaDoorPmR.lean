/- PM, part R: a law's row: what it is given, read as abstract values. -/
import Derived.Test.YtiipggfhjkalfaaDoorPmQ
import Derived.Deep.Slices
namespace Go.Proofs.YtiipggfhjkalfaaDoor
namespace Pm
section
variable {H : Type} {enc : TypeId × Value → H} {P : Program} {W : World}
/-- The blocks that are there. -/
abbrev zOf (W : World) : Nat → Prop := fun k => k < W.heap.size
theorem cells_get {a : Addr} {n : Nat} {cs : List Value} (h : W.cells? 0 a n = some cs) : cs.length = n ∧ ∀ j, j < n → W.cell? (a.add j) = some (cs.getD j undef) := by
  unfold World.cells? at h
  rw [if_pos (Nat.zero_le _)] at h
  have key : ∀ (l : List Nat) (cs : List Value), l.mapM (fun i => W.cell? (a.add i)) = some cs → cs.length = l.length ∧ ∀ j, j < l.length → W.cell? (a.add (l.getD j 0)) = some (cs.getD j undef) := by
    intro l
    induction l with
    | nil => intro cs h; simp at h; subst h; exact ⟨rfl, fun j hj => by simp at hj⟩
    | cons x l ih =>
      intro cs h
      rw [List.mapM_cons] at h
      simp only [Option.bind_eq_bind, Option.bind_eq_some_iff, Option.pure_def, Option.some.injEq] at h
      obtain ⟨y, hy, ys, hys, rfl⟩ := h
      obtain ⟨h1, h2⟩ := ih ys hys
      refine ⟨by simp [h1], fun j hj => ?_⟩
      cases j with
      | zero => exact hy
      | succ j => simpa using h2 j (by simpa using hj)
  obtain ⟨h1, h2⟩ := key _ _ h
  rw [List.length_range] at h1 h2
  refine ⟨h1, fun j hj => ?_⟩
  have := h2 j hj
  simpa [List.getD_eq_getElem?_getD, hj] using this
theorem cell_lt {a : Addr} {v : Value} (h : W.cell? a = some v) : a.block < W.heap.size := by
  unfold World.cell? at h
  split at h
  · rename_i c t fr hc; exact (Array.getElem?_eq_some_iff.1 hc).1
  · cases h
theorem addr_block (a : Addr) (n : Nat) : (a.add n).block = a.block := by
  unfold Addr.add
  split <;> rfl
def dlen : DataW H → Nat
  | .slice xs _ => xs.length
  | _ => 0
theorem slice_reads {α : Type} [Inhabited α] (toA : α → AV) {t e : TypeId} {sz fuel : Nat} {cs : List Value} {d : DataW H} {ps : List MemPlace} (ht : P.underlying t = some (.slice e)) (hsz : P.cellsOf e = sz)
    (rd : ∀ (n : Nat) (cs : List Value) (d : DataW H) (ps : List MemPlace), cs.length = sz → DataW.trod enc P W 0 (fun _ => true) true n e cs = some (d, ps) →
      ∃ x : α, (toA x).cells.length = sz ∧ ∀ j, j < sz → RV W noρ noD (zOf W) ((toA x).cellAt j) (cs.getD j undef) ∧ (cs.getD j undef).oneCell' = true)
    (h : DataW.trod enc P W 0 (fun _ => true) true fuel t cs = some (d, ps)) : ∃ (l : List α) (v : Value), cs = [v] ∧ RV W noρ noD (zOf W) (.fsl sz (l.map toA)) v ∧ l.length = dlen d := by
  rcases Deep.open_slice ht h with ⟨rfl, hx⟩ | ⟨a, len, cap, m, n, D, Pl, rfl, _, hl, hm, hm', hx, hel⟩
  · cases hx
    refine ⟨[], _, rfl, ?_, rfl⟩
    exact Le.nil sz W (zOf W) _ (.v _)
  · cases hx
    rw [if_pos rfl] at hm'
    subst hm'
    have each : ∀ i, ∃ x : α, i < len → (toA x).cells.length = sz ∧ ∃ cs' : List Value, (∀ j, j < sz → W.cell? (a.add (i * sz + j)) = some (cs'.getD j undef)) ∧ ∀ j, j < sz → RV W noρ noD (zOf W) ((toA x).cellAt j) (cs'.getD j undef) ∧ (cs'.getD j undef).oneCell' = true := fun i => by
      by_cases hi : i < len
      · obtain ⟨cs', h1, h2⟩ := hel i (by omega)
        rw [hsz] at h1
        obtain ⟨h3, h4⟩ := cells_get h1
        obtain ⟨x, hx1, hx2⟩ := rd n cs' _ _ h3 h2
        exact ⟨x, fun _ => ⟨hx1, cs', fun j hj => by rw [← Deep.add_add]; exact h4 j hj, hx2⟩⟩
      · exact ⟨default, fun h => absurd h hi⟩
    let X : Nat → α := fun i => (each i).choose
    have hX : ∀ i, i < len → _ := fun i hi => (each i).choose_spec hi
    let F : Nat → Nat → Value := fun i j => (W.cell? (a.add (i * sz + j))).getD undef
    have hF : ∀ i j, i < len → j < sz → W.cell? (a.add (i * sz + j)) = some (F i j) ∧ RV W noρ noD (zOf W) ((toA (X i)).cellAt j) (F i j) ∧ (F i j).oneCell' = true := fun i j hi hj => by
      obtain ⟨h1, cs', h2, h3⟩ := hX i hi
      have e : F i j = cs'.getD j undef := by simp only [F, h2 j hj, Option.getD_some]
      rw [e]
      exact ⟨h2 j hj, h3 j hj⟩
    have hg : ∀ i, i < len → (((List.range len).map X).map toA).getD i .junk = toA (X i) := fun i hi => by simp [List.getD_eq_getElem?_getD, hi]
    have hlen : (((List.range len).map X).map toA).length = len := by simp
    refine ⟨(List.range len).map X, _, rfl, ?_, by simp [dlen]⟩
    have key : RV W noρ noD (zOf W) (.fsl sz (((List.range len).map X).map toA)) (.slice (some a) (((List.range len).map X).map toA).length m) := by
      refine .fsl F (by rw [hlen]; exact hl) hm (fun i hi => ?_) (fun i j hi hj => ?_) (fun i j hi hj => ?_) (fun i j hi hj => ?_) <;> rw [hlen] at hi
      · rw [hg i hi]; exact (hX i hi).1
      · have := hF i j hi hj
        refine ⟨a, rfl, ?_, this.1⟩
        have := cell_lt this.1
        rwa [addr_block] at this
      · exact (hF i j hi hj).2.2
      · rw [hg i hi]; exact (hF i j hi hj).2.1
    rw [hlen] at key
    exact key
theorem int_reads {t : TypeId} {k : IntKind} {fuel : Nat} {cs : List Value} {r : DataW H × List MemPlace} (ht : P.underlying t = some (.int k)) (h : DataW.trod enc P W 0 (fun _ => true) true fuel t cs = some r) : ∃ x, cs = [.int k x] ∧ (Lit.int k x).wf = true := by
  cases fuel with
  | zero => simp [DataW.trod] at h
  | succ n =>
    unfold DataW.trod at h
    rw [ht] at h
    split at h <;> first
      | (rename_i k' k'' x h1
         cases h1
         split at h
         · rename_i hh; obtain ⟨rfl, hw⟩ := hh; exact ⟨_, rfl, hw⟩
         · cases h)
      | (exfalso; simp_all; done)
end
end Pm
end Go.Proofs.YtiipggfhjkalfaaDoor
