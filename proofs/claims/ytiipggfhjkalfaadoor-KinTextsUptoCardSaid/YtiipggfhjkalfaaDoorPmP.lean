/- PM, part P: a value told in another way. -/
import Derived.Test.YtiipggfhjkalfaaDoorPmO
namespace Go.Proofs.YtiipggfhjkalfaaDoor
namespace Pm
/-- What is an a is a b. -/
def Le (a b : AV) : Prop := ∀ (w : World) (Z : Nat → Prop) (x : Value), RV w noρ noD Z a x → RV w noρ noD Z b x
theorem Le.refl (a : AV) : Le a a := fun _ _ _ h => h
theorem Le.trans {a b c : AV} (h : Le a b) (k : Le b c) : Le a c := fun w Z x r => k w Z x (h w Z x r)
/-- No slice is an empty one. -/
theorem Le.nil (sz : Nat) : Le (.v (.slice none 0 0)) (.fsl sz []) := fun w Z x h => by
  rw [h.v_inv]
  exact .fsl (es := []) (cap := 0) (A := none) (fun _ _ => undef) (Nat.le_refl _) (by simp) (fun i hi => by simp at hi) (fun i j hi => by simp at hi) (fun i j hi => by simp at hi) (fun i j hi => by simp at hi)
inductive LeL : List AV → List AV → Prop where
  | nil : LeL [] []
  | cons {a b : AV} {l m : List AV} (h : Le a b) (t : LeL l m) : LeL (a :: l) (b :: m)
theorem LeL.length {l m : List AV} (h : LeL l m) : l.length = m.length := by
  induction h with
  | nil => rfl
  | cons _ _ ih => simp [ih]
theorem LeL.getD {l m : List AV} (h : LeL l m) (i : Nat) : Le (l.getD i .junk) (m.getD i .junk) := by
  induction h generalizing i with
  | nil => exact Le.refl _
  | cons h _ ih =>
    cases i with
    | zero => exact h
    | succ i => simpa using ih i
theorem LeL.refl : ∀ l : List AV, LeL l l
  | [] => .nil
  | a :: l => .cons (Le.refl a) (LeL.refl l)
theorem Le.agg {l m : List AV} (h : LeL l m) : Le (.agg l) (.agg m) := fun w Z x r => by
  obtain ⟨c, rfl, h1, h2⟩ := r.agg_inv
  exact .agg (by rw [← h.length]; exact h1) fun i hi => h.getD i w Z _ (h2 i (by rw [h.length]; exact hi))
theorem Le.tup {l m : List AV} (h : LeL l m) : Le (.tup l) (.tup m) := fun w Z x r => by
  obtain ⟨c, rfl, h1, h2⟩ := r.tup_inv
  exact .tup (by rw [← h.length]; exact h1) fun i hi => h.getD i w Z _ (h2 i (by rw [h.length]; exact hi))
theorem PCon.le {P : Program} {f : FuncId} {args : List AV} {r r' : AV} (c : PCon P f args fun x => x = r) (h : Le r r') : PCon P f args fun x => x = r' :=
  fun w Z cargs hl ha hz hgl => (c w Z cargs hl ha hz hgl).mono fun _ _ ⟨_, v, Z', e1, q, e2, e3⟩ => ⟨r', v, Z', e1, rfl, h _ _ _ (q ▸ e2), e3⟩
theorem PCon.upto {P : Program} {f : FuncId} {args : List AV} {r' : AV} (c : PCon P f args fun x => Le x r') : PCon P f args fun x => x = r' :=
  fun w Z cargs hl ha hz hgl => (c w Z cargs hl ha hz hgl).mono fun _ _ ⟨_, v, Z', e1, q, e2, e3⟩ => ⟨r', v, Z', e1, rfl, q _ _ _ e2, e3⟩
end Pm
end Go.Proofs.YtiipggfhjkalfaaDoor
