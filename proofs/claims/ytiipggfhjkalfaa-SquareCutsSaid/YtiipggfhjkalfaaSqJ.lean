import Derived.Test.YtiipggfhjkalfaaSqI
set_option linter.unusedSimpArgs false
open Go Go.Proofs
namespace Go.Proofs.Ytiipggfhjkalfaa
open Pm
def Aft (a b : Cell) : Prop := BehindB b a = true
theorem behind_iff (a b : Cell) : BehindB a b = true ↔ b.y < a.y ∨ (a.y = b.y ∧ b.x < a.x) := by simp [BehindB]
theorem aft_trans {a b c : Cell} (h : Aft a b) (k : Aft b c) : Aft a c := by
  unfold Aft at *
  rw [behind_iff] at *
  omega
theorem far2_iff (x y : Int) : FarB2 x y = false ↔ -1073741824 ≤ x ∧ x ≤ 1073741824 ∧ -1073741824 ≤ y ∧ y ≤ 1073741824 := by
  simp [FarB2, FarB]
  omega
def okCell (c : Cell) : Prop := FarB2 c.x c.y = false ∧ 1 ≤ c.s
theorem plainF_zero (l : List Cell) : ∀ n k, k + n = l.length → plainF l n k = 0 → (∀ i, k ≤ i → i < l.length → okCell (l.getD i default) ∧ (0 < i → Aft (l.getD (i - 1) default) (l.getD i default))) ∧ l.length ≤ 65536
  | 0, k, hk, h => by
    refine ⟨fun i h1 h2 => by omega, ?_⟩
    unfold plainF at h
    split at h
    · cases h
    · omega
  | n + 1, k, hk, h => by
    unfold plainF at h
    split at h
    · cases h
    · rename_i hf
      split at h
      · cases h
      · rename_i hs
        split at h
        · cases h
        · rename_i hb
          obtain ⟨h1, h2⟩ := plainF_zero l n (k + 1) (by omega) h
          refine ⟨fun i hi hl => ?_, h2⟩
          by_cases e : i = k
          · subst e
            refine ⟨⟨by simpa using hf, by omega⟩, fun h0 => ?_⟩
            unfold Aft
            exact Classical.byContradiction fun hc => hb ⟨h0, hc⟩
          · exact h1 i (by omega) hl
theorem plain_pair (l : List Cell) (h : PlainE l = 0) : l.Pairwise Aft ∧ (∀ c, c ∈ l → okCell c) ∧ l.length ≤ 65536 := by
  obtain ⟨h1, h2⟩ := plainF_zero l l.length 0 (by omega) h
  have get : ∀ i (hi : i < l.length), l.getD i default = l[i] := fun i hi => by simp [List.getD_eq_getElem?_getD, hi]
  have key : ∀ j, j < l.length → ∀ i, i < j → Aft (l.getD i default) (l.getD j default) := by
    intro j
    induction j with
    | zero => intro _ i hi; omega
    | succ j ih =>
      intro hj i hi
      have h3 := (h1 (j + 1) (by omega) hj).2 (by omega)
      rw [Nat.add_sub_cancel] at h3
      by_cases e : i = j
      · subst e; exact h3
      · exact aft_trans (ih (by omega) i (by omega)) h3
  refine ⟨List.pairwise_iff_getElem.2 fun i j hi hj hij => ?_, fun c hc => ?_, h2⟩
  · have := key j hj i hij
    rwa [get i hi, get j hj] at this
  · obtain ⟨i, hi, rfl⟩ := List.mem_iff_getElem.1 hc
    have := (h1 i (by omega) hi).1
    rwa [get i hi] at this
theorem insideF_zero (l : List Cell) (side : Int) (h1 : ∀ i, i < l.length → OutB side (l.getD i default) = false ∧ 1 ≤ (l.getD i default).s ∧ (0 < i → Aft (l.getD (i - 1) default) (l.getD i default))) (h2 : l.length ≤ 65536) : ∀ n k, k + n = l.length → insideF l side n k = 0
  | 0, k, hk => by
    unfold insideF
    rw [if_neg (by omega)]
  | n + 1, k, hk => by
    obtain ⟨a, b, c⟩ := h1 k (by omega)
    unfold insideF
    rw [if_neg (by rw [a]; exact Bool.false_ne_true), if_neg (by omega), if_neg (fun h => h.2 (c h.1))]
    exact insideF_zero l side h1 h2 n (k + 1) (by omega)
theorem inside_pair (lev : Int) (l : List Cell) (hp : l.Pairwise Aft) (ho : ∀ c, c ∈ l → OutB (sideE lev) c = false ∧ 1 ≤ c.s) (h2 : l.length ≤ 65536) : InsideE lev l = 0 := by
  have get : ∀ i (hi : i < l.length), l.getD i default = l[i] := fun i hi => by simp [List.getD_eq_getElem?_getD, hi]
  refine insideF_zero l _ (fun i hi => ?_) h2 l.length 0 (by omega)
  rw [get i hi]
  refine ⟨(ho _ (List.getElem_mem _)).1, (ho _ (List.getElem_mem _)).2, fun h0 => ?_⟩
  rw [get (i - 1) (by omega)]
  exact List.pairwise_iff_getElem.1 hp (i - 1) i (by omega) hi (by omega)
theorem side_bounds (lev : Int) (h0 : 0 ≤ lev) (h1 : lev ≤ 40) : 1 ≤ sideE lev ∧ sideE lev ≤ 1099511627776 := by
  have : ∀ n : Nat, n ≤ 40 → 1 ≤ sideE n ∧ sideE n ≤ 1099511627776 := by decide
  have := this lev.toNat (by omega)
  rwa [show ((lev.toNat : Nat) : Int) = lev by omega] at this
end Go.Proofs.Ytiipggfhjkalfaa
