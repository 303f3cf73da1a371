import Derived.Test.YtiipggfhjkalfaaSqJ
set_option linter.unusedSimpArgs false
open Go Go.Proofs
namespace Go.Proofs.Ytiipggfhjkalfaa
open Pm
theorem wrapD {a b : Int} (h1 : -1073741824 ≤ a) (h2 : a ≤ 1073741824) (h3 : -1073741824 ≤ b) (h4 : b ≤ 1073741824) : IntKind.i64.wrap (a - b) = a - b := wrap64 (by omega) (by omega)
/-- The cell lies in the square. -/
def inB (x y side : Int) (c : Cell) : Bool := (cutC x y side c).isSome
theorem cutC_some {x y side : Int} {c : Cell} (hc : okCell c) (hf : FarB2 x y = false) : cutC x y side c = if x ≤ c.x ∧ c.x - x < side ∧ y ≤ c.y ∧ c.y - y < side then some ⟨c.x - x, c.y - y, c.s⟩ else none := by
  obtain ⟨h1, h2⟩ := hc
  rw [far2_iff] at h1 hf
  unfold cutC
  rw [wrapD h1.1 h1.2.1 hf.1 hf.2.1, wrapD h1.2.2.1 h1.2.2.2 hf.2.2.1 hf.2.2.2]
  by_cases a1 : x ≤ c.x
  · by_cases a2 : c.x - x < side
    · by_cases a3 : y ≤ c.y
      · by_cases a4 : c.y - y < side
        · simp only [a1, a2, a3, a4, if_true, and_self]
        · simp only [a1, a2, a3, a4, if_true, if_false, and_false]
      · simp only [a1, a2, a3, if_true, if_false, and_false, false_and]
    · simp only [a1, a2, if_true, if_false, and_false, false_and]
  · simp only [a1, if_false, false_and]
theorem cutC_spec {x y side : Int} {c d : Cell} (hc : okCell c) (hf : FarB2 x y = false) (h : cutC x y side c = some d) : OutB side d = false ∧ 1 ≤ d.s ∧ layC x y d = c ∧ d.x = c.x - x ∧ d.y = c.y - y := by
  rw [cutC_some hc hf] at h
  split at h
  · rename_i hh
    cases h
    obtain ⟨h1, h2⟩ := hc
    rw [far2_iff] at h1 hf
    refine ⟨by simp [OutB]; omega, h2, ?_, rfl, rfl⟩
    unfold layC
    rw [wrap64 (by simp; omega) (by simp; omega), wrap64 (by simp; omega) (by simp; omega)]
    cases c
    simp
  · cases h
theorem cutC_aft {x y side : Int} {a b c d : Cell} (ha : okCell a) (hb : okCell b) (hf : FarB2 x y = false) (hab : Aft a b) (h1 : cutC x y side a = some c) (h2 : cutC x y side b = some d) : Aft c d := by
  have s1 := cutC_spec ha hf h1
  have s2 := cutC_spec hb hf h2
  unfold Aft at *
  rw [behind_iff] at *
  rw [s1.2.2.2.1, s1.2.2.2.2, s2.2.2.2.1, s2.2.2.2.2]
  omega
theorem cut_map {x y side : Int} (hf : FarB2 x y = false) : ∀ l : List Cell, (∀ c, c ∈ l → okCell c) → (l.filterMap (cutC x y side)).map (layC x y) = l.filter (inB x y side)
  | [], _ => rfl
  | c :: l, h => by
    have ih := cut_map (side := side) hf l fun d hd => h d (List.mem_cons_of_mem _ hd)
    rw [List.filterMap_cons, List.filter_cons, show inB x y side c = (cutC x y side c).isSome from rfl]
    cases e : cutC x y side c with
    | none =>
      simp only [Option.isSome_none, Bool.false_eq_true, if_false]
      exact ih
    | some d =>
      have := (cutC_spec (h c List.mem_cons_self) hf e).2.2.1
      simp only [Option.isSome_some, if_true, List.map_cons, this]
      rw [ih]
theorem layF_ok (l : List Cell) (x y : Int) (h : ∀ c, c ∈ l → FarB2 (layC x y c).x (layC x y c).y = false) : ∀ n k, k + n = l.length → layF l x y n k = (layK l x y l.length, 0)
  | 0, _, _ => rfl
  | n + 1, k, hk => by
    have hk' : k < l.length := by omega
    have : l.getD k default ∈ l := by
      simp [List.getD_eq_getElem?_getD, hk']
    unfold layF
    rw [if_neg (by rw [h _ this]; exact Bool.false_ne_true)]
    exact layF_ok l x y h n (k + 1) (by omega)
/-- What is cut out and laid back is what lies there. -/
theorem lay_back (l : List Cell) (x y lev : Int) (h0 : 0 ≤ lev) (h1 : lev ≤ 40) (hf : FarB2 x y = false) (hp : PlainE l = 0) : LayE lev (cutK l x y (sideE lev) l.length) x y = (l.filter (inB x y (sideE lev)), 0) := by
  obtain ⟨p1, p2, p3⟩ := plain_pair l hp
  have hck : cutK l x y (sideE lev) l.length = l.filterMap (cutC x y (sideE lev)) := by unfold cutK; rw [List.take_length]
  have hmem : ∀ d, d ∈ l.filterMap (cutC x y (sideE lev)) → ∃ c, c ∈ l ∧ cutC x y (sideE lev) c = some d := fun d hd => by simpa using hd
  have hin : InsideE lev (l.filterMap (cutC x y (sideE lev))) = 0 := by
    refine inside_pair lev _ ?_ (fun d hd => ?_) (Nat.le_trans (List.length_filterMap_le _ _) p3)
    · rw [List.pairwise_filterMap]
      refine p1.imp_of_mem fun {a b} ha hb hab c hc d hd => ?_
      exact cutC_aft (p2 a ha) (p2 b hb) hf hab hc hd
    · obtain ⟨c, hc, e⟩ := hmem d hd
      have := cutC_spec (p2 c hc) hf e
      exact ⟨this.1, this.2.1⟩
  unfold LayE
  rw [if_neg (by rw [hf]; exact Bool.false_ne_true), if_neg (by omega), if_neg (by omega), hck, if_pos hin]
  rw [layF_ok _ x y (fun d hd => by
    obtain ⟨c, hc, e⟩ := hmem d hd
    rw [(cutC_spec (p2 c hc) hf e).2.2.1]
    exact (p2 c hc).1) _ 0 (by omega)]
  unfold layK
  rw [List.take_length, cut_map hf l p2]
theorem filter_at (p : Cell → Bool) (l : List Cell) (i : Nat) (hi : i < l.length) (h : p (l.getD i default) = true) : ((l.take i).filter p).length < (l.filter p).length ∧ (l.filter p).getD ((l.take i).filter p).length default = l.getD i default := by
  have e : l = l.take i ++ l[i] :: l.drop (i + 1) := by simp
  have g : l.getD i default = l[i] := by simp [List.getD_eq_getElem?_getD, hi]
  rw [g] at h ⊢
  have : l.filter p = (l.take i).filter p ++ l[i] :: (l.drop (i + 1)).filter p := by
    conv => lhs; rw [e]
    rw [List.filter_append, List.filter_cons, if_pos h]
  rw [this]
  refine ⟨by simp, ?_⟩
  simp [List.getD_eq_getElem?_getD]
theorem filter_step (p : Cell → Bool) (l : List Cell) (i : Nat) (hi : i < l.length) : ((l.take (i + 1)).filter p).length = ((l.take i).filter p).length + (if p (l.getD i default) then 1 else 0) := by
  have g : l.getD i default = l[i] := by simp [List.getD_eq_getElem?_getD, hi]
  rw [g, List.take_add_one, List.filter_append, List.getElem?_eq_getElem hi, Option.toList_some, List.filter_cons, List.filter_nil, List.length_append]
  split <;> simp
end Go.Proofs.Ytiipggfhjkalfaa
