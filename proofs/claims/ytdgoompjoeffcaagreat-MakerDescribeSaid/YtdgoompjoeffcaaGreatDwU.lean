import Derived.Test.YtdgoompjoeffcaaGreatProg
import Derived.Test.YtdgoompjoeffcaaGreatPmY
import Derived.Test.YtdgoompjoeffcaaGreatDwO
import Derived.Test.YtdgoompjoeffcaaGreatDeI
import Derived.Test.YtdgoompjoeffcaaGreatDeA
import Derived.Test.YtdgoompjoeffcaaGreatDwK
/- A tape that describes: the rows of a pattern. -/
set_option linter.unusedSimpArgs false
set_option linter.unusedVariables false
set_option maxRecDepth 20000
open Go Go.Proofs
namespace Go.Proofs.YtdgoompjoeffcaaGreat
open Pm
attribute [local irreducible] Wait CallT CallW NextT Le Weak
theorem numC_pc (x y s : Int) : PCon Tryz.prog 69 [.agg [.v (.int .i64 x), .v (.int .i64 y), .v (.int .i64 s)]] (· = .v (.int .i64 (numF s))) := by
  refine pcon_run 1000 Tryz.func69 rfl Tryz.results69 Tryz.ntmps69 (Nat.le_of_ble_eq_true rfl) ?_
  have c := number_pc s
  simp only [iA] at c
  simp -implicitDefEqProofs only [go_sem]
  (repeat' (first | exact trivial | contradiction | exact ⟨_, rfl⟩ | refine And.intro ?_ ?_ | (refine om ?_; omega) | (refine wait_draw 1000 mixed (by decide +kernel) ?_; simp -implicitDefEqProofs only [go_sem]) | ((first | refine call_eq 1000 (c) ?_ ?_ rfl | refine call_draw 1000 (c) ?_ ?_); (focus (simp -implicitDefEqProofs only [go_sem]; done)); simp -implicitDefEqProofs only [go_sem]) | intro _))
  all_goals simp only [numF, fz_v]
theorem rowCells_app (f : Int → Int) (a b : List Ce) (y : Int) : rowCells f (a ++ b) y = rowCells f a y ++ rowCells f b y := by simp [rowCells]
theorem rowCells_none (f : Int → Int) (a : List Ce) (y : Int) (h : ∀ c ∈ a, c.1.2 ≠ y) : rowCells f a y = [] := by
  unfold rowCells
  rw [List.filter_eq_nil_iff.2 fun c hc => by simpa using h c hc]
  rfl
theorem rowCells_all (f : Int → Int) (a : List Ce) (y : Int) (h : ∀ c ∈ a, c.1.2 = y) : rowCells f a y = cutA f a := by
  unfold rowCells cutA
  rw [List.filter_eq_self.2 fun c hc => by simpa using h c hc]
theorem rowsP_nil (f : Int → Int) (K : Nat) : rowsP f [] K = List.replicate K ⟨[], [], 0⟩ := by
  unfold rowsP
  rw [List.eq_replicate_iff]
  refine ⟨by simp, fun r hr => ?_⟩
  obtain ⟨i, _, rfl⟩ := List.mem_map.1 hr
  rfl
theorem rowsP_len (f : Int → Int) (p : List Ce) (K : Nat) : (rowsP f p K).length = K := by simp [rowsP]
/-- One row more. -/
theorem rowsP_set (f : Int → Int) (a b : List Ce) (K j : Nat) (hj : j < K) (ha : ∀ c ∈ a, c.1.2 ≠ (j : Int) - (K : Int)) (hb : ∀ c ∈ b, c.1.2 = (j : Int) - (K : Int)) : (rowsP f a K).set j (rowP (cutA f b)) = rowsP f (a ++ b) K := by
  apply List.ext_getElem?
  intro i
  rw [List.getElem?_set]
  by_cases hi : i < K
  · have e1 : ∀ c : List Ce, (rowsP f c K)[i]? = some (rowP (rowCells f c ((i : Int) - (K : Int)))) := fun c => by simp [rowsP, hi]
    rw [e1, e1, rowCells_app, rowsP_len]
    by_cases e : j = i
    · subst e
      rw [if_pos rfl, if_pos hj, rowCells_none f a _ ha, rowCells_all f b _ hb, List.nil_append]
    · rw [if_neg e, rowCells_none f b, List.append_nil]
      intro c hc
      rw [hb c hc]
      omega
  · have e1 : ∀ c : List Ce, (rowsP f c K)[i]? = none := fun c => List.getElem?_eq_none (by rw [rowsP_len]; omega)
    rw [e1, e1, if_neg (by omega)]
theorem ceL_part (p : List Ce) (i k : Nat) : ((ceL p).take k).drop i = ceL ((p.take k).drop i) := by simp [ceL, List.map_take, List.map_drop]
theorem zrow_rep (K : Nat) : List.replicate K (AV.agg [.v (.slice none 0 0), .v (.slice none 0 0), .v (.int .i64 0)]) = (List.replicate K (⟨[], [], 0⟩ : Rw)).map rwA := by
  rw [List.map_replicate]
  rfl
theorem rwL_set (l : List Rw) (j : Nat) (r : Rw) : (l.map rwA).set j (.agg [lnA r.west, lnA r.east, .v (.int .i64 r.mid)]) = (l.set j r).map rwA := by
  rw [List.map_set]
  rfl
theorem lnA_fy (h : List (Option Blk)) (w : List (Nat × Int)) : fy h (lnA w) = lnA w := by
  unfold lnA nilA
  split
  · simp -implicitDefEqProofs only [go_sem]
  · simp -implicitDefEqProofs only [go_sem]
theorem rwL_fy (h : List (Option Blk)) (l : List Rw) : fyL h (l.map rwA) = l.map rwA := by
  rw [fyL_eq, List.map_map]
  refine List.map_congr_left fun b _ => ?_
  show fy h (rwA b) = rwA b
  unfold rwA
  simp -implicitDefEqProofs only [go_sem, lnA_fy]
theorem lnA_one (w : List (Nat × Int)) : (lnA w).one = true := by
  unfold lnA nilA
  split <;> rfl
def yOf (p : List Ce) (j : Nat) : Int := (p.getD j ((0, 0), 0)).1.2
def rsS (p : List Ce) (K i : Nat) : St := ⟨63, 0, [(0, .fsl 3 (ceL p)), (1, .v (.int .i64 (-1))), (5, .v (.int .i64 (-(K : Int)))), (6, .sl 0 3 0 K), (7, .v (.int .i64 (i : Int)))], [some (.row 93 3 ((rowsP numF (p.take i) K).map rwA))]⟩
set_option maxHeartbeats 4000000 in
/-- The rows of a pattern. -/
theorem rowsOf_pc (p : List Ce) (K : Nat) (hp : p ≠ []) (hl : p.length < 1000000) (hK : K ≤ 1000000) (h0 : yOf p 0 = -(K : Int)) (ho : inOrder p) (hy : ∀ c ∈ p, -(K : Int) ≤ c.1.2 ∧ c.1.2 ≤ -1) (hx : ∀ c ∈ p, -1000000 ≤ c.1.1 ∧ c.1.1 ≤ 1000000) :
    PCon Tryz.prog 19 [.fsl 3 (ceL p), .v (.int .i64 (-1))] (· = .fsl 3 ((rowsP numF p K).map rwA)) := by
  refine pcon_run 1000 Tryz.func19 rfl Tryz.results19 Tryz.ntmps19 (Nat.le_of_ble_eq_true rfl) ?_
  have hp0 : 0 < p.length := List.length_pos_iff.2 hp
  have g0 := ceL_at p 0 hp0
  rw [show (p.getD 0 ((0, 0), 0)).1.2 = -(K : Int) from h0] at g0
  have i0 : (0 < p.length) = True := eq_true hp0
  have hcl := ceL_len p
  have q1 : IntKind.i64.wrap (-1 - -(K : Int)) = (K : Int) - 1 := by rw [wrap64 (by omega) (by omega)]; omega
  have q2 : IntKind.i64.wrap ((K : Int) - 1 + 1) = (K : Int) := by rw [wrap64 (by omega) (by omega)]; omega
  simp -implicitDefEqProofs only [go_sem, g0, i0, q1, q2]
  have hmono : ∀ a b, a ≤ b → b < p.length → yOf p a ≤ yOf p b := fun a b hab hb => by
    by_cases e : a = b
    · subst e; exact Int.le_refl _
    · have := List.pairwise_iff_getElem.1 ho a b (by omega) hb (by omega)
      unfold yOf
      rw [List.getD_eq_getElem?_getD, List.getElem?_eq_getElem (by omega), List.getD_eq_getElem?_getD, List.getElem?_eq_getElem hb]
      simp only [Option.getD_some]
      omega
  have hmem : ∀ a, a < p.length → p.getD a ((0, 0), 0) ∈ p := fun a ha => by rw [List.getD_eq_getElem?_getD, List.getElem?_eq_getElem ha]; exact List.getElem_mem ha
  refine ⟨by omega, ⟨by omega, by omega⟩, ?_⟩
  refine wait_data (rsS p K) (fun i => i ≤ p.length ∧ ∀ j, j < i → i < p.length → yOf p j < yOf p i) (fun i => p.length - i) 0 (weak_to [0, 1, 5, 6, 7] [0] ?_ (by decide) (fun i h => by cases h)) ⟨Nat.zero_le _, fun j hj => by omega⟩ ?_
  · simp -implicitDefEqProofs only [go_sem, St.keep, rsS, List.take_zero, rowsP_nil, zrow_rep, Int.natCast_zero]
  clear g0 q1 q2
  rintro i ⟨hi, hG⟩
  refine run_sound 1000 _ _ ?_
  by_cases hil : i < p.length
  · have k1 : ((i : Int) < (p.length : Int)) = True := eq_true (by omega)
    have k2 : (i < p.length) = True := eq_true hil
    have gi := ceL_at p i hil
    unfold rsS
    simp -implicitDefEqProofs only [go_sem, k1, k2]
    refine wait_range (p.length - i) (fun d => ⟨63, 0, [(0, .fsl 3 (ceL p)), (1, .v (.int .i64 (-1))), (5, .v (.int .i64 (-(K : Int)))), (6, .sl 0 3 0 K), (7, .v (.int .i64 (i : Int))), (8, .v (.int .i64 ((i + d : Nat) : Int)))], [some (.row 93 3 ((rowsP numF (p.take i) K).map rwA))]⟩)
      (fun d => ∀ j, j < d → yOf p (i + j) = yOf p i) (weak_to [0, 1, 5, 6, 7, 8] [0] ?_ (by decide) (fun i h => by cases h)) (fun j hj => by omega) ?_
    · simp -implicitDefEqProofs only [go_sem, St.keep, Nat.add_zero]
    intro d hd hD
    refine run_sound 1000 _ _ ?_
    have m1 : IntKind.i64.wrap (((i + d : Nat) : Int) + 1) = ((i + (d + 1) : Nat) : Int) := by rw [wrapN (by omega) (by omega)]; omega
    by_cases hkl : i + d < p.length ∧ yOf p (i + d) = yOf p i
    · obtain ⟨hk, hye⟩ := hkl
      have n1 : (((i + d : Nat) : Int) < (p.length : Int)) = True := eq_true (by omega)
      have n2 : (i + d < p.length) = True := eq_true hk
      have gk := ceL_at p (i + d) hk
      rw [show (p.getD (i + d) ((0, 0), 0)).1.2 = (p.getD i ((0, 0), 0)).1.2 from hye] at gk
      have n3 : ((p.getD i ((0, 0), 0)).1.2 == (p.getD i ((0, 0), 0)).1.2) = true := by simp
      have hD' : ∀ j, j < d + 1 → yOf p (i + j) = yOf p i := fun j hj => by
        by_cases e : j = d
        · subst e; exact hye
        · exact hD j (by omega)
      simp -implicitDefEqProofs only [go_sem, n1, n2, gk, gi, k1, k2, n3, m1]
      (repeat' (first | exact trivial | contradiction | exact ⟨_, rfl⟩ | refine And.intro ?_ ?_ | (refine om ?_; omega)  | (refine wait_draw 1000 mixed (by decide +kernel) ?_; simp -implicitDefEqProofs only [go_sem , n1, n2, gk, gi, k1, k2, n3, m1]) | intro _))
      all_goals
        first
          | exact hD' _ (by assumption)
          | (refine weak_to [0, 1, 5, 6, 7, 8] [0] ?_ (by decide) (fun i h => by cases h)
             simp -implicitDefEqProofs only [go_sem, St.keep]
             done)
    · obtain ⟨k, hk⟩ : ∃ k, k = i + d := ⟨_, rfl⟩
      rw [← hk] at hkl ⊢
      have hd1 : 1 ≤ d := by
        by_cases e : d = 0
        · subst e
          rw [Nat.add_zero] at hk
          subst hk
          exact absurd ⟨hil, rfl⟩ hkl
        · omega
      have hkle : k ≤ p.length := by omega
      have hgap : ∀ j, j < k → k < p.length → yOf p j < yOf p k := fun j hj hkl2 => by
        have h1 : yOf p i < yOf p k := by
          have h2 := hmono i k (by omega) hkl2
          have h3 : yOf p k ≠ yOf p i := fun e => hkl ⟨hkl2, e⟩
          omega
        by_cases hji : j < i
        · have := hG j hji hil; omega
        · have := hD (j - i) (by omega)
          rw [show i + (j - i) = j by omega] at this
          omega
      obtain ⟨part, hpart⟩ : ∃ part, part = (p.take k).drop i := ⟨_, rfl⟩
      have hsplit : p.take i ++ part = p.take k := by
        have h1 := List.take_append_drop i (p.take k)
        rw [List.take_take, Nat.min_eq_left (by omega), ← hpart] at h1
        exact h1
      have hplen : part.length = d := by rw [hpart]; simp; omega
      have hpget : ∀ j, j < d → part.getD j ((0, 0), 0) = p.getD (i + j) ((0, 0), 0) := fun j hj => by
        rw [hpart]
        simp [List.getD_eq_getElem?_getD, List.getElem?_take, show i + j < k by omega]
      have hpmem : ∀ c ∈ part, c ∈ p ∧ c.1.2 = yOf p i := fun c hc => by
        obtain ⟨j, hj, rfl⟩ := List.mem_iff_getElem.1 hc
        have h1 := hpget j (by omega)
        rw [List.getD_eq_getElem?_getD, List.getElem?_eq_getElem hj, Option.getD_some] at h1
        rw [h1]
        exact ⟨hmem _ (by omega), hD j (by omega)⟩
      have hasc : asc (cutA numF part) := by
        unfold asc cutA
        rw [List.pairwise_map]
        have h1 : inOrder part := by rw [hpart]; exact (List.Pairwise.sublist (List.take_sublist _ _) ho).sublist (List.drop_sublist _ _)
        refine List.Pairwise.imp_of_mem ?_ h1
        intro a b ha hb hab
        have h2 := (hpmem a ha).2
        have h3 := (hpmem b hb).2
        simp only
        omega
      have rc := row_pc numF numC_pc part (fun e => by rw [e] at hplen; simp at hplen; omega) (by omega) hasc (fun c hc => hx c (hpmem c hc).1)
      have hyi := hy _ (hmem i hil)
      obtain ⟨j0, hj0⟩ : ∃ j0 : Nat, (p.getD i ((0, 0), 0)).1.2 = (j0 : Int) - (K : Int) := ⟨((p.getD i ((0, 0), 0)).1.2 + K).toNat, by omega⟩
      have hj1 : j0 < K := by omega
      have hset := rowsP_set numF (p.take i) part K j0 hj1 (fun c hc => by
        obtain ⟨j, hj, rfl⟩ := List.mem_iff_getElem.1 hc
        have hj2 : j < i := by simp at hj; omega
        have h1 := hG j hj2 hil
        have h2 : yOf p j = (p.take i)[j].1.2 := by
          unfold yOf
          rw [List.getD_eq_getElem?_getD, List.getElem?_eq_getElem (by omega), Option.getD_some, List.getElem_take]
        have h3 : yOf p i = (j0 : Int) - (K : Int) := hj0
        omega) (fun c hc => by rw [(hpmem c hc).2]; exact hj0)
      rw [hsplit] at hset
      have hset2 : ((rowsP numF (p.take i) K).map rwA).set j0 (.agg [lnA (westP (cutA numF part)), lnA (westP (negL (cutA numF part))), .v (.int .i64 (nAt (cutA numF part) 0))]) = (rowsP numF (p.take k) K).map rwA := by
        rw [← hset]
        exact rwL_set _ j0 (rowP (cutA numF part))
      have hget2 := rwL_get (rowsP numF (p.take i) K) j0 (by rw [rowsP_len]; exact hj1)
      have v1 : ((j0 : Int) - (K : Int) ≤ -1) = True := eq_true (by omega)
      have v2 : IntKind.i64.wrap ((j0 : Int) - (K : Int) - -(K : Int)) = (j0 : Int) := by rw [wrap64 (by omega) (by omega)]; omega
      have v3 : (j0 < (rowsP numF (p.take i) K).length) = True := eq_true (by rw [rowsP_len]; exact hj1)
      have v4 : (j0 < K) = True := eq_true hj1
      have v5 : (i ≤ k) = True := eq_true (by omega)
      have v6 : (k ≤ p.length) = True := eq_true hkle
      have v7 : ((i : Int) ≤ (k : Int)) = True := eq_true (by omega)
      have v8 : ((k : Int) ≤ (p.length : Int)) = True := eq_true (by omega)
      rw [hj0] at gi
      have hpl : ((ceL p).take k).drop i = ceL part := by rw [ceL_part, hpart]
      by_cases hkl2 : k < p.length
      · have n1 : ((k : Int) < (p.length : Int)) = True := eq_true (by omega)
        have n2 : (k < p.length) = True := eq_true hkl2
        have gk := ceL_at p k hkl2
        have n3 : ((p.getD k ((0, 0), 0)).1.2 == (j0 : Int) - (K : Int)) = false := beq_false_of_ne fun e => hkl ⟨hkl2, by rw [← hj0] at e; exact e⟩
        simp -implicitDefEqProofs only [go_sem, n1, n2, gk, gi, k1, k2, n3]
        (repeat' (first | exact trivial | contradiction | exact ⟨_, rfl⟩ | refine And.intro ?_ ?_ | (refine om ?_; omega) | (refine wait_draw 1000 mixed (by decide +kernel) ?_; simp -implicitDefEqProofs only [go_sem, n1, n2, gk, gi, k1, k2, n3, v1, v2, v3, v4, v5, v6, v7, v8, hpl, lnA_one, hget2, List.set_cons_zero, List.set_cons_succ]) | ((first | refine call_eq 1000 (rc) ?_ ?_ rfl | refine call_draw 1000 (rc) ?_ ?_); (focus (simp -implicitDefEqProofs only [go_sem, n1, n2, gk, gi, k1, k2, n3, v1, v2, v3, v4, v5, v6, v7, v8, hpl, lnA_one, hget2, List.set_cons_zero, List.set_cons_succ]; done)); simp -implicitDefEqProofs only [go_sem, n1, n2, gk, gi, k1, k2, n3, v1, v2, v3, v4, v5, v6, v7, v8, hpl, lnA_one, hget2, List.set_cons_zero, List.set_cons_succ]) | intro _))
        all_goals
          first
            | exact lnA_one _
            | exact .inl ⟨_, hget2⟩
            | (refine ⟨k, by omega, ⟨hkle, hgap⟩, weak_to [0, 1, 5, 6, 7] [0] ?_ (by decide) (fun i h => by cases h)⟩
               simp -implicitDefEqProofs only [go_sem, St.keep, hset2]
               done)
      · have n1 : ((k : Int) < (p.length : Int)) = False := eq_false (by omega)
        simp -implicitDefEqProofs only [go_sem, n1, gi, k1, k2]
        (repeat' (first | exact trivial | contradiction | exact ⟨_, rfl⟩ | refine And.intro ?_ ?_ | (refine om ?_; omega) | (refine wait_draw 1000 mixed (by decide +kernel) ?_; simp -implicitDefEqProofs only [go_sem, n1, gi, k1, k2, v1, v2, v3, v4, v5, v6, v7, v8, hpl, lnA_one, hget2, List.set_cons_zero, List.set_cons_succ]) | ((first | refine call_eq 1000 (rc) ?_ ?_ rfl | refine call_draw 1000 (rc) ?_ ?_); (focus (simp -implicitDefEqProofs only [go_sem, n1, gi, k1, k2, v1, v2, v3, v4, v5, v6, v7, v8, hpl, lnA_one, hget2, List.set_cons_zero, List.set_cons_succ]; done)); simp -implicitDefEqProofs only [go_sem, n1, gi, k1, k2, v1, v2, v3, v4, v5, v6, v7, v8, hpl, lnA_one, hget2, List.set_cons_zero, List.set_cons_succ]) | intro _))
        all_goals
          first
            | exact lnA_one _
            | exact .inl ⟨_, hget2⟩
            | (refine ⟨k, by omega, ⟨hkle, hgap⟩, weak_to [0, 1, 5, 6, 7] [0] ?_ (by decide) (fun i h => by cases h)⟩
               simp -implicitDefEqProofs only [go_sem, St.keep, hset2]
               done)
  · have k1 : ((i : Int) < (p.length : Int)) = False := eq_false (by omega)
    unfold rsS
    rw [List.take_of_length_le (by omega)]
    simp -implicitDefEqProofs only [go_sem, k1, rwL_fy, rowsP_len]
    rw [List.take_of_length_le (by simp [rowsP_len]), rwL_fy]
end Go.Proofs.YtdgoompjoeffcaaGreat
/- A tape that describes: the document's line. -/
namespace Go.Proofs.YtdgoompjoeffcaaGreat
open Pm
attribute [local irreducible] Wait CallT CallW NextT Le Weak
theorem findF_le (P : Int → Bool) : ∀ n k : Nat, (findF P n k).1 ≤ (n + k : Nat)
  | 0, k => by show (0 : Int) ≤ _; omega
  | n + 1, k => by
    simp only [findF]
    split
    · simp only; omega
    · have := findF_le P n (k + 1); omega
theorem numF_le (s : Int) : numF s ≤ 73 := findF_le _ 73 0
theorem numD_pc (s : Int) : PCon Tryz.prog 11 [iA s] (· = .tup [iA (numF s), iA (WrittenNumberE s).2]) := by
  have h := refNumber_pc s
  rw [← number_eq] at h
  exact h
theorem rle_head (x : Int) (l : List Int) : ∃ n r, rle (x :: l) = (n, x) :: r := by
  simp only [rle]
  split
  · rename_i n y r h
    split
    · rename_i e; subst e; exact ⟨_, _, rfl⟩
    · exact ⟨_, _, rfl⟩
  · exact ⟨_, _, rfl⟩
theorem line_run (s : Int) (X : List Int) (k : Nat) (hX : X = [] ∨ X.getD 0 0 ≠ s) : lineD (List.replicate (k + 1) s ++ X) = numD (k + 1) (24 + numF s) ++ lineD X := by
  unfold lineD
  rw [rle_rep s X (fun y hy => ?_) k, List.flatMap_cons]
  cases X with
  | nil => simp [rle] at hy
  | cons x X =>
    obtain ⟨n, r, h⟩ := rle_head x X
    rw [h] at hy
    simp only [List.head?_cons, Option.some.injEq] at hy
    subst hy
    rcases hX with e | e
    · cases e
    · exact e
theorem drop_run (L : List Int) (i k : Nat) (s : Int) (h : i + k < L.length) (he : ∀ j, j < k + 1 → L.getD (i + j) 0 = s) : L.drop i = List.replicate (k + 1) s ++ L.drop (i + 1 + k) := by
  apply List.ext_getElem?
  intro j
  rw [List.getElem?_drop]
  by_cases hj : j < k + 1
  · rw [List.getElem?_append_left (by simpa using hj), List.getElem?_replicate, if_pos hj]
    have := he j hj
    rw [List.getD_eq_getElem?_getD, List.getElem?_eq_getElem (by omega)] at this
    rw [List.getElem?_eq_getElem (by omega)]
    exact congrArg some this
  · rw [List.getElem?_append_right (by simp; omega), List.getElem?_drop, List.length_replicate]
    congr 1
    omega
theorem zg (L : List Int) (k : Nat) (h : k < L.length) : (L.map zA).getD k .junk = .v (.int .i64 (L.getD k 0)) := by simp [List.getD_eq_getElem?_getD, h, zA]
def liS (L : List Int) (x : Nat × List Int) : St := ⟨51, 1, [(0, .sl 1 1 0 x.2.length), (1, .fsl 1 (L.map zA)), (5, .v (.int .i64 (x.1 : Int)))], [none, tpB x.2]⟩
set_option maxHeartbeats 4000000 in
theorem line_con (T L : List Int) (hT : (T ++ lineD L).length < 900000000) (hl : L.length < 1000000) :
    Con Tryz.prog 30 [.sl 0 1 0 T.length, .fsl 1 (L.map zA)] [tpB T] fun r h => r = .sl 1 1 0 (T ++ lineD L).length ∧ h = [none, tpB (T ++ lineD L)] := by
  refine con_run 1000 Tryz.func30 rfl Tryz.results30 Tryz.ntmps30 (Nat.le_of_ble_eq_true rfl) ?_
  simp -implicitDefEqProofs only [go_sem, tpB]
  refine wait_data (liS L) (fun x => x.1 ≤ L.length ∧ x.2 ++ lineD (L.drop x.1) = T ++ lineD L) (fun x => L.length - x.1) (0, T) (weak_to' [0, 1, 5] [100, 0] ?_ (by decide) (stay_of rfl)) ⟨Nat.zero_le _, by rw [List.drop_zero]⟩ ?_
  · simp -implicitDefEqProofs only [go_sem, St.keep, liS, tpB, Int.natCast_zero]
  rintro ⟨i, T'⟩ ⟨hi, hX⟩
  simp only at hi hX
  refine run_sound 1000 _ _ ?_
  by_cases hil : i < L.length
  · have h1 : ((i : Int) < (L.length : Int)) = True := eq_true (by omega)
    have h2 : (i < L.length) = True := eq_true hil
    have ga := zg L i hil
    have hT1 : T'.length < 900000000 := by have := congrArg List.length hX; simp only [List.length_append] at this hT; omega
    unfold liS
    simp -implicitDefEqProofs only [go_sem, tpB, h1, h2]
    refine wait_range (L.length - i - 1) (fun k => ⟨51, 1, [(0, .sl 1 1 0 T'.length), (1, .fsl 1 (L.map zA)), (5, .v (.int .i64 (i : Int))), (6, .v (.int .i64 ((k + 1 : Nat) : Int)))], [none, tpB T']⟩)
      (fun k => ∀ j, j < k → L.getD (i + (j + 1)) 0 = L.getD i 0) (weak_to' [0, 1, 5, 6] [0, 1] ?_ (by decide) (stay_of rfl)) (fun j hj => by omega) ?_
    · simp -implicitDefEqProofs only [go_sem, St.keep, tpB]
    intro k hk hG
    refine run_sound 1000 _ _ ?_
    have q0 : IntKind.i64.wrap ((i : Int) + ((k + 1 : Nat) : Int)) = ((i + 1 + k : Nat) : Int) := by rw [wrapN (by omega) (by omega)]; omega
    have q1 : IntKind.i64.wrap (((k + 1 : Nat) : Int) + 1) = ((k + 1 + 1 : Nat) : Int) := by rw [wrapN (by omega) (by omega)]; omega
    have hb := numF_le (L.getD i 0)
    have hb2 := numF_pos (L.getD i 0)
    have q2 : IntKind.i64.wrap (24 + numF (L.getD i 0)) = 24 + numF (L.getD i 0) := wrap64 (by omega) (by omega)
    have nc := numD_pc (L.getD i 0)
    simp only [iA] at nc
    have s3 := number_pcon T' (k + 1) (24 + numF (L.getD i 0)) (by omega) (by omega) (by omega)
    unfold tpB at s3
    have hexit : (i + 1 + k = L.length ∨ L.getD (i + 1 + k) 0 ≠ L.getD i 0) → T' ++ numD (k + 1) (24 + numF (L.getD i 0)) ++ lineD (L.drop (i + 1 + k)) = T ++ lineD L := fun h => by
      have e1 := drop_run L i k (L.getD i 0) (by omega) (fun j hj => by
        cases j with
        | zero => rfl
        | succ j => exact hG j (by omega))
      have e2 := line_run (L.getD i 0) (L.drop (i + 1 + k)) k (by
        rcases h with h | h
        · exact .inl (List.drop_eq_nil_of_le (by omega))
        · refine .inr ?_
          rw [List.getD_eq_getElem?_getD, List.getElem?_drop, ← List.getD_eq_getElem?_getD]
          exact h)
      rw [← hX, e1, e2, List.append_assoc]
    by_cases hkl : i + 1 + k < L.length ∧ L.getD (i + 1 + k) 0 = L.getD i 0
    · obtain ⟨hkl, he⟩ := hkl
      have k1 : (((i + 1 + k : Nat) : Int) < (L.length : Int)) = True := eq_true (by omega)
      have k2 : (i + 1 + k < L.length) = True := eq_true hkl
      have gk := zg L (i + 1 + k) hkl
      rw [he] at gk
      have k3 : (L.getD i 0 == L.getD i 0) = true := by simp
      have hG' : ∀ j, j < k + 1 → L.getD (i + (j + 1)) 0 = L.getD i 0 := fun j hj => by
        by_cases e : j = k
        · subst e; rw [show i + (j + 1) = i + 1 + j by omega]; exact he
        · exact hG j (by omega)
      simp -implicitDefEqProofs only [go_sem, tpB, h1, h2, ga, k1, k2, gk, q0, q1, k3]
      (repeat' (first | exact trivial | contradiction | exact ⟨_, rfl⟩ | refine And.intro ?_ ?_ | (refine om ?_; omega)  | (refine wait_draw 1000 mixed (by decide +kernel) ?_; simp -implicitDefEqProofs only [go_sem , h1, h2, ga, k1, k2, gk, q0, q1, k3]) | intro _))
      all_goals
        first
          | exact hG' _ (by assumption)
          | (refine weak_to' [0, 1, 5, 6] [0, 1] ?_ (by decide) (stay_of rfl)
             simp -implicitDefEqProofs only [go_sem, St.keep, q1]
             done)
    · by_cases hk2 : i + 1 + k < L.length
      · have k1 : (((i + 1 + k : Nat) : Int) < (L.length : Int)) = True := eq_true (by omega)
        have k2 : (i + 1 + k < L.length) = True := eq_true hk2
        have gk := zg L (i + 1 + k) hk2
        have hne : L.getD (i + 1 + k) 0 ≠ L.getD i 0 := fun e => hkl ⟨hk2, e⟩
        have hX3 := hexit (.inr hne)
        have k3 : (L.getD (i + 1 + k) 0 == L.getD i 0) = false := beq_false_of_ne hne
        simp -implicitDefEqProofs only [go_sem, tpB, h1, h2, ga, k1, k2, gk, q0, k3]
        (repeat' (first | exact trivial | contradiction | exact ⟨_, rfl⟩ | refine And.intro ?_ ?_ | (refine om ?_; omega) | (refine wait_draw 1000 mixed (by decide +kernel) ?_; simp -implicitDefEqProofs only [go_sem, h1, h2, ga, k1, k2, gk, q0, q2, k3]) | ((first | refine call_eq 1000 (nc) ?_ ?_ rfl | refine call_draw 1000 (nc) ?_ ?_); (focus (simp -implicitDefEqProofs only [go_sem, h1, h2, ga, k1, k2, gk, q0, q2, k3]; done)); simp -implicitDefEqProofs only [go_sem, h1, h2, ga, k1, k2, gk, q0, q2, k3]) | ((first | refine call_con_eq 1000 [1] (s3) ?_ ?_ ?_ | refine call_draw_con 1000 [1] (s3) (by decide +kernel) ?_ ?_ ?_); (focus (simp -implicitDefEqProofs only [go_sem, h1, h2, ga, k1, k2, gk, q0, q2, k3]; done)); (focus (simp -implicitDefEqProofs only [go_sem, h1, h2, ga, k1, k2, gk, q0, q2, k3]; done)); simp -implicitDefEqProofs only [go_sem, h1, h2, ga, k1, k2, gk, q0, q2, k3]) | intro _))
        all_goals
          refine ⟨(i + 1 + k, T' ++ numD (k + 1) (24 + numF (L.getD i 0))), by simp only; omega, ⟨by simp only; omega, hX3⟩, weak_to' [0, 1, 5] [0, 2] ?_ (by decide) (stay_of rfl)⟩
          simp -implicitDefEqProofs only [go_sem, St.keep, liS, tpB, q0]
      · have k1 : (((i + 1 + k : Nat) : Int) < (L.length : Int)) = False := eq_false (by omega)
        have hX3 := hexit (.inl (by omega))
        simp -implicitDefEqProofs only [go_sem, tpB, h1, h2, ga, k1, q0]
        (repeat' (first | exact trivial | contradiction | exact ⟨_, rfl⟩ | refine And.intro ?_ ?_ | (refine om ?_; omega) | (refine wait_draw 1000 mixed (by decide +kernel) ?_; simp -implicitDefEqProofs only [go_sem, h1, h2, ga, k1, q0, q2]) | ((first | refine call_eq 1000 (nc) ?_ ?_ rfl | refine call_draw 1000 (nc) ?_ ?_); (focus (simp -implicitDefEqProofs only [go_sem, h1, h2, ga, k1, q0, q2]; done)); simp -implicitDefEqProofs only [go_sem, h1, h2, ga, k1, q0, q2]) | ((first | refine call_con_eq 1000 [1] (s3) ?_ ?_ ?_ | refine call_draw_con 1000 [1] (s3) (by decide +kernel) ?_ ?_ ?_); (focus (simp -implicitDefEqProofs only [go_sem, h1, h2, ga, k1, q0, q2]; done)); (focus (simp -implicitDefEqProofs only [go_sem, h1, h2, ga, k1, q0, q2]; done)); simp -implicitDefEqProofs only [go_sem, h1, h2, ga, k1, q0, q2]) | intro _))
        all_goals
          refine ⟨(i + 1 + k, T' ++ numD (k + 1) (24 + numF (L.getD i 0))), by simp only; omega, ⟨by simp only; omega, hX3⟩, weak_to' [0, 1, 5] [0, 2] ?_ (by decide) (stay_of rfl)⟩
          simp -implicitDefEqProofs only [go_sem, St.keep, liS, tpB, q0]
  · have h1 : ((i : Int) < (L.length : Int)) = False := eq_false (by omega)
    have hg : lineD [] = [] := rfl
    rw [List.drop_eq_nil_of_le (by omega), hg, List.append_nil] at hX
    unfold liS
    simp -implicitDefEqProofs only [go_sem, tpB, h1, hX]
end Go.Proofs.YtdgoompjoeffcaaGreat
