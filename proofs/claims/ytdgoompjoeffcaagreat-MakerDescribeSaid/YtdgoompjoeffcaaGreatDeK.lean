import Derived.Test.YtdgoompjoeffcaaGreatProg
import Derived.Test.YtdgoompjoeffcaaGreatPmY
import Derived.Test.YtdgoompjoeffcaaGreatDwU
import Derived.Test.YtdgoompjoeffcaaGreatDwK
/- A tape that describes: the document's row. -/
set_option linter.unusedSimpArgs false
set_option linter.unusedVariables false
set_option maxRecDepth 20000
open Go Go.Proofs
namespace Go.Proofs.YtdgoompjoeffcaaGreat
open Pm
attribute [local irreducible] Wait CallT CallW NextT Le Weak
def mnF (l : List (Int × Int)) : Int := l.foldl (fun m c => min m c.1) 0
def mxF (l : List (Int × Int)) : Int := l.foldl (fun m c => max m c.1) 0
theorem mnF_snoc (l : List (Int × Int)) (c : Int × Int) : mnF (l ++ [c]) = min (mnF l) c.1 := by unfold mnF; rw [List.foldl_append]; rfl
theorem mxF_snoc (l : List (Int × Int)) (c : Int × Int) : mxF (l ++ [c]) = max (mxF l) c.1 := by unfold mxF; rw [List.foldl_append]; rfl
theorem min_stay : ∀ (l : List (Int × Int)) (m : Int), (∀ d ∈ l, m ≤ d.1) → l.foldl (fun m c => min m c.1) m = m
  | [], _, _ => rfl
  | c :: l, m, h => by
    rw [List.foldl_cons, Int.min_eq_left (h c (by simp))]
    exact min_stay l m fun d hd => h d (by simp [hd])
theorem max_between : ∀ (l : List (Int × Int)) (m M : Int), m ≤ M → (∀ d ∈ l, d.1 ≤ M) → m ≤ l.foldl (fun m c => max m c.1) m ∧ l.foldl (fun m c => max m c.1) m ≤ M
  | [], m, M, h, _ => ⟨Int.le_refl _, h⟩
  | c :: l, m, M, h, h2 => by
    rw [List.foldl_cons]
    have := max_between l (max m c.1) M (Int.max_le.2 ⟨h, h2 c (by simp)⟩) fun d hd => h2 d (by simp [hd])
    exact ⟨Int.le_trans (Int.le_max_left _ _) this.1, this.2⟩
theorem min_between : ∀ (l : List (Int × Int)) (m M : Int), M ≤ m → (∀ d ∈ l, M ≤ d.1) → M ≤ l.foldl (fun m c => min m c.1) m ∧ l.foldl (fun m c => min m c.1) m ≤ m
  | [], m, M, h, _ => ⟨h, Int.le_refl _⟩
  | c :: l, m, M, h, h2 => by
    rw [List.foldl_cons]
    have := min_between l (min m c.1) M (Int.le_min.2 ⟨h, h2 c (by simp)⟩) fun d hd => h2 d (by simp [hd])
    exact ⟨this.1, Int.le_trans this.2 (Int.min_le_left _ _)⟩
theorem min_le_mem : ∀ (l : List (Int × Int)) (m : Int), ∀ d ∈ l, l.foldl (fun m c => min m c.1) m ≤ d.1
  | [], _, d, h => by cases h
  | c :: l, m, d, h => by
    rw [List.foldl_cons]
    rcases List.mem_cons.1 h with rfl | h
    · have h1 : ∀ (l : List (Int × Int)) (m : Int), l.foldl (fun m c => min m c.1) m ≤ m := by
        intro l
        induction l with
        | nil => exact fun m => Int.le_refl _
        | cons c l ih => exact fun m => Int.le_trans (ih _) (Int.min_le_left _ _)
      exact Int.le_trans (h1 l _) (Int.min_le_right _ _)
    · exact min_le_mem l _ d h
theorem max_ge_mem : ∀ (l : List (Int × Int)) (m : Int), ∀ d ∈ l, d.1 ≤ l.foldl (fun m c => max m c.1) m
  | [], _, d, h => by cases h
  | c :: l, m, d, h => by
    rw [List.foldl_cons]
    rcases List.mem_cons.1 h with rfl | h
    · have h1 : ∀ (l : List (Int × Int)) (m : Int), m ≤ l.foldl (fun m c => max m c.1) m := by
        intro l
        induction l with
        | nil => exact fun m => Int.le_refl _
        | cons c l ih => exact fun m => Int.le_trans (Int.le_max_left _ _) (ih _)
      exact Int.le_trans (Int.le_max_right _ _) (h1 l _)
    · exact max_ge_mem l _ d h
theorem mnF_asc {l : List (Int × Int)} (h : asc l) : mnF l = -(farW l : Int) := by
  cases l with
  | nil => rfl
  | cons c l =>
    unfold mnF
    rw [List.foldl_cons, min_stay]
    · show min 0 c.1 = -(((-c.1).toNat : Nat) : Int)
      omega
    · intro d hd
      have := (List.pairwise_cons.1 h).1 d hd
      omega
theorem mxF_asc {l : List (Int × Int)} (h : asc l) : mxF l = (farW (negL l) : Int) := by
  rcases List.eq_nil_or_concat l with rfl | ⟨l, c, rfl⟩
  · rfl
  · rw [List.concat_eq_append] at h ⊢
    rw [mxF_snoc]
    have h1 : ∀ d ∈ l, d.1 ≤ max 0 c.1 := fun d hd => by
      have := (List.pairwise_append.1 h).2.2 d hd c (by simp)
      omega
    have h2 := max_between l 0 (max 0 c.1) (Int.le_max_left _ _) h1
    have h3 : farW (negL (l ++ [c])) = c.1.toNat := by
      unfold negL
      rw [List.reverse_append]
      show (-(-c.1)).toNat = _
      rw [Int.neg_neg]
    rw [h3]
    unfold mxF
    omega
theorem rowCells_snoc (p : List Ce) (y : Int) (k : Nat) (h : k < p.length) : rowCells id (p.take (k + 1)) y = if (p.getD k ((0, 0), 0)).1.2 = y then rowCells id (p.take k) y ++ [((p.getD k ((0, 0), 0)).1.1, (p.getD k ((0, 0), 0)).2)] else rowCells id (p.take k) y := by
  have : p.take (k + 1) = p.take k ++ [p.getD k ((0, 0), 0)] := by rw [List.take_add_one, List.getD_eq_getElem?_getD, List.getElem?_eq_getElem h]; rfl
  rw [this, rowCells_app]
  generalize p.getD k ((0, 0), 0) = c
  split
  · rename_i e
    rw [show rowCells id [c] y = [(c.1.1, c.2)] by simp only [rowCells, List.filter_cons, List.filter_nil, decide_eq_true e, if_true, List.map_cons, List.map_nil, id]]
  · rename_i e
    rw [show rowCells id [c] y = [] by simp only [rowCells, List.filter_cons, List.filter_nil, decide_eq_false e, Bool.false_eq_true, if_false, List.map_nil], List.append_nil]
theorem nAt_snoc (l : List (Int × Int)) (x s z : Int) (h : ∀ d ∈ l, d.1 ≠ x) : nAt (l ++ [(x, s)]) z = if z = x then s else nAt l z := by
  induction l with
  | nil => rfl
  | cons c l ih =>
    simp only [List.cons_append, nAt]
    rw [ih fun d hd => h d (by simp [hd])]
    have := h c (by simp)
    by_cases e : z = c.1
    · rw [if_pos e, if_pos e, if_neg (by omega)]
    · rw [if_neg e, if_neg e]
def westD (l : List (Int × Int)) (W : Nat) : List Int := (List.range W).map fun i : Nat => nAt l ((i : Int) - (W : Int))
def eastD (l : List (Int × Int)) (E : Nat) : List Int := (List.range E).map fun i : Nat => nAt l ((E : Int) - (i : Int))
theorem westD_len (l : List (Int × Int)) (W : Nat) : (westD l W).length = W := by simp [westD]
theorem eastD_len (l : List (Int × Int)) (E : Nat) : (eastD l E).length = E := by simp [eastD]
theorem westD_set (l : List (Int × Int)) (W j : Nat) (x s : Int) (h : ∀ d ∈ l, d.1 ≠ x) (hj : (j : Int) = x + W) : (westD l W).set j s = westD (l ++ [(x, s)]) W := by
  apply List.ext_getElem?
  intro i
  rw [List.getElem?_set, westD_len]
  by_cases hi : i < W
  · have e1 : ∀ m, (westD m W)[i]? = some (nAt m ((i : Int) - (W : Int))) := fun m => by simp [westD, hi]
    rw [e1, e1, nAt_snoc l x s _ h]
    by_cases e : j = i
    · subst e
      rw [if_pos rfl, if_pos hi, if_pos (by omega)]
    · rw [if_neg e, if_neg (by omega)]
  · have e1 : ∀ m, (westD m W)[i]? = none := fun m => List.getElem?_eq_none (by rw [westD_len]; omega)
    rw [e1, e1]
    split
    · rename_i e
      subst e
      rw [if_neg hi]
    · rfl
theorem eastD_set (l : List (Int × Int)) (E j : Nat) (x s : Int) (h : ∀ d ∈ l, d.1 ≠ x) (hj : (j : Int) = E - x) : (eastD l E).set j s = eastD (l ++ [(x, s)]) E := by
  apply List.ext_getElem?
  intro i
  rw [List.getElem?_set, eastD_len]
  by_cases hi : i < E
  · have e1 : ∀ m, (eastD m E)[i]? = some (nAt m ((E : Int) - (i : Int))) := fun m => by simp [eastD, hi]
    rw [e1, e1, nAt_snoc l x s _ h]
    by_cases e : j = i
    · subst e
      rw [if_pos rfl, if_pos hi, if_pos (by omega)]
    · rw [if_neg e, if_neg (by omega)]
  · have e1 : ∀ m, (eastD m E)[i]? = none := fun m => List.getElem?_eq_none (by rw [eastD_len]; omega)
    rw [e1, e1]
    split
    · rename_i e
      subst e
      rw [if_neg hi]
    · rfl
theorem westD_skip (l : List (Int × Int)) (W : Nat) (x s : Int) (h : ∀ d ∈ l, d.1 ≠ x) (hx : 0 ≤ x) : westD (l ++ [(x, s)]) W = westD l W := by
  unfold westD
  refine List.map_congr_left fun i hi => ?_
  have := List.mem_range.1 hi
  rw [nAt_snoc l x s _ h, if_neg (by omega)]
theorem eastD_skip (l : List (Int × Int)) (E : Nat) (x s : Int) (h : ∀ d ∈ l, d.1 ≠ x) (hx : x ≤ 0) : eastD (l ++ [(x, s)]) E = eastD l E := by
  unfold eastD
  refine List.map_congr_left fun i hi => ?_
  have := List.mem_range.1 hi
  rw [nAt_snoc l x s _ h, if_neg (by omega)]
theorem rowD_parts {p : List Ce} (ho : inOrder p) (y : Int) : (rowD p y).west = westD (rowCells id p y) (farW (rowCells id p y)) ∧ (rowD p y).east = eastD (rowCells id p y) (farW (negL (rowCells id p y))) ∧ (rowD p y).mid = nAt (rowCells id p y) 0 := by
  refine ⟨rfl, ?_, rfl⟩
  show (List.range (farW (negL (rowCells id p y)))).map _ = _
  unfold eastD
  refine List.map_congr_left fun i hi => ?_
  rw [nAt_neg (asc_row id ho y), Int.neg_sub]
theorem mm_min (a b : Int) : mnmx false a b = min a b := by unfold mnmx; simp; omega
theorem mm_max (a b : Int) : mnmx true a b = max a b := by unfold mnmx; simp; omega
theorem westD_nil (W : Nat) : westD [] W = List.replicate W 0 := by
  unfold westD
  rw [List.eq_replicate_iff]
  refine ⟨by simp, fun r hr => ?_⟩
  obtain ⟨i, _, rfl⟩ := List.mem_map.1 hr
  rfl
theorem eastD_nil (E : Nat) : eastD [] E = List.replicate E 0 := by
  unfold eastD
  rw [List.eq_replicate_iff]
  refine ⟨by simp, fun r hr => ?_⟩
  obtain ⟨i, _, rfl⟩ := List.mem_map.1 hr
  rfl
theorem zrep (W : Nat) : List.replicate W (AV.v (.int .i64 0)) = (List.replicate W (0 : Int)).map zA := by rw [List.map_replicate]; rfl
theorem zset (l : List Int) (j : Nat) (s : Int) : (l.map zA).set j (.v (.int .i64 s)) = (l.set j s).map zA := by rw [List.map_set]; rfl
def rdB (a b : AV) (m : Int) : Option Blk := some (.row 80 3 [.agg [a, b, .v (.int .i64 m)]])
def roD (p : List Ce) (y : Int) (W E k : Nat) : St := ⟨98, 0, [(0, .fsl 3 (ceL p)), (1, .v (.int .i64 y)), (4, .ptr 0 3 0 0), (5, .ptr 1 3 0 0), (6, .v (.int .i64 (-(W : Int)))), (7, .v (.int .i64 (E : Int))), (9, .v (.int .i64 (k : Int)))],
  [rdB nilA nilA 0, rdB (.sl 2 1 0 W) (.sl 3 1 0 E) (nAt (rowCells id (p.take k) y) 0), tpB (westD (rowCells id (p.take k) y) W), tpB (eastD (rowCells id (p.take k) y) E)]⟩
set_option maxHeartbeats 4000000 in
/-- The document's row. -/
theorem rowD_pc (p : List Ce) (y : Int) (hl : p.length < 1000000) (ho : inOrder p) (hx : ∀ c ∈ p, -1000000 ≤ c.1.1 ∧ c.1.1 ≤ 1000000) :
    PCon Tryz.prog 29 [.fsl 3 (ceL p), .v (.int .i64 y)] (· = .agg [.fsl 1 ((rowD p y).west.map zA), .fsl 1 ((rowD p y).east.map zA), .v (.int .i64 (rowD p y).mid)]) := by
  refine pcon_run 1000 Tryz.func29 rfl Tryz.results29 Tryz.ntmps29 (Nat.le_of_ble_eq_true rfl) ?_
  obtain ⟨r1, r2, r3⟩ := rowD_parts ho y
  rw [r1, r2, r3]
  clear r1 r2 r3
  have hasc := asc_row id ho y
  have hmn := mnF_asc hasc
  have hmx := mxF_asc hasc
  generalize farW (rowCells id p y) = W at hmn ⊢
  generalize farW (negL (rowCells id p y)) = E at hmx ⊢
  have hcl := ceL_len p
  have htake : rowCells id (p.take p.length) y = rowCells id p y := by rw [List.take_length]
  have hbx : ∀ k, ∀ d ∈ rowCells id (p.take k) y, -1000000 ≤ d.1 ∧ d.1 ≤ 1000000 := fun k d hd => by
    obtain ⟨c, hc, rfl⟩ := List.mem_map.1 hd
    exact hx c (List.mem_of_mem_take (List.mem_filter.1 hc).1)
  have hmnb : ∀ k, -1000000 ≤ mnF (rowCells id (p.take k) y) ∧ mnF (rowCells id (p.take k) y) ≤ 0 := fun k => min_between _ 0 (-1000000) (by decide) fun d hd => (hbx k d hd).1
  have hmxb : ∀ k, 0 ≤ mxF (rowCells id (p.take k) y) ∧ mxF (rowCells id (p.take k) y) ≤ 1000000 := fun k => max_between _ 0 1000000 (by decide) fun d hd => (hbx k d hd).2
  simp -implicitDefEqProofs only [go_sem]
  refine wait_range p.length (fun k => ⟨98, 0, [(0, .fsl 3 (ceL p)), (1, .v (.int .i64 y)), (4, .ptr 0 3 0 0), (5, .ptr 1 3 0 0), (6, .v (.int .i64 (mnF (rowCells id (p.take k) y)))), (7, .v (.int .i64 (mxF (rowCells id (p.take k) y)))), (8, .v (.int .i64 (k : Int)))], [rdB nilA nilA 0, rdB nilA nilA 0]⟩) (fun _ => True) (weak_to [0, 1, 4, 5, 6, 7, 8] [0, 1] ?_ (by decide) (fun i h => by cases h)) trivial ?_
  · simp -implicitDefEqProofs only [go_sem, St.keep, Int.natCast_zero, List.take_zero, rdB, nilA]
    rfl
  intro k hk _
  refine run_sound 1000 _ _ ?_
  unfold rdB nilA
  by_cases hkl : k < p.length
  · have h1 : ((k : Int) < (p.length : Int)) = True := eq_true (by omega)
    have h2 : (k < p.length) = True := eq_true hkl
    have ga := ceA_at p k hkl
    have hw1 : IntKind.i64.wrap ((k : Int) + 1) = ((k + 1 : Nat) : Int) := by rw [wrapN (by omega) (by omega)]; omega
    have hsn := rowCells_snoc p y k hkl
    rw [hsn]
    generalize p.getD k ((0, 0), 0) = c at ga ⊢
    obtain ⟨⟨x, y'⟩, s⟩ := c
    simp only at ga ⊢
    generalize rowCells id (p.take k) y = lk
    by_cases hy : y' = y
    · subst hy
      rw [if_pos rfl, mnF_snoc, mxF_snoc]
      have k3 : (y' == y') = true := by simp
      simp -implicitDefEqProofs only [go_sem, h1, h2, ga, k3, hw1]
      refine weak_to [0, 1, 4, 5, 6, 7, 8] [0, 1] ?_ (by decide) (fun i h => by cases h)
      simp -implicitDefEqProofs only [go_sem, St.keep, mm_min, mm_max]
    · rw [if_neg hy]
      have k3 : (y' == y) = false := beq_false_of_ne hy
      simp -implicitDefEqProofs only [go_sem, h1, h2, ga, k3, hw1]
      refine weak_to [0, 1, 4, 5, 6, 7, 8] [0, 1] ?_ (by decide) (fun i h => by cases h)
      simp -implicitDefEqProofs only [go_sem, St.keep]
  · obtain rfl : k = p.length := by omega
    have h1 : ((p.length : Int) < (p.length : Int)) = False := eq_false (by omega)
    have hWb := hmnb p.length
    have hEb := hmxb p.length
    rw [htake, hmn] at hWb
    rw [htake, hmx] at hEb
    rw [htake, hmn, hmx]
    have q1 : IntKind.i64.wrap (0 - -(W : Int)) = (W : Int) := by rw [wrap64 (by omega) (by omega)]; omega
    simp -implicitDefEqProofs only [go_sem, h1, q1]
    refine ⟨by omega, by omega, ?_⟩
    refine wait_range p.length (roD p y W E) (fun _ => True) (weak_to [0, 1, 4, 5, 6, 7, 9] [0, 1, 2, 3] ?_ (by decide) (fun i h => by cases h)) trivial ?_
    · simp -implicitDefEqProofs only [go_sem, St.keep, roD, rdB, nilA, tpB, Int.natCast_zero, List.take_zero, show rowCells id [] y = [] from rfl, westD_nil, eastD_nil, zrep, show nAt [] 0 = 0 from rfl]
    clear h1 q1
    intro k hk _
    refine run_sound 1000 _ _ ?_
    unfold roD rdB nilA
    by_cases hkl : k < p.length
    · have h1 : ((k : Int) < (p.length : Int)) = True := eq_true (by omega)
      have h2 : (k < p.length) = True := eq_true hkl
      have ga := ceA_at p k hkl
      have hw1 : IntKind.i64.wrap ((k : Int) + 1) = ((k + 1 : Nat) : Int) := by rw [wrapN (by omega) (by omega)]; omega
      have hsn := rowCells_snoc p y k hkl
      have hasc2 := asc_row id (p := p.take (k + 1)) (List.Pairwise.sublist (List.take_sublist _ _) ho) y
      have hmem : p.getD k ((0, 0), 0) ∈ p := by rw [List.getD_eq_getElem?_getD, List.getElem?_eq_getElem hkl]; exact List.getElem_mem hkl
      have hxb := hx _ hmem
      have hin : (p.getD k ((0, 0), 0)).1.2 = y → ((p.getD k ((0, 0), 0)).1.1, (p.getD k ((0, 0), 0)).2) ∈ rowCells id p y := fun e => List.mem_map.2 ⟨_, List.mem_filter.2 ⟨hmem, decide_eq_true e⟩, rfl⟩
      rw [hsn] at hasc2 ⊢
      generalize p.getD k ((0, 0), 0) = c at ga hin hasc2 hxb ⊢
      obtain ⟨⟨x, y'⟩, s⟩ := c
      simp only at ga hin hasc2 hxb ⊢
      generalize rowCells id (p.take k) y = lk at hasc2 ⊢
      by_cases hy : y' = y
      · subst hy
        rw [if_pos rfl] at hasc2 ⊢
        have hne : ∀ d ∈ lk, d.1 ≠ x := fun d hd => by
          have := (List.pairwise_append.1 hasc2).2.2 d hd (x, s) (by simp)
          simp only at this
          omega
        have b1 := min_le_mem _ 0 _ (hin rfl)
        have b2 := max_ge_mem _ 0 _ (hin rfl)
        have b1' : -(W : Int) ≤ x := by rw [← hmn]; exact b1
        have b2' : x ≤ (E : Int) := by rw [← hmx]; exact b2
        have k3 : (y' != y') = false := by simp
        rcases Int.lt_trichotomy x 0 with hx0 | hx0 | hx0
        · obtain ⟨j, hj⟩ : ∃ j : Nat, (j : Int) = x + W := ⟨(x + W).toNat, by omega⟩
          have c1 : (x < 0) = True := eq_true hx0
          have c3 : IntKind.i64.wrap (x - -(W : Int)) = (j : Int) := by rw [wrap64 (by omega) (by omega)]; omega
          have c4 : (j < W) = True := eq_true (by omega)
          have gw := zg (westD lk W) j (by rw [westD_len]; omega)
          have hset := westD_set lk W j x s hne hj
          have hsk := eastD_skip lk E x s hne (by omega)
          have hn := nAt_snoc lk x s 0 hne
          rw [if_neg (by omega)] at hn
          simp -implicitDefEqProofs only [go_sem, tpB, h1, h2, ga, k3, c1, westD_len, eastD_len]
          (repeat' (first | exact trivial | contradiction | exact ⟨_, rfl⟩ | refine And.intro ?_ ?_ | (refine om ?_; omega) | ((first | refine wait_draw 1000 mixed (by decide +kernel) ?_ | refine wait_drawW (fun id => id == 2) 1000 mixed (by decide +kernel) ?_); simp -implicitDefEqProofs only [go_sem, h1, h2, ga, k3, c1, c3, c4, hw1, gw, westD_len, eastD_len]) | intro _))
          all_goals
            refine weak_to [0, 1, 4, 5, 6, 7, 9] [0, 1, 2, 3] ?_ (by decide) (fun i h => by cases h)
            simp -implicitDefEqProofs only [go_sem, St.keep, zset, hset, hsk, hn]
        · subst hx0
          have hs1 := westD_skip lk W 0 s hne (by omega)
          have hs2 := eastD_skip lk E 0 s hne (by omega)
          have hn := nAt_snoc lk 0 s 0 hne
          rw [if_pos rfl] at hn
          simp -implicitDefEqProofs only [go_sem, tpB, h1, h2, ga, k3, hw1]
          refine weak_to [0, 1, 4, 5, 6, 7, 9] [0, 1, 2, 3] ?_ (by decide) (fun i h => by cases h)
          simp -implicitDefEqProofs only [go_sem, St.keep, hs1, hs2, hn]
        · obtain ⟨j, hj⟩ : ∃ j : Nat, (j : Int) = E - x := ⟨(E - x).toNat, by omega⟩
          have c1 : (x < 0) = False := eq_false (by omega)
          have c2 : (0 < x) = True := eq_true hx0
          have c3 : IntKind.i64.wrap ((E : Int) - x) = (j : Int) := by rw [wrap64 (by omega) (by omega)]; omega
          have c4 : (j < E) = True := eq_true (by omega)
          have gw := zg (eastD lk E) j (by rw [eastD_len]; omega)
          have hset := eastD_set lk E j x s hne hj
          have hsk := westD_skip lk W x s hne (by omega)
          have hn := nAt_snoc lk x s 0 hne
          rw [if_neg (by omega)] at hn
          simp -implicitDefEqProofs only [go_sem, tpB, h1, h2, ga, k3, c1, c2, westD_len, eastD_len]
          (repeat' (first | exact trivial | contradiction | exact ⟨_, rfl⟩ | refine And.intro ?_ ?_ | (refine om ?_; omega) | ((first | refine wait_draw 1000 mixed (by decide +kernel) ?_ | refine wait_drawW (fun id => id == 3) 1000 mixed (by decide +kernel) ?_); simp -implicitDefEqProofs only [go_sem, h1, h2, ga, k3, c1, c2, c3, c4, hw1, gw, westD_len, eastD_len]) | intro _))
          all_goals
            refine weak_to [0, 1, 4, 5, 6, 7, 9] [0, 1, 2, 3] ?_ (by decide) (fun i h => by cases h)
            simp -implicitDefEqProofs only [go_sem, St.keep, zset, hset, hsk, hn]
      · rw [if_neg hy]
        have k3 : (y' != y) = true := by simpa using hy
        simp -implicitDefEqProofs only [go_sem, tpB, h1, h2, ga, k3, hw1]
        refine weak_to [0, 1, 4, 5, 6, 7, 9] [0, 1, 2, 3] ?_ (by decide) (fun i h => by cases h)
        simp -implicitDefEqProofs only [go_sem, St.keep]
    · obtain rfl : k = p.length := by omega
      have h1 : ((p.length : Int) < (p.length : Int)) = False := eq_false (by omega)
      rw [htake]
      have t1 : ((westD (rowCells id p y) W).map zA).take W = (westD (rowCells id p y) W).map zA := List.take_of_length_le (by simp [westD_len])
      have t2 : ((eastD (rowCells id p y) E).map zA).take E = (eastD (rowCells id p y) E).map zA := List.take_of_length_le (by simp [eastD_len])
      simp -implicitDefEqProofs only [go_sem, tpB, h1, westD_len, eastD_len, t1, t2, Nat.le_refl, ite_true]
end Go.Proofs.YtdgoompjoeffcaaGreat
/- A tape that describes: the document's rows, a plain law. -/
namespace Go.Proofs.YtdgoompjoeffcaaGreat
open Pm
attribute [local irreducible] Wait CallT CallW NextT Le Weak
def sidedD (r : Rd) : Bool := !(r.west.isEmpty && r.east.isEmpty)
/-- The document's row stands for the program's. -/
structure RowRel (d : Rd) (r : Rw) : Prop where
  w : sideD 6 7 d.west = sideC 6 7 r.west
  e : sideD 7 6 d.east = sideC 7 6 r.east
  s : sidedD d = sided r
  m : r.mid = numF d.mid
  t : wrt d.mid
theorem row_rel {p : List Ce} (hp : Desc p) (y : Int) : RowRel (rowD p y) (rowP (rowCells numF p y)) := by
  obtain ⟨h1, h2, h3, h4, h5, h6, h7, h8⟩ := row_same hp y
  have em : ∀ {W : List Int} {l : List (Nat × Int)}, canon l → lineN l = W.map numF → W.isEmpty = l.isEmpty := by
    intro W l hc h
    cases l with
    | nil =>
      cases W with
      | nil => rfl
      | cons a W => cases h
    | cons r l =>
      cases W with
      | nil =>
        have := rle_canon (r :: l) hc
        rw [h] at this
        cases this
      | cons a W => rfl
  refine ⟨side_same h6 h4 h1, side_same h7 h5 h2, ?_, h3, h8⟩
  unfold sidedD sided
  rw [em h4 h1, em h5 h2]
/-- The groups of rows, as commands, the document's way. -/
def grpD : List Rd → List (List Int)
  | [] => []
  | r :: l => if sidedD r = true then (sideD 6 7 r.west ++ (sideD 7 6 r.east ++ numD 1 (24 + numF r.mid))) :: grpD l else
    numD (1 + (l.takeWhile fun s => !sidedD s && s.mid == r.mid).length) (24 + numF r.mid) :: grpD (l.drop (l.takeWhile fun s => !sidedD s && s.mid == r.mid).length)
  termination_by l => l.length
  decreasing_by all_goals simp only [List.length_cons, List.length_drop]; omega
inductive RowsRel : List Rd → List Rw → Prop where
  | nil : RowsRel [] []
  | cons {d : Rd} {r : Rw} {D : List Rd} {P : List Rw} (h : RowRel d r) (k : RowsRel D P) : RowsRel (d :: D) (r :: P)
theorem rel_take {r : Rd} {q : Rw} (h : RowRel r q) : ∀ {D : List Rd} {P : List Rw}, RowsRel D P → (D.takeWhile fun s => !sidedD s && s.mid == r.mid).length = (P.takeWhile fun s => !sided s && s.mid == q.mid).length
  | [], [], _ => rfl
  | d :: D, p :: P, .cons h1 h2 => by
    rw [List.takeWhile_cons, List.takeWhile_cons]
    have e : (!sidedD d && d.mid == r.mid) = (!sided p && p.mid == q.mid) := by
      have e2 : (d.mid == r.mid) = (numF d.mid == numF r.mid) := by
        by_cases hm : d.mid = r.mid
        · rw [hm, beq_self_eq_true, beq_self_eq_true]
        · rw [beq_false_of_ne hm, beq_false_of_ne fun e => hm (wrt_inj h1.t h.t e)]
      rw [h1.s, h1.m, h.m, e2]
    rw [e]
    split
    · rw [List.length_cons, List.length_cons, rel_take h h2]
    · rfl
theorem rel_drop : ∀ (n : Nat) {D : List Rd} {P : List Rw}, RowsRel D P → RowsRel (D.drop n) (P.drop n)
  | 0, _, _, h => h
  | n + 1, [], [], _ => .nil
  | n + 1, d :: D, p :: P, .cons _ h => rel_drop n h
theorem grp_same (D : List Rd) : ∀ P : List Rw, RowsRel D P → grpD D = (grpF P).map Gp.code := by
  induction D using grpD.induct with
  | case1 =>
    intro P h
    cases h
    rw [grpD, grpF]
    rfl
  | case2 d D hs ih =>
    intro P h
    cases h with
    | cons h1 h2 =>
      rename_i p P
      rw [grpD, grpF, if_pos hs, if_pos (by rw [← h1.s]; exact hs), List.map_cons, ih _ h2, h1.w, h1.e, ← h1.m, numD_times _ _ (Nat.le_refl 1)]
      rfl
  | case3 d D hs ih =>
    intro P h
    cases h with
    | cons h1 h2 =>
      rename_i p P
      rw [grpD, grpF, if_neg hs, if_neg (by rw [← h1.s]; exact hs), List.map_cons, rel_take h1 h2, ← h1.m]
      rw [rel_take h1 h2] at ih
      rw [ih _ (rel_drop _ h2), numD_times _ _ (by omega)]
      rfl
/-- Commands are given till the tape is too long. -/
def exitD : List (List Int) → List Int → List Int
  | [], t => t
  | c :: l, t => if 4096 < (t ++ c).length then t ++ c else exitD l (t ++ c)
theorem exit_same : ∀ (l : List (List Int)) (t : List Int), exitD l t = t ++ l.flatten ∨ (4096 < (exitD l t).length ∧ 4096 < (t ++ l.flatten).length)
  | [], t => .inl (by simp [exitD])
  | c :: l, t => by
    simp only [exitD]
    by_cases h : 4096 < (t ++ c).length
    · rw [if_pos h]
      refine .inr ⟨h, ?_⟩
      rw [List.flatten_cons, ← List.append_assoc, List.length_append]
      omega
    · rw [if_neg h, List.flatten_cons, ← List.append_assoc]
      exact exit_same l (t ++ c)
def rowsDL (p : List Ce) (K : Nat) : List Rd := (List.range K).map fun i : Nat => rowD p ((i : Int) - (K : Int))
theorem rows_rel {p : List Ce} (hp : Desc p) (K : Nat) : RowsRel (rowsDL p K) (rowsP numF p K) := by
  unfold rowsDL rowsP
  generalize List.range K = R
  induction R with
  | nil => exact .nil
  | cons i R ih => exact .cons (row_rel hp _) ih
/-- The document's tape. -/
def tapeR (p : List Ce) : List Int := (if p = [] then [1] else exitD (grpD (rowsDL p (topK p))) (1 :: numD (topK p) 5)) ++ [2, 4]
theorem tape_same {p : List Ce} (hp : Desc p) : tapeR p = tapeD p ∨ (4096 < (tapeR p).length ∧ 4096 < (tapeD p).length) := by
  unfold tapeR tapeD bodyD
  by_cases h0 : p = []
  · rw [if_pos h0, if_pos h0]
    exact .inl rfl
  rw [if_neg h0, if_neg h0]
  have h1 : 1 ≤ topK p := by
    cases p with
    | nil => exact absurd rfl h0
    | cons c p =>
      have := hp.y c (by simp)
      simp only [topK]
      omega
  have hg := grp_same _ _ (rows_rel hp (topK p))
  have hf : (grpD (rowsDL p (topK p))).flatten = (grpF (rowsP numF p (topK p))).flatMap Gp.code := by rw [hg, List.flatMap_def]
  rcases exit_same (grpD (rowsDL p (topK p))) (1 :: numD (topK p) 5) with h | ⟨h2, h3⟩
  · left
    rw [h, hf, numD_times _ _ h1]
    simp
  · right
    rw [hf, numD_times _ _ h1] at h3
    refine ⟨by rw [List.length_append]; omega, ?_⟩
    simp only [List.length_cons, List.length_append, List.cons_append] at h3 ⊢
    omega
end Go.Proofs.YtdgoompjoeffcaaGreat
