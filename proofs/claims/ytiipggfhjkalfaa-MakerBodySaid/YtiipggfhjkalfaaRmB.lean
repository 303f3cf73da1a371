import Derived.Test.YtiipggfhjkalfaaProg
import Derived.Test.YtiipggfhjkalfaaPmU
import Derived.Test.YtiipggfhjkalfaaMmK
/- What a tape means: cells in order, a plain law. -/
set_option linter.unusedSimpArgs false
set_option linter.unusedVariables false
set_option maxRecDepth 20000
open Go Go.Proofs
namespace Go.Proofs.Ytiipggfhjkalfaa
open Pm
attribute [local irreducible] Wait CallT CallW NextT Le Weak
abbrev Ce := Pl × Int
def leC (a b : Ce) : Bool := decide (a.1.2 < b.1.2 ∨ a.1.2 = b.1.2 ∧ a.1.1 ≤ b.1.1)
def sortC (l : List Ce) : List Ce := l.mergeSort leC
theorem leC_trans (a b c : Ce) (h1 : leC a b = true) (h2 : leC b c = true) : leC a c = true := by
  simp only [leC, decide_eq_true_eq] at *; omega
theorem leC_total (a b : Ce) : (leC a b || leC b a) = true := by
  simp only [leC, Bool.or_eq_true, decide_eq_true_eq]; omega
theorem leC_anti (a b : Ce) (h1 : leC a b = true) (h2 : leC b a = true) : a.1 = b.1 := by
  simp only [leC, decide_eq_true_eq] at *
  exact Prod.ext (by omega) (by omega)
theorem sortC_perm (l : List Ce) : (sortC l).Perm l := List.mergeSort_perm l leC
theorem sortC_sorted (l : List Ce) : (sortC l).Pairwise (fun a b => leC a b = true) := List.pairwise_mergeSort leC_trans leC_total l
theorem key_inj {l : List Ce} (hn : (l.map Prod.fst).Nodup) {a b : Ce} (ha : a ∈ l) (hb : b ∈ l) (h : a.1 = b.1) : a = b := by
  induction l with
  | nil => cases ha
  | cons c l ih =>
    simp only [List.map_cons, List.nodup_cons, List.mem_map, not_exists, not_and] at hn
    rcases List.mem_cons.1 ha with e1 | ha2
    · rcases List.mem_cons.1 hb with e2 | hb2
      · rw [e1, e2]
      · exact absurd (by rw [← h, e1]) (hn.1 b hb2)
    · rcases List.mem_cons.1 hb with e2 | hb2
      · exact absurd (by rw [h, e2]) (hn.1 a ha2)
      · exact ih hn.2 ha2 hb2
theorem sortC_uniq {l l' : List Ce} (hp : l'.Perm l) (hs : l'.Pairwise (fun a b => leC a b = true)) (hn : (l.map Prod.fst).Nodup) : l' = sortC l := by
  refine List.Perm.eq_of_pairwise (le := fun a b => leC a b = true) (fun a b ha hb h1 h2 => ?_) hs (sortC_sorted l) (hp.trans (sortC_perm l).symm)
  exact key_inj hn (hp.mem_iff.1 ha) ((sortC_perm l).mem_iff.1 hb) (leC_anti a b h1 h2)
theorem sortC_congr {l l' : List Ce} (hp : l'.Perm l) (hn : (l.map Prod.fst).Nodup) : sortC l' = sortC l :=
  sortC_uniq ((sortC_perm l').trans hp) (sortC_sorted l') hn
theorem sortC_len (l : List Ce) : (sortC l).length = l.length := (sortC_perm l).length_eq
/-- A place with a state, as the program's cell. -/
def ceA (c : Ce) : AV := .agg [.v (.int .i64 c.1.1), .v (.int .i64 c.1.2), .v (.int .i64 c.2)]
def ceL (l : List Ce) : List AV := l.map ceA
end Go.Proofs.Ytiipggfhjkalfaa
/- What a tape means, the document's way: places and where they lie in the table. -/
set_option linter.unusedSimpArgs false
set_option linter.unusedVariables false
set_option maxRecDepth 20000
open Go Go.Proofs
namespace Go.Proofs.Ytiipggfhjkalfaa
open Pm
attribute [local irreducible] Wait CallT CallW NextT Le Weak
theorem next_pc (x y d : Int) (h0 : 0 ≤ d) (h4 : d < 4) (hx : -9223372036854775807 ≤ x) (hx' : x < 9223372036854775807) (hy : -9223372036854775807 ≤ y) (hy' : y < 9223372036854775807) :
    PCon Try.prog 67 [.v (.int .i64 x), .v (.int .i64 y), .v (.int .i64 d)] (· = .tup [.v (.int .i64 (onP (x, y) d).1), .v (.int .i64 (onP (x, y) d).2)]) := by
  have hd : d = 0 ∨ d = 1 ∨ d = 2 ∨ d = 3 := by omega
  refine pcon_run 1000 Try.func67 rfl Try.results67 Try.ntmps67 (Nat.le_of_ble_eq_true rfl) ?_
  rcases hd with rfl | rfl | rfl | rfl
  all_goals
    simp (maxSteps := 1000000) -implicitDefEqProofs only [go_sem, ↓reduceIte, reduceCtorEq, Nat.reduceEqDiff, Nat.reduceLT, Nat.reduceAdd, Nat.reduceLeDiff]
    (repeat' (first | exact trivial | contradiction | exact ⟨_, rfl⟩ | refine And.intro ?_ ?_ | ((first | show (_ : Nat) ≤ _ | show (_ : Nat) < _ | show (_ : Int) ≤ _ | show (_ : Int) < _); omega) | (refine wait_draw 1000 mixed (by decide +kernel) ?_; simp (maxSteps := 1000000) -implicitDefEqProofs only [go_sem, ↓reduceIte, reduceCtorEq, Nat.reduceEqDiff, Nat.reduceLT, Nat.reduceAdd, Nat.reduceLeDiff]) | intro _))
    all_goals simp [fz_v, fz_tup, fzL_nil, fzL_cons, onP]
    all_goals (try rw [wrap64 (by omega) (by omega)])
    all_goals (try simp)
    all_goals (try omega)
def hash0 (x y : Int) (n : Nat) : Nat := (((x * 7919 + y * 104729).tmod (n : Int) + n).tmod (n : Int)).toNat
theorem hash_lt (x y : Int) {n : Nat} (hn : 0 < n) : hash0 x y n < n := by
  unfold hash0
  have h1 := Int.tmod_lt_of_pos ((x * 7919 + y * 104729).tmod (n : Int) + n) (show (0 : Int) < n by omega)
  omega
/-- The table's place h is taken by another place than (x, y). -/
def occ (T X Y : List Int) (x y : Int) (h : Nat) : Bool := decide (0 ≤ T.getD h 0) && (decide (X.getD (T.getD h 0).toNat 0 ≠ x) || decide (Y.getD (T.getD h 0).toNat 0 ≠ y))
theorem slot_pc (T X Y : List Int) (x y : Int) (rest : List AV) (d : Nat) (hn : 0 < T.length) (hn' : T.length < 1000000000) (hx : -100000 ≤ x ∧ x ≤ 100000) (hy : -100000 ≤ y ∧ y ≤ 100000) (hXY : Y.length = X.length) (hX : X.length < 1000000000) (hr : ∀ f, AV.renL f rest = rest)
    (hT : ∀ e, e ≤ d → T.getD ((hash0 x y T.length + e) % T.length) 0 < X.length)
    (ho : ∀ e, e < d → occ T X Y x y ((hash0 x y T.length + e) % T.length) = true) (hs : occ T X Y x y ((hash0 x y T.length + d) % T.length) = false) :
    PCon Try.prog 97 [.fptr (.fsl 1 (T.map iA) :: .fsl 1 (X.map iA) :: .fsl 1 (Y.map iA) :: rest), .v (.int .i64 x), .v (.int .i64 y)] (· = .v (.int .i64 (((hash0 x y T.length + d) % T.length : Nat) : Int))) := by
  obtain ⟨n, hnT⟩ : ∃ n, n = T.length := ⟨_, rfl⟩
  rw [← hnT] at hn hn' hT ho hs ⊢
  refine pcon_run 1000 Try.func97 rfl Try.results97 Try.ntmps97 (Nat.le_of_ble_eq_true rfl) ?_
  have b1 := Int.lt_tmod_of_pos (x * 7919 + y * 104729) (show (0 : Int) < n by omega)
  have b2 := Int.tmod_lt_of_pos (x * 7919 + y * 104729) (show (0 : Int) < n by omega)
  have b3 : 0 ≤ ((x * 7919 + y * 104729).tmod (n : Int) + n).tmod (n : Int) := Int.tmod_nonneg _ (by omega)
  have e1 : IntKind.i64.wrap (x * 7919) = x * 7919 := wrap64 (by omega) (by omega)
  have e2 : IntKind.i64.wrap (y * 104729) = y * 104729 := wrap64 (by omega) (by omega)
  have e3 : IntKind.i64.wrap (x * 7919 + y * 104729) = x * 7919 + y * 104729 := wrap64 (by omega) (by omega)
  have e4 : IntKind.i64.wrap ((x * 7919 + y * 104729).tmod (n : Int)) = (x * 7919 + y * 104729).tmod (n : Int) := wrap64 (by omega) (by omega)
  have e5 : IntKind.i64.wrap ((x * 7919 + y * 104729).tmod (n : Int) + n) = (x * 7919 + y * 104729).tmod (n : Int) + n := wrap64 (by omega) (by omega)
  have e6 : ((x * 7919 + y * 104729).tmod (n : Int) + n).tmod (n : Int) = (hash0 x y n : Int) := by unfold hash0; omega
  have hlt := hash_lt x y hn
  have e7 : IntKind.i64.wrap (hash0 x y n : Int) = (hash0 x y n : Int) := wrap64 (by omega) (by omega)
  have hz : ((n : Int) = 0) = False := eq_false (by omega)
  simp (maxSteps := 1000000) -implicitDefEqProofs only [go_sem, ↓reduceIte, reduceCtorEq, Nat.reduceEqDiff, Nat.reduceLT, Nat.reduceAdd, Nat.reduceLeDiff, ← hnT, e1, e2, e3, e4, e5, e6, e7, hz]
  (repeat' (first | exact trivial | contradiction | exact ⟨_, rfl⟩ | refine And.intro ?_ ?_ | ((first | show (_ : Nat) ≤ _ | show (_ : Nat) < _ | show (_ : Int) ≤ _ | show (_ : Int) < _); omega) | (refine wait_draw 1000 mixed (by decide +kernel) ?_; simp (maxSteps := 1000000) -implicitDefEqProofs only [go_sem, ↓reduceIte, reduceCtorEq, Nat.reduceEqDiff, Nat.reduceLT, Nat.reduceAdd, Nat.reduceLeDiff , ← hnT, e1, e2, e3, e4, e5, e6, e7, hz]) | intro _))
  refine wait_range d (fun k => ⟨72, 0, [(0, .fptr (.fsl 1 (T.map iA) :: .fsl 1 (X.map iA) :: .fsl 1 (Y.map iA) :: rest)), (1, .v (.int .i64 x)), (2, .v (.int .i64 y)), (7, .v (.int .i64 (n : Int))), (8, .v (.int .i64 (((hash0 x y n + k) % n : Nat) : Int)))], []⟩)
    (fun _ => True) (weak_to [0, 1, 2, 7, 8] [] ?_ (by simp) (fun i h => by cases h)) trivial ?_
  · simp (maxSteps := 1000000) -implicitDefEqProofs only [go_sem, ↓reduceIte, reduceCtorEq, Nat.reduceEqDiff, Nat.reduceLT, Nat.reduceAdd, Nat.reduceLeDiff, St.keep, renL_iA, hr, Nat.mod_eq_of_lt hlt]
  · intro k hk _
    refine run_sound 1000 _ _ ?_
    obtain ⟨p, hp⟩ : ∃ p, p = (hash0 x y n + k) % n := ⟨_, rfl⟩
    have hpn : p < n := by rw [hp]; exact Nat.mod_lt _ hn
    have gT := getD_iA T p (by omega)
    have hTk := hT k hk
    rw [← hp] at hTk ⊢
    have e8 : ((p : Int) < (n : Int)) = True := eq_true (by omega)
    have e9 : IntKind.i64.wrap ((p : Int) + 1) = (p : Int) + 1 := wrap64 (by omega) (by omega)
    have e10 : ((p : Int) + 1).tmod (n : Int) = (((hash0 x y n + (k + 1)) % n : Nat) : Int) := by
      have h1 : (hash0 x y n + (k + 1)) % n = (p + 1) % n := by rw [hp, ← Nat.add_assoc]; simp
      rw [Int.tmod_eq_emod_of_nonneg (by omega), h1, Int.natCast_emod]
      rfl
    have e11 : IntKind.i64.wrap (((hash0 x y n + (k + 1)) % n : Nat) : Int) = (((hash0 x y n + (k + 1)) % n : Nat) : Int) := by
      have := Nat.mod_lt (hash0 x y n + (k + 1)) hn
      exact wrap64 (by omega) (by omega)
    obtain ⟨v, hv⟩ : ∃ v, v = T.getD p 0 := ⟨_, rfl⟩
    rw [← hv] at gT hTk
    have key : occ T X Y x y p = (decide (0 ≤ v) && (decide (X.getD v.toNat 0 ≠ x) || decide (Y.getD v.toNat 0 ≠ y))) := by unfold occ; rw [← hv]
    obtain ⟨a, ha⟩ : ∃ a, a = X.getD v.toNat 0 := ⟨_, rfl⟩
    obtain ⟨b, hb⟩ : ∃ b, b = Y.getD v.toNat 0 := ⟨_, rfl⟩
    rw [← ha, ← hb] at key
    have hgo : occ T X Y x y p = true → k < d := fun h => by
      rcases Nat.lt_or_ge k d with h1 | h1
      · exact h1
      · have h2 : k = d := by omega
        rw [hp, h2, hs] at h
        cases h
    have hend : occ T X Y x y p = false → k = d := fun h => by
      rcases Nat.lt_or_ge k d with h1 | h1
      · have := ho k h1
        rw [← hp, h] at this
        cases this
      · omega
    by_cases hv0 : 0 ≤ v
    · have f1 : (v < 0) = False := eq_false (by omega)
      have f2 : (0 ≤ v) = True := eq_true hv0
      have gX := getD_iA X v.toNat (by omega)
      have gY := getD_iA Y v.toNat (by omega)
      rw [← ha] at gX
      rw [← hb] at gY
      have f3 : (v < (X.length : Int)) = True := eq_true hTk
      have f4 : (v < (Y.length : Int)) = True := eq_true (by omega)
      simp (maxSteps := 1000000) -implicitDefEqProofs only [go_sem, ↓reduceIte, reduceCtorEq, Nat.reduceEqDiff, Nat.reduceLT, Nat.reduceAdd, Nat.reduceLeDiff, ← hnT, gT, e8, iA, f1, f2, f3, f4, gX, gY]
      (repeat' (first | exact trivial | contradiction | exact ⟨_, rfl⟩ | refine And.intro ?_ ?_ | ((first | show (_ : Nat) ≤ _ | show (_ : Nat) < _ | show (_ : Int) ≤ _ | show (_ : Int) < _); omega) | (refine wait_draw 1000 mixed (by decide +kernel) ?_; simp (maxSteps := 1000000) -implicitDefEqProofs only [go_sem, ↓reduceIte, reduceCtorEq, Nat.reduceEqDiff, Nat.reduceLT, Nat.reduceAdd, Nat.reduceLeDiff , ← hnT, gT, e8, iA, f1, f2, f3, f4, gX, gY, e9, e10, e11, hz]) | intro _))
      all_goals first
        | exact hgo (by rw [key]; simp only [Bool.and_eq_true, Bool.or_eq_true, decide_eq_true_eq]; omega)
        | ((refine weak_to [0, 1, 2, 7, 8] [] ?_ (by simp) (fun i h => by cases h); simp (maxSteps := 1000000) -implicitDefEqProofs only [go_sem, ↓reduceIte, reduceCtorEq, Nat.reduceEqDiff, Nat.reduceLT, Nat.reduceAdd, Nat.reduceLeDiff, St.keep, renL_iA, hr]; done))
        | ((have hk2 := hend (by rw [key]; simp only [Bool.and_eq_false_iff, Bool.or_eq_false_iff, decide_eq_false_iff_not]; omega); rw [hp, hk2]))
    · have f1 : (v < 0) = True := eq_true (by omega)
      have f2 : (0 ≤ v) = False := eq_false hv0
      simp (maxSteps := 1000000) -implicitDefEqProofs only [go_sem, ↓reduceIte, reduceCtorEq, Nat.reduceEqDiff, Nat.reduceLT, Nat.reduceAdd, Nat.reduceLeDiff, ← hnT, gT, e8, iA, f1, f2]
      (repeat' (first | exact trivial | contradiction | exact ⟨_, rfl⟩ | refine And.intro ?_ ?_ | ((first | show (_ : Nat) ≤ _ | show (_ : Nat) < _ | show (_ : Int) ≤ _ | show (_ : Int) < _); omega) | (refine wait_draw 1000 mixed (by decide +kernel) ?_; simp (maxSteps := 1000000) -implicitDefEqProofs only [go_sem, ↓reduceIte, reduceCtorEq, Nat.reduceEqDiff, Nat.reduceLT, Nat.reduceAdd, Nat.reduceLeDiff , ← hnT, gT, e8, iA, f1, f2, e9, e10, e11, hz]) | intro _))
      all_goals (have hk2 := hend (by rw [key]; simp only [Bool.and_eq_false_iff, Bool.or_eq_false_iff, decide_eq_false_iff_not]; omega); rw [hp, hk2])
end Go.Proofs.Ytiipggfhjkalfaa
/- What a tape means, the document's way: the table of places, a plain law. -/
set_option linter.unusedSimpArgs false
set_option linter.unusedVariables false
set_option maxRecDepth 20000
open Go Go.Proofs
namespace Go.Proofs.Ytiipggfhjkalfaa
open Pm
attribute [local irreducible] Wait CallT CallW NextT Le Weak
def kF (p : Pl) : List Pl → Nat → Option Nat
  | [], _ => none
  | q :: l, n => if p = q then some n else kF p l (n + 1)
/-- The number of a place, -1 if it is none. -/
def kI (K : List Pl) (p : Pl) : Int := match kF p K 0 with
  | some i => (i : Int)
  | none => -1
theorem kF_some {p : Pl} : ∀ {l : List Pl} {n i : Nat}, kF p l n = some i → n ≤ i ∧ i < n + l.length ∧ l[i - n]? = some p
  | [], n, i, h => by cases h
  | q :: l, n, i, h => by
    simp only [kF] at h
    split at h
    · rename_i e; cases h; exact ⟨Nat.le_refl _, by simp, by simp [e]⟩
    · have := kF_some h
      refine ⟨by omega, by simp only [List.length_cons]; omega, ?_⟩
      rw [show i - n = (i - (n + 1)) + 1 by omega, List.getElem?_cons_succ]
      exact this.2.2
theorem kF_none {p : Pl} : ∀ {l : List Pl} {n : Nat}, kF p l n = none ↔ p ∉ l
  | [], n => by simp [kF]
  | q :: l, n => by
    simp only [kF, List.mem_cons, not_or]
    split
    · rename_i e; simp [e]
    · rename_i e; rw [kF_none]; simp [e]
theorem kF_at {p : Pl} : ∀ {l : List Pl} {n i : Nat}, l.Nodup → l[i]? = some p → kF p l n = some (n + i)
  | [], n, i, _, h => by simp at h
  | q :: l, n, 0, _, h => by simp only [List.getElem?_cons_zero, Option.some.injEq] at h; simp [kF, h]
  | q :: l, n, i + 1, hn, h => by
    simp only [List.getElem?_cons_succ] at h
    have hm : p ∈ l := List.mem_of_getElem? h
    have hq : p ≠ q := fun e => (List.nodup_cons.1 hn).1 (e ▸ hm)
    simp only [kF, if_neg hq, kF_at (List.nodup_cons.1 hn).2 h]
    rw [show n + 1 + i = n + (i + 1) by omega]
theorem kI_none {K : List Pl} {p : Pl} (h : p ∉ K) : kI K p = -1 := by unfold kI; rw [kF_none.2 h]
theorem kI_at {K : List Pl} {p : Pl} {i : Nat} (hn : K.Nodup) (h : K[i]? = some p) : kI K p = i := by unfold kI; rw [kF_at hn h]; simp
theorem kI_mem {K : List Pl} {p : Pl} (h : p ∈ K) : ∃ i : Nat, kI K p = i ∧ i < K.length ∧ K[i]? = some p := by
  cases hk : kF p K 0 with
  | none => exact absurd h (kF_none.1 hk)
  | some i =>
    have := kF_some hk
    exact ⟨i, by unfold kI; rw [hk], by omega, by simpa using this.2.2⟩
/-- The first m places lie in the table. -/
structure Tab (T : List Int) (K : List Pl) (m : Nat) : Prop where
  pos : m < T.length
  rng : ∀ h, h < T.length → T.getD h 0 < 0 ∨ (T.getD h 0).toNat < m
  chain : ∀ i, i < m → ∃ d, T.getD ((hash0 (K.getD i (0, 0)).1 (K.getD i (0, 0)).2 T.length + d) % T.length) 0 = (i : Int) ∧
    ∀ e, e < d → 0 ≤ T.getD ((hash0 (K.getD i (0, 0)).1 (K.getD i (0, 0)).2 T.length + e) % T.length) 0
  cnt : (T.filter fun v => decide (0 ≤ v)).length ≤ m
theorem filter_all {l : List Int} {p : Int → Bool} (h : ∀ i, i < l.length → p (l.getD i 0) = true) : (l.filter p).length = l.length := by
  induction l with
  | nil => rfl
  | cons a l ih =>
    have h0 := h 0 (by simp)
    simp only [List.getD_cons_zero] at h0
    rw [List.filter_cons_of_pos h0]
    simp only [List.length_cons]
    rw [ih fun i hi => by have := h (i + 1) (by simpa using hi); simpa using this]
theorem Tab.empty {T : List Int} {K : List Pl} {m : Nat} (h : Tab T K m) : ∃ z, z < T.length ∧ T.getD z 0 < 0 := by
  refine Classical.byContradiction fun hc => ?_
  have := filter_all (l := T) (p := fun v => decide (0 ≤ v)) fun i hi => by
    have : ¬ T.getD i 0 < 0 := fun h0 => hc ⟨i, hi, h0⟩
    simp only [decide_eq_true_eq]; omega
  have h1 := h.cnt
  have h2 := h.pos
  omega
theorem reach {n h z : Nat} (hh : h < n) (hz : z < n) : ∃ d, (h + d) % n = z := by
  rcases Nat.lt_or_ge z h with h1 | h1
  · exact ⟨z + n - h, by rw [show h + (z + n - h) = z + n by omega, Nat.add_mod_right, Nat.mod_eq_of_lt hz]⟩
  · exact ⟨z - h, by rw [show h + (z - h) = z by omega, Nat.mod_eq_of_lt hz]⟩
theorem least {p : Nat → Bool} : ∀ {d : Nat}, p d = false → ∃ e, p e = false ∧ ∀ k, k < e → p k = true
  | 0, h => ⟨0, h, fun k hk => by omega⟩
  | d + 1, h => by
    by_cases h0 : ∃ e, e ≤ d ∧ p e = false
    · obtain ⟨e, he, hp⟩ := h0
      exact least (d := e) hp
    · refine ⟨d + 1, h, fun k hk => ?_⟩
      cases hp : p k with
      | true => rfl
      | false => exact absurd ⟨k, by omega, hp⟩ h0
  termination_by d => d
  decreasing_by omega
/-- Where a place is found, or would be put. -/
theorem Tab.find {T : List Int} {K : List Pl} {m : Nat} (h : Tab T K m) (hm : m ≤ K.length) (hn : K.Nodup) (x y : Int) :
    ∃ d, (∀ e, e < d → occ T (K.map Prod.fst) (K.map Prod.snd) x y ((hash0 x y T.length + e) % T.length) = true) ∧ occ T (K.map Prod.fst) (K.map Prod.snd) x y ((hash0 x y T.length + d) % T.length) = false ∧
      ((x, y) ∈ K.take m → T.getD ((hash0 x y T.length + d) % T.length) 0 = kI K (x, y)) ∧ ((x, y) ∉ K.take m → T.getD ((hash0 x y T.length + d) % T.length) 0 < 0) := by
  have hT : 0 < T.length := Nat.lt_of_le_of_lt (Nat.zero_le _) h.pos
  obtain ⟨z, hz, hzn⟩ := h.empty
  obtain ⟨d0, hd0⟩ := reach (hash_lt x y hT) hz
  obtain ⟨d, hd, hlt⟩ := least (p := fun e => occ T (K.map Prod.fst) (K.map Prod.snd) x y ((hash0 x y T.length + e) % T.length)) (d := d0) (by simp only [hd0, occ]; rw [decide_eq_false (by omega)]; rfl)
  refine ⟨d, hlt, hd, ?_, ?_⟩
  · intro hmem
    obtain ⟨i, hi, hik⟩ := List.getElem_of_mem hmem
    have hi' : i < m := by simp only [List.length_take] at hi; omega
    have hKi : K[i]? = some (x, y) := by rw [← hik, List.getElem_take, List.getElem?_eq_getElem]
    have hKd : K.getD i (0, 0) = (x, y) := by rw [List.getD_eq_getElem?_getD, hKi]; rfl
    obtain ⟨c, hc, hce⟩ := h.chain i hi'
    rw [hKd] at hc hce
    simp only at hc hce
    have hfree : occ T (K.map Prod.fst) (K.map Prod.snd) x y ((hash0 x y T.length + c) % T.length) = false := by
      simp only [occ, hc]
      have h1 : (K.map Prod.fst).getD i 0 = x := by simp [List.getD_eq_getElem?_getD, hKi]
      have h2 : (K.map Prod.snd).getD i 0 = y := by simp [List.getD_eq_getElem?_getD, hKi]
      simp only [Int.toNat_natCast, h1, h2]; simp
    have hdc : d ≤ c := by
      rcases Nat.lt_or_ge c d with h1 | h1
      · have := hlt c h1; simp only [hfree] at this; cases this
      · exact h1
    have hv : 0 ≤ T.getD ((hash0 x y T.length + d) % T.length) 0 := by
      rcases Nat.lt_or_ge d c with h1 | h1
      · exact hce d h1
      · rw [show d = c by omega, hc]; omega
    obtain ⟨v, hvv⟩ : ∃ v, v = T.getD ((hash0 x y T.length + d) % T.length) 0 := ⟨_, rfl⟩
    have hvm : v.toNat < m := by
      rcases h.rng _ (Nat.mod_lt (hash0 x y T.length + d) hT) with h1 | h1
      · omega
      · rw [hvv]; exact h1
    simp only [occ, ← hvv] at hd
    rw [← hvv] at hv ⊢
    have hX : (K.map Prod.fst).getD v.toNat 0 = (K.getD v.toNat (0, 0)).1 := by simp [List.getD_eq_getElem?_getD, show v.toNat < K.length by omega]
    have hY : (K.map Prod.snd).getD v.toNat 0 = (K.getD v.toNat (0, 0)).2 := by simp [List.getD_eq_getElem?_getD, show v.toNat < K.length by omega]
    rw [hX, hY] at hd
    simp only [Bool.and_eq_false_iff, Bool.or_eq_false_iff, decide_eq_false_iff_not, Decidable.not_not] at hd
    rcases hd with hd | ⟨hd1, hd2⟩
    · exact absurd hv hd
    · have : K[v.toNat]? = some (x, y) := by
        rw [List.getElem?_eq_getElem (by omega)]
        rw [List.getD_eq_getElem?_getD, List.getElem?_eq_getElem (by omega)] at hd1 hd2
        exact congrArg some (Prod.ext hd1 hd2)
      rw [kI_at hn this]; omega
  · intro hmem
    obtain ⟨v, hvv⟩ : ∃ v, v = T.getD ((hash0 x y T.length + d) % T.length) 0 := ⟨_, rfl⟩
    simp only [occ, ← hvv] at hd
    rw [← hvv]
    refine Classical.byContradiction fun hv => ?_
    have hvm : v.toNat < m := by
      rcases h.rng _ (Nat.mod_lt (hash0 x y T.length + d) hT) with h1 | h1
      · omega
      · rw [hvv]; exact h1
    have hX : (K.map Prod.fst).getD v.toNat 0 = (K.getD v.toNat (0, 0)).1 := by simp [List.getD_eq_getElem?_getD, show v.toNat < K.length by omega]
    have hY : (K.map Prod.snd).getD v.toNat 0 = (K.getD v.toNat (0, 0)).2 := by simp [List.getD_eq_getElem?_getD, show v.toNat < K.length by omega]
    rw [hX, hY] at hd
    simp only [Bool.and_eq_false_iff, Bool.or_eq_false_iff, decide_eq_false_iff_not, Decidable.not_not] at hd
    rcases hd with hd | ⟨hd1, hd2⟩
    · exact hd (by omega)
    · apply hmem
      rw [List.getD_eq_getElem?_getD, List.getElem?_eq_getElem (by omega)] at hd1 hd2
      have : K[v.toNat] = (x, y) := Prod.ext hd1 hd2
      rw [← this]
      have hl : v.toNat < (K.take m).length := by rw [List.length_take]; omega
      rw [show K[v.toNat] = (K.take m)[v.toNat] by rw [List.getElem_take]]
      exact List.getElem_mem hl
/-- A place is put where it would be found. -/
theorem Tab.put {T : List Int} {K : List Pl} {m : Nat} (h : Tab T K m) (hm : m < K.length) (hT : m + 1 < T.length) {d : Nat}
    (ho : ∀ e, e < d → 0 ≤ T.getD ((hash0 (K.getD m (0, 0)).1 (K.getD m (0, 0)).2 T.length + e) % T.length) 0) (hd : T.getD ((hash0 (K.getD m (0, 0)).1 (K.getD m (0, 0)).2 T.length + d) % T.length) 0 < 0) :
    Tab (T.set ((hash0 (K.getD m (0, 0)).1 (K.getD m (0, 0)).2 T.length + d) % T.length) (m : Int)) K (m + 1) := by
  obtain ⟨z, hz⟩ : ∃ z, z = (hash0 (K.getD m (0, 0)).1 (K.getD m (0, 0)).2 T.length + d) % T.length := ⟨_, rfl⟩
  rw [← hz] at hd ⊢
  have hzn : z < T.length := by rw [hz]; exact Nat.mod_lt _ (by omega)
  have hget : ∀ i, (T.set z (m : Int)).getD i 0 = if i = z then (m : Int) else T.getD i 0 := fun i => by
    rw [List.getD_eq_getElem?_getD, List.getElem?_set]
    by_cases hi : z = i
    · subst hi; simp [hzn]
    · rw [if_neg hi, if_neg (Ne.symm hi), List.getD_eq_getElem?_getD]
  have keep : ∀ i, 0 ≤ T.getD i 0 → (T.set z (m : Int)).getD i 0 = T.getD i 0 := fun i hi => by
    rw [hget, if_neg]
    rintro rfl
    omega
  refine ⟨by rw [List.length_set]; exact hT, fun i hi => ?_, fun i hi => ?_, ?_⟩
  · rw [hget]
    split
    · right; omega
    · rcases h.rng i (by simpa using hi) with h1 | h1
      · exact .inl h1
      · right; omega
  · rw [List.length_set]
    rcases Nat.lt_or_ge i m with him | him
    · obtain ⟨c, hc, hce⟩ := h.chain i him
      refine ⟨c, ?_, fun e he => ?_⟩
      · rw [keep _ (by rw [hc]; omega), hc]
      · rw [keep _ (hce e he)]; exact hce e he
    · have : i = m := by omega
      subst this
      refine ⟨d, ?_, fun e he => ?_⟩
      · rw [← hz, hget, if_pos rfl]
      · rw [keep _ (ho e he)]; exact ho e he
  · have key : ∀ (l : List Int) (i : Nat) (v : Int), ((l.set i v).filter fun v => decide (0 ≤ v)).length ≤ (l.filter fun v => decide (0 ≤ v)).length + 1 := by
      intro l
      induction l with
      | nil => intro i v; simp
      | cons a l ih =>
        intro i v
        cases i with
        | zero =>
          simp only [List.set_cons_zero, List.filter_cons]
          split <;> split <;> (try simp only [List.length_cons]) <;> omega
        | succ i =>
          simp only [List.set_cons_succ, List.filter_cons]
          have := ih i v
          split <;> simp <;> omega
    have := key T z m
    have := h.cnt
    omega
theorem Tab.new {n : Nat} (hn : 0 < n) (K : List Pl) : Tab (List.replicate n (-1)) K 0 := by
  refine ⟨by simpa using hn, fun h hh => ?_, fun i hi => by omega, ?_⟩
  · left; simp at hh; simp [List.getD_eq_getElem?_getD, hh]
  · rw [List.filter_replicate]; simp
end Go.Proofs.Ytiipggfhjkalfaa
