import Derived.Test.YtdgoompjoeffcaaGreatProg
import Derived.Test.YtdgoompjoeffcaaGreatPmY
import Derived.Test.YtdgoompjoeffcaaGreatDwW
import Derived.Test.YtdgoompjoeffcaaGreatMmN
/- A tape that describes: how large its parts are. -/
set_option linter.unusedSimpArgs false
set_option linter.unusedVariables false
set_option maxRecDepth 20000
open Go Go.Proofs
namespace Go.Proofs.YtdgoompjoeffcaaGreat
open Pm
attribute [local irreducible] Wait CallT CallW NextT Le Weak
theorem cmp_neg {a b : Ce} (h : ¬ 0 ≤ cmpE a b) : a.1.2 < b.1.2 ∨ a.1.2 = b.1.2 ∧ a.1.1 < b.1.1 := by
  unfold cmpE cmpI at h
  (repeat' split at h) <;> omega
theorem firstE_zero (f : Nat → Int) (e : Int) : ∀ (n i : Nat), firstE f n i e = 0 → (∀ j, i ≤ j → j < i + n → f j = 0) ∧ e = 0
  | 0, i, h => ⟨fun j a b => by omega, h⟩
  | n + 1, i, h => by
    simp only [firstE] at h
    by_cases h0 : f i = 0
    · rw [if_pos h0] at h
      obtain ⟨h1, h2⟩ := firstE_zero f e n (i + 1) h
      refine ⟨fun j a b => ?_, h2⟩
      by_cases e1 : j = i
      · subst e1; exact h0
      · exact h1 j (by omega) (by omega)
    · rw [if_neg h0] at h
      exact absurd h h0
theorem properE_ok {p : List Ce} (h : properE p = 0) : inOrder p ∧ (∀ c ∈ p, c.2 ≠ 0) ∧ p.length ≤ 65536 := by
  obtain ⟨h1, h2⟩ := firstE_zero _ _ _ _ h
  have hb : ∀ j, j < p.length → ¬ farP (p.getD j ((0, 0), 0)).1.1 (p.getD j ((0, 0), 0)).1.2 ∧ stB (p.getD j ((0, 0), 0)).2 = true ∧ (0 < j → ¬ 0 ≤ cmpE (p.getD (j - 1) ((0, 0), 0)) (p.getD j ((0, 0), 0))) := fun j hj => by
    have := h1 j (Nat.zero_le _) (by omega)
    unfold badE at this
    split at this
    · cases this
    · rename_i g1
      split at this
      · cases this
      · rename_i g2
        split at this
        · cases this
        · rename_i g3
          exact ⟨g1, by simpa using g2, fun a b => g3 ⟨a, b⟩⟩
  have step : ∀ j, 0 < j → j < p.length → (p.getD (j - 1) ((0, 0), 0)).1.2 < (p.getD j ((0, 0), 0)).1.2 ∨ (p.getD (j - 1) ((0, 0), 0)).1.2 = (p.getD j ((0, 0), 0)).1.2 ∧ (p.getD (j - 1) ((0, 0), 0)).1.1 < (p.getD j ((0, 0), 0)).1.1 := fun j h0 hj => cmp_neg ((hb j hj).2.2 h0)
  have all : ∀ d i, i + d + 1 < p.length → (p.getD i ((0, 0), 0)).1.2 < (p.getD (i + d + 1) ((0, 0), 0)).1.2 ∨ (p.getD i ((0, 0), 0)).1.2 = (p.getD (i + d + 1) ((0, 0), 0)).1.2 ∧ (p.getD i ((0, 0), 0)).1.1 < (p.getD (i + d + 1) ((0, 0), 0)).1.1 := by
    intro d
    induction d with
    | zero => intro i hi; exact step (i + 1) (by omega) hi
    | succ d ih =>
      intro i hi
      have a := ih i (by omega)
      have b := step (i + (d + 1) + 1) (by omega) hi
      rw [show i + (d + 1) + 1 - 1 = i + d + 1 by omega] at b
      omega
  refine ⟨?_, fun c hc => ?_, ?_⟩
  · unfold inOrder
    rw [List.pairwise_iff_getElem]
    intro i j hi hj hij
    have := all (j - i - 1) i (by omega)
    rw [show i + (j - i - 1) + 1 = j by omega, List.getD_eq_getElem?_getD, List.getElem?_eq_getElem hi, List.getD_eq_getElem?_getD, List.getElem?_eq_getElem hj] at this
    exact this
  · obtain ⟨j, hj, rfl⟩ := List.mem_iff_getElem.1 hc
    have := (hb j hj).2.1
    rw [List.getD_eq_getElem?_getD, List.getElem?_eq_getElem hj] at this
    unfold stB at this
    exact (of_decide_eq_true this).1
  · by_cases h3 : 65536 < p.length
    · rw [if_pos h3] at h2; cases h2
    · omega
def numOK (p : List Ce) : Prop := ∀ c ∈ p, (WrittenNumberE c.2).2 = 0
def roomOK (p : List Ce) : Prop := ∀ c ∈ p, -4000 ≤ c.1.1 ∧ c.1.1 ≤ 4000 ∧ -4000 ≤ c.1.2 ∧ c.1.2 ≤ -1
theorem times_len (n : Nat) (s : Int) : (timesP n s).length ≤ n := by rw [← timN_Q]; exact timN_len s n
theorem lineC_len (l : List (Nat × Int)) : (lineC l).length ≤ lineLen l := by rw [← runT_C]; exact runT_len l
theorem sideC_len (a b : Int) (l : List (Nat × Int)) : (sideC a b l).length ≤ 2 + 2 * lineLen l := by
  unfold sideC
  split
  · simp
  · have h1 := times_len (lineLen l) 5
    have h2 := lineC_len l
    simp only [List.length_cons, List.length_append, List.length_nil]
    omega
theorem rowC_len (r : Rw) : (rowC r).length ≤ 5 + 2 * lineLen r.west + 2 * lineLen r.east := by
  unfold rowC
  have h1 := sideC_len 6 7 r.west
  have h2 := sideC_len 7 6 r.east
  have h3 := times_len 1 (24 + r.mid)
  simp only [List.length_append]
  omega
theorem grpC_len (M : Nat) (hM : 1 ≤ M) (l : List Rw) : (∀ r ∈ l, (rowC r).length ≤ M) → (grpC l).length ≤ M * l.length := by
  unfold grpC
  induction l using grpF.induct with
  | case1 => intro _; rw [grpF]; exact Nat.zero_le _
  | case2 r l h ih =>
    intro hr
    have h1 := ih fun x hx => hr x (by simp [hx])
    have h2 := hr r (by simp)
    rw [grpF, if_pos h, List.flatMap_cons, List.length_append, List.length_cons, Nat.mul_succ]
    show (rowC r).length + _ ≤ _
    omega
  | case3 r l h ih =>
    intro hr
    have h1 := ih fun x hx => hr x (by simp [List.mem_of_mem_drop hx])
    rw [grpF, if_neg h, List.flatMap_cons, List.length_append, List.length_cons]
    have h2 := times_len (1 + (l.takeWhile fun s => !sided s && s.mid == r.mid).length) (24 + r.mid)
    have h3 : (l.takeWhile fun s => !sided s && s.mid == r.mid).length ≤ l.length := List.Sublist.length_le (List.takeWhile_sublist _)
    rw [List.length_drop] at h1
    show (timesP _ _).length + _ ≤ _
    generalize (l.takeWhile fun s => !sided s && s.mid == r.mid).length = t at h1 h2 h3 ⊢
    have h4 : M * (l.length + 1) = M * (l.length - t) + M * (1 + t) := by rw [← Nat.mul_add]; congr 1; omega
    have h5 : 1 + t ≤ M * (1 + t) := Nat.le_mul_of_pos_left _ hM
    omega
end Go.Proofs.YtdgoompjoeffcaaGreat
/- What a tape means, the document's way: places and where they lie in the table. -/
namespace Go.Proofs.YtdgoompjoeffcaaGreat
open Pm
attribute [local irreducible] Wait CallT CallW NextT Le Weak
theorem next_pc (x y d : Int) (h0 : 0 ≤ d) (h4 : d < 4) (hx : -9223372036854775807 ≤ x) (hx' : x < 9223372036854775807) (hy : -9223372036854775807 ≤ y) (hy' : y < 9223372036854775807) :
    PCon Tryz.prog 85 [.v (.int .i64 x), .v (.int .i64 y), .v (.int .i64 d)] (· = .tup [.v (.int .i64 (onP (x, y) d).1), .v (.int .i64 (onP (x, y) d).2)]) := by
  have hd : d = 0 ∨ d = 1 ∨ d = 2 ∨ d = 3 := by omega
  refine pcon_run 1000 Tryz.func85 rfl Tryz.results85 Tryz.ntmps85 (Nat.le_of_ble_eq_true rfl) ?_
  rcases hd with rfl | rfl | rfl | rfl
  all_goals
    simp -implicitDefEqProofs only [go_sem]
    (repeat' (first | exact trivial | contradiction | exact ⟨_, rfl⟩ | refine And.intro ?_ ?_ | (refine om ?_; omega)  | (refine wait_draw 1000 mixed (by decide +kernel) ?_; simp -implicitDefEqProofs only [go_sem]) | intro _))
    all_goals simp [fz_v, fz_tup, fzL_nil, fzL_cons, onP]
    all_goals (try rw [wrap64 (by omega) (by omega)])
    all_goals (try simp)
    all_goals (try omega)
def hash0 (x y : Int) (n : Nat) : Nat := (((x * 7919 + y * 104729).tmod (n : Int) + n).tmod (n : Int)).toNat
theorem hash_lt (x y : Int) {n : Nat} (hn : 0 < n) : hash0 x y n < n := by
  unfold hash0
  have h1 := Int.tmod_lt_of_pos ((x * 7919 + y * 104729).tmod (n : Int) + n) (show (0 : Int) < n by omega)
  omega
/-- The table's place h is taken by another place than (x, y). -/
def occ (T X Y : List Int) (x y : Int) (h : Nat) : Bool := decide (0 ≤ T.getD h 0) && (decide (X.getD (T.getD h 0).toNat 0 ≠ x) || decide (Y.getD (T.getD h 0).toNat 0 ≠ y))
theorem slot_pc (T X Y : List Int) (x y : Int) (rest : List AV) (d : Nat) (hn : 0 < T.length) (hn' : T.length < 1000000000) (hx : -100000 ≤ x ∧ x ≤ 100000) (hy : -100000 ≤ y ∧ y ≤ 100000) (hXY : Y.length = X.length) (hX : X.length < 1000000000) (hr : ∀ f, AV.renL f rest = rest)
    (hT : ∀ e, e ≤ d → T.getD ((hash0 x y T.length + e) % T.length) 0 < X.length)
    (ho : ∀ e, e < d → occ T X Y x y ((hash0 x y T.length + e) % T.length) = true) (hs : occ T X Y x y ((hash0 x y T.length + d) % T.length) = false) :
    PCon Tryz.prog 58 [.fptr (.fsl 1 (T.map iA) :: .fsl 1 (X.map iA) :: .fsl 1 (Y.map iA) :: rest), .v (.int .i64 x), .v (.int .i64 y)] (· = .v (.int .i64 (((hash0 x y T.length + d) % T.length : Nat) : Int))) := by
  obtain ⟨n, hnT⟩ : ∃ n, n = T.length := ⟨_, rfl⟩
  rw [← hnT] at hn hn' hT ho hs ⊢
  refine pcon_run 1000 Tryz.func58 rfl Tryz.results58 Tryz.ntmps58 (Nat.le_of_ble_eq_true rfl) ?_
  have b1 := Int.lt_tmod_of_pos (x * 7919 + y * 104729) (show (0 : Int) < n by omega)
  have b2 := Int.tmod_lt_of_pos (x * 7919 + y * 104729) (show (0 : Int) < n by omega)
  have b3 : 0 ≤ ((x * 7919 + y * 104729).tmod (n : Int) + n).tmod (n : Int) := Int.tmod_nonneg _ (by omega)
  have e1 : IntKind.i64.wrap (x * 7919) = x * 7919 := wrap64 (by omega) (by omega)
  have e2 : IntKind.i64.wrap (y * 104729) = y * 104729 := wrap64 (by omega) (by omega)
  have e3 : IntKind.i64.wrap (x * 7919 + y * 104729) = x * 7919 + y * 104729 := wrap64 (by omega) (by omega)
  have e4 : IntKind.i64.wrap ((x * 7919 + y * 104729).tmod (n : Int)) = (x * 7919 + y * 104729).tmod (n : Int) := wrap64 (by omega) (by omega)
  have e5 : IntKind.i64.wrap ((x * 7919 + y * 104729).tmod (n : Int) + n) = (x * 7919 + y * 104729).tmod (n : Int) + n := wrap64 (by omega) (by omega)
  have e6 : ((x * 7919 + y * 104729).tmod (n : Int) + n).tmod (n : Int) = (hash0 x y n : Int) := by unfold hash0; omega
  have hlt := hash_lt x y hn
  have e7 : IntKind.i64.wrap (hash0 x y n : Int) = (hash0 x y n : Int) := wrap64 (by omega) (by omega)
  have hz : ((n : Int) = 0) = False := eq_false (by omega)
  simp -implicitDefEqProofs only [go_sem, ← hnT, e1, e2, e3, e4, e5, e6, e7, hz]
  (repeat' (first | exact trivial | contradiction | exact ⟨_, rfl⟩ | refine And.intro ?_ ?_ | (refine om ?_; omega)  | (refine wait_draw 1000 mixed (by decide +kernel) ?_; simp -implicitDefEqProofs only [go_sem , ← hnT, e1, e2, e3, e4, e5, e6, e7, hz]) | intro _))
  refine wait_range d (fun k => ⟨72, 0, [(0, .fptr (.fsl 1 (T.map iA) :: .fsl 1 (X.map iA) :: .fsl 1 (Y.map iA) :: rest)), (1, .v (.int .i64 x)), (2, .v (.int .i64 y)), (7, .v (.int .i64 (n : Int))), (8, .v (.int .i64 (((hash0 x y n + k) % n : Nat) : Int)))], []⟩)
    (fun _ => True) (weak_to [0, 1, 2, 7, 8] [] ?_ (by simp) (fun i h => by cases h)) trivial ?_
  · simp -implicitDefEqProofs only [go_sem, St.keep, renL_iA, hr, Nat.mod_eq_of_lt hlt]
  · intro k hk _
    refine run_sound 1000 _ _ ?_
    obtain ⟨p, hp⟩ : ∃ p, p = (hash0 x y n + k) % n := ⟨_, rfl⟩
    have hpn : p < n := by rw [hp]; exact Nat.mod_lt _ hn
    have gT := getD_iA T p (by omega)
    have hTk := hT k hk
    rw [← hp] at hTk ⊢
    have e8 : ((p : Int) < (n : Int)) = True := eq_true (by omega)
    have e9 : IntKind.i64.wrap ((p : Int) + 1) = (p : Int) + 1 := wrap64 (by omega) (by omega)
    have e10 : ((p : Int) + 1).tmod (n : Int) = (((hash0 x y n + (k + 1)) % n : Nat) : Int) := by
      have h1 : (hash0 x y n + (k + 1)) % n = (p + 1) % n := by rw [hp, ← Nat.add_assoc]; simp
      rw [Int.tmod_eq_emod_of_nonneg (by omega), h1, Int.natCast_emod]
      rfl
    have e11 : IntKind.i64.wrap (((hash0 x y n + (k + 1)) % n : Nat) : Int) = (((hash0 x y n + (k + 1)) % n : Nat) : Int) := by
      have := Nat.mod_lt (hash0 x y n + (k + 1)) hn
      exact wrap64 (by omega) (by omega)
    obtain ⟨v, hv⟩ : ∃ v, v = T.getD p 0 := ⟨_, rfl⟩
    rw [← hv] at gT hTk
    have key : occ T X Y x y p = (decide (0 ≤ v) && (decide (X.getD v.toNat 0 ≠ x) || decide (Y.getD v.toNat 0 ≠ y))) := by unfold occ; rw [← hv]
    obtain ⟨a, ha⟩ : ∃ a, a = X.getD v.toNat 0 := ⟨_, rfl⟩
    obtain ⟨b, hb⟩ : ∃ b, b = Y.getD v.toNat 0 := ⟨_, rfl⟩
    rw [← ha, ← hb] at key
    have hgo : occ T X Y x y p = true → k < d := fun h => by
      rcases Nat.lt_or_ge k d with h1 | h1
      · exact h1
      · have h2 : k = d := by omega
        rw [hp, h2, hs] at h
        cases h
    have hend : occ T X Y x y p = false → k = d := fun h => by
      rcases Nat.lt_or_ge k d with h1 | h1
      · have := ho k h1
        rw [← hp, h] at this
        cases this
      · omega
    by_cases hv0 : 0 ≤ v
    · have f1 : (v < 0) = False := eq_false (by omega)
      have f2 : (0 ≤ v) = True := eq_true hv0
      have gX := getD_iA X v.toNat (by omega)
      have gY := getD_iA Y v.toNat (by omega)
      rw [← ha] at gX
      rw [← hb] at gY
      have f3 : (v < (X.length : Int)) = True := eq_true hTk
      have f4 : (v < (Y.length : Int)) = True := eq_true (by omega)
      simp -implicitDefEqProofs only [go_sem, ← hnT, gT, e8, iA, f1, f2, f3, f4, gX, gY]
      (repeat' (first | exact trivial | contradiction | exact ⟨_, rfl⟩ | refine And.intro ?_ ?_ | (refine om ?_; omega)  | (refine wait_draw 1000 mixed (by decide +kernel) ?_; simp -implicitDefEqProofs only [go_sem , ← hnT, gT, e8, iA, f1, f2, f3, f4, gX, gY, e9, e10, e11, hz]) | intro _))
      all_goals first
        | exact hgo (by rw [key]; simp only [Bool.and_eq_true, Bool.or_eq_true, decide_eq_true_eq]; omega)
        | ((refine weak_to [0, 1, 2, 7, 8] [] ?_ (by simp) (fun i h => by cases h); simp -implicitDefEqProofs only [go_sem, St.keep, renL_iA, hr]; done))
        | ((have hk2 := hend (by rw [key]; simp only [Bool.and_eq_false_iff, Bool.or_eq_false_iff, decide_eq_false_iff_not]; omega); rw [hp, hk2]))
    · have f1 : (v < 0) = True := eq_true (by omega)
      have f2 : (0 ≤ v) = False := eq_false hv0
      simp -implicitDefEqProofs only [go_sem, ← hnT, gT, e8, iA, f1, f2]
      (repeat' (first | exact trivial | contradiction | exact ⟨_, rfl⟩ | refine And.intro ?_ ?_ | (refine om ?_; omega)  | (refine wait_draw 1000 mixed (by decide +kernel) ?_; simp -implicitDefEqProofs only [go_sem , ← hnT, gT, e8, iA, f1, f2, e9, e10, e11, hz]) | intro _))
      all_goals (have hk2 := hend (by rw [key]; simp only [Bool.and_eq_false_iff, Bool.or_eq_false_iff, decide_eq_false_iff_not]; omega); rw [hp, hk2])
end Go.Proofs.YtdgoompjoeffcaaGreat
