/- Books as texts: numbers (no program). -/
import Derived.Lib.ItoaLen
import Derived.Lib.ItoaMem
import Derived.Lib.ParseIntB
import Derived.Lib.ParseIntBCases
set_option linter.unusedSimpArgs false
set_option linter.unusedVariables false
namespace Go.Proofs.YtiipggfhjkalfaaDoor
namespace Kt
open Go.Lib
theorem dec_small {u : Nat} (h : u < 10) : decDigits u = [UInt8.ofNat (48 + u)] := decDigits_one h
theorem dec_big {u : Nat} (h : ¬ u < 10) : decDigits u = decDigits (u / 10) ++ [UInt8.ofNat (48 + u % 10)] := by rw [decDigits, dif_neg h]
theorem dig_nat {d : Nat} (h : d < 10) : (UInt8.ofNat (48 + d)).toNat = 48 + d := by rw [UInt8.toNat_ofNat']; omega
/-- What holds of one digit and of a number with a digit more. -/
theorem dec_ind {Q : Nat → Prop} (h1 : ∀ u, u < 10 → Q u) (h2 : ∀ u, ¬ u < 10 → Q (u / 10) → Q u) (u : Nat) : Q u := by
  induction u using Nat.strongRecOn with
  | _ u ih =>
    by_cases h : u < 10
    · exact h1 u h
    · exact h2 u h (ih (u / 10) (by omega))
theorem dec_range (u : Nat) : ∀ c ∈ decDigits u, 48 ≤ c.toNat ∧ c.toNat ≤ 57 := by
  induction u using dec_ind
  case' h2 u h ih => skip
  case' h1 u h => skip
  · intro c hc
    rw [dec_small h, List.mem_singleton] at hc
    subst hc
    rw [dig_nat h]
    omega
  · intro c hc
    rw [dec_big h, List.mem_append, List.mem_singleton] at hc
    rcases hc with hc | rfl
    · exact ih c hc
    · rw [dig_nat (by omega)]
      omega
theorem dec_ne (u : Nat) : decDigits u ≠ [] := by
  induction u using dec_ind
  case' h2 u h ih => skip
  case' h1 u h => skip
  · rw [dec_small h]; simp
  · rw [dec_big h]; simp
theorem dec_head (u : Nat) : 1 ≤ u → (decDigits u).getD 0 0 ≠ 48 := by
  induction u using dec_ind
  case' h2 u h ih => skip
  case' h1 u h => skip
  · intro h1
    rw [dec_small h]
    intro e
    have := congrArg UInt8.toNat e
    simp only [List.getD_cons_zero] at this
    rw [dig_nat h] at this
    simp at this
    omega
  · intro _
    have h3 := ih (by omega)
    rw [dec_big h]
    have hl : 0 < (decDigits (u / 10)).length := List.length_pos_iff.2 (dec_ne _)
    rwa [List.getD_eq_getElem?_getD, List.getElem?_append_left hl, ← List.getD_eq_getElem?_getD]
theorem dec_len (k : Nat) : ∀ u, u < 10 ^ (k + 1) → (decDigits u).length ≤ k + 1 := by
  induction k with
  | zero => intro u h; rw [dec_small (by simpa using h)]; simp
  | succ k ih =>
    intro u h
    by_cases h1 : u < 10
    · rw [dec_small h1]; simp
    · rw [dec_big h1, List.length_append, List.length_singleton]
      have := ih (u / 10) (by rw [Nat.pow_succ] at h; omega)
      omega
/-- Digits read one by one. -/
def valF : List UInt8 → Nat → Option Nat
  | [], acc => some acc
  | c :: r, acc => if 48 ≤ c.toNat ∧ c.toNat ≤ 57 then valF r (10 * acc + (c.toNat - 48)) else none
theorem valF_snoc (c : UInt8) : ∀ (l : List UInt8) (acc : Nat), valF (l ++ [c]) acc = (valF l acc).bind fun v => if 48 ≤ c.toNat ∧ c.toNat ≤ 57 then some (10 * v + (c.toNat - 48)) else none
  | [], acc => by simp [valF]
  | d :: l, acc => by
    rw [List.cons_append]
    unfold valF
    split
    · exact valF_snoc c l _
    · rfl
theorem valF_dec (u : Nat) : valF (decDigits u) 0 = some u := by
  induction u using dec_ind
  case' h2 u h ih => skip
  case' h1 u h => skip
  · rw [dec_small h]
    unfold valF
    rw [dig_nat h, if_pos (by omega)]
    unfold valF
    congr 1
    omega
  · rw [dec_big h, valF_snoc, ih, Option.bind_some, dig_nat (by omega), if_pos (by omega)]
    congr 1
    omega
theorem valF_lt : ∀ (l : List UInt8) (acc v : Nat), valF l acc = some v → v < (acc + 1) * 10 ^ l.length
  | [], acc, v, h => by simp only [valF, Option.some.injEq] at h; subst h; simp
  | c :: l, acc, v, h => by
    unfold valF at h
    split at h
    · have := valF_lt l _ v h
      rw [List.length_cons, Nat.pow_succ]
      have h2 : (10 * acc + (c.toNat - 48) + 1) * 10 ^ l.length ≤ (acc + 1) * 10 * 10 ^ l.length := Nat.mul_le_mul_right _ (by omega)
      have h3 : (acc + 1) * 10 * 10 ^ l.length = (acc + 1) * (10 ^ l.length * 10) := by rw [Nat.mul_assoc, Nat.mul_comm 10]
      omega
    · cases h
theorem puM_snoc (M : Nat) (c : UInt8) : ∀ (l : List UInt8) (acc : Nat), parseUintM M acc (l ++ [c]) = match parseUintM M acc l with
    | .ok v => if 48 ≤ c.toNat ∧ c.toNat ≤ 57 then if 1844674407370955162 ≤ v then .range else if M < v * 10 + (c.toNat - 48) then .range else .ok (v * 10 + (c.toNat - 48)) else NumEnd.syntax
    | e => e
  | [], acc => by simp [parseUintM]
  | d :: l, acc => by
    rw [List.cons_append]
    unfold parseUintM
    split
    · split
      · rfl
      · split
        · rfl
        · exact puM_snoc M c l _
    · rfl
theorem puM_dec (u : Nat) : u ≤ 18446744073709551615 → parseUintM 18446744073709551615 0 (decDigits u) = .ok u := by
  induction u using dec_ind
  case' h2 u h ih => skip
  case' h1 u h => skip
  · intro _
    rw [dec_small h]
    unfold parseUintM
    rw [dig_nat h, if_pos (by omega), if_neg (by omega), if_neg (by omega)]
    unfold parseUintM
    congr 1
    omega
  · intro hu
    rw [dec_big h, puM_snoc, ih (by omega)]
    simp only
    rw [dig_nat (by omega), if_pos (by omega), if_neg (by omega), if_neg (by omega)]
    congr 1
    omega
/-- What Go's library reads. -/
def pintB (w : List UInt8) : Option Int := match parseIntB 64 w with
  | .ok v => some v
  | _ => none
theorem pint_itoa (n : Int) (h0 : -9223372036854775808 ≤ n) (h1 : n ≤ 9223372036854775807) : pintB (itoa n) = some n := by
  by_cases hn : n < 0
  · obtain ⟨u, rfl⟩ : ∃ u : Nat, n = -(u : Int) := ⟨n.natAbs, by omega⟩
    rw [itoa_neg u (by omega)]
    have hu := puM_dec u (by omega)
    have : parseIntB 64 (45 :: decDigits u) = .ok (-(u : Int)) := by
      rw [parseIntB_minus]
      unfold parseUintB
      rw [if_neg (dec_ne u), show (2 ^ 64 - 1 : Nat) = 18446744073709551615 from rfl, hu]
      have h63 : ¬ (2 ^ (64 - 1) : Nat) < u := by
        have : (2 ^ (64 - 1) : Nat) = 9223372036854775808 := rfl
        omega
      simp [signedC, h63]
    unfold pintB
    rw [this]
  · obtain ⟨u, rfl⟩ : ∃ u : Nat, n = (u : Int) := ⟨n.toNat, by omega⟩
    rw [itoa_nonneg]
    have hu := puM_dec u (by omega)
    obtain ⟨c, r, hcr⟩ : ∃ c r, decDigits u = c :: r := by
      cases h : decDigits u with
      | nil => exact absurd h (dec_ne u)
      | cons c r => exact ⟨c, r, rfl⟩
    have hc := dec_range u c (by rw [hcr]; simp)
    have : parseIntB 64 (c :: r) = .ok (u : Int) := by
      rw [parseIntB_plain 64 c r (by omega) (by omega)]
      unfold parseUintB
      rw [if_neg (by simp), ← hcr, show (2 ^ 64 - 1 : Nat) = 18446744073709551615 from rfl, hu]
      have h63 : ¬ (2 ^ (64 - 1) : Nat) ≤ u := by
        have : (2 ^ (64 - 1) : Nat) = 9223372036854775808 := rfl
        omega
      simp [signlessC, h63]
    unfold pintB
    rw [hcr, this]
theorem pint_bounds {w : List UInt8} {v : Int} (h : pintB w = some v) : -9223372036854775808 ≤ v ∧ v ≤ 9223372036854775807 := by
  unfold pintB at h
  split at h
  · rename_i v' hv
    cases h
    have := parseIntBounds hv
    exact this
  · cases h
where
  parseIntBounds {l : List UInt8} {v : Int} (h : parseIntB 64 l = .ok v) : -9223372036854775808 ≤ v ∧ v ≤ 9223372036854775807 := by
    cases l with
    | nil => cases h
    | cons c r =>
      simp only [parseIntB] at h
      have e : (2 ^ (64 - 1) : Nat) = 9223372036854775808 := rfl
      split at h
      · cases h
      · cases h
      · rw [e] at h
        split at h
        · cases h
        · split at h
          · cases h
          · rename_i u _ h1 h2
            cases h
            split <;> omega
/-- What the document reads. -/
def numR (w : List UInt8) : Option Int :=
  if (if w.getD 0 0 = 45 then w.drop 1 else w).length = 0 ∨ 19 < (if w.getD 0 0 = 45 then w.drop 1 else w).length ∨ ((if w.getD 0 0 = 45 then w.drop 1 else w).getD 0 0 = 48 ∧ (w.getD 0 0 = 45 ∨ 1 < (if w.getD 0 0 = 45 then w.drop 1 else w).length)) then none
  else match valF (if w.getD 0 0 = 45 then w.drop 1 else w) 0 with
    | none => none
    | some n => if w.getD 0 0 = 45 then (if n ≤ 9223372036854775808 then some (-(n : Int)) else none) else (if n ≤ 9223372036854775807 then some (n : Int) else none)
theorem numR_itoa (n : Int) (h0 : -9223372036854775808 ≤ n) (h1 : n ≤ 9223372036854775807) : numR (itoa n) = some n := by
  by_cases hn : n < 0
  · obtain ⟨u, rfl⟩ : ∃ u : Nat, n = -(u : Int) := ⟨n.natAbs, by omega⟩
    rw [itoa_neg u (by omega)]
    have hl := dec_len 18 u (by omega)
    have hne := List.length_pos_iff.2 (dec_ne u)
    have hh := dec_head u (by omega)
    unfold numR
    simp only [List.getD_cons_zero, if_true, List.drop_one, List.tail_cons]
    rw [if_neg (by
      rintro (h | h | ⟨h, _⟩)
      · omega
      · omega
      · exact hh h), valF_dec]
    simp only
    rw [if_pos (by omega)]
  · obtain ⟨u, rfl⟩ : ∃ u : Nat, n = (u : Int) := ⟨n.toNat, by omega⟩
    rw [itoa_nonneg]
    have hl := dec_len 18 u (by omega)
    have hne := List.length_pos_iff.2 (dec_ne u)
    have h45 : (decDigits u).getD 0 0 ≠ 45 := by
      intro e
      obtain ⟨c, r, hcr⟩ : ∃ c r, decDigits u = c :: r := by
        cases h : decDigits u with
        | nil => exact absurd h (dec_ne u)
        | cons c r => exact ⟨c, r, rfl⟩
      rw [hcr, List.getD_cons_zero] at e
      have := dec_range u c (by rw [hcr]; simp)
      rw [e] at this
      simp at this
    unfold numR
    simp only [if_neg h45]
    rw [if_neg (by
      rintro (h | h | ⟨h, h2⟩)
      · omega
      · omega
      · rcases h2 with h2 | h2
        · exact h45 h2
        · by_cases hu : u < 10
          · rw [dec_small hu] at h2; simp at h2
          · exact dec_head u (by omega) h), valF_dec]
    simp only
    rw [if_pos (by omega)]
theorem numR_bounds {w : List UInt8} {v : Int} (h : numR w = some v) : -9223372036854775808 ≤ v ∧ v ≤ 9223372036854775807 := by
  unfold numR at h
  by_cases h45 : w.getD 0 0 = 45
  · simp only [if_pos h45] at h
    split at h
    · cases h
    · split at h
      · cases h
      · split at h
        · cases h; omega
        · cases h
  · simp only [if_neg h45] at h
    split at h
    · cases h
    · split at h
      · cases h
      · split at h
        · cases h; omega
        · cases h
theorem itoa_sep (n : Int) : (32 : UInt8) ∉ itoa n ∧ (10 : UInt8) ∉ itoa n := by
  have key : ∀ u, ∀ x : UInt8, x.toNat < 45 → x ∉ decDigits u := fun u x hx h => by
    have := dec_range u x h
    omega
  unfold itoa
  split
  · refine ⟨fun h => ?_, fun h => ?_⟩ <;> rcases List.mem_cons.1 h with h | h <;> first | (exact absurd h (by decide)) | exact key _ _ (by decide) h
  · exact ⟨key _ _ (by decide), key _ _ (by decide)⟩
theorem itoa_le (n : Int) (h0 : -9223372036854775808 ≤ n) (h1 : n ≤ 9223372036854775807) : (itoa n).length ≤ 21 := itoa_length_le n h0 h1
end Kt
end Go.Proofs.YtiipggfhjkalfaaDoor
