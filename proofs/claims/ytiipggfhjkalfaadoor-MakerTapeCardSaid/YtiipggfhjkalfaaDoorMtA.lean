/- Tapes and their words: the plain law (no program). -/
import Derived.Lib.Join
set_option linter.unusedSimpArgs false
set_option linter.unusedVariables false
namespace Go.Proofs.YtiipggfhjkalfaaDoor
namespace Mt
/-- A number below 100 in decimal. -/
def dig2 (n : Nat) : List UInt8 := if n < 10 then [UInt8.ofNat (48 + n)] else [UInt8.ofNat (48 + n / 10), UInt8.ofNat (48 + n % 10)]
/-- The word of a symbol. -/
def wordB (s : Nat) : List UInt8 :=
  if s = 1 then [115, 116, 97, 114, 116] else if s = 2 then [115, 116, 111, 112] else if s = 3 then [112, 111, 114, 116] else if s = 4 then [101, 110, 100]
  else if s = 5 then [102, 111, 114, 116, 104] else if s = 6 then [108, 101, 102, 116] else if s = 7 then [114, 105, 103, 104, 116]
  else if s < 24 then 100 :: dig2 (s - 8) else 119 :: dig2 (s - 24)
theorem word_inj : ∀ j, j < 96 → ∀ k, k < 96 → wordB (j + 1) = wordB (k + 1) → j = k := by decide +kernel
theorem word_sep : ∀ k, k < 96 → (32 : UInt8) ∉ wordB (k + 1) ∧ (10 : UInt8) ∉ wordB (k + 1) := by decide +kernel
theorem word_len : ∀ k, k < 96 → (wordB (k + 1)).length ≤ 6 := by decide +kernel
/-- The last number from 1 to n whose word it is; 0: none. -/
def symN (w : List UInt8) : Nat → Nat
  | 0 => 0
  | n + 1 => if wordB (n + 1) = w then n + 1 else symN w n
def symOf (w : List UInt8) : Nat := symN w 96
theorem symN_spec (w : List UInt8) : ∀ n, n ≤ 96 → (symN w n = 0 ∧ ∀ k, k < n → wordB (k + 1) ≠ w) ∨ ∃ k, k < n ∧ wordB (k + 1) = w ∧ symN w n = k + 1
  | 0, _ => .inl ⟨rfl, fun k hk => by omega⟩
  | n + 1, hn => by
    unfold symN
    by_cases h : wordB (n + 1) = w
    · rw [if_pos h]; exact .inr ⟨n, by omega, h, rfl⟩
    · rw [if_neg h]
      rcases symN_spec w n (by omega) with ⟨h1, h2⟩ | ⟨k, h1, h2, h3⟩
      · refine .inl ⟨h1, fun k hk => ?_⟩
        by_cases e : k = n
        · subst e; exact h
        · exact h2 k (by omega)
      · exact .inr ⟨k, by omega, h2, h3⟩
theorem symOf_spec (w : List UInt8) : (symOf w = 0 ∧ ∀ k, k < 96 → wordB (k + 1) ≠ w) ∨ ∃ k, k < 96 ∧ wordB (k + 1) = w ∧ symOf w = k + 1 := symN_spec w 96 (by omega)
theorem symOf_word (k : Nat) (hk : k < 96) : symOf (wordB (k + 1)) = k + 1 := by
  rcases symOf_spec (wordB (k + 1)) with ⟨_, h⟩ | ⟨j, hj, h1, h2⟩
  · exact absurd rfl (h k hk)
  · rw [h2, word_inj j hj k hk h1]
theorem symOf_le (w : List UInt8) : symOf w ≤ 96 := by
  rcases symOf_spec w with ⟨h, _⟩ | ⟨k, hk, _, h⟩ <;> omega
theorem symOf_sep {w : List UInt8} (h : symOf w ≠ 0) : (32 : UInt8) ∉ w ∧ (10 : UInt8) ∉ w := by
  rcases symOf_spec w with ⟨h1, _⟩ | ⟨k, hk, h1, _⟩
  · exact absurd h1 h
  · rw [← h1]; exact word_sep k hk
/-- A text cut at its spaces; cur: what has been read of the first piece. -/
def spl (cur : List UInt8) : List UInt8 → List (List UInt8)
  | [] => [cur]
  | c :: l => if c = 32 then cur :: spl [] l else spl (cur ++ [c]) l
theorem spl_len (l : List UInt8) : ∀ cur, (spl cur l).length = l.count 32 + 1 := by
  induction l with
  | nil => intro cur; simp [spl]
  | cons c l ih =>
    intro cur
    unfold spl
    by_cases h : c = 32
    · rw [if_pos h, List.length_cons, ih, h]; simp
    · rw [if_neg h, ih]; simp [List.count_cons, h]
theorem spl_first (l : List UInt8) (x : UInt8) : ∀ cur, x ∈ cur → ∃ w ws, spl cur l = w :: ws ∧ x ∈ w := by
  induction l with
  | nil => intro cur h; exact ⟨cur, [], rfl, h⟩
  | cons c l ih =>
    intro cur h
    unfold spl
    by_cases hc : c = 32
    · rw [if_pos hc]; exact ⟨cur, _, rfl, h⟩
    · rw [if_neg hc]; exact ih _ (by simp [h])
theorem spl_append (w : List UInt8) (hw : (32 : UInt8) ∉ w) : ∀ cur l, spl cur (w ++ l) = spl (cur ++ w) l := by
  induction w with
  | nil => intro cur l; simp
  | cons c w ih =>
    intro cur l
    simp only [List.mem_cons, not_or] at hw
    rw [List.cons_append, spl, if_neg (Ne.symm hw.1), ih hw.2]
    simp
/-- What the words say; none: one of them says nothing. -/
def readW (ws : List (List UInt8)) : Option (List Nat) := if ws.all (fun w => decide (symOf w ≠ 0)) = true then some (ws.map symOf) else none
/-- What a text spells: the program's way. -/
def unB (text : List UInt8) : Option (List Nat) :=
  if text.getLast? = some 10 then if 4096 ≤ text.dropLast.count 32 then none else readW (spl [] text.dropLast) else none
/-- The document's way: letter by letter; last: the letter before; cur: what has been read of the word; out: the symbols so far. -/
def goU : List UInt8 → UInt8 → List UInt8 → List Nat → Option (List Nat)
  | [], last, cur, out => if out = [] ∨ cur ≠ [] ∨ last ≠ 10 then none else some out
  | c :: rest, last, cur, out =>
    if c ≠ 32 ∧ c ≠ 10 then goU rest c (cur ++ [c]) out
    else if symOf cur = 0 ∨ (c = 10) ≠ (rest = []) then none
    else if 4096 < out.length + 1 then none
    else goU rest c [] (out ++ [symOf cur])
theorem go_bad (rest : List UInt8) : ∀ last cur out, rest ≠ [] → rest.getLast? ≠ some 10 → goU rest last cur out = none := by
  induction rest with
  | nil => intro last cur out h; exact absurd rfl h
  | cons c rest ih =>
    intro last cur out _ hl
    unfold goU
    by_cases hr : rest = []
    · subst hr
      have hc : c ≠ 10 := fun e => hl (by simp [e])
      by_cases h32 : c = 32
      · subst h32
        simp
      · rw [if_pos ⟨h32, hc⟩]
        simp [goU]
    · have hl' : rest.getLast? ≠ some 10 := by
        rw [List.getLast?_cons] at hl
        intro e
        rw [e] at hl
        exact hl rfl
      split
      · exact ih _ _ _ hr hl'
      · split
        · rfl
        · split
          · rfl
          · exact ih _ _ _ hr hl'
theorem go_good (line : List UInt8) : ∀ last cur out, (32 : UInt8) ∉ cur → (10 : UInt8) ∉ cur →
    goU (line ++ [10]) last cur out = if out.length + (line.count 32 + 1) ≤ 4096 then (readW (spl cur line)).map (out ++ ·) else none := by
  induction line with
  | nil =>
    intro last cur out h32 h10
    simp only [List.nil_append, goU, List.count_nil, spl, readW]
    by_cases hs : symOf cur = 0
    · simp [hs]
    · by_cases hl : 4096 < out.length + 1
      · simp [hs, hl, show ¬ (out.length + 1 ≤ 4096) by omega]
      · simp [hs, hl, show out.length + 1 ≤ 4096 by omega]
  | cons c line ih =>
    intro last cur out h32 h10
    rw [List.cons_append]
    unfold goU spl
    by_cases hc : c = 32
    · subst hc
      simp only [List.count_cons_self]
      by_cases hs : symOf cur = 0
      · simp [hs, readW]
      · by_cases hl : 4096 < out.length + 1
        · simp [hs, hl, show ¬ (out.length + (List.count 32 line + 1 + 1) ≤ 4096) by omega]
        · rw [if_neg (by simp), if_neg (by simp [hs]), if_neg hl, ih _ _ _ (by simp) (by simp)]
          simp only [if_true, List.length_append, List.length_cons, List.length_nil]
          have e : (out.length + (0 + 1) + (List.count 32 line + 1) ≤ 4096) = (out.length + (List.count 32 line + 1 + 1) ≤ 4096) := by apply propext; omega
          simp only [e]
          split
          · unfold readW
            by_cases ha : (spl [] line).all (fun w => decide (symOf w ≠ 0)) = true
            · rw [if_pos ha, if_pos (by simp only [List.all_cons, Bool.and_eq_true]; exact ⟨by simpa using hs, ha⟩)]
              simp
            · rw [if_neg ha, if_neg (by simp only [List.all_cons, Bool.and_eq_true]; exact fun h => ha h.2)]
              rfl
          · rfl
    · by_cases h1 : c = 10
      · subst h1
        rw [if_neg (by simp), if_neg hc]
        have hn : readW (spl (cur ++ [10]) line) = none := by
          obtain ⟨w, ws, e, hw⟩ := spl_first line 10 (cur ++ [10]) (by simp)
          unfold readW
          rw [e, if_neg]
          simp only [List.all_cons, Bool.and_eq_true, decide_eq_true_eq, ne_eq]
          exact fun h => (symOf_sep h.1).2 hw
        rw [hn]
        simp
      · rw [if_pos ⟨hc, h1⟩, if_neg hc, ih _ _ _ (by simp [h32, Ne.symm hc]) (by simp [h10, Ne.symm h1])]
        rw [List.count_cons_of_ne hc]
/-- The two ways are one. -/
theorem un_eq (text : List UInt8) : goU text 0 [] [] = unB text := by
  unfold unB
  by_cases h : text.getLast? = some 10
  · rw [if_pos h]
    have e : text = text.dropLast ++ [10] := by
      have hne : text ≠ [] := by rintro rfl; simp at h
      have := List.dropLast_concat_getLast hne
      rw [List.getLast?_eq_some_getLast hne] at h
      simp only [Option.some.injEq] at h
      rw [h] at this
      exact this.symm
    rw [e, go_good _ _ _ _ (by simp) (by simp)]
    rw [List.dropLast_concat]
    simp only [List.length_nil, Nat.zero_add, List.nil_append]
    by_cases hc : 4096 ≤ text.dropLast.count 32
    · rw [if_pos hc, if_neg (by omega)]
    · rw [if_neg hc, if_pos (by omega)]
      cases readW (spl [] text.dropLast) <;> rfl
  · rw [if_neg h]
    by_cases he : text = []
    · subst he; simp [goU]
    · exact go_bad _ _ _ _ he h
/-- A tape's text. -/
def spellB (t : List Nat) : List UInt8 := Go.Lib.join (t.map wordB) [32] ++ [10]
theorem join_two (x y : List UInt8) (r : List (List UInt8)) : Go.Lib.join (x :: y :: r) [32] = x ++ 32 :: Go.Lib.join (y :: r) [32] := by
  rw [Go.Lib.join_cons, Go.Lib.join_cons]
  simp [Go.Lib.joinTail]
theorem spl_join (ws : List (List UInt8)) (h : ∀ w ∈ ws, (32 : UInt8) ∉ w) (hne : ws ≠ []) : spl [] (Go.Lib.join ws [32]) = ws := by
  induction ws with
  | nil => exact absurd rfl hne
  | cons x r ih =>
    cases r with
    | nil =>
      rw [Go.Lib.join_one]
      have := spl_append x (h x (by simp)) [] []
      simpa [spl] using this
    | cons y r =>
      rw [join_two, spl_append x (h x (by simp)), List.nil_append, spl, if_pos rfl, ih (fun w hw => h w (by simp [hw])) (by simp)]
/-- What is spelt is read again. -/
theorem un_spell (t : List Nat) (h1 : t ≠ []) (h2 : t.length ≤ 4096) (h3 : ∀ s ∈ t, 1 ≤ s ∧ s ≤ 96) : unB (spellB t) = some t := by
  have hs := spl_join (t.map wordB) (by
    intro w hw
    obtain ⟨s, hs, rfl⟩ := List.mem_map.1 hw
    have := h3 s hs
    have := (word_sep (s - 1) (by omega)).1
    rwa [show s - 1 + 1 = s by omega] at this) (by simpa using h1)
  have hl := spl_len (Go.Lib.join (t.map wordB) [32]) []
  rw [hs, List.length_map] at hl
  unfold unB spellB
  rw [if_pos (by simp), List.dropLast_concat, if_neg (by omega), hs]
  unfold readW
  have key : ∀ s ∈ t, symOf (wordB s) = s := fun s hs => by
    have := h3 s hs
    have := symOf_word (s - 1) (by omega)
    rwa [show s - 1 + 1 = s by omega] at this
  rw [if_pos, List.map_map]
  · congr 1
    conv => rhs; rw [← List.map_id t]
    exact List.map_congr_left key
  · rw [List.all_eq_true]
    intro w hw
    obtain ⟨s, hs, rfl⟩ := List.mem_map.1 hw
    have := h3 s hs
    rw [key s hs]
    simp
    omega
end Mt
end Go.Proofs.YtiipggfhjkalfaaDoor
