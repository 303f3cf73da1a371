/- Books as texts: the plain law (no program). -/
import Derived.Test.YtiipggfhjkalfaaDoorKtA
import Derived.Lib.Join
set_option linter.unusedSimpArgs false
set_option linter.unusedVariables false
namespace Go.Proofs.YtiipggfhjkalfaaDoor
namespace Kt
open Go.Lib
/-- A text cut at a byte; cur: what has been read of the first piece. -/
def spl (c : UInt8) (cur : List UInt8) : List UInt8 → List (List UInt8)
  | [] => [cur]
  | x :: l => if x = c then cur :: spl c [] l else spl c (cur ++ [x]) l
theorem spl_ne (c : UInt8) (l : List UInt8) : ∀ cur, spl c cur l ≠ [] := by
  induction l with
  | nil => intro cur; simp [spl]
  | cons x l ih => intro cur; unfold spl; split <;> simp [ih]
theorem spl_len (c : UInt8) (l : List UInt8) : ∀ cur, (spl c cur l).length = l.count c + 1 := by
  induction l with
  | nil => intro cur; simp [spl]
  | cons x l ih =>
    intro cur
    unfold spl
    by_cases h : x = c
    · rw [if_pos h, List.length_cons, ih, h]; simp
    · rw [if_neg h, ih]; simp [List.count_cons, h]
theorem spl_append (c : UInt8) (w : List UInt8) (hw : c ∉ w) : ∀ cur l, spl c cur (w ++ l) = spl c (cur ++ w) l := by
  induction w with
  | nil => intro cur l; simp
  | cons x w ih =>
    intro cur l
    simp only [List.mem_cons, not_or] at hw
    rw [List.cons_append, spl, if_neg (Ne.symm hw.1), ih hw.2]
    simp
theorem spl_cut (c : UInt8) (w r : List UInt8) (h : c ∉ w) : spl c [] (w ++ c :: r) = w :: spl c [] r := by
  rw [spl_append c w h, List.nil_append, spl, if_pos rfl]
theorem spl_none (c : UInt8) (w : List UInt8) (h : c ∉ w) : spl c [] w = [w] := by
  have := spl_append c w h [] []
  simpa [spl] using this
theorem join_two (x y : List UInt8) (r : List (List UInt8)) : join (x :: y :: r) [32] = x ++ 32 :: join (y :: r) [32] := by
  rw [join_cons, join_cons]
  simp [joinTail]
theorem spl_join (ws : List (List UInt8)) (h : ∀ w ∈ ws, (32 : UInt8) ∉ w) (hne : ws ≠ []) : spl 32 [] (join ws [32]) = ws := by
  induction ws with
  | nil => exact absurd rfl hne
  | cons x r ih =>
    cases r with
    | nil => rw [join_one]; exact spl_none 32 x (h x (by simp))
    | cons y r => rw [join_two, spl_cut 32 x _ (h x (by simp)), ih (fun w hw => h w (by simp [hw])) (by simp)]
theorem join_sep (c : UInt8) (hc : c ≠ 32) : ∀ ws : List (List UInt8), (∀ w ∈ ws, c ∉ w) → c ∉ join ws [32]
  | [], _ => by simp [join_nil]
  | [x], h => by rw [join_one]; exact h x (by simp)
  | x :: y :: r, h => by
    rw [join_two, List.mem_append, List.mem_cons]
    rintro (h1 | h1 | h1)
    · exact h x (by simp) h1
    · exact hc h1
    · exact join_sep c hc (y :: r) (fun w hw => h w (by simp [hw])) h1
/-- Pieces, each with the byte behind it. -/
def ends (c : UInt8) (xs : List (List UInt8)) : List UInt8 := (xs.map (· ++ [c])).flatten
theorem ends_cons (c : UInt8) (x : List UInt8) (xs : List (List UInt8)) : ends c (x :: xs) = x ++ c :: ends c xs := by simp [ends]
theorem ends_snoc (c : UInt8) (x : List UInt8) (xs : List (List UInt8)) : ends c (xs ++ [x]) = ends c xs ++ (x ++ [c]) := by simp [ends]
theorem spl_ends (c : UInt8) : ∀ xs : List (List UInt8), (∀ x ∈ xs, c ∉ x) → spl c [] (ends c xs) = xs ++ [[]]
  | [], _ => rfl
  | x :: xs, h => by
    rw [ends_cons, spl_cut c x _ (h x (by simp)), spl_ends c xs (fun y hy => h y (by simp [hy]))]
    rfl
/-- A machine of a book; none: a tape that is nil. -/
structure Kin where
  no : Int
  par : Int
  gen : Int
  x : Int
  y : Int
  tape : Option (List Int)
  born : Int
  rest : Int
  halt : Int
def Kin.nums (k : Kin) : List Int := [k.no, k.par, k.gen, k.x, k.y, k.born, k.rest, k.halt]
def Kin.tl (k : Kin) : List Int := k.tape.getD []
def Kin.all (k : Kin) : List Int := k.nums ++ k.tl
/-- As it is read. -/
def Kin.norm (k : Kin) : Kin := { k with tape := if k.tl = [] then none else some k.tl }
def inI (n : Int) : Prop := -9223372036854775808 ≤ n ∧ n ≤ 9223372036854775807
def Kin.ok (k : Kin) : Prop := ∀ n ∈ k.all, inI n
def bodyB (k : Kin) : List UInt8 := join (k.all.map itoa) [32]
def headB (b : List Kin) : List UInt8 := [114, 97, 109, 101, 116, 32, 107, 105, 110, 32] ++ itoa b.length
def printB (b : List Kin) : List UInt8 := headB b ++ 10 :: ends 10 (b.map bodyB)
theorem norm_all (k : Kin) : k.norm.all = k.all := by
  unfold Kin.all Kin.nums Kin.norm Kin.tl
  simp only
  split
  · rename_i h; rw [h]; rfl
  · rfl
theorem norm_norm (k : Kin) : k.norm.norm = k.norm := by
  unfold Kin.norm Kin.tl
  simp only
  by_cases h : k.tape.getD [] = []
  · simp [h]
  · simp [h]
theorem print_norm (b : List Kin) : printB (b.map Kin.norm) = printB b := by
  unfold printB headB
  rw [List.length_map, List.map_map]
  congr 2
  congr 1
  refine List.map_congr_left fun k _ => ?_
  show bodyB k.norm = bodyB k
  unfold bodyB
  rw [norm_all]
theorem body_sep (k : Kin) : (10 : UInt8) ∉ bodyB k := join_sep 10 (by decide) _ (by
  intro w hw
  obtain ⟨n, _, rfl⟩ := List.mem_map.1 hw
  exact (itoa_sep n).2)
theorem head_sep (b : List Kin) : (10 : UInt8) ∉ headB b := by
  unfold headB
  rw [List.mem_append]
  rintro (h | h)
  · exact absurd h (by decide)
  · exact (itoa_sep _).2 h
theorem spl_print (b : List Kin) : (spl 10 [] (printB b)).drop 1 = b.map bodyB ++ [[]] := by
  unfold printB
  rw [spl_cut 10 _ _ (head_sep b), spl_ends 10 _ (by
    intro x hx
    obtain ⟨k, _, rfl⟩ := List.mem_map.1 hx
    exact body_sep k)]
  rfl
theorem spl_body (k : Kin) : spl 32 [] (bodyB k) = k.all.map itoa := spl_join _ (by
  intro w hw
  obtain ⟨n, _, rfl⟩ := List.mem_map.1 hw
  exact (itoa_sep n).1) (by simp [Kin.all, Kin.nums])
/-- Words read one by one. -/
def readW (f : List UInt8 → Option Int) : List (List UInt8) → Option (List Int)
  | [] => some []
  | w :: ws => match f w with
    | none => none
    | some n => (readW f ws).map (n :: ·)
theorem readW_len {f : List UInt8 → Option Int} : ∀ {ws : List (List UInt8)} {ns : List Int}, readW f ws = some ns → ns.length = ws.length
  | [], ns, h => by simp only [readW, Option.some.injEq] at h; subst h; rfl
  | w :: ws, ns, h => by
    unfold readW at h
    split at h
    · cases h
    · obtain ⟨l, hl, rfl⟩ := Option.map_eq_some_iff.1 h
      simp [readW_len hl]
theorem readW_itoa {f : List UInt8 → Option Int} (hf : ∀ n, inI n → f (itoa n) = some n) : ∀ ns : List Int, (∀ n ∈ ns, inI n) → readW f (ns.map itoa) = some ns
  | [], _ => rfl
  | n :: ns, h => by
    rw [List.map_cons]
    unfold readW
    rw [hf n (h n (by simp)), readW_itoa hf ns fun m hm => h m (by simp [hm])]
    rfl
theorem readW_bounds {f : List UInt8 → Option Int} (hf : ∀ w n, f w = some n → inI n) : ∀ {ws : List (List UInt8)} {ns : List Int}, readW f ws = some ns → ∀ n ∈ ns, inI n
  | [], ns, h => by simp only [readW, Option.some.injEq] at h; subst h; intro n hn; simp at hn
  | w :: ws, ns, h => by
    unfold readW at h
    split at h
    · cases h
    · rename_i v hv
      obtain ⟨l, hl, rfl⟩ := Option.map_eq_some_iff.1 h
      intro n hn
      rcases List.mem_cons.1 hn with rfl | hn
      · exact hf _ _ hv
      · exact readW_bounds hf hl n hn
/-- The machine of its numbers. -/
def mkK (ns : List Int) : Kin := ⟨ns.getD 0 0, ns.getD 1 0, ns.getD 2 0, ns.getD 3 0, ns.getD 4 0, if ns.drop 8 = [] then none else some (ns.drop 8), ns.getD 5 0, ns.getD 6 0, ns.getD 7 0⟩
theorem mkK_all (k : Kin) : mkK k.all = k.norm := by
  unfold mkK Kin.all Kin.nums Kin.norm
  simp only [List.cons_append, List.nil_append, List.getD_cons_zero, List.getD_cons_succ, List.drop_succ_cons, List.drop_zero]
theorem all_mkK (ns : List Int) (h : 8 ≤ ns.length) : (mkK ns).all = ns := by
  match ns, h with
  | a :: b :: c :: d :: e :: f :: g :: i :: r, _ =>
    unfold Kin.all Kin.nums mkK Kin.tl
    simp only [List.getD_cons_zero, List.getD_cons_succ, List.drop_succ_cons, List.drop_zero]
    split
    · rename_i hr; rw [hr]; rfl
    · rfl
theorem mkK_norm (ns : List Int) (h : 8 ≤ ns.length) : (mkK ns).norm = mkK ns := by rw [← mkK_all, all_mkK ns h]
def machB (f : List UInt8 → Option Int) (line : List UInt8) : Option Kin := if (spl 32 [] line).length < 8 then none else (readW f (spl 32 [] line)).map mkK
theorem mach_body {f : List UInt8 → Option Int} (hf : ∀ n, inI n → f (itoa n) = some n) (k : Kin) (hk : k.ok) : machB f (bodyB k) = some k.norm := by
  unfold machB
  rw [spl_body, readW_itoa hf _ hk, if_neg (by simp [Kin.all, Kin.nums]), Option.map_some, mkK_all]
theorem mach_ok {f : List UInt8 → Option Int} (hf : ∀ w n, f w = some n → inI n) {line : List UInt8} {k : Kin} (h : machB f line = some k) : k.ok ∧ k.norm = k := by
  unfold machB at h
  split at h
  · cases h
  · rename_i hl
    obtain ⟨ns, hns, rfl⟩ := Option.map_eq_some_iff.1 h
    have h8 := readW_len hns
    refine ⟨fun n hn => ?_, mkK_norm ns (by omega)⟩
    rw [all_mkK ns (by omega)] at hn
    exact readW_bounds hf hns n hn
/-- What the program reads of a text. -/
def proB (text : List UInt8) : List Kin := ((spl 10 [] text).drop 1).filterMap (machB pintB)
/-- Lines read one by one. -/
def readL (f : List UInt8 → Option Kin) : List (List UInt8) → Option (List Kin)
  | [] => some []
  | l :: ls => match f l with
    | none => none
    | some k => (readL f ls).map (k :: ·)
def refB (text : List UInt8) : Option (List Kin) := readL (machB numR) ((spl 10 [] text).drop 1).dropLast
theorem mach_nil (f : List UInt8 → Option Int) : machB f [] = none := by simp [machB, spl]
theorem pro_print (b : List Kin) (hb : ∀ k ∈ b, k.ok) : proB (printB b) = b.map Kin.norm := by
  unfold proB
  rw [spl_print, List.filterMap_append, List.filterMap_cons, mach_nil]
  simp only [List.filterMap_nil, List.append_nil]
  have : ∀ b : List Kin, (∀ k ∈ b, k.ok) → (b.map bodyB).filterMap (machB pintB) = b.map Kin.norm := by
    intro b
    induction b with
    | nil => intro _; rfl
    | cons k b ih =>
      intro h
      rw [List.map_cons, List.filterMap_cons, mach_body (fun n hn => pint_itoa n hn.1 hn.2) k (h k (by simp))]
      simp only
      rw [ih fun q hq => h q (by simp [hq])]
      rfl
  exact this b hb
theorem ref_print (b : List Kin) (hb : ∀ k ∈ b, k.ok) : refB (printB b) = some (b.map Kin.norm) := by
  unfold refB
  rw [spl_print, List.dropLast_concat]
  have : ∀ b : List Kin, (∀ k ∈ b, k.ok) → readL (machB numR) (b.map bodyB) = some (b.map Kin.norm) := by
    intro b
    induction b with
    | nil => intro _; rfl
    | cons k b ih =>
      intro h
      rw [List.map_cons]
      unfold readL
      rw [mach_body (fun n hn => numR_itoa n hn.1 hn.2) k (h k (by simp)), ih fun q hq => h q (by simp [hq])]
      rfl
  exact this b hb
theorem pro_ok (text : List UInt8) : ∀ k ∈ proB text, k.ok ∧ k.norm = k := by
  intro k hk
  obtain ⟨l, _, hl⟩ := List.mem_filterMap.1 hk
  exact mach_ok (fun w n h => pint_bounds h) hl
theorem readL_ok : ∀ {ls : List (List UInt8)} {b : List Kin}, readL (machB numR) ls = some b → ∀ k ∈ b, k.ok ∧ k.norm = k
  | [], b, h => by simp only [readL, Option.some.injEq] at h; subst h; intro k hk; simp at hk
  | l :: ls, b, h => by
    unfold readL at h
    split at h
    · cases h
    · rename_i q hq
      obtain ⟨c, hc, rfl⟩ := Option.map_eq_some_iff.1 h
      intro k hk
      rcases List.mem_cons.1 hk with rfl | hk
      · exact mach_ok (fun w n h => numR_bounds h) hq
      · exact readL_ok hc k hk
theorem map_norm {b : List Kin} (h : ∀ k ∈ b, k.ok ∧ k.norm = k) : b.map Kin.norm = b := by
  conv => rhs; rw [← List.map_id b]
  exact List.map_congr_left fun k hk => (h k hk).2
/-- What both answer. -/
inductive Ans where
  | long
  | bad
  | book (b : List Kin)
def proA (text : List UInt8) : Ans := if 1048576 < text.length then .long else if printB (proB text) = text then .book (proB text) else .bad
def refA (text : List UInt8) : Ans := if 1048576 < text.length then .long else match refB text with
  | none => .bad
  | some b => if printB b = text then .book b else .bad
/-- Any text is read, or refused, alike. -/
theorem ans_eq (text : List UInt8) : refA text = proA text := by
  unfold refA proA
  split
  · rfl
  · by_cases h : printB (proB text) = text
    · have h1 := ref_print (proB text) fun k hk => (pro_ok text k hk).1
      rw [map_norm (pro_ok text), h] at h1
      rw [h1, if_pos h]
      simp only
      rw [if_pos h]
    · rw [if_neg h]
      cases hr : refB text with
      | none => rfl
      | some b =>
        simp only
        rw [if_neg fun e => h ?_]
        have hok := readL_ok hr
        have h1 := pro_print b fun k hk => (hok k hk).1
        rw [map_norm hok, e] at h1
        rw [h1, e]
/-- A book's text is read back. -/
theorem ans_print (b : List Kin) (hb : ∀ k ∈ b, k.ok) : proA (printB b) = if 1048576 < (printB b).length then .long else .book (b.map Kin.norm) := by
  unfold proA
  rw [pro_print b hb, print_norm, if_pos rfl]
/-! ### How long -/
def cntB (b : List Kin) : Nat := (b.map fun k => k.all.length).sum
theorem join_le : ∀ (l : List (List UInt8)), (∀ w ∈ l, w.length ≤ 21) → (join l [32]).length ≤ 22 * l.length
  | [], _ => by simp [join_nil]
  | [x], h => by
    rw [join_one]
    have := h x (by simp)
    simp
    omega
  | x :: y :: r, h => by
    rw [join_two]
    have h1 := h x (by simp)
    have h2 := join_le (y :: r) (fun w hw => h w (by simp [hw]))
    simp only [List.length_append, List.length_cons] at h2 ⊢
    omega
theorem body_le (k : Kin) (hk : k.ok) : (bodyB k).length + 1 ≤ 23 * k.all.length := by
  have h1 := join_le (k.all.map itoa) (by
    intro w hw
    obtain ⟨n, hn, rfl⟩ := List.mem_map.1 hw
    exact itoa_le n (hk n hn).1 (hk n hn).2)
  rw [List.length_map] at h1
  have h2 : 8 ≤ k.all.length := by simp [Kin.all, Kin.nums]
  unfold bodyB
  omega
theorem ends_le : ∀ b : List Kin, (∀ k ∈ b, k.ok) → (ends 10 (b.map bodyB)).length ≤ 23 * cntB b
  | [], _ => by simp [ends, cntB]
  | k :: b, h => by
    rw [List.map_cons, ends_cons]
    have h1 := body_le k (h k (by simp))
    have h2 := ends_le b fun q hq => h q (by simp [hq])
    simp only [cntB, List.length_append, List.length_cons, List.map_cons, List.sum_cons] at h2 ⊢
    omega
theorem print_le (b : List Kin) (hb : ∀ k ∈ b, k.ok) (hl : b.length ≤ 9223372036854775807) : (printB b).length ≤ 32 + 23 * cntB b := by
  unfold printB headB
  have h1 := ends_le b hb
  have h2 := itoa_le b.length (by omega) (by omega)
  simp only [List.length_append, List.length_cons, List.length_nil] at h2 ⊢
  omega
theorem cnt_len : ∀ b : List Kin, b.length ≤ cntB b
  | [] => by simp
  | k :: b => by
    have := cnt_len b
    have h2 : 8 ≤ k.all.length := by simp [Kin.all, Kin.nums]
    simp only [cntB, List.map_cons, List.sum_cons, List.length_cons] at this ⊢
    omega
theorem spl_sum (c : UInt8) (l : List UInt8) : ∀ cur, ((spl c cur l).map fun x => x.length + 1).sum = cur.length + l.length + 1 := by
  induction l with
  | nil => intro cur; simp [spl]
  | cons x l ih =>
    intro cur
    unfold spl
    split
    · rw [List.map_cons, List.sum_cons, ih]; simp; omega
    · rw [ih]; simp; omega
theorem mach_cnt {f : List UInt8 → Option Int} {line : List UInt8} {k : Kin} (h : machB f line = some k) : k.all.length ≤ line.length + 1 := by
  unfold machB at h
  split at h
  · cases h
  · obtain ⟨ns, hns, rfl⟩ := Option.map_eq_some_iff.1 h
    have h8 := readW_len hns
    rw [all_mkK ns (by omega), h8, spl_len]
    have := List.count_le_length (a := (32 : UInt8)) (l := line)
    omega
theorem filter_cnt (f : List UInt8 → Option Int) : ∀ ls : List (List UInt8), cntB (ls.filterMap (machB f)) ≤ (ls.map fun x => x.length + 1).sum
  | [] => by simp [cntB]
  | l :: ls => by
    have ih := filter_cnt f ls
    rw [List.filterMap_cons]
    split
    · rw [List.map_cons, List.sum_cons]; omega
    · rename_i k hk
      have := mach_cnt hk
      simp only [cntB, List.map_cons, List.sum_cons] at ih ⊢
      omega
theorem pro_cnt (text : List UInt8) : cntB (proB text) ≤ text.length + 1 := by
  have h1 := filter_cnt pintB ((spl 10 [] text).drop 1)
  have h2 := spl_sum 10 text []
  have h3 : ∀ (n : Nat) (l : List (List UInt8)), ((l.drop n).map fun x => x.length + 1).sum ≤ (l.map fun x => x.length + 1).sum := by
    intro n l
    induction l generalizing n with
    | nil => simp
    | cons x l ih =>
      cases n with
      | zero => simp
      | succ n => have := ih n; simp at this ⊢; omega
  have h4 := h3 1 (spl 10 [] text)
  unfold proB
  simp only [List.length_nil] at h2
  omega
theorem readL_cnt {f : List UInt8 → Option Int} : ∀ {ls : List (List UInt8)} {b : List Kin}, readL (machB f) ls = some b → cntB b ≤ (ls.map fun x => x.length + 1).sum
  | [], b, h => by simp only [readL, Option.some.injEq] at h; subst h; simp [cntB]
  | l :: ls, b, h => by
    unfold readL at h
    split at h
    · cases h
    · rename_i q hq
      obtain ⟨c, hc, rfl⟩ := Option.map_eq_some_iff.1 h
      have ih := readL_cnt hc
      have := mach_cnt hq
      simp only [cntB, List.map_cons, List.sum_cons] at ih ⊢
      omega
end Kt
end Go.Proofs.YtiipggfhjkalfaaDoor
