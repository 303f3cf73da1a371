import Derived.Test.YtdgoompjoeffcaaGreatProg
import Derived.Test.YtdgoompjoeffcaaGreatPmY
import Derived.Test.YtdgoompjoeffcaaGreatDeA
/- A tape that describes: commands given so many times, a plain law. -/
set_option linter.unusedSimpArgs false
set_option linter.unusedVariables false
set_option maxRecDepth 20000
open Go Go.Proofs
namespace Go.Proofs.YtdgoompjoeffcaaGreat
open Pm
attribute [local irreducible] Wait CallT CallW NextT Le Weak
theorem mvP_add (p : Pl) (d : Int) (a : Nat) : ∀ b, mvP p d (a + b) = mvP (mvP p d a) d b
  | 0 => rfl
  | b + 1 => by rw [Nat.add_succ]; simp only [mvP]; rw [mvP_add p d a b]
theorem rayP_add (p : Pl) (d : Int) (a : Nat) : ∀ b, rayP p d (a + b) = rayP p d a ++ rayP (mvP p d a) d b
  | 0 => by simp [rayP]
  | b + 1 => by rw [Nat.add_succ, rayP_succ, rayP_succ, rayP_add p d a b, mvP_add, List.append_assoc]
theorem putR_app (p : Pl) (d : Int) (m : Nat) : ∀ (n : Nat) (V U : List Int) (l : List (Pl × Int)), V.length = n → U.length = m → putR p d (m + n) (V ++ U) l = putR p d m U (putR (mvP p d m) d n V l)
  | 0, [], U, l, _, _ => by simp [putR]
  | n + 1, v :: V, U, l, hV, hU => by
    rw [List.cons_append, Nat.add_succ]
    simp only [putR]
    rw [putR_app p d m n V U _ (by simpa using hV) hU, ← mvP_add]
    rfl
/-- What a command sees of a walker. -/
structure Same3 (v w : Wk) : Prop where
  s : v.s = w.s
  t : v.trail = w.trail
  w : v.wrote = w.wrote
theorem Same3.trans {a b c : Wk} (h : Same3 a b) (k : Same3 b c) : Same3 a c := ⟨h.s.trans k.s, h.t.trans k.t, h.w.trans k.w⟩
theorem Same3.refl (w : Wk) : Same3 w w := ⟨rfl, rfl, rfl⟩
/-- A command, up to 255 times. -/
def digP (n : Nat) (s : Int) : List Int := if 15 < n then [8 + ((n / 16 : Nat) : Int), 8 + ((n % 16 : Nat) : Int), s] else if 1 < n then [8 + (n : Int), s] else [s]
theorem cmd_digit {w : Wk} {s : Int} (h : 8 ≤ s) (h' : s < 24) : cmdP w s = (0, digitW w s) := by
  unfold cmdP
  rw [if_neg (by omega), if_neg (by omega), if_pos h']
theorem digit_same (w : Wk) (s : Int) : Same3 (digitW w s) w := ⟨rfl, rfl, rfl⟩
theorem dig_cmd {w : Wk} {n : Nat} (s : Int) (h1 : 1 ≤ n) (h2 : n ≤ 255) (h0 : w.count = 0) : ∃ v, Same3 v w ∧ max v.count 1 = (n : Int) ∧ walkP (digP n s) w = walkP [s] v := by
  unfold digP
  by_cases h15 : 15 < n
  · rw [if_pos h15]
    refine ⟨digitW (digitW w (8 + ((n / 16 : Nat) : Int))) (8 + ((n % 16 : Nat) : Int)), (digit_same _ _).trans (digit_same _ _), ?_, ?_⟩
    · simp only [digitW, h0]
      omega
    · rw [walkP_ok (by rw [cmd_digit (by omega) (by omega)]), cmd_digit (by omega) (by omega), walkP_ok (by rw [cmd_digit (by omega) (by omega)]), cmd_digit (by omega) (by omega)]
  · rw [if_neg h15]
    by_cases hn : 1 < n
    · rw [if_pos hn]
      refine ⟨digitW w (8 + (n : Int)), digit_same _ _, ?_, ?_⟩
      · simp only [digitW, h0]
        omega
      · rw [walkP_ok (by rw [cmd_digit (by omega) (by omega)]), cmd_digit (by omega) (by omega)]
    · rw [if_neg hn]
      exact ⟨w, Same3.refl w, by rw [h0]; omega, rfl⟩
theorem walk_one {s : Int} {v w' : Wk} (e : walkP [s] v = (0, w')) : cmdP v s = (0, w') := by
  simp only [walkP] at e
  split at e
  · rename_i h0
    rw [← e, ← h0]
  · exact e
theorem dig_forth {w w' : Wk} {n : Nat} (h1 : 1 ≤ n) (h2 : n ≤ 255) (h0 : w.count = 0) (e : walkP (digP n 5) w = (0, w')) :
    w'.s = sdP (mvP (w.s.x, w.s.y) w.s.d n) w.s.d ∧ w'.trail = w.trail ++ rayP (w.s.x, w.s.y) w.s.d n ∧ w'.wrote = w.wrote ∧ w'.count = 0 := by
  obtain ⟨v, hv, hc, ew⟩ := dig_cmd (w := w) 5 h1 h2 h0
  rw [ew] at e
  have e := walk_one e
  unfold cmdP forthP at e
  rw [if_pos rfl, hc, Int.toNat_natCast] at e
  obtain ⟨g1, g2, g3, g4⟩ := fwdN_eff n _ w' e
  simp only [paidW] at g1 g2 g3 g4
  rw [hv.s] at g1 g2
  rw [hv.t] at g2
  rw [hv.w] at g3
  exact ⟨g1, g2, g3, g4⟩
theorem dig_write {w w' : Wk} {n : Nat} (k : Int) (hk : 0 ≤ k) (p : Pl) (d : Int) (T : List Sd) (h1 : 1 ≤ n) (h2 : n ≤ 255) (h0 : w.count = 0) (hs : w.s = sdP (mvP p d n) d) (ht : w.trail = T ++ rayP p d n) (e : walkP (digP n (24 + k)) w = (0, w')) :
    w'.s = sdP p d ∧ w'.trail = T ∧ w'.wrote = putR p d n (List.replicate n (WrittenStateE k).1) w.wrote ∧ w'.count = 0 := by
  obtain ⟨v, hv, hc, ew⟩ := dig_cmd (w := w) (24 + k) h1 h2 h0
  rw [ew] at e
  have e := walk_one e
  unfold cmdP writeP at e
  rw [if_neg (by omega), if_neg (by omega), if_neg (by omega), hc, Int.toNat_natCast, wrN_all, show 24 + k - 24 = k by omega] at e
  obtain ⟨g1, g2, g3, g4⟩ := wrAll_eff p d T n _ _ w' (List.length_replicate ..) (by simp only [paidW]; rw [hv.s, hs]) (by simp only [paidW]; rw [hv.t, ht]) e
  simp only [paidW] at g3 g4
  rw [hv.w] at g3
  exact ⟨g1, g2, g3, g4⟩
/-- A command, any number of times. -/
def timesP (n : Nat) (s : Int) : List Int := if 255 < n then digP 255 s ++ timesP (n - 255) s else if n = 0 then [] else digP n s
  termination_by n
  decreasing_by omega
theorem times_forth : ∀ (n : Nat) (w w' : Wk), w.count = 0 → walkP (timesP n 5) w = (0, w') →
    w'.s = sdP (mvP (w.s.x, w.s.y) w.s.d n) w.s.d ∧ w'.trail = w.trail ++ rayP (w.s.x, w.s.y) w.s.d n ∧ w'.wrote = w.wrote ∧ w'.count = 0 := by
  intro n
  induction n using Nat.strongRecOn with
  | ind n ih =>
    intro w w' h0 e
    rw [timesP] at e
    by_cases h : 255 < n
    · rw [if_pos h] at e
      obtain ⟨v, e1, e2⟩ := walkP_split e
      obtain ⟨g1, g2, g3, g4⟩ := dig_forth (by omega) (by omega) h0 e1
      obtain ⟨k1, k2, k3, k4⟩ := ih (n - 255) (by omega) v w' g4 e2
      have hn : n = 255 + (n - 255) := by omega
      rw [g1] at k1 k2
      rw [g2] at k2
      refine ⟨?_, ?_, k3.trans g3, k4⟩
      · rw [k1, hn, mvP_add, Nat.add_sub_cancel_left]; rfl
      · rw [k2, List.append_assoc, hn, rayP_add, Nat.add_sub_cancel_left]; rfl
    · rw [if_neg h] at e
      by_cases hn : n = 0
      · rw [if_pos hn] at e
        subst hn
        cases e
        exact ⟨rfl, by simp [rayP], rfl, h0⟩
      · rw [if_neg hn] at e
        exact dig_forth (by omega) (by omega) h0 e
theorem times_write (k : Int) (hk : 0 ≤ k) (p : Pl) (d : Int) (T : List Sd) : ∀ (n : Nat) (w w' : Wk), w.count = 0 → w.s = sdP (mvP p d n) d → w.trail = T ++ rayP p d n → walkP (timesP n (24 + k)) w = (0, w') →
    w'.s = sdP p d ∧ w'.trail = T ∧ w'.wrote = putR p d n (List.replicate n (WrittenStateE k).1) w.wrote ∧ w'.count = 0 := by
  intro n
  induction n using Nat.strongRecOn with
  | ind n ih =>
    intro w w' h0 hs ht e
    rw [timesP] at e
    by_cases h : 255 < n
    · rw [if_pos h] at e
      obtain ⟨v, e1, e2⟩ := walkP_split e
      have hn : n = (n - 255) + 255 := by omega
      obtain ⟨g1, g2, g3, g4⟩ := dig_write k hk (mvP p d (n - 255)) d (T ++ rayP p d (n - 255)) (by omega) (by omega) h0 (by rw [hs, ← mvP_add, ← hn]) (by rw [ht, List.append_assoc, ← rayP_add, ← hn]) e1
      obtain ⟨k1, k2, k3, k4⟩ := ih (n - 255) (by omega) v w' g4 g1 g2 e2
      refine ⟨k1, k2, ?_, k4⟩
      rw [k3, g3]
      have := putR_app p d (n - 255) 255 (List.replicate 255 (WrittenStateE k).1) (List.replicate (n - 255) (WrittenStateE k).1) w.wrote (List.length_replicate ..) (List.length_replicate ..)
      rw [List.replicate_append_replicate, ← hn, show 255 + (n - 255) = n by omega] at this
      exact this.symm
    · rw [if_neg h] at e
      by_cases hn : n = 0
      · rw [if_pos hn] at e
        subst hn
        cases e
        exact ⟨hs, by simpa [rayP] using ht, rfl, h0⟩
      · rw [if_neg hn] at e
        exact dig_write k hk p d T (by omega) (by omega) h0 hs ht e
end Go.Proofs.YtdgoompjoeffcaaGreat
/- A tape that describes: lines, sides and rows, a plain law. -/
namespace Go.Proofs.YtdgoompjoeffcaaGreat
open Pm
attribute [local irreducible] Wait CallT CallW NextT Le Weak
def stN (k : Int) : Int := (WrittenStateE k).1
/-- The states of a line. -/
def lineS (l : List (Nat × Int)) : List Int := l.flatMap fun r => List.replicate r.1 (stN r.2)
def lineLen (l : List (Nat × Int)) : Nat := (l.map Prod.fst).sum
theorem lineS_len : ∀ l : List (Nat × Int), (lineS l).length = lineLen l
  | [] => rfl
  | r :: l => by
    have := lineS_len l
    unfold lineS lineLen at *
    simp only [List.flatMap_cons, List.length_append, List.length_replicate, List.map_cons, List.sum_cons, this]
def lineC (l : List (Nat × Int)) : List Int := l.flatMap fun r => timesP r.1 (24 + r.2)
theorem line_write (p : Pl) (d : Int) (T : List Sd) : ∀ (l : List (Nat × Int)) (w w' : Wk), (∀ r ∈ l, 0 ≤ r.2) → w.count = 0 → w.s = sdP (mvP p d (lineLen l)) d → w.trail = T ++ rayP p d (lineLen l) → walkP (lineC l) w = (0, w') →
    w'.s = sdP p d ∧ w'.trail = T ∧ w'.wrote = putR p d (lineLen l) (lineS l) w.wrote ∧ w'.count = 0
  | [], w, w', _, h0, hs, ht, e => by
    cases e
    exact ⟨hs, by simpa [lineLen, rayP] using ht, rfl, h0⟩
  | r :: l, w, w', hk, h0, hs, ht, e => by
    have hl : lineLen (r :: l) = lineLen l + r.1 := by unfold lineLen; simp only [List.map_cons, List.sum_cons]; omega
    rw [hl] at hs ht ⊢
    simp only [lineC, List.flatMap_cons] at e
    obtain ⟨v, e1, e2⟩ := walkP_split e
    obtain ⟨g1, g2, g3, g4⟩ := times_write r.2 (hk r (by simp)) (mvP p d (lineLen l)) d (T ++ rayP p d (lineLen l)) r.1 w v h0 (by rw [hs, mvP_add]) (by rw [ht, rayP_add, List.append_assoc]) e1
    obtain ⟨k1, k2, k3, k4⟩ := line_write p d T l v w' (fun x hx => hk x (by simp [hx])) g4 g1 g2 e2
    refine ⟨k1, k2, ?_, k4⟩
    rw [k3, g3]
    have := putR_app p d (lineLen l) r.1 (List.replicate r.1 (stN r.2)) (lineS l) w.wrote (List.length_replicate ..) (lineS_len l)
    exact this.symm
def sideC (turn back : Int) (l : List (Nat × Int)) : List Int := if l = [] then [] else turn :: (timesP (lineLen l) 5 ++ (lineC l ++ [back]))
theorem cmd_turn {w : Wk} {s : Int} (h : s = 6 ∨ s = 7) : cmdP w s = (0, turnW w s) := by
  unfold cmdP
  rw [if_neg (by omega), if_pos h]
theorem side_write (turn back d : Int) (ht : turn = 6 ∨ turn = 7) (hb : back = 6 ∨ back = 7) (hd : (1 + 1 + 2 * (turn - 6)).tmod 4 = d) (hd2 : (d + 1 + 2 * (back - 6)).tmod 4 = 1) {p : Pl} {l : List (Nat × Int)} {w w' : Wk} (hk : ∀ r ∈ l, 0 ≤ r.2) (h0 : w.count = 0) (hs : w.s = sdP p 1) (e : walkP (sideC turn back l) w = (0, w')) :
    w'.s = sdP p 1 ∧ w'.trail = w.trail ∧ w'.wrote = putR p d (lineLen l) (lineS l) w.wrote ∧ w'.count = 0 := by
  unfold sideC at e
  by_cases hl : l = []
  · rw [if_pos hl] at e
    subst hl
    cases e
    exact ⟨hs, rfl, rfl, h0⟩
  · rw [if_neg hl, walkP_ok (by rw [cmd_turn ht]), cmd_turn ht] at e
    obtain ⟨v, e1, e2⟩ := walkP_split e
    obtain ⟨u, e3, e4⟩ := walkP_split e2
    have hts : (turnW w turn).s = sdP p d := by
      simp only [turnW, hs, sdP]
      rw [hd]
    obtain ⟨g1, g2, g3, g4⟩ := times_forth _ _ v rfl e1
    rw [hts] at g1 g2
    obtain ⟨k1, k2, k3, k4⟩ := line_write p d w.trail l v u hk g4 g1 g2 e3
    have e5 := walk_one e4
    rw [cmd_turn hb] at e5
    cases e5
    refine ⟨?_, k2, k3.trans (by rw [g3]; rfl), rfl⟩
    simp only [turnW, k1, sdP]
    rw [hd2]
/-- A row: its west part and its east part, from the far ends, and its middle. -/
structure Rw where
  west : List (Nat × Int)
  east : List (Nat × Int)
  mid : Int
def rowPut (p : Pl) (r : Rw) (m : List (Pl × Int)) : List (Pl × Int) :=
  aput p (stN r.mid) (putR p 0 (lineLen r.east) (lineS r.east) (putR p 2 (lineLen r.west) (lineS r.west) m))
def Rw.ok (r : Rw) : Prop := (∀ x ∈ r.west, 0 ≤ x.2) ∧ (∀ x ∈ r.east, 0 ≤ x.2) ∧ 0 ≤ r.mid
def rowC (r : Rw) : List Int := sideC 6 7 r.west ++ (sideC 7 6 r.east ++ timesP 1 (24 + r.mid))
/-- The rows from the k-th one north on. -/
def rowsPut : Nat → List Rw → List (Pl × Int) → List (Pl × Int)
  | k + 1, r :: l, m => rowsPut k l (rowPut (mvP (0, 0) 1 (k + 1)) r m)
  | _, _, m => m
/-- The head above k rows that are still to be written. -/
structure AtRow (k : Nat) (w : Wk) : Prop where
  s : w.s = sdP (mvP (0, 0) 1 k) 1
  t : w.trail = [⟨0, 1, 1⟩] ++ rayP (0, 0) 1 k
  c : w.count = 0
theorem row_write {k : Nat} {r : Rw} {w w' : Wk} (hr : r.ok) (h : AtRow (k + 1) w) (e : walkP (rowC r) w = (0, w')) : AtRow k w' ∧ w'.wrote = rowPut (mvP (0, 0) 1 (k + 1)) r w.wrote := by
  unfold rowC at e
  obtain ⟨v, e1, e2⟩ := walkP_split e
  obtain ⟨u, e3, e4⟩ := walkP_split e2
  obtain ⟨g1, g2, g3, g4⟩ := side_write 6 7 2 (.inl rfl) (.inr rfl) (by decide) (by decide) hr.1 h.c h.s e1
  obtain ⟨k1, k2, k3, k4⟩ := side_write 7 6 0 (.inr rfl) (.inl rfl) (by decide) (by decide) hr.2.1 g4 g1 e3
  obtain ⟨m1, m2, m3, m4⟩ := times_write r.mid hr.2.2 (mvP (0, 0) 1 k) 1 ([⟨0, 1, 1⟩] ++ rayP (0, 0) 1 k) 1 u w' k4 k1 (by rw [k2, g2, h.t, rayP_succ, List.append_assoc]; rfl) e4
  refine ⟨⟨m1, m2, m4⟩, ?_⟩
  rw [m3, k3, g3]
  rfl
theorem mids_put (k : Nat) (m : Int) : ∀ (n : Nat) (M : List (Pl × Int)), putR (mvP (0, 0) 1 k) 1 n (List.replicate n (stN m)) M = rowsPut (k + n) (List.replicate n ⟨[], [], m⟩) M
  | 0, M => by cases k <;> rfl
  | n + 1, M => by
    rw [List.replicate_succ, List.replicate_succ, Nat.add_succ]
    simp only [putR, rowsPut]
    rw [mids_put k m n, ← mvP_add]
    rfl
/-- Rows of one state that stand below each other. -/
theorem mids_write {k n : Nat} {m : Int} {w w' : Wk} (hm : 0 ≤ m) (h : AtRow (k + n) w) (e : walkP (timesP n (24 + m)) w = (0, w')) : AtRow k w' ∧ w'.wrote = rowsPut (k + n) (List.replicate n ⟨[], [], m⟩) w.wrote := by
  obtain ⟨m1, m2, m3, m4⟩ := times_write m hm (mvP (0, 0) 1 k) 1 ([⟨0, 1, 1⟩] ++ rayP (0, 0) 1 k) n w w' h.c (by rw [h.s, mvP_add]) (by rw [h.t, rayP_add, List.append_assoc]) e
  exact ⟨⟨m1, m2, m4⟩, by rw [m3]; exact mids_put k m n _⟩
theorem rowsPut_app : ∀ (k : Nat) (a b : List Rw) (m : List (Pl × Int)), rowsPut (k + a.length) (a ++ b) m = rowsPut k b (rowsPut (k + a.length) a m)
  | k, [], b, m => by cases k <;> rfl
  | k, r :: a, b, m => by
    rw [List.length_cons, Nat.add_succ, List.cons_append]
    simp only [rowsPut]
    exact rowsPut_app k a b _
/-- Groups of rows: one with sides, or some of one state. -/
inductive Gp where
  | one (r : Rw)
  | mids (n : Nat) (m : Int)
def Gp.rows : Gp → List Rw
  | .one r => [r]
  | .mids n m => List.replicate n ⟨[], [], m⟩
def Gp.code : Gp → List Int
  | .one r => rowC r
  | .mids n m => timesP n (24 + m)
theorem rowsPut_nil (k : Nat) (m : List (Pl × Int)) : rowsPut k [] m = m := by cases k <;> rfl
theorem times_zero (s : Int) : timesP 0 s = [] := by rw [timesP]; rfl
theorem gps_write : ∀ (l : List Gp) (k : Nat) (w w' : Wk), (∀ g ∈ l, ∀ r ∈ g.rows, r.ok) → AtRow (k + (l.flatMap Gp.rows).length) w → walkP (l.flatMap Gp.code) w = (0, w') → AtRow k w' ∧ w'.wrote = rowsPut (k + (l.flatMap Gp.rows).length) (l.flatMap Gp.rows) w.wrote
  | [], k, w, w', _, h, e => by
    cases e
    exact ⟨h, by cases k <;> rfl⟩
  | g :: l, k, w, w', hr, h, e => by
    simp only [List.flatMap_cons] at h e ⊢
    obtain ⟨v, e1, e2⟩ := walkP_split e
    have hlen : k + (g.rows ++ l.flatMap Gp.rows).length = (k + (l.flatMap Gp.rows).length) + g.rows.length := by rw [List.length_append]; omega
    rw [hlen] at h ⊢
    have key : AtRow (k + (l.flatMap Gp.rows).length) v ∧ v.wrote = rowsPut (k + (l.flatMap Gp.rows).length + g.rows.length) g.rows w.wrote := by
      cases g with
      | one r =>
        have h1 := row_write (hr (.one r) (by simp) r (by simp [Gp.rows])) h e1
        exact ⟨h1.1, h1.2.trans (rowsPut_nil _ _).symm⟩
      | mids n m =>
        by_cases hn : n = 0
        · subst hn
          rw [show Gp.code (.mids 0 m) = [] from times_zero _] at e1
          cases e1
          exact ⟨h, by generalize k + (l.flatMap Gp.rows).length = j; cases j <;> rfl⟩
        · have hm := (hr (.mids n m) (by simp) ⟨[], [], m⟩ (by simp [Gp.rows, hn])).2.2
          have hl : (Gp.rows (.mids n m)).length = n := by simp [Gp.rows]
          rw [hl] at h ⊢
          exact mids_write hm h e1
    obtain ⟨g1, g2⟩ := gps_write l k v w' (fun x hx => hr x (by simp [hx])) key.1 e2
    refine ⟨g1, ?_⟩
    rw [g2, key.2]
    exact (rowsPut_app _ _ _ _).symm
end Go.Proofs.YtdgoompjoeffcaaGreat
/- A tape that describes: what stands where behind the rows, a plain law. -/
namespace Go.Proofs.YtdgoompjoeffcaaGreat
open Pm
attribute [local irreducible] Wait CallT CallW NextT Le Weak
theorem mv_north : ∀ k : Nat, mvP (0, 0) 1 k = (0, -(k : Int))
  | 0 => rfl
  | k + 1 => by
    simp only [mvP, mv_north k, onP]
    simp only [show ¬ (1 : Int) = 0 by decide, if_false, if_true, Prod.mk.injEq, true_and]
    omega
theorem mv_west (p : Pl) : ∀ k : Nat, mvP p 2 k = (p.1 - (k : Int), p.2)
  | 0 => by simp [mvP]
  | k + 1 => by
    simp only [mvP, mv_west p k, onP]
    simp only [show ¬ (2 : Int) = 0 by decide, show ¬ (2 : Int) = 1 by decide, if_false, if_true, Prod.mk.injEq, and_true]
    omega
theorem mv_east (p : Pl) : ∀ k : Nat, mvP p 0 k = (p.1 + (k : Int), p.2)
  | 0 => by simp [mvP]
  | k + 1 => by
    simp only [mvP, mv_east p k, onP]
    simp only [if_true, Prod.mk.injEq, and_true]
    omega
/-- What stands at a place behind a line to the west or to the east. -/
theorem put_get {p : Pl} {d : Int} (hd : d = 2 ∨ d = 0) (q : Pl) : ∀ (n : Nat) (V : List Int) (m : List (Pl × Int)), V.length = n →
    aget 0 q (putR p d n V m) = if q.2 = p.2 ∧ (0 < (if d = 2 then p.1 - q.1 else q.1 - p.1) ∧ (if d = 2 then p.1 - q.1 else q.1 - p.1) ≤ n) then V.getD (n - (if d = 2 then p.1 - q.1 else q.1 - p.1).toNat) 0 else aget 0 q m
  | 0, [], m, _ => by
    rw [if_neg (by rintro ⟨_, h1, h2⟩; simp only [Int.natCast_zero] at h2; omega)]
    rfl
  | n + 1, v :: V, m, hV => by
    have hmv : mvP p d (n + 1) = (if d = 2 then (p.1 - ((n + 1 : Nat) : Int), p.2) else (p.1 + ((n + 1 : Nat) : Int), p.2)) := by
      rcases hd with rfl | rfl
      · rw [mv_west, if_pos rfl]
      · rw [mv_east, if_neg (by decide)]
    obtain ⟨qx, qy⟩ := q
    obtain ⟨px, py⟩ := p
    simp only [putR]
    rw [put_get hd (qx, qy) n V _ (by simpa using hV), aget_put, hmv]
    simp only at *
    obtain ⟨z, hz⟩ : ∃ z, z = (if d = 2 then px - qx else qx - px) := ⟨_, rfl⟩
    rw [← hz]
    by_cases h1 : qy = py ∧ (0 < z ∧ z ≤ n)
    · rw [if_pos h1, if_pos ⟨h1.1, h1.2.1, by omega⟩, show n + 1 - z.toNat = (n - z.toNat) + 1 by omega, List.getD_cons_succ]
    · rw [if_neg h1]
      by_cases h2 : qy = py ∧ z = ((n + 1 : Nat) : Int)
      · have e1 : ((qx, qy) : Pl) = if d = 2 then (px - ((n + 1 : Nat) : Int), py) else (px + ((n + 1 : Nat) : Int), py) := by
          rcases hd with rfl | rfl
          · rw [if_pos rfl] at hz ⊢
            simp only [Prod.mk.injEq]
            omega
          · rw [if_neg (by decide)] at hz ⊢
            simp only [Prod.mk.injEq]
            omega
        rw [if_pos e1, if_pos ⟨h2.1, by omega, by omega⟩, show n + 1 - z.toNat = 0 by omega]
        rfl
      · have e1 : ¬ ((qx, qy) : Pl) = if d = 2 then (px - ((n + 1 : Nat) : Int), py) else (px + ((n + 1 : Nat) : Int), py) := fun e => by
          rcases hd with rfl | rfl
          · rw [if_pos rfl] at hz e
            simp only [Prod.mk.injEq] at e
            exact h2 ⟨e.2, by omega⟩
          · rw [if_neg (by decide)] at hz e
            simp only [Prod.mk.injEq] at e
            exact h2 ⟨e.2, by omega⟩
        rw [if_neg e1, if_neg (fun e => h1 ⟨e.1, e.2.1, by
          by_cases hz1 : z = ((n + 1 : Nat) : Int)
          · exact absurd ⟨e.1, hz1⟩ h2
          · have := e.2.2
            omega⟩)]
end Go.Proofs.YtdgoompjoeffcaaGreat
