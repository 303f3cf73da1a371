/- PM, part C: what becomes of the heap's relation when a block is made, written, or given up. -/
import Derived.Test.YtiipggfhjkalfaaPmB
namespace Go.Proofs.Ytiipggfhjkalfaa
namespace Pm

def setρ (ρ : Nat → Option Nat) (id : Nat) (g : Option Nat) : Nat → Option Nat := fun i => if i = id then g else ρ i

section
variable {B : Base} {w : World} {ρ : Nat → Option Nat} {D Z : Nat → Prop} {h : List (Option Blk)}

theorem HR.lt (H : HR B w ρ D Z h) {id g : Nat} (hr : ρ id = some g) : g < w.heap.size := by
  obtain ⟨b, hb⟩ := H.only id g hr
  obtain ⟨g', hg', hb'⟩ := H.live id b hb
  rw [hr] at hg'
  cases hg'
  cases b with
  | row e sz es => obtain ⟨c, fr, hc, _⟩ := hb'; exact (Array.getElem?_eq_some_iff.1 hc).1
  | mp es => obtain ⟨c, k, hc, _⟩ := hb'; exact (Array.getElem?_eq_some_iff.1 hc).1
  | it cur ks vs => obtain ⟨gm, since, seen, last, ents, clock, hc, _⟩ := hb'; exact (Array.getElem?_eq_some_iff.1 hc).1
theorem HR.id_lt (H : HR B w ρ D Z h) {id g : Nat} (hr : ρ id = some g) : id < h.length := by
  obtain ⟨b, hb⟩ := H.only id g hr
  exact (List.getElem?_eq_some_iff.1 hb).1
theorem HR.dead_lt (H : HR B w ρ D Z h) {id : Nat} (hr : D id) : id < h.length := (List.getElem?_eq_some_iff.1 (H.dead id hr)).1
theorem HR.not_dead (H : HR B w ρ D Z h) {id : Nat} {b : Blk} (hb : h[id]? = some (some b)) : ¬ D id := fun hd => by
  have := H.dead id hd
  rw [hb] at this
  cases this

theorem RB.step {w' : World} {ρ' : Nat → Option Nat} {D' Z' : Nat → Prop} (s : Step w w' ρ ρ' D D' Z Z') {b : Blk} {g : Nat} (hg : w'.heap[g]? = w.heap[g]?) (hb : RB w ρ D Z b g) : RB w' ρ' D' Z' b g := by
  cases b with
  | row e sz es =>
    obtain ⟨c, fr, hc, hf, h1, h2, h3⟩ := hb
    exact ⟨c, fr, hg.trans hc, hf, h1, h2, fun i j hi hj => ⟨(h3 i j hi hj).1.step s, (h3 i j hi hj).2⟩⟩
  | mp es =>
    obtain ⟨c, k, hc, h0, h1, h2⟩ := hb
    exact ⟨c, k, hg.trans hc, h0, h1, fun i hi => ⟨(h2 i hi).1.step s, (h2 i hi).2.step s⟩⟩
  | it cur ks vs =>
    obtain ⟨gm, since, seen, last, ents, clock, hc, hz, hm, hst, h1, h2, h3, h4, h5, h6, h7⟩ := hb
    refine ⟨gm, since, seen, last, ents, clock, hg.trans hc, s.z _ hz, (s.zb _ hz).trans hm, hst, h1, h2, h3, h4, h5, fun i hi => ⟨(h6 i hi).1.step s, (h6 i hi).2.step s⟩, ?_⟩
    rcases h7 with h7 | ⟨k, v, e, h8, h9, h10, h11, h12⟩
    · exact .inl h7
    · exact .inr ⟨k, v, e, h8, h9, h10, h11.step s, h12.step s⟩

theorem World.heap_old (w : World) (o : Obj) (i : Nat) (h : i < w.heap.size) : (w.alloc o).heap[i]? = w.heap[i]? := by
  show (w.heap.push o)[i]? = _
  rw [Array.getElem?_push, if_neg (by omega)]
/-- A new block. -/
theorem HR.alloc_step (H : HR B w ρ D Z h) (o : Obj) : Step w (w.alloc o) ρ (setρ ρ h.length (some w.heap.size)) D D Z Z where
  rho id g hr := .inl (by unfold setρ; rw [if_neg (Nat.ne_of_lt (H.id_lt hr))]; exact hr)
  dead _ hd := hd
  z _ hz := hz
  zb k hz := World.heap_old w o k (H.z k hz).1
  cap id g c e fr hr _ hc := ⟨c, e, fr, by rw [World.heap_old w o g (H.lt hr)]; exact hc, Nat.le_refl _⟩

theorem HR.alloc (H : HR B w ρ D Z h) (o : Obj) (b : Blk) (hb : RB (w.alloc o) (setρ ρ h.length (some w.heap.size)) D Z b w.heap.size) :
    HR B (w.alloc o) (setρ ρ h.length (some w.heap.size)) D Z (h ++ [some b]) where
  live id b' hb' := by
    by_cases e : id < h.length
    · rw [List.getElem?_append_left e] at hb'
      obtain ⟨g, hg, hr⟩ := H.live id b' hb'
      refine ⟨g, by unfold setρ; rw [if_neg (by omega)]; exact hg, hr.step (H.alloc_step o) (World.heap_old w o g (H.lt hg))⟩
    · rw [List.getElem?_append_right (by omega)] at hb'
      have : id = h.length := by
        have := (List.getElem?_eq_some_iff.1 hb').1
        simp at this
        omega
      subst this
      simp only [Nat.sub_self, List.getElem?_cons_zero, Option.some.injEq] at hb'
      subst hb'
      exact ⟨w.heap.size, by simp [setρ], hb⟩
  only id g hr := by
    unfold setρ at hr
    split at hr
    · subst id; exact ⟨b, by simp⟩
    · obtain ⟨b', hb'⟩ := H.only id g hr
      exact ⟨b', by rw [List.getElem?_append_left (List.getElem?_eq_some_iff.1 hb').1]; exact hb'⟩
  dead id hd := by rw [List.getElem?_append_left (H.dead_lt hd)]; exact H.dead id hd
  inj i j g hi hj := by
    unfold setρ at hi hj
    split at hi
    · rename_i e1
      cases hi
      split at hj
      · rename_i e2; rw [e1, e2]
      · exact absurd (H.lt hj) (by omega)
    · rename_i e1
      split at hj
      · rename_i e2; cases hj; exact absurd (H.lt hi) (by omega)
      · exact H.inj i j g hi hj
  own id g hr := by
    unfold setρ at hr
    split at hr
    · cases hr; exact .inr H.size
    · exact H.own id g hr
  z k hz := by
    refine ⟨by have := (H.z k hz).1; simp; omega, fun id hr => ?_⟩
    unfold setρ at hr
    split at hr
    · cases hr; exact absurd (H.z _ hz).1 (by omega)
    · exact (H.z k hz).2 id hr
  fr k hk hn := by
    rw [World.heap_old w o k (by have := H.size; omega)]
    exact H.fr k hk hn
  os := H.os
  tape := H.tape
  output := H.output
  size := by have := H.size; simp; omega
  step := by
    have s := H.step
    have t := H.alloc_step o
    refine ⟨fun id g hr => ?_, fun id hd => t.dead _ (s.dead _ hd), fun k hz => t.z _ (s.z _ hz), fun k hz => (t.zb k (s.z k hz)).trans (s.zb k hz), fun id g c e fr hr hr' hc => ?_⟩
    · rcases s.rho id g hr with h1 | h1
      · exact t.rho id g h1
      · exact .inr (t.dead _ h1)
    · have hw : ρ id = some g ∨ D id := s.rho id g hr
      rcases hw with h1 | h1
      · obtain ⟨c1, e1, fr1, hc1, hl1⟩ := s.cap id g c e fr hr h1 hc
        obtain ⟨c2, e2, fr2, hc2, hl2⟩ := t.cap id g c1 e1 fr1 h1 hr' hc1
        exact ⟨c2, e2, fr2, hc2, Nat.le_trans hl1 hl2⟩
      · exfalso
        have h2 := H.dead_lt h1
        unfold setρ at hr'
        rw [if_neg (by omega)] at hr'
        obtain ⟨b', hb'⟩ := H.only id g hr'
        exact H.not_dead hb' h1
  zg k hz := H.zg k hz

/-- A live row is written. -/
theorem HR.set_step (H : HR B w ρ D Z h) {id g : Nat} {c c' : Array Value} {e : TypeId} {fr : Nat × Nat} (hr : ρ id = some g) (hc : w.heap[g]? = some (.cells c e fr)) (hs : c.size ≤ c'.size) :
    Step w (w.setRow g c') ρ ρ D D Z Z where
  rho _ _ hr := .inl hr
  dead _ hd := hd
  z _ hz := hz
  zb k hz := setRow_other w g k c' (fun e => (H.z k hz).2 id (e ▸ hr))
  cap id' g' d e' fr' hr' _ hd := by
    by_cases eg : g' = g
    · subst eg
      rw [hc] at hd
      cases hd
      exact ⟨c', _, _, setRow_heap w g' c c' e _ hc, hs⟩
    · exact ⟨d, e', fr', by rw [setRow_other w g g' c' eg]; exact hd, Nat.le_refl _⟩

theorem HR.set_row (H : HR B w ρ D Z h) {id g : Nat} {c c' : Array Value} {e : TypeId} {fr : Nat × Nat} (sz : Nat) (es : List AV) (hr : ρ id = some g) (hc : w.heap[g]? = some (.cells c e fr)) (hfr : okFr fr c'.size) (hs : c.size ≤ c'.size)
    (h1 : es.length * sz ≤ c'.size) (h2 : ∀ i, i < es.length → (es.getD i .junk).cells.length = sz)
    (h3 : ∀ i j, i < es.length → j < sz → RV w ρ D Z ((es.getD i .junk).cellAt j) (c'.getD (i * sz + j) undef) ∧ (c'.getD (i * sz + j) undef).oneCell' = true) :
    HR B (w.setRow g c') ρ D Z (h.set id (some (.row e sz es))) where
  live id' b' hb' := by
    have s := H.set_step hr hc hs
    by_cases ei : id' = id
    · subst ei
      rw [List.getElem?_set_self (H.id_lt hr)] at hb'
      cases hb'
      exact ⟨g, hr, c', fr, setRow_heap w g c c' e _ hc, hfr, h1, h2, fun i j hi hj => ⟨(h3 i j hi hj).1.step s, (h3 i j hi hj).2⟩⟩
    · rw [List.getElem?_set_ne (Ne.symm ei)] at hb'
      obtain ⟨g', hg', hb⟩ := H.live id' b' hb'
      exact ⟨g', hg', hb.step s (setRow_other w g g' c' (fun eg => ei (H.inj id' id g (eg ▸ hg') hr)))⟩
  only id' g' hr' := by
    by_cases ei : id' = id
    · subst ei; exact ⟨_, List.getElem?_set_self (H.id_lt hr)⟩
    · rw [List.getElem?_set_ne (Ne.symm ei)]; exact H.only id' g' hr'
  dead id' hd := by
    have ei : id' ≠ id := fun ei => by
      obtain ⟨b, hb⟩ := H.only id g hr
      exact H.not_dead hb (ei ▸ hd)
    rw [List.getElem?_set_ne (Ne.symm ei)]
    exact H.dead id' hd
  inj := H.inj
  own := H.own
  z k hz := ⟨by have := (H.z k hz).1; simpa using this, (H.z k hz).2⟩
  fr k hk hn := by
    rw [setRow_other w g k c' (fun ek => ?_)]
    · exact H.fr k hk hn
    · subst ek
      rcases H.own id k hr with ⟨id0, h0⟩ | h0
      · exact hn id0 h0
      · omega
  os := H.os
  tape := H.tape
  output := H.output
  size := by have := H.size; simpa using this
  step := by
    have s := H.step
    have t := H.set_step hr hc hs
    refine ⟨fun id g hr => ?_, fun id hd => t.dead _ (s.dead _ hd), fun k hz => t.z _ (s.z _ hz), fun k hz => (t.zb k (s.z k hz)).trans (s.zb k hz), fun id g c e fr hr hr' hc => ?_⟩
    · exact s.rho id g hr
    · obtain ⟨c1, e1, fr1, hc1, hl1⟩ := s.cap id g c e fr hr hr' hc
      obtain ⟨c2, e2, fr2, hc2, hl2⟩ := t.cap id g c1 e1 fr1 hr' hr' hc1
      exact ⟨c2, e2, fr2, hc2, Nat.le_trans hl1 hl2⟩
  zg := H.zg

/-- A live block is given up. -/
theorem HR.kill_step (H : HR B w ρ D Z h) (id : Nat) : Step w w ρ (setρ ρ id none) D (fun i => D i ∨ (i = id ∧ id < h.length)) Z Z where
  rho i g hr := by
    by_cases e : i = id
    · exact .inr (.inr ⟨e, e ▸ H.id_lt hr⟩)
    · exact .inl (by unfold setρ; rw [if_neg e]; exact hr)
  dead _ hd := .inl hd
  z _ hz := hz
  zb _ _ := rfl
  cap id g c e fr _ _ hc := ⟨c, e, fr, hc, Nat.le_refl _⟩
theorem HR.kill (H : HR B w ρ D Z h) (id : Nat) : HR B w (setρ ρ id none) (fun i => D i ∨ (i = id ∧ id < h.length)) Z (h.set id none) where
  live id' b' hb' := by
    by_cases ei : id' = id
    · subst ei
      rw [List.getElem?_set] at hb'
      split at hb'
      · split at hb' <;> cases hb'
      · contradiction
    · rw [List.getElem?_set_ne (Ne.symm ei)] at hb'
      obtain ⟨g', hg', hb⟩ := H.live id' b' hb'
      exact ⟨g', by unfold setρ; rw [if_neg ei]; exact hg', hb.step (H.kill_step id) rfl⟩
  only id' g' hr' := by
    unfold setρ at hr'
    split at hr'
    · cases hr'
    · rename_i ei; rw [List.getElem?_set_ne (Ne.symm ei)]; exact H.only id' g' hr'
  dead id' hd := by
    by_cases ei : id' = id
    · subst ei
      refine List.getElem?_set_self ?_
      rcases hd with hd | ⟨_, hd⟩
      · exact H.dead_lt hd
      · exact hd
    · rw [List.getElem?_set_ne (Ne.symm ei)]
      rcases hd with hd | ⟨hd, _⟩
      · exact H.dead _ hd
      · exact absurd hd ei
  inj i j g hi hj := by
    unfold setρ at hi hj
    split at hi
    · cases hi
    · split at hj
      · cases hj
      · exact H.inj i j g hi hj
  own i g hr := by
    unfold setρ at hr
    split at hr
    · cases hr
    · exact H.own i g hr
  z k hz := ⟨(H.z k hz).1, fun i hr => by
    unfold setρ at hr
    split at hr
    · cases hr
    · exact (H.z k hz).2 i hr⟩
  fr := H.fr
  os := H.os
  tape := H.tape
  output := H.output
  size := H.size
  step := by
    have s := H.step
    have t := H.kill_step id
    refine ⟨fun i g hr => ?_, fun i hd => t.dead _ (s.dead _ hd), fun k hz => t.z _ (s.z _ hz), fun k hz => (t.zb k (s.z k hz)).trans (s.zb k hz), fun i g c e fr hr hr' hc => ?_⟩
    · rcases s.rho i g hr with h1 | h1
      · exact t.rho i g h1
      · exact .inr (t.dead _ h1)
    · have h1 : ρ i = some g := by
        unfold setρ at hr'
        split at hr'
        · cases hr'
        · exact hr'
      exact s.cap i g c e fr hr h1 hc
  zg := H.zg
end

/-! ### Of states -/
section
variable {B : Base} {w : World} {ρ : Nat → Option Nat} {D Z : Nat → Prop} {st : St} {a : Act}
theorem Inv.put (I : Inv B ρ D Z st a w) (d : Nat) {av : AV} {x : Value} (hd : d < st.n) (hx : RV w ρ D Z av x) : Inv B ρ D Z { st with env := (d, av) :: st.env } (a.put (some d) x) w where
  n := by simp [Act.put, I.n]
  env m := by
    simp only [look, Act.put]
    split
    · rename_i e
      subst e
      rw [show (a.tmps.setIfInBounds m x).getD m undef = x from by simp [Array.getD, I.n, hd]]
      exact hx
    · rename_i e
      have : (a.tmps.setIfInBounds d x).getD m undef = a.tmps.getD m undef := by
        simp only [Array.getD_eq_getD_getElem?, Array.getElem?_setIfInBounds]
        rw [if_neg (by omega)]
      rw [this]
      exact I.env m
  h := I.h
  bm := I.bm
  defers := by simpa [Act.put] using I.defers
theorem Inv.moved (I : Inv B ρ D Z st a w) {w' : World} {ρ' : Nat → Option Nat} {D' Z' : Nat → Prop} {h' : List (Option Blk)} (s : Step w w' ρ ρ' D D' Z Z') (H : HR B w' ρ' D' Z' h') : Inv B ρ' D' Z' { st with h := h' } a w' where
  n := I.n
  env m := (I.env m).step s
  h := H
  bm := I.bm
  defers := I.defers
end
end Pm
end Go.Proofs.Ytiipggfhjkalfaa
