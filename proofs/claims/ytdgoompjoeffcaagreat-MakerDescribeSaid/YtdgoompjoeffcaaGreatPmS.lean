import Derived.Test.YtdgoompjoeffcaaGreatPmR
/- PM, part S: calls that see and write the caller's blocks. -/
set_option linter.unusedSimpArgs false
set_option linter.unusedVariables false
namespace Go.Proofs.YtdgoompjoeffcaaGreat
namespace Pm
/-- A contract by the reckoning. -/
theorem con_run (n : Nat) {P : Program} {f : FuncId} {fn : Func} {c : Code} {rs : Array ResultVar} {k : Nat} {args : List AV} {h : List (Option Blk)} {Q : AV → List (Option Blk) → Prop} (hf : P.funcs[f]? = some fn) (hb : fn.body = some c) (hr : fn.results = rs) (hk : fn.ntmps = k) (hle : args.length ≤ k)
    (hrun : run P n [.code c] ⟨k, h.length, envOf args, h⟩ (retK P rs Q)) : Con P f args h Q := by
  subst hr hk
  exact con_of hf hb hle (tri_run n hrun)
/-- The callee's number i is the caller's: one of ids, or a new one. -/
def backId (ids : List Nat) (len : Nat) (i : Nat) : Option Nat := if i < ids.length then ids[i]? else some (len + (i - ids.length))
def renO (f : Nat → Option Nat) : Option Blk → Option Blk
  | some b => some (b.ren f)
  | none => none
def backL (ids : List Nat) (hc : List (Option Blk)) (f : Nat → Option Nat) : Nat → List (Option Blk) → List (Option Blk)
  | _, [] => []
  | id, b :: l => (match idxOf ids id with
    | some i => renO f (hc.getD i none)
    | none => b) :: backL ids hc f (id + 1) l
def backN (f : Nat → Option Nat) : List (Option Blk) → List (Option Blk)
  | [] => []
  | b :: l => renO f b :: backN f l
def backH (ids : List Nat) (h hc : List (Option Blk)) : List (Option Blk) := backL ids hc (backId ids h.length) 0 h ++ backN (backId ids h.length) (hc.drop ids.length)
theorem backL_length (ids : List Nat) (hc : List (Option Blk)) (f : Nat → Option Nat) : ∀ (l : List (Option Blk)) (id : Nat), (backL ids hc f id l).length = l.length
  | [], _ => rfl
  | _ :: l, id => by simp [backL, backL_length ids hc f l]
theorem backL_get (ids : List Nat) (hc : List (Option Blk)) (f : Nat → Option Nat) : ∀ (l : List (Option Blk)) (id k : Nat), k < l.length → (backL ids hc f id l)[k]? = some (match idxOf ids (id + k) with
    | some i => renO f (hc.getD i none)
    | none => (l[k]?).join)
  | [], _, k, h => by simp at h
  | b :: l, id, 0, _ => by
    simp only [backL, List.getElem?_cons_zero, Nat.add_zero, Option.join]
    cases idxOf ids id <;> simp [Option.join]
  | b :: l, id, k + 1, h => by
    simp only [backL, List.getElem?_cons_succ]
    rw [backL_get ids hc f l (id + 1) k (by simpa using h), show id + 1 + k = id + (k + 1) by omega]
theorem backN_eq (f : Nat → Option Nat) : ∀ l : List (Option Blk), backN f l = l.map (renO f)
  | [] => rfl
  | b :: l => by simp [backN, backN_eq f l]
theorem backH_old (ids : List Nat) (h hc : List (Option Blk)) {k : Nat} (hk : k < h.length) : (backH ids h hc)[k]? = some (match idxOf ids k with
    | some i => renO (backId ids h.length) (hc.getD i none)
    | none => (h[k]?).join) := by
  unfold backH
  rw [List.getElem?_append_left (by rw [backL_length]; exact hk), backL_get _ _ _ _ _ _ hk, Nat.zero_add]
theorem backH_new (ids : List Nat) (h hc : List (Option Blk)) {k : Nat} (hk : h.length ≤ k) : (backH ids h hc)[k]? = (hc[k - h.length + ids.length]?).map (renO (backId ids h.length)) := by
  unfold backH
  rw [List.getElem?_append_right (by rw [backL_length]; exact hk), backL_length, backN_eq, List.getElem?_map, List.getElem?_drop, Nat.add_comm]
theorem renO_some {f : Nat → Option Nat} {x : Option Blk} {b : Blk} (h : renO f x = some b) : ∃ b0, x = some b0 ∧ b = b0.ren f := by
  cases x with
  | none => simp [renO] at h
  | some b0 => simp [renO] at h; exact ⟨b0, rfl, h.symm⟩
theorem getD_none {hc : List (Option Blk)} {i : Nat} {b : Blk} (h : hc.getD i none = some b) : hc[i]? = some (some b) := by
  rw [List.getD_eq_getElem?_getD] at h
  cases he : hc[i]? with
  | none => simp [he] at h
  | some x => simp [he] at h; rw [h]
theorem idxOf_get : ∀ (ids : List Nat) (id i : Nat), ids.Nodup → ids[i]? = some id → idxOf ids id = some i
  | [], _, _, _, h => by simp at h
  | j :: l, id, 0, _, h => by simp at h; simp [idxOf, h]
  | j :: l, id, i + 1, hn, h => by
    simp only [List.getElem?_cons_succ] at h
    have hm := List.mem_of_getElem? h
    rw [List.nodup_cons] at hn
    have hne : id ≠ j := fun e => hn.1 (e ▸ hm)
    simp [idxOf, hne, idxOf_get l id i hn.2 h]
def rhoC (ids : List Nat) (ρ : Nat → Option Nat) : Nat → Option Nat := fun i => (ids[i]?).bind ρ
def deadC (ids : List Nat) (ρ : Nat → Option Nat) : Nat → Prop := fun i => ∃ id, ids[i]? = some id ∧ ∀ g, ρ id ≠ some g
def rhoN (ids : List Nat) (len : Nat) (ρ ρ' : Nat → Option Nat) : Nat → Option Nat := fun id => if id < len then (match idxOf ids id with
  | some i => ρ' i
  | none => ρ id) else ρ' (id - len + ids.length)
def deadN (ids : List Nat) (len : Nat) (D D' : Nat → Prop) : Nat → Prop := fun id => if id < len then (match idxOf ids id with
  | some i => D' i
  | none => D id) else D' (id - len + ids.length)
section
variable {B : Base} {w w' : World} {ρ ρ' : Nat → Option Nat} {D D' Z Z' : Nat → Prop} {h hc : List (Option Blk)}
theorem rhoC_some {ids : List Nat} {i g : Nat} (hr : rhoC ids ρ i = some g) : ∃ id, ids[i]? = some id ∧ ρ id = some g := by
  simpa only [rhoC, Option.bind_eq_some_iff] using hr
/-- What the callee sees of the heap. -/
theorem HR.sub {hgl : Gl w Z} (H : HR B w ρ D Z h) (ids : List Nat) (hn : ids.Nodup) : HR ⟨w, rhoC ids ρ, deadC ids ρ, Z, hgl, []⟩ w (rhoC ids ρ) (deadC ids ρ) Z (ids.map (keepB h ids)) where
  live i b hb := by
    rw [List.getElem?_map] at hb
    obtain ⟨id, hid, hb2⟩ := Option.map_eq_some_iff.1 hb
    unfold keepB at hb2
    split at hb2
    · rename_i b0 hb0
      cases hb2
      obtain ⟨g, hg, hr⟩ := H.live id b0 hb0
      refine ⟨g, by simp only [rhoC, hid, Option.bind_some, hg], hr.ren _ (fun id i g h hg => ?_) (fun id i h hd => ⟨id, idxOf_some ids id i h, fun g hg => ?_⟩)⟩
      · simp only [rhoC, idxOf_some ids id i h, Option.bind_some, hg]
      · obtain ⟨b, hb⟩ := H.only id g hg
        exact H.not_dead hb hd
    · cases hb2
  only i g hg := by
    obtain ⟨id, hid, hr⟩ := rhoC_some hg
    obtain ⟨b, hb⟩ := H.only id g hr
    exact ⟨b.ren (idxOf ids), by rw [List.getElem?_map, hid]; simp [keepB, hb]⟩
  dead i hi := by
    obtain ⟨id, hid, hd⟩ := hi
    rw [List.getElem?_map, hid]
    simp only [Option.map_some, keepB]
    split
    · rename_i b hb
      obtain ⟨g, hg, _⟩ := H.live id b hb
      exact absurd hg (hd g)
    · rfl
  inj i j g hi hj := by
    obtain ⟨id, h1, h2⟩ := rhoC_some hi
    obtain ⟨jd, h3, h4⟩ := rhoC_some hj
    have e := H.inj id jd g h2 h4
    subst e
    obtain ⟨hi1, hi2⟩ := List.getElem?_eq_some_iff.1 h1
    obtain ⟨hj1, hj2⟩ := List.getElem?_eq_some_iff.1 h3
    exact (List.getElem_inj hn).1 (hi2.trans hj2.symm)
  own i g hg := .inl ⟨i, hg⟩
  z k hk := ⟨(H.z k hk).1, fun i hg => by
    obtain ⟨id, h1, h2⟩ := rhoC_some hg
    exact (H.z k hk).2 id h2⟩
  fr _ _ _ := rfl
  os := rfl
  tape := rfl
  output := rfl
  size := Nat.le_refl _
  step := Step.refl _ _ _ _
  zg k hk := .inl hk
theorem backId_some {ids : List Nat} {len i id : Nat} (hl : ∀ x ∈ ids, x < len) (hn : ids.Nodup) (hb : backId ids len i = some id) : rhoN ids len ρ ρ' id = ρ' i ∧ (deadN ids len D D' id ↔ D' i) := by
  unfold backId at hb
  split at hb
  · have hlt := hl _ (List.mem_of_getElem? hb)
    have hx := idxOf_get ids id i hn hb
    unfold rhoN deadN
    rw [if_pos hlt, if_pos hlt, hx]
    exact ⟨rfl, Iff.rfl⟩
  · cases hb
    rename_i hi
    unfold rhoN deadN
    rw [if_neg (by omega), if_neg (by omega), show len + (i - ids.length) - len + ids.length = i by omega]
    exact ⟨rfl, Iff.rfl⟩
theorem HR.framed {hgl : Gl w Z} (H : HR B w ρ D Z h) {ids : List Nat} (hn : ids.Nodup) (hl : ∀ x ∈ ids, x < h.length) (hlen : ids.length ≤ hc.length)
    (H' : HR ⟨w, rhoC ids ρ, deadC ids ρ, Z, hgl, []⟩ w' ρ' D' Z' hc) : Step w w' ρ (rhoN ids h.length ρ ρ') D (deadN ids h.length D D') Z Z' ∧ HR B w' (rhoN ids h.length ρ ρ') (deadN ids h.length D D') Z' (backH ids h hc) := by
  have hC : ∀ id i g, idxOf ids id = some i → ρ id = some g → rhoC ids ρ i = some g := fun id i g hi hg => by
    simp only [rhoC, idxOf_some ids id i hi, Option.bind_some, hg]
  have hout : ∀ id g, id < h.length → idxOf ids id = none → ρ id = some g → ∀ i, rhoC ids ρ i ≠ some g := fun id g hlt hnone hr i hi => by
    obtain ⟨id', h1, h2⟩ := rhoC_some hi
    have e := H.inj id' id g h2 hr
    subst e
    rw [idxOf_get ids id' i hn h1] at hnone
    cases hnone
  have same : ∀ id g, id < h.length → idxOf ids id = none → ρ id = some g → w'.heap[g]? = w.heap[g]? := fun id g hlt hnone hr =>
    H'.fr g (H.lt hr) (hout id g hlt hnone hr)
  have s : Step w w' ρ (rhoN ids h.length ρ ρ') D (deadN ids h.length D D') Z Z' := by
    refine ⟨fun id g hr => ?_, fun id hd => ?_, H'.step.z, H'.step.zb, fun id g c e fr hr hr' hcc => ?_⟩
    · have hlt := H.id_lt hr
      unfold rhoN deadN
      rw [if_pos hlt, if_pos hlt]
      cases hx : idxOf ids id with
      | some i => exact H'.step.rho i g (hC id i g hx hr)
      | none => exact .inl hr
    · have hlt := H.dead_lt hd
      unfold deadN
      rw [if_pos hlt]
      cases hx : idxOf ids id with
      | some i => exact H'.step.dead i ⟨id, idxOf_some ids id i hx, fun g hg => by
          obtain ⟨b, hb⟩ := H.only id g hg
          exact H.not_dead hb hd⟩
      | none => exact hd
    · have hlt := H.id_lt hr
      unfold rhoN at hr'
      rw [if_pos hlt] at hr'
      cases hx : idxOf ids id with
      | some i =>
        rw [hx] at hr'
        exact H'.step.cap i g c e fr (hC id i g hx hr) hr' hcc
      | none => exact ⟨c, e, fr, by rw [same id g hlt hx hr]; exact hcc, Nat.le_refl _⟩
  have hown : ∀ i g, ρ' i = some g → (∃ id, ρ id = some g ∧ ∃ j, ids[j]? = some id) ∨ w.heap.size ≤ g := fun i g hr => by
    rcases H'.own i g hr with ⟨id0, h0⟩ | h0
    · obtain ⟨id, h1, h2⟩ := rhoC_some h0
      exact .inl ⟨id, h2, id0, h1⟩
    · exact .inr h0
  have hmix : ∀ i j g, ρ' i = some g → j < h.length → idxOf ids j = none → ρ j ≠ some g := fun i j g hi hj hnone hr => by
    rcases hown i g hi with ⟨id, h1, k, hk⟩ | h0
    · have e := H.inj id j g h1 hr
      subst e
      rw [idxOf_get ids id k hn hk] at hnone
      cases hnone
    · have := H.lt hr
      omega
  have hren : ∀ {b0 : Blk} {g : Nat}, RB w' ρ' D' Z' b0 g → RB w' (rhoN ids h.length ρ ρ') (deadN ids h.length D D') Z' (b0.ren (backId ids h.length)) g := fun hb =>
    hb.ren _ (fun id i g hi hg => by rw [(backId_some (ρ := ρ) (ρ' := ρ') (D := D) (D' := D') hl hn hi).1]; exact hg) (fun id i hi hd => (backId_some (ρ := ρ) (ρ' := ρ') (D := D) (D' := D') hl hn hi).2.2 hd)
  have ndead : ∀ id g, rhoN ids h.length ρ ρ' id = some g → ¬ deadN ids h.length D D' id := fun id g hr hd => by
    unfold rhoN at hr
    unfold deadN at hd
    split at hr
    · rename_i hlt
      rw [if_pos hlt] at hd
      cases hx : idxOf ids id with
      | some i =>
        rw [hx] at hr hd
        obtain ⟨b, hb⟩ := H'.only i g hr
        exact H'.not_dead hb hd
      | none =>
        rw [hx] at hr hd
        obtain ⟨b, hb⟩ := H.only id g hr
        exact H.not_dead hb hd
    · rename_i hlt
      rw [if_neg hlt] at hd
      obtain ⟨b, hb⟩ := H'.only _ g hr
      exact H'.not_dead hb hd
  refine ⟨s, ?_⟩
  constructor
  case live =>
    intro id b hb
    by_cases hlt : id < h.length
    · rw [backH_old ids h hc hlt] at hb
      unfold rhoN
      rw [if_pos hlt]
      cases hx : idxOf ids id with
      | some i =>
        rw [hx] at hb
        obtain ⟨b0, hb0, rfl⟩ := renO_some (Option.some.inj hb)
        obtain ⟨g, hg, hr⟩ := H'.live i b0 (getD_none hb0)
        exact ⟨g, hg, hren hr⟩
      | none =>
        rw [hx] at hb
        have hb2 : h[id]? = some (some b) := by
          have := Option.some.inj hb
          cases he : h[id]? with
          | none => simp [he, Option.join] at this
          | some x => simp [he, Option.join] at this; rw [this]
        obtain ⟨g, hg, hr⟩ := H.live id b hb2
        exact ⟨g, hg, hr.step s (same id g hlt hx hg)⟩
    · rw [backH_new ids h hc (by omega)] at hb
      obtain ⟨x, hx, hb2⟩ := Option.map_eq_some_iff.1 hb
      obtain ⟨b0, rfl, rfl⟩ := renO_some hb2
      obtain ⟨g, hg, hr⟩ := H'.live _ b0 hx
      exact ⟨g, by unfold rhoN; rw [if_neg hlt]; exact hg, hren hr⟩
  case only =>
    intro id g hr
    unfold rhoN at hr
    split at hr
    · rename_i hlt
      rw [backH_old ids h hc hlt]
      cases hx : idxOf ids id with
      | some i =>
        rw [hx] at hr
        obtain ⟨b, hb⟩ := H'.only i g hr
        exact ⟨b.ren (backId ids h.length), by simp [List.getD_eq_getElem?_getD, hb, renO]⟩
      | none =>
        rw [hx] at hr
        obtain ⟨b, hb⟩ := H.only id g hr
        exact ⟨b, by simp [hb, Option.join]⟩
    · rename_i hlt
      rw [backH_new ids h hc (by omega)]
      obtain ⟨b, hb⟩ := H'.only _ g hr
      exact ⟨b.ren (backId ids h.length), by rw [hb]; rfl⟩
  case dead =>
    intro id hd
    unfold deadN at hd
    split at hd
    · rename_i hlt
      rw [backH_old ids h hc hlt]
      cases hx : idxOf ids id with
      | some i =>
        rw [hx] at hd
        simp [List.getD_eq_getElem?_getD, H'.dead i hd, renO]
      | none =>
        rw [hx] at hd
        simp [H.dead id hd, Option.join]
    · rename_i hlt
      rw [backH_new ids h hc (by omega), H'.dead _ hd]
      rfl
  case inj =>
    intro i j g hi hj
    unfold rhoN at hi hj
    split at hi
    · rename_i hlt
      cases hx : idxOf ids i with
      | some i' =>
        rw [hx] at hi
        split at hj
        · rename_i hlt2
          cases hy : idxOf ids j with
          | some j' =>
            rw [hy] at hj
            have e := H'.inj i' j' g hi hj
            subst e
            have a := idxOf_some ids i i' hx
            have b := idxOf_some ids j i' hy
            rw [a] at b
            exact Option.some.inj b
          | none => rw [hy] at hj; exact absurd hj (hmix i' j g hi hlt2 hy)
        · rename_i hlt2
          have e := H'.inj i' _ g hi hj
          have a := (List.getElem?_eq_some_iff.1 (idxOf_some ids i i' hx)).1
          omega
      | none =>
        rw [hx] at hi
        split at hj
        · rename_i hlt2
          cases hy : idxOf ids j with
          | some j' => rw [hy] at hj; exact absurd hi (hmix j' i g hj hlt hx)
          | none => rw [hy] at hj; exact H.inj i j g hi hj
        · exact absurd hi (hmix _ i g hj hlt hx)
    · rename_i hlt
      split at hj
      · rename_i hlt2
        cases hy : idxOf ids j with
        | some j' =>
          rw [hy] at hj
          have e := H'.inj _ j' g hi hj
          have a := (List.getElem?_eq_some_iff.1 (idxOf_some ids j j' hy)).1
          omega
        | none => rw [hy] at hj; exact absurd hj (hmix _ j g hi hlt2 hy)
      · have e := H'.inj _ _ g hi hj
        omega
  case own =>
    have key : ∀ i g, ρ' i = some g → (∃ id0, B.ρ id0 = some g) ∨ B.w.heap.size ≤ g := fun i g hr => by
      rcases hown i g hr with ⟨id, h1, _⟩ | h0
      · exact H.own id g h1
      · have := H.size; exact .inr (by omega)
    intro id g hr
    unfold rhoN at hr
    split at hr
    · cases hx : idxOf ids id with
      | some i => rw [hx] at hr; exact key i g hr
      | none => rw [hx] at hr; exact H.own id g hr
    · exact key _ g hr
  case z =>
    intro k hk
    refine ⟨(H'.z k hk).1, fun id hr => ?_⟩
    unfold rhoN at hr
    split at hr
    · cases hx : idxOf ids id with
      | some i => rw [hx] at hr; exact (H'.z k hk).2 i hr
      | none =>
        rw [hx] at hr
        rcases H'.zg k hk with h1 | h1
        · exact (H.z k h1).2 id hr
        · have h1' : w.heap.size ≤ k := h1
          have := H.lt hr
          omega
    · exact (H'.z k hk).2 _ hr
  case fr =>
    intro k hk hno
    refine (H'.fr k (by have := H.size; show k < w.heap.size; omega) fun id hr => ?_).trans (H.fr k hk hno)
    obtain ⟨id', _, h2⟩ := rhoC_some hr
    rcases H.own id' k h2 with ⟨id0, h0⟩ | h0
    · exact hno id0 h0
    · omega
  case os => exact H'.os.trans H.os
  case tape => exact H'.tape.trans H.tape
  case output => exact H'.output.trans H.output
  case size => exact Nat.le_trans H.size H'.size
  case step =>
    have t := H.step
    refine ⟨fun id g hr => ?_, fun id hd => s.dead _ (t.dead _ hd), fun k hz => s.z _ (t.z _ hz), fun k hz => (s.zb k (t.z k hz)).trans (t.zb k hz), fun id g c e fr hr hr' hcc => ?_⟩
    · rcases t.rho id g hr with h1 | h1
      · exact s.rho id g h1
      · exact .inr (s.dead _ h1)
    · rcases t.rho id g hr with h1 | h1
      · obtain ⟨c1, e1, fr1, hc1, hl1⟩ := t.cap id g c e fr hr h1 hcc
        obtain ⟨c2, e2, fr2, hc2, hl2⟩ := s.cap id g c1 e1 fr1 h1 hr' hc1
        exact ⟨c2, e2, fr2, hc2, Nat.le_trans hl1 hl2⟩
      · exact absurd (s.dead _ h1) (ndead id g hr')
  case zg =>
    intro k hk
    rcases H'.zg k hk with h1 | h1
    · exact H.zg k h1
    · have h1' : w.heap.size ≤ k := h1
      have := H.size
      exact .inr (by omega)
end
/-- Behind the call. -/
def St.back (st : St) (ids : List Nat) (d : Option Tmp) (r : AV) (hc : List (Option Blk)) : St :=
  ({ st with h := backH ids st.h hc } : St).put d (r.ren (backId ids st.h.length))
section
variable {P : Program} {st : St} {K : Exit → St → Prop}
theorem callA_con {f : FuncId} {args args' : List AV} {d : Option Tmp} {Kr : St → Prop} {h0 : List (Option Blk)} {Q : AV → List (Option Blk) → Prop} (ids : List Nat) (c : Con P f args' h0 Q) (ha : AV.renL (idxOf ids) args = args') (hh : ids.map (keepB st.h ids) = h0)
    (hn : ids.Nodup) (hl : ∀ x ∈ ids, x < st.h.length) (hd : okDst st.n d = true) (hk : ∀ r hc, Q r hc → ids.length ≤ hc.length ∧ Kr (st.back ids d r hc)) : CallA P f args st d Kr := by
  subst ha hh
  intro B ρ D Z a w I cargs hlen hargs
  have hlen' : (AV.renL (idxOf ids) args).length = cargs.size := by rw [AV.renL_length]; exact hlen
  refine (c ⟨w, rhoC ids ρ, deadC ids ρ, Z, B.gl.step I.h.step, []⟩ cargs hlen' (fun i hi => ?_) (I.h.sub ids hn)).mono ?_
  · rw [AV.renL_getD]
    refine (hargs i (by rwa [AV.renL_length] at hi)).ren _ (fun id j g h hg => ?_) (fun id j h hd => ⟨id, idxOf_some ids id j h, fun g hg => ?_⟩)
    · simp only [rhoC, idxOf_some ids id j h, Option.bind_some, hg]
    · obtain ⟨b, hb⟩ := I.h.only id g hg
      exact I.h.not_dead hb hd
  · rintro e w' ⟨r, v, hc, ρ', D', Z', rfl, q, hv, H'⟩
    obtain ⟨hlc, hkr⟩ := hk r hc q
    obtain ⟨s, Hn⟩ := I.h.framed hn hl hlc H'
    refine ⟨v, _, _, _, _, rfl, hkr, (I.moved s Hn).puts hd ?_⟩
    exact hv.ren _ (fun id i g hi hg => by rw [(backId_some (ρ := ρ) (ρ' := ρ') (D := D) (D' := D') hl hn hi).1]; exact hg) (fun id i hi hd => (backId_some (ρ := ρ) (ρ' := ρ') (D := D) (D' := D') hl hn hi).2.2 hd)
/-- A call by a contract over some of the caller's blocks. -/
theorem call_con (n : Nat) {f : FuncId} {args args' : List AV} {d : Option Tmp} {ops : Array Oper} {rest : List Oper} {t : List It} {h0 : List (Option Blk)} {Q : AV → List (Option Blk) → Prop} (ids : List Nat) (c : Con P f args' h0 Q) (ha : AV.renL (idxOf ids) args = args') (hh : ids.map (keepB st.h ids) = h0)
    (hn : ids.Nodup) (hl : ∀ x ∈ ids, x < st.h.length) (hd : okDst st.n d = true) (hk : ∀ r hc, Q r hc → ids.length ≤ hc.length ∧ run P n (.ops ops rest :: t) (st.back ids d r hc) K) : CallT P f args st d ops rest t K :=
  callA_con ids c ha hh hn hl hd fun r hc q => ⟨(hk r hc q).1, run_sound n _ _ (hk r hc q).2⟩
theorem call_con_eq (n : Nat) {f : FuncId} {args args' : List AV} {d : Option Tmp} {ops : Array Oper} {rest : List Oper} {t : List It} {h0 h1 : List (Option Blk)} {r : AV} (ids : List Nat) (c : Con P f args' h0 fun x y => x = r ∧ y = h1) (ha : AV.renL (idxOf ids) args = args') (hh : ids.map (keepB st.h ids) = h0)
    (hk : run P n (.ops ops rest :: t) (st.back ids d r h1) K) (hn : ids.Nodup := by simp) (hl : ∀ x ∈ ids, x < st.h.length := by simp) (hd : okDst st.n d = true := by rfl) (hlen : ids.length ≤ h1.length := by first | (simp; done) | exact Nat.le_of_ble_eq_true rfl) : CallT P f args st d ops rest t K :=
  call_con n ids c ha hh hn hl hd fun r' hc q => by rw [q.1, q.2]; exact ⟨hlen, hk⟩
/-- The last call of a region whose order is open, which hangs on all else. -/
theorem call_draw_con (n : Nat) {W : WS} {f : FuncId} {args args' : List AV} {d : Option Tmp} {ops : Array Oper} {t : List It} {h0 h1 : List (Option Blk)} {r : AV} (ids : List Nat) (c : Con P f args' h0 fun x y => x = r ∧ y = h1) (hdep : lastDep ops (ops.size - 1) = true)
    (ha : AV.renL (idxOf ids) args = args') (hh : ids.map (keepB st.h ids) = h0)
    (hk : run P n t (st.back ids d r h1) K) (hn : ids.Nodup := by simp) (hl : ∀ x ∈ ids, x < st.h.length := by simp) (hd : okDst st.n d = true := by rfl) (hlen : ids.length ≤ h1.length := by first | (simp; done) | exact Nat.le_of_ble_eq_true rfl) : CallW P W ops f args d [] t st K :=
  .inr (.inl ⟨rfl, hdep, callA_con ids c ha hh hn hl hd fun r' hc q => by rw [q.1, q.2]; exact ⟨hlen, _, EqSt.refl _, run_sound n _ _ hk⟩⟩)
theorem backL_none (hc : List (Option Blk)) (f : Nat → Option Nat) : ∀ (l : List (Option Blk)) (id : Nat), backL [] hc f id l = l
  | [], _ => rfl
  | x :: l, id => by simp [backL, idxOf, backL_none hc f l]
/-- A call that makes new blocks, in a region whose order is open; it stands alone at its turn (n + hardK). -/
theorem call_draw_new (n : Nat) {W : WS} {f : FuncId} {args args' : List AV} {d : Option Tmp} {ops : Array Oper} {rest : List Oper} {t : List It} {h1 : List (Option Blk)} {r : AV} (c : Con P f args' [] fun x y => x = r ∧ y = h1) (hh : hardB W ops d = true)
    (ha : AV.renL (idxOf []) args = args') (hd : okDst st.n d = true) (hk : runD P W ops n rest t (st.back [] d r h1) K) : CallW P W ops f args d rest t st K := by
  have hb : ∀ s' : St, s'.h = st.h → s'.back [] d r h1 = ({ s' with h := st.h ++ backN (backId [] st.h.length) h1 } : St).put d (r.ren (backId [] st.h.length)) := fun s' e => by
    unfold St.back backH
    rw [backL_none, e]
    rfl
  refine .inr (.inr ⟨hh, r.ren (backId [] st.h.length), st.h ++ backN (backId [] st.h.length) h1, HeapW.ext W _ _, fun s' hn hs => callA_con [] c ha rfl (by simp) (by simp) (by rw [hn]; exact hd) fun r' hc q => ?_, fun hL => ?_⟩)
  · rw [q.1, q.2]
    exact ⟨by simp, hb s' hs⟩
  · rw [← hb st rfl]
    exact runD_sound hL n _ _ hk
/-- A call that changes blocks, in a region whose order is open; it stands alone at its turn (n + hardK); the blocks that it changes are among f. -/
theorem call_draw_hard (n : Nat) {f : Nat → Bool} {fn : FuncId} {args args' : List AV} {d : Option Tmp} {ops : Array Oper} {rest : List Oper} {t : List It} {h0 h1 : List (Option Blk)} {r : AV} (ids : List Nat) (c : Con P fn args' h0 fun x y => x = r ∧ y = h1) (hh : hardB (some f) ops d = true)
    (ha : AV.renL (idxOf ids) args = args') (hx : ids.map (keepB st.h ids) = h0) (hw : agreeW f 0 st.h (backH ids st.h h1)) (hk : runD P (some f) ops n rest t (st.back ids d r h1) K) (hn : ids.Nodup := by simp) (hl : ∀ x ∈ ids, x < st.h.length := by simp) (hd : okDst st.n d = true := by rfl) (hlen : ids.length ≤ h1.length := by first | (simp; done) | exact Nat.le_of_ble_eq_true rfl) : CallW P (some f) ops fn args d rest t st K := by
  have hb : ∀ s' : St, s'.h = st.h → s'.back ids d r h1 = ({ s' with h := backH ids st.h h1 } : St).put d (r.ren (backId ids st.h.length)) := fun s' e => by
    unfold St.back
    rw [e]
  obtain ⟨k1, k2, k3⟩ := agreeW_heap f _ _ 0 hw
  have hW : HeapW (some f) st.h (backH ids st.h h1) := ⟨k1, fun id hi hw => k2 id hi (by rw [Nat.zero_add]; exact hw), fun id b hb hk => k3 id b hb (by rw [Nat.zero_add]; exact hk)⟩
  refine .inr (.inr ⟨hh, r.ren (backId ids st.h.length), backH ids st.h h1, hW, fun s' hs1 hs2 => callA_con ids c ha (by rw [hs2]; exact hx) hn (by rw [hs2]; exact hl) (by rw [hs1]; exact hd) fun r' hc q => ?_, fun hL => ?_⟩)
  · rw [q.1, q.2]
    exact ⟨hlen, hb s' hs2⟩
  · rw [← hb st rfl]
    exact runD_sound hL n _ _ hk
end
end Pm
end Go.Proofs.YtdgoompjoeffcaaGreat
