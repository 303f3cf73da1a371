import Derived.Test.YtdgoompjoeffcaaGreatPmG
/- PM, part H: make, append, len, min, max, checks. -/
namespace Go.Proofs.YtdgoompjoeffcaaGreat
namespace Pm

section
variable {P : Program} {B : Base} {w : World} {ρ : Nat → Option Nat} {D Z : Nat → Prop} {st : St} {a : Act} {K : AV → List (Option Blk) → Prop}

theorem Step.drew (w : World) (ρ : Nat → Option Nat) (D Z : Nat → Prop) : Step w w.drew ρ ρ D D Z Z :=
  ⟨fun _ _ h => .inl h, fun _ h => h, fun _ h => h, fun _ _ => rfl, fun _ _ c e fr _ _ h => ⟨c, e, fr, h, Nat.le_refl _⟩⟩
theorem HR.drew {h : List (Option Blk)} (H : HR B w ρ D Z h) : HR B w.drew ρ D Z h where
  live id b hb := by
    obtain ⟨g, hg, hr⟩ := H.live id b hb
    exact ⟨g, hg, hr.step (Step.drew w ρ D Z) rfl⟩
  only := H.only
  dead := H.dead
  inj := H.inj
  own := H.own
  z := H.z
  fr := H.fr
  os := H.os
  tape := H.tape
  output := H.output
  size := H.size
  step := ⟨H.step.rho, H.step.dead, H.step.z, H.step.zb, H.step.cap⟩
  zg := H.zg

/-- A new row, told by its elements. -/
theorem out_newrow (I : Inv B ρ D Z st a w) {s : Sem Next} {e : TypeId} {sz n cap : Nat} {es : List AV} {c : Array Value} (hs : s.run P w = .ok (.value (.slice (some ⟨w.heap.size, 0, none⟩) n cap)) (w.alloc (.cells c e)))
    (hb : ∀ ρ', Step w (w.alloc (.cells c e)) ρ ρ' D D Z Z → RB (w.alloc (.cells c e)) ρ' D Z (.row e sz es) w.heap.size) (hcap : cap * sz ≤ c.size) (hn : n ≤ cap) (hm : cap ≤ maxLen)
    (hk : K (.sl st.h.length sz 0 n) (st.h ++ [some (.row e sz es)])) : Out P B st a w K s := by
  have hst := I.h.alloc_step (.cells c e)
  refine ⟨_, _, hs, _, .inl rfl, _, _, setρ ρ st.h.length (some w.heap.size), D, Z, hk, ?_, I.moved hst (I.h.alloc _ _ (hb _ hst))⟩
  have : (⟨w.heap.size, 0, none⟩ : Addr) = ⟨w.heap.size, 0 * sz, none⟩ := by simp
  rw [this]
  exact .sl (by simp [setρ]) ⟨c, e, (0, 0), heap_new w _, by simpa using hcap⟩ hn hm

theorem out_makeSlice (I : Inv B ρ D Z st a w) {t e : TypeId} {sz by_ : Nat} {gg : Bool} {z : List Value} {x y : Operand} {k k' : IntKind} {n m : Int} (hx : st.get x = .v (.int k n)) (hy : st.get y = .v (.int k' m))
    (ht : slOf P t = some e) (hs : szOf P e = some sz) (hb : byOf P e = some by_) (hz : zeroOf P e = some z) (ho : z.all (·.oneCell') = true) (hzl : z.length = sz) (h1 : gg = false → sz = 1) (hpos : 0 < sz)
    (h0 : 0 ≤ n) (hnm : n ≤ m) (hby : by_ * m ≤ 140737488355328) (hmm : m ≤ 9223372036854775807)
    (hk : K (.sl st.h.length sz 0 n.toNat) (st.h ++ [some (.row e sz (List.replicate n.toNat (AV.zero gg z)))])) : Out P B st a w K (do pure (.value (← Instr.makeSlice t (a.eval x) (a.eval y)))) := by
  have hxv := I.get x
  rw [hx] at hxv
  have hyv := I.get y
  rw [hy] at hyv
  rw [hxv.v_inv, hyv.v_inv]
  obtain ⟨v, hv, hvz, hR⟩ := RVL.zeros (P := P) (w := w) (ρ := ρ) (D := D) (Z := Z) hz ho
  have hvs : v.cells.size = sz := by rw [← hzl, ← hvz]; simp
  have wn : IntKind.i64.wrap n = n := IntWalk.i64_in _ (by omega)
  have wm : IntKind.i64.wrap m = m := IntWalk.i64_in _ (by omega)
  cases hie : P.info? e with
  | none => simp [hie] at hv
  | some ie =>
    have hiz : ie.zero = some v := by simpa [hie] using hv
    have his : ie.size = sz := by simpa [szOf, hie] using hs
    have hib : ie.bytes = by_ := by simpa [byOf, hie] using hb
    obtain ⟨q, rfl⟩ := Int.eq_ofNat_of_zero_le (show 0 ≤ m by omega)
    obtain ⟨p, rfl⟩ := Int.eq_ofNat_of_zero_le h0
    have hzero : (zeroValue e).run P w = .ok v w := by simp [zeroValue, typeInfo, hie, hiz]
    let c : Array Value := if q * sz = 0 then (Array.range (q * sz)).map ((#[] : Array Value)[· % (#[] : Array Value).size]!) else (Array.range (q * sz)).map (v.cells[· % v.cells.size]!)
    have hcs : c.size = q * sz := by simp only [c]; split <;> simp
    have hcg : ∀ i, i < q * sz → c.getD i undef = v.cells.getD (i % sz) undef := fun i hi => by
      simp only [c]
      rw [if_neg (by omega)]
      have hm : i % sz < v.cells.size := by rw [hvs]; exact Nat.mod_lt _ hpos
      simp [Array.getD, hi, hvs, Nat.mod_lt _ hpos]
    refine out_newrow I (c := c) (cap := q) (e := e) (es := List.replicate p (AV.zero gg z)) ?_ (fun ρ' hst => ?_) (by omega) (by omega) (by unfold maxLen; omega) hk
    · have e1 : (typeInfo e).run P w = .ok ie w := by simp [typeInfo, hie]
      have e2 : (sizeOf e).run P w = .ok sz w := run_sz hs
      simp only [Instr.makeSlice, Sem.run_bind, run_underlying (und_sl ht), Result.andThen_ok, asInt, asIntOf, Sem.run_pure, e1, wn, wm, hib]
      rw [if_neg (by simp; omega)]
      have e3 : ∀ b, (askRoom b).run P w = .ok () w := fun b => by
        unfold askRoom
        split <;> rfl
      simp only [Sem.run_bind, Int.toNat_natCast, e3, Result.andThen_ok, e2]
      by_cases hq : q * sz = 0
      · rw [if_pos hq]
        simp [newRow, c, hq]
      · rw [if_neg hq]
        simp [hzero, newRow, c, hq]
    · have hzc : ∀ i, i < p → ((List.replicate p (AV.zero gg z)).getD i .junk) = AV.zero gg z := fun i hi => by simp [List.getD_eq_getElem?_getD, hi]
      have hc : (AV.zero gg z).cells = z.map .v := by
        unfold AV.zero
        cases gg with
        | true => rfl
        | false =>
          have := h1 rfl
          rw [← hzl] at this
          match z, this with
          | [x], _ => rfl
      have hpq : p * sz ≤ q * sz := Nat.mul_le_mul_right _ (by omega)
      refine ⟨c, (0, 0), heap_new w _, .inl (Nat.le_refl _), by simp; omega, fun i hi => ?_, fun i j hi hj => ?_⟩
      · rw [hzc i (by simpa using hi), hc]; simp [hzl]
      · have hi' : i < p := by simpa using hi
        have := mul_lt hi' hj
        rw [hzc i hi', hcg _ (by omega)]
        have e4 : (i * sz + j) % sz = j := by rw [Nat.add_comm, Nat.add_mul_mod_self_right]; exact Nat.mod_eq_of_lt hj
        rw [e4]
        unfold AV.cellAt
        rw [hc]
        exact ⟨(hR.2 j (by simp; omega)).1.step hst, (hR.2 j (by simp; omega)).2⟩

/-! ### append -/
/-- What is appended. -/
def srcA (st : St) (sz : Nat) : AV → Option (List AV)
  | .sl id sz' off n => match st.h[id]? with
    | some (some (.row _ q es)) => if q = sz ∧ sz' = sz ∧ off + n ≤ es.length then some ((es.drop off).take n) else none
    | _ => none
  | .fsl sz' es => if sz' = sz then some es else none
  | .v (.slice none 0 _) => some []
  | .v (.string s) => if sz = 1 then some (s.data.toList.map fun b => .v (.int .u8 b.toNat)) else none
  | _ => none
def srcTy (P : Program) (tx : TypeId) (x : AV) : Bool := match x, P.underlying tx with
  | .v (.string _), some .string => true
  | .v (.string _), _ => false
  | _, some (.slice _) => true
  | _, _ => false
theorem flat_getD {α : Type} (f : Nat → Nat → α) (d : α) (sz : Nat) (hpos : 0 < sz) (n i j : Nat) (hi : i < n) (hj : j < sz) : ((List.range (n * sz)).map fun k => f (k / sz) (k % sz)).getD (i * sz + j) d = f i j := by
  have := mul_lt hi hj
  have e1 : (i * sz + j) / sz = i := by rw [Nat.add_comm, Nat.add_mul_div_right _ _ hpos, Nat.div_eq_of_lt hj, Nat.zero_add]
  have e2 : (i * sz + j) % sz = j := by rw [Nat.add_comm, Nat.add_mul_mod_self_right]; exact Nat.mod_eq_of_lt hj
  simp [List.getD_eq_getElem?_getD, this, e1, e2]
theorem src_of_cells {sz n : Nat} {tx e' : TypeId} (hk : P.underlying tx = some (.slice e')) (hpos : 0 < sz) (ad : Addr) (cap : Nat) (F : Nat → Nat → Value)
    (hc : ∀ i j, i < n → j < sz → w.cell? (ad.add (i * sz + j)) = some (F i j)) (h1 : ∀ i j, i < n → j < sz → (F i j).oneCell' = true) :
    Src P sz tx (.slice (some ad) n cap) n ((List.range (n * sz)).map fun k => F (k / sz) (k % sz)) w := by
  have hd : ∀ k, k < n * sz → k / sz < n ∧ k % sz < sz ∧ k = k / sz * sz + k % sz := fun k hk => by
    refine ⟨?_, Nat.mod_lt _ hpos, ?_⟩
    · rw [Nat.div_lt_iff_lt_mul hpos]; exact hk
    · have := Nat.div_add_mod k sz
      rw [Nat.mul_comm] at this
      exact this.symm
  refine Src.ofSlice w hk ad n cap _ (by simp) (fun k u hu => ?_) (fun u hu => ?_)
  · rw [List.getElem?_map] at hu
    obtain ⟨k', hk', rfl⟩ := Option.map_eq_some_iff.1 hu
    have hlt : k < n * sz := by
      have := (List.getElem?_eq_some_iff.1 hk').1
      simpa using this
    have : k' = k := by simpa [hlt] using hk'.symm
    subst this
    obtain ⟨ha, hb, hq⟩ := hd k' hlt
    have := hc _ _ ha hb
    rw [← hq] at this
    exact this
  · rw [List.mem_map] at hu
    obtain ⟨k, hk, rfl⟩ := hu
    obtain ⟨ha, hb, _⟩ := hd k (by simpa using hk)
    exact h1 _ _ ha hb
theorem src_sound (I : Inv B ρ D Z st a w) {x : AV} {xv : Value} {sz : Nat} {xs : List AV} {tx : TypeId} (hx : RV w ρ D Z x xv) (hs : srcA st sz x = some xs) (ht : srcTy P tx x = true) (hpos : 0 < sz) :
    ∃ news, Src P sz tx xv xs.length news w ∧ (∀ i, i < xs.length → (xs.getD i .junk).cells.length = sz) ∧ ∀ i j, i < xs.length → j < sz → RV w ρ D Z ((xs.getD i .junk).cellAt j) (news.getD (i * sz + j) undef) := by
  unfold srcA at hs
  split at hs
  · rename_i id sz' off n
    split at hs
    · rename_i e q es hb
      split at hs
      · rename_i hc
        obtain ⟨rfl, rfl, hle⟩ := hc
        cases hs
        have hk : ∃ e', P.underlying tx = some (.slice e') := by
          unfold srcTy at ht
          split at ht <;> simp_all
        obtain ⟨e', hk⟩ := hk
        obtain ⟨gb, hr, hrb⟩ := I.h.live id _ hb
        obtain ⟨cap, rfl, _, hlc, hm⟩ := hx.sl_live I.h hb hr
        obtain ⟨c, fr, hcc, _, hl, hsz, hv⟩ := hrb
        have hlen : ((es.drop off).take n).length = n := by simp; omega
        have hget : ∀ i, i < n → ((es.drop off).take n).getD i .junk = es.getD (off + i) .junk := fun i hi => by
          simp [List.getD_eq_getElem?_getD, hi]
        have hsrc := src_of_cells (P := P) (w := w) (n := n) hk hpos ⟨gb, off * sz', none⟩ cap (fun i j => c.getD ((off + i) * sz' + j) undef) (fun i j hi hj => by
            rw [Addr.add_plain, show off * sz' + (i * sz' + j) = (off + i) * sz' + j by rw [Nat.add_mul]; omega]
            have := mul_lt (show off + i < es.length by omega) hj
            exact cell_row hcc (by omega)) (fun i j hi hj => (hv _ j (by omega) hj).2)
        refine ⟨_, by rw [hlen]; exact hsrc, fun i hi => ?_, fun i j hi hj => ?_⟩
        · rw [hlen] at hi
          rw [hget i hi]; exact hsz _ (by omega)
        · rw [hlen] at hi
          have hg := flat_getD (fun i j => c.getD ((off + i) * sz' + j) undef) undef sz' hpos n i j hi hj
          rw [hget i hi, hg]
          exact (hv _ j (by omega) hj).1
      · cases hs
    · cases hs
  · rename_i sz' es
    split at hs
    · rename_i hq
      subst hq
      cases hs
      have hk : ∃ e', P.underlying tx = some (.slice e') := by
        unfold srcTy at ht
        split at ht <;> simp_all
      obtain ⟨e', hk⟩ := hk
      obtain ⟨A, cap, F, rfl, hlc, hm, hsz, hA, h1, hR⟩ := hx.fsl_inv
      cases hn : xs with
      | nil =>
        subst hn
        refine ⟨[], ?_, fun i hi => by simp at hi, fun i j hi => by simp at hi⟩
        cases A with
        | none => exact Src.ofNil w hk cap
        | some ad => exact Src.ofSlice w hk _ _ _ [] (by simp) (fun j u h => by simp at h) (fun u h => by simp at h)
      | cons e0 es0 =>
        rw [← hn]
        have hpos' : 0 < xs.length := by rw [hn]; simp
        obtain ⟨ad, rfl, _⟩ := hA 0 0 hpos' hpos
        refine ⟨_, src_of_cells (n := xs.length) hk hpos ad cap F (fun i j hi hj => ?_) h1, hsz, fun i j hi hj => ?_⟩
        · obtain ⟨ad', e1, _, hc⟩ := hA i j hi hj
          cases e1
          exact hc
        · rw [flat_getD _ _ _ hpos _ i j hi hj]
          exact hR i j hi hj
    · cases hs
  · cases hs
    have hk : ∃ e', P.underlying tx = some (.slice e') := by
      unfold srcTy at ht
      split at ht <;> simp_all
    obtain ⟨e', hk⟩ := hk
    rw [hx.v_inv]
    exact ⟨[], Src.ofNil w hk _, fun i hi => by simp at hi, fun i j hi => by simp at hi⟩
  · rename_i s
    split at hs
    · rename_i h1
      subst h1
      cases hs
      have hk : P.underlying tx = some .string := by
        unfold srcTy at ht
        split at ht <;> simp_all
      rw [hx.v_inv]
      have hl : (s.data.toList.map fun b => AV.v (.int .u8 b.toNat)).length = s.size := by simp
      have hg : ∀ i, i < s.size → (s.data.toList.map fun b => AV.v (.int .u8 b.toNat)).getD i .junk = .v ((byteCells s).getD i undef) := fun i hi => by
        have hi' : s.data[i]? = some s.data[i] := Array.getElem?_eq_getElem hi
        simp [byteCells, List.getD_eq_getElem?_getD]
        rw [hi']
        rfl
      refine ⟨byteCells s, by rw [hl]; exact Src.ofString w hk s, fun i hi => ?_, fun i j hi hj => ?_⟩
      · rw [hg i (by omega)]; rfl
      · have : j = 0 := by omega
        subst this
        rw [hg i (by omega), Nat.mul_one, Nat.add_zero]
        exact .v _
    · cases hs
  · cases hs

/-! ### What an append leaves -/
/-- Appended to a live row in its place: the old number is given up, a new one names the same block. -/
theorem HR.rekey {h : List (Option Blk)} (H : HR B w ρ D Z h) {id g : Nat} {c c' : Array Value} {e : TypeId} {fr : Nat × Nat} (sz : Nat) (es : List AV) (hr : ρ id = some g) (hc : w.heap[g]? = some (.cells c e fr)) (hfr : okFr fr c'.size) (hs : c.size ≤ c'.size)
    (h1 : es.length * sz ≤ c'.size) (h2 : ∀ i, i < es.length → (es.getD i .junk).cells.length = sz)
    (h3 : ∀ i j, i < es.length → j < sz → RV w ρ D Z ((es.getD i .junk).cellAt j) (c'.getD (i * sz + j) undef) ∧ (c'.getD (i * sz + j) undef).oneCell' = true) :
    ∃ ρ' D', Step w (w.setRow g c') ρ ρ' D D' Z Z ∧ ρ' h.length = some g ∧ HR B (w.setRow g c') ρ' D' Z (h.set id none ++ [some (.row e sz es)]) := by
  have H1 := H.set_row (c' := c') sz es hr hc hfr hs h1 h2 h3
  have s1 := H.set_step hr hc hs
  have hid := H.id_lt hr
  have hg : (w.setRow g c').heap[g]? = some (.cells c' e fr) := setRow_heap w g c c' e _ hc
  let ρ' := setρ (setρ ρ id none) h.length (some g)
  let D' : Nat → Prop := fun i => D i ∨ i = id
  have s2 : Step w (w.setRow g c') ρ ρ' D D' Z Z := by
    refine ⟨fun i q hq => ?_, fun i hd => .inl hd, s1.z, s1.zb, fun i q d e1 fr hq _ hd => s1.cap i q d e1 fr hq hq hd⟩
    by_cases ei : i = id
    · exact .inr (.inr ei)
    · refine .inl ?_
      have := H.id_lt hq
      simp only [ρ', setρ]
      rw [if_neg (by omega), if_neg ei]
      exact hq
  refine ⟨ρ', D', s2, by simp [ρ', setρ], ?_⟩
  have hlen : (h.set id none).length = h.length := by simp
  constructor
  case live =>
    intro i b hb
    by_cases ei : i < h.length
    · rw [List.getElem?_append_left (by simpa using ei)] at hb
      by_cases e2 : i = id
      · subst e2
        rw [List.getElem?_set_self hid] at hb
        cases hb
      · rw [List.getElem?_set_ne (Ne.symm e2)] at hb
        obtain ⟨q, hq, hbq⟩ := H.live i b hb
        refine ⟨q, by simp only [ρ', setρ]; rw [if_neg (by omega), if_neg e2]; exact hq, hbq.step s2 (setRow_other w g q c' (fun eg => e2 (H.inj i id g (eg ▸ hq) hr)))⟩
    · rw [List.getElem?_append_right (by simp; omega)] at hb
      have : i = h.length := by
        have := (List.getElem?_eq_some_iff.1 hb).1
        simp at this
        omega
      subst this
      simp only [List.length_set, Nat.sub_self, List.getElem?_cons_zero, Option.some.injEq] at hb
      subst hb
      exact ⟨g, by simp [ρ', setρ], c', fr, hg, hfr, h1, h2, fun i j hi hj => ⟨(h3 i j hi hj).1.step s2, (h3 i j hi hj).2⟩⟩
  case only =>
    intro i q hq
    simp only [ρ', setρ] at hq
    split at hq
    · subst i
      exact ⟨.row e sz es, by rw [List.getElem?_append_right (by simp)]; simp⟩
    · split at hq
      · cases hq
      · rename_i e1 e2
        obtain ⟨b, hb⟩ := H.only i q hq
        have := (List.getElem?_eq_some_iff.1 hb).1
        exact ⟨b, by rw [List.getElem?_append_left (by simpa using this), List.getElem?_set_ne (Ne.symm e2)]; exact hb⟩
  case dead =>
    intro i hd
    by_cases e2 : i = id
    · subst e2
      rw [List.getElem?_append_left (by simpa using hid), List.getElem?_set_self hid]
    · have hd' : D i := by
        rcases hd with hd | hd
        · exact hd
        · exact absurd hd e2
      rw [List.getElem?_append_left (by simpa using H.dead_lt hd'), List.getElem?_set_ne (Ne.symm e2)]
      exact H.dead i hd'
  case inj =>
    intro i j q hi hj
    have key : ∀ i, ρ' i = some q → i = h.length ∧ q = g ∨ (i ≠ id ∧ i ≠ h.length ∧ ρ i = some q) := fun i hi => by
      simp only [ρ', setρ] at hi
      split at hi
      · rename_i e1; cases hi; exact .inl ⟨e1, rfl⟩
      · rename_i e1
        split at hi
        · cases hi
        · rename_i e2; exact .inr ⟨e2, e1, hi⟩
    rcases key i hi with ⟨e1, e2⟩ | ⟨e1, e2, e3⟩ <;> rcases key j hj with ⟨f1, f2⟩ | ⟨f1, f2, f3⟩
    · rw [e1, f1]
    · exact absurd (H.inj j id g (e2 ▸ f3) hr) f1
    · exact absurd (H.inj i id g (f2 ▸ e3) hr) e1
    · exact H.inj i j q e3 f3
  case own =>
    intro i q hq
    simp only [ρ', setρ] at hq
    split at hq
    · cases hq; exact H.own id g hr
    · split at hq
      · cases hq
      · exact H.own i q hq
  case z =>
    intro k hz
    refine ⟨(H1.z k hz).1, fun i hq => ?_⟩
    simp only [ρ', setρ] at hq
    split at hq
    · cases hq; exact (H.z _ hz).2 id hr
    · split at hq
      · cases hq
      · exact (H.z k hz).2 i hq
  case fr => exact H1.fr
  case os => exact H1.os
  case tape => exact H1.tape
  case output => exact H1.output
  case size => exact H1.size
  case step =>
    have s := H.step
    refine ⟨fun i q hq => ?_, fun i hd => s2.dead _ (s.dead _ hd), fun k hz => s2.z _ (s.z _ hz), fun k hz => (s2.zb k (s.z k hz)).trans (s.zb k hz), fun i q d e1 fr hq hq' hd => ?_⟩
    · rcases s.rho i q hq with h4 | h4
      · exact s2.rho i q h4
      · exact .inr (s2.dead _ h4)
    · rcases s.rho i q hq with h4 | h4
      · obtain ⟨d1, e2, fr1, hd1, hl1⟩ := s.cap i q d e1 fr hq h4 hd
        obtain ⟨d2, e3, fr2, hd2, hl2⟩ := s2.cap i q d1 e2 fr1 h4 hq' hd1
        exact ⟨d2, e3, fr2, hd2, Nat.le_trans hl1 hl2⟩
      · exfalso
        have h5 := H.dead_lt h4
        simp only [ρ', setρ] at hq'
        rw [if_neg (by omega)] at hq'
        split at hq'
        · cases hq'
        · obtain ⟨b, hb⟩ := H.only i q hq'
          exact H.not_dead hb h4
  case zg => exact H.zg

theorem app_getD (es xs : List AV) (i : Nat) : (es ++ xs).getD i .junk = if i < es.length then es.getD i .junk else xs.getD (i - es.length) .junk := by
  simp only [List.getD_eq_getElem?_getD]
  split
  · rename_i h; rw [List.getElem?_append_left h]
  · rename_i h; rw [List.getElem?_append_right (by omega)]

/-- append to a live row, all of it. -/
theorem out_append (I : Inv B ρ D Z st a w) {t tx e ty : TypeId} {sz by_ id len : Nat} {s x : Operand} {es xs : List AV} {z : List Value} (hs : st.get s = .sl id sz 0 len) (hb : st.h[id]? = some (some (.row e sz es))) (hlen : len = es.length)
    (ht : slOf P t = some e) (hsz : szOf P e = some sz) (hby : byOf P e = some by_) (hz : zeroOf P e = some z) (hzl : z.length = sz) (hpos : 0 < sz) (hx : srcA st sz (st.get x) = some xs) (htx : srcTy P tx (st.get x) = true)
    (hroom : (es.length + xs.length) * by_ ≤ 140737488355328) (hmax : es.length + xs.length ≤ 9223372036854775807)
    (hk : K (.sl st.h.length sz 0 (es.length + xs.length)) (st.h.set id none ++ [some (.row e sz (es ++ xs))])) : Out P B st a w K (do pure (.value (← Builtin.append_ #[t, tx] ty #[a.eval s, a.eval x]))) := by
  subst hlen
  obtain ⟨gb, c, fr, hr, hc, hfr, hl, hse, hv⟩ := I.h.row hb
  have hsv := I.get s
  rw [hs] at hsv
  obtain ⟨cap, e1, hcap, hlc, hm⟩ := hsv.sl_live I.h hb hr
  rw [e1]
  obtain ⟨news, hsrc, hnc, hnv⟩ := src_sound (P := P) I (I.get x) hx htx hpos
  generalize a.eval x = xv at hsrc
  have hnl : news.length = xs.length * sz := hsrc.newsLen
  obtain ⟨z0, hz0⟩ : ∃ z0, (P.info? e).bind (·.zero) = some z0 := by
    unfold zeroOf at hz
    cases h : (P.info? e).bind (·.zero) with
    | none => simp [h] at hz
    | some v => exact ⟨v, rfl⟩
  cases hie : P.info? e with
  | none => simp [hie] at hz0
  | some ie =>
    have hiz : ie.zero = some z0 := by simpa [hie] using hz0
    have his : ie.size = sz := by simpa [szOf, hie] using hsz
    have hib : ie.bytes = by_ := by simpa [byOf, hie] using hby
    have hcap' : cap * sz ≤ c.size := by
      obtain ⟨c0, e0, fr0, hc0, hcap0⟩ := hcap
      rw [hc] at hc0
      cases hc0
      simpa using hcap0
    -- the cells of the joined row
    have hcells : ∀ (c' : Array Value), (∀ k, k < es.length * sz → c'.getD k undef = c.getD k undef) → (∀ k, k < xs.length * sz → c'.getD (es.length * sz + k) undef = news.getD k undef) →
        ∀ i j, i < (es ++ xs).length → j < sz → RV w ρ D Z (((es ++ xs).getD i .junk).cellAt j) (c'.getD (i * sz + j) undef) ∧ (c'.getD (i * sz + j) undef).oneCell' = true := by
      intro c' hc1 hc2 i j hi hj
      rw [app_getD]
      split
      · rename_i h1
        rw [hc1 _ (mul_lt h1 hj)]
        exact hv i j h1 hj
      · rename_i h1
        have hi' : i - es.length < xs.length := by simp at hi; omega
        have e2 : i * sz + j = es.length * sz + ((i - es.length) * sz + j) := by
          have : i * sz = es.length * sz + (i - es.length) * sz := by rw [← Nat.add_mul]; congr 1; omega
          omega
        rw [e2, hc2 _ (mul_lt hi' hj)]
        refine ⟨hnv _ j hi' hj, ?_⟩
        have hq := mul_lt hi' hj
        rw [List.getD_eq_getElem?_getD, List.getElem?_eq_getElem (by omega)]
        exact hsrc.one _ (List.getElem_mem _)
    have hlens : ∀ i, i < (es ++ xs).length → ((es ++ xs).getD i .junk).cells.length = sz := fun i hi => by
      rw [app_getD]
      split
      · rename_i h1; exact hse i h1
      · rename_i h1; exact hnc _ (by simp at hi; omega)
    by_cases hfit : es.length + xs.length ≤ cap
    · -- in its place
      have hfit' : (es.length + xs.length) * sz ≤ cap * sz := Nat.mul_le_mul_right _ hfit
      rw [Nat.add_mul] at hfit'
      have hst := run_storeCells_fr (P := P) gb (es.length * sz) e fr news 0 c w hc hfr (by omega) hsrc.one
      simp only [Nat.add_zero] at hst
      let c' := (c.toList.take (es.length * sz) ++ news ++ c.toList.drop (es.length * sz + news.length)).toArray
      have hc's : c'.size = c.size := by simp [c']; omega
      have hget1 : ∀ k, k < es.length * sz → c'.getD k undef = c.getD k undef := fun k hk => by
        simp only [c', Array.getD_eq_getD_getElem?, List.getElem?_toArray]
        rw [List.append_assoc, List.getElem?_append_left (by simp; omega)]
        simp [hk]
      have hget2 : ∀ k, k < xs.length * sz → c'.getD (es.length * sz + k) undef = news.getD k undef := fun k hk => by
        simp only [c', Array.getD_eq_getD_getElem?, List.getElem?_toArray]
        rw [List.append_assoc, List.getElem?_append_right (by simp; omega), List.getElem?_append_left (by simp; omega)]
        simp [show min (es.length * sz) c.size = es.length * sz by omega, List.getD_eq_getElem?_getD]
      obtain ⟨ρ', D', hstep, hρ, H⟩ := I.h.rekey (c' := c') sz (es ++ xs) hr hc (hfr.set hc's) (by omega) (by simp [Nat.add_mul]; omega) hlens (hcells c' hget1 hget2)
      refine ⟨_, w.setRow gb c', ?_, .slice (some ⟨gb, 0 * sz, none⟩) (es.length + xs.length) cap, .inl rfl, _, _, ρ', D', Z, hk, .sl hρ ⟨c', e, fr, setRow_heap w gb c c' e _ hc, by rw [hc's]; simpa using hcap'⟩ hfit hm, I.moved hstep H⟩
      have hst' : (storeCells ⟨gb, es.length * sz, none⟩ news).run P w = .ok () (w.setRow gb c') := hst
      rcases hsrc.kind with ⟨e', hk⟩ | hk <;>
        simp [Builtin.append_, run_underlying (und_sl ht), run_underlying hk, sizeOf, typeInfo, hie, his, hsrc.len, hfit, hsrc.cells, Addr.add_lit, hst']
    · -- a new row
      have hold : (Builtin.firstCells ie.size es.length (.slice (some ⟨gb, 0, none⟩) es.length cap)).run P w.drew = .ok (c.toList.take (es.length * sz)).toArray w.drew := by
        refine run_firstCells_some w.drew ie.size es.length ⟨gb, 0, none⟩ es.length cap _ (by rw [his]; simp; omega) (fun j v hj => ?_)
        have hj' : j < es.length * sz := by
          have := (List.getElem?_eq_some_iff.1 hj).1
          simp at this
          omega
        have hjc : j < c.size := by omega
        rw [Addr.add_plain, Nat.zero_add]
        show w.cell? _ = _
        rw [cell_row hc hjc]
        rw [List.getElem?_take, if_pos hj'] at hj
        rw [← hj]
        simp [Array.getD, hjc]
      have hrun := run_append_grow_src (P := P) w t tx ty e ie z0 (und_sl ht) hie hiz (some ⟨gb, 0, none⟩) es.length cap (c.toList.take (es.length * sz)) hold xv xs.length news (by rw [his]; exact hsrc) (by omega) (by omega)
        (growslice_fits (by omega) (by rw [hib]; exact hroom))
      have hz0s : z0.cells.size = sz := by
        unfold zeroOf at hz
        rw [hz0] at hz
        simp only [Option.map_some, Option.some.injEq] at hz
        rw [← hzl, ← hz]
        simp
      have hge := grownCap_ge w (es.length + xs.length) cap e
      have hgm := grownCap_le_maxLen w (es.length + xs.length) cap e (by unfold maxLen; omega)
      let gc := grownCap w (es.length + xs.length) cap e
      let c' : Array Value := (c.toList.take (es.length * sz) ++ news).toArray ++ Builtin.zeroCells z0.cells (gc - (es.length + xs.length))
      have hc's : gc * sz = c'.size := by
        simp only [c', Array.size_append, List.size_toArray, List.length_append, List.length_take, Array.length_toList, size_zeroCells, hz0s, hnl]
        rw [Nat.min_eq_left hl, ← Nat.add_mul, ← Nat.add_mul]
        congr 1
        simp only [gc]
        omega
      have hget1 : ∀ k, k < es.length * sz → c'.getD k undef = c.getD k undef := fun k hk => by
        simp only [c', Array.getD_eq_getD_getElem?]
        rw [Array.getElem?_append_left (by simp; omega)]
        rw [List.getElem?_toArray, List.getElem?_append_left (by simp; omega)]
        simp [hk]
      have hget2 : ∀ k, k < xs.length * sz → c'.getD (es.length * sz + k) undef = news.getD k undef := fun k hk => by
        simp only [c', Array.getD_eq_getD_getElem?]
        rw [Array.getElem?_append_left (by simp; omega)]
        rw [List.getElem?_toArray, List.getElem?_append_right (by simp; omega)]
        simp [show min (es.length * sz) c.size = es.length * sz by omega, List.getD_eq_getElem?_getD]
      -- give the old number up, make the new one
      have H0 := I.h.drew
      have H1 := H0.kill id
      have s0 := Step.drew w ρ D Z
      have s1 := H0.kill_step id
      have s2 := H1.alloc_step (.cells c' e)
      have hst : Step w (w.drew.alloc (.cells c' e)) ρ (setρ (setρ ρ id none) (st.h.set id none).length (some w.drew.heap.size)) D (fun i => D i ∨ (i = id ∧ id < st.h.length)) Z Z := by
        refine ⟨fun i q hq => ?_, fun i hd => s2.dead _ (s1.dead _ hd), fun k hz => hz, fun k hz => s2.zb k hz, fun i q d e1 fr hq hq' hd => ⟨d, e1, fr, ?_, Nat.le_refl _⟩⟩
        · rcases s1.rho i q hq with h4 | h4
          · exact s2.rho i q h4
          · exact .inr h4
        · rw [World.heap_old _ _ _ (by have := I.h.lt hq; exact this)]
          exact hd
      have H2 := H1.alloc (.cells c' e) (.row e sz (es ++ xs)) (by
        refine ⟨c', (0, 0), heap_new _ _, .inl (Nat.le_refl _), by rw [← hc's]; exact Nat.mul_le_mul_right _ (by simp only [gc]; simp; omega), hlens, fun i j hi hj => ?_⟩
        have := hcells c' hget1 hget2 i j hi hj
        exact ⟨this.1.step hst, this.2⟩)
      have hlen2 : (st.h.set id none).length = st.h.length := by simp
      refine ⟨_, w.drew.alloc (.cells c' e), ?_, .slice (some ⟨w.heap.size, 0 * sz, none⟩) (es.length + xs.length) gc, .inl rfl, _, _, _, _, Z, hk, .sl (g := w.heap.size) ?_ ⟨c', e, (0, 0), heap_new w.drew _, by rw [← hc's]; simp⟩ hge hgm, I.moved hst H2⟩
      · simp only [Nat.zero_mul]
        rw [Sem.run_bind, hrun]
        rfl
      · rw [hlen2]; simp [setρ]
/-- append to nil. -/
theorem out_append_nil (I : Inv B ρ D Z st a w) {t tx e ty : TypeId} {sz by_ cap : Nat} {s x : Operand} {xs : List AV} {z : List Value} (hs : st.get s = .v (.slice none 0 cap)) (hcap0 : cap = 0)
    (ht : slOf P t = some e) (hsz : szOf P e = some sz) (hby : byOf P e = some by_) (hz : zeroOf P e = some z) (hzl : z.length = sz) (hpos : 0 < sz) (hx : srcA st sz (st.get x) = some xs) (htx : srcTy P tx (st.get x) = true)
    (hroom : xs.length * by_ ≤ 140737488355328) (hmax : xs.length ≤ 9223372036854775807)
    (hk : (xs ≠ [] → K (.sl st.h.length sz 0 xs.length) (st.h ++ [some (.row e sz xs)])) ∧ (xs = [] → K (.v (.slice none 0 0)) st.h)) : Out P B st a w K (do pure (.value (← Builtin.append_ #[t, tx] ty #[a.eval s, a.eval x]))) := by
  subst hcap0
  have hsv := I.get s
  rw [hs] at hsv
  rw [hsv.v_inv]
  obtain ⟨news, hsrc, hnc, hnv⟩ := src_sound (P := P) I (I.get x) hx htx hpos
  generalize a.eval x = xv at hsrc
  have hnl : news.length = xs.length * sz := hsrc.newsLen
  obtain ⟨z0, hz0⟩ : ∃ z0, (P.info? e).bind (·.zero) = some z0 := by
    unfold zeroOf at hz
    cases h : (P.info? e).bind (·.zero) with
    | none => simp [h] at hz
    | some v => exact ⟨v, rfl⟩
  cases hie : P.info? e with
  | none => simp [hie] at hz0
  | some ie =>
    have hiz : ie.zero = some z0 := by simpa [hie] using hz0
    have his : ie.size = sz := by simpa [szOf, hie] using hsz
    have hib : ie.bytes = by_ := by simpa [byOf, hie] using hby
    by_cases h0 : xs = []
    · subst h0
      refine Out.same I (v := .slice none 0 0) ?_ (.v _) (hk.2 rfl)
      have hne : news = [] := by
        have : news.length = 0 := by simpa using hnl
        exact List.eq_nil_of_length_eq_zero this
      have hsl := hsrc.len
      have hsc := hsrc.cells
      simp only [List.length_nil] at hsl hsc
      rcases hsrc.kind with ⟨e', hk⟩ | hk <;>
        simp [Builtin.append_, run_underlying (und_sl ht), run_underlying hk, sizeOf, typeInfo, hie, his, hsl, hsc]
    · have hpx : 0 < xs.length := List.length_pos_iff.2 h0
      have hold : (Builtin.firstCells ie.size 0 (.slice none 0 0)).run P w.drew = .ok ([] : List Value).toArray w.drew := run_firstCells_none w.drew _ _ _ _
      have hrun := run_append_grow_src (P := P) w t tx ty e ie z0 (und_sl ht) hie hiz none 0 0 [] hold xv xs.length news (by rw [his]; exact hsrc) (by omega) (by omega)
        (growslice_fits (by omega) (by rw [hib, Nat.zero_add]; exact hroom))
      have hz0s : z0.cells.size = sz := by
        unfold zeroOf at hz
        rw [hz0] at hz
        simp only [Option.map_some, Option.some.injEq] at hz
        rw [← hzl, ← hz]
        simp
      simp only [Nat.zero_add, List.nil_append] at hrun
      have hge := grownCap_ge w xs.length 0 e
      have hgm := grownCap_le_maxLen w xs.length 0 e (by unfold maxLen; omega)
      let gc := grownCap w xs.length 0 e
      let c' : Array Value := news.toArray ++ Builtin.zeroCells z0.cells (gc - xs.length)
      have hc's : gc * sz = c'.size := by
        simp only [c', Array.size_append, List.size_toArray, size_zeroCells, hz0s, hnl]
        rw [← Nat.add_mul]
        congr 1
        simp only [gc]
        omega
      have hget2 : ∀ k, k < xs.length * sz → c'.getD k undef = news.getD k undef := fun k hk => by
        simp only [c', Array.getD_eq_getD_getElem?]
        rw [Array.getElem?_append_left (by simp; omega)]
        simp [List.getD_eq_getElem?_getD]
      have H0 := I.h.drew
      have s0 := Step.drew w ρ D Z
      have s2 := H0.alloc_step (.cells c' e)
      have hst : Step w (w.drew.alloc (.cells c' e)) ρ (setρ ρ st.h.length (some w.drew.heap.size)) D D Z Z := by
        refine ⟨s2.rho, s2.dead, s2.z, s2.zb, s2.cap⟩
      have H2 := H0.alloc (.cells c' e) (.row e sz xs) (by
        refine ⟨c', (0, 0), heap_new _ _, .inl (Nat.le_refl _), by rw [← hc's]; exact Nat.mul_le_mul_right _ hge, hnc, fun i j hi hj => ?_⟩
        have hq := mul_lt hi hj
        rw [hget2 _ hq]
        refine ⟨(hnv i j hi hj).step hst, ?_⟩
        rw [List.getD_eq_getElem?_getD, List.getElem?_eq_getElem (by omega)]
        exact hsrc.one _ (List.getElem_mem _))
      refine ⟨_, w.drew.alloc (.cells c' e), ?_, .slice (some ⟨w.heap.size, 0 * sz, none⟩) xs.length gc, .inl rfl, _, _, _, _, Z, hk.1 h0, .sl (g := w.heap.size) ?_ ⟨c', e, (0, 0), heap_new w.drew _, by rw [← hc's]; simp⟩ hge hgm, I.moved hst H2⟩
      · simp only [Nat.zero_mul]
        rw [Sem.run_bind, hrun]
        rfl
      · simp [setρ]

theorem out_buildSlice0 (I : Inv B ρ D Z st a w) {t e : TypeId} {sz : Nat} (ht : slOf P t = some e) (hs : szOf P e = some sz)
    (hk : K (.sl st.h.length sz 0 0) (st.h ++ [some (.row e sz [])])) : Out P B st a w K (do pure (.value (← Instr.buildSlice t 0 (#[].map fun (i, x) => (i, a.eval x))))) := by
  refine out_newrow I (c := #[]) (cap := 0) (e := e) (es := []) ?_ (fun ρ' _ => ⟨#[], (0, 0), heap_new w _, .inl (Nat.le_refl _), by simp, fun i hi => by simp at hi, fun i j hi => by simp at hi⟩) (by simp) (Nat.le_refl _) (by simp) hk
  have h0 : Array.range 0 = #[] := by apply Array.ext'; simp
  simp [Instr.buildSlice, run_underlying (und_sl ht), run_sz hs, Instr.fill, newRow, h0]

/-! ### len, min, max -/
def lenA : AV → Option Int
  | .sl _ _ _ n => some n
  | .fsl _ es => some es.length
  | .v (.slice none 0 _) => some 0
  | .v (.string s) => some s.size
  | _ => none
theorem out_len (I : Inv B ρ D Z st a w) {t ty : TypeId} {x : Operand} {n : Int} (hx : lenA (st.get x) = some n) (hd : ∀ id sz off k, st.get x = .sl id sz off k → ∃ b, st.h[id]? = some (some b))
    (ht : srcTy P t (st.get x) = true) (hk : K (.v (.int .i64 n)) st.h) : Out P B st a w K (do pure (.value (← Builtin.len_ #[t] ty #[a.eval x]))) := by
  have hxv := I.get x
  refine Out.same I (v := .int .i64 n) ?_ (.v _) hk
  generalize hg : st.get x = xa at *
  generalize a.eval x = xv at hxv
  unfold lenA at hx
  split at hx <;> first | (cases hx; done) | cases hx
  · rename_i id sz off n
    obtain ⟨b, hb⟩ := hd id sz off n rfl
    obtain ⟨gb, hr, _⟩ := I.h.live id _ hb
    obtain ⟨cap, rfl, _⟩ := hxv.sl_live I.h hb hr
    have hk : ∃ e', P.underlying t = some (.slice e') := by unfold srcTy at ht; split at ht <;> simp_all
    obtain ⟨e', hk⟩ := hk
    simp [Builtin.len_, run_underlying hk, goInt]
  · obtain ⟨A, cap, F, rfl, _⟩ := hxv.fsl_inv
    have hk : ∃ e', P.underlying t = some (.slice e') := by unfold srcTy at ht; split at ht <;> simp_all
    obtain ⟨e', hk⟩ := hk
    simp [Builtin.len_, run_underlying hk, goInt]
  · rw [hxv.v_inv]
    have hk : ∃ e', P.underlying t = some (.slice e') := by unfold srcTy at ht; split at ht <;> simp_all
    obtain ⟨e', hk⟩ := hk
    simp [Builtin.len_, run_underlying hk, goInt]
  · rw [hxv.v_inv]
    have hk : P.underlying t = some .string := by unfold srcTy at ht; split at ht <;> simp_all
    simp [Builtin.len_, run_underlying hk, goInt]
def mnmx (mx : Bool) (x y : Int) : Int := if mx then (if y > x then y else x) else (if y < x then y else x)
def mmA (mx : Bool) : List AV → Option Value
  | [.v (.int k x)] => some (.int k x)
  | [.v (.int k x), .v (.int _ y)] => some (.int k (mnmx mx x y))
  | [.v (.int k x), .v (.int _ y), .v (.int _ u)] => some (.int k (mnmx mx (mnmx mx x y) u))
  | _ => none
theorem out_mm (I : Inv B ρ D Z st a w) (mx : Bool) {ats : Array TypeId} {ty : TypeId} {args : Array Operand} {r : Value} (hx : mmA mx (args.toList.map st.get) = some r) (hk : K (.v r) st.h) :
    Out P B st a w K (do pure (.value (← (if mx then Builtin.max_ ats ty (args.map a.eval) else Builtin.min_ ats ty (args.map a.eval))))) := by
  refine Out.same I (v := r) ?_ (.v _) hk
  have key : ∀ l : List Operand, mmA mx (l.map st.get) = some r → ∀ c : List Value, c = l.map a.eval → (if mx then Builtin.max_ ats ty c.toArray else Builtin.min_ ats ty c.toArray).run P w = .ok r w := by
    intro l hl c hc
    have hv : ∀ (x : Operand) (u : Value), st.get x = .v u → a.eval x = u := fun x u h => by
      have := I.get x
      rw [h] at this
      exact this.v_inv
    rw [hc]
    match l, hl with
    | [], hl => simp [mmA] at hl
    | [x], hl =>
      simp only [List.map_cons, List.map_nil, mmA] at hl
      split at hl
      · rename_i h1
        simp only [List.cons.injEq, and_true] at h1
        cases hl
        simp only [List.map_cons, List.map_nil]
        rw [hv x _ h1]
        cases mx <;> simp [Builtin.max_, Builtin.min_]
      all_goals simp_all
    | [x, y], hl =>
      simp only [List.map_cons, List.map_nil, mmA] at hl
      split at hl
      · simp_all
      · rename_i h1
        simp only [List.cons.injEq, and_true] at h1
        cases hl
        simp only [List.map_cons, List.map_nil]
        rw [hv x _ h1.1, hv y _ h1.2]
        cases mx <;> simp [Builtin.max_, Builtin.min_, Builtin.max2, Builtin.min2, mnmx]
      all_goals simp_all
    | [x, y, u], hl =>
      simp only [List.map_cons, List.map_nil, mmA] at hl
      split at hl
      · simp_all
      · simp_all
      · rename_i h1
        simp only [List.cons.injEq, and_true] at h1
        cases hl
        simp only [List.map_cons, List.map_nil]
        rw [hv x _ h1.1, hv y _ h1.2.1, hv u _ h1.2.2]
        cases mx <;> simp [Builtin.max_, Builtin.min_, Builtin.max2, Builtin.min2, mnmx]
      · cases hl
    | x :: y :: u :: t :: l, hl => simp [mmA] at hl
  have := key args.toList hx (args.toList.map a.eval) rfl
  rw [Sem.run_bind]
  have e : (args.toList.map a.eval).toArray = args.map a.eval := by
    apply Array.ext'
    simp
  rw [e] at this
  rw [this]
  rfl
end
end Pm
end Go.Proofs.YtdgoompjoeffcaaGreat
