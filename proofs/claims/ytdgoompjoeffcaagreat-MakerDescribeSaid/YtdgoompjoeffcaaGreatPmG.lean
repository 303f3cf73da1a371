import Derived.Test.YtdgoompjoeffcaaGreatPmF
/- PM, part G: struct, array and slice literals, make, append, len, min, max. -/
namespace Go.Proofs.YtdgoompjoeffcaaGreat
namespace Pm

/-- Where a literal's parts go. -/
inductive PL where
  | str (l : List (Nat × Nat))
  | arr (s : Nat)
def PL.at : PL → Nat → Option (Nat × Nat)
  | .str l, i => l[i]?
  | .arr s, i => some (i * s, s)
def plOf (P : Program) (t : TypeId) : Option PL := match P.underlying t with
  | some (.struct fields) => (fields.toList.mapM (fun f => (P.info? f.type).map fun i => (f.offset, i.size))).map .str
  | some (.array _ e) => (szOf P e).map .arr
  | _ => none
def byOf (P : Program) (t : TypeId) : Option Nat := (P.info? t).map (·.bytes)

def fillA (p : PL) : List AV → List (Nat × AV) → Option (List AV)
  | l, [] => some l
  | l, (i, a) :: rest => match p.at i with
    | none => none
    | some (off, size) => if a.cells.length = size ∧ off + size ≤ l.length ∧ a.fit = true ∧ a.ones = true then fillA p (putL l off a.cells) rest else none

section
variable {w : World} {ρ : Nat → Option Nat} {D Z : Nat → Prop}
theorem put_size : ∀ (vs : List Value) (c : Array Value) (off q : Nat), ((vs.zipIdx q).foldl (fun cs (x : Value × Nat) => cs.setIfInBounds (off + x.2) x.1) c).size = c.size
  | [], _, _, _ => rfl
  | v :: vs, c, off, q => by rw [List.zipIdx_cons, List.foldl_cons, put_size vs]; simp
theorem put_getD : ∀ (vs : List Value) (c : Array Value) (off q k : Nat), off + q + vs.length ≤ c.size →
    ((vs.zipIdx q).foldl (fun cs (x : Value × Nat) => cs.setIfInBounds (off + x.2) x.1) c).getD k undef = if off + q ≤ k ∧ k < off + q + vs.length then vs.getD (k - (off + q)) undef else c.getD k undef
  | [], c, off, q, k, _ => by rw [if_neg (by simp)]; rfl
  | v :: vs, c, off, q, k, h => by
    rw [List.zipIdx_cons, List.foldl_cons, put_getD vs _ off (q + 1) k (by simp at h ⊢; omega)]
    simp only [List.length_cons] at h ⊢
    by_cases h1 : off + (q + 1) ≤ k ∧ k < off + (q + 1) + vs.length
    · rw [if_pos h1, if_pos (by omega), show k - (off + q) = (k - (off + (q + 1))) + 1 by omega, List.getD_cons_succ]
    · rw [if_neg h1]
      by_cases h2 : k = off + q
      · subst h2
        rw [if_pos (by omega)]
        simp [Array.getD_eq_getD_getElem?, show off + q < c.size by omega]
      · rw [if_neg (by omega)]
        simp only [Array.getD_eq_getD_getElem?, Array.getElem?_setIfInBounds]
        rw [if_neg (by omega)]
theorem RVL.put {l : List AV} {c : Array Value} {av : AV} {x : Value} (h : RVL w ρ D Z l c) (hf : av.fit = true) (ho : av.ones = true) (hx : RV w ρ D Z av x) (off : Nat) (hl : off + av.cells.length ≤ l.length) :
    RVL w ρ D Z (putL l off av.cells) ((x.cells.toList.zipIdx 0).foldl (fun cs (y : Value × Nat) => cs.setIfInBounds (off + y.2) y.1) c) := by
  have hc := RVL.of hf ho hx
  refine ⟨by rw [putL_length, put_size, h.1], fun k hk => ?_⟩
  rw [putL_length] at hk
  rw [putL_getD _ _ _ _ hl, put_getD _ _ _ _ _ (by simp only [Array.length_toList, Nat.add_zero, ← h.1, ← hc.1]; exact hl)]
  simp only [Nat.add_zero, Array.length_toList, ← hc.1]
  by_cases hq : off ≤ k ∧ k < off + av.cells.length
  · rw [if_pos hq, if_pos hq]
    have := hc.2 (k - off) (by omega)
    have e : x.cells.toList.getD (k - off) undef = x.cells.getD (k - off) undef := by simp [List.getD_eq_getElem?_getD, Array.getD_eq_getD_getElem?]
    rw [e]
    exact this
  · rw [if_neg hq, if_neg hq]
    exact h.2 k hk
theorem fill_sound (p : PL) : ∀ (parts : List (Nat × AV)) (vparts : List (Nat × Value)) (l l' : List AV) (c : Array Value), fillA p l parts = some l' → RVL w ρ D Z l c →
    parts.length = vparts.length → (∀ k, k < parts.length → (parts.getD k (0, .junk)).1 = (vparts.getD k (0, undef)).1 ∧ RV w ρ D Z (parts.getD k (0, .junk)).2 (vparts.getD k (0, undef)).2) →
    ∃ c', Instr.fill p.at c vparts = some c' ∧ RVL w ρ D Z l' c'
  | [], [], l, l', c, h, hc, _, _ => by
    simp only [fillA, Option.some.injEq] at h
    subst h
    exact ⟨c, rfl, hc⟩
  | [], _ :: _, _, _, _, _, _, hl, _ => by simp at hl
  | _ :: _, [], _, _, _, _, _, hl, _ => by simp at hl
  | (i, av) :: parts, (i', x) :: vparts, l, l', c, h, hc, hl, hp => by
    have h0 := hp 0 (by simp)
    simp only [List.getD_cons_zero] at h0
    obtain ⟨rfl, hx⟩ := h0
    simp only [fillA] at h
    split at h
    · cases h
    · rename_i off size hat
      split at h
      · rename_i hcond
        obtain ⟨h1, h2, h3, h4⟩ := hcond
        have hcs := RVL.of h3 h4 hx
        obtain ⟨c', hc', hr⟩ := fill_sound p parts vparts _ l' _ h (hc.put h3 h4 hx off (by omega)) (by simpa using hl) (fun k hk => by
          have := hp (k + 1) (by simp; omega)
          simpa only [List.getD_cons_succ] using this)
        refine ⟨c', ?_, hr⟩
        simp only [Instr.fill, hat]
        have hsz : x.cells.size = size := by rw [← hcs.1, h1]
        have hin : ¬ (off + x.cells.size > c.size) := by rw [← hc.1]; omega
        rw [if_neg (by simp [hsz]; rw [hsz] at hin; omega)]
        rw [← hc']
        congr 1
        rw [← Array.foldl_toList, Array.toList_zipIdx]
      · cases h
end

/-- Elements out of cells. -/
def elemA (g : Bool) (cs : List AV) : AV := if g then .agg cs else cs.getD 0 .junk
def chunkA (g : Bool) (sz : Nat) : Nat → List AV → List AV
  | 0, _ => []
  | n + 1, l => elemA g (l.take sz) :: chunkA g sz n (l.drop sz)
theorem chunkA_length (g : Bool) (sz : Nat) : ∀ (n : Nat) (l : List AV), (chunkA g sz n l).length = n
  | 0, _ => rfl
  | n + 1, l => by rw [chunkA, List.length_cons, chunkA_length]
theorem chunkA_getD (g : Bool) (sz : Nat) : ∀ (n : Nat) (l : List AV) (i : Nat), i < n → (chunkA g sz n l).getD i .junk = elemA g ((l.drop (i * sz)).take sz)
  | 0, _, _, h => by omega
  | n + 1, l, 0, _ => by simp [chunkA]
  | n + 1, l, i + 1, h => by
    rw [chunkA, List.getD_cons_succ, chunkA_getD g sz n _ i (by omega), List.drop_drop, Nat.add_mul, Nat.one_mul, Nat.add_comm]
/-- The values of a list that fill one cell each: their cells are themselves. -/
def AV.single (a : AV) : Bool := match a with | .agg _ => false | _ => true
theorem AV.cells_single {a : AV} (h : a.single = true) : a.cells = [a] := by cases a <;> first | rfl | simp [AV.single] at h
section
variable {P : Program} {B : Base} {w : World} {ρ : Nat → Option Nat} {D Z : Nat → Prop} {st : St} {a : Act} {K : AV → List (Option Blk) → Prop}
theorem RVL.agg {l : List AV} {c : Array Value} (h : RVL w ρ D Z l c) : RV w ρ D Z (.agg l) (.agg c) := .agg h.1 fun i hi => (h.2 i hi).1
theorem parts_map (parts : Array (Nat × Operand)) (I : Inv B ρ D Z st a w) : (parts.toList.map fun x => (x.1, st.get x.2)).length = (parts.map fun (i, x) => (i, a.eval x)).toList.length ∧
    ∀ k, k < (parts.toList.map fun x => (x.1, st.get x.2)).length → ((parts.toList.map fun x => (x.1, st.get x.2)).getD k (0, .junk)).1 = ((parts.map fun (i, x) => (i, a.eval x)).toList.getD k (0, undef)).1 ∧
      RV w ρ D Z ((parts.toList.map fun x => (x.1, st.get x.2)).getD k (0, .junk)).2 ((parts.map fun (i, x) => (i, a.eval x)).toList.getD k (0, undef)).2 := by
  refine ⟨by simp, fun k hk => ?_⟩
  have hk' : k < parts.size := by simpa using hk
  simp only [List.getD_eq_getElem?_getD, List.getElem?_map, Array.toList_map, Array.getElem?_toList, Array.getElem?_eq_getElem hk', Option.map_some, Option.getD_some]
  exact ⟨trivial, I.get _⟩
theorem RVL.zeros {t : TypeId} {z : List Value} (hz : zeroOf P t = some z) (ho : z.all (·.oneCell') = true) : ∃ v, (P.info? t).bind (·.zero) = some v ∧ v.cells.toList = z ∧ RVL w ρ D Z (z.map .v) v.cells := by
  unfold zeroOf at hz
  cases hv : (P.info? t).bind (·.zero) with
  | none => simp [hv] at hz
  | some v =>
    have e : v.cells.toList = z := by simpa [hv] using hz
    exact ⟨v, rfl, e, RVL.vs z v.cells e (fun x hx => by rw [List.all_eq_true] at ho; exact ho x hx)⟩
theorem out_build (I : Inv B ρ D Z st a w) {t : TypeId} {parts : Array (Nat × Operand)} {p : PL} {z : List Value} {l : List AV} (hp : plOf P t = some p) (hz : zeroOf P t = some z) (ho : z.all (·.oneCell') = true)
    (hf : fillA p (z.map .v) (parts.toList.map fun x => (x.1, st.get x.2)) = some l) (hk : K (.agg l) st.h) : Out P B st a w K (do pure (.value (← Instr.build t (parts.map fun (i, x) => (i, a.eval x))))) := by
  obtain ⟨v, hv, hvz, hR⟩ := RVL.zeros (P := P) (w := w) (ρ := ρ) (D := D) (Z := Z) hz ho
  obtain ⟨h1, h2⟩ := parts_map parts I
  obtain ⟨c, hc, hRc⟩ := fill_sound p _ _ _ l v.cells hf hR h1 h2
  refine Out.same I (v := .agg c) ?_ hRc.agg hk
  have hb : P.built t (parts.map fun (i, x) => (i, a.eval x)).toList = some c := by
    unfold Program.built
    unfold plOf at hp
    cases hi : P.info? t with
    | none => simp [hi] at hv
    | some i =>
      have hiz : i.zero = some v := by simpa [hi] using hv
      split at hp
      · rename_i fields hu
        obtain ⟨places, hpl, rfl⟩ := Option.map_eq_some_iff.1 hp
        simp only [hu, hiz, hpl]
        rw [← hc]
        congr 1
        funext k
        simp [PL.at]
      · rename_i n e hu
        unfold szOf at hp
        cases he : P.info? e with
        | none => simp [he] at hp
        | some ie =>
          simp [he] at hp
          subst hp
          simp only [hu, hiz, he]
          exact hc
      · cases hp
  rw [Sem.run_bind, run_build w t _ c hb]
  rfl

/-- A new row of elements whose cells are told in line. -/
theorem RVL.rows {e : TypeId} {sz n g : Nat} {gg : Bool} {l : List AV} {c : Array Value} (h : RVL w ρ D Z l c) (hg : w.heap[g]? = some (.cells c e (0, 0))) (hl : n * sz ≤ l.length) (h1 : gg = false → sz = 1 ∧ l.all AV.single = true) :
    RB w ρ D Z (.row e sz (chunkA gg sz n l)) g := by
  have hel : ∀ i, i < n → ((chunkA gg sz n l).getD i .junk).cells = (l.drop (i * sz)).take sz := fun i hi => by
    rw [chunkA_getD _ _ _ _ _ hi]
    unfold elemA
    cases gg with
    | true => rfl
    | false =>
      obtain ⟨rfl, hs⟩ := h1 rfl
      have hil : i < l.length := by omega
      have e1 : (l.drop (i * 1)).take 1 = [l[i]] := by
        rw [Nat.mul_one, List.drop_eq_getElem_cons hil]
        rfl
      rw [e1]
      refine AV.cells_single ?_
      rw [List.all_eq_true] at hs
      exact hs _ (List.getElem_mem hil)
  have hlen : ∀ i, i < n → ((l.drop (i * sz)).take sz).length = sz := fun i hi => by
    have : (i + 1) * sz ≤ n * sz := Nat.mul_le_mul_right _ hi
    rw [Nat.add_mul] at this
    simp
    omega
  refine h.block hg (fun i hi => ?_) (fun i j hi hj => ?_) (by rw [chunkA_length]; exact hl)
  · rw [chunkA_length] at hi
    rw [hel i hi, hlen i hi]
  · rw [chunkA_length] at hi
    unfold AV.cellAt
    rw [hel i hi]
    simp [List.getD_eq_getElem?_getD, hj]

theorem out_row (I : Inv B ρ D Z st a w) {s : Sem Next} {e : TypeId} {sz n cap : Nat} {gg : Bool} {l : List AV} {c : Array Value} (hs : s.run P w = .ok (.value (.slice (some ⟨w.heap.size, 0, none⟩) n cap)) (w.alloc (.cells c e)))
    (hv : RVL w ρ D Z l c) (hl : n * sz ≤ l.length) (hcap : cap * sz ≤ c.size) (hn : n ≤ cap) (hm : cap ≤ maxLen) (h1 : gg = false → sz = 1 ∧ l.all AV.single = true)
    (hk : K (.sl st.h.length sz 0 n) (st.h ++ [some (.row e sz (chunkA gg sz n l))])) : Out P B st a w K s := by
  have hst := I.h.alloc_step (.cells c e)
  refine ⟨_, _, hs, _, .inl rfl, _, _, setρ ρ st.h.length (some w.heap.size), D, Z, hk, ?_, I.moved hst (I.h.alloc _ _ ?_)⟩
  · have : (⟨w.heap.size, 0, none⟩ : Addr) = ⟨w.heap.size, 0 * sz, none⟩ := by simp
    rw [this]
    exact .sl (by simp [setρ]) ⟨c, e, (0, 0), heap_new w _, by simpa using hcap⟩ hn hm
  · exact (hv.step hst).rows (heap_new w _) hl h1

theorem out_buildSlice (I : Inv B ρ D Z st a w) {t e : TypeId} {n sz : Nat} {gg : Bool} {parts : Array (Nat × Operand)} {z : List Value} {l : List AV} (ht : slOf P t = some e) (hs : szOf P e = some sz) (hz : zeroOf P e = some z)
    (ho : z.all (·.oneCell') = true) (hzl : z.length = sz) (h1 : gg = false → sz = 1) (hpos : 0 < n * sz) (hsm : n * sz ≤ 2 ^ 24) (hf : fillA (.arr sz) (List.replicate (n * sz) .junk) (parts.toList.map fun x => (x.1, st.get x.2)) = some l)
    (hsg : gg = false → l.all AV.single = true) (hk : K (.sl st.h.length sz 0 n) (st.h ++ [some (.row e sz (chunkA gg sz n l))])) : Out P B st a w K (do pure (.value (← Instr.buildSlice t n (parts.map fun (i, x) => (i, a.eval x))))) := by
  obtain ⟨v, hv, hvz, hR⟩ := RVL.zeros (P := P) (w := w) (ρ := ρ) (D := D) (Z := Z) hz ho
  have hvs : v.cells.size = sz := by rw [← hzl, ← hvz]; simp
  cases hie : P.info? e with
  | none => simp [hie] at hv
  | some ie =>
    have hiz : ie.zero = some v := by simpa [hie] using hv
    have his : ie.size = sz := by simpa [szOf, hie] using hs
    have hzero : RVL w ρ D Z (List.replicate (n * sz) .junk) ((Array.range (n * ie.size)).map (v.cells[· % v.cells.size]!)) := by
      refine ⟨by simp [his], fun k hk => ?_⟩
      have hk' : k < n * sz := by simpa using hk
      have hsz : 0 < sz := by
        rcases Nat.eq_zero_or_pos sz with h | h
        · subst h; simp at hk'
        · exact h
      have e1 : ((Array.range (n * ie.size)).map (v.cells[· % v.cells.size]!)).getD k undef = v.cells.getD (k % sz) undef := by
        have hm : k % sz < v.cells.size := by rw [hvs]; exact Nat.mod_lt _ hsz
        simp [Array.getD, his, hk', hvs, Nat.mod_lt _ hsz]
      rw [e1]
      refine ⟨?_, ?_⟩
      · have : (List.replicate (n * sz) AV.junk).getD k .junk = .junk := by simp [List.getD_eq_getElem?_getD, hk']
        rw [this]; exact .junk _
      · exact (hR.2 (k % sz) (by simp [hzl]; exact Nat.mod_lt _ hsz)).2
    obtain ⟨h3, h4⟩ := parts_map parts I
    obtain ⟨c, hc, hRc⟩ := fill_sound (.arr sz) _ _ _ l _ hf hzero h3 h4
    have hll : l.length = n * sz := by
      have : ∀ (parts : List (Nat × AV)) (l0 l : List AV), fillA (.arr sz) l0 parts = some l → l.length = l0.length := by
        intro parts
        induction parts with
        | nil => intro l0 l h; simp [fillA] at h; rw [h]
        | cons p parts ih =>
          intro l0 l h
          obtain ⟨i, av⟩ := p
          simp only [fillA, PL.at] at h
          split at h
          · rw [ih _ _ h, putL_length]
          · cases h
      rw [this _ _ _ hf]; simp
    have hsz : 0 < sz := by
      rcases Nat.eq_zero_or_pos sz with h | h
      · subst h; simp at hpos
      · exact h
    have hnm : n ≤ maxLen := by
      have := Nat.le_mul_of_pos_right n hsz
      unfold maxLen
      omega
    refine out_row I (e := e) (sz := sz) (n := n) (cap := n) (gg := gg) (l := l) (c := c) ?_ hRc (by omega) (by rw [← hRc.1]; omega) (Nat.le_refl _) hnm (fun hg => ⟨h1 hg, hsg hg⟩) hk
    rw [Sem.run_bind, run_buildSlice w t e n _ c ie v (und_sl ht) hie hiz (by rw [his]; omega) (by rw [his]; omega) (by rw [his]; rw [his] at hc; exact hc)]
    rfl
end
end Pm
end Go.Proofs.YtdgoompjoeffcaaGreat
