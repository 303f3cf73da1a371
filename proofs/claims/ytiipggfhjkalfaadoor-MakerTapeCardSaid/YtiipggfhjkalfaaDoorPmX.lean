/- PM, part X: maps by keys of one cell, bytes as strings. -/
import Derived.Test.YtiipggfhjkalfaaDoorPmH
import Derived.Laws.BytesString
namespace Go.Proofs.YtiipggfhjkalfaaDoor
namespace Pm

/-! ### A map is written -/
def setObjW (w : World) (g : Nat) (o : Obj) : World := { w with heap := w.heap.setIfInBounds g o }
theorem setObjW_other (w : World) (g k : Nat) (o : Obj) (h : k ≠ g) : (setObjW w g o).heap[k]? = w.heap[k]? := by
  simp only [setObjW, Array.getElem?_setIfInBounds]
  rw [if_neg (Ne.symm h)]
theorem setObjW_self {w : World} {g : Nat} {o0 : Obj} (o : Obj) (h : w.heap[g]? = some o0) : (setObjW w g o).heap[g]? = some o := by
  have := (Array.getElem?_eq_some_iff.1 h).1
  simp [setObjW, this]
theorem run_getMap {P : Program} {w : World} {r : Nat} {es : Array MapEntry} {clock : Nat} (hb : w.heap[r]? = some (.map es clock)) : (getObj r).run P w = .ok (.map es clock) w := by
  simp [getObj, Sem.run, hb]
theorem run_setMap {P : Program} {w : World} {r : Nat} {es : Array MapEntry} {clock : Nat} (o : Obj) (hb : w.heap[r]? = some (.map es clock)) : (setObj r o).run P w = .ok () (setObjW w r o) := by
  simp [setObj, Sem.run, hb, setObjW]
theorem setObjW_size (w : World) (g : Nat) (o : Obj) : (setObjW w g o).heap.size = w.heap.size := by simp [setObjW]

section
variable {B : Base} {w : World} {ρ : Nat → Option Nat} {D Z : Nat → Prop} {h : List (Option Blk)}
theorem HR.setm_step (H : HR B w ρ D Z h) {id g : Nat} {es : Array MapEntry} {clock : Nat} (o : Obj) (hr : ρ id = some g) (hc : w.heap[g]? = some (.map es clock)) :
    Step w (setObjW w g o) ρ ρ D D Z Z where
  rho _ _ hr := .inl hr
  dead _ hd := hd
  z _ hz := hz
  zb k hz := setObjW_other w g k o (fun e => (H.z k hz).2 id (e ▸ hr))
  cap id' g' d e' fr hr' _ hd := by
    by_cases eg : g' = g
    · subst eg
      rw [hc] at hd
      cases hd
    · exact ⟨d, e', fr, by rw [setObjW_other w g g' o eg]; exact hd, Nat.le_refl _⟩

theorem HR.set_map (H : HR B w ρ D Z h) {id g : Nat} {es es' : Array MapEntry} {clock clock' : Nat} (l : List (AV × AV)) (hr : ρ id = some g) (hc : w.heap[g]? = some (.map es clock))
    (h1 : es'.size = l.length) (h2 : ∀ i, i < l.length → RV w ρ D Z (l.getD i default).1 (es'.getD i default).key ∧ RV w ρ D Z (l.getD i default).2 (es'.getD i default).val) :
    HR B (setObjW w g (.map es' clock')) ρ D Z (h.set id (some (.mp l))) where
  live id' b' hb' := by
    have s := H.setm_step (.map es' clock') hr hc
    by_cases ei : id' = id
    · subst ei
      rw [List.getElem?_set_self (H.id_lt hr)] at hb'
      cases hb'
      exact ⟨g, hr, es', clock', setObjW_self _ hc, h1, fun i hi => ⟨(h2 i hi).1.step s, (h2 i hi).2.step s⟩⟩
    · rw [List.getElem?_set_ne (Ne.symm ei)] at hb'
      obtain ⟨g', hg', hb⟩ := H.live id' b' hb'
      exact ⟨g', hg', hb.step s (setObjW_other w g g' _ (fun eg => ei (H.inj id' id g (eg ▸ hg') hr)))⟩
  only id' g' hr' := by
    by_cases ei : id' = id
    · subst ei; exact ⟨_, List.getElem?_set_self (H.id_lt hr)⟩
    · rw [List.getElem?_set_ne (Ne.symm ei)]; exact H.only id' g' hr'
  dead id' hd := by
    have ei : id' ≠ id := fun ei => by
      obtain ⟨b, hb⟩ := H.only id g hr
      exact H.not_dead hb (ei ▸ hd)
    rw [List.getElem?_set_ne (Ne.symm ei)]
    exact H.dead id' hd
  inj := H.inj
  own := H.own
  z k hz := ⟨by have := (H.z k hz).1; rw [setObjW_size]; exact this, (H.z k hz).2⟩
  fr k hk hn := by
    rw [setObjW_other w g k _ (fun ek => ?_)]
    · exact H.fr k hk hn
    · subst ek
      rcases H.own id k hr with ⟨id0, h0⟩ | h0
      · exact hn id0 h0
      · omega
  os := H.os
  tape := H.tape
  output := H.output
  size := by have := H.size; rw [setObjW_size]; exact this
  step := by
    have s := H.step
    have t := H.setm_step (.map es' clock') hr hc
    refine ⟨fun id g hr => ?_, fun id hd => t.dead _ (s.dead _ hd), fun k hz => t.z _ (s.z _ hz), fun k hz => (t.zb k (s.z k hz)).trans (s.zb k hz), fun id g c e fr hr hr' hc => ?_⟩
    · exact s.rho id g hr
    · obtain ⟨c1, e1, fr1, hc1, hl1⟩ := s.cap id g c e fr hr hr' hc
      obtain ⟨c2, e2, fr2, hc2, hl2⟩ := t.cap id g c1 e1 fr1 hr' hr' hc1
      exact ⟨c2, e2, fr2, hc2, Nat.le_trans hl1 hl2⟩
  zg := H.zg
end

/-! ### Keys -/
def mget (d : TypeDesc) (k : Value) : List (AV × AV) → Nat → Option (Option (Nat × AV))
  | [], _ => some none
  | (a, y) :: es, i => match a with
    | .v x => match Instr.sameNow d k x with
      | some true => some (some (i, y))
      | some false => mget d k es (i + 1)
      | none => none
    | _ => none
def keyOk (d : TypeDesc) (k : Value) : Bool := match d, k with
  | .string, .string _ => true
  | .int _, .int _ _ => true
  | .bool, .bool _ => true
  | _, _ => false
def mapOf (P : Program) (t : TypeId) : Option (TypeId × TypeId) := match P.underlying t with | some (.map k e) => some (k, e) | _ => none
theorem und_map {P : Program} {t k e : TypeId} (h : mapOf P t = some (k, e)) : P.underlying t = some (.map k e) := by
  unfold mapOf at h
  split at h <;> simp_all
theorem run_checkKey {P : Program} {w : World} {t : TypeId} {d : TypeDesc} {k : Value} (hd : P.underlying t = some d) (hk : keyOk d k = true) (b : Bool) : (Instr.checkKey b 10000 t k).run P w = .ok () w := by
  show (Instr.checkKey b (9999 + 1) t k).run P w = .ok () w
  unfold Instr.checkKey
  rw [Sem.run_bind, run_underlying hd]
  unfold keyOk at hk
  split at hk <;> first | rfl | cases hk
section
variable {B : Base} {w : World} {ρ : Nat → Option Nat} {D Z : Nat → Prop} {P : Program}
/-- Entries and what they are. -/
def RE (w : World) (ρ : Nat → Option Nat) (D Z : Nat → Prop) (l : List (AV × AV)) (es : List MapEntry) : Prop :=
  es.length = l.length ∧ ∀ i, i < l.length → RV w ρ D Z (l.getD i default).1 (es.getD i default).key ∧ RV w ρ D Z (l.getD i default).2 (es.getD i default).val
theorem RE.tail {x : AV × AV} {l : List (AV × AV)} {e : MapEntry} {es : List MapEntry} (h : RE w ρ D Z (x :: l) (e :: es)) : RE w ρ D Z l es :=
  ⟨by have := h.1; simpa using this, fun i hi => by have := h.2 (i + 1) (by simpa using hi); simpa using this⟩
theorem RE.find {d : TypeDesc} {k : Value} : ∀ {l : List (AV × AV)} {es : List MapEntry} {n : Nat} {r : Option (Nat × AV)}, RE w ρ D Z l es → mget d k l n = some r →
    (r = none ∧ Instr.findNow d k es n = some none) ∨ ∃ i y v, r = some (i, y) ∧ Instr.findNow d k es n = some (some (i, v)) ∧ RV w ρ D Z y v
  | [], [], n, r, _, h => by simp only [mget, Option.some.injEq] at h; subst h; exact .inl ⟨rfl, rfl⟩
  | [], e :: es, n, r, hr, _ => by have := hr.1; simp at this
  | x :: l, [], n, r, hr, _ => by have := hr.1; simp at this
  | (a, y) :: l, e :: es, n, r, hr, h => by
    have h0 := hr.2 0 (by simp)
    simp only [List.getD_cons_zero] at h0
    simp only [mget] at h
    split at h
    · rename_i x
      have hx := h0.1.v_inv
      simp only [Instr.findNow]
      rw [hx]
      split at h
      · rename_i he
        cases h
        rw [he]
        exact .inr ⟨n, y, e.val, rfl, rfl, h0.2⟩
      · rename_i he
        rw [he]
        exact RE.find hr.tail h
      · cases h
    · cases h
theorem HR.mp {h : List (Option Blk)} (H : HR B w ρ D Z h) {id : Nat} {l : List (AV × AV)} (hb : h[id]? = some (some (.mp l))) : ∃ g es clock, ρ id = some g ∧ w.heap[g]? = some (.map es clock) ∧ RE w ρ D Z l es.toList := by
  obtain ⟨g, hg, es, clock, hc, h1, h2⟩ := H.live id _ hb
  refine ⟨g, es, clock, hg, hc, by simpa using h1, fun i hi => ?_⟩
  have := h2 i hi
  have e : es.toList.getD i default = es.getD i default := by
    have : i < es.size := by omega
    simp [Array.getD, this, List.getD_eq_getElem?_getD]
  rw [e]
  exact this
theorem RV.map_live {h : List (Option Blk)} (H : HR B w ρ D Z h) {id g : Nat} {b : Blk} {x : Value} (hb : h[id]? = some (some b)) (hg : ρ id = some g) (hx : RV w ρ D Z (.map id) x) : x = .map (some g) := by
  rcases hx.map_inv with hd | ⟨g', hg', rfl⟩
  · exact absurd hd (H.not_dead hb)
  · rw [hg] at hg'; cases hg'; rfl
end

def zvA (P : Program) (t : TypeId) : Option AV := ((P.info? t).bind (·.zero)).map AV.ofV
theorem run_zvA {P : Program} {w : World} {t : TypeId} {z : AV} (h : zvA P t = some z) : ∃ v, (zeroValue t).run P w = .ok v w ∧ AV.ofV v = z := by
  unfold zvA at h
  cases hi : P.info? t with
  | none => simp [hi] at h
  | some i =>
    cases hz : i.zero with
    | none => simp [hi, hz] at h
    | some v => exact ⟨v, by simp [zeroValue, typeInfo, hi, hz], by simpa [hi, hz] using h⟩
def gotA (z : AV) : Option (Nat × AV) → AV
  | some (_, y) => y
  | none => z
section
variable {P : Program} {B : Base} {w : World} {ρ : Nat → Option Nat} {D Z : Nat → Prop} {st : St} {a : Act} {K : AV → List (Option Blk) → Prop}
theorem out_makeMap (I : Inv B ρ D Z st a w) {t : TypeId} (hk : K (.map st.h.length) (st.h ++ [some (.mp [])])) : Out P B st a w K (do pure (.value (← Instr.makeMap t none))) := by
  have hst := I.h.alloc_step (.map #[] 0)
  refine ⟨_, _, rfl, _, .inl rfl, _, _, setρ ρ st.h.length (some w.heap.size), D, Z, hk, .map (by simp [setρ]), I.moved hst (I.h.alloc _ _ ⟨#[], 0, heap_new w _, rfl, fun i hi => by simp at hi⟩)⟩
theorem out_mapUpdate (I : Inv B ρ D Z st a w) {t kt e : TypeId} {d : TypeDesc} {m k v : Operand} {id : Nat} {l : List (AV × AV)} {kv : Value} (hm : st.get m = .map id) (hkv : st.get k = .v kv)
    (hb : st.h[id]? = some (some (.mp l))) (ht : mapOf P t = some (kt, e)) (hd : P.underlying kt = some d) (hg : mget d kv l 0 = some none) (ho : keyOk d kv = true)
    (hk : K (.v undef) (st.h.set id (some (.mp (l ++ [(st.get k, st.get v)]))))) : Out P B st a w K (do Instr.mapUpdate t (a.eval m) (a.eval k) (a.eval v); pure .skip) := by
  obtain ⟨g, es, clock, hr, hc, hE⟩ := I.h.mp hb
  have hmv := I.get m
  rw [hm] at hmv
  rw [hmv.map_live I.h hb hr]
  have hkk := I.get k
  rw [hkv] at hkk
  have hkx := hkk.v_inv
  have hvv := I.get v
  rw [hkx]
  have hf : Instr.findNow d kv es.toList 0 = some none := by
    rcases hE.find hg with ⟨_, h⟩ | ⟨i, y, v', h, _⟩
    · exact h
    · cases h
  have hset := HR.set_map (es' := es.push { key := kv, val := a.eval v, born := clock }) (clock' := clock + 1) I.h (l ++ [(st.get k, st.get v)]) hr hc (by
      have := hE.1
      simp at this ⊢
      exact this) (fun i hi => by
    have hl := hE.1
    by_cases hil : i < l.length
    · have := hE.2 i hil
      have hies : i < es.size := by simpa using (by rw [hl]; exact hil : i < es.toList.length)
      rw [show (l ++ [(st.get k, st.get v)]).getD i default = l.getD i default by simp [List.getD_eq_getElem?_getD, List.getElem?_append_left hil],
        show (es.push { key := kv, val := a.eval v, born := clock }).getD i default = es.toList.getD i default by
          simp [Array.getD, List.getD_eq_getElem?_getD, hies, show i < es.size + 1 by omega, Array.getElem_push]]
      exact this
    · have : i = l.length := by simp at hi; omega
      subst this
      have hes : l.length = es.size := by simpa using hl.symm
      rw [show (l ++ [(st.get k, st.get v)]).getD l.length default = (st.get k, st.get v) by simp [List.getD_eq_getElem?_getD],
        show (es.push { key := kv, val := a.eval v, born := clock }).getD l.length default = { key := kv, val := a.eval v, born := clock } by
          simp [Array.getD, hes, Array.getElem_push]]
      rw [hkv]
      exact ⟨.v _, hvv⟩)
  refine ⟨_, setObjW w g _, ?_, undef, .inr ⟨rfl, rfl⟩, _, _, ρ, D, Z, hk, .v _, I.moved (I.h.setm_step (.map (es.push { key := kv, val := a.eval v, born := clock }) (clock + 1)) hr hc) hset⟩
  unfold Instr.mapUpdate
  simp only [Sem.run_bind, run_underlying (und_map ht), Result.andThen, run_getMap hc, run_checkKey hd ho, Instr.findKey, run_underlying hd, hf, Sem.run_pure, run_setMap _ hc]
theorem out_lookup (I : Inv B ρ D Z st a w) {t kt e : TypeId} {d : TypeDesc} {m k : Operand} {id : Nat} {l : List (AV × AV)} {kv : Value} {r : Option (Nat × AV)} {z : AV} (c : Bool)
    (hm : st.get m = .map id) (hkv : st.get k = .v kv)
    (hb : st.h[id]? = some (some (.mp l))) (ht : mapOf P t = some (kt, e)) (hd : P.underlying kt = some d) (hg : mget d kv l 0 = some r) (ho : keyOk d kv = true) (hz : zvA P e = some z)
    (hk : K (if c then .tup [gotA z r, .v (.bool r.isSome)] else gotA z r) st.h) :
    Out P B st a w K (do pure (.value (← Instr.lookup t (a.eval m) (a.eval k) c))) := by
  obtain ⟨gb, es, clock, hr, hc, hE⟩ := I.h.mp hb
  have hmv := I.get m
  rw [hm] at hmv
  rw [hmv.map_live I.h hb hr]
  have hkk := I.get k
  rw [hkv] at hkk
  rw [hkk.v_inv]
  obtain ⟨zv, hzr, hzl⟩ := run_zvA (w := w) hz
  have key : ∃ v, RV w ρ D Z (gotA z r) v ∧ (Instr.lookup t (.map (some gb)) kv c).run P w = .ok (if c then .tuple #[v, .bool r.isSome] else v) w := by
    rcases hE.find hg with ⟨rfl, hf⟩ | ⟨i, y, v, rfl, hf, hv⟩
    · refine ⟨zv, hzl ▸ RV.ofV zv, ?_⟩
      unfold Instr.lookup
      simp only [Sem.run_bind, run_underlying (und_map ht), Result.andThen, run_getMap hc, run_checkKey hd ho, Instr.findKey, run_underlying hd, hf, Sem.run_pure, hzr]
      rfl
    · refine ⟨v, hv, ?_⟩
      unfold Instr.lookup
      simp only [Sem.run_bind, run_underlying (und_map ht), Result.andThen, run_getMap hc, run_checkKey hd ho, Instr.findKey, run_underlying hd, hf, Sem.run_pure]
      rfl
  obtain ⟨v, hv, hrun⟩ := key
  refine Out.same I (v := if c then .tuple #[v, .bool r.isSome] else v) ?_ ?_ hk
  · rw [Sem.run_bind, hrun]; rfl
  · cases c with
    | false => simpa using hv
    | true =>
      simp only [if_true]
      refine .tup rfl fun i hi => ?_
      match i, hi with
      | 0, _ => exact hv
      | 1, _ => exact .v _
end

/-! ### Bytes as a string -/
/-- A list of bytes as a string. -/
def bs (l : List UInt8) : ByteArray := ⟨l.toArray⟩
def bytesA : List AV → Option (List UInt8)
  | [] => some []
  | a :: l => match a with
    | .v (.int .u8 n) => (bytesA l).map (UInt8.ofNat n.toNat :: ·)
    | _ => none
theorem bytesA_sound {w : World} {ρ : Nat → Option Nat} {D Z : Nat → Prop} : ∀ {l : List AV} {r : List UInt8} {vs : List Value}, bytesA l = some r → vs.length = l.length → (∀ i, i < l.length → RV w ρ D Z (l.getD i .junk) (vs.getD i undef)) →
    ∃ ns : List Int, vs = ns.map (Value.int .u8) ∧ r = ns.map fun n => UInt8.ofNat n.toNat
  | [], r, vs, h, hl, _ => by
    simp only [bytesA, Option.some.injEq] at h
    subst h
    have : vs = [] := List.eq_nil_of_length_eq_zero (by simpa using hl)
    subst this
    exact ⟨[], rfl, rfl⟩
  | a :: l, r, [], h, hl, _ => by simp at hl
  | a :: l, r, x :: vs, h, hl, hv => by
    simp only [bytesA] at h
    split at h
    · rename_i n
      have h0 := hv 0 (by simp)
      simp only [List.getD_cons_zero] at h0
      have hx := h0.v_inv
      cases hb : bytesA l with
      | none => rw [hb] at h; cases h
      | some r' =>
        rw [hb] at h
        cases h
        obtain ⟨ns, e1, e2⟩ := bytesA_sound hb (by simpa using hl) (fun i hi => by have := hv (i + 1) (by simpa using hi); simpa using this)
        exact ⟨n :: ns, by rw [hx, e1]; rfl, by rw [e2]; rfl⟩
    · cases h
theorem foldl_push (ns : List Int) : ∀ s : ByteArray, ns.foldl (fun r n => r.push (UInt8.ofNat n.toNat)) s = s ++ bs (ns.map fun n => UInt8.ofNat n.toNat) := by
  induction ns with
  | nil => intro s; apply ByteArray.ext; simp [bs]
  | cons n ns ih =>
    intro s
    rw [List.foldl_cons, ih]
    apply ByteArray.ext
    simp [bs, ByteArray.push]
def isBytesTo (P : Program) (s d : TypeId) : Bool := match slOf P s with
  | some e => match P.underlying e, P.underlying d with
    | some (.int .u8), some .string => true
    | _, _ => false
  | none => false
section
variable {P : Program} {B : Base} {w : World} {ρ : Nat → Option Nat} {D Z : Nat → Prop} {st : St} {a : Act} {K : AV → List (Option Blk) → Prop}
theorem out_bytes (I : Inv B ρ D Z st a w) {s d : TypeId} {x : Operand} {id off len : Nat} {e : TypeId} {es : List AV} {r : List UInt8} (hx : st.get x = .sl id 1 off len) (hb : st.h[id]? = some (some (.row e 1 es)))
    (ht : isBytesTo P s d = true) (hl : off + len ≤ es.length) (hr : bytesA ((es.drop off).take len) = some r) (hk : K (.v (.string (bs r))) st.h) :
    Out P B st a w K (do pure (.value (← convert s d (a.eval x)))) := by
  obtain ⟨g, c, hro, hcc, hcl, hs, hv⟩ := I.h.row hb
  have hxv := I.get x
  rw [hx] at hxv
  obtain ⟨cap, e1, _, hlc, _⟩ := hxv.sl_live I.h hb hro
  rw [e1]
  unfold isBytesTo at ht
  split at ht
  · rename_i e' hse
    split at ht
    · rename_i hu1 hu2
      have hlen : ((es.drop off).take len).length = len := by simp; omega
      obtain ⟨ns, h1, h2⟩ := bytesA_sound (w := w) (ρ := ρ) (D := D) (Z := Z) (vs := (List.range len).map fun k => c.getD (off + k) undef) hr (by rw [hlen]; simp) (fun i hi => by
        rw [hlen] at hi
        have h3 := (hv (off + i) 0 (by omega) (by omega)).1
        have h4 := hs (off + i) (by omega)
        rw [show ((es.drop off).take len).getD i .junk = es.getD (off + i) .junk by simp [List.getD_eq_getElem?_getD, hi],
          show ((List.range len).map fun k => c.getD (off + k) undef).getD i undef = c.getD (off + i) undef by simp [List.getD_eq_getElem?_getD, hi]]
        simp only [Nat.mul_one, Nat.add_zero] at h3
        have h5 : (es.getD (off + i) .junk).cellAt 0 = es.getD (off + i) .junk := by
          have hby : ∃ n, es.getD (off + i) .junk = .v (.int .u8 n) := by
            have key : ∀ (l : List AV) (r : List UInt8) (i : Nat), bytesA l = some r → i < l.length → ∃ n, l.getD i .junk = .v (.int .u8 n) := by
              intro l
              induction l with
              | nil => intro r i _ hi; simp at hi
              | cons a l ih =>
                intro r i h hi
                simp only [bytesA] at h
                split at h
                · rename_i n
                  cases i with
                  | zero => exact ⟨n, rfl⟩
                  | succ i =>
                    cases hb' : bytesA l with
                    | none => rw [hb'] at h; cases h
                    | some r' => rw [List.getD_cons_succ]; exact ih r' i hb' (by simpa using hi)
                · cases h
            obtain ⟨n, hn⟩ := key _ _ i hr (by rw [hlen]; exact hi)
            rw [show ((es.drop off).take len).getD i .junk = es.getD (off + i) .junk by simp [List.getD_eq_getElem?_getD, hi]] at hn
            exact ⟨n, hn⟩
          obtain ⟨n, hn⟩ := hby
          rw [hn]
          rfl
        rw [h5] at h3
        exact h3)
      have hload : (loadCells ⟨g, off * 1, none⟩ len).run P w = .ok ((List.range len).map fun k => c.getD (off + k) undef).toArray w := by
        have := run_loadCells_list (P := P) (w := w) ⟨g, off * 1, none⟩ ((List.range len).map fun k => c.getD (off + k) undef) (fun j v hj => by
          have hjl : j < len := by have := (List.getElem?_eq_some_iff.1 hj).1; simpa using this
          simp [hjl] at hj
          rw [Addr.add_plain, Nat.mul_one, ← hj]
          have := hcl
          rw [cell_row hcc (by omega)]
          simp [Array.getD_eq_getD_getElem?])
        simpa using this
      refine Out.same I (v := .string (bs r)) ?_ (.v _) hk
      rw [Sem.run_bind, run_convert_bytes_string w s d e' _ _ _ (und_sl hse) hu1 hu2, run_bytesToString w _ _ _ ns (by rw [hload, h1])]
      rw [foldl_push, ← h2]
      have : ByteArray.empty ++ bs r = bs r := by apply ByteArray.ext; simp
      rw [this]
      rfl
    · cases ht
  · cases ht
end
end Pm
end Go.Proofs.YtiipggfhjkalfaaDoor
