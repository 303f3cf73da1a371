/- PM, part X: maps by keys of one cell, bytes as strings. -/
import Derived.Test.YtiipggfhjkalfaaDoorPmH
import Derived.Laws.BytesString
import Derived.Lib.ConvBytes
import Derived.Lib.UnsafeStr
import Derived.Laws.AppendOwn
namespace Go.Proofs.YtiipggfhjkalfaaDoor
namespace Pm

/-! ### A map is written -/
def setObjW (w : World) (g : Nat) (o : Obj) : World := { w with heap := w.heap.setIfInBounds g o }
theorem setObjW_other (w : World) (g k : Nat) (o : Obj) (h : k ≠ g) : (setObjW w g o).heap[k]? = w.heap[k]? := by
  simp only [setObjW, Array.getElem?_setIfInBounds]
  rw [if_neg (Ne.symm h)]
theorem setObjW_self {w : World} {g : Nat} {o0 : Obj} (o : Obj) (h : w.heap[g]? = some o0) : (setObjW w g o).heap[g]? = some o := by
  have := (Array.getElem?_eq_some_iff.1 h).1
  simp [setObjW, this]
theorem run_getMap {P : Program} {w : World} {r : Nat} {es : Array MapEntry} {clock : Nat} (hb : w.heap[r]? = some (.map es clock)) : (getObj r).run P w = .ok (.map es clock) w := by
  simp [getObj, Sem.run, hb]
theorem run_setMap {P : Program} {w : World} {r : Nat} {es : Array MapEntry} {clock : Nat} (o : Obj) (hb : w.heap[r]? = some (.map es clock)) : (setObj r o).run P w = .ok () (setObjW w r o) := by
  simp [setObj, Sem.run, hb, setObjW]
theorem setObjW_size (w : World) (g : Nat) (o : Obj) : (setObjW w g o).heap.size = w.heap.size := by simp [setObjW]

section
variable {B : Base} {w : World} {ρ : Nat → Option Nat} {D Z : Nat → Prop} {h : List (Option Blk)}
theorem HR.setm_step (H : HR B w ρ D Z h) {id g : Nat} {es : Array MapEntry} {clock : Nat} (o : Obj) (hr : ρ id = some g) (hc : w.heap[g]? = some (.map es clock)) :
    Step w (setObjW w g o) ρ ρ D D Z Z where
  rho _ _ hr := .inl hr
  dead _ hd := hd
  z _ hz := hz
  zb k hz := setObjW_other w g k o (fun e => (H.z k hz).2 id (e ▸ hr))
  cap id' g' d e' fr hr' _ hd := by
    by_cases eg : g' = g
    · subst eg
      rw [hc] at hd
      cases hd
    · exact ⟨d, e', fr, by rw [setObjW_other w g g' o eg]; exact hd, Nat.le_refl _⟩

theorem HR.set_map (H : HR B w ρ D Z h) {id g : Nat} {es es' : Array MapEntry} {clock clock' : Nat} (l : List (AV × AV)) (hr : ρ id = some g) (hc : w.heap[g]? = some (.map es clock))
    (h1 : es'.size = l.length) (h2 : ∀ i, i < l.length → RV w ρ D Z (l.getD i default).1 (es'.getD i default).key ∧ RV w ρ D Z (l.getD i default).2 (es'.getD i default).val) :
    HR B (setObjW w g (.map es' clock')) ρ D Z (h.set id (some (.mp l))) where
  live id' b' hb' := by
    have s := H.setm_step (.map es' clock') hr hc
    by_cases ei : id' = id
    · subst ei
      rw [List.getElem?_set_self (H.id_lt hr)] at hb'
      cases hb'
      exact ⟨g, hr, es', clock', setObjW_self _ hc, h1, fun i hi => ⟨(h2 i hi).1.step s, (h2 i hi).2.step s⟩⟩
    · rw [List.getElem?_set_ne (Ne.symm ei)] at hb'
      obtain ⟨g', hg', hb⟩ := H.live id' b' hb'
      exact ⟨g', hg', hb.step s (setObjW_other w g g' _ (fun eg => ei (H.inj id' id g (eg ▸ hg') hr)))⟩
  only id' g' hr' := by
    by_cases ei : id' = id
    · subst ei; exact ⟨_, List.getElem?_set_self (H.id_lt hr)⟩
    · rw [List.getElem?_set_ne (Ne.symm ei)]; exact H.only id' g' hr'
  dead id' hd := by
    have ei : id' ≠ id := fun ei => by
      obtain ⟨b, hb⟩ := H.only id g hr
      exact H.not_dead hb (ei ▸ hd)
    rw [List.getElem?_set_ne (Ne.symm ei)]
    exact H.dead id' hd
  inj := H.inj
  own := H.own
  z k hz := ⟨by have := (H.z k hz).1; rw [setObjW_size]; exact this, (H.z k hz).2⟩
  fr k hk hn := by
    rw [setObjW_other w g k _ (fun ek => ?_)]
    · exact H.fr k hk hn
    · subst ek
      rcases H.own id k hr with ⟨id0, h0⟩ | h0
      · exact hn id0 h0
      · omega
  os := H.os
  tape := H.tape
  output := H.output
  size := by have := H.size; rw [setObjW_size]; exact this
  step := by
    have s := H.step
    have t := H.setm_step (.map es' clock') hr hc
    refine ⟨fun id g hr => ?_, fun id hd => t.dead _ (s.dead _ hd), fun k hz => t.z _ (s.z _ hz), fun k hz => (t.zb k (s.z k hz)).trans (s.zb k hz), fun id g c e fr hr hr' hc => ?_⟩
    · exact s.rho id g hr
    · obtain ⟨c1, e1, fr1, hc1, hl1⟩ := s.cap id g c e fr hr hr' hc
      obtain ⟨c2, e2, fr2, hc2, hl2⟩ := t.cap id g c1 e1 fr1 hr' hr' hc1
      exact ⟨c2, e2, fr2, hc2, Nat.le_trans hl1 hl2⟩
  zg := H.zg
end

/-! ### Keys -/
def mget (d : TypeDesc) (k : Value) : List (AV × AV) → Nat → Option (Option (Nat × AV))
  | [], _ => some none
  | (a, y) :: es, i => match a with
    | .v x => match Instr.sameNow d k x with
      | some true => some (some (i, y))
      | some false => mget d k es (i + 1)
      | none => none
    | _ => none
def keyOk (d : TypeDesc) (k : Value) : Bool := match d, k with
  | .string, .string _ => true
  | .int _, .int _ _ => true
  | .bool, .bool _ => true
  | _, _ => false
def mapOf (P : Program) (t : TypeId) : Option (TypeId × TypeId) := match P.underlying t with | some (.map k e) => some (k, e) | _ => none
theorem und_map {P : Program} {t k e : TypeId} (h : mapOf P t = some (k, e)) : P.underlying t = some (.map k e) := by
  unfold mapOf at h
  split at h <;> simp_all
theorem run_checkKey {P : Program} {w : World} {t : TypeId} {d : TypeDesc} {k : Value} (hd : P.underlying t = some d) (hk : keyOk d k = true) (b : Bool) : (Instr.checkKey b 10000 t k).run P w = .ok () w := by
  show (Instr.checkKey b (9999 + 1) t k).run P w = .ok () w
  unfold Instr.checkKey
  rw [Sem.run_bind, run_underlying hd]
  unfold keyOk at hk
  split at hk <;> first | rfl | cases hk
section
variable {B : Base} {w : World} {ρ : Nat → Option Nat} {D Z : Nat → Prop} {P : Program}
/-- Entries and what they are. -/
def RE (w : World) (ρ : Nat → Option Nat) (D Z : Nat → Prop) (l : List (AV × AV)) (es : List MapEntry) : Prop :=
  es.length = l.length ∧ ∀ i, i < l.length → RV w ρ D Z (l.getD i default).1 (es.getD i default).key ∧ RV w ρ D Z (l.getD i default).2 (es.getD i default).val
theorem RE.tail {x : AV × AV} {l : List (AV × AV)} {e : MapEntry} {es : List MapEntry} (h : RE w ρ D Z (x :: l) (e :: es)) : RE w ρ D Z l es :=
  ⟨by have := h.1; simpa using this, fun i hi => by have := h.2 (i + 1) (by simpa using hi); simpa using this⟩
theorem RE.find {d : TypeDesc} {k : Value} : ∀ {l : List (AV × AV)} {es : List MapEntry} {n : Nat} {r : Option (Nat × AV)}, RE w ρ D Z l es → mget d k l n = some r →
    (r = none ∧ Instr.findNow d k es n = some none) ∨ ∃ i y v, r = some (i, y) ∧ Instr.findNow d k es n = some (some (i, v)) ∧ RV w ρ D Z y v
  | [], [], n, r, _, h => by simp only [mget, Option.some.injEq] at h; subst h; exact .inl ⟨rfl, rfl⟩
  | [], e :: es, n, r, hr, _ => by have := hr.1; simp at this
  | x :: l, [], n, r, hr, _ => by have := hr.1; simp at this
  | (a, y) :: l, e :: es, n, r, hr, h => by
    have h0 := hr.2 0 (by simp)
    simp only [List.getD_cons_zero] at h0
    simp only [mget] at h
    split at h
    · rename_i x
      have hx := h0.1.v_inv
      simp only [Instr.findNow]
      rw [hx]
      split at h
      · rename_i he
        cases h
        rw [he]
        exact .inr ⟨n, y, e.val, rfl, rfl, h0.2⟩
      · rename_i he
        rw [he]
        exact RE.find hr.tail h
      · cases h
    · cases h
theorem HR.mp {h : List (Option Blk)} (H : HR B w ρ D Z h) {id : Nat} {l : List (AV × AV)} (hb : h[id]? = some (some (.mp l))) : ∃ g es clock, ρ id = some g ∧ w.heap[g]? = some (.map es clock) ∧ RE w ρ D Z l es.toList := by
  obtain ⟨g, hg, es, clock, hc, h1, h2⟩ := H.live id _ hb
  refine ⟨g, es, clock, hg, hc, by simpa using h1, fun i hi => ?_⟩
  have := h2 i hi
  have e : es.toList.getD i default = es.getD i default := by
    have : i < es.size := by omega
    simp [Array.getD, this, List.getD_eq_getElem?_getD]
  rw [e]
  exact this
theorem RV.map_live {h : List (Option Blk)} (H : HR B w ρ D Z h) {id g : Nat} {b : Blk} {x : Value} (hb : h[id]? = some (some b)) (hg : ρ id = some g) (hx : RV w ρ D Z (.map id) x) : x = .map (some g) := by
  rcases hx.map_inv with hd | ⟨g', hg', rfl⟩
  · exact absurd hd (H.not_dead hb)
  · rw [hg] at hg'; cases hg'; rfl
end

def zvA (P : Program) (t : TypeId) : Option AV := ((P.info? t).bind (·.zero)).map AV.ofV
theorem run_zvA {P : Program} {w : World} {t : TypeId} {z : AV} (h : zvA P t = some z) : ∃ v, (zeroValue t).run P w = .ok v w ∧ AV.ofV v = z := by
  unfold zvA at h
  cases hi : P.info? t with
  | none => simp [hi] at h
  | some i =>
    cases hz : i.zero with
    | none => simp [hi, hz] at h
    | some v => exact ⟨v, by simp [zeroValue, typeInfo, hi, hz], by simpa [hi, hz] using h⟩
def gotA (z : AV) : Option (Nat × AV) → AV
  | some (_, y) => y
  | none => z
section
variable {P : Program} {B : Base} {w : World} {ρ : Nat → Option Nat} {D Z : Nat → Prop} {st : St} {a : Act} {K : AV → List (Option Blk) → Prop}
theorem out_makeMap (I : Inv B ρ D Z st a w) {t : TypeId} (hk : K (.map st.h.length) (st.h ++ [some (.mp [])])) : Out P B st a w K (do pure (.value (← Instr.makeMap t none))) := by
  have hst := I.h.alloc_step (.map #[] 0)
  refine ⟨_, _, rfl, _, .inl rfl, _, _, setρ ρ st.h.length (some w.heap.size), D, Z, hk, .map (by simp [setρ]), I.moved hst (I.h.alloc _ _ ⟨#[], 0, heap_new w _, rfl, fun i hi => by simp at hi⟩)⟩
theorem out_mapUpdate (I : Inv B ρ D Z st a w) {t kt e : TypeId} {d : TypeDesc} {m k v : Operand} {id : Nat} {l : List (AV × AV)} {kv : Value} (hm : st.get m = .map id) (hkv : st.get k = .v kv)
    (hb : st.h[id]? = some (some (.mp l))) (ht : mapOf P t = some (kt, e)) (hd : P.underlying kt = some d) (hg : mget d kv l 0 = some none) (ho : keyOk d kv = true)
    (hk : K (.v undef) (st.h.set id (some (.mp (l ++ [(st.get k, st.get v)]))))) : Out P B st a w K (do Instr.mapUpdate t (a.eval m) (a.eval k) (a.eval v); pure .skip) := by
  obtain ⟨g, es, clock, hr, hc, hE⟩ := I.h.mp hb
  have hmv := I.get m
  rw [hm] at hmv
  rw [hmv.map_live I.h hb hr]
  have hkk := I.get k
  rw [hkv] at hkk
  have hkx := hkk.v_inv
  have hvv := I.get v
  rw [hkx]
  have hf : Instr.findNow d kv es.toList 0 = some none := by
    rcases hE.find hg with ⟨_, h⟩ | ⟨i, y, v', h, _⟩
    · exact h
    · cases h
  have hset := HR.set_map (es' := es.push { key := kv, val := a.eval v, born := clock }) (clock' := clock + 1) I.h (l ++ [(st.get k, st.get v)]) hr hc (by
      have := hE.1
      simp at this ⊢
      exact this) (fun i hi => by
    have hl := hE.1
    by_cases hil : i < l.length
    · have := hE.2 i hil
      have hies : i < es.size := by simpa using (by rw [hl]; exact hil : i < es.toList.length)
      rw [show (l ++ [(st.get k, st.get v)]).getD i default = l.getD i default by simp [List.getD_eq_getElem?_getD, List.getElem?_append_left hil],
        show (es.push { key := kv, val := a.eval v, born := clock }).getD i default = es.toList.getD i default by
          simp [Array.getD, List.getD_eq_getElem?_getD, hies, show i < es.size + 1 by omega, Array.getElem_push]]
      exact this
    · have : i = l.length := by simp at hi; omega
      subst this
      have hes : l.length = es.size := by simpa using hl.symm
      rw [show (l ++ [(st.get k, st.get v)]).getD l.length default = (st.get k, st.get v) by simp [List.getD_eq_getElem?_getD],
        show (es.push { key := kv, val := a.eval v, born := clock }).getD l.length default = { key := kv, val := a.eval v, born := clock } by
          simp [Array.getD, hes, Array.getElem_push]]
      rw [hkv]
      exact ⟨.v _, hvv⟩)
  refine ⟨_, setObjW w g _, ?_, undef, .inr ⟨rfl, rfl⟩, _, _, ρ, D, Z, hk, .v _, I.moved (I.h.setm_step (.map (es.push { key := kv, val := a.eval v, born := clock }) (clock + 1)) hr hc) hset⟩
  unfold Instr.mapUpdate
  simp only [Sem.run_bind, run_underlying (und_map ht), Result.andThen, run_getMap hc, run_checkKey hd ho, Instr.findKey, run_underlying hd, hf, Sem.run_pure, run_setMap _ hc]
theorem out_lookup (I : Inv B ρ D Z st a w) {t kt e : TypeId} {d : TypeDesc} {m k : Operand} {id : Nat} {l : List (AV × AV)} {kv : Value} {r : Option (Nat × AV)} {z : AV} (c : Bool)
    (hm : st.get m = .map id) (hkv : st.get k = .v kv)
    (hb : st.h[id]? = some (some (.mp l))) (ht : mapOf P t = some (kt, e)) (hd : P.underlying kt = some d) (hg : mget d kv l 0 = some r) (ho : keyOk d kv = true) (hz : zvA P e = some z)
    (hk : K (if c then .tup [gotA z r, .v (.bool r.isSome)] else gotA z r) st.h) :
    Out P B st a w K (do pure (.value (← Instr.lookup t (a.eval m) (a.eval k) c))) := by
  obtain ⟨gb, es, clock, hr, hc, hE⟩ := I.h.mp hb
  have hmv := I.get m
  rw [hm] at hmv
  rw [hmv.map_live I.h hb hr]
  have hkk := I.get k
  rw [hkv] at hkk
  rw [hkk.v_inv]
  obtain ⟨zv, hzr, hzl⟩ := run_zvA (w := w) hz
  have key : ∃ v, RV w ρ D Z (gotA z r) v ∧ (Instr.lookup t (.map (some gb)) kv c).run P w = .ok (if c then .tuple #[v, .bool r.isSome] else v) w := by
    rcases hE.find hg with ⟨rfl, hf⟩ | ⟨i, y, v, rfl, hf, hv⟩
    · refine ⟨zv, hzl ▸ RV.ofV zv, ?_⟩
      unfold Instr.lookup
      simp only [Sem.run_bind, run_underlying (und_map ht), Result.andThen, run_getMap hc, run_checkKey hd ho, Instr.findKey, run_underlying hd, hf, Sem.run_pure, hzr]
      rfl
    · refine ⟨v, hv, ?_⟩
      unfold Instr.lookup
      simp only [Sem.run_bind, run_underlying (und_map ht), Result.andThen, run_getMap hc, run_checkKey hd ho, Instr.findKey, run_underlying hd, hf, Sem.run_pure]
      rfl
  obtain ⟨v, hv, hrun⟩ := key
  refine Out.same I (v := if c then .tuple #[v, .bool r.isSome] else v) ?_ ?_ hk
  · rw [Sem.run_bind, hrun]; rfl
  · cases c with
    | false => simpa using hv
    | true =>
      simp only [if_true]
      refine .tup rfl fun i hi => ?_
      match i, hi with
      | 0, _ => exact hv
      | 1, _ => exact .v _
end

/-! ### Bytes as a string -/
/-- A list of bytes as a string. -/
def bs (l : List UInt8) : ByteArray := ⟨l.toArray⟩
def bytesA : List AV → Option (List UInt8)
  | [] => some []
  | a :: l => match a with
    | .v (.int .u8 n) => (bytesA l).map (UInt8.ofNat n.toNat :: ·)
    | _ => none
theorem bytesA_sound {w : World} {ρ : Nat → Option Nat} {D Z : Nat → Prop} : ∀ {l : List AV} {r : List UInt8} {vs : List Value}, bytesA l = some r → vs.length = l.length → (∀ i, i < l.length → RV w ρ D Z (l.getD i .junk) (vs.getD i undef)) →
    ∃ ns : List Int, vs = ns.map (Value.int .u8) ∧ r = ns.map fun n => UInt8.ofNat n.toNat
  | [], r, vs, h, hl, _ => by
    simp only [bytesA, Option.some.injEq] at h
    subst h
    have : vs = [] := List.eq_nil_of_length_eq_zero (by simpa using hl)
    subst this
    exact ⟨[], rfl, rfl⟩
  | a :: l, r, [], h, hl, _ => by simp at hl
  | a :: l, r, x :: vs, h, hl, hv => by
    simp only [bytesA] at h
    split at h
    · rename_i n
      have h0 := hv 0 (by simp)
      simp only [List.getD_cons_zero] at h0
      have hx := h0.v_inv
      cases hb : bytesA l with
      | none => rw [hb] at h; cases h
      | some r' =>
        rw [hb] at h
        cases h
        obtain ⟨ns, e1, e2⟩ := bytesA_sound hb (by simpa using hl) (fun i hi => by have := hv (i + 1) (by simpa using hi); simpa using this)
        exact ⟨n :: ns, by rw [hx, e1]; rfl, by rw [e2]; rfl⟩
    · cases h
theorem foldl_push (ns : List Int) : ∀ s : ByteArray, ns.foldl (fun r n => r.push (UInt8.ofNat n.toNat)) s = s ++ bs (ns.map fun n => UInt8.ofNat n.toNat) := by
  induction ns with
  | nil => intro s; apply ByteArray.ext; simp [bs]
  | cons n ns ih =>
    intro s
    rw [List.foldl_cons, ih]
    apply ByteArray.ext
    simp [bs, ByteArray.push]
def isBytesTo (P : Program) (s d : TypeId) : Bool := match slOf P s with
  | some e => match P.underlying e, P.underlying d with
    | some (.int .u8), some .string => true
    | _, _ => false
  | none => false
section
variable {P : Program} {B : Base} {w : World} {ρ : Nat → Option Nat} {D Z : Nat → Prop} {st : St} {a : Act} {K : AV → List (Option Blk) → Prop}
theorem out_bytes (I : Inv B ρ D Z st a w) {s d : TypeId} {x : Operand} {id off len : Nat} {e : TypeId} {es : List AV} {r : List UInt8} (hx : st.get x = .sl id 1 off len) (hb : st.h[id]? = some (some (.row e 1 es)))
    (ht : isBytesTo P s d = true) (hl : off + len ≤ es.length) (hr : bytesA ((es.drop off).take len) = some r) (hk : K (.v (.string (bs r))) st.h) :
    Out P B st a w K (do pure (.value (← convert s d (a.eval x)))) := by
  obtain ⟨g, c, fr, hro, hcc, _, hcl, hs, hv⟩ := I.h.row hb
  have hxv := I.get x
  rw [hx] at hxv
  obtain ⟨cap, e1, _, hlc, _⟩ := hxv.sl_live I.h hb hro
  rw [e1]
  unfold isBytesTo at ht
  split at ht
  · rename_i e' hse
    split at ht
    · rename_i hu1 hu2
      have hlen : ((es.drop off).take len).length = len := by simp; omega
      obtain ⟨ns, h1, h2⟩ := bytesA_sound (w := w) (ρ := ρ) (D := D) (Z := Z) (vs := (List.range len).map fun k => c.getD (off + k) undef) hr (by rw [hlen]; simp) (fun i hi => by
        rw [hlen] at hi
        have h3 := (hv (off + i) 0 (by omega) (by omega)).1
        have h4 := hs (off + i) (by omega)
        rw [show ((es.drop off).take len).getD i .junk = es.getD (off + i) .junk by simp [List.getD_eq_getElem?_getD, hi],
          show ((List.range len).map fun k => c.getD (off + k) undef).getD i undef = c.getD (off + i) undef by simp [List.getD_eq_getElem?_getD, hi]]
        simp only [Nat.mul_one, Nat.add_zero] at h3
        have h5 : (es.getD (off + i) .junk).cellAt 0 = es.getD (off + i) .junk := by
          have hby : ∃ n, es.getD (off + i) .junk = .v (.int .u8 n) := by
            have key : ∀ (l : List AV) (r : List UInt8) (i : Nat), bytesA l = some r → i < l.length → ∃ n, l.getD i .junk = .v (.int .u8 n) := by
              intro l
              induction l with
              | nil => intro r i _ hi; simp at hi
              | cons a l ih =>
                intro r i h hi
                simp only [bytesA] at h
                split at h
                · rename_i n
                  cases i with
                  | zero => exact ⟨n, rfl⟩
                  | succ i =>
                    cases hb' : bytesA l with
                    | none => rw [hb'] at h; cases h
                    | some r' => rw [List.getD_cons_succ]; exact ih r' i hb' (by simpa using hi)
                · cases h
            obtain ⟨n, hn⟩ := key _ _ i hr (by rw [hlen]; exact hi)
            rw [show ((es.drop off).take len).getD i .junk = es.getD (off + i) .junk by simp [List.getD_eq_getElem?_getD, hi]] at hn
            exact ⟨n, hn⟩
          obtain ⟨n, hn⟩ := hby
          rw [hn]
          rfl
        rw [h5] at h3
        exact h3)
      have hload : (loadCells ⟨g, off * 1, none⟩ len).run P w = .ok ((List.range len).map fun k => c.getD (off + k) undef).toArray w := by
        have := run_loadCells_list (P := P) (w := w) ⟨g, off * 1, none⟩ ((List.range len).map fun k => c.getD (off + k) undef) (fun j v hj => by
          have hjl : j < len := by have := (List.getElem?_eq_some_iff.1 hj).1; simpa using this
          simp [hjl] at hj
          rw [Addr.add_plain, Nat.mul_one, ← hj]
          have := hcl
          rw [cell_row hcc (by omega)]
          simp [Array.getD_eq_getD_getElem?])
        simpa using this
      refine Out.same I (v := .string (bs r)) ?_ (.v _) hk
      rw [Sem.run_bind, run_convert_bytes_string w s d e' _ _ _ (und_sl hse) hu1 hu2, run_bytesToString w _ _ _ ns (by rw [hload, h1])]
      rw [foldl_push, ← h2]
      have : ByteArray.empty ++ bs r = bs r := by apply ByteArray.ext; simp
      rw [this]
      rfl
    · cases ht
  · cases ht
end

/-! ### A string as bytes; bytes as a string without a copy -/
def byA (l : List UInt8) : List AV := l.map fun b => .v (.int .u8 b.toNat)
theorem byA_eq (l : List UInt8) : (l.map fun b => AV.v (.int .u8 b.toNat)) = byA l := rfl
theorem byA_app (l m : List UInt8) : byA l ++ byA m = byA (l ++ m) := by simp [byA]
theorem byA_len (l : List UInt8) : (byA l).length = l.length := by simp [byA]
theorem byA_ren (f : Nat → Option Nat) (l : List UInt8) : AV.renL f (byA l) = byA l := by
  rw [AV.renL_eq, byA, List.map_map]
  exact List.map_congr_left fun b _ => by simp [AV.ren]
theorem byA_take (l : List UInt8) (n : Nat) : (byA l).take n = byA (l.take n) := by simp [byA, List.map_take]
theorem byA_get (l : List UInt8) (i : Nat) (h : i < l.length) : (byA l).getD i .junk = .v (.int .u8 (l.getD i 0).toNat) := by simp [byA, List.getD_eq_getElem?_getD, h]
def bytesB : List AV → Option (List UInt8)
  | [] => some []
  | a :: l => match a with
    | .v (.int .u8 n) => if 0 ≤ n ∧ n < 256 then (bytesB l).map (UInt8.ofNat n.toNat :: ·) else none
    | _ => none
theorem bytesB_byA (l : List UInt8) : bytesB (byA l) = some l := by
  induction l with
  | nil => rfl
  | cons c l ih =>
    show (if 0 ≤ ((c.toNat : Nat) : Int) ∧ ((c.toNat : Nat) : Int) < 256 then (bytesB (byA l)).map (UInt8.ofNat ((c.toNat : Nat) : Int).toNat :: ·) else none) = _
    have := c.toNat_lt
    rw [if_pos ⟨by omega, by omega⟩, ih]
    simp
theorem bytesB_eq : ∀ {l : List AV} {r : List UInt8}, bytesB l = some r → l = byA r
  | [], r, h => by simp only [bytesB, Option.some.injEq] at h; subst h; rfl
  | a :: l, r, h => by
    simp only [bytesB] at h
    split at h
    · rename_i n
      split at h
      · rename_i hn
        cases hb : bytesB l with
        | none => rw [hb] at h; cases h
        | some r' =>
          rw [hb] at h
          cases h
          rw [bytesB_eq hb]
          show _ = AV.v (.int .u8 ((UInt8.ofNat n.toNat).toNat : Nat)) :: byA r'
          rw [UInt8.toNat_ofNat']
          congr 3
          omega
      · cases h
    · cases h
def isStrTo (P : Program) (s : TypeId) (e : TypeId) : Bool := match P.underlying s, P.underlying e with
  | some .string, some (.int .u8) => true
  | _, _ => false
theorem bytesWorld_eq (w : World) (e : TypeId) (s : ByteArray) : Go.Lib.bytesWorld w e s = w.drew.alloc (.cells (Go.Lib.bytesCells w e s) e ((Go.Lib.bytesCells w e s).size, (Go.Lib.bytesCells w e s).size + 1)) := by
  have ext : ∀ a b : World, a.heap = b.heap → a.tape = b.tape → a.drawn = b.drawn → a.os = b.os → a.output = b.output → a = b := by
    rintro ⟨_, _, _, _, _⟩ ⟨_, _, _, _, _⟩ h1 h2 h3 h4 h5
    simp only at h1 h2 h3 h4 h5
    subst h1 h2 h3 h4 h5
    rfl
  unfold Go.Lib.bytesWorld
  generalize Go.Lib.bytesCells w e s = c
  refine ext _ _ ?_ rfl rfl rfl rfl
  apply Array.ext_getElem?
  intro k
  show (Array.modify (w.drew.heap.push _) _ _)[k]? = (w.drew.heap.push _)[k]?
  have hs : w.drew.heap.size = w.heap.size := rfl
  rw [Array.getElem?_modify, Array.getElem?_push, Array.getElem?_push]
  by_cases hk : k = w.heap.size
  · subst hk
    simp [hs]
  · simp [hs, hk, Ne.symm hk]

section
variable {B : Base} {w : World} {ρ : Nat → Option Nat} {D Z : Nat → Prop} {h : List (Option Blk)}
/-- A block that nothing speaks of is changed. -/
theorem HR.touch (H : HR B w ρ D Z h) {w' : World} (g : Nat) (hg : ∀ id, ρ id ≠ some g) (hz : ¬ Z g) (ho : (∃ id0, B.ρ id0 = some g) ∨ B.w.heap.size ≤ g) (h1 : ∀ k, k ≠ g → w'.heap[k]? = w.heap[k]?)
    (h2 : w'.heap.size = w.heap.size) (h3 : w'.os = w.os) (h4 : w'.tape = w.tape) (h5 : w'.output = w.output) : Step w w' ρ ρ D D Z Z ∧ HR B w' ρ D Z h := by
  have hne : ∀ id k, ρ id = some k → k ≠ g := fun id k hr e => hg id (e ▸ hr)
  have s : Step w w' ρ ρ D D Z Z := ⟨fun _ _ h => .inl h, fun _ h => h, fun _ h => h, fun k hk => h1 k (fun e => hz (e ▸ hk)), fun id k c e fr hr _ hc => ⟨c, e, fr, by rw [h1 k (hne id k hr)]; exact hc, Nat.le_refl _⟩⟩
  refine ⟨s, ⟨fun id b hb => ?_, H.only, H.dead, H.inj, H.own, fun k hk => ⟨by rw [h2]; exact (H.z k hk).1, (H.z k hk).2⟩, fun k hk hn => ?_, h3.trans H.os, h4.trans H.tape, h5.trans H.output, by rw [h2]; exact H.size, ?_, H.zg⟩⟩
  · obtain ⟨k, hk, hr⟩ := H.live id b hb
    exact ⟨k, hk, hr.step s (h1 k (hne id k hk))⟩
  · rw [h1 k (fun e => ?_)]
    · exact H.fr k hk hn
    · subst e
      rcases ho with ⟨id0, h0⟩ | h0
      · exact hn id0 h0
      · omega
  · have t := H.step
    refine ⟨t.rho, t.dead, t.z, fun k hk => (s.zb k (t.z k hk)).trans (t.zb k hk), fun id k c e fr hr hr' hc => ?_⟩
    obtain ⟨c1, e1, fr1, hc1, hl1⟩ := t.cap id k c e fr hr hr' hc
    exact ⟨c1, e1, fr1, by rw [h1 k (hne id k hr')]; exact hc1, hl1⟩
end
section
variable {P : Program} {B : Base} {w : World} {ρ : Nat → Option Nat} {D Z : Nat → Prop} {st : St} {a : Act} {K : AV → List (Option Blk) → Prop}
theorem out_sbytes (I : Inv B ρ D Z st a w) {s d e : TypeId} {x : Operand} {b : ByteArray} (hx : st.get x = .v (.string b)) (hd : slOf P d = some e) (ht : isStrTo P s e = true) (hm : b.size ≤ 9223372036854775807)
    (hk : K (.sl st.h.length 1 0 b.size) (st.h ++ [some (.row e 1 (byA b.data.toList))])) : Out P B st a w K (do pure (.value (← convert s d (a.eval x)))) := by
  have hxv := I.get x
  rw [hx] at hxv
  rw [hxv.v_inv]
  unfold isStrTo at ht
  split at ht
  · rename_i hu1 hu2
    have hrun := Go.Lib.run_convert_string_bytes (P := P) w s d e b hu1 (und_sl hd) hu2
    rw [bytesWorld_eq] at hrun
    have hcs : (Go.Lib.bytesCells w e b).size = b.size + (grownCap w b.size 0 e - b.size) := by unfold Go.Lib.bytesCells; rw [Array.size_append, Array.size_map, Array.size_replicate]; rfl
    have hge := grownCap_ge w b.size 0 e
    have hgm := grownCap_le_maxLen w b.size 0 e (by unfold maxLen; omega)
    have hget : ∀ k, k < b.size → (Go.Lib.bytesCells w e b).getD k undef = .int .u8 (b.data.toList.getD k 0).toNat := fun k hk => by
      have hk' : k < b.data.size := hk
      simp only [Go.Lib.bytesCells, Array.getD_eq_getD_getElem?]
      rw [Array.getElem?_append_left (by simpa using hk')]
      simp [List.getD_eq_getElem?_getD]
      rw [Array.getElem?_eq_getElem hk']
      rfl
    generalize Go.Lib.bytesCells w e b = c at hrun hcs hget
    generalize grownCap w b.size 0 e = cap at hrun hcs hge hgm
    have H1 := I.h.drew
    have hst0 : Step w w.drew ρ ρ D D Z Z := Step.drew w ρ D Z
    have I1 : Inv B ρ D Z st a w.drew := ⟨I.n, fun m => (I.env m).step hst0, H1, I.bm, I.defers⟩
    have hst := H1.alloc_step (.cells c e (c.size, c.size + 1))
    have hdl : b.data.toList.length = b.size := rfl
    have hlen : (byA b.data.toList).length = b.size := by rw [byA_len]; exact hdl
    refine ⟨_, _, by rw [Sem.run_bind, hrun]; rfl, _, .inl rfl, _, _, setρ ρ st.h.length (some w.heap.size), D, Z, hk, ?_, I1.moved hst (H1.alloc _ _ ?_)⟩
    · have : (⟨w.heap.size, 0, none⟩ : Addr) = ⟨w.heap.size, 0 * 1, none⟩ := by simp
      rw [this]
      exact .sl (by simp [setρ]) ⟨c, e, _, heap_new w.drew _, by omega⟩ (by omega) hgm
    · refine ⟨c, (c.size, c.size + 1), heap_new w.drew _, .inr (Nat.le_refl _), by omega, fun i hi => ?_, fun i j hi hj => ?_⟩
      · rw [hlen] at hi
        rw [byA_get _ _ (by rw [hdl]; exact hi)]
        rfl
      · rw [hlen] at hi
        have : j = 0 := by omega
        subst this
        rw [byA_get _ _ (by rw [hdl]; exact hi), Nat.mul_one, show i + 0 = i from rfl, hget i hi]
        exact ⟨.v _, rfl⟩
  · cases ht
theorem out_sliceData (I : Inv B ρ D Z st a w) {x : Operand} {ts : Array TypeId} {ty : TypeId} {id sz off len : Nat} {b : Blk} (hx : st.get x = .sl id sz off len) (hb : st.h[id]? = some (some b)) (hl : 0 < len)
    (hk : K (.ptr id sz off 0) st.h) : Out P B st a w K (do pure (.value (← Builtin.unsafeSliceData_ ts ty #[a.eval x]))) := by
  obtain ⟨g, hr, _⟩ := I.h.live id _ hb
  have hxv := I.get x
  rw [hx] at hxv
  obtain ⟨cap, e1, _, hlc, _⟩ := hxv.sl_live I.h hb hr
  rw [e1]
  refine Out.same I (v := .pointer (some ⟨g, off * sz + 0, none⟩)) ?_ (.ptr hr) hk
  have hrun := Go.Lib.run_unsafeSliceData_row (P := P) (w := w) ts ty ⟨g, off * sz, none⟩ len cap (by omega)
  rw [Sem.run_bind, hrun]
  rfl
def ptrOf (P : Program) (t : TypeId) : Option TypeId := match P.underlying t with | some (.pointer e) => some e | _ => none
theorem out_unsafeString (I : Inv B ρ D Z st a w) {x y : Operand} {pt it ty e : TypeId} {id n : Nat} {es : List AV} {l : List UInt8} (hx : st.get x = .ptr id 1 0 0) (hy : st.get y = .v (.int .i64 n)) (hb : st.h[id]? = some (some (.row e 1 es)))
    (hp : ptrOf P pt = some e) (hc : P.cellsOf e = 1) (hl : bytesB (es.take n) = some l) (hn : n ≤ es.length) (h0 : 0 < n) (hm : n ≤ 9223372036854775807) (hk : K (.v (.string (bs l))) (st.h.set id none)) :
    Out P B st a w K (do pure (.value (← Builtin.unsafeString_ #[pt, it] ty #[a.eval x, a.eval y]))) := by
  obtain ⟨g, c, fr, hr, hcc, _, hcl, hs, hv⟩ := I.h.row hb
  have hxv := I.get x
  rw [hx] at hxv
  rw [hxv.ptr_live I.h hb hr]
  have hyv := I.get y
  rw [hy] at hyv
  rw [hyv.v_inv]
  have hes := bytesB_eq hl
  have hll : l.length = n := by
    have := congrArg List.length hes
    rw [byA_len, List.length_take] at this
    omega
  have hp' : P.underlying pt = some (.pointer e) := by
    unfold ptrOf at hp
    split at hp <;> simp_all
  have hrun := Go.Lib.run_unsafeString_row (P := P) w pt it ty e hp' hc g c.size (by simp [World.shape?, hcc]) l (by intro e; subst e; simp at hll; omega) (by omega) (by omega) (fun j x hj => by
    have hjl : j < l.length := (List.getElem?_eq_some_iff.1 hj).1
    have hjx : l.getD j 0 = x := by simp [List.getD_eq_getElem?_getD, hj]
    rw [Addr.add_plain, Nat.zero_add, cell_row hcc (by omega)]
    have h1 := (hv j 0 (by omega) (by omega)).1
    have h2 : es.getD j .junk = (es.take n).getD j .junk := by simp [List.getD_eq_getElem?_getD, show j < n by omega]
    rw [h2, hes, byA_get _ _ hjl, hjx] at h1
    simp only [Nat.mul_one, Nat.add_zero] at h1
    rw [h1.v_inv])
  rw [hll] at hrun
  have hkill := I.h.kill id
  have hks := I.h.kill_step id
  have hgz : ¬ Z g := fun hz => (I.h.z g hz).2 id hr
  obtain ⟨s2, H2⟩ := hkill.touch (w' := w.freeze ⟨g, 0, none⟩ n) g (fun i hi => by
    unfold setρ at hi
    split at hi
    · cases hi
    · rename_i hne; exact hne (I.h.inj i id g hi hr)) hgz (I.h.own id g hr) (fun k hk => by unfold World.freeze; rw [if_neg (by omega)]; simp [Array.getElem?_modify, Ne.symm hk]) (by unfold World.freeze; rw [if_neg (by omega)]; simp) (by unfold World.freeze; rw [if_neg (by omega)]) (by unfold World.freeze; rw [if_neg (by omega)]) (by unfold World.freeze; rw [if_neg (by omega)])
  have I1 : Inv B (setρ ρ id none) (fun i => D i ∨ (i = id ∧ id < st.h.length)) Z { st with h := st.h.set id none } a w := I.moved hks hkill
  refine ⟨_, w.freeze ⟨g, 0, none⟩ n, ?_, _, .inl rfl, _, _, _, _, Z, hk, .v _, I1.moved s2 H2⟩
  rw [Sem.run_bind]
  simp only [Nat.zero_mul, Nat.add_zero]
  rw [hrun]
  rfl
end
end Pm
end Go.Proofs.YtiipggfhjkalfaaDoor
