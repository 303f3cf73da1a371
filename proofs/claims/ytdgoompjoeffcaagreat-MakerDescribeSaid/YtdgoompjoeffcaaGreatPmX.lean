import Derived.Test.YtdgoompjoeffcaaGreatPmH
import Derived.Laws.BytesString
import Derived.Lib.ConvBytes
import Derived.Lib.UnsafeStr
import Derived.Laws.AppendOwn
/- PM, part X: maps by keys of one cell, bytes as strings. -/
namespace Go.Proofs.YtdgoompjoeffcaaGreat
namespace Pm

/-! ### A map is written -/
def setObjW (w : World) (g : Nat) (o : Obj) : World := { w with heap := w.heap.setIfInBounds g o }
theorem setObjW_other (w : World) (g k : Nat) (o : Obj) (h : k ≠ g) : (setObjW w g o).heap[k]? = w.heap[k]? := by
  simp only [setObjW, Array.getElem?_setIfInBounds]
  rw [if_neg (Ne.symm h)]
theorem setObjW_self {w : World} {g : Nat} {o0 : Obj} (o : Obj) (h : w.heap[g]? = some o0) : (setObjW w g o).heap[g]? = some o := by
  have := (Array.getElem?_eq_some_iff.1 h).1
  simp [setObjW, this]
theorem run_getMap {P : Program} {w : World} {r : Nat} {es : Array MapEntry} {clock : Nat} (hb : w.heap[r]? = some (.map es clock)) : (getObj r).run P w = .ok (.map es clock) w := by
  simp [getObj, Sem.run, hb]
theorem run_setMap {P : Program} {w : World} {r : Nat} {es : Array MapEntry} {clock : Nat} (o : Obj) (hb : w.heap[r]? = some (.map es clock)) : (setObj r o).run P w = .ok () (setObjW w r o) := by
  simp [setObj, Sem.run, hb, setObjW]
theorem setObjW_size (w : World) (g : Nat) (o : Obj) : (setObjW w g o).heap.size = w.heap.size := by simp [setObjW]

section
variable {B : Base} {w : World} {ρ : Nat → Option Nat} {D Z : Nat → Prop} {h : List (Option Blk)}
theorem HR.setm_step (H : HR B w ρ D Z h) {id g : Nat} {es : Array MapEntry} {clock : Nat} (o : Obj) (hr : ρ id = some g) (hc : w.heap[g]? = some (.map es clock)) :
    Step w (setObjW w g o) ρ ρ D D Z Z where
  rho _ _ hr := .inl hr
  dead _ hd := hd
  z _ hz := hz
  zb k hz := setObjW_other w g k o (fun e => (H.z k hz).2 id (e ▸ hr))
  cap id' g' d e' fr hr' _ hd := by
    by_cases eg : g' = g
    · subst eg
      rw [hc] at hd
      cases hd
    · exact ⟨d, e', fr, by rw [setObjW_other w g g' o eg]; exact hd, Nat.le_refl _⟩

theorem HR.set_map (H : HR B w ρ D Z h) {id g : Nat} {es es' : Array MapEntry} {clock clock' : Nat} (l : List (AV × AV)) (hr : ρ id = some g) (hc : w.heap[g]? = some (.map es clock))
    (h0 : Stamps es' clock') (h1 : es'.size = l.length) (h2 : ∀ i, i < l.length → RV w ρ D Z (l.getD i default).1 (es'.getD i default).key ∧ RV w ρ D Z (l.getD i default).2 (es'.getD i default).val) :
    HR B (setObjW w g (.map es' clock')) ρ D Z (h.set id (some (.mp l))) where
  live id' b' hb' := by
    have s := H.setm_step (.map es' clock') hr hc
    by_cases ei : id' = id
    · subst ei
      rw [List.getElem?_set_self (H.id_lt hr)] at hb'
      cases hb'
      exact ⟨g, hr, es', clock', setObjW_self _ hc, h0, h1, fun i hi => ⟨(h2 i hi).1.step s, (h2 i hi).2.step s⟩⟩
    · rw [List.getElem?_set_ne (Ne.symm ei)] at hb'
      obtain ⟨g', hg', hb⟩ := H.live id' b' hb'
      exact ⟨g', hg', hb.step s (setObjW_other w g g' _ (fun eg => ei (H.inj id' id g (eg ▸ hg') hr)))⟩
  only id' g' hr' := by
    by_cases ei : id' = id
    · subst ei; exact ⟨_, List.getElem?_set_self (H.id_lt hr)⟩
    · rw [List.getElem?_set_ne (Ne.symm ei)]; exact H.only id' g' hr'
  dead id' hd := by
    have ei : id' ≠ id := fun ei => by
      obtain ⟨b, hb⟩ := H.only id g hr
      exact H.not_dead hb (ei ▸ hd)
    rw [List.getElem?_set_ne (Ne.symm ei)]
    exact H.dead id' hd
  inj := H.inj
  own := H.own
  z k hz := ⟨by have := (H.z k hz).1; rw [setObjW_size]; exact this, (H.z k hz).2⟩
  fr k hk hn := by
    rw [setObjW_other w g k _ (fun ek => ?_)]
    · exact H.fr k hk hn
    · subst ek
      rcases H.own id k hr with ⟨id0, h0⟩ | h0
      · exact hn id0 h0
      · omega
  os := H.os
  tape := H.tape
  output := H.output
  size := by have := H.size; rw [setObjW_size]; exact this
  step := by
    have s := H.step
    have t := H.setm_step (.map es' clock') hr hc
    refine ⟨fun id g hr => ?_, fun id hd => t.dead _ (s.dead _ hd), fun k hz => t.z _ (s.z _ hz), fun k hz => (t.zb k (s.z k hz)).trans (s.zb k hz), fun id g c e fr hr hr' hc => ?_⟩
    · exact s.rho id g hr
    · obtain ⟨c1, e1, fr1, hc1, hl1⟩ := s.cap id g c e fr hr hr' hc
      obtain ⟨c2, e2, fr2, hc2, hl2⟩ := t.cap id g c1 e1 fr1 hr' hr' hc1
      exact ⟨c2, e2, fr2, hc2, Nat.le_trans hl1 hl2⟩
  zg := H.zg
end

/-! ### Keys -/
/-- Two keys compared. -/
def keyEq (P : Program) (kt : TypeId) (k a : AV) : Option Bool := match k, a with
  | .v x, .v y => match P.underlying kt with
    | some d => Instr.sameNow d x y
    | none => none
  | .agg xs, .agg ys => match eqOf P kt with
    | some l => eqL l xs ys
    | none => none
  | _, _ => none
/-- The place and the value of a key. -/
def mget (P : Program) (kt : TypeId) (k : AV) : List (AV × AV) → Nat → Option (Option (Nat × AV))
  | [], _ => some none
  | (a, y) :: es, i => match keyEq P kt k a with
    | some true => some (some (i, y))
    | some false => mget P kt k es (i + 1)
    | none => none
def keyOk (d : TypeDesc) (k : Value) : Bool := match d, k with
  | .string, .string _ => true
  | .int _, .int _ _ => true
  | .bool, .bool _ => true
  | _, _ => false
def plainFs (P : Program) : List Field → Nat → Bool
  | [], _ => true
  | f :: fs, n => (match P.underlying f.type with
    | some (.int _) => true
    | some .bool => true
    | _ => false) && (szOf P f.type == some 1) && decide (f.offset < n) && plainFs P fs n
/-- A value that may be a key. -/
def keyOkA (P : Program) (kt : TypeId) (k : AV) : Bool := match k with
  | .v x => match P.underlying kt with
    | some d => keyOk d x
    | none => false
  | .agg xs => match P.underlying kt with
    | some (.struct fs) => plainFs P fs.toList xs.length
    | _ => false
  | _ => false
def bitsV : List AV → Bool
  | [] => true
  | .v (.int _ _) :: l => bitsV l
  | .v (.bool _) :: l => bitsV l
  | _ => false
/-- A key whose bits are told. -/
def bitsOk : AV → Bool
  | .v (.int _ _) => true
  | .v (.bool _) => true
  | .v (.string _) => true
  | .agg xs => bitsV xs
  | _ => false
def mapOf (P : Program) (t : TypeId) : Option (TypeId × TypeId) := match P.underlying t with | some (.map k e) => some (k, e) | _ => none
theorem und_map {P : Program} {t k e : TypeId} (h : mapOf P t = some (k, e)) : P.underlying t = some (.map k e) := by
  unfold mapOf at h
  split at h <;> simp_all
theorem run_equal_agg {P : Program} {w : World} {ρ : Nat → Option Nat} {D Z : Nat → Prop} {t : TypeId} {cs ds : List AV} {l : List (Nat × Bool)} {b : Bool} {c e : Array Value} (hl : eqOf P t = some l) (hb : eqL l cs ds = some b)
    (hx : RV w ρ D Z (.agg cs) (.agg c)) (hy : RV w ρ D Z (.agg ds) (.agg e)) : (Op.equal t (.agg c) (.agg e)).run P w = .ok b w := by
  obtain ⟨c', e1, h1, h2⟩ := hx.agg_inv
  obtain ⟨e', e2, h3, h4⟩ := hy.agg_inv
  cases e1
  cases e2
  unfold eqOf at hl
  split at hl
  · rename_i fs hu
    split at hl
    · cases hl
    · rename_i hok
      simp only [Bool.or_eq_true, not_or, Bool.not_eq_true] at hok
      have hf : P.fieldsOf t = fs := by simp [Program.fieldsOf, hu]
      have hr : ∀ dd, (Op.equalIn (dd + 2) t (.agg c) (.agg e)).run P w = .ok b w := fun dd => by
        rw [run_equalIn_struct (P := P) w (dd + 1) t c e (by rw [hf]; exact hu) hok.1, hf]
        exact run_eqFields w ρ D Z h1 h3 h2 h4 fs.toList l b hl hb
      exact hr 9998
  · cases hl
theorem run_checkFields {P : Program} {w : World} (b : Bool) (n : Nat) (c : Array Value) : ∀ fs : List Field, plainFs P fs c.size = true →
    (forIn (m := Sem) fs PUnit.unit fun f _ => if f.name ≠ "_" then do
        Instr.checkKey b (n + 1) f.type (← part f.type c f.offset)
        pure (ForInStep.yield PUnit.unit)
      else pure (ForInStep.yield PUnit.unit)).run P w = .ok PUnit.unit w
  | [], _ => rfl
  | f :: fs, h => by
    simp only [plainFs, Bool.and_eq_true, decide_eq_true_eq, beq_iff_eq] at h
    obtain ⟨⟨⟨h1, h2⟩, h3⟩, h4⟩ := h
    have ih := run_checkFields (P := P) (w := w) b n c fs h4
    rw [List.forIn_cons, Sem.run_bind]
    have hp : aggOf P f.type = some false → (part f.type c f.offset).run P w = .ok (c.getD f.offset undef) w := fun hg => by
      have := run_part (P := P) (w := w) hg h2 (fun _ => rfl) c f.offset (by omega)
      simpa using this
    have key : (if f.name ≠ "_" then (do
        Instr.checkKey b (n + 1) f.type (← part f.type c f.offset)
        pure (ForInStep.yield PUnit.unit) : Sem (ForInStep PUnit))
      else pure (ForInStep.yield PUnit.unit)).run P w = .ok (ForInStep.yield PUnit.unit) w := by
      split
      · split at h1
        · rename_i k hu
          rw [Sem.run_bind, hp (by simp [aggOf, hu])]
          simp only [Result.andThen]
          rw [Sem.run_bind]
          unfold Instr.checkKey
          rw [Sem.run_bind, run_underlying hu]
          rfl
        · rename_i hu
          rw [Sem.run_bind, hp (by simp [aggOf, hu])]
          simp only [Result.andThen]
          rw [Sem.run_bind]
          unfold Instr.checkKey
          rw [Sem.run_bind, run_underlying hu]
          rfl
        · cases h1
      · rfl
    rw [key]
    exact ih
theorem run_checkKey {P : Program} {w : World} {ρ : Nat → Option Nat} {D Z : Nat → Prop} {t : TypeId} {k : AV} {kv : Value} (hk : keyOkA P t k = true) (hr : RV w ρ D Z k kv) (b : Bool) : (Instr.checkKey b 10000 t kv).run P w = .ok () w := by
  show (Instr.checkKey b (9998 + 1 + 1) t kv).run P w = .ok () w
  unfold keyOkA at hk
  split at hk
  · rename_i x
    have e := hr.v_inv
    subst e
    split at hk
    · rename_i d hd
      unfold Instr.checkKey
      rw [Sem.run_bind, run_underlying hd]
      unfold keyOk at hk
      split at hk <;> first | rfl | cases hk
    · cases hk
  · rename_i xs
    obtain ⟨c, rfl, hl, _⟩ := hr.agg_inv
    split at hk
    · rename_i fs hu
      unfold Instr.checkKey
      rw [Sem.run_bind, run_underlying hu]
      simp only [Result.andThen]
      rw [Sem.run_bind]
      have := run_checkFields (P := P) (w := w) b 9998 c fs.toList (by rw [← hl]; exact hk)
      rw [← Array.forIn_toList, this]
      rfl
    · cases hk
  · cases hk
section
variable {B : Base} {w : World} {ρ : Nat → Option Nat} {D Z : Nat → Prop} {P : Program}
/-- Entries and what they are. -/
def RE (w : World) (ρ : Nat → Option Nat) (D Z : Nat → Prop) (l : List (AV × AV)) (es : List MapEntry) : Prop :=
  es.length = l.length ∧ ∀ i, i < l.length → RV w ρ D Z (l.getD i default).1 (es.getD i default).key ∧ RV w ρ D Z (l.getD i default).2 (es.getD i default).val
theorem RE.tail {x : AV × AV} {l : List (AV × AV)} {e : MapEntry} {es : List MapEntry} (h : RE w ρ D Z (x :: l) (e :: es)) : RE w ρ D Z l es :=
  ⟨by have := h.1; simpa using this, fun i hi => by have := h.2 (i + 1) (by simpa using hi); simpa using this⟩
/-- What a search comes to. -/
def Found (w : World) (ρ : Nat → Option Nat) (D Z : Nat → Prop) (r : Option (Nat × AV)) (q : Option (Nat × Value)) : Prop :=
  (r = none ∧ q = none) ∨ ∃ i y v, r = some (i, y) ∧ q = some (i, v) ∧ RV w ρ D Z y v
theorem RE.find {kt : TypeId} {d : TypeDesc} {k : Value} (hd : P.underlying kt = some d) : ∀ {l : List (AV × AV)} {es : List MapEntry} {n : Nat} {r : Option (Nat × AV)}, RE w ρ D Z l es → mget P kt (.v k) l n = some r →
    ∃ q, Instr.findNow d k es n = some q ∧ Found w ρ D Z r q
  | [], [], n, r, _, h => by simp only [mget, Option.some.injEq] at h; subst h; exact ⟨none, rfl, .inl ⟨rfl, rfl⟩⟩
  | [], e :: es, n, r, hr, _ => by have := hr.1; simp at this
  | x :: l, [], n, r, hr, _ => by have := hr.1; simp at this
  | (a, y) :: l, e :: es, n, r, hr, h => by
    have h0 := hr.2 0 (by simp)
    simp only [List.getD_cons_zero] at h0
    simp only [mget] at h
    cases a
    case v x =>
      have hx := h0.1.v_inv
      simp only [keyEq, hd] at h
      simp only [Instr.findNow]
      rw [hx]
      split at h
      · rename_i he
        cases h
        rw [he]
        exact ⟨_, rfl, .inr ⟨n, y, e.val, rfl, rfl, h0.2⟩⟩
      · rename_i he
        rw [he]
        exact RE.find hd hr.tail h
      · cases h
    all_goals (simp only [keyEq] at h; cases h)
theorem RE.ask {kt : TypeId} {xs : List AV} {c : Array Value} {L : List (Nat × Bool)} (hL : eqOf P kt = some L) (hk : RV w ρ D Z (.agg xs) (.agg c)) : ∀ {l : List (AV × AV)} {es : List MapEntry} {n : Nat} {r : Option (Nat × AV)}, RE w ρ D Z l es → mget P kt (.agg xs) l n = some r →
    ∃ q, (Instr.findAsking kt (.agg c) es n).run P w = .ok q w ∧ Found w ρ D Z r q
  | [], [], n, r, _, h => by simp only [mget, Option.some.injEq] at h; subst h; exact ⟨none, rfl, .inl ⟨rfl, rfl⟩⟩
  | [], e :: es, n, r, hr, _ => by have := hr.1; simp at this
  | x :: l, [], n, r, hr, _ => by have := hr.1; simp at this
  | (a, y) :: l, e :: es, n, r, hr, h => by
    have h0 := hr.2 0 (by simp)
    simp only [List.getD_cons_zero] at h0
    simp only [mget] at h
    cases a
    case agg ys =>
      obtain ⟨c2, e2, _, _⟩ := h0.1.agg_inv
      simp only [keyEq, hL] at h
      have hq := h0.1
      rw [e2] at hq
      unfold Instr.findAsking
      rw [Sem.run_bind, e2]
      split at h
      · rename_i he
        cases h
        rw [run_equal_agg hL he hk hq]
        exact ⟨_, rfl, .inr ⟨n, y, e.val, rfl, rfl, h0.2⟩⟩
      · rename_i he
        rw [run_equal_agg hL he hk hq]
        obtain ⟨q, h1, h2⟩ := RE.ask hL hk (n := n + 1) hr.tail h
        exact ⟨q, h1, h2⟩
      · cases h
    all_goals (simp only [keyEq] at h; cases h)
theorem RE.key {kt : TypeId} {k : AV} {kv : Value} {l : List (AV × AV)} {es : List MapEntry} {r : Option (Nat × AV)} (hk : keyOkA P kt k = true) (hkv : RV w ρ D Z k kv) (hr : RE w ρ D Z l es) (h : mget P kt k l 0 = some r) :
    ∃ q, (Instr.findKey kt kv es).run P w = .ok q w ∧ Found w ρ D Z r q := by
  unfold keyOkA at hk
  split at hk
  · rename_i x
    have e := hkv.v_inv
    subst e
    split at hk
    · rename_i d hd
      obtain ⟨q, h1, h2⟩ := hr.find hd h
      refine ⟨q, ?_, h2⟩
      unfold Instr.findKey
      rw [Sem.run_bind, run_underlying hd]
      simp only [Result.andThen, h1]
      rfl
    · cases hk
  · rename_i xs
    obtain ⟨c, rfl, hl, _⟩ := hkv.agg_inv
    split at hk
    · rename_i fs hu
      unfold Instr.findKey
      rw [Sem.run_bind, run_underlying hu]
      simp only [Result.andThen]
      cases es with
      | nil =>
        cases l with
        | nil => simp only [mget, Option.some.injEq] at h; subst h; exact ⟨none, rfl, .inl ⟨rfl, rfl⟩⟩
        | cons x l => have := hr.1; simp at this
      | cons e es =>
        cases l with
        | nil => have := hr.1; simp at this
        | cons x l =>
          have hn : Instr.findNow (.struct fs) (.agg c) (e :: es) 0 = none := rfl
          rw [hn]
          cases hL : eqOf P kt with
          | none =>
            obtain ⟨a, y⟩ := x
            simp only [mget] at h
            cases a <;> simp only [keyEq, hL] at h <;> cases h
          | some L => exact RE.ask hL hkv hr h
    · cases hk
  · cases hk
theorem getD_toList (es : Array MapEntry) (i : Nat) (h : i < es.size) : es.toList.getD i default = es.getD i default := by
  simp [Array.getD, h, List.getD_eq_getElem?_getD]
theorem HR.mp {h : List (Option Blk)} (H : HR B w ρ D Z h) {id : Nat} {l : List (AV × AV)} (hb : h[id]? = some (some (.mp l))) : ∃ g es clock, ρ id = some g ∧ w.heap[g]? = some (.map es clock) ∧ Stamps es clock ∧ RE w ρ D Z l es.toList := by
  obtain ⟨g, hg, es, clock, hc, h0, h1, h2⟩ := H.live id _ hb
  refine ⟨g, es, clock, hg, hc, h0, by simpa using h1, fun i hi => ?_⟩
  rw [getD_toList es i (by omega)]
  exact h2 i hi
theorem RV.map_live {h : List (Option Blk)} (H : HR B w ρ D Z h) {id g : Nat} {b : Blk} {x : Value} (hb : h[id]? = some (some b)) (hg : ρ id = some g) (hx : RV w ρ D Z (.map id) x) : x = .map (some g) := by
  rcases hx.map_inv with hd | ⟨g', hg', rfl⟩
  · exact absurd hd (H.not_dead hb)
  · rw [hg] at hg'; cases hg'; rfl
end
theorem bitsV_eq {w : World} {ρ : Nat → Option Nat} {D Z : Nat → Prop} : ∀ {xs : List AV} {c d : List Value}, bitsV xs = true → c.length = xs.length → d.length = xs.length → (∀ i, i < xs.length → RV w ρ D Z (xs.getD i .junk) (c.getD i undef)) → (∀ i, i < xs.length → RV w ρ D Z (xs.getD i .junk) (d.getD i undef)) →
    c = d ∧ ∀ n, ((c.zip d).all fun (x, y) => Instr.sameBits n x y) = true
  | [], c, d, _, hc, hd, _, _ => by
    have h1 := List.eq_nil_of_length_eq_zero hc
    have h2 := List.eq_nil_of_length_eq_zero hd
    subst h1 h2
    exact ⟨rfl, fun _ => rfl⟩
  | a :: xs, [], d, _, hc, _, _, _ => by simp at hc
  | a :: xs, x :: c, [], _, _, hd, _, _ => by simp at hd
  | a :: xs, x :: c, y :: d, h, hc, hd, h1, h2 => by
    have a1 := h1 0 (by simp)
    have a2 := h2 0 (by simp)
    simp only [List.getD_cons_zero] at a1 a2
    have go : ∀ v, a = .v v → (∀ n, Instr.sameBits n v v = true) → bitsV xs = true → x :: c = y :: d ∧ ∀ n, (((x :: c).zip (y :: d)).all fun (x, y) => Instr.sameBits n x y) = true := fun v e hs hb => by
      subst e
      have ih := bitsV_eq hb (by simpa using hc) (by simpa using hd) (fun i hi => by have := h1 (i + 1) (by simpa using hi); simpa using this) (fun i hi => by have := h2 (i + 1) (by simpa using hi); simpa using this)
      rw [a1.v_inv, a2.v_inv, ih.1]
      refine ⟨rfl, fun n => ?_⟩
      have := ih.2 n
      rw [ih.1] at this
      simp only [List.zip_cons_cons, List.all_cons, hs, Bool.true_and]
      exact this
    unfold bitsV at h
    split at h
    · rename_i e; cases e
    · rename_i k n l e
      cases e
      exact go _ rfl (fun n => by cases n <;> simp [Instr.sameBits]) h
    · rename_i b l e
      cases e
      exact go _ rfl (fun n => by cases n <;> simp [Instr.sameBits]) h
    · cases h
theorem bits_same {w : World} {ρ : Nat → Option Nat} {D Z : Nat → Prop} {k : AV} {x y : Value} (h : bitsOk k = true) (hx : RV w ρ D Z k x) (hy : RV w ρ D Z k y) : x = y ∧ Instr.sameBits 10000 x y = true := by
  unfold bitsOk at h
  split at h
  · rw [hx.v_inv, hy.v_inv]; exact ⟨rfl, by simp [Instr.sameBits]⟩
  · rw [hx.v_inv, hy.v_inv]; exact ⟨rfl, by simp [Instr.sameBits]⟩
  · rw [hx.v_inv, hy.v_inv]
    refine ⟨rfl, ?_⟩
    show (_ == _) = true
    exact (MapKept.bytes_beq _ _).2 rfl
  · obtain ⟨c, rfl, hl1, h1⟩ := hx.agg_inv
    obtain ⟨d, rfl, hl2, h2⟩ := hy.agg_inv
    have key := bitsV_eq (c := c.toList) (d := d.toList) h (by simp [hl1]) (by simp [hl2]) (fun i hi => by
      have := h1 i hi
      have e : c.toList.getD i undef = c.getD i undef := by simp [Array.getD, show i < c.size by omega, List.getD_eq_getElem?_getD]
      rw [e]; exact this) (fun i hi => by
      have := h2 i hi
      have e : d.toList.getD i undef = d.getD i undef := by simp [Array.getD, show i < d.size by omega, List.getD_eq_getElem?_getD]
      rw [e]; exact this)
    have e : c = d := Array.toList_inj.1 key.1
    subst e
    refine ⟨rfl, ?_⟩
    show ((c.size == c.size) && _) = true
    simp only [beq_self_eq_true, Bool.true_and]
    exact key.2 9999
  · cases h

def zvA (P : Program) (t : TypeId) : Option AV := ((P.info? t).bind (·.zero)).map AV.ofV
theorem run_zvA {P : Program} {w : World} {t : TypeId} {z : AV} (h : zvA P t = some z) : ∃ v, (zeroValue t).run P w = .ok v w ∧ AV.ofV v = z := by
  unfold zvA at h
  cases hi : P.info? t with
  | none => simp [hi] at h
  | some i =>
    cases hz : i.zero with
    | none => simp [hi, hz] at h
    | some v => exact ⟨v, by simp [zeroValue, typeInfo, hi, hz], by simpa [hi, hz] using h⟩
def gotA (z : AV) : Option (Nat × AV) → AV
  | some (_, y) => y
  | none => z
theorem gotA_none {z : AV} : gotA z none = z := rfl
theorem gotA_some {z y : AV} {i : Nat} : gotA z (some (i, y)) = y := rfl
theorem stamps_push {es : Array MapEntry} {clock : Nat} (h : Stamps es clock) (key val : Value) : Stamps (es.push { key, val, born := clock }) (clock + 1) := by
  refine ⟨fun x hx => ?_, ?_⟩
  · simp only [Array.toList_push, List.mem_append, List.mem_singleton] at hx
    rcases hx with hx | rfl
    · have := h.1 x hx; omega
    · simp
  · simp only [Array.toList_push, List.map_append, List.map_cons, List.map_nil]
    rw [List.nodup_append]
    refine ⟨h.2, by simp, fun a ha b hb => ?_⟩
    obtain ⟨x, hx, rfl⟩ := List.mem_map.1 ha
    have := h.1 x hx
    simp only [List.mem_singleton] at hb
    omega
theorem stamps_sub {es es' : Array MapEntry} {clock : Nat} (h : Stamps es clock) (hs : es'.toList.Sublist es.toList) : Stamps es' clock := ⟨fun x hx => h.1 x (hs.subset hx), (hs.map _).nodup h.2⟩
theorem stamps_modify {es : Array MapEntry} {clock : Nat} (h : Stamps es clock) (i : Nat) (f : MapEntry → MapEntry) (hb : ∀ e, (f e).born = e.born) : Stamps (es.modify i f) clock := by
  have hborn : (es.modify i f).toList.map (·.born) = es.toList.map (·.born) := by
    apply List.ext_getElem?
    intro j
    simp only [List.getElem?_map, Array.getElem?_toList, Array.getElem?_modify]
    by_cases hij : i = j
    · subst hij
      cases he : es[i]? with
      | none => simp
      | some e => simp [hb e]
    · simp [hij]
  refine ⟨fun x hx => ?_, by rw [hborn]; exact h.2⟩
  have : x.born ∈ (es.modify i f).toList.map (·.born) := List.mem_map.2 ⟨x, hx, rfl⟩
  rw [hborn] at this
  obtain ⟨y, hy, e⟩ := List.mem_map.1 this
  rw [← e]
  exact h.1 y hy
section
variable {P : Program} {B : Base} {w : World} {ρ : Nat → Option Nat} {D Z : Nat → Prop} {st : St} {a : Act} {K : AV → List (Option Blk) → Prop}
theorem out_makeMap (I : Inv B ρ D Z st a w) {t : TypeId} (hk : K (.map st.h.length) (st.h ++ [some (.mp [])])) : Out P B st a w K (do pure (.value (← Instr.makeMap t none))) := by
  have hst := I.h.alloc_step (.map #[] 0)
  refine ⟨_, _, rfl, _, .inl rfl, _, _, setρ ρ st.h.length (some w.heap.size), D, Z, hk, .map (by simp [setρ]), I.moved hst (I.h.alloc _ _ ⟨#[], 0, heap_new w _, ⟨by simp, by simp⟩, rfl, fun i hi => by simp at hi⟩)⟩
/-- A key that is there has its value from now on; one that is not, comes last. -/
def mputR (k v : AV) (l : List (AV × AV)) : Option (Nat × AV) → List (AV × AV)
  | some (i, _) => l.set i (k, v)
  | none => l ++ [(k, v)]
theorem mget_lt {kt : TypeId} {k : AV} : ∀ {l : List (AV × AV)} {n i : Nat} {y : AV}, mget P kt k l n = some (some (i, y)) → n ≤ i ∧ i < n + l.length ∧ keyEq P kt k (l.getD (i - n) default).1 = some true
  | [], n, i, y, h => by simp [mget] at h
  | (a, x) :: l, n, i, y, h => by
    simp only [mget] at h
    split at h
    · rename_i he
      cases h
      exact ⟨Nat.le_refl _, by simp, by simpa using he⟩
    · have := mget_lt h
      refine ⟨by omega, by simp; omega, ?_⟩
      rw [show i - n = (i - (n + 1)) + 1 by omega, List.getD_cons_succ]
      exact this.2.2
    · cases h
theorem out_mapUpdate (I : Inv B ρ D Z st a w) {t kt e : TypeId} {m k v : Operand} {id : Nat} {l : List (AV × AV)} {r : Option (Nat × AV)} (hm : st.get m = .map id)
    (hb : st.h[id]? = some (some (.mp l))) (ht : mapOf P t = some (kt, e)) (hg : mget P kt (st.get k) l 0 = some r) (ho : keyOkA P kt (st.get k) = true) (hbit : bitsOk (st.get k) = true) (hsame : ∀ i y, r = some (i, y) → (l.getD i default).1 = st.get k)
    (hk : K (.v undef) (st.h.set id (some (.mp (mputR (st.get k) (st.get v) l r))))) : Out P B st a w K (do Instr.mapUpdate t (a.eval m) (a.eval k) (a.eval v); pure .skip) := by
  obtain ⟨g, es, clock, hr, hc, hst, hE⟩ := I.h.mp hb
  have hmv := I.get m
  rw [hm] at hmv
  rw [hmv.map_live I.h hb hr]
  have hkk := I.get k
  have hvv := I.get v
  have hel : es.size = l.length := by simpa using hE.1
  obtain ⟨q, hq, hf⟩ := hE.key ho hkk hg
  have hck := run_checkKey (P := P) ho hkk false
  rcases hf with ⟨rfl, rfl⟩ | ⟨i, y, v0, rfl, rfl, hy⟩
  · have hset := HR.set_map (es' := es.push { key := a.eval k, val := a.eval v, born := clock }) (clock' := clock + 1) I.h (l ++ [(st.get k, st.get v)]) hr hc (stamps_push hst _ _) (by simp [hel]) (fun i hi => by
      by_cases hil : i < l.length
      · have := hE.2 i hil
        have hies : i < es.size := by omega
        rw [show (l ++ [(st.get k, st.get v)]).getD i default = l.getD i default by simp [List.getD_eq_getElem?_getD, List.getElem?_append_left hil],
          show (es.push { key := a.eval k, val := a.eval v, born := clock }).getD i default = es.toList.getD i default by
            simp [Array.getD, List.getD_eq_getElem?_getD, hies, show i < es.size + 1 by omega, Array.getElem_push]]
        exact this
      · have : i = l.length := by simp at hi; omega
        subst this
        rw [show (l ++ [(st.get k, st.get v)]).getD l.length default = (st.get k, st.get v) by simp [List.getD_eq_getElem?_getD],
          show (es.push { key := a.eval k, val := a.eval v, born := clock }).getD l.length default = { key := a.eval k, val := a.eval v, born := clock } by
            simp [Array.getD, ← hel, Array.getElem_push]]
        exact ⟨hkk, hvv⟩)
    refine ⟨_, setObjW w g _, ?_, undef, .inr ⟨rfl, rfl⟩, _, _, ρ, D, Z, hk, .v _, I.moved (I.h.setm_step (.map (es.push { key := a.eval k, val := a.eval v, born := clock }) (clock + 1)) hr hc) hset⟩
    unfold Instr.mapUpdate
    simp only [Sem.run_bind, run_underlying (und_map ht), Result.andThen, run_getMap hc, hck, hq, Sem.run_pure, run_setMap _ hc]
  · obtain ⟨_, hil, _⟩ := mget_lt hg
    have hil' : i < l.length := by omega
    have hies : i < es.size := by omega
    have hold := (hE.2 i hil').1
    rw [hsame i y rfl, getD_toList es i hies] at hold
    have hei : es[i]? = some es[i] := Array.getElem?_eq_getElem hies
    have hgd : es.getD i default = es[i] := by simp [Array.getD, hies]
    rw [hgd] at hold
    obtain ⟨hee, hsb⟩ := bits_same hbit hold hkk
    have hset := HR.set_map (es' := es.modify i fun e => { e with key := a.eval k, val := a.eval v }) (clock' := clock) I.h (l.set i (st.get k, st.get v)) hr hc (stamps_modify hst i _ fun _ => rfl) (by simp [hel]) (fun j hj => by
      have hjl : j < l.length := by simpa using hj
      have hjs : j < es.size := by omega
      by_cases e : j = i
      · subst e
        rw [show (l.set j (st.get k, st.get v)).getD j default = (st.get k, st.get v) by simp [List.getD_eq_getElem?_getD, hjl],
          show (es.modify j fun e => { e with key := a.eval k, val := a.eval v }).getD j default = { es[j] with key := a.eval k, val := a.eval v } by
            simp [Array.getD, hjs, Array.getElem_modify]]
        exact ⟨hkk, hvv⟩
      · have := hE.2 j hjl
        rw [show (l.set i (st.get k, st.get v)).getD j default = l.getD j default by simp [List.getD_eq_getElem?_getD, Ne.symm e],
          show (es.modify i fun e => { e with key := a.eval k, val := a.eval v }).getD j default = es.toList.getD j default by
            simp [Array.getD, hjs, Array.getElem_modify, Ne.symm e, List.getD_eq_getElem?_getD]]
        exact this)
    refine ⟨_, setObjW w g _, ?_, undef, .inr ⟨rfl, rfl⟩, _, _, ρ, D, Z, hk, .v _, I.moved (I.h.setm_step (.map (es.modify i fun e => { e with key := a.eval k, val := a.eval v }) clock) hr hc) hset⟩
    unfold Instr.mapUpdate
    have hkt : (Instr.keyThatStays (((es[i]?).map (·.key)).getD (a.eval k)) (a.eval k)).run P w = .ok (a.eval k) w := by
      unfold Instr.keyThatStays
      rw [hei, Option.map_some, Option.getD_some, if_pos hsb]
      rfl
    simp only [Sem.run_bind, run_underlying (und_map ht), Result.andThen, run_getMap hc, hck, hq, hkt, Sem.run_pure, run_setMap _ hc]
theorem out_lookup (I : Inv B ρ D Z st a w) {t kt e : TypeId} {m k : Operand} {id : Nat} {l : List (AV × AV)} {r : Option (Nat × AV)} {z : AV} (c : Bool)
    (hm : st.get m = .map id) (hb : st.h[id]? = some (some (.mp l))) (ht : mapOf P t = some (kt, e)) (hg : mget P kt (st.get k) l 0 = some r) (ho : keyOkA P kt (st.get k) = true) (hz : zvA P e = some z)
    (hk : K (if c then .tup [gotA z r, .v (.bool r.isSome)] else gotA z r) st.h) :
    Out P B st a w K (do pure (.value (← Instr.lookup t (a.eval m) (a.eval k) c))) := by
  obtain ⟨gb, es, clock, hr, hc, _, hE⟩ := I.h.mp hb
  have hmv := I.get m
  rw [hm] at hmv
  rw [hmv.map_live I.h hb hr]
  have hkk := I.get k
  obtain ⟨zv, hzr, hzl⟩ := run_zvA (w := w) hz
  obtain ⟨q, hq, hf⟩ := hE.key ho hkk hg
  have hck := run_checkKey (P := P) ho hkk es.isEmpty
  have key : ∃ v, RV w ρ D Z (gotA z r) v ∧ (Instr.lookup t (.map (some gb)) (a.eval k) c).run P w = .ok (if c then .tuple #[v, .bool r.isSome] else v) w := by
    rcases hf with ⟨rfl, rfl⟩ | ⟨i, y, v, rfl, rfl, hv⟩
    · refine ⟨zv, hzl ▸ RV.ofV zv, ?_⟩
      unfold Instr.lookup
      simp only [Sem.run_bind, run_underlying (und_map ht), Result.andThen, run_getMap hc, hck, hq, Sem.run_pure, hzr]
      rfl
    · refine ⟨v, hv, ?_⟩
      unfold Instr.lookup
      simp only [Sem.run_bind, run_underlying (und_map ht), Result.andThen, run_getMap hc, hck, hq, Sem.run_pure]
      rfl
  obtain ⟨v, hv, hrun⟩ := key
  refine Out.same I (v := if c then .tuple #[v, .bool r.isSome] else v) ?_ ?_ hk
  · rw [Sem.run_bind, hrun]; rfl
  · cases c with
    | false => simpa using hv
    | true =>
      simp only [if_true]
      refine .tup rfl fun i hi => ?_
      match i, hi with
      | 0, _ => exact hv
      | 1, _ => exact .v _
end

/-! ### What else is done with maps -/
def mdelR (l : List (AV × AV)) : Option (Nat × AV) → List (AV × AV)
  | some (i, _) => l.eraseIdx i
  | none => l
theorem getD_eraseIdx {α : Type} [Inhabited α] (l : List α) (i j : Nat) : (l.eraseIdx i).getD j default = if j < i then l.getD j default else l.getD (j + 1) default := by
  simp only [List.getD_eq_getElem?_getD, List.getElem?_eraseIdx]
  split <;> rfl
section
variable {P : Program} {B : Base} {w : World} {ρ : Nat → Option Nat} {D Z : Nat → Prop} {st : St} {a : Act} {K : AV → List (Option Blk) → Prop}
theorem out_delete (I : Inv B ρ D Z st a w) {t kt e ty : TypeId} {ts : List TypeId} {m k : Operand} {id : Nat} {l : List (AV × AV)} {r : Option (Nat × AV)} (hm : st.get m = .map id)
    (hb : st.h[id]? = some (some (.mp l))) (ht : mapOf P t = some (kt, e)) (hg : mget P kt (st.get k) l 0 = some r) (ho : keyOkA P kt (st.get k) = true)
    (hk : K (.tup []) (st.h.set id (some (.mp (mdelR l r))))) : Out P B st a w K (do pure (.value (← Builtin.delete_ (t :: ts).toArray ty #[a.eval m, a.eval k]))) := by
  obtain ⟨g, es, clock, hr, hc, hst, hE⟩ := I.h.mp hb
  have hmv := I.get m
  rw [hm] at hmv
  rw [hmv.map_live I.h hb hr]
  have hkk := I.get k
  have hel : es.size = l.length := by simpa using hE.1
  obtain ⟨q, hq, hf⟩ := hE.key ho hkk hg
  have hck := run_checkKey (P := P) ho hkk es.isEmpty
  rcases hf with ⟨rfl, rfl⟩ | ⟨i, y, v0, rfl, rfl, hy⟩
  · have hset := HR.set_map (es' := es) (clock' := clock) I.h l hr hc hst (by omega) (fun j hj => by
      have := hE.2 j hj
      rw [getD_toList es j (by omega)] at this
      exact this)
    refine ⟨_, setObjW w g _, ?_, .tuple #[], .inl rfl, _, _, ρ, D, Z, hk, .tup rfl (fun i hi => by simp at hi), I.moved (I.h.setm_step (.map es clock) hr hc) hset⟩
    unfold Builtin.delete_
    simp only [List.getElem?_toArray, List.getElem?_cons_zero, List.getElem?_cons_succ, Sem.run_bind, run_underlying (und_map ht), Result.andThen, run_getMap hc, hck, hq, Sem.run_pure, run_setMap _ hc]
  · obtain ⟨_, hil, _⟩ := mget_lt hg
    have hil' : i < l.length := by omega
    have hies : i < es.size := by omega
    have het : (es.eraseIdxIfInBounds i).toList = es.toList.eraseIdx i := by
      unfold Array.eraseIdxIfInBounds
      rw [dif_pos hies]
      simp
    have hsz : (es.eraseIdxIfInBounds i).size = l.length - 1 := by
      have := congrArg List.length het
      rw [List.length_eraseIdx_of_lt (by simpa using hies), Array.length_toList, Array.length_toList] at this
      omega
    have hset := HR.set_map (es' := es.eraseIdxIfInBounds i) (clock' := clock) I.h (l.eraseIdx i) hr hc (stamps_sub hst (by rw [het]; exact List.eraseIdx_sublist _ _)) (by rw [hsz, List.length_eraseIdx_of_lt hil']) (fun j hj => by
      rw [List.length_eraseIdx_of_lt hil'] at hj
      rw [← getD_toList _ j (by rw [hsz]; exact hj), het, getD_eraseIdx, getD_eraseIdx]
      split
      · exact hE.2 j (by omega)
      · exact hE.2 (j + 1) (by omega))
    refine ⟨_, setObjW w g _, ?_, .tuple #[], .inl rfl, _, _, ρ, D, Z, hk, .tup rfl (fun i hi => by simp at hi), I.moved (I.h.setm_step (.map (es.eraseIdxIfInBounds i) clock) hr hc) hset⟩
    unfold Builtin.delete_
    simp only [List.getElem?_toArray, List.getElem?_cons_zero, List.getElem?_cons_succ, Sem.run_bind, run_underlying (und_map ht), Result.andThen, run_getMap hc, hck, hq, Sem.run_pure, run_setMap _ hc]
theorem out_lenMap (I : Inv B ρ D Z st a w) {t kt e ty : TypeId} {x : Operand} {id : Nat} {l : List (AV × AV)} (hx : st.get x = .map id) (hb : st.h[id]? = some (some (.mp l))) (ht : mapOf P t = some (kt, e))
    (hk : K (.v (.int .i64 l.length)) st.h) : Out P B st a w K (do pure (.value (← Builtin.len_ #[t] ty #[a.eval x]))) := by
  obtain ⟨g, es, clock, hr, hc, _, hE⟩ := I.h.mp hb
  have hmv := I.get x
  rw [hx] at hmv
  rw [hmv.map_live I.h hb hr]
  refine Out.same I (v := .int .i64 l.length) ?_ (.v _) hk
  have hel : es.size = l.length := by simpa using hE.1
  simp [Builtin.len_, run_underlying (und_map ht), run_getMap hc, goInt, hel]
theorem out_lenFmap (I : Inv B ρ D Z st a w) {t kt e ty : TypeId} {x : Operand} {ks vs : List AV} (hx : st.get x = .fmap ks vs) (ht : mapOf P t = some (kt, e))
    (hk : K (.v (.int .i64 ks.length)) st.h) : Out P B st a w K (do pure (.value (← Builtin.len_ #[t] ty #[a.eval x]))) := by
  have hmv := I.get x
  rw [hx] at hmv
  obtain ⟨g, clock, es, e1, _, hc, _, hel, _⟩ := hmv.fmap_inv
  rw [e1]
  refine Out.same I (v := .int .i64 ks.length) ?_ (.v _) hk
  simp [Builtin.len_, run_underlying (und_map ht), run_getMap hc, goInt, hel]
theorem re_fmap {w : World} {ρ : Nat → Option Nat} {D Z : Nat → Prop} {ks vs : List AV} {es : Array MapEntry} (hl : es.size = ks.length) (hl2 : vs.length = ks.length) (hk : ∀ i, i < ks.length → RV w ρ D Z (ks.getD i .junk) (es.getD i default).key)
    (hv : ∀ i, i < ks.length → RV w ρ D Z (vs.getD i .junk) (es.getD i default).val) : RE w ρ D Z (ks.zip vs) es.toList := by
  have hz : (ks.zip vs).length = ks.length := by simp [hl2]
  refine ⟨by rw [hz]; simpa using hl, fun i hi => ?_⟩
  rw [hz] at hi
  rw [getD_toList es i (by omega)]
  have e : (ks.zip vs).getD i default = (ks.getD i .junk, vs.getD i .junk) := by
    rw [List.getD_eq_getElem?_getD, List.getElem?_eq_getElem (show i < (ks.zip vs).length by omega)]
    simp [List.getD_eq_getElem?_getD, hi, show i < vs.length by omega]
  rw [e]
  exact ⟨hk i hi, hv i hi⟩
theorem out_lookupF (I : Inv B ρ D Z st a w) {t kt e : TypeId} {m k : Operand} {ks vs : List AV} {r : Option (Nat × AV)} {z : AV} (c : Bool)
    (hm : st.get m = .fmap ks vs) (ht : mapOf P t = some (kt, e)) (hg : mget P kt (st.get k) (ks.zip vs) 0 = some r) (ho : keyOkA P kt (st.get k) = true) (hz : zvA P e = some z)
    (hk : K (if c then .tup [gotA z r, .v (.bool r.isSome)] else gotA z r) st.h) :
    Out P B st a w K (do pure (.value (← Instr.lookup t (a.eval m) (a.eval k) c))) := by
  have hmv := I.get m
  rw [hm] at hmv
  obtain ⟨gb, clock, es, e1, _, hc, _, hel, hel2, hk1, hv1⟩ := hmv.fmap_inv
  rw [e1]
  have hE := re_fmap hel hel2 hk1 hv1
  have hkk := I.get k
  obtain ⟨zv, hzr, hzl⟩ := run_zvA (w := w) hz
  obtain ⟨q, hq, hf⟩ := hE.key ho hkk hg
  have hck := run_checkKey (P := P) ho hkk es.isEmpty
  have key : ∃ v, RV w ρ D Z (gotA z r) v ∧ (Instr.lookup t (.map (some gb)) (a.eval k) c).run P w = .ok (if c then .tuple #[v, .bool r.isSome] else v) w := by
    rcases hf with ⟨rfl, rfl⟩ | ⟨i, y, v, rfl, rfl, hv⟩
    · refine ⟨zv, hzl ▸ RV.ofV zv, ?_⟩
      unfold Instr.lookup
      simp only [Sem.run_bind, run_underlying (und_map ht), Result.andThen, run_getMap hc, hck, hq, Sem.run_pure, hzr]
      rfl
    · refine ⟨v, hv, ?_⟩
      unfold Instr.lookup
      simp only [Sem.run_bind, run_underlying (und_map ht), Result.andThen, run_getMap hc, hck, hq, Sem.run_pure]
      rfl
  obtain ⟨v, hv, hrun⟩ := key
  refine Out.same I (v := if c then .tuple #[v, .bool r.isSome] else v) ?_ ?_ hk
  · rw [Sem.run_bind, hrun]; rfl
  · cases c with
    | false => simpa using hv
    | true =>
      simp only [if_true]
      refine .tup rfl fun i hi => ?_
      match i, hi with
      | 0, _ => exact hv
      | 1, _ => exact .v _
end

/-! ### A map is gone through -/
theorem leftOf_nil (es : Array MapEntry) : leftOf es #[] = es := by
  unfold leftOf
  exact Array.filter_eq_self.2 fun x _ => by simp
theorem filter_eraseIdx : ∀ (l : List MapEntry) (j : Nat) (e : MapEntry), (l.map (·.born)).Nodup → l[j]? = some e → l.filter (fun x => !(x.born == e.born)) = l.eraseIdx j
  | [], j, e, _, h => by simp at h
  | x :: l, 0, e, hn, h => by
    simp only [List.getElem?_cons_zero, Option.some.injEq] at h
    subst h
    simp only [List.map_cons, List.nodup_cons] at hn
    rw [List.filter_cons, if_neg (by simp), List.eraseIdx_zero, List.tail_cons, List.filter_eq_self]
    intro y hy
    simp only [Bool.not_eq_true', beq_eq_false_iff_ne]
    intro e
    exact hn.1 (List.mem_map.2 ⟨y, hy, e⟩)
  | x :: l, j + 1, e, hn, h => by
    simp only [List.map_cons, List.nodup_cons] at hn
    have hm : l[j]? = some e := by simpa using h
    rw [List.filter_cons, if_pos, List.eraseIdx_cons_succ, filter_eraseIdx l j e hn.2 hm]
    simp only [Bool.not_eq_true', beq_eq_false_iff_ne]
    intro e2
    exact hn.1 (List.mem_map.2 ⟨e, List.mem_of_getElem? hm, e2.symm⟩)
theorem leftOf_push (es : Array MapEntry) (seen : Array Nat) (j : Nat) (hn : (es.toList.map (·.born)).Nodup) (hj : j < (leftOf es seen).size) :
    (leftOf es (seen.push (leftOf es seen)[j].born)).toList = (leftOf es seen).toList.eraseIdx j := by
  have hsub : (leftOf es seen).toList.Sublist es.toList := by unfold leftOf; rw [Array.toList_filter]; exact List.filter_sublist
  have hnl : ((leftOf es seen).toList.map (·.born)).Nodup := (hsub.map _).nodup hn
  have key := filter_eraseIdx (leftOf es seen).toList j (leftOf es seen)[j] hnl (by simp [hj])
  rw [← key]
  generalize (leftOf es seen)[j].born = b
  unfold leftOf
  simp only [Array.toList_filter, List.filter_filter]
  congr 1
  funext x
  simp only [Array.contains_push]
  cases (seen.contains x.born) <;> simp
section
variable {P : Program} {B : Base} {w : World} {ρ : Nat → Option Nat} {D Z : Nat → Prop} {h : List (Option Blk)}
theorem HR.seti_step (H : HR B w ρ D Z h) {id g : Nat} {o : Obj} (o' : Obj) (hr : ρ id = some g) (hc : w.heap[g]? = some o) (hn : ∀ c e fr, o ≠ .cells c e fr) : Step w (setObjW w g o') ρ ρ D D Z Z where
  rho _ _ hr := .inl hr
  dead _ hd := hd
  z _ hz := hz
  zb k hz := setObjW_other w g k o' (fun e => (H.z k hz).2 id (e ▸ hr))
  cap id' g' d e' fr hr' _ hd := by
    by_cases eg : g' = g
    · subst eg
      rw [hc] at hd
      cases hd
      exact absurd rfl (hn _ _ _)
    · exact ⟨d, e', fr, by rw [setObjW_other w g g' o' eg]; exact hd, Nat.le_refl _⟩
theorem HR.set_obj (H : HR B w ρ D Z h) {id g : Nat} {o o' : Obj} (b : Blk) (hr : ρ id = some g) (hc : w.heap[g]? = some o) (hn : ∀ c e fr, o ≠ .cells c e fr) (hb0 : RB (setObjW w g o') ρ D Z b g) :
    HR B (setObjW w g o') ρ D Z (h.set id (some b)) where
  live id' b' hb' := by
    have s := H.seti_step o' hr hc hn
    by_cases ei : id' = id
    · subst ei
      rw [List.getElem?_set_self (H.id_lt hr)] at hb'
      cases hb'
      exact ⟨g, hr, hb0⟩
    · rw [List.getElem?_set_ne (Ne.symm ei)] at hb'
      obtain ⟨g', hg', hb⟩ := H.live id' b' hb'
      exact ⟨g', hg', hb.step s (setObjW_other w g g' _ (fun eg => ei (H.inj id' id g (eg ▸ hg') hr)))⟩
  only id' g' hr' := by
    by_cases ei : id' = id
    · subst ei; exact ⟨_, List.getElem?_set_self (H.id_lt hr)⟩
    · rw [List.getElem?_set_ne (Ne.symm ei)]; exact H.only id' g' hr'
  dead id' hd := by
    have ei : id' ≠ id := fun ei => by
      obtain ⟨b, hb⟩ := H.only id g hr
      exact H.not_dead hb (ei ▸ hd)
    rw [List.getElem?_set_ne (Ne.symm ei)]
    exact H.dead id' hd
  inj := H.inj
  own := H.own
  z k hz := ⟨by have := (H.z k hz).1; rw [setObjW_size]; exact this, (H.z k hz).2⟩
  fr k hk hn := by
    rw [setObjW_other w g k _ (fun ek => ?_)]
    · exact H.fr k hk hn
    · subst ek
      rcases H.own id k hr with ⟨id0, h0⟩ | h0
      · exact hn id0 h0
      · omega
  os := H.os
  tape := H.tape
  output := H.output
  size := by have := H.size; rw [setObjW_size]; exact this
  step := by
    have s := H.step
    have t := H.seti_step o' hr hc hn
    refine ⟨fun id g hr => ?_, fun id hd => t.dead _ (s.dead _ hd), fun k hz => t.z _ (s.z _ hz), fun k hz => (t.zb k (s.z k hz)).trans (s.zb k hz), fun id g c e fr hr hr' hc => ?_⟩
    · exact s.rho id g hr
    · obtain ⟨c1, e1, fr1, hc1, hl1⟩ := s.cap id g c e fr hr hr' hc
      obtain ⟨c2, e2, fr2, hc2, hl2⟩ := t.cap id g c1 e1 fr1 hr' hr' hc1
      exact ⟨c2, e2, fr2, hc2, Nat.le_trans hl1 hl2⟩
  zg := H.zg
end
section
variable {P : Program} {B : Base} {w : World} {ρ : Nat → Option Nat} {D Z : Nat → Prop} {st : St} {a : Act} {K : AV → List (Option Blk) → Prop}
theorem out_range (I : Inv B ρ D Z st a w) {t kt e : TypeId} {x : Operand} {ks vs : List AV} (hx : st.get x = .fmap ks vs) (ht : mapOf P t = some (kt, e))
    (hk : K (.ptr st.h.length 0 0 0) (st.h ++ [some (.it [] ks vs)])) : Out P B st a w K (do pure (.value (← Instr.range t (a.eval x)))) := by
  have hmv := I.get x
  rw [hx] at hmv
  obtain ⟨g, clock, es, e1, hz, hc, hs, hel, hel2, hk1, hv1⟩ := hmv.fmap_inv
  rw [e1]
  have hst := I.h.alloc_step (.mapIter (some g) clock #[] clock)
  have hlt := (I.h.z g hz).1
  have hgm : (w.alloc (.mapIter (some g) clock #[] clock)).heap[g]? = some (.map es clock) := (World.heap_old w _ g hlt).trans hc
  refine ⟨_, _, by rw [Sem.run_bind, run_range_map w t kt e g es clock (und_map ht) hc]; rfl, _, .inl rfl, _, _, setρ ρ st.h.length (some w.heap.size), D, Z, hk, ?_, I.moved hst (I.h.alloc _ _ ?_)⟩
  · have : (⟨w.heap.size, 0, none⟩ : Addr) = ⟨w.heap.size, 0 * 0 + 0, none⟩ := rfl
    rw [this]
    exact .ptr (by simp [setρ])
  · exact ⟨g, clock, #[], clock, es, clock, heap_new w _, hz, hgm, hs, hs.1, Nat.le_refl _, rfl, by rw [leftOf_nil]; exact hel, hel2, fun i hi => by rw [leftOf_nil]; exact ⟨(hk1 i hi).step hst, (hv1 i hi).step hst⟩, .inl rfl⟩
theorem out_next (I : Inv B ρ D Z st a w) {x : Operand} {ty : TypeId} {id : Nat} {cur ks vs : List AV} (hx : st.get x = .ptr id 0 0 0) (hb : st.h[id]? = some (some (.it cur ks vs)))
    (h0 : ks = [] → K (.tup [.v (.bool false)]) st.h) (h1 : ∀ i, i < ks.length → K (.tup [.v (.bool true), ks.getD i .junk, vs.getD i .junk]) (st.h.set id (some (.it [ks.getD i .junk, vs.getD i .junk] (ks.eraseIdx i) (vs.eraseIdx i))))) :
    Out P B st a w K (do pure (.value (← Instr.next (a.eval x) false ty))) := by
  obtain ⟨g, hr, gm, since, seen, last, es, clock, hc, hz, hm, hst, hold, hsc, hlc, hsz, hl2, hkv, hcur⟩ := I.h.live id _ hb
  have hxv := I.get x
  rw [hx] at hxv
  have he := hxv.ptr_live I.h hb hr
  rw [he]
  subst hlc
  have hrun0 : (Instr.next (.pointer (some ⟨g, 0 * 0 + 0, none⟩)) false ty).run P w = (do
      let left := leftOf es seen
      let old := left.filter (·.born < since)
      let new := left.filter (·.born ≥ since)
      let candidates := (if old.isEmpty then #[none] else #[]) ++ (old ++ new).map some
      match candidates[← choose (.mapNext candidates.size)]? with
      | some (some e) =>
        setObj g (.mapIter (some gm) since (seen.push e.born) last)
        pure (.tuple #[.bool true, e.key, e.val])
      | some none => pure (.tuple #[.bool false])
      | none => stuck "Next: no such candidate" : Sem Value).run P w := by
    simp only [Instr.next, getObj, Sem.run_bind, Sem.run, hc, hm, Result.andThen, next_test_false seen es since last hold hsc, Bool.false_eq_true, if_false]
    rfl
  have hmem : ∀ y ∈ (leftOf es seen).toList, y.born < since := fun y hy => hold y (by unfold leftOf at hy; simp at hy ⊢; exact hy.1)
  generalize hL : leftOf es seen = L at hrun0 hmem hsz hkv
  have e1 : L.filter (fun x => decide (x.born < since)) = L := Array.filter_eq_self.2 (fun x hx => by simpa using hmem x (by simpa using hx))
  have e2 : L.filter (fun x => decide (x.born ≥ since)) = #[] := by
    rw [Array.filter_eq_empty_iff]
    intro x hx
    have := hmem x (by simpa using hx)
    simp
    omega
  simp only [e1, e2, Array.append_empty] at hrun0
  by_cases hL0 : L.size = 0
  · have hLe : L = #[] := Array.eq_empty_of_size_eq_zero hL0
    have hks : ks = [] := List.eq_nil_of_length_eq_zero (by omega)
    refine Out.same I (v := .tuple #[.bool false]) ?_ (.tup rfl fun i hi => ?_) (h0 hks)
    · rw [Sem.run_bind, hrun0, hLe]
      simp [choose, Sem.run, Question.forced]
    · match i, hi with
      | 0, _ => exact .v _
  · have hne : L.isEmpty = false := by simp [Array.isEmpty, hL0]
    simp only [hne, Bool.false_eq_true, if_false, Array.empty_append, Array.size_map] at hrun0
    have hch : ∃ (j : Nat) (w1 : World), j < L.size ∧ (w1 = w ∨ w1 = w.drew) ∧ (choose (Question.mapNext L.size)).run P w = .ok j w1 := by
      by_cases hf : L.size ≤ 1
      · exact ⟨0, w, by omega, .inl rfl, by simp [choose, Sem.run, Question.forced, hf]⟩
      · exact ⟨_, w.drew, Nat.mod_lt _ (by omega), .inr rfl, by
          simp only [choose, Sem.run, Question.forced, decide_eq_true_eq, hf, if_false, Question.cut]
          rfl⟩
    obtain ⟨j, w1, hj, hw1, hq⟩ := hch
    have hjk : j < ks.length := by omega
    have I1 : Inv B ρ D Z st a w1 ∧ w1.heap = w.heap := by
      rcases hw1 with rfl | rfl
      · exact ⟨I, rfl⟩
      · exact ⟨⟨I.n, fun m => (I.env m).step (Step.drew w ρ D Z), I.h.drew, I.bm, I.defers⟩, rfl⟩
    obtain ⟨I1, hh⟩ := I1
    have hc1 : w1.heap[g]? = some (.mapIter (some gm) since seen last) := by rw [hh]; exact hc
    have hLj : L.getD j default = L[j] := by simp [Array.getD, hj]
    have hset := I1.h.seti_step (.mapIter (some gm) since (seen.push L[j].born) last) hr hc1 (fun _ _ _ e => by cases e)
    have s01 : Step w w1 ρ ρ D D Z Z := by
      rcases hw1 with rfl | rfl
      · exact Step.refl _ _ _ _
      · exact Step.drew w ρ D Z
    have hkv1 : ∀ i, i < ks.length → RV (setObjW w1 g (.mapIter (some gm) since (seen.push L[j].born) last)) ρ D Z (ks.getD i .junk) (L.getD i default).key ∧ RV (setObjW w1 g (.mapIter (some gm) since (seen.push L[j].born) last)) ρ D Z (vs.getD i .junk) (L.getD i default).val :=
      fun i hi => ⟨((hkv i hi).1.step s01).step hset, ((hkv i hi).2.step s01).step hset⟩
    have hpush : (leftOf es (seen.push L[j].born)).toList = L.toList.eraseIdx j := by
      have := leftOf_push es seen j hst.2 (by rw [hL]; exact hj)
      simp only [hL] at this
      exact this
    have hpsz : (leftOf es (seen.push L[j].born)).size = ks.length - 1 := by
      have := congrArg List.length hpush
      rw [List.length_eraseIdx_of_lt (by simpa using hj), Array.length_toList, Array.length_toList] at this
      omega
    have hgm : g ≠ gm := fun e => (I.h.z gm hz).2 id (e ▸ hr)
    have hin : L[j] ∈ es.toList := by
      have : L[j] ∈ (leftOf es seen) := by rw [hL]; exact Array.getElem_mem hj
      unfold leftOf at this
      simp at this ⊢
      exact this.1
    have hRB : RB (setObjW w1 g (.mapIter (some gm) since (seen.push L[j].born) last)) ρ D Z (.it [ks.getD j .junk, vs.getD j .junk] (ks.eraseIdx j) (vs.eraseIdx j)) g := by
      refine ⟨gm, since, seen.push L[j].born, last, es, last, setObjW_self _ hc1, hz, by rw [setObjW_other _ _ _ _ hgm.symm, hh]; exact hm, hst, hold, hsc, rfl, ?_, ?_, fun i hi => ?_, .inr ⟨_, _, L[j], rfl, hin, by simp, ?_, ?_⟩⟩
      · rw [hpsz, List.length_eraseIdx_of_lt hjk]
      · rw [List.length_eraseIdx_of_lt (by omega), List.length_eraseIdx_of_lt hjk, hl2]
      · rw [List.length_eraseIdx_of_lt hjk] at hi
        rw [← getD_toList _ i (by omega), hpush, getD_eraseIdx]
        simp only [List.getD_eq_getElem?_getD, List.getElem?_eraseIdx]
        split
        · have := hkv1 i (by omega)
          rw [← getD_toList L i (by omega)] at this
          simpa only [List.getD_eq_getElem?_getD] using this
        · have := hkv1 (i + 1) (by omega)
          rw [← getD_toList L (i + 1) (by omega)] at this
          simpa only [List.getD_eq_getElem?_getD] using this
      · have := (hkv1 j hjk).1; rw [hLj] at this; exact this
      · have := (hkv1 j hjk).2; rw [hLj] at this; exact this
    refine ⟨.value (.tuple #[.bool true, L[j].key, L[j].val]), setObjW w1 g _, ?_, _, .inl rfl, _, _, ρ, D, Z, h1 j hjk, .tup rfl (fun i hi => ?_), I1.moved hset (HR.set_obj (o' := .mapIter (some gm) since (seen.push L[j].born) last) I1.h _ hr hc1 (fun _ _ _ e => by cases e) hRB)⟩
    · rw [Sem.run_bind, hrun0]
      rw [Sem.run_bind, hq]
      simp only [Result.andThen, Array.getElem?_map, Array.getElem?_eq_getElem hj, Option.map_some]
      rw [Sem.run_bind]
      have : (setObj g (.mapIter (some gm) since (seen.push L[j].born) last)).run P w1 = .ok () (setObjW w1 g (.mapIter (some gm) since (seen.push L[j].born) last)) := by
        simp [setObj, Sem.run, hc1, setObjW]
      rw [this]
      rfl
    · match i, hi with
      | 0, _ => exact .v _
      | 1, _ => have := (hkv1 j hjk).1; rw [hLj] at this; exact this
      | 2, _ => have := (hkv1 j hjk).2; rw [hLj] at this; exact this
theorem out_entry (I : Inv B ρ D Z st a w) {x : Operand} {id : Nat} {k v : AV} {ks vs : List AV} (hx : st.get x = .ptr id 0 0 0) (hb : st.h[id]? = some (some (.it [k, v] ks vs))) (hk : K (.tup [k, v]) st.h) :
    Out P B st a w K (do pure (.value (← Instr.entry (a.eval x)))) := by
  obtain ⟨g, hr, gm, since, seen, last, es, clock, hc, hz, hm, hst, hold, hsc, hlc, hsz, hl2, hkv, hcur⟩ := I.h.live id _ hb
  have hxv := I.get x
  rw [hx] at hxv
  rw [hxv.ptr_live I.h hb hr]
  rcases hcur with hcur | ⟨k', v', e, hcur, he, hback, hke, hve⟩
  · cases hcur
  cases hcur
  refine Out.same I (v := .tuple #[e.key, e.val]) ?_ (.tup rfl fun i hi => ?_) hk
  · have hf : es.find? (·.born == e.born) = some e := by
      rw [← Array.find?_toList]
      exact find_born e es.toList hst.2 he
    rw [Sem.run_bind]
    have : (Instr.entry (.pointer (some ⟨g, 0 * 0 + 0, none⟩))).run P w = .ok (.tuple #[e.key, e.val]) w := by
      simp only [Instr.entry, getObj, Sem.run_bind, Sem.run, hc, hm, Result.andThen, hback, hlc, hf]
      simp
    rw [this]
    rfl
  · match i, hi with
    | 0, _ => exact hke
    | 1, _ => exact hve
end

/-! ### Bytes as a string -/
/-- A list of bytes as a string. -/
def bs (l : List UInt8) : ByteArray := ⟨l.toArray⟩
def bytesA : List AV → Option (List UInt8)
  | [] => some []
  | a :: l => match a with
    | .v (.int .u8 n) => (bytesA l).map (UInt8.ofNat n.toNat :: ·)
    | _ => none
theorem bytesA_sound {w : World} {ρ : Nat → Option Nat} {D Z : Nat → Prop} : ∀ {l : List AV} {r : List UInt8} {vs : List Value}, bytesA l = some r → vs.length = l.length → (∀ i, i < l.length → RV w ρ D Z (l.getD i .junk) (vs.getD i undef)) →
    ∃ ns : List Int, vs = ns.map (Value.int .u8) ∧ r = ns.map fun n => UInt8.ofNat n.toNat
  | [], r, vs, h, hl, _ => by
    simp only [bytesA, Option.some.injEq] at h
    subst h
    have : vs = [] := List.eq_nil_of_length_eq_zero (by simpa using hl)
    subst this
    exact ⟨[], rfl, rfl⟩
  | a :: l, r, [], h, hl, _ => by simp at hl
  | a :: l, r, x :: vs, h, hl, hv => by
    simp only [bytesA] at h
    split at h
    · rename_i n
      have h0 := hv 0 (by simp)
      simp only [List.getD_cons_zero] at h0
      have hx := h0.v_inv
      cases hb : bytesA l with
      | none => rw [hb] at h; cases h
      | some r' =>
        rw [hb] at h
        cases h
        obtain ⟨ns, e1, e2⟩ := bytesA_sound hb (by simpa using hl) (fun i hi => by have := hv (i + 1) (by simpa using hi); simpa using this)
        exact ⟨n :: ns, by rw [hx, e1]; rfl, by rw [e2]; rfl⟩
    · cases h
theorem foldl_push (ns : List Int) : ∀ s : ByteArray, ns.foldl (fun r n => r.push (UInt8.ofNat n.toNat)) s = s ++ bs (ns.map fun n => UInt8.ofNat n.toNat) := by
  induction ns with
  | nil => intro s; apply ByteArray.ext; simp [bs]
  | cons n ns ih =>
    intro s
    rw [List.foldl_cons, ih]
    apply ByteArray.ext
    simp [bs, ByteArray.push]
def isBytesTo (P : Program) (s d : TypeId) : Bool := match slOf P s with
  | some e => match P.underlying e, P.underlying d with
    | some (.int .u8), some .string => true
    | _, _ => false
  | none => false
section
variable {P : Program} {B : Base} {w : World} {ρ : Nat → Option Nat} {D Z : Nat → Prop} {st : St} {a : Act} {K : AV → List (Option Blk) → Prop}
theorem out_bytes (I : Inv B ρ D Z st a w) {s d : TypeId} {x : Operand} {id off len : Nat} {e : TypeId} {es : List AV} {r : List UInt8} (hx : st.get x = .sl id 1 off len) (hb : st.h[id]? = some (some (.row e 1 es)))
    (ht : isBytesTo P s d = true) (hl : off + len ≤ es.length) (hr : bytesA ((es.drop off).take len) = some r) (hk : K (.v (.string (bs r))) st.h) :
    Out P B st a w K (do pure (.value (← convert s d (a.eval x)))) := by
  obtain ⟨g, c, fr, hro, hcc, _, hcl, hs, hv⟩ := I.h.row hb
  have hxv := I.get x
  rw [hx] at hxv
  obtain ⟨cap, e1, _, hlc, _⟩ := hxv.sl_live I.h hb hro
  rw [e1]
  unfold isBytesTo at ht
  split at ht
  · rename_i e' hse
    split at ht
    · rename_i hu1 hu2
      have hlen : ((es.drop off).take len).length = len := by simp; omega
      obtain ⟨ns, h1, h2⟩ := bytesA_sound (w := w) (ρ := ρ) (D := D) (Z := Z) (vs := (List.range len).map fun k => c.getD (off + k) undef) hr (by rw [hlen]; simp) (fun i hi => by
        rw [hlen] at hi
        have h3 := (hv (off + i) 0 (by omega) (by omega)).1
        have h4 := hs (off + i) (by omega)
        rw [show ((es.drop off).take len).getD i .junk = es.getD (off + i) .junk by simp [List.getD_eq_getElem?_getD, hi],
          show ((List.range len).map fun k => c.getD (off + k) undef).getD i undef = c.getD (off + i) undef by simp [List.getD_eq_getElem?_getD, hi]]
        simp only [Nat.mul_one, Nat.add_zero] at h3
        have h5 : (es.getD (off + i) .junk).cellAt 0 = es.getD (off + i) .junk := by
          have hby : ∃ n, es.getD (off + i) .junk = .v (.int .u8 n) := by
            have key : ∀ (l : List AV) (r : List UInt8) (i : Nat), bytesA l = some r → i < l.length → ∃ n, l.getD i .junk = .v (.int .u8 n) := by
              intro l
              induction l with
              | nil => intro r i _ hi; simp at hi
              | cons a l ih =>
                intro r i h hi
                simp only [bytesA] at h
                split at h
                · rename_i n
                  cases i with
                  | zero => exact ⟨n, rfl⟩
                  | succ i =>
                    cases hb' : bytesA l with
                    | none => rw [hb'] at h; cases h
                    | some r' => rw [List.getD_cons_succ]; exact ih r' i hb' (by simpa using hi)
                · cases h
            obtain ⟨n, hn⟩ := key _ _ i hr (by rw [hlen]; exact hi)
            rw [show ((es.drop off).take len).getD i .junk = es.getD (off + i) .junk by simp [List.getD_eq_getElem?_getD, hi]] at hn
            exact ⟨n, hn⟩
          obtain ⟨n, hn⟩ := hby
          rw [hn]
          rfl
        rw [h5] at h3
        exact h3)
      have hload : (loadCells ⟨g, off * 1, none⟩ len).run P w = .ok ((List.range len).map fun k => c.getD (off + k) undef).toArray w := by
        have := run_loadCells_list (P := P) (w := w) ⟨g, off * 1, none⟩ ((List.range len).map fun k => c.getD (off + k) undef) (fun j v hj => by
          have hjl : j < len := by have := (List.getElem?_eq_some_iff.1 hj).1; simpa using this
          simp [hjl] at hj
          rw [Addr.add_plain, Nat.mul_one, ← hj]
          have := hcl
          rw [cell_row hcc (by omega)]
          simp [Array.getD_eq_getD_getElem?])
        simpa using this
      refine Out.same I (v := .string (bs r)) ?_ (.v _) hk
      rw [Sem.run_bind, run_convert_bytes_string w s d e' _ _ _ (und_sl hse) hu1 hu2, run_bytesToString w _ _ _ ns (by rw [hload, h1])]
      rw [foldl_push, ← h2]
      have : ByteArray.empty ++ bs r = bs r := by apply ByteArray.ext; simp
      rw [this]
      rfl
    · cases ht
  · cases ht
end

/-! ### A string as bytes; bytes as a string without a copy -/
def byA (l : List UInt8) : List AV := l.map fun b => .v (.int .u8 b.toNat)
theorem byA_eq (l : List UInt8) : (l.map fun b => AV.v (.int .u8 b.toNat)) = byA l := rfl
theorem byA_app (l m : List UInt8) : byA l ++ byA m = byA (l ++ m) := by simp [byA]
theorem byA_len (l : List UInt8) : (byA l).length = l.length := by simp [byA]
theorem byA_ren (f : Nat → Option Nat) (l : List UInt8) : AV.renL f (byA l) = byA l := by
  rw [AV.renL_eq, byA, List.map_map]
  exact List.map_congr_left fun b _ => by simp [AV.ren]
theorem byA_take (l : List UInt8) (n : Nat) : (byA l).take n = byA (l.take n) := by simp [byA, List.map_take]
theorem byA_get (l : List UInt8) (i : Nat) (h : i < l.length) : (byA l).getD i .junk = .v (.int .u8 (l.getD i 0).toNat) := by simp [byA, List.getD_eq_getElem?_getD, h]
def bytesB : List AV → Option (List UInt8)
  | [] => some []
  | a :: l => match a with
    | .v (.int .u8 n) => if 0 ≤ n ∧ n < 256 then (bytesB l).map (UInt8.ofNat n.toNat :: ·) else none
    | _ => none
theorem bytesB_byA (l : List UInt8) : bytesB (byA l) = some l := by
  induction l with
  | nil => rfl
  | cons c l ih =>
    show (if 0 ≤ ((c.toNat : Nat) : Int) ∧ ((c.toNat : Nat) : Int) < 256 then (bytesB (byA l)).map (UInt8.ofNat ((c.toNat : Nat) : Int).toNat :: ·) else none) = _
    have := c.toNat_lt
    rw [if_pos ⟨by omega, by omega⟩, ih]
    simp
theorem bytesB_eq : ∀ {l : List AV} {r : List UInt8}, bytesB l = some r → l = byA r
  | [], r, h => by simp only [bytesB, Option.some.injEq] at h; subst h; rfl
  | a :: l, r, h => by
    simp only [bytesB] at h
    split at h
    · rename_i n
      split at h
      · rename_i hn
        cases hb : bytesB l with
        | none => rw [hb] at h; cases h
        | some r' =>
          rw [hb] at h
          cases h
          rw [bytesB_eq hb]
          show _ = AV.v (.int .u8 ((UInt8.ofNat n.toNat).toNat : Nat)) :: byA r'
          rw [UInt8.toNat_ofNat']
          congr 3
          omega
      · cases h
    · cases h
def isStrTo (P : Program) (s : TypeId) (e : TypeId) : Bool := match P.underlying s, P.underlying e with
  | some .string, some (.int .u8) => true
  | _, _ => false
theorem bytesWorld_eq (w : World) (e : TypeId) (s : ByteArray) : Go.Lib.bytesWorld w e s = w.drew.alloc (.cells (Go.Lib.bytesCells w e s) e ((Go.Lib.bytesCells w e s).size, (Go.Lib.bytesCells w e s).size + 1)) := by
  have ext : ∀ a b : World, a.heap = b.heap → a.tape = b.tape → a.drawn = b.drawn → a.os = b.os → a.output = b.output → a = b := by
    rintro ⟨_, _, _, _, _⟩ ⟨_, _, _, _, _⟩ h1 h2 h3 h4 h5
    simp only at h1 h2 h3 h4 h5
    subst h1 h2 h3 h4 h5
    rfl
  unfold Go.Lib.bytesWorld
  generalize Go.Lib.bytesCells w e s = c
  refine ext _ _ ?_ rfl rfl rfl rfl
  apply Array.ext_getElem?
  intro k
  show (Array.modify (w.drew.heap.push _) _ _)[k]? = (w.drew.heap.push _)[k]?
  have hs : w.drew.heap.size = w.heap.size := rfl
  rw [Array.getElem?_modify, Array.getElem?_push, Array.getElem?_push]
  by_cases hk : k = w.heap.size
  · subst hk
    simp [hs]
  · simp [hs, hk, Ne.symm hk]

section
variable {B : Base} {w : World} {ρ : Nat → Option Nat} {D Z : Nat → Prop} {h : List (Option Blk)}
/-- A block that nothing speaks of is changed. -/
theorem HR.touch (H : HR B w ρ D Z h) {w' : World} (g : Nat) (hg : ∀ id, ρ id ≠ some g) (hz : ¬ Z g) (ho : (∃ id0, B.ρ id0 = some g) ∨ B.w.heap.size ≤ g) (h1 : ∀ k, k ≠ g → w'.heap[k]? = w.heap[k]?)
    (h2 : w'.heap.size = w.heap.size) (h3 : w'.os = w.os) (h4 : w'.tape = w.tape) (h5 : w'.output = w.output) : Step w w' ρ ρ D D Z Z ∧ HR B w' ρ D Z h := by
  have hne : ∀ id k, ρ id = some k → k ≠ g := fun id k hr e => hg id (e ▸ hr)
  have s : Step w w' ρ ρ D D Z Z := ⟨fun _ _ h => .inl h, fun _ h => h, fun _ h => h, fun k hk => h1 k (fun e => hz (e ▸ hk)), fun id k c e fr hr _ hc => ⟨c, e, fr, by rw [h1 k (hne id k hr)]; exact hc, Nat.le_refl _⟩⟩
  refine ⟨s, ⟨fun id b hb => ?_, H.only, H.dead, H.inj, H.own, fun k hk => ⟨by rw [h2]; exact (H.z k hk).1, (H.z k hk).2⟩, fun k hk hn => ?_, h3.trans H.os, h4.trans H.tape, h5.trans H.output, by rw [h2]; exact H.size, ?_, H.zg⟩⟩
  · obtain ⟨k, hk, hr⟩ := H.live id b hb
    exact ⟨k, hk, hr.step s (h1 k (hne id k hk))⟩
  · rw [h1 k (fun e => ?_)]
    · exact H.fr k hk hn
    · subst e
      rcases ho with ⟨id0, h0⟩ | h0
      · exact hn id0 h0
      · omega
  · have t := H.step
    refine ⟨t.rho, t.dead, t.z, fun k hk => (s.zb k (t.z k hk)).trans (t.zb k hk), fun id k c e fr hr hr' hc => ?_⟩
    obtain ⟨c1, e1, fr1, hc1, hl1⟩ := t.cap id k c e fr hr hr' hc
    exact ⟨c1, e1, fr1, by rw [h1 k (hne id k hr')]; exact hc1, hl1⟩
end
section
variable {P : Program} {B : Base} {w : World} {ρ : Nat → Option Nat} {D Z : Nat → Prop} {st : St} {a : Act} {K : AV → List (Option Blk) → Prop}
theorem out_sbytes (I : Inv B ρ D Z st a w) {s d e : TypeId} {x : Operand} {b : ByteArray} (hx : st.get x = .v (.string b)) (hd : slOf P d = some e) (ht : isStrTo P s e = true) (hm : b.size ≤ 9223372036854775807)
    (hk : K (.sl st.h.length 1 0 b.size) (st.h ++ [some (.row e 1 (byA b.data.toList))])) : Out P B st a w K (do pure (.value (← convert s d (a.eval x)))) := by
  have hxv := I.get x
  rw [hx] at hxv
  rw [hxv.v_inv]
  unfold isStrTo at ht
  split at ht
  · rename_i hu1 hu2
    have hrun := Go.Lib.run_convert_string_bytes (P := P) w s d e b hu1 (und_sl hd) hu2
    rw [bytesWorld_eq] at hrun
    have hcs : (Go.Lib.bytesCells w e b).size = b.size + (grownCap w b.size 0 e - b.size) := by unfold Go.Lib.bytesCells; rw [Array.size_append, Array.size_map, Array.size_replicate]; rfl
    have hge := grownCap_ge w b.size 0 e
    have hgm := grownCap_le_maxLen w b.size 0 e (by unfold maxLen; omega)
    have hget : ∀ k, k < b.size → (Go.Lib.bytesCells w e b).getD k undef = .int .u8 (b.data.toList.getD k 0).toNat := fun k hk => by
      have hk' : k < b.data.size := hk
      simp only [Go.Lib.bytesCells, Array.getD_eq_getD_getElem?]
      rw [Array.getElem?_append_left (by simpa using hk')]
      simp [List.getD_eq_getElem?_getD]
      rw [Array.getElem?_eq_getElem hk']
      rfl
    generalize Go.Lib.bytesCells w e b = c at hrun hcs hget
    generalize grownCap w b.size 0 e = cap at hrun hcs hge hgm
    have H1 := I.h.drew
    have hst0 : Step w w.drew ρ ρ D D Z Z := Step.drew w ρ D Z
    have I1 : Inv B ρ D Z st a w.drew := ⟨I.n, fun m => (I.env m).step hst0, H1, I.bm, I.defers⟩
    have hst := H1.alloc_step (.cells c e (c.size, c.size + 1))
    have hdl : b.data.toList.length = b.size := rfl
    have hlen : (byA b.data.toList).length = b.size := by rw [byA_len]; exact hdl
    refine ⟨_, _, by rw [Sem.run_bind, hrun]; rfl, _, .inl rfl, _, _, setρ ρ st.h.length (some w.heap.size), D, Z, hk, ?_, I1.moved hst (H1.alloc _ _ ?_)⟩
    · have : (⟨w.heap.size, 0, none⟩ : Addr) = ⟨w.heap.size, 0 * 1, none⟩ := by simp
      rw [this]
      exact .sl (by simp [setρ]) ⟨c, e, _, heap_new w.drew _, by omega⟩ (by omega) hgm
    · refine ⟨c, (c.size, c.size + 1), heap_new w.drew _, .inr (Nat.le_refl _), by omega, fun i hi => ?_, fun i j hi hj => ?_⟩
      · rw [hlen] at hi
        rw [byA_get _ _ (by rw [hdl]; exact hi)]
        rfl
      · rw [hlen] at hi
        have : j = 0 := by omega
        subst this
        rw [byA_get _ _ (by rw [hdl]; exact hi), Nat.mul_one, show i + 0 = i from rfl, hget i hi]
        exact ⟨.v _, rfl⟩
  · cases ht
theorem out_sliceData (I : Inv B ρ D Z st a w) {x : Operand} {ts : Array TypeId} {ty : TypeId} {id sz off len : Nat} {b : Blk} (hx : st.get x = .sl id sz off len) (hb : st.h[id]? = some (some b)) (hl : 0 < len)
    (hk : K (.ptr id sz off 0) st.h) : Out P B st a w K (do pure (.value (← Builtin.unsafeSliceData_ ts ty #[a.eval x]))) := by
  obtain ⟨g, hr, _⟩ := I.h.live id _ hb
  have hxv := I.get x
  rw [hx] at hxv
  obtain ⟨cap, e1, _, hlc, _⟩ := hxv.sl_live I.h hb hr
  rw [e1]
  refine Out.same I (v := .pointer (some ⟨g, off * sz + 0, none⟩)) ?_ (.ptr hr) hk
  have hrun := Go.Lib.run_unsafeSliceData_row (P := P) (w := w) ts ty ⟨g, off * sz, none⟩ len cap (by omega)
  rw [Sem.run_bind, hrun]
  rfl
def ptrOf (P : Program) (t : TypeId) : Option TypeId := match P.underlying t with | some (.pointer e) => some e | _ => none
theorem out_unsafeString (I : Inv B ρ D Z st a w) {x y : Operand} {pt it ty e : TypeId} {id n : Nat} {es : List AV} {l : List UInt8} (hx : st.get x = .ptr id 1 0 0) (hy : st.get y = .v (.int .i64 n)) (hb : st.h[id]? = some (some (.row e 1 es)))
    (hp : ptrOf P pt = some e) (hc : P.cellsOf e = 1) (hl : bytesB (es.take n) = some l) (hn : n ≤ es.length) (h0 : 0 < n) (hm : n ≤ 9223372036854775807) (hk : K (.v (.string (bs l))) (st.h.set id none)) :
    Out P B st a w K (do pure (.value (← Builtin.unsafeString_ #[pt, it] ty #[a.eval x, a.eval y]))) := by
  obtain ⟨g, c, fr, hr, hcc, _, hcl, hs, hv⟩ := I.h.row hb
  have hxv := I.get x
  rw [hx] at hxv
  rw [hxv.ptr_live I.h hb hr]
  have hyv := I.get y
  rw [hy] at hyv
  rw [hyv.v_inv]
  have hes := bytesB_eq hl
  have hll : l.length = n := by
    have := congrArg List.length hes
    rw [byA_len, List.length_take] at this
    omega
  have hp' : P.underlying pt = some (.pointer e) := by
    unfold ptrOf at hp
    split at hp <;> simp_all
  have hrun := Go.Lib.run_unsafeString_row (P := P) w pt it ty e hp' hc g c.size (by simp [World.shape?, hcc]) l (by intro e; subst e; simp at hll; omega) (by omega) (by omega) (fun j x hj => by
    have hjl : j < l.length := (List.getElem?_eq_some_iff.1 hj).1
    have hjx : l.getD j 0 = x := by simp [List.getD_eq_getElem?_getD, hj]
    rw [Addr.add_plain, Nat.zero_add, cell_row hcc (by omega)]
    have h1 := (hv j 0 (by omega) (by omega)).1
    have h2 : es.getD j .junk = (es.take n).getD j .junk := by simp [List.getD_eq_getElem?_getD, show j < n by omega]
    rw [h2, hes, byA_get _ _ hjl, hjx] at h1
    simp only [Nat.mul_one, Nat.add_zero] at h1
    rw [h1.v_inv])
  rw [hll] at hrun
  have hkill := I.h.kill id
  have hks := I.h.kill_step id
  have hgz : ¬ Z g := fun hz => (I.h.z g hz).2 id hr
  obtain ⟨s2, H2⟩ := hkill.touch (w' := w.freeze ⟨g, 0, none⟩ n) g (fun i hi => by
    unfold setρ at hi
    split at hi
    · cases hi
    · rename_i hne; exact hne (I.h.inj i id g hi hr)) hgz (I.h.own id g hr) (fun k hk => by unfold World.freeze; rw [if_neg (by omega)]; simp [Array.getElem?_modify, Ne.symm hk]) (by unfold World.freeze; rw [if_neg (by omega)]; simp) (by unfold World.freeze; rw [if_neg (by omega)]) (by unfold World.freeze; rw [if_neg (by omega)]) (by unfold World.freeze; rw [if_neg (by omega)])
  have I1 : Inv B (setρ ρ id none) (fun i => D i ∨ (i = id ∧ id < st.h.length)) Z { st with h := st.h.set id none } a w := I.moved hks hkill
  refine ⟨_, w.freeze ⟨g, 0, none⟩ n, ?_, _, .inl rfl, _, _, _, _, Z, hk, .v _, I1.moved s2 H2⟩
  rw [Sem.run_bind]
  simp only [Nat.zero_mul, Nat.add_zero]
  rw [hrun]
  rfl
end
end Pm
end Go.Proofs.YtdgoompjoeffcaaGreat
