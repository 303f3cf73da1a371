import Derived.Test.YtdgoompjoeffcaaGreatPmE
import Derived.Laws.StructEq
/- PM, part F: literals, parts, slicing, lengths, scalars. -/
namespace Go.Proofs.YtdgoompjoeffcaaGreat
namespace Pm

/-! ### Scalars -/
def bitsA (op : BinOp) (k : IntKind) (x y : Int) : Int :=
  match op with
  | .and => k.wrap (BitVec.ofInt k.bits x &&& BitVec.ofInt k.bits y).toNat
  | .or => k.wrap (BitVec.ofInt k.bits x ||| BitVec.ofInt k.bits y).toNat
  | .xor => k.wrap (BitVec.ofInt k.bits x ^^^ BitVec.ofInt k.bits y).toNat
  | _ => k.wrap (BitVec.ofInt k.bits x &&& ~~~ BitVec.ofInt k.bits y).toNat
def intA (op : BinOp) (k : IntKind) (x y : Int) : Option Value :=
  match op with
  | .add => some (.int k (k.wrap (x + y)))
  | .sub => some (.int k (k.wrap (x - y)))
  | .mul => some (.int k (k.wrap (x * y)))
  | .quo => if y = 0 then none else some (.int k (k.wrap (x.tdiv y)))
  | .rem => if y = 0 then none else some (.int k (x.tmod y))
  | .and => some (.int k (bitsA .and k x y))
  | .or => some (.int k (bitsA .or k x y))
  | .xor => some (.int k (bitsA .xor k x y))
  | .andNot => some (.int k (bitsA .andNot k x y))
  | .eql => some (.bool (x == y))
  | .neq => some (.bool (x != y))
  | .lss => some (.bool (decide (x < y)))
  | .leq => some (.bool (decide (x ≤ y)))
  | .gtr => some (.bool (decide (y < x)))
  | .geq => some (.bool (decide (y ≤ x)))
  | _ => none
def strA (op : BinOp) (x y : ByteArray) : Option Value :=
  match op with
  | .add => if ((x.size + y.size : Nat) : Int) > 9223372036854775807 then none else some (.string (x ++ y))
  | .eql => some (.bool (x.toList == y.toList))
  | .neq => some (.bool !(x.toList == y.toList))
  | .lss => some (.bool (Op.bytesLess x.toList y.toList))
  | _ => none
def isIfOf (P : Program) (t : TypeId) : Bool := match P.underlying t with
  | some (.interface _) => true
  | _ => false
def sBin (P : Program) (op : BinOp) (t : TypeId) (x y : Value) : Option Value :=
  match x, y with
  | .int k a, .int k' b =>
    match op with
    | .shl => if b < 0 then none else some (.int k (k.wrap (a * 2 ^ min b.toNat k.bits)))
    | .shr => if b < 0 then none else some (.int k (a.fdiv (2 ^ min b.toNat k.bits)))
    | _ => if k = k' then intA op k a b else none
  | .string a, .string b => strA op a b
  | .bool a, .bool b => match op, P.underlying t with
    | .eql, some .bool => some (.bool (a == b))
    | .neq, some .bool => some (.bool (!(a == b)))
    | _, _ => none
  | .iface _ _, .nilIface => if isIfOf P t = true then match op with
      | .eql => some (.bool false)
      | .neq => some (.bool true)
      | _ => none
    else none
  | _, _ => none
theorem run_equal_bool {P : Program} {t : TypeId} (hu : P.underlying t = some .bool) (a b : Bool) (w : World) : (Op.equal t (.bool a) (.bool b)).run P w = .ok (a == b) w := by
  have : ∀ d, (Op.equalIn (d + 1) t (.bool a) (.bool b)).run P w = .ok (a == b) w := fun d => by
    unfold Op.equalIn
    rw [Sem.run_bind, run_underlying hu]
    rfl
  exact this 9999
theorem run_equal_held {P : Program} {t : TypeId} (hu : isIfOf P t = true) (u : TypeId) (x : Value) (w : World) : (Op.equal t (.iface u x) .nilIface).run P w = .ok false w := by
  unfold isIfOf at hu
  split at hu
  · rename_i ms hu'
    have : ∀ d, (Op.equalIn (d + 1) t (.iface u x) .nilIface).run P w = .ok false w := fun d => by
      unfold Op.equalIn
      rw [Sem.run_bind, run_underlying hu']
      rfl
    exact this 9999
  · cases hu
theorem run_equal_nils {P : Program} {t : TypeId} (hu : isIfOf P t = true) (w : World) : (Op.equal t .nilIface .nilIface).run P w = .ok true w := by
  unfold isIfOf at hu
  split at hu
  · rename_i ms hu'
    have : ∀ d, (Op.equalIn (d + 1) t .nilIface .nilIface).run P w = .ok true w := fun d => by
      unfold Op.equalIn
      rw [Sem.run_bind, run_underlying hu']
      rfl
    exact this 9999
  · cases hu
theorem run_sBin {P : Program} {op : BinOp} {t : TypeId} {x y v : Value} {p q : Operand} (h : sBin P op t x y = some v) (w : World) :
    (do eqGuard op t p q x y; binOp op t x y : Sem Value).run P w = .ok v w := by
  have hg : ∀ s : Sem Value, (do eqGuard op t p q x y; s : Sem Value).run P w = s.run P w := fun s => by
    unfold sBin at h
    split at h <;> first | (cases h; done) | (rw [eqGuard_at_iface]; rfl) | (cases op <;> simp [eqGuard])
  rw [hg]
  unfold sBin at h
  split at h
  · rename_i k a k' b
    split at h
    · split at h
      · cases h
      · cases h; rename_i hb; simp [binOp, Op.shift, hb]
    · split at h
      · cases h
      · cases h; rename_i hb; simp [binOp, Op.shift, hb]
    · rename_i h1 h2
      split at h
      · rename_i hk
        subst hk
        unfold intA at h
        split at h <;> first
          | (cases h; simp [binOp, Op.intArith, Op.intBits, Op.intCmp, bitsA]; done)
          | (split at h <;> first | (cases h; done) | (cases h; rename_i hb; simp [binOp, Op.intDiv, hb]))
          | (cases h; done)
          | exact absurd rfl h1
          | exact absurd rfl h2
      · cases h
  · rename_i a b
    unfold strA at h
    split at h
    · by_cases hb : ((a.size + b.size : Nat) : Int) > 9223372036854775807
      · rw [if_pos hb] at h; cases h
      · rw [if_neg hb] at h
        cases h
        have hb' : ¬ (((a.size + b.size : Nat) : Int) > IntKind.i64.max) := by simpa [IntKind.max, IntKind.signed, IntKind.bits] using hb
        show (Op.stringOp .add a b).run P w = _
        simp only [Op.stringOp]
        rw [if_neg hb']
        rfl
    · cases h; rfl
    · cases h; rfl
    · cases h; rfl
    · cases h
  · split at h
    · rename_i hu
      cases h
      show (do let r ← Op.equal t _ _; pure (.bool r) : Sem Value).run P w = _
      rw [Sem.run_bind, run_equal_bool hu]
      rfl
    · rename_i hu
      cases h
      show (do let r ← Op.equal t _ _; pure (.bool (!r)) : Sem Value).run P w = _
      rw [Sem.run_bind, run_equal_bool hu]
      rfl
    · cases h
  · split at h
    · rename_i hu
      split at h
      · cases h
        show (do let r ← Op.equal t _ _; pure (.bool r) : Sem Value).run P w = _
        rw [Sem.run_bind, run_equal_held hu]
        rfl
      · cases h
        show (do let r ← Op.equal t _ _; pure (.bool (!r)) : Sem Value).run P w = _
        rw [Sem.run_bind, run_equal_held hu]
        rfl
      · cases h
    · cases h
  · cases h
def sUn (op : UnOp) (x : Value) : Option Value :=
  match op, x with
  | .neg, .int k n => some (.int k (k.wrap (0 - n)))
  | .not, .bool b => some (.bool !b)
  | _, _ => none
theorem run_sUn {P : Program} {op : UnOp} {x v : Value} (h : sUn op x = some v) (w : World) : (Op.unary op x).run P w = .ok v w := by
  unfold sUn at h
  split at h <;> first | (cases h; simp [Op.unary, Op.intArith]; done) | cases h
def sConv (P : Program) (src dst : TypeId) (x : Value) : Option Value :=
  match x with
  | .int _ n => match P.underlying src, P.underlying dst with
    | some _, some (.int k) => some (.int k (k.wrap n))
    | _, _ => none
  | .string s => match P.underlying src, P.underlying dst with
    | some .string, some .string => some (.string s)
    | _, _ => none
  | _ => none
theorem run_sConv {P : Program} {src dst : TypeId} {x v : Value} (h : sConv P src dst x = some v) (w : World) : (convert src dst x).run P w = .ok v w := by
  unfold sConv at h
  split at h
  · split at h
    · rename_i d k hs hd
      cases h
      simp [convert, run_underlying hs, run_underlying hd, Conv.intToInt]
    · cases h
  · split at h
    · rename_i hs hd
      cases h
      simp [convert, run_underlying hs, run_underlying hd]
    · cases h
  · cases h

section
variable {P : Program} {B : Base} {w : World} {ρ : Nat → Option Nat} {D Z : Nat → Prop} {st : St} {a : Act} {K : AV → List (Option Blk) → Prop}
theorem out_bin (I : Inv B ρ D Z st a w) {op : BinOp} {t : TypeId} {x y : Operand} {u v r : Value} (hx : st.get x = .v u) (hy : st.get y = .v v) (hr : sBin P op t u v = some r) (hk : K (.v r) st.h) :
    Out P B st a w K (do pure (.value (← (do eqGuard op t x y (a.eval x) (a.eval y); binOp op t (a.eval x) (a.eval y) : Sem Value)))) := by
  have hxv := I.get x
  have hyv := I.get y
  rw [hx] at hxv
  rw [hy] at hyv
  rw [hxv.v_inv, hyv.v_inv]
  refine Out.same I (v := r) ?_ (.v r) hk
  rw [Sem.run_bind, run_sBin hr w]
  rfl
/-- Two nil values of an interface's type, the second written as nil. -/
def isLit : Operand → Bool
  | .const _ => true
  | _ => false
def nilsB (P : Program) (op : BinOp) (t : TypeId) (lit : Bool) (u v : Value) : Option Value := match lit, u, v with
  | true, .nilIface, .nilIface => if isIfOf P t = true then match op with
      | .eql => some (.bool true)
      | .neq => some (.bool false)
      | _ => none
    else none
  | _, _, _ => none
theorem out_nils (I : Inv B ρ D Z st a w) {op : BinOp} {t : TypeId} {x y : Operand} {u v r : Value} (hx : st.get x = .v u) (hy : st.get y = .v v) (hr : nilsB P op t (isLit y) u v = some r) (hk : K (.v r) st.h) :
    Out P B st a w K (do pure (.value (← (do eqGuard op t x y (a.eval x) (a.eval y); binOp op t (a.eval x) (a.eval y) : Sem Value)))) := by
  have hxv := I.get x
  have hyv := I.get y
  rw [hx] at hxv
  rw [hy] at hyv
  rw [hxv.v_inv, hyv.v_inv]
  refine Out.same I (v := r) ?_ (.v r) hk
  unfold nilsB at hr
  split at hr
  · rename_i hl
    cases y with
    | const c =>
      rw [eqGuard_nil_constR]
      split at hr
      · rename_i hu
        split at hr
        · cases hr
          show (do let r ← (do let r ← Op.equal t _ _; pure (.bool r) : Sem Value); pure (.value r) : Sem Next).run P w = _
          simp only [Sem.run_bind, run_equal_nils hu]
          rfl
        · cases hr
          show (do let r ← (do let r ← Op.equal t _ _; pure (.bool (!r)) : Sem Value); pure (.value r) : Sem Next).run P w = _
          simp only [Sem.run_bind, run_equal_nils hu]
          rfl
        · cases hr
      · cases hr
    | _ => simp [isLit] at hl
  · cases hr
theorem out_un (I : Inv B ρ D Z st a w) {op : UnOp} {x : Operand} {u r : Value} (hx : st.get x = .v u) (hr : sUn op u = some r) (hk : K (.v r) st.h) :
    Out P B st a w K (do pure (.value (← Op.unary op (a.eval x)))) := by
  have hxv := I.get x
  rw [hx] at hxv
  rw [hxv.v_inv]
  refine Out.same I (v := r) ?_ (.v r) hk
  rw [Sem.run_bind, run_sUn hr w]
  rfl
theorem out_conv (I : Inv B ρ D Z st a w) {src dst : TypeId} {x : Operand} {u r : Value} (hx : st.get x = .v u) (hr : sConv P src dst u = some r) (hk : K (.v r) st.h) :
    Out P B st a w K (do pure (.value (← convert src dst (a.eval x)))) := by
  have hxv := I.get x
  rw [hx] at hxv
  rw [hxv.v_inv]
  refine Out.same I (v := r) ?_ (.v r) hk
  rw [Sem.run_bind, run_sConv hr w]
  rfl

/-! ### Parts of values -/
theorem out_extract (I : Inv B ρ D Z st a w) {x : Operand} {k : Nat} {vs : List AV} (hx : st.get x = .tup vs) (hl : k < vs.length) (hk : K (vs.getD k .junk) st.h) :
    Out P B st a w K (do pure (.value (← Instr.extract (a.eval x) k))) := by
  have hxv := I.get x
  rw [hx] at hxv
  obtain ⟨c, e, h1, h2⟩ := hxv.tup_inv
  rw [e]
  have hk' : k < c.size := by omega
  refine Out.same I (v := c.getD k undef) ?_ (h2 k hl) hk
  simp [Instr.extract, hk', Array.getD]
theorem run_part {t : TypeId} {g : Bool} {n : Nat} (hg : aggOf P t = some g) (hn : szOf P t = some n) (h1 : g = false → n = 1) (c : Array Value) (j : Nat) (hj : j + n ≤ c.size) :
    (part t c j).run P w = .ok (if g then .agg ((List.range n).map fun k => c.getD (j + k) undef).toArray else c.getD (j + 0) undef) w := by
  unfold part
  rw [Sem.run_bind, run_agg hg]
  cases g with
  | true =>
    simp [run_sz hn]
    apply Array.ext
    · simp; omega
    · intro k hk1 hk2
      have : j + k < c.size := by simp at hk1; omega
      simp [this]
  | false =>
    have : j < c.size := by have := h1 rfl; omega
    simp [this]
/-! ### Structs compared -/
def eqFl (P : Program) : List Field → Option (List (Nat × Bool))
  | [] => some []
  | f :: fs => if f.name = "_" then none else match P.underlying f.type, szOf P f.type, eqFl P fs with
    | some (.int _), some 1, some l => some ((f.offset, false) :: l)
    | some .bool, some 1, some l => some ((f.offset, true) :: l)
    | _, _, _ => none
/-- The fields of a struct of numbers and Booleans: where each stands and whether it is a Boolean. -/
def eqOf (P : Program) (t : TypeId) : Option (List (Nat × Bool)) := match P.underlying t with
  | some (.struct fs) => if P.stoodInHeld t || P.eqGuardType P.depth t then none else eqFl P fs.toList
  | _ => none
def eqV : Bool → AV → AV → Option Bool
  | false, .v (.int k a), .v (.int k' b) => if k = k' then some (a == b) else none
  | true, .v (.bool a), .v (.bool b) => some (a == b)
  | _, _, _ => none
def eqL : List (Nat × Bool) → List AV → List AV → Option Bool
  | [], _, _ => some true
  | (o, g) :: l, xs, ys => if o < xs.length ∧ o < ys.length then match eqV g (xs.getD o .junk) (ys.getD o .junk), eqL l xs ys with
    | some a, some b => some (a && b)
    | _, _ => none
    else none
theorem run_eqFields (w : World) (ρ : Nat → Option Nat) (D Z : Nat → Prop) {d : Nat} {cs ds : List AV} {c e : Array Value} (hc : cs.length = c.size) (he : ds.length = e.size) (h1 : ∀ i, i < cs.length → RV w ρ D Z (cs.getD i .junk) (c.getD i undef)) (h2 : ∀ i, i < ds.length → RV w ρ D Z (ds.getD i .junk) (e.getD i undef)) :
    ∀ (fs : List Field) (l : List (Nat × Bool)) (b : Bool), eqFl P fs = some l → eqL l cs ds = some b → (Op.eqFields (d + 1) c e fs).run P w = .ok b w
  | [], l, b, hl, hb => by
    simp only [eqFl, Option.some.injEq] at hl
    subst hl
    simp only [eqL, Option.some.injEq] at hb
    subst hb
    simp [Op.eqFields]
  | f :: fs, l, b, hl, hb => by
    unfold eqFl at hl
    split at hl
    · cases hl
    · rename_i hn
      have go : ∀ (g : Bool) (l' : List (Nat × Bool)), eqFl P fs = some l' → l = (f.offset, g) :: l' → szOf P f.type = some 1 → aggOf P f.type = some false → (∀ u v r, eqV g (.v u) (.v v) = some r → (Op.equalIn (d + 1) f.type u v).run P w = .ok r w) → (Op.eqFields (d + 1) c e (f :: fs)).run P w = .ok b w := by
        intro g l' hl' e0 hs hg heq
        subst e0
        unfold eqL at hb
        split at hb
        · rename_i ho
          split at hb
          · rename_i r s hr hs'
            cases hb
            have ih := run_eqFields w ρ D Z (d := d) hc he h1 h2 fs l' s hl' hs'
            have a1 := h1 f.offset ho.1
            have a2 := h2 f.offset ho.2
            have p1 : (part f.type c f.offset).run P w = .ok (c.getD f.offset undef) w := by
              have := run_part (P := P) (w := w) hg hs (fun _ => rfl) c f.offset (by omega)
              simpa using this
            have p2 : (part f.type e f.offset).run P w = .ok (e.getD f.offset undef) w := by
              have := run_part (P := P) (w := w) hg hs (fun _ => rfl) e f.offset (by omega)
              simpa using this
            obtain ⟨u, v, hu, hv⟩ : ∃ u v, cs.getD f.offset .junk = .v u ∧ ds.getD f.offset .junk = .v v := by
              unfold eqV at hr
              split at hr
              · rename_i hx hy; exact ⟨_, _, hx, hy⟩
              · rename_i hx hy; exact ⟨_, _, hx, hy⟩
              · cases hr
            rw [hu] at a1 hr
            rw [hv] at a2 hr
            have e1 := heq u v r hr
            rw [← a1.v_inv, ← a2.v_inv] at e1
            rw [Op.eqFields, if_pos hn]
            simp only [Sem.run_bind, p1, p2, Result.andThen_ok, e1]
            cases r
            · simp
            · simpa using ih
          · cases hb
        · cases hb
      split at hl
      · rename_i k l' hu hs hl'
        cases hl
        refine go false l' hl' rfl hs (by simp [aggOf, hu]) fun u v r hr => ?_
        unfold eqV at hr
        split at hr
        · rename_i h0 k a k' b' hx hy
          cases hx
          cases hy
          split at hr
          · rename_i hk
            cases hr
            simp [Op.equalIn, run_underlying hu, hk]
          · cases hr
        · exact absurd ‹false = true› (by decide)
        · cases hr
      · rename_i l' hu hs hl'
        cases hl
        refine go true l' hl' rfl hs (by simp [aggOf, hu]) fun u v r hr => ?_
        unfold eqV at hr
        split at hr
        · exact absurd ‹true = false› (by decide)
        · rename_i a b' hx hy
          cases hx
          cases hy
          cases hr
          simp [Op.equalIn, run_underlying hu]
        · cases hr
      · cases hl
theorem out_eq (I : Inv B ρ D Z st a w) {op : BinOp} {t : TypeId} {x y : Operand} {cs ds : List AV} {l : List (Nat × Bool)} {b : Bool} (hx : st.get x = .agg cs) (hy : st.get y = .agg ds) (hl : eqOf P t = some l) (hb : eqL l cs ds = some b)
    (hk : (op = .eql ∧ K (.v (.bool b)) st.h) ∨ (op = .neq ∧ K (.v (.bool !b)) st.h)) :
    Out P B st a w K (do pure (.value (← (do eqGuard op t x y (a.eval x) (a.eval y); binOp op t (a.eval x) (a.eval y) : Sem Value)))) := by
  have hxv := I.get x
  rw [hx] at hxv
  have hyv := I.get y
  rw [hy] at hyv
  obtain ⟨c, e1, h1, h2⟩ := hxv.agg_inv
  obtain ⟨e, e2, h3, h4⟩ := hyv.agg_inv
  rw [e1, e2]
  unfold eqOf at hl
  split at hl
  · rename_i fs hu
    split at hl
    · cases hl
    · rename_i hok
      simp only [Bool.or_eq_true, not_or, Bool.not_eq_true] at hok
      have hf : P.fieldsOf t = fs := by simp [Program.fieldsOf, hu]
      have hr : ∀ dd, (Op.equalIn (dd + 2) t (.agg c) (.agg e)).run P w = .ok b w := fun dd => by
        rw [run_equalIn_struct (P := P) w (dd + 1) t c e (by rw [hf]; exact hu) hok.1, hf]
        exact run_eqFields w ρ D Z h1 h3 h2 h4 fs.toList l b hl hb
      have hr' : (Op.equal t (.agg c) (.agg e)).run P w = .ok b w := hr 9998
      have hgd : ∀ s : Sem Value, (do eqGuard op t x y (.agg c) (.agg e); s : Sem Value).run P w = s.run P w := fun s => by
        rcases hk with ⟨rfl, _⟩ | ⟨rfl, _⟩ <;> simp [eqGuard, hok.2]
      rcases hk with ⟨rfl, hk⟩ | ⟨rfl, hk⟩
      · refine Out.same I (v := .bool b) ?_ (.v _) hk
        rw [Sem.run_bind, hgd]
        show ((do let r ← Op.equal t (.agg c) (.agg e); pure (.bool r) : Sem Value).run P w).andThen _ = _
        rw [Sem.run_bind, hr']
        rfl
      · refine Out.same I (v := .bool !b) ?_ (.v _) hk
        rw [Sem.run_bind, hgd]
        show ((do let r ← Op.equal t (.agg c) (.agg e); pure (.bool (!r)) : Sem Value).run P w).andThen _ = _
        rw [Sem.run_bind, hr']
        rfl
  · cases hl
theorem out_field (I : Inv B ρ D Z st a w) {t ft : TypeId} {x : Operand} {k off n : Nat} {g : Bool} {cs : List AV} (hx : st.get x = .agg cs) (hf : fldOf P t k = some (off, ft, n)) (hg : aggOf P ft = some g) (h1 : g = false → n = 1)
    (hl : off + n ≤ cs.length) (hk : K (ldA g n off cs) st.h) : Out P B st a w K (do pure (.value (← Instr.field t (a.eval x) k))) := by
  have hxv := I.get x
  rw [hx] at hxv
  obtain ⟨c, e, h2, h3⟩ := hxv.agg_inv
  rw [e]
  unfold fldOf at hf
  split at hf
  · rename_i fs hu
    split at hf
    · rename_i f hfk
      split at hf
      · rename_i m hm
        split at hf
        · cases hf
        · simp only [Option.some.injEq, Prod.mk.injEq] at hf
          obtain ⟨rfl, rfl, rfl⟩ := hf
          refine Out.same I (v := if g then .agg ((List.range m).map fun k => c.getD (f.offset + k) undef).toArray else c.getD (f.offset + 0) undef) ?_ (RV.ld h1 hl fun q hq => h3 _ (by omega)) hk
          simp only [Instr.field, Sem.run_bind, run_underlying hu, Result.andThen_ok, hfk, asAgg, Sem.run_pure]
          rw [run_part hg hm h1 c f.offset (by omega)]
          rfl
      · cases hf
    · cases hf
  · cases hf
theorem out_index (I : Inv B ρ D Z st a w) {t e : TypeId} {x y : Operand} {m len : Nat} {g : Bool} {cs : List AV} {k : IntKind} {n : Int} (hx : st.get x = .agg cs) (hy : st.get y = .v (.int k n))
    (ht : arrOf P t = some (len, e)) (hs : szOf P e = some m) (hg : aggOf P e = some g) (h1 : g = false → m = 1) (h0 : 0 ≤ n) (hn : n < len) (hl : n.toNat * m + m ≤ cs.length) (hk : K (ldA g m (n.toNat * m) cs) st.h) :
    Out P B st a w K (do pure (.value (← Instr.index t (a.eval x) (a.eval y)))) := by
  have hxv := I.get x
  rw [hx] at hxv
  obtain ⟨c, e1, h2, h3⟩ := hxv.agg_inv
  have hyv := I.get y
  rw [hy] at hyv
  rw [e1, hyv.v_inv]
  refine Out.same I (v := if g then .agg ((List.range m).map fun k => c.getD (n.toNat * m + k) undef).toArray else c.getD (n.toNat * m + 0) undef) ?_ (RV.ld h1 hl fun q hq => h3 _ (by omega)) hk
  simp only [Instr.index, asIntOf, Sem.run_bind, Sem.run_pure, Result.andThen_ok, run_underlying (und_arr ht), h0, hn, and_self, if_true, run_sz hs]
  rw [run_part hg hs h1 c _ (by omega)]
  rfl
/-- A string's byte. -/
def bAt (s : ByteArray) (n : Nat) : Int := ((s.data.toList.getD n 0).toNat : Int)
theorem out_index_str (I : Inv B ρ D Z st a w) {t : TypeId} {x y : Operand} {s : ByteArray} {k : IntKind} {n : Int} (hx : st.get x = .v (.string s)) (hy : st.get y = .v (.int k n)) (ht : P.underlying t = some .string)
    (h0 : 0 ≤ n) (hn : n < s.size) (hk : K (.v (.int .u8 (bAt s n.toNat))) st.h) : Out P B st a w K (do pure (.value (← Instr.index t (a.eval x) (a.eval y)))) := by
  have hxv := I.get x
  rw [hx] at hxv
  have hyv := I.get y
  rw [hy] at hyv
  rw [hxv.v_inv, hyv.v_inv]
  refine Out.same I (v := .int .u8 (bAt s n.toNat)) ?_ (.v _) hk
  have hn' : n.toNat < s.size := by omega
  have e : s[n.toNat]? = some s[n.toNat] := by simp [hn']
  have e2 : ((s[n.toNat]).toNat : Int) = bAt s n.toNat := by
    unfold bAt
    have : n.toNat < s.data.toList.length := by simpa using hn'
    rw [List.getD_eq_getElem?_getD, List.getElem?_eq_getElem this]
    rfl
  simp [Instr.index, asIntOf, run_underlying ht, h0, e, e2]

/-! ### Slicing -/
theorem run_bounds (isSlice : Bool) (len cap l h : Nat) (lo hi : Option Value) (hlo : lo = none ∧ l = 0 ∨ ∃ k, lo = some (.int k l)) (hhi : hi = none ∧ h = len ∨ ∃ k, hi = some (.int k h)) (h1 : l ≤ h) (h2 : h ≤ cap) :
    (Instr.sliceBounds isSlice len cap lo hi none).run P w = .ok (l, h, cap) w := by
  rcases hlo with ⟨rfl, rfl⟩ | ⟨k, rfl⟩ <;> rcases hhi with ⟨rfl, rfl⟩ | ⟨k', rfl⟩ <;>
    simp [Instr.sliceBounds, Instr.sliceBound, asIntOf, h1, h2]
/-- Whether an operand is a bound, and which. -/
def bnd (st : St) (d : Nat) : Option Operand → Option Int
  | none => some d
  | some x => match st.get x with
    | .v (.int _ n) => some n
    | _ => none
theorem bnd_run (I : Inv B ρ D Z st a w) {x : Option Operand} {d : Nat} {n : Int} (h : bnd st d x = some n) (h0 : 0 ≤ n) : x.map a.eval = none ∧ n.toNat = d ∨ ∃ k, x.map a.eval = some (.int k (n.toNat : Int)) := by
  cases x with
  | none => simp only [bnd, Option.some.injEq] at h; exact .inl ⟨rfl, by omega⟩
  | some x =>
    simp only [bnd] at h
    split at h
    · rename_i k m hx
      cases h
      have := I.get x
      rw [hx] at this
      exact .inr ⟨k, by rw [Option.map_some, this.v_inv, Int.toNat_of_nonneg h0]⟩
    · cases h
theorem out_slice_str (I : Inv B ρ D Z st a w) {t : TypeId} {x : Operand} {lo hi : Option Operand} {s : ByteArray} {l h : Int} (hx : st.get x = .v (.string s)) (ht : P.underlying t = some .string)
    (hl : bnd st 0 lo = some l) (hh : bnd st s.size hi = some h) (h0 : 0 ≤ l) (h1 : l ≤ h) (h2 : h ≤ s.size) (hk : K (.v (.string (s.extract l.toNat h.toNat))) st.h) :
    Out P B st a w K (do pure (.value (← Instr.sliceAt t (a.eval x) (lo.map a.eval) (hi.map a.eval) none))) := by
  have hxv := I.get x
  rw [hx] at hxv
  rw [hxv.v_inv]
  have hb := run_bounds (P := P) (w := w) false s.size s.size l.toNat h.toNat _ _ (bnd_run I hl h0) (bnd_run I hh (by omega)) (by omega) (by omega)
  refine Out.same I (v := .string (s.extract l.toNat h.toNat)) ?_ (.v _) hk
  simp only [Instr.sliceAt, Instr.slice, Sem.run_bind, run_underlying ht, Result.andThen_ok, Option.isSome_none, Bool.false_eq_true, if_false, hb, Sem.run_pure]
theorem out_slice_fsl (I : Inv B ρ D Z st a w) {t e : TypeId} {x : Operand} {lo hi : Option Operand} {sz : Nat} {es : List AV} {l h : Int} (hx : st.get x = .fsl sz es) (ht : slOf P t = some e) (hs : szOf P e = some sz)
    (hl : bnd st 0 lo = some l) (hh : bnd st es.length hi = some h) (h0 : 0 ≤ l) (h1 : l ≤ h) (h2 : h ≤ es.length) (hk : K (.fsl sz ((es.take h.toNat).drop l.toNat)) st.h) :
    Out P B st a w K (do pure (.value (← Instr.sliceAt t (a.eval x) (lo.map a.eval) (hi.map a.eval) none))) := by
  have hxv := I.get x
  rw [hx] at hxv
  obtain ⟨A, cap, F, e1, hlc, hm, hsz, hA, ho, hR⟩ := hxv.fsl_inv
  rw [e1]
  have hb := run_bounds (P := P) (w := w) true es.length cap l.toNat h.toNat _ _ (bnd_run I hl h0) (bnd_run I hh (by omega)) (by omega) (by omega)
  have hlen : ((es.take h.toNat).drop l.toNat).length = h.toNat - l.toNat := by simp; omega
  have hget : ∀ i, i < h.toNat - l.toNat → ((es.take h.toNat).drop l.toNat).getD i .junk = es.getD (l.toNat + i) .junk := fun i hi => by
    simp [List.getD_eq_getElem?_getD, show l.toNat + i < h.toNat by omega]
  refine Out.same I (v := .slice (if cap = l.toNat then A else A.map (·.add (l.toNat * sz))) (h.toNat - l.toNat) (cap - l.toNat)) ?_ ?_ hk
  · simp only [Instr.sliceAt, Instr.slice, Sem.run_bind, run_underlying (und_sl ht), Result.andThen_ok, hb, run_sz hs, Sem.run_pure]
  · rw [← hlen]
    refine .fsl (fun i j => F (l.toNat + i) j) (by rw [hlen]; omega) (by omega) (fun i hi => ?_) (fun i j hi hj => ?_) (fun i j hi hj => ho _ j (by omega) hj) (fun i j hi hj => ?_)
    · rw [hget i (by omega)]; exact hsz _ (by omega)
    · rw [if_neg (by omega)]
      obtain ⟨ad, rfl, hz, hc⟩ := hA (l.toNat + i) j (by omega) hj
      refine ⟨ad.add (l.toNat * sz), rfl, ?_, ?_⟩
      · have : (ad.add (l.toNat * sz)).block = ad.block := by unfold Addr.add; split <;> rfl
        rw [this]; exact hz
      · rw [Addr.add_add, show l.toNat * sz + (i * sz + j) = (l.toNat + i) * sz + j by rw [Nat.add_mul]; omega]
        exact hc
    · rw [hget i (by omega)]; exact hR _ j (by omega) hj
theorem out_slice_sl (I : Inv B ρ D Z st a w) {t e : TypeId} {x : Operand} {lo hi : Option Operand} {id sz off len : Nat} {b : Blk} {l h : Int} (hx : st.get x = .sl id sz off len) (hb : st.h[id]? = some (some b)) (ht : slOf P t = some e) (hs : szOf P e = some sz)
    (hl : bnd st 0 lo = some l) (hh : bnd st len hi = some h) (h0 : 0 ≤ l) (h1 : l ≤ h) (h2 : h ≤ len) (hk : (l < h ∨ l = 0 → K (.sl id sz (off + l.toNat) (h.toNat - l.toNat)) st.h) ∧ (l = h → 0 < l → K (.fsl sz []) st.h)) :
    Out P B st a w K (do pure (.value (← Instr.sliceAt t (a.eval x) (lo.map a.eval) (hi.map a.eval) none))) := by
  obtain ⟨gb, hr, _⟩ := I.h.live id _ hb
  have hxv := I.get x
  rw [hx] at hxv
  obtain ⟨cap, e1, ⟨c, ce, fr, hc1, hc2⟩, hlc, hm⟩ := hxv.sl_live I.h hb hr
  rw [e1]
  have hbd := run_bounds (P := P) (w := w) true len cap l.toNat h.toNat _ _ (bnd_run I hl h0) (bnd_run I hh (by omega)) (by omega) (by omega)
  have hrun : (do pure (.value (← Instr.sliceAt t (.slice (some ⟨gb, off * sz, none⟩) len cap) (lo.map a.eval) (hi.map a.eval) none)) : Sem Next).run P w =
      .ok (.value (.slice (if cap = l.toNat then some ⟨gb, off * sz, none⟩ else some ⟨gb, off * sz + l.toNat * sz, none⟩) (h.toNat - l.toNat) (cap - l.toNat))) w := by
    simp only [Instr.sliceAt, Instr.slice, Sem.run_bind, run_underlying (und_sl ht), Result.andThen_ok, hbd, run_sz hs, Sem.run_pure, Option.map_some, Addr.add_plain]
  by_cases h3 : l < h ∨ l = 0
  · refine Out.same I (v := .slice (some ⟨gb, (off + l.toNat) * sz, none⟩) (h.toNat - l.toNat) (cap - l.toNat)) ?_ (.sl hr ⟨c, ce, fr, hc1, ?_⟩ (by omega) (by omega)) (hk.1 h3)
    · rw [hrun]
      congr 3
      split
      · have : l.toNat = 0 := by omega
        simp [this]
      · rw [Nat.add_mul]
    · rw [show off + l.toNat + (cap - l.toNat) = off + cap by omega]
      exact hc2
  · refine Out.same I (v := _) hrun ?_ (hk.2 (by omega) (by omega))
    rw [show h.toNat - l.toNat = ([] : List AV).length by simp; omega]
    exact .fsl (fun _ _ => undef) (by simp) (by omega) (fun i hi => by simp at hi) (fun i j hi => by simp at hi) (fun i j hi => by simp at hi) (fun i j hi => by simp at hi)

theorem out_slice_ptr (I : Inv B ρ D Z st a w) {t e e' : TypeId} {x : Operand} {lo hi : Option Operand} {id sz i j n : Nat} {es : List AV} {l h : Int} (hx : st.get x = .ptr id sz i j) (hb : st.h[id]? = some (some (.row e' sz es))) (ht : arrOf P t = some (n, e)) (hs : szOf P e = some 1)
    (hi0 : i < es.length) (hj : j + n ≤ sz) (hm : n ≤ maxLen) (hl : bnd st 0 lo = some l) (hh : bnd st n hi = some h) (h0 : 0 ≤ l) (h1 : l ≤ h) (h2 : h ≤ n) (h3 : l < n) (hk : K (.sl id 1 (i * sz + j + l.toNat) (h.toNat - l.toNat)) st.h) :
    Out P B st a w K (do pure (.value (← Instr.sliceAt t (a.eval x) (lo.map a.eval) (hi.map a.eval) none))) := by
  obtain ⟨gb, hr, c, fr, hc, _, hcs, _⟩ := I.h.live id _ hb
  have hxv := I.get x
  rw [hx] at hxv
  rw [hxv.ptr_live I.h hb hr]
  have hbd := run_bounds (P := P) (w := w) false n n l.toNat h.toNat _ _ (bnd_run I hl h0) (bnd_run I hh (by omega)) (by omega) (by omega)
  refine Out.same I (v := .slice (some ⟨gb, (i * sz + j + l.toNat) * 1, none⟩) (h.toNat - l.toNat) (n - l.toNat)) ?_ (.sl hr ⟨c, e', fr, hc, ?_⟩ (by omega) (by omega)) hk
  · simp only [Instr.sliceAt, Sem.run_bind, run_underlying (und_arr ht), Result.andThen_ok, Instr.sureAddr, Sem.run_pure, hbd, run_sz hs, Addr.add_plain]
    rw [if_neg (by omega)]
    simp
  · have : (i + 1) * sz ≤ es.length * sz := Nat.mul_le_mul_right _ hi0
    rw [Nat.add_mul, Nat.one_mul] at this
    omega
theorem out_arr_sl (I : Inv B ρ D Z st a w) {t e e' : TypeId} {x : Operand} {id sz sz' off len n : Nat} {es : List AV} (hx : st.get x = .sl id sz' off len) (hb : st.h[id]? = some (some (.row e' sz es))) (ht : arrOf P t = some (n, e)) (hn : n ≤ len)
    (hk : K (.ptr id sz (off * sz' / sz) (off * sz' % sz)) st.h) : Out P B st a w K (do pure (.value (← Instr.arrayAt t (a.eval x)))) := by
  obtain ⟨gb, hr, _⟩ := I.h.live id _ hb
  have hxv := I.get x
  rw [hx] at hxv
  obtain ⟨cap, e1, _, hlc, hm⟩ := hxv.sl_live I.h hb hr
  rw [e1]
  refine Out.same I (v := .pointer (some ⟨gb, off * sz' / sz * sz + off * sz' % sz, none⟩)) ?_ (.ptr hr) hk
  have hd : off * sz' / sz * sz + off * sz' % sz = off * sz' := by rw [Nat.mul_comm]; exact Nat.div_add_mod _ _
  rw [hd]
  simp only [Instr.arrayAt, Sem.run_bind, run_underlying (und_arr ht), Result.andThen_ok]
  rw [if_neg (by omega)]
  simp

/-! ### Function values, checks -/
theorem out_func (I : Inv B ρ D Z st a w) {fn : Fn} {fs cs : Array Operand} (hk : K (.clo fn (fs.toList.map st.get) (cs.toList.map st.get)) st.h) : Out P B st a w K (do pure (.value (← Instr.makeFunc fn (fs.map a.eval) (cs.map a.eval)))) := by
  refine Out.same I (v := .func fn (fs.map a.eval) (cs.map a.eval)) (by simp [Instr.makeFunc]) (.clo (by simp) (fun i hi => ?_) (by simp) (fun i hi => ?_)) hk
  · have hi' : i < fs.size := by simpa using hi
    have := I.get fs[i]
    simpa [List.getD_eq_getElem?_getD, Array.getD, hi'] using this
  · have hi' : i < cs.size := by simpa using hi
    have := I.get cs[i]
    simpa [List.getD_eq_getElem?_getD, Array.getD, hi'] using this
end
end Pm
end Go.Proofs.YtdgoompjoeffcaaGreat
