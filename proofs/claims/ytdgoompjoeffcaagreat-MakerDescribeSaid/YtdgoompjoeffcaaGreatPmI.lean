import Derived.Test.YtdgoompjoeffcaaGreatPmX
/- PM, part I: the operations together, calls, and what a walk over code comes to. -/
namespace Go.Proofs.YtdgoompjoeffcaaGreat
namespace Pm

def isLive (st : St) (id : Nat) : Bool := match st.h[id]? with
  | some (some _) => true
  | _ => false
def rowOf (st : St) (id : Nat) : Option (TypeId × Nat × List AV) := match st.h[id]? with
  | some (some (.row e sz es)) => some (e, sz, es)
  | _ => none
theorem rowOf_some {st : St} {id sz : Nat} {e : TypeId} {es : List AV} (h : rowOf st id = some (e, sz, es)) : st.h[id]? = some (some (.row e sz es)) := by
  unfold rowOf at h
  split at h
  · rename_i hb; cases h; exact hb
  · cases h
theorem isLive_some {st : St} {id : Nat} (h : isLive st id = true) : ∃ b, st.h[id]? = some (some b) := by
  unfold isLive at h
  split at h
  · rename_i b hb; exact ⟨b, hb⟩
  · cases h

abbrev R := Option (Prop × AV × List (Option Blk))
def loadR (P : Program) (st : St) (t : TypeId) (x : AV) : R :=
  match aggOf P t, szOf P t with
  | some g, some n => match x with
    | .ptr id sz i j => match rowOf st id with
      | some (_, sz', es) => some ((g = false → n = 1) ∧ sz' = sz ∧ i < es.length ∧ j + n ≤ sz, ldA g n j (es.getD i .junk).cells, st.h)
      | none => none
    | .fptr cs => some ((g = false → n = 1) ∧ n ≤ cs.length, ldA g n 0 cs, st.h)
    | _ => none
  | _, _ => none
def storeR (P : Program) (st : St) (t : TypeId) (x y : AV) : R :=
  match szOf P t, x with
  | some n, .ptr id sz i j => match rowOf st id with
    | some (e, sz', es) => some (sz' = sz ∧ i < es.length ∧ y.fit = true ∧ y.ones = true ∧ y.cells.length = n ∧ j + n ≤ sz ∧ ((∃ c, es.getD i .junk = .agg c) ∨ (n = 1 ∧ sz = 1 ∧ y.cells = [y])), .v undef,
        st.h.set id (some (.row e sz (es.set i (stA (es.getD i .junk) j y.cells)))))
    | none => none
  | _, _ => none
def fieldAddrR (P : Program) (st : St) (t : TypeId) (x : AV) (k : Nat) : R :=
  match fldOf P t k with
  | some (off, _, _) => match x with
    | .ptr id sz i j => some (isLive st id = true, .ptr id sz i (j + off), st.h)
    | .fptr cs => some (True, .fptr (cs.drop off), st.h)
    | _ => none
  | none => none
def indexAddrR (P : Program) (st : St) (t : TypeId) (x y : AV) : R :=
  match x, y with
  | .sl id sz off len, .v (.int _ n) => match slOf P t with
    | some e => some (szOf P e = some sz ∧ isLive st id = true ∧ 0 ≤ n ∧ n < len, .ptr id sz (off + n.toNat) 0, st.h)
    | none => none
  | .fsl sz es, .v (.int _ n) => match slOf P t with
    | some e => some (szOf P e = some sz ∧ 0 < sz ∧ 0 ≤ n ∧ n < es.length, .fptr (es.getD n.toNat .junk).cells, st.h)
    | none => none
  | .ptr id sz i j, .v (.int _ n) => match arrOf P t with
    | some (len, e) => match szOf P e with
      | some m => some (isLive st id = true ∧ 0 ≤ n ∧ n < len, .ptr id sz i (j + n.toNat * m), st.h)
      | none => none
    | none => none
  | .fptr cs, .v (.int _ n) => match arrOf P t with
    | some (len, e) => match szOf P e with
      | some m => some (0 ≤ n ∧ n < len, .fptr (cs.drop (n.toNat * m)), st.h)
      | none => none
    | none => none
  | _, _ => none
def indexR (P : Program) (st : St) (t : TypeId) (x y : AV) : R :=
  match x, y with
  | .agg cs, .v (.int _ n) => match arrOf P t with
    | some (len, e) => match szOf P e, aggOf P e with
      | some m, some g => some ((g = false → m = 1) ∧ 0 ≤ n ∧ n < len ∧ n.toNat * m + m ≤ cs.length, ldA g m (n.toNat * m) cs, st.h)
      | _, _ => none
    | none => none
  | .v (.string s), .v (.int _ n) => some (P.underlying t = some .string ∧ 0 ≤ n ∧ n < s.size, .v (.int .u8 (bAt s n.toNat)), st.h)
  | _, _ => none
def fieldR (P : Program) (st : St) (t : TypeId) (x : AV) (k : Nat) : R :=
  match x, fldOf P t k with
  | .agg cs, some (off, ft, n) => match aggOf P ft with
    | some g => some ((g = false → n = 1) ∧ off + n ≤ cs.length, ldA g n off cs, st.h)
    | none => none
  | _, _ => none
def sliceR (P : Program) (st : St) (t : TypeId) (x : AV) (lo hi : Option Operand) : R :=
  match x with
  | .v (.string s) => match bnd st 0 lo, bnd st s.size hi with
    | some l, some h => some (P.underlying t = some .string ∧ 0 ≤ l ∧ l ≤ h ∧ h ≤ s.size, .v (.string (s.extract l.toNat h.toNat)), st.h)
    | _, _ => none
  | .fsl sz es => match bnd st 0 lo, bnd st es.length hi, slOf P t with
    | some l, some h, some e => some (szOf P e = some sz ∧ 0 ≤ l ∧ l ≤ h ∧ h ≤ es.length, .fsl sz ((es.take h.toNat).drop l.toNat), st.h)
    | _, _, _ => none
  | .sl id sz off len => match bnd st 0 lo, bnd st len hi, slOf P t with
    | some l, some h, some e => some (szOf P e = some sz ∧ isLive st id = true ∧ 0 ≤ l ∧ l ≤ h ∧ h ≤ len, if l < h ∨ l = 0 then .sl id sz (off + l.toNat) (h.toNat - l.toNat) else .fsl sz [], st.h)
    | _, _, _ => none
  | .ptr id sz i j => match rowOf st id, arrOf P t with
    | some (_, sz', es), some (n, e) => match bnd st 0 lo, bnd st n hi with
      | some l, some h => some (sz' = sz ∧ szOf P e = some 1 ∧ i < es.length ∧ j + n ≤ sz ∧ n ≤ 9223372036854775807 ∧ 0 ≤ l ∧ l ≤ h ∧ h ≤ n ∧ l < n, .sl id 1 (i * sz + j + l.toNat) (h.toNat - l.toNat), st.h)
      | _, _ => none
    | _, _ => none
  | _ => none
def arrPtrR (P : Program) (st : St) (t : TypeId) (x : AV) : R := match x with
  | .sl id sz' off len => match rowOf st id, arrOf P t with
    | some (_, sz, _), some (n, _) => some (n ≤ len, .ptr id sz (off * sz' / sz) (off * sz' % sz), st.h)
    | _, _ => none
  | _ => none
def appendR (P : Program) (st : St) (t tx : TypeId) (s x : AV) : R :=
  match slOf P t with
  | some e => match szOf P e, byOf P e, zeroOf P e with
    | some sz, some by_, some z => match srcA st sz x with
      | some xs => match s with
        | .sl id sz' off len => match rowOf st id with
          | some (e', sz'', es) => some (z.length = sz ∧ 0 < sz ∧ srcTy P tx x = true ∧ e' = e ∧ sz' = sz ∧ sz'' = sz ∧ off = 0 ∧ len = es.length ∧ (es.length + xs.length) * by_ ≤ 140737488355328 ∧ es.length + xs.length ≤ 9223372036854775807,
              .sl st.h.length sz 0 (es.length + xs.length), st.h.set id none ++ [some (.row e sz (es ++ xs))])
          | none => none
        | .v (.slice none 0 0) => match xs with
          | [] => some (z.length = sz ∧ 0 < sz ∧ srcTy P tx x = true, .v (.slice none 0 0), st.h)
          | y :: ys => some (z.length = sz ∧ 0 < sz ∧ srcTy P tx x = true ∧ (ys.length + 1) * by_ ≤ 140737488355328 ∧ ys.length + 1 ≤ 9223372036854775807, .sl st.h.length sz 0 (ys.length + 1), st.h ++ [some (.row e sz (y :: ys))])
        | _ => none
      | none => none
    | _, _, _ => none
  | none => none
def unsafeStringR (P : Program) (st : St) (pt : TypeId) (x y : AV) : R := match x, y with
  | .ptr id sz i j, .v (.int k n) => match rowOf st id, ptrOf P pt with
    | some (e, sz', es), some e' => match bytesB (es.take n.toNat) with
      | some l => some (k = .i64 ∧ sz = 1 ∧ sz' = 1 ∧ i = 0 ∧ j = 0 ∧ e = e' ∧ P.cellsOf e = 1 ∧ 0 < n ∧ n.toNat ≤ es.length ∧ n ≤ 9223372036854775807, .v (.string (bs l)), st.h.set id none)
      | none => none
    | _, _ => none
  | _, _ => none
def mpOf (st : St) (id : Nat) : Option (List (AV × AV)) := match st.h[id]? with
  | some (some (.mp es)) => some es
  | _ => none
theorem mpOf_some {st : St} {id : Nat} {es : List (AV × AV)} (h : mpOf st id = some es) : st.h[id]? = some (some (.mp es)) := by
  unfold mpOf at h
  split at h
  · rename_i hb; cases h; exact hb
  · cases h
def deleteR (P : Program) (st : St) (t : TypeId) (m k : AV) : R := match m with
  | .map id => match mpOf st id, mapOf P t with
    | some es, some (kt, _) => match mget P kt k es 0 with
      | some r => some (keyOkA P kt k = true, .tup [], st.h.set id (some (.mp (mdelR es r))))
      | none => none
    | _, _ => none
  | _ => none
def builtinR (P : Program) (st : St) (b : Builtin) (args : List Operand) (ts : List TypeId) : R :=
  match b with
  | .append => match args, ts with
    | [s, x], [t, tx] => appendR P st t tx (st.get s) (st.get x)
    | _, _ => none
  | .len => match args, ts with
    | [x], [t] => match st.get x with
      | .sl id _ _ n => some (srcTy P t (st.get x) = true ∧ isLive st id = true, .v (.int .i64 n), st.h)
      | .fsl _ es => some (srcTy P t (st.get x) = true, .v (.int .i64 es.length), st.h)
      | .v (.slice none 0 _) => some (srcTy P t (st.get x) = true, .v (.int .i64 0), st.h)
      | .v (.string s) => some (srcTy P t (st.get x) = true, .v (.int .i64 s.size), st.h)
      | .map id => match mpOf st id, mapOf P t with
        | some es, some _ => some (True, .v (.int .i64 es.length), st.h)
        | _, _ => none
      | .fmap ks _ => match mapOf P t with
        | some _ => some (True, .v (.int .i64 ks.length), st.h)
        | none => none
      | _ => none
    | _, _ => none
  | .delete => match args, ts with
    | [m, k], t :: _ => deleteR P st t (st.get m) (st.get k)
    | _, _ => none
  | .max => match mmA true (args.map st.get) with
    | some r => some (True, .v r, st.h)
    | none => none
  | .min => match mmA false (args.map st.get) with
    | some r => some (True, .v r, st.h)
    | none => none
  | .unsafeSliceData => match args with
    | [x] => match st.get x with
      | .sl id sz off len => some (isLive st id = true ∧ 0 < len, .ptr id sz off 0, st.h)
      | _ => none
    | _ => none
  | .unsafeString => match args, ts with
    | [x, y], [pt, _] => unsafeStringR P st pt (st.get x) (st.get y)
    | _, _ => none
  | _ => none
def nilR (st : St) (x : AV) : R := match x with
  | .ptr id sz i j => some (isLive st id = true, .ptr id sz i j, st.h)
  | .fptr cs => some (True, .fptr cs, st.h)
  | .clo (.func f) fs cs => some (True, .clo (.func f) fs cs, st.h)
  | .v (.func (.func f) fs cs) => some (True, .v (.func (.func f) fs cs), st.h)
  | _ => none
def pickR (st : St) (c x y : AV) : R := match c with
  | .v (.bool true) => some (True, x, st.h)
  | .v (.bool false) => some (True, y, st.h)
  | _ => none
def binR (P : Program) (st : St) (op : BinOp) (t : TypeId) (lit : Bool) (x y : AV) : R := match x, y with
  | .v u, .v v => match sBin P op t u v with
    | some r => some (True, .v r, st.h)
    | none => match nilsB P op t lit u v with
      | some r => some (True, .v r, st.h)
      | none => none
  | .agg xs, .agg ys => match eqOf P t with
    | some l => match eqL l xs ys, op with
      | some b, .eql => some (True, .v (.bool b), st.h)
      | some b, .neq => some (True, .v (.bool !b), st.h)
      | _, _ => none
    | none => none
  | _, _ => none
def buildR (P : Program) (st : St) (t : TypeId) (parts : List (Nat × AV)) : R := match plOf P t, zeroOf P t with
  | some p, some z => match fillA p (z.map .v) parts with
    | some l => some (z.all (·.oneCell') = true, .agg l, st.h)
    | none => none
  | _, _ => none
def buildSliceR (P : Program) (st : St) (t : TypeId) (n : Nat) (np : Nat) (parts : List (Nat × AV)) : R := match slOf P t with
  | some e => match szOf P e, aggOf P e, zeroOf P e with
    | some sz, some g, some z => if n = 0 then (if np = 0 then some (True, .sl st.h.length sz 0 0, st.h ++ [some (.row e sz [])]) else none) else
        match fillA (.arr sz) (List.replicate (n * sz) .junk) parts with
          | some l => some (z.all (·.oneCell') = true ∧ z.length = sz ∧ (g = false → sz = 1) ∧ 0 < n * sz ∧ n * sz ≤ 16777216 ∧ (g = false → l.all AV.single = true), .sl st.h.length sz 0 n, st.h ++ [some (.row e sz (chunkA g sz n l))])
          | none => none
    | _, _, _ => none
  | none => none
def makeSliceR (P : Program) (st : St) (t : TypeId) (x y : AV) : R := match x, y with
  | .v (.int _ n), .v (.int _ m) => match slOf P t with
    | some e => match szOf P e, aggOf P e, zeroOf P e, byOf P e with
      | some sz, some g, some z, some by_ => some (z.all (·.oneCell') = true ∧ z.length = sz ∧ (g = false → sz = 1) ∧ 0 < sz ∧ 0 ≤ n ∧ n ≤ m ∧ by_ * m ≤ 140737488355328 ∧ m ≤ 9223372036854775807,
          .sl st.h.length sz 0 n.toNat, st.h ++ [some (.row e sz (List.replicate n.toNat (AV.zero g z)))])
      | _, _, _, _ => none
    | none => none
  | _, _ => none
def sameKey (es : List (AV × AV)) (k : AV) : Option (Nat × AV) → Prop
  | none => True
  | some (i, _) => (es.getD i default).1 = k
def mapUpdR (P : Program) (st : St) (t : TypeId) (m k v : AV) : R := match m with
  | .map id => match mpOf st id, mapOf P t with
    | some es, some (kt, _) => match mget P kt k es 0 with
      | some r => some (keyOkA P kt k = true ∧ bitsOk k = true ∧ sameKey es k r, .v undef, st.h.set id (some (.mp (mputR k v es r))))
      | none => none
    | _, _ => none
  | _ => none
def lookR (P : Program) (st : St) (t : TypeId) (m k : AV) (c : Bool) : R := match m with
  | .map id => match mpOf st id, mapOf P t with
    | some es, some (kt, e) => match zvA P e with
      | some z => match mget P kt k es 0 with
        | some r => some (keyOkA P kt k = true, if c then .tup [gotA z r, .v (.bool r.isSome)] else gotA z r, st.h)
        | none => none
      | _ => none
    | _, _ => none
  | .fmap ks vs => match mapOf P t with
    | some (kt, e) => match zvA P e with
      | some z => match mget P kt k (ks.zip vs) 0 with
        | some r => some (keyOkA P kt k = true, if c then .tup [gotA z r, .v (.bool r.isSome)] else gotA z r, st.h)
        | none => none
      | _ => none
    | none => none
  | _ => none
def rangeR (P : Program) (st : St) (t : TypeId) (m : AV) : R := match m with
  | .fmap ks vs => match mapOf P t with
    | some _ => some (True, .ptr st.h.length 0 0 0, st.h ++ [some (.it [] ks vs)])
    | none => none
  | _ => none
def itOf (st : St) (id : Nat) : Option (List AV × List AV × List AV) := match st.h[id]? with
  | some (some (.it cur ks vs)) => some (cur, ks, vs)
  | _ => none
theorem itOf_some {st : St} {id : Nat} {x : List AV × List AV × List AV} (h : itOf st id = some x) : st.h[id]? = some (some (.it x.1 x.2.1 x.2.2)) := by
  unfold itOf at h
  split at h
  · rename_i hb; cases h; exact hb
  · cases h
def entryR (st : St) (x : AV) : R := match x with
  | .ptr id 0 0 0 => match itOf st id with
    | some ([k, v], _, _) => some (True, .tup [k, v], st.h)
    | _ => none
  | _ => none
def convR (P : Program) (st : St) (s d : TypeId) (x : AV) : R := match x with
  | .v u => match sConv P s d u with
    | some r => some (True, .v r, st.h)
    | none => match u, slOf P d with
      | .string b, some e => some (isStrTo P s e = true ∧ b.size ≤ 9223372036854775807, .sl st.h.length 1 0 b.size, st.h ++ [some (.row e 1 (byA b.data.toList))])
      | _, _ => none
  | .sl id sz off len => match rowOf st id with
    | some (_, sz', es) => match bytesA ((es.drop off).take len) with
      | some r => some (sz = 1 ∧ sz' = 1 ∧ isBytesTo P s d = true ∧ off + len ≤ es.length, .v (.string (bs r)), st.h)
      | none => none
    | none => none
  | _ => none
def opR (P : Program) (st : St) : Op → R
  | .move x => some (True, st.get x, st.h)
  | .assign x => some (True, st.get x, st.h)
  | .pick c x y => pickR st (st.get c) (st.get x) (st.get y)
  | .alloc t => match aggOf P t, zeroOf P t with
    | some g, some z => some ((g = false → z.length = 1) ∧ z.all (·.oneCell') = true, .ptr st.h.length z.length 0 0, st.h ++ [some (.row t z.length [AV.zero g z])])
    | _, _ => none
  | .box t x => some ((st.get x).fit = true ∧ (st.get x).ones = true, .ptr st.h.length (st.get x).cells.length 0 0, st.h ++ [some (.row t (st.get x).cells.length [st.get x])])
  | .load t x => loadR P st t (st.get x)
  | .store t x y => storeR P st t (st.get x) (st.get y)
  | .nilCheck x => nilR st (st.get x)
  | .fieldAddr t x k => fieldAddrR P st t (st.get x) k
  | .indexAddr t x y => indexAddrR P st t (st.get x) (st.get y)
  | .index t x y => indexR P st t (st.get x) (st.get y)
  | .field t x k => fieldR P st t (st.get x) k
  | .extract x k => match st.get x with
    | .tup vs => some (k < vs.length, vs.getD k .junk, st.h)
    | _ => none
  | .binOp op t x y _ => binR P st op t (isLit y) (st.get x) (st.get y)
  | .unOp op _ x => match st.get x with
    | .v u => match sUn op u with
      | some r => some (True, .v r, st.h)
      | none => none
    | _ => none
  | .convert s d x => convR P st s d (st.get x)
  | .makeMap _ none => some (True, .map st.h.length, st.h ++ [some (.mp [])])
  | .mapUpdate t m k v => mapUpdR P st t (st.get m) (st.get k) (st.get v)
  | .lookup t m k c => lookR P st t (st.get m) (st.get k) c
  | .range t m => rangeR P st t (st.get m)
  | .entry x => entryR st (st.get x)
  | .makeFunc fn fs cs => some (True, .clo fn (fs.toList.map st.get) (cs.toList.map st.get), st.h)
  | .build t parts => buildR P st t (parts.toList.map fun x => (x.1, st.get x.2))
  | .buildSlice t n parts => buildSliceR P st t n parts.size (parts.toList.map fun x => (x.1, st.get x.2))
  | .makeSlice t x y => makeSliceR P st t (st.get x) (st.get y)
  | .slice t x lo hi mx => match mx with
    | none => sliceR P st t (st.get x) lo hi
    | some _ => none
  | .sliceToArrayPointer t x => arrPtrR P st t (st.get x)
  | .call c => match c.callee with
    | .builtin b => builtinR P st b c.args.toList c.argTypes.toList
    | _ => none
  | _ => none

section
variable {P : Program} {B : Base} {w : World} {ρ : Nat → Option Nat} {D Z : Nat → Prop} {st : St} {a : Act} {K : AV → List (Option Blk) → Prop}
theorem opR_sound (I : Inv B ρ D Z st a w) (o : Oper) {cond : Prop} {r : AV} {h' : List (Option Blk)} (hr : opR P st o.op = some (cond, r, h')) (hc : cond) (hk : K r h') : Out P B st a w K (execOp a.eval o) := by
  unfold execOp
  cases ho : o.op <;> rw [ho] at hr <;> simp only [opR] at hr ⊢
  case move x => cases hr; exact Out.same I (v := a.eval x) rfl (I.get x) hk
  case assign x => cases hr; exact Out.same I (v := a.eval x) rfl (I.get x) hk
  case pick c x y =>
    have hv := I.get c
    unfold pickR at hr
    split at hr
    · rename_i hx; cases hr; rw [hx] at hv; rw [hv.v_inv]; exact Out.same I (v := a.eval x) rfl (I.get x) hk
    · rename_i hx; cases hr; rw [hx] at hv; rw [hv.v_inv]; exact Out.same I (v := a.eval y) rfl (I.get y) hk
    · cases hr
  case alloc t =>
    split at hr
    · rename_i g z hg hz; cases hr; exact out_alloc I hg hz hc.1 hc.2 hk
    · cases hr
  case box t x => cases hr; exact out_box I hc.1 hc.2 hk
  case load t x =>
    unfold loadR at hr
    split at hr
    · rename_i g n hg hn
      split at hr
      · rename_i id sz i j hx
        split at hr
        · rename_i e sz' es hro
          cases hr
          obtain ⟨h1, rfl, h2, h3⟩ := hc
          exact out_load_ptr I hx (rowOf_some hro) hg hn h1 h2 h3 hk
        · cases hr
      · rename_i cs hx; cases hr; exact out_load_fptr I hx hg hn hc.1 hc.2 hk
      · cases hr
    · cases hr
  case store t x y =>
    unfold storeR at hr
    split at hr
    · rename_i n id sz i j hn hx
      split at hr
      · rename_i e sz' es hro
        cases hr
        obtain ⟨rfl, h2, h3, h4, h5, h6, h7⟩ := hc
        exact out_store I hx (rowOf_some hro) hn h2 h3 h4 h5 h6 h7 hk
      · cases hr
    · cases hr
  case nilCheck x =>
    have hv := I.get x
    unfold nilR at hr
    split at hr
    · rename_i id sz i j hx
      cases hr
      obtain ⟨b, hb⟩ := isLive_some hc
      obtain ⟨gb, hro, _⟩ := I.h.live id _ hb
      rw [hx] at hv
      rw [hv.ptr_live I.h hb hro]
      exact Out.same I (v := _) rfl (.ptr hro) hk
    · rename_i cs hx
      cases hr
      rw [hx] at hv
      have hv' := hv
      obtain ⟨ad, F, e, _⟩ := hv'.fptr_inv
      rw [e] at hv ⊢
      exact Out.same I (v := _) rfl hv hk
    · rename_i f fs cs hx
      cases hr
      rw [hx] at hv
      have hv' := hv
      obtain ⟨c1, c2, e, _⟩ := hv'.clo_inv
      rw [e] at hv ⊢
      exact Out.same I (v := _) rfl hv hk
    · rename_i f fs cs hx
      cases hr
      rw [hx] at hv
      rw [hv.v_inv]
      exact Out.same I (v := _) rfl (.v _) hk
    · cases hr
  case fieldAddr t x k =>
    unfold fieldAddrR at hr
    split at hr
    · rename_i off ft n hf
      split at hr
      · rename_i id sz i j hx
        cases hr
        obtain ⟨b, hb⟩ := isLive_some hc
        exact out_field_ptr I hx hb hf hk
      · rename_i cs hx; cases hr; exact out_field_fptr I hx hf hk
      · cases hr
    · cases hr
  case indexAddr t x y =>
    unfold indexAddrR at hr
    split at hr
    · rename_i id sz off len k n hx hy
      split at hr
      · rename_i e ht
        cases hr
        obtain ⟨h1, h2, h3, h4⟩ := hc
        obtain ⟨b, hb⟩ := isLive_some h2
        exact out_index_sl I hx hy hb ht h1 h3 h4 hk
      · cases hr
    · rename_i sz es k n hx hy
      split at hr
      · rename_i e ht
        cases hr
        obtain ⟨h1, h2, h3, h4⟩ := hc
        exact out_index_fsl I hx hy ht h1 h2 h3 h4 hk
      · cases hr
    · rename_i id sz i j k n hx hy
      split at hr
      · rename_i len e ht
        split at hr
        · rename_i m hm
          cases hr
          obtain ⟨h2, h3, h4⟩ := hc
          obtain ⟨b, hb⟩ := isLive_some h2
          exact out_index_ptr I hx hy hb ht hm h3 h4 hk
        · cases hr
      · cases hr
    · rename_i cs k n hx hy
      split at hr
      · rename_i len e ht
        split at hr
        · rename_i m hm; cases hr; exact out_index_fptr I hx hy ht hm hc.1 hc.2 hk
        · cases hr
      · cases hr
    · cases hr
  case index t x y =>
    unfold indexR at hr
    split at hr
    · rename_i cs k n hx hy
      split at hr
      · rename_i len e ht
        split at hr
        · rename_i m g hm hg
          cases hr
          obtain ⟨h1, h2, h3, h4⟩ := hc
          exact out_index I hx hy ht hm hg h1 h2 h3 h4 hk
        · cases hr
      · cases hr
    · rename_i s k n hx hy
      cases hr
      exact out_index_str I hx hy hc.1 hc.2.1 hc.2.2 hk
    · cases hr
  case field t x k =>
    unfold fieldR at hr
    split at hr
    · rename_i cs off ft n hx hf
      split at hr
      · rename_i g hg; cases hr; exact out_field I hx hf hg hc.1 hc.2 hk
      · cases hr
    · cases hr
  case extract x k =>
    split at hr
    · rename_i vs hx; cases hr; exact out_extract I hx hc hk
    · cases hr
  case binOp op t x y yt =>
    unfold binR at hr
    split at hr
    · rename_i u v hx hy
      split at hr
      · rename_i q hq; cases hr; exact out_bin I hx hy hq hk
      · split at hr
        · rename_i q hq; cases hr; exact out_nils I hx hy hq hk
        · cases hr
    · rename_i xs ys hx hy
      split at hr
      · rename_i l hl
        split at hr
        · rename_i b hb; cases hr; exact out_eq I hx hy hl hb (.inl ⟨rfl, hk⟩)
        · rename_i b hb; cases hr; exact out_eq I hx hy hl hb (.inr ⟨rfl, hk⟩)
        · cases hr
      · cases hr
    · cases hr
  case unOp op t x =>
    split at hr
    · rename_i u hx
      split at hr
      · rename_i q hq; cases hr; exact out_un I hx hq hk
      · cases hr
    · cases hr
  case convert s d x =>
    unfold convR at hr
    split at hr
    · rename_i u hx
      split at hr
      · rename_i q hq; cases hr; exact out_conv I hx hq hk
      · split at hr
        · rename_i b e hd _
          cases hr
          exact out_sbytes I hx hd hc.1 hc.2 hk
        · cases hr
    · rename_i id sz off len hx
      split at hr
      · rename_i e sz' es hro
        split at hr
        · rename_i q hq
          cases hr
          obtain ⟨rfl, rfl, h3, h4⟩ := hc
          exact out_bytes I hx (rowOf_some hro) h3 h4 hq hk
        · cases hr
      · cases hr
    · cases hr
  case makeMap t r =>
    cases r with
    | none => cases hr; exact out_makeMap I hk
    | some r => cases hr
  case mapUpdate t m k v =>
    unfold mapUpdR at hr
    split at hr
    · rename_i id hm
      split at hr
      · rename_i es kt e hes ht
        split at hr
        · rename_i q hg
          cases hr
          refine out_mapUpdate I hm (mpOf_some hes) ht hg hc.1 hc.2.1 (fun i y e => ?_) hk
          have := hc.2.2
          rw [e] at this
          exact this
        · cases hr
      · cases hr
    · cases hr
  case lookup t m k c =>
    unfold lookR at hr
    split at hr
    · rename_i id hm
      split at hr
      · rename_i es kt e hes ht
        split at hr
        · rename_i z hz
          split at hr
          · rename_i r hg
            cases hr
            exact out_lookup I c hm (mpOf_some hes) ht hg hc hz hk
          · cases hr
        · cases hr
      · cases hr
    · rename_i ks vs hm
      split at hr
      · rename_i kt e ht
        split at hr
        · rename_i z hz
          split at hr
          · rename_i r hg
            cases hr
            exact out_lookupF I c hm ht hg hc hz hk
          · cases hr
        · cases hr
      · cases hr
    · cases hr
  case range t m =>
    unfold rangeR at hr
    split at hr
    · rename_i ks vs hm
      split at hr
      · rename_i ht
        cases hr
        exact out_range I hm ht hk
      · cases hr
    · cases hr
  case entry x =>
    unfold entryR at hr
    split at hr
    · rename_i id hx
      split at hr
      · rename_i hi
        cases hr
        exact out_entry I hx (itOf_some hi) hk
      · cases hr
    · cases hr
  case makeFunc fn fs cs => cases hr; exact out_func I hk
  case build t parts =>
    unfold buildR at hr
    split at hr
    · rename_i p z hp hz
      split at hr
      · rename_i l hl; cases hr; exact out_build I hp hz hc hl hk
      · cases hr
    · cases hr
  case buildSlice t n parts =>
    unfold buildSliceR at hr
    split at hr
    · rename_i e ht
      split at hr
      · rename_i sz g z hs hg hz
        split at hr
        · rename_i hn
          subst hn
          split at hr
          · rename_i hp
            cases hr
            have : parts = #[] := Array.eq_empty_of_size_eq_zero hp
            subst this
            exact out_buildSlice0 I ht hs hk
          · cases hr
        · split at hr
          · rename_i l hl
            cases hr
            obtain ⟨h1, h2, h3, h4, h5, h6⟩ := hc
            exact out_buildSlice I ht hs hz h1 h2 h3 h4 (by omega) hl h6 hk
          · cases hr
      · cases hr
    · cases hr
  case makeSlice t x y =>
    unfold makeSliceR at hr
    split at hr
    · rename_i k n k' m hx hy
      split at hr
      · rename_i e ht
        split at hr
        · rename_i sz g z by_ hs hg hz hb
          cases hr
          obtain ⟨h1, h2, h3, h4, h5, h6, h7, h8⟩ := hc
          exact out_makeSlice I hx hy ht hs hb hz h1 h2 h3 h4 h5 h6 h7 h8 hk
        · cases hr
      · cases hr
    · cases hr
  case slice t x lo hi mx =>
    split at hr
    · unfold sliceR at hr
      split at hr
      · rename_i s hx
        split at hr
        · rename_i l hh hl hh'
          cases hr
          obtain ⟨h1, h2, h3, h4⟩ := hc
          exact out_slice_str I hx h1 hl hh' h2 h3 h4 hk
        · cases hr
      · rename_i sz es hx
        split at hr
        · rename_i l hh e hl hh' ht
          cases hr
          obtain ⟨h1, h2, h3, h4⟩ := hc
          exact out_slice_fsl I hx ht h1 hl hh' h2 h3 h4 hk
        · cases hr
      · rename_i id sz off len hx
        split at hr
        · rename_i l hh e hl hh' ht
          by_cases hlh : l < hh ∨ l = 0
          · rw [if_pos hlh] at hr
            cases hr
            obtain ⟨h1, h2, h3, h4, h5⟩ := hc
            obtain ⟨b, hb⟩ := isLive_some h2
            exact out_slice_sl I hx hb ht h1 hl hh' h3 h4 h5 ⟨fun _ => hk, fun e p => absurd hlh (by omega)⟩
          · rw [if_neg hlh] at hr
            cases hr
            obtain ⟨h1, h2, h3, h4, h5⟩ := hc
            obtain ⟨b, hb⟩ := isLive_some h2
            exact out_slice_sl I hx hb ht h1 hl hh' h3 h4 h5 ⟨fun e => absurd e hlh, fun _ _ => hk⟩
        · cases hr
      · rename_i id sz i j hx
        split at hr
        · rename_i e' sz' es n e hro ht
          split at hr
          · rename_i l hh hl hh'
            cases hr
            obtain ⟨rfl, h2, h3, h4, h5, h6, h7, h8, h9⟩ := hc
            exact out_slice_ptr I hx (rowOf_some hro) ht h2 h3 h4 h5 hl hh' h6 h7 h8 h9 hk
          · cases hr
        · cases hr
      · cases hr
    · cases hr
  case sliceToArrayPointer t x =>
    unfold arrPtrR at hr
    split at hr
    · rename_i id sz' off len hx
      split at hr
      · rename_i e' sz es n e hro ht
        cases hr
        exact out_arr_sl I hx (rowOf_some hro) ht hc hk
      · cases hr
    · cases hr
  case call c =>
    obtain ⟨callee, args, ats⟩ := c
    simp only at hr
    split at hr
    · rename_i b
      have e1 : args = args.toList.toArray := by simp
      have e2 : ats = ats.toList.toArray := by simp
      rw [e1, e2]
      generalize args.toList = args at hr
      generalize ats.toList = ats at hr
      simp only [resolve]
      unfold builtinR at hr
      split at hr
      · split at hr
        · rename_i s x t tx
          unfold appendR at hr
          split at hr
          · rename_i e ht
            split at hr
            · rename_i sz by_ z hs hb hz
              split at hr
              · rename_i xs hx
                split at hr
                · rename_i id sz' off len hs'
                  split at hr
                  · rename_i e' sz'' es hro
                    cases hr
                    obtain ⟨h1, h2, h3, rfl, rfl, rfl, rfl, h4, h5, h6⟩ := hc
                    have := out_append (ty := o.type) I hs' (rowOf_some hro) h4 ht hs hb hz h1 h2 hx h3 h5 h6 hk
                    simpa [invoke, builtin] using this
                  · cases hr
                · rename_i hs'
                  split at hr
                  · cases hr
                    have := out_append_nil (ty := o.type) I hs' rfl ht hs hb hz hc.1 hc.2.1 hx hc.2.2 (by simp) (by simp) ⟨fun h => absurd rfl h, fun _ => hk⟩
                    simpa [invoke, builtin] using this
                  · rename_i y ys
                    cases hr
                    obtain ⟨h1, h2, h3, h4, h5⟩ := hc
                    have := out_append_nil (ty := o.type) I hs' rfl ht hs hb hz h1 h2 hx h3 (by simpa using h4) (by simpa using h5) ⟨fun _ => by simpa using hk, fun h => by cases h⟩
                    simpa [invoke, builtin] using this
                · cases hr
              · cases hr
            · cases hr
          · cases hr
        · cases hr
      · split at hr
        · rename_i x t
          have hlen : ∀ n, lenA (st.get x) = some n → srcTy P t (st.get x) = true → (∀ id sz off k, st.get x = .sl id sz off k → isLive st id = true) → K (.v (.int .i64 n)) st.h → Out P B st a w K (do
              let d ← (pure { target := .builtin .len #[t] o.type (#[x].map fun | .const _ => true | _ => false), args := #[x].map a.eval } : Sem Deferred)
              invoke d.target d.args) := fun n hn h1 h2 hk => by
            have := out_len (ty := o.type) I hn (fun id sz off k hx => isLive_some (h2 id sz off k hx)) h1 hk
            simpa [invoke, builtin] using this
          split at hr
          · rename_i id sz off n hx; cases hr; exact hlen n (by rw [hx]; rfl) hc.1 (fun id' sz' off' k' e => by rw [hx] at e; cases e; exact hc.2) hk
          · rename_i sz es hx; cases hr; exact hlen _ (by rw [hx]; rfl) hc (fun id' sz' off' k' e => by rw [hx] at e; cases e) hk
          · rename_i n hx; cases hr; exact hlen _ (by rw [hx]; rfl) hc (fun id' sz' off' k' e => by rw [hx] at e; cases e) hk
          · rename_i s hx; cases hr; exact hlen _ (by rw [hx]; rfl) hc (fun id' sz' off' k' e => by rw [hx] at e; cases e) hk
          · rename_i id hx
            split at hr
            · rename_i es _ hes ht
              cases hr
              have := out_lenMap (ty := o.type) I hx (mpOf_some hes) ht hk
              simpa [invoke, builtin] using this
            · cases hr
          · rename_i ks vs hx
            split at hr
            · rename_i ht
              cases hr
              have := out_lenFmap (ty := o.type) I hx ht hk
              simpa [invoke, builtin] using this
            · cases hr
          · cases hr
        · cases hr
      · split at hr
        · rename_i m k t ts
          unfold deleteR at hr
          split at hr
          · rename_i id hm
            split at hr
            · rename_i es kt e hes ht
              split at hr
              · rename_i q hg
                cases hr
                have := out_delete (ty := o.type) (ts := ts) I hm (mpOf_some hes) ht hg hc hk
                simpa [invoke, builtin] using this
              · cases hr
            · cases hr
          · cases hr
        · cases hr
      · split at hr
        · rename_i q hq
          cases hr
          have := out_mm (P := P) I true (ats := ats.toArray) (ty := o.type) (args := args.toArray) (by simpa using hq) hk
          simpa [invoke, builtin] using this
        · cases hr
      · split at hr
        · rename_i q hq
          cases hr
          have := out_mm (P := P) I false (ats := ats.toArray) (ty := o.type) (args := args.toArray) (by simpa using hq) hk
          simpa [invoke, builtin] using this
        · cases hr
      · split at hr
        · rename_i x
          split at hr
          · rename_i id sz off len hx
            cases hr
            obtain ⟨b, hb⟩ := isLive_some hc.1
            have := out_sliceData (P := P) (ty := o.type) (ts := ats.toArray) I hx hb hc.2 hk
            simpa [invoke, builtin] using this
          · cases hr
        · cases hr
      · split at hr
        · rename_i x y pt it
          unfold unsafeStringR at hr
          split at hr
          · rename_i id sz i j k n hx hy
            split at hr
            · rename_i e sz' es e' hro hp
              split at hr
              · rename_i l hl
                cases hr
                obtain ⟨rfl, rfl, rfl, rfl, rfl, rfl, h7, h8, h9, h10⟩ := hc
                obtain ⟨m, rfl⟩ := Int.eq_ofNat_of_zero_le (Int.le_of_lt h8)
                have := out_unsafeString (ty := o.type) (it := it) (n := m) I hx hy (rowOf_some hro) hp h7 (by simpa using hl) (by simpa using h9) (by omega) (by omega) hk
                simpa [invoke, builtin] using this
              · cases hr
            · cases hr
          · cases hr
        · cases hr
      · cases hr
    · cases hr
  all_goals cases hr

/-! ### Regions and calls -/
def St.put (st : St) (d : Option Tmp) (x : AV) : St := match d with
  | some d => { st with env := (d, x) :: st.env }
  | none => st
def okDst (n : Nat) : Option Tmp → Bool
  | some d => decide (d < n)
  | none => true
theorem Inv.puts (I : Inv B ρ D Z st a w) {d : Option Tmp} {av : AV} {x : Value} (hd : okDst st.n d = true) (hx : RV w ρ D Z av x) : Inv B ρ D Z (st.put d av) (a.put d x) w := by
  cases d with
  | none => exact I
  | some d => exact I.put d (by simpa [okDst] using hd) hx
/-- What a guard asks: the operation's slot and the answer that is wanted. -/
def guardA (ops : Array Oper) (g : Option (Nat × Bool)) : Option (Option (Tmp × Bool)) := match g with
  | none => some none
  | some (j, b) => match (ops[j]?).bind (·.dst) with
    | some d => some (some (d, b))
    | none => none
/-- A function value that is called: the function and the arguments that it brings. -/
def calleeA : AV → Option (FuncId × List AV × List AV)
  | .v (.func (.func f) fs cs) => some (f, fs.toList.map .v, cs.toList.map .v)
  | .clo (.func f) fs cs => some (f, fs, cs)
  | _ => none
/-- A call is met: what is left to show. -/
def CallA (P : Program) (f : FuncId) (args : List AV) (st : St) (d : Option Tmp) (Kr : St → Prop) : Prop :=
  ∀ (B : Base) (ρ : Nat → Option Nat) (D Z : Nat → Prop) (a : Act) (w : World), Inv B ρ D Z st a w → ∀ cargs : Array Value, args.length = cargs.size →
    (∀ i, i < args.length → RV w ρ D Z (args.getD i .junk) (cargs.getD i undef)) →
    Calls P f cargs w fun e w' => ∃ v st' ρ' D' Z', e = .returned v ∧ Kr st' ∧ Inv B ρ' D' Z' st' (a.put d v) w'
def plainFn (P : Program) (f : FuncId) : Bool := match P.funcs[f]? with
  | some fn => fn.body.isSome && !(fn.name == "runtime.NumGoroutine")
  | none => false

/-- The next entry of a map that is gone through: none is left, or any one of what is left. -/
def NextA (st : St) (x : AV) (d : Option Tmp) (Kr : St → Prop) : Prop := match x with
  | .ptr id sz i j => match itOf st id with
    | some (_, ks, vs) => sz = 0 ∧ i = 0 ∧ j = 0 ∧ (ks = [] → Kr (st.put d (.tup [.v (.bool false)]))) ∧
        ∀ q, q < ks.length → Kr ({ st with h := st.h.set id (some (.it [ks.getD q .junk, vs.getD q .junk] (ks.eraseIdx q) (vs.eraseIdx q))) }.put d (.tup [.v (.bool true), ks.getD q .junk, vs.getD q .junk]))
    | none => False
  | _ => False
/-- One operation that is done. -/
def stepA (P : Program) (st : St) (K : St → Prop) (dst : Option Tmp) (op : Op) : Prop := match op with
  | .call c => match c.callee with
    | .value f => match calleeA (st.get f) with
      | some (f, fs, cs) => plainFn P f = true ∧ CallA P f (fs ++ c.args.toList.map st.get ++ cs) st dst K
      | none => False
    | .builtin b => match builtinR P st b c.args.toList c.argTypes.toList with
      | some (c, r, h) => c ∧ K ({ st with h := h }.put dst r)
      | none => False
    | _ => False
  | .next x s => match s with
    | false => NextA st (st.get x) dst K
    | true => False
  | op => match opR P st op with
    | some (c, r, h) => c ∧ K ({ st with h := h }.put dst r)
    | none => False
/-- The next operation of a region. -/
def nextA (P : Program) (ops : Array Oper) (o : Oper) (st : St) (K : St → Prop) : Prop :=
  okDst st.n o.dst = true ∧
  match guardA ops o.guard with
  | none => False
  | some none => stepA P st K o.dst o.op
  | some (some (d, b)) => match look d st.env with
    | .v (.bool t) => (t = b → stepA P st K o.dst o.op) ∧ (t = (!b) → K (st.put o.dst (.v undef)))
    | _ => False

theorem tri_nil {ops : Array Oper} {K : St → Prop} (h : K st) : TriOps P ops [] st K := fun _ ρ D Z a w _ I hq => hq st ρ D Z a w h I
theorem stepA_sound {o : Oper} {K : St → Prop} (hd : okDst st.n o.dst = true) (h : stepA P st K o.dst o.op) (I : Inv B ρ D Z st a w) {Q : Exit → Act → World → Prop} {Ka : Act → World → Prop}
    (hq : ∀ st' ρ' D' Z' a' w', K st' → Inv B ρ' D' Z' st' a' w' → Ka a' w') : o.wp P a w Ka Q := by
  by_cases hc : ∃ c f, o.op = .call c ∧ c.callee = .value f
  · obtain ⟨c, f, ho, hf⟩ := hc
    simp only [stepA, ho, hf] at h
    split at h
    · rename_i fid fs cs hcal
      obtain ⟨hp, hcall⟩ := h
      have hfv := I.get f
      -- the function value
      obtain ⟨f1, c1, hval, hl1, h1, hl2, h2⟩ : ∃ f1 c1 : Array Value, a.eval f = .func (.func fid) f1 c1 ∧ fs.length = f1.size ∧ (∀ i, i < fs.length → RV w ρ D Z (fs.getD i .junk) (f1.getD i undef)) ∧
          cs.length = c1.size ∧ (∀ i, i < cs.length → RV w ρ D Z (cs.getD i .junk) (c1.getD i undef)) := by
        unfold calleeA at hcal
        split at hcal
        · rename_i f0 fs0 cs0 hg
          cases hcal
          rw [hg] at hfv
          have key : ∀ (c : Array Value) (i : Nat), i < c.size → RV w ρ D Z ((c.toList.map AV.v).getD i .junk) (c.getD i undef) := fun c i hi => by
            rw [List.getD_eq_getElem?_getD, List.getElem?_map]
            simp [hi, Array.getD]
            exact .v _
          exact ⟨fs0, cs0, hfv.v_inv, by simp, fun i hi => key _ i (by simpa using hi), by simp, fun i hi => key _ i (by simpa using hi)⟩
        · rename_i f0 fs0 cs0 hg
          cases hcal
          rw [hg] at hfv
          obtain ⟨f1, c1, e, h⟩ := hfv.clo_inv
          exact ⟨f1, c1, e, h⟩
        · cases hcal
      -- the call
      have hargs : ∀ i, i < (fs ++ c.args.toList.map st.get ++ cs).length → RV w ρ D Z ((fs ++ c.args.toList.map st.get ++ cs).getD i .junk) ((f1 ++ c.args.map a.eval ++ c1).getD i undef) := fun i hi => by
        rw [app_getD, app_getD]
        simp only [Array.getD_eq_getD_getElem?]
        by_cases hi1 : i < f1.size
        · rw [if_pos (by simp; omega), if_pos (by omega), Array.append_assoc, Array.getElem?_append_left hi1]
          have := h1 i (by omega)
          rwa [Array.getD_eq_getD_getElem?] at this
        · by_cases hi2 : i < f1.size + c.args.size
          · rw [if_pos (by simp; omega), if_neg (by omega), Array.append_assoc, Array.getElem?_append_right (by omega), Array.getElem?_append_left (by simp; omega)]
            have hlt : i - f1.size < c.args.size := by omega
            have := I.get c.args[i - f1.size]
            simpa [List.getD_eq_getElem?_getD, hl1, hlt] using this
          · rw [if_neg (by simp; omega), Array.getElem?_append_right (by simp; omega)]
            have := h2 (i - (f1.size + c.args.size)) (by simp at hi; omega)
            rw [Array.getD_eq_getD_getElem?] at this
            simpa [hl1] using this
      have hcalls := hcall B ρ D Z a w I (f1 ++ c.args.map a.eval ++ c1) (by simp; omega) hargs
      have hrun : (execOp a.eval o).run P w = .ok (.enter fid (f1 ++ c.args.map a.eval ++ c1)) w := by
        unfold plainFn at hp
        cases hfn : P.funcs[fid]? with
        | none => simp [hfn] at hp
        | some fn =>
          simp only [hfn, Bool.and_eq_true, Bool.not_eq_true'] at hp
          obtain ⟨hb1, hb2⟩ := hp
          obtain ⟨bd, hbd⟩ := Option.isSome_iff_exists.1 hb1
          have hb2' : ¬ fn.name = "runtime.NumGoroutine" := by simpa using hb2
          simp [execOp, ho, resolve, hf, hval, Deferred.ofValue, invoke, callFunc, hfn, hb2', hbd]
      unfold Oper.wp
      rw [hrun]
      refine hcalls.mono ?_
      rintro e w' ⟨v, st', ρ', D', Z', rfl, hK, I'⟩
      exact hq _ _ _ _ _ _ hK I'
    · exact h.elim
  · by_cases hnx : ∃ x, o.op = .next x false
    · obtain ⟨x, ho⟩ := hnx
      simp only [stepA, ho] at h
      unfold NextA at h
      split at h
      · rename_i id sz i j hx
        split at h
        · rename_i cur ks vs hi
          obtain ⟨rfl, rfl, rfl, h0, h1⟩ := h
          obtain ⟨nx, w', hrun, v, hnx, av, h', ρ', D', Z', hK, hv, I'⟩ := out_next (P := P) (K := fun r h => K ({ st with h := h }.put o.dst r)) (ty := o.type) I hx (itOf_some hi) h0 h1
          have hI : Inv B ρ' D' Z' ({ st with h := h' }.put o.dst av) (a.put o.dst v) w' := I'.puts hd hv
          unfold Oper.wp
          have : execOp a.eval o = (do pure (.value (← Instr.next (a.eval x) false o.type)) : Sem Next) := by simp [execOp, ho]
          rw [this, hrun]
          rcases hnx with rfl | ⟨rfl, rfl⟩
          · exact hq _ _ _ _ _ _ hK hI
          · exact hq _ _ _ _ _ _ hK hI
        · exact h.elim
      · exact h.elim
    have h' : ∃ c r h', opR P st o.op = some (c, r, h') ∧ c ∧ K ({ st with h := h' }.put o.dst r) := by
      unfold stepA at h
      split at h
      · rename_i c ho
        rw [ho]
        split at h
        · rename_i f hf
          exact absurd ⟨c, f, ho, hf⟩ hc
        · rename_i b hb
          split at h
          · rename_i c' r h' hr
            exact ⟨c', r, h', by simp only [opR, hb]; exact hr, h.1, h.2⟩
          · exact h.elim
        · exact h.elim
      · rename_i x s ho
        split at h
        · exact absurd ⟨x, ho⟩ hnx
        · exact h.elim
      · split at h
        · rename_i c' r h' hr
          exact ⟨c', r, h', hr, h.1, h.2⟩
        · exact h.elim
    obtain ⟨c', r', hh, hr', hc', htri⟩ := h'
    obtain ⟨nx, w', hrun, v, hnx, av, h', ρ', D', Z', hK, hv, I'⟩ := opR_sound (K := fun r h => K ({ st with h := h }.put o.dst r)) I o hr' hc' htri
    have hI : Inv B ρ' D' Z' ({ st with h := h' }.put o.dst av) (a.put o.dst v) w' := I'.puts hd hv
    unfold Oper.wp
    rw [hrun]
    rcases hnx with rfl | ⟨rfl, rfl⟩
    · exact hq _ _ _ _ _ _ hK hI
    · exact hq _ _ _ _ _ _ hK hI
/-- One operation of a region, with what stands behind it. -/
def StepTo (P : Program) (ops : Array Oper) (o : Oper) (st : St) (K : St → Prop) : Prop :=
  ∀ (B : Base) (ρ : Nat → Option Nat) (D Z : Nat → Prop) (a : Act) (w : World) (Q : Exit → Act → World → Prop) (Ka : Act → World → Prop), Inv B ρ D Z st a w →
    (∀ st' ρ' D' Z' a' w', K st' → Inv B ρ' D' Z' st' a' w' → Ka a' w') → if Region.wanted o (yielded ops a.tmps) then o.wp P a w Ka Q else Ka (a.put o.dst undef) w
theorem step_to {ops : Array Oper} {o : Oper} {K : St → Prop} (h : nextA P ops o st K) : StepTo P ops o st K := by
  intro B ρ D Z a w Q Ka I hq
  unfold nextA at h
  obtain ⟨hd, h⟩ := h
  split at h
  · exact h.elim
  · rename_i hg
    have hw : Region.wanted o (yielded ops a.tmps) = true := by
      unfold guardA at hg
      split at hg
      · rename_i hgd; simp [Region.wanted, hgd]
      · split at hg <;> simp at hg
    rw [if_pos hw]
    exact stepA_sound hd h I hq
  · rename_i d b hg
    unfold guardA at hg
    split at hg
    · simp at hg
    · rename_i j b' hgd
      split at hg
      · rename_i d' hdst
        simp only [Option.some.injEq, Prod.mk.injEq] at hg
        obtain ⟨rfl, rfl⟩ := hg
        split at h
        · rename_i t hlook
          have hv := I.env d'
          rw [hlook] at hv
          have hval := hv.v_inv
          have hy : yielded ops a.tmps j = some t := by
            unfold yielded
            rw [hdst]
            have hlt : d' < a.tmps.size := by
              rcases Nat.lt_or_ge d' a.tmps.size with h1 | h1
              · exact h1
              · simp [Array.getD, Nat.not_lt.2 h1, undef] at hval
            have e1 : a.tmps[d']? = some (.bool t) := by
              rw [Array.getElem?_eq_getElem hlt]
              simpa [Array.getD, hlt] using hval
            simp [e1]
          by_cases htb : t = b'
          · rw [if_pos (by simp [Region.wanted, hgd, hy, htb])]
            exact stepA_sound hd (h.1 htb) I hq
          · rw [if_neg (by simp [Region.wanted, hgd, hy, htb])]
            exact hq _ _ _ _ _ _ (h.2 (by cases t <;> cases b' <;> simp_all)) (I.puts hd (.v _))
        · exact h.elim
      · simp at hg
theorem tri_step {ops : Array Oper} {o : Oper} {rest : List Oper} {K : St → Prop} (h : nextA P ops o st fun st => TriOps P ops rest st K) : TriOps P ops (o :: rest) st K := by
  intro B ρ D Z a w Q I hq
  have := step_to h B ρ D Z a w Q (wpList P ops Q rest) I fun st' ρ' D' Z' a' w' ht I' => ht B ρ' D' Z' a' w' Q I' hq
  unfold wpList
  split at this
  · rename_i hw; rw [if_pos hw]; exact .inl this
  · rename_i hw; rw [if_neg hw]; exact this
end
end Pm
end Go.Proofs.YtdgoompjoeffcaaGreat
