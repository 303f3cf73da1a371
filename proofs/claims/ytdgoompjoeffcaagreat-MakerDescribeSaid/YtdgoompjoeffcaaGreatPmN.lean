import Derived.Test.YtdgoompjoeffcaaGreatPmM
/- PM, part N: the reckoning over a region whose order is open. -/
namespace Go.Proofs.YtdgoompjoeffcaaGreat
namespace Pm
section
variable {P : Program} {W : WS} {ops : Array Oper}
theorem get_sees {s s' : St} {o : Oper} (hs : Sees W (o.looksAt ops) s s') {x : Operand} (hx : x ∈ o.op.operands) : s'.get x = s.get x := by
  cases x with
  | tmp t =>
    refine hs.env t ?_
    unfold Oper.looksAt
    refine List.mem_append.2 (.inl (List.mem_filterMap.2 ⟨.tmp t, by simpa using hx, rfl⟩))
  | _ => rfl
theorem guard_sees {s s' : St} {o : Oper} (hs : Sees W (o.looksAt ops) s s') {d : Tmp} {b : Bool} (hg : guardA ops o.guard = some (some (d, b))) : look d s'.env = look d s.env := by
  refine hs.env d ?_
  unfold guardA at hg
  split at hg
  · simp at hg
  · rename_i j b' hgd
    split at hg
    · rename_i d' hdst
      simp only [Option.some.injEq, Prod.mk.injEq] at hg
      obtain ⟨rfl, rfl⟩ := hg
      unfold Oper.looksAt
      refine List.mem_append.2 (.inr ?_)
      simp [hgd, hdst]
    · simp at hg
theorem rowOf_ext {s s' : St} (h : HeapW W s.h s'.h) {id : Nat} (hw : wOf W id = false) {x : TypeId × Nat × List AV} (hr : rowOf s id = some x) : rowOf s' id = some x := by
  obtain ⟨e, sz, es⟩ := x
  have hb := rowOf_some hr
  have hlt : id < s.h.length := (List.getElem?_eq_some_iff.1 hb).1
  unfold rowOf
  rw [h.same id hlt hw, hb]
theorem isLive_ext {s s' : St} (h : HeapW W s.h s'.h) {id : Nat} (hk : kOf W id = false) (hr : isLive s id = true) : isLive s' id = true := by
  obtain ⟨b, hb⟩ := isLive_some hr
  obtain ⟨b', hb'⟩ := h.live id b hb hk
  unfold isLive
  rw [hb']
def refOk (f : Nat → Bool) : AV → Bool
  | .ptr id _ _ _ => !f (id + killK)
  | .sl id _ _ _ => !f (id + killK)
  | _ => true
/-- A load that may stand on either side of the stores. -/
def rdOk (W : WS) (st : St) (o : Op) : Bool := match W with
  | none => true
  | some f => match o with
    | .load _ x => match st.get x with
      | .ptr id _ _ _ => !f id
      | _ => true
    | .nilCheck x => refOk f (st.get x)
    | .fieldAddr _ x _ => refOk f (st.get x)
    | .indexAddr _ x _ => refOk f (st.get x)
    | .slice _ x _ _ _ => match st.get x with
      | .ptr id _ _ _ => !f id
      | .sl id _ _ _ => !f (id + killK)
      | _ => true
    | .sliceToArrayPointer _ x => match st.get x with
      | .sl id _ _ _ => !f id
      | _ => true
    | .convert _ _ x => match st.get x with
      | .sl id _ _ _ => !f id
      | _ => true
    | .lookup _ x _ _ => match st.get x with
      | .map id => !f id
      | _ => true
    | .call c => match c.args.toList with
      | [x] => match st.get x with
        | .map id => !f id
        | .sl id _ _ _ => !f (id + killK)
        | _ => true
      | _ => true
    | _ => true
theorem rdOk_nil {st : St} {x : Operand} {id sz i j : Nat} (h : rdOk W st (.nilCheck x) = true) (hx : st.get x = .ptr id sz i j) : kOf W id = false := by
  cases W with
  | none => rfl
  | some f => simpa [rdOk, refOk, hx, kOf] using h
theorem rdOk_fld {st : St} {t : TypeId} {x : Operand} {k id sz i j : Nat} (h : rdOk W st (.fieldAddr t x k) = true) (hx : st.get x = .ptr id sz i j) : kOf W id = false := by
  cases W with
  | none => rfl
  | some f => simpa [rdOk, refOk, hx, kOf] using h
theorem rdOk_ixp {st : St} {t : TypeId} {x y : Operand} {id sz i j : Nat} (h : rdOk W st (.indexAddr t x y) = true) (hx : st.get x = .ptr id sz i j) : kOf W id = false := by
  cases W with
  | none => rfl
  | some f => simpa [rdOk, refOk, hx, kOf] using h
theorem rdOk_ixs {st : St} {t : TypeId} {x y : Operand} {id sz i j : Nat} (h : rdOk W st (.indexAddr t x y) = true) (hx : st.get x = .sl id sz i j) : kOf W id = false := by
  cases W with
  | none => rfl
  | some f => simpa [rdOk, refOk, hx, kOf] using h
theorem rdOk_slk {st : St} {t : TypeId} {x : Operand} {lo hi mx : Option Operand} {id sz i j : Nat} (h : rdOk W st (.slice t x lo hi mx) = true) (hx : st.get x = .sl id sz i j) : kOf W id = false := by
  cases W with
  | none => rfl
  | some f => simpa [rdOk, hx, kOf] using h
theorem rdOk_lenk {st : St} {c : Call} {x : Operand} {id sz i j : Nat} (h : rdOk W st (.call c) = true) (ha : c.args.toList = [x]) (hx : st.get x = .sl id sz i j) : kOf W id = false := by
  cases W with
  | none => rfl
  | some f => simpa [rdOk, ha, hx, kOf] using h
theorem rdOk_look {st : St} {t : TypeId} {x k : Operand} {c : Bool} {id : Nat} (h : rdOk W st (.lookup t x k c) = true) (hx : st.get x = .map id) : wOf W id = false := by
  cases W with
  | none => rfl
  | some f => simpa [rdOk, hx, wOf] using h
theorem rdOk_len {st : St} {c : Call} {x : Operand} {id : Nat} (h : rdOk W st (.call c) = true) (ha : c.args.toList = [x]) (hx : st.get x = .map id) : wOf W id = false := by
  cases W with
  | none => rfl
  | some f => simpa [rdOk, ha, hx, wOf] using h
theorem mpOf_ext {s s' : St} (h : HeapW W s.h s'.h) {id : Nat} (hw : wOf W id = false) {x : List (AV × AV)} (hr : mpOf s id = some x) : mpOf s' id = some x := by
  have hb := mpOf_some hr
  have hlt : id < s.h.length := (List.getElem?_eq_some_iff.1 hb).1
  unfold mpOf
  rw [h.same id hlt hw, hb]
theorem rdOk_conv {st : St} {a b : TypeId} {x : Operand} {id sz i j : Nat} (h : rdOk W st (.convert a b x) = true) (hx : st.get x = .sl id sz i j) : wOf W id = false := by
  cases W with
  | none => rfl
  | some f => simpa [rdOk, hx, wOf] using h
theorem rdOk_load {st : St} {t : TypeId} {x : Operand} {id sz i j : Nat} (h : rdOk W st (.load t x) = true) (hx : st.get x = .ptr id sz i j) : wOf W id = false := by
  cases W with
  | none => rfl
  | some f => simpa [rdOk, hx, wOf] using h
theorem rdOk_slice {st : St} {t : TypeId} {x : Operand} {lo hi mx : Option Operand} {id sz i j : Nat} (h : rdOk W st (.slice t x lo hi mx) = true) (hx : st.get x = .ptr id sz i j) : wOf W id = false := by
  cases W with
  | none => rfl
  | some f => simpa [rdOk, hx, wOf] using h
theorem rdOk_arr {st : St} {t : TypeId} {x : Operand} {id sz i j : Nat} (h : rdOk W st (.sliceToArrayPointer t x) = true) (hx : st.get x = .sl id sz i j) : wOf W id = false := by
  cases W with
  | none => rfl
  | some f => simpa [rdOk, hx, wOf] using h
def agreeW (f : Nat → Bool) : Nat → List (Option Blk) → List (Option Blk) → Prop
  | _, [], _ => True
  | i, a :: l, b :: m => (a = b ∨ f i = true) ∧ (a.isSome = true → b.isSome = true ∨ f (i + killK) = true) ∧ agreeW f (i + 1) l m
  | _, _, _ => False
theorem agreeW_heap (f : Nat → Bool) : ∀ (l m : List (Option Blk)) (i : Nat), agreeW f i l m → l.length ≤ m.length ∧ (∀ k, k < l.length → f (i + k) = false → m[k]? = l[k]?) ∧ ∀ (k : Nat) (b : Blk), l[k]? = some (some b) → f (i + k + killK) = false → ∃ b', m[k]? = some (some b')
  | [], _, _, _ => ⟨Nat.zero_le _, fun k hk => by simp at hk, fun k b hb => by simp at hb⟩
  | a :: l, b :: m, i, h => by
    obtain ⟨h1, h2, h3⟩ := h
    obtain ⟨k1, k2, k3⟩ := agreeW_heap f l m (i + 1) h3
    refine ⟨by simp [k1], fun k hk hf => ?_, fun k c hc hkk => ?_⟩
    · cases k with
      | zero =>
        rcases h1 with h1 | h1
        · simp [h1]
        · simp [h1] at hf
      | succ k =>
        simp only [List.getElem?_cons_succ]
        exact k2 k (by simpa using hk) (by rw [show i + 1 + k = i + (k + 1) by omega]; exact hf)
    · cases k with
      | zero =>
        simp only [List.getElem?_cons_zero, Option.some.injEq] at hc ⊢
        subst hc
        rcases h2 rfl with h2 | h2
        · obtain ⟨b', hb'⟩ := Option.isSome_iff_exists.1 h2
          exact ⟨b', hb'⟩
        · rw [Nat.add_zero, h2] at hkk; cases hkk
      | succ k => simp only [List.getElem?_cons_succ] at hc ⊢; exact k3 k c hc (by rw [show i + 1 + k + killK = i + (k + 1) + killK by omega]; exact hkk)
  | _ :: _, [], _, h => h.elim
def okW (W : WS) (st : St) (o : Op) (h : List (Option Blk)) : Prop := match W with
  | none => True
  | some f => match o with
    | .store _ _ _ => agreeW f 0 st.h h
    | .call _ => agreeW f 0 st.h h
    | _ => True
/-- The last one, that hangs on all others, may write what it likes. -/
def lastK : Nat := 8589934592
def lOf (W : WS) : Bool := match W with
  | none => false
  | some f => f lastK
def okX (b : Bool) (p : Prop) : Prop := match b with
  | true => True
  | false => p
theorem okX_true {p : Prop} : okX true p = True := rfl
theorem okX_false {p : Prop} : okX false p = p := rfl
def okL (W : WS) (st : St) (o : Op) (h : List (Option Blk)) (rest : List Oper) : Prop := match rest with
  | [] => okX (lOf W) (okW W st o h)
  | _ :: _ => okW W st o h
theorem okW_store {st : St} {o : Op} {h : List (Option Blk)} (hw : W.isSome = true) (hs : storeB o = true) (k : okW W st o h) : HeapW W st.h h := by
  obtain ⟨f, rfl⟩ := Option.isSome_iff_exists.1 hw
  have k' : agreeW f 0 st.h h := by cases o <;> first | exact k | (simp [storeB] at hs; done)
  obtain ⟨k1, k2, k3⟩ := agreeW_heap f _ _ 0 k'
  exact ⟨k1, fun id hi hw => k2 id hi (by rw [Nat.zero_add]; exact hw), fun id b hb hk => k3 id b hb (by rw [Nat.zero_add]; exact hk)⟩
theorem bnd_sees {s s' : St} {d : Nat} {x : Option Operand} (h : ∀ y, x = some y → s'.get y = s.get y) : bnd s' d x = bnd s d x := by
  cases x with
  | none => rfl
  | some y => simp only [bnd, h y rfl]
theorem opR_sees {s s' : St} {o : Op} (hq : quietB o = true) (hg : ∀ x, x ∈ o.operands → s'.get x = s.get x) (hh : HeapW W s.h s'.h) (hrd : rdOk W s o = true) {c : Prop} {r : AV} (ho : opR P s o = some (c, r, s.h)) :
    ∃ c', opR P s' o = some (c', r, s'.h) ∧ (c → c') := by
  cases o <;> (try (simp only [quietB, Bool.false_eq_true] at hq; done)) <;> simp only [opR] at ho ⊢
  case move x => cases ho; exact ⟨True, by rw [hg x (by simp [Op.operands])], id⟩
  case assign x => cases ho; exact ⟨True, by rw [hg x (by simp [Op.operands])], id⟩
  case pick x y z =>
    rw [hg x (by simp [Op.operands]), hg y (by simp [Op.operands]), hg z (by simp [Op.operands])]
    unfold pickR at ho ⊢
    split at ho <;> cases ho <;> exact ⟨_, rfl, id⟩
  case load t x =>
    rw [hg x (by simp [Op.operands])]
    unfold loadR at ho ⊢
    split at ho
    · rename_i g n hga hn
      split at ho
      · rename_i id sz i j hx
        split at ho
        · rename_i e sz' es hro
          simp only [rowOf_ext hh (rdOk_load hrd hx) hro]
          cases ho
          exact ⟨_, rfl, fun h => h⟩
        · cases ho
      · cases ho; exact ⟨_, rfl, fun h => h⟩
      · cases ho
    · cases ho
  case nilCheck x =>
    rw [hg x (by simp [Op.operands])]
    unfold nilR at ho ⊢
    split at ho <;> cases ho
    · rename_i hx; exact ⟨_, rfl, isLive_ext hh (rdOk_nil hrd hx)⟩
    all_goals exact ⟨_, rfl, fun h => h⟩
  case fieldAddr t x k =>
    rw [hg x (by simp [Op.operands])]
    unfold fieldAddrR at ho ⊢
    split at ho
    · split at ho <;> cases ho
      · rename_i hx; exact ⟨_, rfl, isLive_ext hh (rdOk_fld hrd hx)⟩
      · exact ⟨_, rfl, fun h => h⟩
    · cases ho
  case indexAddr t x y =>
    rw [hg x (by simp [Op.operands]), hg y (by simp [Op.operands])]
    unfold indexAddrR at ho ⊢
    split at ho
    · rename_i hx hy
      split at ho
      · cases ho; exact ⟨_, rfl, fun ⟨h1, h2, h3⟩ => ⟨h1, isLive_ext hh (rdOk_ixs hrd hx) h2, h3⟩⟩
      · cases ho
    · split at ho
      · cases ho; exact ⟨_, rfl, fun h => h⟩
      · cases ho
    · rename_i hx hy
      split at ho
      · split at ho
        · cases ho; exact ⟨_, rfl, fun ⟨h2, h3⟩ => ⟨isLive_ext hh (rdOk_ixp hrd hx) h2, h3⟩⟩
        · cases ho
      · cases ho
    · split at ho
      · split at ho
        · cases ho; exact ⟨_, rfl, fun h => h⟩
        · cases ho
      · cases ho
    · cases ho
  case index t x y =>
    rw [hg x (by simp [Op.operands]), hg y (by simp [Op.operands])]
    unfold indexR at ho ⊢
    split at ho
    · split at ho
      · split at ho
        · cases ho; exact ⟨_, rfl, fun h => h⟩
        · cases ho
      · cases ho
    · cases ho; exact ⟨_, rfl, fun h => h⟩
    · cases ho
  case field t x k =>
    rw [hg x (by simp [Op.operands])]
    unfold fieldR at ho ⊢
    split at ho
    · split at ho
      · cases ho; exact ⟨_, rfl, fun h => h⟩
      · cases ho
    · cases ho
  case extract x k =>
    rw [hg x (by simp [Op.operands])]
    split at ho
    · cases ho; exact ⟨_, rfl, fun h => h⟩
    · cases ho
  case lookup t m k cc =>
    rw [hg m (by simp [Op.operands]), hg k (by simp [Op.operands])]
    unfold lookR at ho ⊢
    split at ho
    · rename_i id hm
      split at ho
      · rename_i es kt e hes ht
        rw [mpOf_ext hh (rdOk_look hrd hm) hes]
        simp only [ht]
        split at ho
        · rename_i z hz
          split at ho
          · rename_i q hq'
            cases ho
            exact ⟨_, rfl, fun h => h⟩
          · cases ho
        · cases ho
      · cases ho
    · split at ho
      · rename_i kt e ht
        split at ho
        · rename_i z hz
          split at ho
          · cases ho
            exact ⟨_, rfl, fun h => h⟩
          · cases ho
        · cases ho
      · cases ho
    · cases ho
  case binOp op t x y u =>
    rw [hg x (by simp [Op.operands]), hg y (by simp [Op.operands])]
    unfold binR at ho ⊢
    split at ho
    · split at ho
      · cases ho; exact ⟨_, rfl, fun h => h⟩
      · split at ho
        · cases ho; exact ⟨_, rfl, fun h => h⟩
        · cases ho
    · split at ho
      · split at ho
        · cases ho; exact ⟨_, rfl, fun h => h⟩
        · cases ho; exact ⟨_, rfl, fun h => h⟩
        · cases ho
      · cases ho
    · cases ho
  case unOp op t x =>
    rw [hg x (by simp [Op.operands])]
    split at ho
    · split at ho
      · cases ho; exact ⟨_, rfl, fun h => h⟩
      · cases ho
    · cases ho
  case convert a b x =>
    rw [hg x (by simp [Op.operands])]
    unfold convR at ho ⊢
    split at ho
    · split at ho
      · cases ho; exact ⟨_, rfl, fun h => h⟩
      · split at ho
        · simp at ho
        · cases ho
    · rename_i id sz off len hx
      split at ho
      · rename_i e sz' es hro
        simp only [rowOf_ext hh (rdOk_conv hrd hx) hro]
        split at ho
        · cases ho; exact ⟨_, rfl, fun h => h⟩
        · cases ho
      · cases ho
    · cases ho
  case makeFunc fn fs cs =>
    cases ho
    have h1 : fs.toList.map s'.get = fs.toList.map s.get := List.map_congr_left fun x hx => hg x (by simp only [Op.operands, Array.mem_append]; exact .inl (by simpa using hx))
    have h2 : cs.toList.map s'.get = cs.toList.map s.get := List.map_congr_left fun x hx => hg x (by simp only [Op.operands, Array.mem_append]; exact .inr (by simpa using hx))
    exact ⟨True, by rw [h1, h2], id⟩
  case build t ps =>
    have h1 : (ps.toList.map fun x => (x.1, s'.get x.2)) = ps.toList.map fun x => (x.1, s.get x.2) := List.map_congr_left fun x hx => by
      rw [hg x.2 (by simp only [Op.operands, List.mem_toArray, List.mem_map]; exact ⟨x, hx, rfl⟩)]
    rw [h1]
    unfold buildR at ho ⊢
    split at ho
    · split at ho
      · cases ho; exact ⟨_, rfl, fun h => h⟩
      · cases ho
    · cases ho
  case slice t x lo hi mx =>
    cases mx with
    | some _ => simp [quietB] at hq
    | none =>
      simp only at ho ⊢
      rw [hg x (by simp [Op.operands])]
      have hl : ∀ d, bnd s' d lo = bnd s d lo := fun d => bnd_sees fun y hy => hg y (by simp [Op.operands, hy])
      have hu : ∀ d, bnd s' d hi = bnd s d hi := fun d => bnd_sees fun y hy => hg y (by simp [Op.operands, hy])
      unfold sliceR at ho ⊢
      simp only [hl, hu]
      split at ho
      · split at ho
        · cases ho; exact ⟨_, rfl, fun h => h⟩
        · cases ho
      · split at ho
        · cases ho; exact ⟨_, rfl, fun h => h⟩
        · cases ho
      · rename_i hx
        split at ho
        · simp only [Option.some.injEq, Prod.mk.injEq] at ho ⊢
          obtain ⟨rfl, rfl, _⟩ := ho
          exact ⟨_, ⟨rfl, rfl, trivial⟩, fun ⟨h1, h2, h3⟩ => ⟨h1, isLive_ext hh (rdOk_slk hrd hx) h2, h3⟩⟩
        · cases ho
      · rename_i hx
        split at ho
        · rename_i hro ht
          simp only [rowOf_ext hh (rdOk_slice hrd hx) hro, ht]
          split at ho
          · cases ho; exact ⟨_, rfl, fun h => h⟩
          · cases ho
        · cases ho
      · cases ho
  case sliceToArrayPointer t x =>
    rw [hg x (by simp [Op.operands])]
    unfold arrPtrR at ho ⊢
    split at ho
    · rename_i hx
      split at ho
      · rename_i hro ht
        simp only [rowOf_ext hh (rdOk_arr hrd hx) hro, ht]
        cases ho; exact ⟨_, rfl, fun h => h⟩
      · cases ho
    · cases ho
  case call c =>
    obtain ⟨callee, args, ats⟩ := c
    cases callee with
    | value f => simp at ho
    | invoke r m => simp at ho
    | builtin b =>
      have ha : args.toList.map s'.get = args.toList.map s.get := List.map_congr_left fun x hx => hg x (by simp only [Op.operands, Call.operands, Array.mem_append]; exact .inr (by simpa using hx))
      simp only at ho ⊢
      generalize hlst : args.toList = l at ho ha
      generalize ats.toList = ts at ho
      cases b <;> (try (simp only [quietB, Bool.false_eq_true] at hq; done)) <;> unfold builtinR at ho ⊢ <;> simp only at ho ⊢
      case unsafeSliceData =>
        match l, ho with
        | [x], ho =>
          simp only at ho ⊢
          have hx : s'.get x = s.get x := by simpa using ha
          rw [hx]
          split at ho
          · rename_i hid; cases ho; exact ⟨_, rfl, fun ⟨h1, h2⟩ => ⟨isLive_ext hh (rdOk_lenk hrd hlst hid) h1, h2⟩⟩
          · cases ho
      case len =>
        match l, ts, ho with
        | [x], [t], ho =>
          simp only at ho ⊢
          have hx : s'.get x = s.get x := by simpa using ha
          rw [hx]
          split at ho
          · rename_i hid; cases ho; exact ⟨_, rfl, fun ⟨h1, h2⟩ => ⟨h1, isLive_ext hh (rdOk_lenk hrd hlst hid) h2⟩⟩
          · cases ho; exact ⟨_, rfl, fun h => h⟩
          · cases ho; exact ⟨_, rfl, fun h => h⟩
          · cases ho; exact ⟨_, rfl, fun h => h⟩
          · rename_i id hid
            split at ho
            · rename_i es _ hes ht
              rw [mpOf_ext hh (rdOk_len hrd hlst hid) hes]
              simp only [ht]
              cases ho
              exact ⟨_, rfl, fun h => h⟩
            · cases ho
          · split at ho
            · cases ho; exact ⟨_, rfl, fun h => h⟩
            · cases ho
          · cases ho
      all_goals
        rw [ha]
        split at ho
        · cases ho; exact ⟨_, rfl, fun h => h⟩
        · cases ho
theorem takes_op {o : Oper} {s : St} {c : Prop} {r : AV} (hq : quietB o.op = true) (hd : okDst s.n o.dst = true) (hg : guardA ops o.guard = some none) (ho : opR P s o.op = some (c, r, s.h)) (hrd : rdOk W s o.op = true) (hc : c) : Takes P W ops o s r := by
  intro s' hs
  obtain ⟨c', ho', hcc⟩ := opR_sees hq (fun x hx => get_sees hs hx) hs.h hrd ho
  refine step_to ⟨by rw [hs.n]; exact hd, ?_⟩
  simp only [hg]
  exact stepA_of_opR ho' (hcc hc) rfl
theorem takes_guard {o : Oper} {s : St} {r : AV} {d : Tmp} {q b : Bool} (hd : okDst s.n o.dst = true) (hg : guardA ops o.guard = some (some (d, b))) (hl : look d s.env = .v (.bool q))
    (h1 : q = b → Takes P W ops { o with guard := none } s r) (h2 : q = (!b) → r = .v undef) : Takes P W ops o s r := by
  intro s' hs
  have hl' : look d s'.env = .v (.bool q) := by rw [guard_sees hs hg, hl]
  intro B ρ D Z a w Q Ka I hk
  unfold guardA at hg
  split at hg
  · simp at hg
  · rename_i j b' hgd
    split at hg
    · rename_i d' hdst
      simp only [Option.some.injEq, Prod.mk.injEq] at hg
      obtain ⟨rfl, rfl⟩ := hg
      have hv := I.env d'
      rw [hl'] at hv
      have hval := hv.v_inv
      have hy : yielded ops a.tmps j = some q := by
        unfold yielded
        rw [hdst]
        have hlt : d' < a.tmps.size := by
          rcases Nat.lt_or_ge d' a.tmps.size with h1 | h1
          · exact h1
          · simp [Array.getD, Nat.not_lt.2 h1, undef] at hval
        have e1 : a.tmps[d']? = some (.bool q) := by
          rw [Array.getElem?_eq_getElem hlt]
          simpa [Array.getD, hlt] using hval
        simp [e1]
      by_cases htb : q = b'
      · have hs0 : Sees W (Oper.looksAt ops { o with guard := none }) s s' := ⟨hs.n, fun t ht => hs.env t (by
          unfold Oper.looksAt at ht ⊢
          simp only [List.append_nil] at ht
          exact List.mem_append.2 (.inl ht)), hs.h⟩
        have := h1 htb s' hs0 B ρ D Z a w Q Ka I hk
        rw [if_pos (by simp [Region.wanted])] at this
        rw [if_pos (by simp [Region.wanted, hgd, hy, htb])]
        exact this
      · rw [if_neg (by simp [Region.wanted, hgd, hy, htb])]
        have hr := h2 (by cases q <;> cases b' <;> simp_all)
        exact hk _ _ _ _ _ _ rfl (by rw [hr]; exact I.puts (by rw [hs.n]; exact hd) (.v _))
    · simp at hg
theorem step_guard {o : Oper} {s : St} {d : Tmp} {b : Bool} {K : St → Prop} (hg : guardA ops o.guard = some (some (d, b))) (hl : look d s.env = .v (.bool b)) (h1 : StepTo P ops { o with guard := none } s K) : StepTo P ops o s K := by
  intro B ρ D Z a w Q Ka I hk
  unfold guardA at hg
  split at hg
  · simp at hg
  · rename_i j b' hgd
    split at hg
    · rename_i d' hdst
      simp only [Option.some.injEq, Prod.mk.injEq] at hg
      obtain ⟨rfl, rfl⟩ := hg
      have hv := I.env d'
      rw [hl] at hv
      have hval := hv.v_inv
      have hy : yielded ops a.tmps j = some b' := by
        unfold yielded
        rw [hdst]
        have hlt : d' < a.tmps.size := by
          rcases Nat.lt_or_ge d' a.tmps.size with h1 | h1
          · exact h1
          · simp [Array.getD, Nat.not_lt.2 h1, undef] at hval
        have e1 : a.tmps[d']? = some (.bool b') := by
          rw [Array.getElem?_eq_getElem hlt]
          simpa [Array.getD, hlt] using hval
        simp [e1]
      have := h1 B ρ D Z a w Q Ka I hk
      rw [if_pos (by simp [Region.wanted])] at this
      rw [if_pos (by simp [Region.wanted, hgd, hy])]
      exact this
    · simp at hg
theorem takes_over {o : Oper} {s : St} {d : Tmp} {b : Bool} {c : Array Value} (hd : okDst s.n o.dst = true) (hg : guardA ops o.guard = some (some (d, b))) (hl : look d s.env = .v (.tuple c)) : Takes P W ops o s (.v undef) := by
  intro s' hs
  have hl' : look d s'.env = .v (.tuple c) := by rw [guard_sees hs hg, hl]
  intro B ρ D Z a w Q Ka I hk
  rw [if_neg (by simp [not_yielded I hg hl'])]
  exact hk _ _ _ _ _ _ rfl (I.puts (by rw [hs.n]; exact hd) (.v _))
/-- A new row of zeros, told whole. -/
def makeFslR (P : Program) (st : St) (t : TypeId) (x y : AV) : R := match x, y with
  | .v (.int _ n), .v (.int _ m) => match slOf P t with
    | some e => match szOf P e, aggOf P e, zeroOf P e, byOf P e with
      | some sz, some g, some z, some by_ => some (z.all (·.oneCell') = true ∧ z.length = sz ∧ (g = false → sz = 1) ∧ 0 < sz ∧ 0 ≤ n ∧ n ≤ m ∧ by_ * m ≤ 140737488355328 ∧ m ≤ 9223372036854775807,
          .fsl sz (List.replicate n.toNat (AV.zero g z)), st.h)
      | _, _, _, _ => none
    | none => none
  | _, _ => none
theorem out_makeFsl {B : Base} {w : World} {ρ : Nat → Option Nat} {D Z : Nat → Prop} {st : St} {a : Act} {K : AV → List (Option Blk) → Prop} (I : Inv B ρ D Z st a w) {t e : TypeId} {sz by_ : Nat} {gg : Bool} {z : List Value} {x y : Operand} {k k' : IntKind} {n m : Int} (hx : st.get x = .v (.int k n)) (hy : st.get y = .v (.int k' m))
    (ht : slOf P t = some e) (hs : szOf P e = some sz) (hb : byOf P e = some by_) (hz : zeroOf P e = some z) (ho : z.all (·.oneCell') = true) (hzl : z.length = sz) (h1 : gg = false → sz = 1) (hpos : 0 < sz)
    (h0 : 0 ≤ n) (hnm : n ≤ m) (hby : by_ * m ≤ 140737488355328) (hmm : m ≤ 9223372036854775807)
    (hk : K (.fsl sz (List.replicate n.toNat (AV.zero gg z))) st.h) : Out P B st a w K (do pure (.value (← Instr.makeSlice t (a.eval x) (a.eval y)))) := by
  have hxv := I.get x
  rw [hx] at hxv
  have hyv := I.get y
  rw [hy] at hyv
  rw [hxv.v_inv, hyv.v_inv]
  obtain ⟨v, hv, hvz, hR⟩ := RVL.zeros (P := P) (w := w) (ρ := ρ) (D := D) (Z := Z) hz ho
  have hvs : v.cells.size = sz := by rw [← hzl, ← hvz]; simp
  have wn : IntKind.i64.wrap n = n := IntWalk.i64_in _ (by omega)
  have wm : IntKind.i64.wrap m = m := IntWalk.i64_in _ (by omega)
  cases hie : P.info? e with
  | none => simp [hie] at hv
  | some ie =>
    have hiz : ie.zero = some v := by simpa [hie] using hv
    have his : ie.size = sz := by simpa [szOf, hie] using hs
    have hib : ie.bytes = by_ := by simpa [byOf, hie] using hb
    obtain ⟨q, rfl⟩ := Int.eq_ofNat_of_zero_le (show 0 ≤ m by omega)
    obtain ⟨p, rfl⟩ := Int.eq_ofNat_of_zero_le h0
    have hzero : (zeroValue e).run P w = .ok v w := by simp [zeroValue, typeInfo, hie, hiz]
    let c : Array Value := if q * sz = 0 then (Array.range (q * sz)).map ((#[] : Array Value)[· % (#[] : Array Value).size]!) else (Array.range (q * sz)).map (v.cells[· % v.cells.size]!)
    have hcs : c.size = q * sz := by simp only [c]; split <;> simp
    have hcg : ∀ i, i < q * sz → c.getD i undef = v.cells.getD (i % sz) undef := fun i hi => by
      simp only [c]
      rw [if_neg (by omega)]
      have hm : i % sz < v.cells.size := by rw [hvs]; exact Nat.mod_lt _ hpos
      simp [Array.getD, hi, hvs, Nat.mod_lt _ hpos]
    have hrun : (do pure (.value (← Instr.makeSlice t (.int .i64 (p : Int)) (.int .i64 (q : Int)))) : Sem Next).run P w = (do pure (.value (← Instr.makeSlice t (.int .i64 (p : Int)) (.int .i64 (q : Int)))) : Sem Next).run P w := rfl
    clear hrun
    have hzc : ∀ i, i < p → ((List.replicate p (AV.zero gg z)).getD i .junk) = AV.zero gg z := fun i hi => by simp [List.getD_eq_getElem?_getD, hi]
    have hc : (AV.zero gg z).cells = z.map .v := by
      unfold AV.zero
      cases gg with
      | true => rfl
      | false =>
        have := h1 rfl
        rw [← hzl] at this
        match z, this with
        | [x], _ => rfl
    have hpq : p * sz ≤ q * sz := Nat.mul_le_mul_right _ (by omega)
    have hbel : RowKit.Below w.heap.size w (w.alloc (.cells c e)) := (RowKit.Below.refl _ _).alloc (Nat.le_refl _) _
    obtain ⟨s, H'⟩ := I.h.callee (Z' := fun k => k = w.heap.size) hbel (fun k hk => ⟨.inr (by omega), by subst hk; show _ < (w.heap.push _).size; simp⟩)
    refine ⟨.value (.slice (some ⟨w.heap.size, 0, none⟩) p q), w.alloc (.cells c e), ?_, _, .inl rfl, _, st.h, ρ, D, _, hk, ?_, I.moved s H'⟩
    · have e1 : (typeInfo e).run P w = .ok ie w := by simp [typeInfo, hie]
      have e2 : (sizeOf e).run P w = .ok sz w := run_sz hs
      simp only [Instr.makeSlice, Sem.run_bind, run_underlying (und_sl ht), Result.andThen_ok, asInt, asIntOf, Sem.run_pure, e1, wn, wm, hib]
      rw [if_neg (by simp; omega)]
      have e3 : ∀ b, (askRoom b).run P w = .ok () w := fun b => by
        unfold askRoom
        split <;> rfl
      simp only [Sem.run_bind, Int.toNat_natCast, e3, Result.andThen_ok, e2]
      by_cases hq : q * sz = 0
      · rw [if_pos hq]
        simp [newRow, c, hq]
      · rw [if_neg hq]
        simp [hzero, newRow, c, hq]
    · have hlen : (List.replicate (Int.toNat (p : Int)) (AV.zero gg z)).length = p := by simp
      suffices key : RV (w.alloc (.cells c e)) ρ D (fun k => Z k ∨ k = w.heap.size) (.fsl sz (List.replicate (Int.toNat (p : Int)) (AV.zero gg z))) (.slice (some ⟨w.heap.size, 0, none⟩) (List.replicate (Int.toNat (p : Int)) (AV.zero gg z)).length q) by
        rw [hlen] at key
        exact key
      rw [Int.toNat_natCast] at hlen ⊢
      refine .fsl (fun i j => c.getD (i * sz + j) undef) (by rw [hlen]; omega) (by unfold maxLen; omega) (fun i hi => ?_) (fun i j hi hj => ?_) (fun i j hi hj => ?_) (fun i j hi hj => ?_) <;> rw [hlen] at hi
      · rw [hzc i hi, hc]; simp [hzl]
      · have := mul_lt hi hj
        refine ⟨_, rfl, .inr rfl, ?_⟩
        rw [Addr.add_plain, Nat.zero_add]
        exact cell_row (heap_new w _) (by omega)
      · have := mul_lt hi hj
        rw [hcg _ (by omega)]
        have e4 : (i * sz + j) % sz = j := by rw [Nat.add_comm, Nat.add_mul_mod_self_right]; exact Nat.mod_eq_of_lt hj
        rw [e4]
        exact (hR.2 j (by simp; omega)).2
      · have := mul_lt hi hj
        rw [hzc i hi, hcg _ (by omega)]
        have e4 : (i * sz + j) % sz = j := by rw [Nat.add_comm, Nat.add_mul_mod_self_right]; exact Nat.mod_eq_of_lt hj
        rw [e4]
        unfold AV.cellAt
        rw [hc]
        exact (hR.2 j (by simp; omega)).1.step s
theorem takes_make {o : Oper} {s : St} {t : TypeId} {x y : Operand} {c : Prop} {r : AV} {h : List (Option Blk)} (ho : o.op = .makeSlice t x y) (hd : okDst s.n o.dst = true) (hg : guardA ops o.guard = some none)
    (hr : makeFslR P s t (s.get x) (s.get y) = some (c, r, h)) (hc : c) : Takes P W ops o s r := by
  intro s' hs B ρ D Z a w Q Ka I hq
  have hw : Region.wanted o (yielded ops a.tmps) = true := by
    unfold guardA at hg
    split at hg
    · rename_i hgd; simp [Region.wanted, hgd]
    · split at hg <;> simp at hg
  rw [if_pos hw]
  have gx : s'.get x = s.get x := get_sees hs (by rw [ho]; simp [Op.operands])
  have gy : s'.get y = s.get y := get_sees hs (by rw [ho]; simp [Op.operands])
  unfold makeFslR at hr
  split at hr
  · rename_i k n k' m hx hy
    split at hr
    · rename_i e ht
      split at hr
      · rename_i sz g z by_ hs' hg' hz hb
        cases hr
        obtain ⟨h1, h2, h3, h4, h5, h6, h7, h8⟩ := hc
        obtain ⟨nx, w', hrun, v, hnx, av, h', ρ', D', Z', ⟨rfl, rfl⟩, hv, I'⟩ := out_makeFsl (K := fun r' h' => r' = .fsl sz (List.replicate n.toNat (AV.zero g z)) ∧ h' = s'.h) I (gx.trans hx) (gy.trans hy) ht hs' hb hz h1 h2 h3 h4 h5 h6 h7 h8 ⟨rfl, rfl⟩
        have hI := I'.puts (d := o.dst) (by show okDst s'.n o.dst = true; rw [hs.n]; exact hd) hv
        unfold Oper.wp
        have : execOp a.eval o = (do pure (.value (← Instr.makeSlice t (a.eval x) (a.eval y))) : Sem Next) := by simp [execOp, ho]
        rw [this, hrun]
        rcases hnx with rfl | ⟨rfl, rfl⟩
        · exact hq _ _ _ _ _ _ rfl hI
        · exact hq _ _ _ _ _ _ rfl hI
      · cases hr
    · cases hr
  · cases hr
/-- A call in such a region: what it answers. -/
def CallD (P : Program) (W : WS) (f : FuncId) (args : List AV) (s : St) (r : AV) : Prop := PCon P f (AV.renL noF args) (fun x => x = r) ∨ (r.closed = true ∧ ∀ h', HeapW W s.h h' → PCon P f (fzL h' args) fun x => x = r)
theorem takes_call {o : Oper} {s : St} {r : AV} {c : Call} {f : Operand} {fid : FuncId} {fs cs : List AV} (ho : o.op = .call c) (hf : c.callee = .value f) (hd : okDst s.n o.dst = true) (hg : guardA ops o.guard = some none)
    (hc : calleeA (s.get f) = some (fid, fs, cs)) (hp : plainFn P fid = true) (hr : CallD P W fid (fs ++ c.args.toList.map s.get ++ cs) s r) : Takes P W ops o s r := by
  intro s' hs
  have hgf : s'.get f = s.get f := get_sees hs (by rw [ho]; simp [Op.operands, Call.operands, hf])
  have ha : c.args.toList.map s'.get = c.args.toList.map s.get := List.map_congr_left fun x hx => get_sees hs (by
    rw [ho]
    simp only [Op.operands, Call.operands, Array.mem_append]
    exact .inr (by simpa using hx))
  refine step_to ⟨by rw [hs.n]; exact hd, ?_⟩
  simp only [hg]
  unfold stepA
  simp only [ho, hf, hgf, hc, ha]
  refine ⟨hp, ?_⟩
  have hd' : okDst s'.n o.dst = true := by rw [hs.n]; exact hd
  rcases hr with hr | ⟨hcl, hr⟩
  · exact callA_pure hr hd' fun r' e => by rw [e]
  · exact callA_read (hr _ hs.h) hd' fun r' e => by rw [e]; exact ⟨hcl, rfl⟩

/-- The reckoning; where a call is met, its answer is asked for. -/
def CallW (P : Program) (W : WS) (ops : Array Oper) (f : FuncId) (args : List AV) (d : Option Tmp) (rest : List Oper) (t : List It) (st : St) (K : Exit → St → Prop) : Prop :=
  (∃ r, CallD P W f args st r ∧ ((lOf W = true → lastDep ops (ops.size - 1) = true) → RunD P W ops rest (st.put d r) (Cl fun s => TriT P t s K))) ∨
  (rest = [] ∧ lastDep ops (ops.size - 1) = true ∧ CallA P f args st d (Cl fun s => TriT P t s K)) ∨
  (hardB W ops d = true ∧ ∃ r h2, HeapW W st.h h2 ∧ (∀ s', s'.n = st.n → s'.h = st.h → CallA P f args s' d fun x => x = ({ s' with h := h2 } : St).put d r) ∧ ((lOf W = true → lastDep ops (ops.size - 1) = true) → RunD P W ops rest ({ st with h := h2 }.put d r) (Cl fun s => TriT P t s K)))
def runD (P : Program) (W : WS) (ops : Array Oper) : Nat → List Oper → List It → St → (Exit → St → Prop) → Prop
  | 0, _, _, _, _ => False
  | n + 1, [], t, st, K => run P n t st K
  | n + 1, o :: rest, t, st, K => okDst st.n o.dst = true ∧ match guardA ops o.guard with
    | none => False
    | some none => match quietW W o.op with
      | true => match o.op with
        | .makeSlice tt x y => thenR (makeFslR P st tt (st.get x) (st.get y)) fun r _ => runD P W ops n rest t (st.put o.dst r) K
        | .call c => match c.callee with
          | .value f => thenC (calleeA (st.get f)) fun f fs cs => plainFn P f = true ∧ CallW P W ops f (fs ++ c.args.toList.map st.get ++ cs) o.dst rest t st K
          | _ => thenR (opR P st o.op) fun r h => (h = st.h ∧ rdOk W st o.op = true) ∧ runD P W ops n rest t (st.put o.dst r) K
        | op => thenR (opR P st op) fun r h => (h = st.h ∧ rdOk W st op = true) ∧ runD P W ops n rest t (st.put o.dst r) K
      | false => match allocB o.op with
        | true => o.guard = none ∧ thenR (opR P st o.op) fun r h => (∃ b, h = st.h ++ [b]) ∧ runD P W ops n rest t ({ st with h := h }.put o.dst r) K
        | false => thenR (opR P st o.op) fun r h => okL W st o.op h rest ∧ runD P W ops n rest t ({ st with h := h }.put o.dst r) K
    | some (some (d, b)) => quietB o.op = true ∧ thenG (look d st.env) (fun q => thenI (q = b) (runD P W ops n ({ o with guard := none } :: rest) t { st with env := (d, .v (.bool b)) :: st.env } K) ∧ thenI (q = !b) (runD P W ops n rest t ({ st with env := (d, .v (.bool (!b))) :: st.env }.put o.dst (.v undef)) K)) (runD P W ops n rest t (st.put o.dst (.v undef)) K)
/-! ### The reckoning's rules -/
section
variable {st : St} {K : Exit → St → Prop}
def runDI (P : Program) (W : WS) (ops : Array Oper) (n : Nat) (l : List Oper) (t : List It) (st : St) (K : Exit → St → Prop) (p : Prop) : Prop := p → runD P W ops n l t st K
theorem runDI_true {n : Nat} {l : List Oper} {t : List It} : runDI P W ops n l t st K True = runD P W ops n l t st K := by simp [runDI]
theorem runDI_false {n : Nat} {l : List Oper} {t : List It} : runDI P W ops n l t st K False = True := by simp [runDI]
theorem runDI_eq {α : Type} {a b : α} {n : Nat} {l : List Oper} {t : List It} : runDI P W ops n l t st K (a = b) = (a = b → runD P W ops n l t st K) := rfl
theorem runDI_lt {a b : Int} {n : Nat} {l : List Oper} {t : List It} : runDI P W ops n l t st K (a < b) = (a < b → runD P W ops n l t st K) := rfl
theorem runDI_le {a b : Int} {n : Nat} {l : List Oper} {t : List It} : runDI P W ops n l t st K (a ≤ b) = (a ≤ b → runD P W ops n l t st K) := rfl
theorem runDI_not {p : Prop} {n : Nat} {l : List Oper} {t : List It} : runDI P W ops n l t st K (¬ p) = (¬ p → runD P W ops n l t st K) := rfl
theorem runDI_and {p q : Prop} {n : Nat} {l : List Oper} {t : List It} : runDI P W ops n l t st K (p ∧ q) = (p ∧ q → runD P W ops n l t st K) := rfl
theorem runDI_or {p q : Prop} {n : Nat} {l : List Oper} {t : List It} : runDI P W ops n l t st K (p ∨ q) = (p ∨ q → runD P W ops n l t st K) := rfl
def runDR (P : Program) (W : WS) (ops : Array Oper) (n : Nat) (rest : List Oper) (t : List It) (dst : Option Tmp) (st : St) (K : Exit → St → Prop) (op : Op) (x : R) : Prop :=
  thenT (quietB op) (thenR x fun r h => (h = st.h ∧ rdOk W st op = true) ∧ runD P W ops n rest t (st.put dst r) K)
    (thenT (allocB op) (thenR x fun r h => (∃ b, h = st.h ++ [b]) ∧ runD P W ops n rest t ({ st with h := h }.put dst r) K) (thenR x fun r h => okL W st op h rest ∧ runD P W ops n rest t ({ st with h := h }.put dst r) K))
def runDQ (P : Program) (W : WS) (ops : Array Oper) (n : Nat) (rest : List Oper) (t : List It) (dst : Option Tmp) (st : St) (K : Exit → St → Prop) (op : Op) (q a : Bool) (c : Prop) (r : AV) (h : List (Option Blk)) : Prop :=
  c ∧ match q with
    | true => (h = st.h ∧ rdOk W st op = true) ∧ runD P W ops n rest t (st.put dst r) K
    | false => (match a with
      | true => ∃ b, h = st.h ++ [b]
      | false => okL W st op h rest) ∧ runD P W ops n rest t ({ st with h := h }.put dst r) K
theorem runDR_some {n : Nat} {rest : List Oper} {t : List It} {dst : Option Tmp} {op : Op} {c : Prop} {r : AV} {h : List (Option Blk)} : runDR P W ops n rest t dst st K op (some (c, r, h)) = runDQ P W ops n rest t dst st K op (quietB op) (allocB op) c r h := by
  simp only [runDR, runDQ, thenR]
  cases quietB op <;> cases allocB op <;> simp [thenT]
theorem runDR_none {n : Nat} {rest : List Oper} {t : List It} {dst : Option Tmp} {op : Op} : runDR P W ops n rest t dst st K op none = False := by
  simp only [runDR, thenR]
  cases quietB op <;> cases allocB op <;> simp [thenT]
theorem runDQ_quiet {n : Nat} {rest : List Oper} {t : List It} {dst : Option Tmp} {op : Op} {a : Bool} {c : Prop} {r : AV} {h : List (Option Blk)} : runDQ P W ops n rest t dst st K op true a c r h = (c ∧ (h = st.h ∧ rdOk W st op = true) ∧ runD P W ops n rest t (st.put dst r) K) := rfl
theorem runDQ_alloc {n : Nat} {rest : List Oper} {t : List It} {dst : Option Tmp} {op : Op} {c : Prop} {r : AV} {h : List (Option Blk)} : runDQ P W ops n rest t dst st K op false true c r h = (c ∧ (∃ b, h = st.h ++ [b]) ∧ runD P W ops n rest t ({ st with h := h }.put dst r) K) := by simp [runDQ]
theorem runDQ_hard {n : Nat} {rest : List Oper} {t : List It} {dst : Option Tmp} {op : Op} {c : Prop} {r : AV} {h : List (Option Blk)} : runDQ P W ops n rest t dst st K op false false c r h = (c ∧ okL W st op h rest ∧ runD P W ops n rest t ({ st with h := h }.put dst r) K) := by simp [runDQ]
theorem rdOk_none {st : St} {op : Op} : rdOk none st op = true := rfl
theorem okW_none {st : St} {op : Op} {h : List (Option Blk)} : okW none st op h = True := rfl
def runDH (P : Program) (W : WS) (ops : Array Oper) (n : Nat) (lA lB : List Oper) (t : List It) (dst : Option Tmp) (b : Bool) (st : St) (K : Exit → St → Prop) (d : Tmp) (x : AV) : Prop :=
  thenG x (fun q => thenI (q = b) (runD P W ops n lA t { st with env := (d, .v (.bool b)) :: st.env } K) ∧ thenI (q = !b) (runD P W ops n lB t ({ st with env := (d, .v (.bool (!b))) :: st.env }.put dst (.v undef)) K)) (runD P W ops n lB t (st.put dst (.v undef)) K)
theorem runDH_bool {n : Nat} {lA lB : List Oper} {t : List It} {dst : Option Tmp} {b : Bool} {d : Tmp} {q : Bool} : runDH P W ops n lA lB t dst b st K d (.v (.bool q)) =
  (runDI P W ops n lA t { st with env := (d, .v (.bool b)) :: st.env } K (q = b) ∧ runDI P W ops n lB t ({ st with env := (d, .v (.bool (!b))) :: st.env }.put dst (.v undef)) K (q = !b)) := rfl
theorem runDH_undef {n : Nat} {lA lB : List Oper} {t : List It} {dst : Option Tmp} {b : Bool} {d : Tmp} : runDH P W ops n lA lB t dst b st K d (.v undef) = runD P W ops n lB t (st.put dst (.v undef)) K := rfl
def runDG (P : Program) (W : WS) (ops : Array Oper) (n : Nat) (lA lB : List Oper) (t : List It) (dst : Option Tmp) (b : Bool) (st : St) (K : Exit → St → Prop) (x : Option Tmp) : Prop := thenO x (fun d => runDH P W ops n lA lB t dst b st K d (look d st.env)) False
theorem runDG_some {n : Nat} {lA lB : List Oper} {t : List It} {dst : Option Tmp} {b : Bool} {d : Tmp} : runDG P W ops n lA lB t dst b st K (some d) = runDH P W ops n lA lB t dst b st K d (look d st.env) := rfl
def runDC (P : Program) (W : WS) (ops : Array Oper) (args : List AV) (st : St) (d : Option Tmp) (rest : List Oper) (t : List It) (K : Exit → St → Prop) (x : Option (FuncId × List AV × List AV)) : Prop :=
  thenC x fun f fs cs => plainFn P f = true ∧ CallW P W ops f (fs ++ args ++ cs) d rest t st K
theorem runDC_some {args : List AV} {d : Option Tmp} {rest : List Oper} {t : List It} {f : FuncId} {fs cs : List AV} : runDC P W ops args st d rest t K (some (f, fs, cs)) = (plainFn P f = true ∧ CallW P W ops f (fs ++ args ++ cs) d rest t st K) := rfl
/-- In the strict way, or in the other. -/
def mkD (W : WS) (p q : Prop) : Prop := match W with
  | none => q
  | some _ => p
theorem mkD_none {p q : Prop} : mkD none p q = q := rfl
theorem mkD_some {f : Nat → Bool} {p q : Prop} : mkD (some f) p q = p := rfl
/-- An operation at its turn. -/
def runDO (P : Program) (W : WS) (ops : Array Oper) (n : Nat) (rest : List Oper) (t : List It) (dst : Option Tmp) (op : Op) (st : St) (K : Exit → St → Prop) : Prop := match op with
  | .call c => match c.callee with
    | .value f => runDC P W ops (c.args.toList.map st.get) st dst rest t K (calleeA (st.get f))
    | .builtin b => runDR P W ops n rest t dst st K (.call c) (builtinR P st b c.args.toList c.argTypes.toList)
    | _ => False
  | .makeSlice tt x y => mkD W (thenR (makeFslR P st tt (st.get x) (st.get y)) fun r _ => runD P W ops n rest t (st.put dst r) K) (runDR P W ops n rest t dst st K (.makeSlice tt x y) (opR P st (.makeSlice tt x y)))
  | op => runDR P W ops n rest t dst st K op (opR P st op)
theorem runD_nil (n : Nat) {t : List It} : runD P W ops (n + 1) [] t st K = run P n t st K := by simp only [runD]
theorem quietW_call {c : Call} : quietW W (.call c) = quietB (.call c) := by simp [quietW, isMk]
theorem runD_op (n : Nat) {dst : Option Tmp} {op : Op} {ty : TypeId} {pos : String} {af : Array Edge} {rest : List Oper} {t : List It} :
    runD P W ops (n + 1) (⟨dst, op, ty, pos, af, none⟩ :: rest) t st K = (okDst st.n dst = true ∧ runDO P W ops n rest t dst op st K) := by
  by_cases hc : ∃ c, op = .call c
  · obtain ⟨c, rfl⟩ := hc
    simp only [runD, guardA, runDO, runDR, runDC, true_and, quietW_call]
    cases hcal : c.callee with
    | value f => simp only [quietB, hcal]
    | builtin b =>
      have hx : opR P st (.call c) = builtinR P st b c.args.toList c.argTypes.toList := by simp only [opR, hcal]
      cases hq : quietB (.call c) <;> simp only [hx, thenT]
      cases ha : allocB (.call c) <;> simp only
    | invoke r m =>
      have hx : opR P st (.call c) = none := by simp only [opR, hcal]
      have hq : quietB (.call c) = false := by simp only [quietB, hcal]
      simp only [hq, allocB, hx, thenR]
  · by_cases hmk : ∃ tt x y, op = .makeSlice tt x y
    · obtain ⟨tt, x, y, rfl⟩ := hmk
      cases W with
      | none => simp [runD, guardA, runDO, mkD_none, quietW, quietB, isMk, runDR, thenT, allocB]
      | some f => simp [runD, guardA, runDO, mkD_some, quietW, quietB, isMk]
    have e : runDO P W ops n rest t dst op st K = runDR P W ops n rest t dst st K op (opR P st op) := by
      unfold runDO
      cases op <;> first | rfl | exact absurd ⟨_, rfl⟩ hc | exact absurd ⟨_, _, _, rfl⟩ hmk
    have eq : quietW W op = quietB op := by
      unfold quietW
      cases op <;> first | simp [isMk]; done | exact absurd ⟨_, _, _, rfl⟩ hmk
    rw [e]
    simp only [runD, guardA, runDR, true_and, eq]
    cases hq : quietB op <;> simp only [thenT]
    · cases ha : allocB op <;> simp only
    · cases op <;> first | rfl | exact absurd ⟨_, rfl⟩ hc | exact absurd ⟨_, _, _, rfl⟩ hmk
theorem runD_guard (n : Nat) {dst : Option Tmp} {op : Op} {ty : TypeId} {pos : String} {af : Array Edge} {j : Nat} {b : Bool} {rest : List Oper} {t : List It} :
    runD P W ops (n + 1) (⟨dst, op, ty, pos, af, some (j, b)⟩ :: rest) t st K = (okDst st.n dst = true ∧ quietB op = true ∧ runDG P W ops n (⟨dst, op, ty, pos, af, none⟩ :: rest) rest t dst b st K ((ops[j]?).bind (·.dst))) := by
  simp only [runD, guardA, runDG]
  cases (ops[j]?).bind (·.dst) <;> simp only [thenO, runDH, and_false]
end
theorem eq_known {st : St} {d : Tmp} {x : AV} (h : look d st.env = x) : EqSt { st with env := (d, x) :: st.env } st := ⟨rfl, rfl, fun t => by
  simp only [look]
  split
  · rename_i e; subst e; exact h
  · rfl, rfl⟩
theorem runD_eq {Kn : St → Prop} (hK : ∀ s s', EqSt s s' → Kn s → Kn s') : ∀ (l : List Oper) (s s' : St), EqSt s s' → RunD P W ops l s Kn → RunD P W ops l s' Kn
  | [], _, _, e, h => hK _ _ e h
  | o :: rest, s, s', e, h => by
    rcases h with ⟨hq, r, ht, hr⟩ | ⟨ha, hg, hd, c, r, b, hop, hc, hr⟩ | ⟨ha, hg, hd, c, r, h', hop, hc, hw, hr⟩ | ⟨h1, h2, h4, h3⟩ | ⟨h1, h2, h3⟩ | ⟨h1, r, h5, hgv, hw, hr⟩
    · exact .inl ⟨hq, r, ht.sees (e.sees _), runD_eq hK rest _ _ (e.put _ _) hr⟩
    · refine .inr (.inl ⟨ha, hg, by rw [e.n]; exact hd, c, r, b, by rw [opR_alloc ha (fun x _ => eqSt_get e x) e.h, e.h]; exact hop, hc, runD_eq hK rest _ _ (EqSt.put ?_ _ _) hr⟩)
      exact ⟨e.n, e.m, e.env, by simp only [e.h]⟩
    · refine .inr (.inr (.inl ⟨ha, hg, by rw [e.n]; exact hd, c, r, h', by rw [opR_store ha (fun x _ => eqSt_get e x) e.h]; exact hop, hc, by rw [e.h]; exact hw, runD_eq hK rest _ _ (EqSt.put ?_ _ _) hr⟩))
      exact ⟨e.n, e.m, e.env, rfl⟩
    · exact .inr (.inr (.inr (.inl ⟨h1, h2, h4, stepTo_eq e h3⟩)))
    · exact .inr (.inr (.inr (.inr (.inl ⟨h1, h2, stepTo_eq e h3⟩))))
    · refine .inr (.inr (.inr (.inr (.inr ⟨h1, r, h5, hgv.eqs e, by rw [e.h]; exact hw, runD_eq hK rest _ _ (EqSt.put ?_ _ _) hr⟩))))
      exact ⟨e.n, e.m, e.env, rfl⟩
theorem runD_sound {t : List It} {K : Exit → St → Prop} (hL : lOf W = true → lastDep ops (ops.size - 1) = true) : ∀ (n : Nat) (l : List Oper) (st : St), runD P W ops n l t st K → RunD P W ops l st (Cl fun s => TriT P t s K)
  | 0, _, _, h => h.elim
  | n + 1, [], st, h => ⟨st, EqSt.refl st, run_sound n t st h⟩
  | n + 1, o :: rest, st, h => by
    simp only [runD, thenR, thenG, thenC, thenI] at h
    obtain ⟨hd, h⟩ := h
    split at h
    · exact h.elim
    · rename_i hg
      have quiet : ∀ x : R, quietB o.op = true → opR P st o.op = x → (match x with
          | some (c, r, h) => c ∧ (h = st.h ∧ rdOk W st o.op = true) ∧ runD P W ops n rest t (st.put o.dst r) K
          | none => False) → RunD P W ops (o :: rest) st (Cl fun s => TriT P t s K) := fun x hq ho hx => by
        cases x with
        | none => exact hx.elim
        | some y =>
          obtain ⟨c, r, h'⟩ := y
          obtain ⟨hc, ⟨rfl, hrd⟩, hr⟩ := hx
          exact .inl ⟨quietW_of hq, r, takes_op hq hd hg ho hrd hc, runD_sound hL n rest _ hr⟩
      split at h
      · rename_i hq
        split at h
        · rename_i tt x y hop
          split at h
          · rename_i c r h' hr
            exact .inl ⟨hq, r, takes_make hop hd hg hr h.1, runD_sound hL n rest _ h.2⟩
          · exact h.elim
        · rename_i c hop
          have hqb : quietB o.op = true := by rw [hop] at hq ⊢; rwa [quietW_call] at hq
          split at h
          · rename_i f hf
            split at h
            · rename_i fid fs cs hc
              obtain ⟨hp, ⟨r, hr, hrun⟩ | ⟨h1, h2, h3⟩ | ⟨h1, r, h5, hw, h2, h3⟩⟩ := h
              · exact .inl ⟨hq, r, takes_call hop hf hd hg hc hp hr, hrun hL⟩
              · refine .inr (.inr (.inr (.inr (.inl ⟨h1, h2, step_to ⟨hd, ?_⟩⟩))))
                simp only [hg]
                unfold stepA
                simp only [hop, hf, hc]
                exact ⟨hp, h3⟩
              · refine .inr (.inr (.inr (.inr (.inr ⟨h1, r, h5, fun s' hn he hh => ?_, hw, h3 hL⟩))))
                have hs : Sees none (o.looksAt ops) st s' := ⟨hn, he, HeapW.of_eq none hh⟩
                have hgf : s'.get f = st.get f := get_sees hs (by rw [hop]; simp [Op.operands, Call.operands, hf])
                have ha : c.args.toList.map s'.get = c.args.toList.map st.get := List.map_congr_left fun x hx => get_sees hs (by
                  rw [hop]
                  simp only [Op.operands, Call.operands, Array.mem_append]
                  exact .inr (by simpa using hx))
                refine step_to ⟨by rw [hn]; exact hd, ?_⟩
                simp only [hg]
                unfold stepA
                simp only [hop, hf, hgf, hc, ha]
                exact ⟨hp, h2 s' hn hh⟩
            · exact h.elim
          · exact quiet _ hqb (by rw [hop]) h
        · rename_i hnm _
          have hqb : quietB o.op = true := by
            unfold quietW at hq
            cases hop : o.op <;> first | (rw [hop] at hq; simpa [isMk] using hq) | exact absurd hop (hnm _ _ _)
          exact quiet _ hqb rfl h
      · rename_i hq
        split at h
        · rename_i ha
          obtain ⟨hgd, h⟩ := h
          split at h
          · rename_i c r h' ho
            obtain ⟨hc, ⟨b, rfl⟩, hr⟩ := h
            exact .inr (.inl ⟨ha, hgd, hd, c, r, b, ho, hc, runD_sound hL n rest _ hr⟩)
          · exact h.elim
        · rename_i ha
          split at h
          · rename_i c r h' ho
            obtain ⟨h1, h2, h3⟩ := h
            by_cases hlast : rest = [] ∧ lOf W = true
            · refine .inr (.inr (.inr (.inr (.inl ⟨hlast.1, hL hlast.2, step_to ⟨hd, ?_⟩⟩))))
              simp only [hg]
              have h4 := runD_sound hL n _ _ h3
              rw [hlast.1] at h4
              exact stepA_of_opR ho h1 h4
            have h2 : okW W st o.op h' := by
              unfold okL at h2
              split at h2
              · cases hw : lOf W with
                | true => exact absurd ⟨rfl, hw⟩ hlast
                | false => rw [hw] at h2; exact h2
              · exact h2
            by_cases hs : W.isSome = true ∧ storeB o.op = true
            · have hgd : o.guard = none := by
                unfold guardA at hg
                split at hg
                · rename_i hgd; exact hgd
                · split at hg <;> simp at hg
              exact .inr (.inr (.inl ⟨hs.2, hgd, hd, c, r, h', ho, h1, okW_store hs.1 hs.2 h2, runD_sound hL n rest _ h3⟩))
            · refine .inr (.inr (.inr (.inl ⟨hq, ha, fun hw => Bool.eq_false_iff.2 fun h => hs ⟨hw, h⟩, step_to ⟨hd, ?_⟩⟩)))
              simp only [hg]
              exact stepA_of_opR ho h1 (runD_sound hL n rest _ h3)
          · exact h.elim
    · rename_i d b hg
      obtain ⟨hq, h⟩ := h
      split at h
      · rename_i q hl
        by_cases hqb : q = b
        · have h1 := runD_sound hL n _ _ (h.1 hqb)
          have h2 := runD_eq cl_eq _ _ _ (eq_known (by rw [hl, hqb])) h1
          rcases h2 with ⟨_, r, ht, hr⟩ | ⟨ha, _⟩ | ⟨ha, _⟩ | ⟨h3, _⟩ | ⟨h3, h4, h5⟩ | ⟨h3, r, h6, hgv, hw, hr⟩
          · exact .inl ⟨quietW_of hq, r, takes_guard hd hg hl (fun _ => ht) (fun e => by rw [hqb] at e; cases b <;> cases e), hr⟩
          · exfalso
            revert hq ha
            cases o.op <;> simp [allocB, quietB]
          · have := store_hard ha
            rw [hq] at this; cases this
          · rw [quietW_of hq] at h3; cases h3
          · exact .inr (.inr (.inr (.inr (.inl ⟨h3, h4, step_guard hg (by rw [hl, hqb]) h5⟩))))
          · refine .inr (.inr (.inr (.inr (.inr ⟨h3, r, h6, fun s' hn he hh => step_guard hg ?_ (hgv s' hn (fun t ht => he t ?_) hh), hw, hr⟩))))
            · rw [guard_sees (W := none) ⟨hn, he, HeapW.of_eq none hh⟩ hg, hl, hqb]
            · unfold Oper.looksAt at ht ⊢
              simp only [List.append_nil] at ht ⊢
              exact List.mem_append.2 (.inl (by simpa using ht))
        · have hqb' : q = !b := by cases q <;> cases b <;> simp_all
          have h1 := runD_sound hL n _ _ (h.2 hqb')
          exact .inl ⟨quietW_of hq, .v undef, takes_guard hd hg hl (fun e => absurd e hqb) (fun _ => rfl), runD_eq cl_eq _ _ _ ((eq_known (by rw [hl, hqb'])).put _ _) h1⟩
      · rename_i c hl
        exact .inl ⟨quietW_of hq, .v undef, takes_over hd hg hl, runD_sound hL n rest _ h⟩
      · exact h.elim
/-- A region whose order is open is met. -/
theorem wait_draw (n : Nat) {id : Nat} {st : St} {t : List It} {K : Exit → St → Prop} (hm : P.follows .mixedOrders = true) (hB : drawB none ops = true) (h : runD P none ops n ops.toList t st K) : Wait P (.region id ops true) t st K := by
  unfold Wait
  simp only [TriT]
  exact tri_draw hm hB (runD_sound (fun h => by cases h) n _ _ h)
/-- Likewise; stores into the blocks f may come ahead of what reads other blocks. -/
theorem wait_drawW (f : Nat → Bool) (n : Nat) {id : Nat} {st : St} {t : List It} {K : Exit → St → Prop} (hm : P.follows .mixedOrders = true) (hB : drawB (some f) ops = true) (h : f lastK = false ∧ runD P (some f) ops n ops.toList t st K) : Wait P (.region id ops true) t st K := by
  unfold Wait
  simp only [TriT]
  exact tri_draw (W := some f) hm hB (runD_sound (fun h0 => by have := h.1; simp only [lOf] at h0; rw [this] at h0; cases h0) n _ _ h.2)
/-- Likewise, by an order that is told; f: the blocks that may be written (n) or given up (n + killK). -/
theorem wait_drawL (ks : List Nat) (f : Nat → Bool) (n : Nat) {id : Nat} {st : St} {t : List It} {K : Exit → St → Prop} (hm : P.follows .mixedOrders = true) (hB : (drawL (some f) ops ks && lastDep ops (ops.size - 1)) = true) (h : runD P (some f) ops n (pickO ops ks) t st K) : Wait P (.region id ops true) t st K := by
  unfold Wait
  simp only [TriT]
  exact tri_drawL (W := some f) ks hm (Bool.and_eq_true_iff.1 hB).1 (runD_sound (fun _ => (Bool.and_eq_true_iff.1 hB).2) n _ _ h)
/-- Likewise, in the order as it stands; the last one hangs on all others. -/
theorem wait_drawV (f : Nat → Bool) (n : Nat) {id : Nat} {st : St} {t : List It} {K : Exit → St → Prop} (hm : P.follows .mixedOrders = true) (hB : (drawB (some f) ops && lastDep ops (ops.size - 1)) = true) (h : runD P (some f) ops n ops.toList t st K) : Wait P (.region id ops true) t st K := by
  unfold Wait
  simp only [TriT]
  exact tri_draw (W := some f) hm (Bool.and_eq_true_iff.1 hB).1 (runD_sound (fun _ => (Bool.and_eq_true_iff.1 hB).2) n _ _ h)
/-- Its calls. -/
theorem call_draw (n : Nat) {f : FuncId} {args args' : List AV} {d : Option Tmp} {rest : List Oper} {t : List It} {st : St} {K : Exit → St → Prop} {r : AV} (c : PCon P f args' fun x => x = r) (ha : AV.renL noF args = args')
    (h : runD P W ops n rest t (st.put d r) K) : CallW P W ops f args d rest t st K :=
  .inl ⟨r, .inl (by rw [ha]; exact c), fun hL => runD_sound hL n _ _ h⟩
theorem call_draw_read (n : Nat) {f : FuncId} {args args' : List AV} {d : Option Tmp} {rest : List Oper} {t : List It} {st : St} {K : Exit → St → Prop} {r : AV} (c : PCon P f args' fun x => x = r) (hr : r.closed = true) (ha : ∀ ext, fzL (st.h ++ ext) args = args')
    (h : runD P none ops n rest t (st.put d r) K) : CallW P none ops f args d rest t st K :=
  .inl ⟨r, .inr ⟨hr, fun h' hw => by obtain ⟨e, rfl⟩ := hw.none_ext; rw [ha]; exact c⟩, fun hL => runD_sound hL n _ _ h⟩
end
end Pm
end Go.Proofs.YtdgoompjoeffcaaGreat
