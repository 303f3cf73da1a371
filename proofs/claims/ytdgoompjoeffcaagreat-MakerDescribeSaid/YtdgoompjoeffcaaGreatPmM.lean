import Derived.Test.YtdgoompjoeffcaaGreatPmK
import Derived.Orders
/- PM, part L: a function's contract by the reckoning. -/
namespace Go.Proofs.YtdgoompjoeffcaaGreat
namespace Pm
theorem pcon_run (n : Nat) {P : Program} {f : FuncId} {fn : Func} {c : Code} {rs : Array ResultVar} {k : Nat} {args : List AV} {Q : AV → Prop} (hf : P.funcs[f]? = some fn) (hb : fn.body = some c) (hr : fn.results = rs) (hk : fn.ntmps = k) (hle : args.length ≤ k)
    (h : run P n [.code c] ⟨k, 0, envOf args, []⟩ (retP P rs Q)) : PCon P f args Q := by
  subst hr hk
  exact pcon_of hf hb hle (tri_run n h)
end Pm
end Go.Proofs.YtdgoompjoeffcaaGreat
/- PM, part M: regions whose order is open. -/
namespace Go.Proofs.YtdgoompjoeffcaaGreat
namespace Pm

/-- An operation that only reads. -/
def quietB : Op → Bool
  | .move _ => true
  | .assign _ => true
  | .pick _ _ _ => true
  | .load _ _ => true
  | .nilCheck _ => true
  | .fieldAddr _ _ _ => true
  | .indexAddr _ _ _ => true
  | .index _ _ _ => true
  | .field _ _ _ => true
  | .extract _ _ => true
  | .binOp _ _ _ _ _ => true
  | .unOp _ _ _ => true
  | .convert _ _ _ => true
  | .makeFunc _ _ _ => true
  | .build _ _ => true
  | .slice _ _ _ _ none => true
  | .sliceToArrayPointer _ _ => true
  | .lookup _ _ _ _ => true
  | .call c => match c.callee with
    | .value _ => true
    | .builtin .len => true
    | .builtin .max => true
    | .builtin .min => true
    | .builtin .unsafeSliceData => true
    | _ => false
  | _ => false
def allocB : Op → Bool
  | .alloc _ => true
  | .box _ _ => true
  | .buildSlice _ _ _ => true
  | _ => false
def storeB : Op → Bool
  | .store _ _ _ => true
  | .call c => match c.callee with
    | .builtin .append => true
    | _ => false
  | _ => false
theorem store_hard {o : Op} (h : storeB o = true) : quietB o = false := by
  cases o <;> (try (simp [storeB] at h; done)) <;> (try rfl)
  rename_i c
  obtain ⟨callee, args, ats⟩ := c
  cases callee with
  | value f => simp [storeB] at h
  | invoke r m => simp [storeB] at h
  | builtin b => cases b <;> first | rfl | (simp [storeB] at h; done)
/-- Which blocks may be written while the order is open: none, in the strict way; some, where stores may come ahead of what reads other blocks. -/
abbrev WS := Option (Nat → Bool)
def wOf (W : WS) (id : Nat) : Bool := match W with
  | none => false
  | some f => f id
/-- In the way that is not strict a new row of zeros is told whole at once. -/
def isMk : Op → Bool
  | .makeSlice _ _ _ => true
  | _ => false
def quietW (W : WS) (o : Op) : Bool := quietB o || (W.isSome && isMk o)
theorem quietW_of {W : WS} {o : Op} (h : quietB o = true) : quietW W o = true := by simp [quietW, h]
theorem store_hardW {W : WS} {o : Op} (h : storeB o = true) : quietW W o = false := by
  simp only [quietW, store_hard h, Bool.false_or]
  cases o <;> simp [storeB, isMk] at h ⊢
theorem alloc_hardW {W : WS} {o : Op} (h : allocB o = true) : quietW W o = false := by
  cases o <;> simp [allocB, isMk, quietW, quietB] at h ⊢
/-- Which blocks may be given up. -/
def killK : Nat := 4294967296
def kOf (W : WS) (id : Nat) : Bool := match W with
  | none => false
  | some f => f (id + killK)
/-- Which operations stand alone at their turn, though they are calls. -/
def hardK : Nat := 17179869184
def hOf (W : WS) (k : Nat) : Bool := match W with
  | none => false
  | some f => f (k + hardK)
def hardB (W : WS) (ops : Array Oper) (d : Option Tmp) : Bool := (List.range ops.size).all fun k => match ops[k]? with
  | some o => !(o.dst == d) || hOf W k
  | none => true
theorem hardB_spec {W : WS} {ops : Array Oper} {o : Oper} {k : Nat} (h : hardB W ops o.dst = true) (hk : ops[k]? = some o) : hOf W k = true := by
  simp only [hardB, List.all_eq_true, List.mem_range] at h
  have := h k (Array.getElem?_eq_some_iff.1 hk).1
  simpa [hk] using this
structure HeapW (W : WS) (h h' : List (Option Blk)) : Prop where
  len : h.length ≤ h'.length
  same : ∀ id, id < h.length → wOf W id = false → h'[id]? = h[id]?
  live : ∀ (id : Nat) (b : Blk), h[id]? = some (some b) → kOf W id = false → ∃ b', h'[id]? = some (some b')
theorem HeapW.refl (W : WS) (h : List (Option Blk)) : HeapW W h h := ⟨Nat.le_refl _, fun _ _ _ => rfl, fun _ b hb _ => ⟨b, hb⟩⟩
theorem HeapW.trans {W : WS} {a b c : List (Option Blk)} (h : HeapW W a b) (k : HeapW W b c) : HeapW W a c :=
  ⟨Nat.le_trans h.len k.len, fun id hi hw => (k.same id (Nat.lt_of_lt_of_le hi h.len) hw).trans (h.same id hi hw), fun id b hb hk => let ⟨_, h1⟩ := h.live id b hb hk; k.live id _ h1 hk⟩
theorem HeapW.ext (W : WS) (h e : List (Option Blk)) : HeapW W h (h ++ e) :=
  ⟨by simp, fun id hi _ => List.getElem?_append_left hi, fun id b hb _ => ⟨b, by rw [List.getElem?_append_left (List.getElem?_eq_some_iff.1 hb).1]; exact hb⟩⟩
theorem HeapW.of_eq (W : WS) {h h' : List (Option Blk)} (e : h' = h) : HeapW W h h' := by subst e; exact HeapW.refl W _
theorem HeapW.none_ext {h h' : List (Option Blk)} (k : HeapW none h h') : ∃ e, h' = h ++ e := by
  refine ⟨h'.drop h.length, ?_⟩
  apply List.ext_getElem?
  intro i
  rcases Nat.lt_or_ge i h.length with hi | hi
  · rw [List.getElem?_append_left hi]; exact k.same i hi rfl
  · rw [List.getElem?_append_right hi, List.getElem?_drop]; congr 1; omega
/-- s' has what s has, so far as l looks. -/
structure Sees (W : WS) (l : List Tmp) (s s' : St) : Prop where
  n : s'.n = s.n
  env : ∀ t, t ∈ l → look t s'.env = look t s.env
  h : HeapW W s.h s'.h
structure EqSt (s s' : St) : Prop where
  n : s'.n = s.n
  m : s'.m = s.m
  env : ∀ t, look t s'.env = look t s.env
  h : s'.h = s.h
theorem EqSt.symm {s s' : St} (e : EqSt s s') : EqSt s' s := ⟨e.n.symm, e.m.symm, fun t => (e.env t).symm, e.h.symm⟩
theorem EqSt.trans {a b c : St} (e : EqSt a b) (f : EqSt b c) : EqSt a c := ⟨f.n.trans e.n, f.m.trans e.m, fun t => (f.env t).trans (e.env t), f.h.trans e.h⟩
theorem EqSt.refl (s : St) : EqSt s s := ⟨rfl, rfl, fun _ => rfl, rfl⟩
theorem Sees.refl {W : WS} (l : List Tmp) (s : St) : Sees W l s s := ⟨rfl, fun _ _ => rfl, HeapW.refl W _⟩
theorem Sees.trans {W : WS} {l : List Tmp} {a b c : St} (e : Sees W l a b) (f : Sees W l b c) : Sees W l a c :=
  ⟨f.n.trans e.n, fun t h => (f.env t h).trans (e.env t h), e.h.trans f.h⟩
theorem EqSt.sees {W : WS} {s s' : St} (e : EqSt s s') (l : List Tmp) : Sees W l s s' := ⟨e.n, fun t _ => e.env t, HeapW.of_eq W e.h⟩
theorem look_put (st : St) (d : Option Tmp) (x : AV) (t : Tmp) : look t (st.put d x).env = if d = some t then x else look t st.env := by
  cases d with
  | none => simp [St.put]
  | some d =>
    simp only [St.put, look]
    by_cases h : t = d
    · rw [if_pos h, if_pos (by rw [h])]
    · rw [if_neg h, if_neg (by intro e; cases e; exact h rfl)]
theorem put_n (st : St) (d : Option Tmp) (x : AV) : (st.put d x).n = st.n := by cases d <;> rfl
theorem put_m (st : St) (d : Option Tmp) (x : AV) : (st.put d x).m = st.m := by cases d <;> rfl
theorem put_h (st : St) (d : Option Tmp) (x : AV) : (st.put d x).h = st.h := by cases d <;> rfl
theorem EqSt.put {s s' : St} (e : EqSt s s') (d : Option Tmp) (x : AV) : EqSt (s.put d x) (s'.put d x) :=
  ⟨by rw [put_n, put_n, e.n], by rw [put_m, put_m, e.m], fun t => by rw [look_put, look_put, e.env], by rw [put_h, put_h, e.h]⟩
theorem sees_put {W : WS} {l : List Tmp} {d : Option Tmp} (hd : ∀ t, d = some t → t ∉ l) (s : St) (x : AV) : Sees W l s (s.put d x) :=
  ⟨put_n _ _ _, fun t ht => by rw [look_put, if_neg]; intro e; exact hd t e ht, HeapW.of_eq W (put_h _ _ _)⟩
theorem put_swap {d d' : Option Tmp} (hd : ∀ t, d = some t → d' ≠ some t) (s : St) (x y : AV) : EqSt ((s.put d x).put d' y) ((s.put d' y).put d x) :=
  ⟨by simp only [put_n], by simp only [put_m], fun t => by
    simp only [look_put]
    by_cases h : d = some t
    · rw [if_pos h, if_neg (hd t h), if_pos h]
    · rw [if_neg h, if_neg h], by simp only [put_h]⟩

section
variable {P : Program} {W : WS} {ops : Array Oper}
theorem eqSt_inv {B : Base} {w : World} {ρ : Nat → Option Nat} {D Z : Nat → Prop} {s s' : St} {a : Act} (e : EqSt s s') (I : Inv B ρ D Z s a w) : Inv B ρ D Z s' a w :=
  ⟨I.n.trans e.n.symm, fun t => by rw [e.env t]; exact I.env t, by rw [e.h]; exact I.h, fun id h => by rw [e.m]; exact I.bm id h, I.defers⟩
theorem stepTo_eq {o : Oper} {s s' : St} {K : St → Prop} (e : EqSt s s') (h : StepTo P ops o s K) : StepTo P ops o s' K :=
  fun B ρ D Z a w Q Ka I hq => h B ρ D Z a w Q Ka (eqSt_inv e.symm I) hq

/-- The operation gives r, wherever the state has what it has here. -/
def Takes (P : Program) (W : WS) (ops : Array Oper) (o : Oper) (st : St) (r : AV) : Prop := ∀ s', Sees W (o.looksAt ops) st s' → StepTo P ops o s' fun x => x = s'.put o.dst r
theorem Takes.sees {o : Oper} {s s' : St} {r : AV} (h : Takes P W ops o s r) (hs : Sees W (o.looksAt ops) s s') : Takes P W ops o s' r := fun x hx => h x (hs.trans hx)

/-- The operation gives r and new blocks, wherever the state has what it has here. -/
def Gives (P : Program) (ops : Array Oper) (o : Oper) (st : St) (r : AV) (h2 : List (Option Blk)) : Prop :=
  ∀ s', s'.n = st.n → (∀ t, t ∈ o.looksAt ops → look t s'.env = look t st.env) → s'.h = st.h → StepTo P ops o s' fun x => x = ({ s' with h := h2 } : St).put o.dst r
/-- What hangs on k. -/
def hangs (ops : Array Oper) (k : Nat) (S : Nat → Bool) (j : Nat) : Bool := match ops[j]? with
  | some oj => oj.after.any fun e => Region.binds .any e && (e.on == k || S e.on)
  | none => false
/-- Which ones hang on k, through others too. -/
def depS (ops : Array Oper) (k : Nat) : Array Bool := (List.range ops.size).foldl (fun S j => S.push (hangs ops k (fun i => S.getD i false) j)) #[]
/-- The operation that hangs on all others. -/
def lastDep (ops : Array Oper) (i : Nat) : Bool := (List.range ops.size).all fun k => k == i || (depS ops k).getD i false
theorem lastDep_spec {ops : Array Oper} {i k : Nat} (h : lastDep ops i = true) (hk : k < ops.size) (hne : k ≠ i) : (depS ops k).getD i false = true := by
  simp only [lastDep, List.all_eq_true, List.mem_range, Bool.or_eq_true, beq_iff_eq] at h
  exact (h k hk).resolve_left hne
/-- Any order. -/
def AnyA (P : Program) (W : WS) (ops : Array Oper) : Nat → Array Bool → St → (St → Prop) → Prop
  | 0, listed, st, K => Region.ready .any ops listed = [] ∧ K st
  | n + 1, listed, st, K => (Region.ready .any ops listed = [] → K st) ∧ ∀ i, i ∈ Region.ready .any ops listed → ∀ o, ops[i]? = some o →
      (∃ r, Takes P W ops o st r ∧ AnyA P W ops n (listed.setIfInBounds i true) (st.put o.dst r) K) ∨
      (allocB o.op = true ∧ o.guard = none ∧ okDst st.n o.dst = true ∧ ∃ c r b, opR P st o.op = some (c, r, st.h ++ [b]) ∧ c ∧ AnyA P W ops n (listed.setIfInBounds i true) ({ st with h := st.h ++ [b] }.put o.dst r) K) ∨
      (storeB o.op = true ∧ o.guard = none ∧ okDst st.n o.dst = true ∧ ∃ c r h, opR P st o.op = some (c, r, h) ∧ c ∧ HeapW W st.h h ∧ AnyA P W ops n (listed.setIfInBounds i true) ({ st with h := h }.put o.dst r) K) ∨
      (quietW W o.op = false ∧ allocB o.op = false ∧ (W.isSome = true → storeB o.op = false) ∧ StepTo P ops o st fun st' => AnyA P W ops n (listed.setIfInBounds i true) st' K) ∨
      (lastDep ops i = true ∧ StepTo P ops o st fun st' => AnyA P W ops n (listed.setIfInBounds i true) st' K) ∨
      (∃ r h2, Gives P ops o st r h2 ∧ (HeapW none st.h h2 ∨ hOf W i = true) ∧ HeapW W st.h h2 ∧ AnyA P W ops n (listed.setIfInBounds i true) ({ st with h := h2 }.put o.dst r) K)
theorem opR_alloc {s s' : St} {o : Op} (ha : allocB o = true) (hg : ∀ x, x ∈ o.operands → s'.get x = s.get x) (hh : s'.h = s.h) : opR P s' o = opR P s o := by
  cases o <;> simp [allocB] at ha
  case alloc t => simp only [opR, hh]
  case box t x =>
    simp only [opR, hh]
    rw [hg x (by simp [Op.operands])]
  case buildSlice t n ps =>
    have h1 : (ps.toList.map fun x => (x.1, s'.get x.2)) = ps.toList.map fun x => (x.1, s.get x.2) := List.map_congr_left fun x hx => by
      rw [hg x.2 (by simp only [Op.operands, List.mem_toArray, List.mem_map]; exact ⟨x, hx, rfl⟩)]
    simp only [opR]
    rw [h1]
    unfold buildSliceR
    simp only [hh]
theorem opR_store {s s' : St} {o : Op} (ha : storeB o = true) (hg : ∀ x, x ∈ o.operands → s'.get x = s.get x) (hh : s'.h = s.h) : opR P s' o = opR P s o := by
  cases o <;> (try (simp [storeB] at ha; done))
  · rename_i t x y
    simp only [opR]
    rw [hg x (by simp [Op.operands]), hg y (by simp [Op.operands])]
    unfold storeR
    simp only [rowOf, hh]
  · rename_i c
    obtain ⟨callee, args, ats⟩ := c
    cases callee with
    | value f => simp [storeB] at ha
    | invoke r m => simp [storeB] at ha
    | builtin b =>
      cases b <;> (try (simp [storeB] at ha; done))
      have h1 : ∀ x, x ∈ args.toList → s'.get x = s.get x := fun x hx => hg x (by simp only [Op.operands, Call.operands, Array.mem_append]; exact .inr (by simpa using hx))
      simp only [opR, builtinR]
      generalize args.toList = l at h1
      generalize ats.toList = ts
      match l, ts with
      | [], _ => rfl
      | [_], _ => rfl
      | [x, y], [] => rfl
      | [x, y], [_] => rfl
      | [x, y], [t, tx] =>
        simp only
        rw [h1 x (by simp), h1 y (by simp)]
        unfold appendR srcA rowOf
        simp only [hh]
      | [x, y], _ :: _ :: _ :: _ => rfl
      | _ :: _ :: _ :: _, _ => rfl
theorem eqSt_get {s s' : St} (e : EqSt s s') (x : Operand) : s'.get x = s.get x := by
  cases x with
  | tmp t => exact e.env t
  | _ => rfl
theorem Gives.eqs {o : Oper} {s s' : St} {r : AV} {h2 : List (Option Blk)} (h : Gives P ops o s r h2) (e : EqSt s s') : Gives P ops o s' r h2 :=
  fun x h1 h4 h3 => h x (h1.trans e.n) (fun t ht => (h4 t ht).trans (e.env t)) (h3.trans e.h)
theorem any_eq {K : St → Prop} (hK : ∀ s s', EqSt s s' → K s → K s') : ∀ (n : Nat) (listed : Array Bool) (s s' : St), EqSt s s' → AnyA P W ops n listed s K → AnyA P W ops n listed s' K
  | 0, _, _, _, e, h => ⟨h.1, hK _ _ e h.2⟩
  | n + 1, listed, s, s', e, h => by
    refine ⟨fun h0 => hK _ _ e (h.1 h0), fun i hi o ho => ?_⟩
    rcases h.2 i hi o ho with ⟨r, ht, hr⟩ | ⟨ha, hg, hd, c, r, b, hop, hc, hr⟩ | ⟨ha, hg, hd, c, r, h', hop, hc, hw, hr⟩ | ⟨h1, h2, h4, h3⟩ | ⟨h1, h3⟩ | ⟨r, h2, hgv, hor, hw, hr⟩
    · exact .inl ⟨r, ht.sees (e.sees _), any_eq hK n _ _ _ (e.put _ _) hr⟩
    · refine .inr (.inl ⟨ha, hg, by rw [e.n]; exact hd, c, r, b, by rw [opR_alloc ha (fun x _ => eqSt_get e x) e.h, e.h]; exact hop, hc, any_eq hK n _ _ _ (EqSt.put ?_ _ _) hr⟩)
      exact ⟨e.n, e.m, e.env, by simp only [e.h]⟩
    · refine .inr (.inr (.inl ⟨ha, hg, by rw [e.n]; exact hd, c, r, h', by rw [opR_store ha (fun x _ => eqSt_get e x) e.h]; exact hop, hc, by rw [e.h]; exact hw, any_eq hK n _ _ _ (EqSt.put ?_ _ _) hr⟩))
      exact ⟨e.n, e.m, e.env, rfl⟩
    · exact .inr (.inr (.inr (.inl ⟨h1, h2, h4, stepTo_eq e h3⟩)))
    · exact .inr (.inr (.inr (.inr (.inl ⟨h1, stepTo_eq e h3⟩))))
    · refine .inr (.inr (.inr (.inr (.inr ⟨r, h2, hgv.eqs e, by rw [e.h]; exact hor, by rw [e.h]; exact hw, any_eq hK n _ _ _ (EqSt.put ?_ _ _) hr⟩))))
      exact ⟨e.n, e.m, e.env, rfl⟩
theorem stepA_of_opR {s : St} {o : Op} {d : Option Tmp} {c : Prop} {r : AV} {h : List (Option Blk)} {K : St → Prop} (ho : opR P s o = some (c, r, h)) (hc : c) (hk : K ({ s with h := h }.put d r)) : stepA P s K d o := by
  unfold stepA
  cases o <;> first
    | (simp only [ho]; exact ⟨hc, hk⟩)
    | (simp only [opR] at ho; cases ho; done)
    | (rename_i cl
       simp only [opR] at ho
       simp only
       split at ho
       · rename_i b hb
         simp only [hb, ho]
         exact ⟨hc, hk⟩
       · cases ho)
theorem any_sound {K : St → Prop} {Q : Exit → Act → World → Prop} : ∀ (n : Nat) (listed : Array Bool) (st : St), AnyA P W ops n listed st K → ∀ (B : Base) (ρ : Nat → Option Nat) (D Z : Nat → Prop) (a : Act) (w : World), Inv B ρ D Z st a w →
    (∀ st' ρ' D' Z' a' w', K st' → Inv B ρ' D' Z' st' a' w' → Q .normal a' w') → wpAny P .any ops Q n listed a w
  | 0, _, st, h, B, ρ, D, Z, a, w, I, hq => ⟨h.1, hq _ _ _ _ _ _ h.2 I⟩
  | n + 1, listed, st, h, B, ρ, D, Z, a, w, I, hq => by
    refine ⟨fun h0 => hq _ _ _ _ _ _ (h.1 h0) I, fun i hi => ?_⟩
    obtain ⟨hun, o, ho, hall⟩ := mem_ready.1 hi
    have key : StepTo P ops o st fun st' => AnyA P W ops n (listed.setIfInBounds i true) st' K := by
      rcases h.2 i hi o ho with ⟨r, ht, hr⟩ | ⟨ha, hg, hd, c, r, b, hop, hc, hr⟩ | ⟨ha, hg, hd, c, r, h', hop, hc, hw, hr⟩ | ⟨_, _, _, h3⟩ | ⟨_, h3⟩ | ⟨r, h2, hgv, _, _, hr⟩
      · intro B ρ D Z a w Q Ka I hq
        exact ht st (Sees.refl _ _) B ρ D Z a w Q Ka I fun st' ρ' D' Z' a' w' e I' => hq _ _ _ _ _ _ (by rw [e]; exact hr) I'
      · refine step_to ⟨hd, ?_⟩
        simp only [hg, guardA]
        exact stepA_of_opR hop hc hr
      · refine step_to ⟨hd, ?_⟩
        simp only [hg, guardA]
        exact stepA_of_opR hop hc hr
      · exact h3
      · exact h3
      · intro B ρ D Z a w Q Ka I hq
        exact hgv st rfl (fun _ _ => rfl) rfl B ρ D Z a w Q Ka I fun st' ρ' D' Z' a' w' e I' => hq _ _ _ _ _ _ (by rw [e]; exact hr) I'
    have := key B ρ D Z a w Q (wpAny P .any ops Q n (listed.setIfInBounds i true)) I fun st' ρ' D' Z' a' w' e I' => any_sound n _ st' e B ρ' D' Z' a' w' I' hq
    unfold wpOp
    simp only [ho]
    split at this
    · rename_i hw; rw [if_pos hw]; exact .inl this
    · rename_i hw; rw [if_neg hw]; exact this
theorem any_first {K : St → Prop} (hK : ∀ s s', EqSt s s' → K s → K s') {i : Nat} {oi : Oper} {r : AV} (hi : ops[i]? = some oi) (S : Nat → Bool) (hSd : ∀ j, (depS ops i).getD j false = true → S j = true)
    (hS : ∀ j oj, ops[j]? = some oj → S j = true → ∃ e ∈ oj.after, Region.binds .any e = true ∧ (e.on = i ∨ S e.on = true)) : ∀ (n : Nat) (listed : Array Bool) (st : St),
    (∀ j, S j = true → listed.getD j true = false) →
    (∀ j oj, ops[j]? = some oj → j ≠ i → listed.getD j true = false → S j = false → oi.apart ops oj = true ∧ (quietW W oj.op || allocB oj.op || (W.isSome && storeB oj.op)) = true) →
    i ∈ Region.ready .any ops listed → Takes P W ops oi st r → AnyA P W ops n (listed.setIfInBounds i true) (st.put oi.dst r) K → AnyA P W ops (n + 1) listed st K := by
  intro n
  induction n with
  | zero =>
    intro listed st _ _ hr hy H
    refine ⟨fun h => (by rw [h] at hr; cases hr), fun j hj o ho => ?_⟩
    by_cases hji : j = i
    · subst hji
      rw [hi] at ho
      cases ho
      exact .inl ⟨r, hy, H⟩
    · have := ready_mono hj hji
      rw [H.1] at this
      cases this
  | succ n ih =>
    intro listed st hunS hfree hr hy H
    refine ⟨fun h => (by rw [h] at hr; cases hr), fun j hj oj ho => ?_⟩
    by_cases hji : j = i
    · subst hji
      rw [hi] at ho
      cases ho
      exact .inl ⟨r, hy, H⟩
    · obtain ⟨hjun, oj', hoj, hall⟩ := mem_ready.1 hj
      rw [ho] at hoj
      cases hoj
      have hnot : S j = false := Bool.eq_false_iff.2 fun hsj => by
        obtain ⟨e, he, hb, hor⟩ := hS j oj ho hsj
        have h1 := hall e he hb
        have h0 : listed.getD e.on true = false := by
          rcases hor with h2 | h2
          · rw [h2]
            have h0 := (mem_ready.1 hr).1
            exact h0
          · exact hunS _ h2
        rcases Nat.lt_or_ge e.on listed.size with h' | h'
        · simp [h'] at h0 h1; rw [h0] at h1; cases h1
        · simp [Array.getElem?_eq_none h'] at h1
      have hunS' : ∀ k, S k = true → (listed.setIfInBounds j true).getD k true = false := fun k hk => by
        by_cases hjk : j = k
        · subst hjk; rw [hnot] at hk; cases hk
        · rw [getD_set_ne true hjk]; exact hunS k hk
      obtain ⟨hap, hqa⟩ := hfree j oj ho hji hjun hnot
      obtain ⟨a1, a2, a3⟩ := Oper.apart_spec hap
      have hfree' : ∀ k ok, ops[k]? = some ok → k ≠ i → (listed.setIfInBounds j true).getD k true = false →
          S k = false → oi.apart ops ok = true ∧ (quietW W ok.op || allocB ok.op || (W.isSome && storeB ok.op)) = true := fun k ok hk hki hun hno => by
        refine hfree k ok hk hki ?_ hno
        by_cases hjk : j = k
        · subst hjk; exact hjun
        · rw [getD_set_ne true hjk] at hun; exact hun
      have hgx : ∀ x, x ∈ oj.op.operands → (st.put oi.dst r).get x = st.get x := fun x hx => by
        cases x with
        | tmp t =>
          show look t (st.put oi.dst r).env = look t st.env
          rw [look_put, if_neg]
          intro e
          exact a1 t e (by unfold Oper.looksAt; exact List.mem_append.2 (.inl (List.mem_filterMap.2 ⟨.tmp t, by simpa using hx, rfl⟩)))
        | _ => rfl
      rcases H.2 j (ready_mono hj hji) oj ho with ⟨rj, ht, hrest⟩ | ⟨ha, hg, hd, c, rj, b, hop, hc, hrest⟩ | ⟨ha, hg, hd, c, rj, h', hop, hc, hw, hrest⟩ | ⟨h1, h2, h4, _⟩ | ⟨h1, _⟩ | ⟨rj, h2, hgv, hor, hw, hrest⟩
      · refine .inl ⟨rj, fun s' hs => ?_, ?_⟩
        · have : Sees W (oj.looksAt ops) (st.put oi.dst r) (s'.put oi.dst r) := ⟨by rw [put_n, put_n, hs.n], fun t ht => by rw [look_put, look_put, hs.env t ht], by rw [put_h, put_h]; exact hs.h⟩
          have hb : Sees W (oj.looksAt ops) (st.put oi.dst r) s' := ⟨by rw [put_n, hs.n], fun t ht => by
            rw [look_put, if_neg (fun e => a1 t e ht)]; exact hs.env t ht, by rw [put_h]; exact hs.h⟩
          exact ht s' hb
        · refine ih (listed.setIfInBounds j true) (st.put oj.dst rj) hunS' hfree' (ready_mono hr (Ne.symm hji)) (hy.sees (sees_put a3 _ _)) ?_
          rw [Array.setIfInBounds_comm _ _ hji]
          exact any_eq hK _ _ _ _ (put_swap a2 _ _ _) hrest
      · refine .inr (.inl ⟨ha, hg, by rwa [put_n] at hd, c, rj, b, ?_, hc, ?_⟩)
        · rw [opR_alloc ha (s := st) (s' := st.put oi.dst r) hgx (put_h _ _ _), put_h] at hop
          exact hop
        · refine ih (listed.setIfInBounds j true) _ hunS' hfree' (ready_mono hr (Ne.symm hji)) (hy.sees ?_) ?_
          · have hs1 : Sees W (oi.looksAt ops) st { st with h := st.h ++ [b] } := ⟨rfl, fun _ _ => rfl, HeapW.ext W st.h [b]⟩
            exact hs1.trans (sees_put a3 _ _)
          · rw [Array.setIfInBounds_comm _ _ hji]
            refine any_eq hK _ _ _ _ ?_ hrest
            refine EqSt.trans (b := ({ st with h := st.h ++ [b] }.put oi.dst r).put oj.dst rj) (EqSt.put ?_ _ _) (put_swap a2 _ _ _)
            exact ⟨by simp only [put_n], by simp only [put_m], fun t => by simp only [look_put], by simp only [put_h]⟩
      · skip
        rw [opR_store ha hgx (put_h _ _ _)] at hop
        rw [put_h] at hw
        refine .inr (.inr (.inl ⟨ha, hg, by rwa [put_n] at hd, c, rj, h', hop, hc, hw, ?_⟩))
        refine ih (listed.setIfInBounds j true) _ hunS' hfree' (ready_mono hr (Ne.symm hji)) (hy.sees ?_) ?_
        · have hs1 : Sees W (oi.looksAt ops) st { st with h := h' } := ⟨rfl, fun _ _ => rfl, hw⟩
          exact hs1.trans (sees_put a3 _ _)
        · rw [Array.setIfInBounds_comm _ _ hji]
          refine any_eq hK _ _ _ _ ?_ hrest
          refine EqSt.trans (b := ({ st with h := h' }.put oi.dst r).put oj.dst rj) (EqSt.put ?_ _ _) (put_swap a2 _ _ _)
          exact ⟨by simp only [put_n], by simp only [put_m], fun t => by simp only [look_put], by simp only [put_h]⟩
      · cases hwS : W.isSome with
        | false => simp [h1, h2, hwS] at hqa
        | true => simp [h1, h2, h4 hwS] at hqa
      · exfalso
        have := hSd j (lastDep_spec h1 (Array.getElem?_eq_some_iff.1 hi).1 (Ne.symm hji))
        rw [hnot] at this
        cases this
      · rw [put_h] at hor hw
        refine .inr (.inr (.inr (.inr (.inr ⟨rj, h2, fun x hx1 hx2 hx3 => hgv x (by rw [put_n, hx1]) (fun t ht => by rw [look_put, if_neg (fun e => a1 t e ht)]; exact hx2 t ht) (by rw [put_h, hx3]), hor, hw, ?_⟩))))
        refine ih (listed.setIfInBounds j true) _ hunS' hfree' (ready_mono hr (Ne.symm hji)) (hy.sees ?_) ?_
        · have hs1 : Sees W (oi.looksAt ops) st { st with h := h2 } := ⟨rfl, fun _ _ => rfl, hw⟩
          exact hs1.trans (sees_put a3 _ _)
        · rw [Array.setIfInBounds_comm _ _ hji]
          refine any_eq hK _ _ _ _ ?_ hrest
          refine EqSt.trans (b := ({ st with h := h2 }.put oi.dst r).put oj.dst rj) (EqSt.put ?_ _ _) (put_swap a2 _ _ _)
          exact ⟨by simp only [put_n], by simp only [put_m], fun t => by simp only [look_put], by simp only [put_h]⟩

/-! The order of the list serves for all. -/
def heapOk (W : WS) (ops : Array Oper) (listed : Array Bool) (k : Nat) : Bool := match ops[k]? with
  | none => false
  | some ok => let S := depS ops k; S.size == ops.size && (List.range ops.size).all fun j => (!S.getD j false || (!listed.getD j true && hangs ops k (fun i => S.getD i false) j)) &&
    (j == k || listed.getD j true || S.getD j false || (match ops[j]? with
    | some oj => quietW W ok.op && !hOf W k && (ok.apart ops oj && (quietW W oj.op || allocB oj.op || (W.isSome && storeB oj.op)))
    | none => true))
def drawFrom (W : WS) (ops : Array Oper) : List Nat → Array Bool → Bool
  | [], listed => (Region.ready .any ops listed).isEmpty
  | k :: ks, listed => (Region.ready .any ops listed).contains k && heapOk W ops listed k && (!ks.isEmpty || k == ops.size - 1) && drawFrom W ops ks (listed.setIfInBounds k true)
/-- An order that serves for all. -/
def drawL (W : WS) (ops : Array Oper) (ks : List Nat) : Bool := ks.length == ops.size && (ks.all fun k => decide (k < ops.size)) && drawFrom W ops ks (Array.replicate ops.size false)
def drawB (W : WS) (ops : Array Oper) : Bool := drawL W ops (List.range ops.size)
/-- The operations in an order. -/
def pickO (ops : Array Oper) : List Nat → List Oper
  | [] => []
  | k :: ks => match ops[k]? with
    | some o => o :: pickO ops ks
    | none => pickO ops ks
theorem pickO_map (ops : Array Oper) : ∀ ks : List Nat, (ks.all fun k => decide (k < ops.size)) = true → (pickO ops ks).map some = ks.map fun k => ops[k]?
  | [], _ => rfl
  | k :: ks, h => by
    simp only [List.all_cons, Bool.and_eq_true, decide_eq_true_eq] at h
    simp only [pickO, Array.getElem?_eq_getElem h.1, List.map_cons, pickO_map ops ks h.2]
theorem pickO_range (ops : Array Oper) : pickO ops (List.range ops.size) = ops.toList := by
  have h := pickO_map ops (List.range ops.size) (by simp)
  have : (pickO ops (List.range ops.size)).map some = ops.toList.map some := by
    rw [h]
    apply List.ext_getElem?
    intro i
    by_cases hi : i < ops.size
    · simp [hi]
    · simp [hi]
  exact List.map_inj_right (fun a b h => Option.some.inj h) |>.1 this
def RunD (P : Program) (W : WS) (ops : Array Oper) : List Oper → St → (St → Prop) → Prop
  | [], st, K => K st
  | o :: rest, st, K =>
    (quietW W o.op = true ∧ ∃ r, Takes P W ops o st r ∧ RunD P W ops rest (st.put o.dst r) K) ∨
    (allocB o.op = true ∧ o.guard = none ∧ okDst st.n o.dst = true ∧ ∃ c r b, opR P st o.op = some (c, r, st.h ++ [b]) ∧ c ∧ RunD P W ops rest ({ st with h := st.h ++ [b] }.put o.dst r) K) ∨
    (storeB o.op = true ∧ o.guard = none ∧ okDst st.n o.dst = true ∧ ∃ c r h, opR P st o.op = some (c, r, h) ∧ c ∧ HeapW W st.h h ∧ RunD P W ops rest ({ st with h := h }.put o.dst r) K) ∨
    (quietW W o.op = false ∧ allocB o.op = false ∧ (W.isSome = true → storeB o.op = false) ∧ StepTo P ops o st fun st' => RunD P W ops rest st' K) ∨
    (rest = [] ∧ lastDep ops (ops.size - 1) = true ∧ StepTo P ops o st K) ∨
    (hardB W ops o.dst = true ∧ ∃ r h2, Gives P ops o st r h2 ∧ HeapW W st.h h2 ∧ RunD P W ops rest ({ st with h := h2 }.put o.dst r) K)
theorem heapOk_spec {listed : Array Bool} {k : Nat} {ok : Oper} (hk : ops[k]? = some ok) (h : heapOk W ops listed k = true) :
    (∀ j oj, ops[j]? = some oj → (depS ops k).getD j false = true → ∃ e ∈ oj.after, Region.binds .any e = true ∧ (e.on = k ∨ (depS ops k).getD e.on false = true)) ∧
    (∀ j, (depS ops k).getD j false = true → listed.getD j true = false) ∧
    (∀ j oj, ops[j]? = some oj → j ≠ k → listed.getD j true = false → (depS ops k).getD j false = false → (quietW W ok.op = true ∧ hOf W k = false) ∧ ok.apart ops oj = true ∧ (quietW W oj.op || allocB oj.op || (W.isSome && storeB oj.op)) = true) := by
  simp only [heapOk, hk, Bool.and_eq_true, List.all_eq_true, List.mem_range, beq_iff_eq] at h
  obtain ⟨hsz, h⟩ := h
  refine ⟨fun j oj hj hs => ?_, fun j hs => ?_, fun j oj hj hne hun hs => ?_⟩
  · have h1 := (h j (Array.getElem?_eq_some_iff.1 hj).1).1
    simp only [hs, Bool.not_true, Bool.false_or, Bool.and_eq_true, hangs, hj] at h1
    obtain ⟨e, he, hb⟩ := Array.any_eq_true'.1 h1.2
    simp only [Bool.and_eq_true, Bool.or_eq_true, beq_iff_eq] at hb
    exact ⟨e, he, hb⟩
  · have hlt : j < ops.size := by
      rw [← hsz]
      rcases Nat.lt_or_ge j (depS ops k).size with h' | h'
      · exact h'
      · simp [Array.getD, Nat.not_lt.2 h'] at hs
    have h1 := (h j hlt).1
    simp only [hs, Bool.not_true, Bool.false_or, Bool.and_eq_true, Bool.not_eq_true'] at h1
    exact h1.1
  · have h1 := (h j (Array.getElem?_eq_some_iff.1 hj).1).2
    simp only [hj, Bool.or_eq_true, beq_iff_eq, hne, false_or, hun, hs, Bool.false_eq_true] at h1
    simpa only [Bool.and_eq_true, Bool.or_eq_true, Bool.not_eq_true'] using h1
theorem any_lex {K : St → Prop} (hK : ∀ s s', EqSt s s' → K s → K s') : ∀ (l : List Oper) (ks : List Nat) (listed : Array Bool) (st : St), (l.map some = ks.map fun k => ops[k]?) →
    drawFrom W ops ks listed = true → RunD P W ops l st K → AnyA P W ops l.length listed st K
  | [], [], _, _, _, hB, h => ⟨by simpa [drawFrom] using hB, h⟩
  | [], _ :: _, _, _, hl, _, _ => by simp at hl
  | _ :: _, [], _, _, hl, _, _ => by simp at hl
  | o :: l, k :: ks, listed, st, hl, hB, h => by
    simp only [List.map_cons, List.cons.injEq] at hl
    obtain ⟨h0, hl'⟩ := hl
    have h0 := h0.symm
    simp only [drawFrom, Bool.and_eq_true] at hB
    obtain ⟨⟨⟨hr, hf⟩, hlast⟩, hB'⟩ := hB
    have hr' : k ∈ Region.ready .any ops listed := by simpa using hr
    have hspec := heapOk_spec h0 hf
    -- an operation that does not only read stands alone
    have alone : (quietW W o.op = false ∨ hOf W k = true) → ∀ i, i ∈ Region.ready .any ops listed → i = k := fun hqf i hi => by
      obtain ⟨hun, oi, hoi, hall⟩ := mem_ready.1 hi
      by_cases hik : i = k
      · exact hik
      · exfalso
        cases hs : (depS ops k).getD i false with
        | false =>
          have := hspec.2.2 i oi hoi hik hun hs
          rcases hqf with hqf | hqf
          · rw [hqf] at this
            cases this.1.1
          · rw [hqf] at this
            cases this.1.2
        | true =>
          obtain ⟨e, he, hb, hor⟩ := hspec.1 i oi hoi hs
          have h1 := hall e he hb
          have h0 : listed.getD e.on true = false := by
            rcases hor with h2 | h2
            · rw [h2]; exact (mem_ready.1 hr').1
            · exact hspec.2.1 _ h2
          rcases Nat.lt_or_ge e.on listed.size with h' | h'
          · simp [h'] at h0 h1; rw [h0] at h1; cases h1
          · simp [Array.getElem?_eq_none h'] at h1
    rcases h with ⟨hq, r, ht, hrest⟩ | ⟨ha, hg, hd, c, r, b, hop, hc, hrest⟩ | ⟨ha, hg, hd, c, r, h', hop, hc, hw, hrest⟩ | ⟨h1, h2, h4, h3⟩ | ⟨h1, h2, h3⟩ | ⟨h1, r, h2, hgv, hw, hrest⟩
    · exact any_first hK h0 (fun j => (depS ops k).getD j false) (fun _ h => h) hspec.1 l.length listed st hspec.2.1 (fun j oj hj hne hun hs => (hspec.2.2 j oj hj hne hun hs).2) hr' ht (any_lex hK l ks _ _ hl' hB' hrest)
    · have hqf : quietW W o.op = false := alloc_hardW ha
      refine ⟨fun h => (by rw [h] at hr'; cases hr'), fun i hi oi hoi => ?_⟩
      have := alone (.inl hqf) i hi
      subst this
      rw [h0] at hoi
      cases hoi
      exact .inr (.inl ⟨ha, hg, hd, c, r, b, hop, hc, any_lex hK l ks _ _ hl' hB' hrest⟩)
    · have hqf : quietW W o.op = false := store_hardW ha
      refine ⟨fun h => (by rw [h] at hr'; cases hr'), fun i hi oi hoi => ?_⟩
      have := alone (.inl hqf) i hi
      subst this
      rw [h0] at hoi
      cases hoi
      exact .inr (.inr (.inl ⟨ha, hg, hd, c, r, h', hop, hc, hw, any_lex hK l ks _ _ hl' hB' hrest⟩))
    · refine ⟨fun h => (by rw [h] at hr'; cases hr'), fun i hi oi hoi => ?_⟩
      have := alone (.inl h1) i hi
      subst this
      rw [h0] at hoi
      cases hoi
      refine .inr (.inr (.inr (.inl ⟨h1, h2, h4, fun B ρ D Z a w Q Ka I hq => h3 B ρ D Z a w Q Ka I fun st' ρ' D' Z' a' w' e I' => hq _ _ _ _ _ _ (any_lex hK l ks _ _ hl' hB' e) I'⟩)))
    · subst h1
      have hks : ks = [] := by simpa using hl'.symm
      subst hks
      have hk1 : k = ops.size - 1 := by simpa using hlast
      have hB0 : Region.ready .any ops (listed.setIfInBounds k true) = [] := by simpa [drawFrom] using hB'
      refine ⟨fun h => (by rw [h] at hr'; cases hr'), fun i hi oi hoi => ?_⟩
      have hik : i = k := by
        by_cases hik : i = k
        · exact hik
        · have := ready_mono hi hik
          rw [hB0] at this
          cases this
      subst hik
      rw [h0] at hoi
      cases hoi
      refine .inr (.inr (.inr (.inr (.inl ⟨by rw [hk1]; exact h2, fun B ρ D Z a w Q Ka I hq => h3 B ρ D Z a w Q Ka I fun st' ρ' D' Z' a' w' e I' => hq _ _ _ _ _ _ ⟨hB0, e⟩ I'⟩))))
    · refine ⟨fun h => (by rw [h] at hr'; cases hr'), fun i hi oi hoi => ?_⟩
      have := alone (.inr (hardB_spec h1 h0)) i hi
      subst this
      rw [h0] at hoi
      cases hoi
      exact .inr (.inr (.inr (.inr (.inr ⟨r, h2, hgv, .inr (hardB_spec h1 h0), hw, any_lex hK l ks _ _ hl' hB' hrest⟩))))
/-! A part of a region ahead; two operations in either order. -/
theorem Inv.draw {B : Base} {w : World} {ρ : Nat → Option Nat} {D Z : Nat → Prop} {s : St} {a : Act} (I : Inv B ρ D Z s a w) : ∃ Z', Inv B ρ D Z' s a { w with drawn := w.drawn + 1 } := by
  obtain ⟨s', H'⟩ := I.h.callee (w' := { w with drawn := w.drawn + 1 }) (Z' := fun _ => False) ⟨rfl, rfl, rfl, Nat.le_refl _, fun _ _ => rfl⟩ (fun k (h : False) => h.elim)
  exact ⟨_, I.moved s' H'⟩
/-- What holds of a state that shows the same. -/
def Cl (k : St → Prop) : St → Prop := fun s => ∃ x, EqSt x s ∧ k x
theorem cl_eq {k : St → Prop} (s s' : St) (e : EqSt s s') : Cl k s → Cl k s' := fun ⟨x, ex, hx⟩ => ⟨x, ex.trans e, hx⟩
theorem tri_drawL {id : Nat} {st : St} {K : Exit → St → Prop} (ks : List Nat) (hm : P.follows .mixedOrders = true) (hB : drawL W ops ks = true) (h : RunD P W ops (pickO ops ks) st (Cl (K .normal))) : Tri P (.region id ops true) st K := by
  intro B ρ D Z a w I
  refine wp_region_any hm ?_
  obtain ⟨Z', I'⟩ := I.draw
  simp only [drawL, Bool.and_eq_true, beq_iff_eq] at hB
  obtain ⟨⟨hlen, hall⟩, hB⟩ := hB
  have hmap := pickO_map ops ks hall
  have hlen2 : (pickO ops ks).length = ops.size := by
    have := congrArg List.length hmap
    simp only [List.length_map] at this
    rw [this, hlen]
  have := any_lex (P := P) cl_eq (pickO ops ks) ks (Array.replicate ops.size false) st hmap hB h
  rw [hlen2] at this
  refine any_sound _ _ st this B ρ D Z' a _ I' ?_
  rintro st' ρ' D' Z'' a' w' ⟨x, ex, hx⟩ I''
  exact ⟨x, ρ', D', Z'', hx, eqSt_inv ex.symm I''⟩
theorem tri_draw {id : Nat} {st : St} {K : Exit → St → Prop} (hm : P.follows .mixedOrders = true) (hB : drawB W ops = true) (h : RunD P W ops ops.toList st (Cl (K .normal))) : Tri P (.region id ops true) st K :=
  tri_drawL (List.range ops.size) hm hB (by rw [pickO_range]; exact h)
end
end Pm
end Go.Proofs.YtdgoompjoeffcaaGreat
