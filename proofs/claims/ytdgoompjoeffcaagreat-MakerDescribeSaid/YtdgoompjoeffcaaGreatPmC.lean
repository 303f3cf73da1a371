import Derived.Test.YtdgoompjoeffcaaGreatPmW
import Derived.Laws.CopyRow
import Derived.Laws.IdiomRangeMap
/- PM, part B: states of a walk over abstract values, how they stand to the machine's worlds, contracts, and the rules for code. -/
namespace Go.Proofs.YtdgoompjoeffcaaGreat
namespace Pm

/-- A live block: a row of elements (of sz cells each), a map's entries, or an iterator. -/
inductive Blk where
  | row (e : TypeId) (sz : Nat) (es : List AV)
  | mp (es : List (AV × AV))
  | it (cur ks vs : List AV)   -- an iterator over a map that nobody writes: the entry that it is at, and what is left
  deriving Inhabited

structure St where
  n : Nat
  m : Nat   -- how many blocks came in
  env : List (Nat × AV)
  h : List (Option Blk)

def look (n : Nat) : List (Nat × AV) → AV
  | [] => .junk
  | (m, a) :: e => if n = m then a else look n e
def St.get (st : St) : Operand → AV
  | .tmp t => look t st.env
  | .const v => .v v
  | .global g => match glA g with
    | some cs => .fptr (cs.map .v)
    | none => .v (.pointer (some ⟨g, 0, none⟩))
  | .func f => .v (.func (.func f) #[] #[])

/-- What is frozen of a row lies behind its cells. -/
def okFr (fr : Nat × Nat) (n : Nat) : Prop := fr.2 ≤ fr.1 ∨ n ≤ fr.1
/-- The machine's block g is the abstract block. -/
def RB (w : World) (ρ : Nat → Option Nat) (D Z : Nat → Prop) : Blk → Nat → Prop
  | .row e sz es, g => ∃ c fr, w.heap[g]? = some (.cells c e fr) ∧ okFr fr c.size ∧ es.length * sz ≤ c.size ∧ (∀ i, i < es.length → (es.getD i .junk).cells.length = sz) ∧
      ∀ i j, i < es.length → j < sz → RV w ρ D Z ((es.getD i .junk).cellAt j) (c.getD (i * sz + j) undef) ∧ (c.getD (i * sz + j) undef).oneCell' = true
  | .mp es, g => ∃ ents clock, w.heap[g]? = some (.map ents clock) ∧ Stamps ents clock ∧ ents.size = es.length ∧
      ∀ i, i < es.length → RV w ρ D Z (es.getD i default).1 (ents.getD i default).key ∧ RV w ρ D Z (es.getD i default).2 (ents.getD i default).val
  | .it cur ks vs, g => ∃ gm since seen last ents clock, w.heap[g]? = some (.mapIter (some gm) since seen last) ∧ Z gm ∧ w.heap[gm]? = some (.map ents clock) ∧ Stamps ents clock ∧ (∀ x ∈ ents.toList, x.born < since) ∧ since ≤ last ∧ last = clock ∧
      (leftOf ents seen).size = ks.length ∧ vs.length = ks.length ∧ (∀ i, i < ks.length → RV w ρ D Z (ks.getD i .junk) ((leftOf ents seen).getD i default).key ∧ RV w ρ D Z (vs.getD i .junk) ((leftOf ents seen).getD i default).val) ∧
      (cur = [] ∨ ∃ k v e, cur = [k, v] ∧ e ∈ ents.toList ∧ seen.back? = some e.born ∧ RV w ρ D Z k e.key ∧ RV w ρ D Z v e.val)

/-- Where the walk began. -/
structure Base where
  w : World
  ρ : Nat → Option Nat
  D : Nat → Prop
  Z : Nat → Prop
  gl : Gl w Z
  df : List Deferred   -- what is deferred in the walk's own frame (nothing, but behind a range over a function)

structure HR (B : Base) (w : World) (ρ : Nat → Option Nat) (D Z : Nat → Prop) (h : List (Option Blk)) : Prop where
  live : ∀ id b, h[id]? = some (some b) → ∃ g, ρ id = some g ∧ RB w ρ D Z b g
  only : ∀ id g, ρ id = some g → ∃ b, h[id]? = some (some b)
  dead : ∀ id, D id → h[id]? = some none
  inj : ∀ i j g, ρ i = some g → ρ j = some g → i = j
  own : ∀ id g, ρ id = some g → (∃ id0, B.ρ id0 = some g) ∨ B.w.heap.size ≤ g
  z : ∀ k, Z k → k < w.heap.size ∧ ∀ id, ρ id ≠ some k
  fr : ∀ k, k < B.w.heap.size → (∀ id, B.ρ id ≠ some k) → w.heap[k]? = B.w.heap[k]?
  os : w.os = B.w.os
  tape : w.tape = B.w.tape
  output : w.output = B.w.output
  size : B.w.heap.size ≤ w.heap.size
  step : Step B.w w B.ρ ρ B.D D B.Z Z
  zg : ∀ k, Z k → B.Z k ∨ B.w.heap.size ≤ k

structure Inv (B : Base) (ρ : Nat → Option Nat) (D Z : Nat → Prop) (st : St) (a : Act) (w : World) : Prop where
  n : a.tmps.size = st.n
  env : ∀ n, RV w ρ D Z (look n st.env) (a.tmps.getD n undef)
  h : HR B w ρ D Z st.h
  bm : ∀ id, (∃ g, B.ρ id = some g) ∨ B.D id → id < st.m
  defers : a.defers = B.df

theorem HR.df {B : Base} {ρ : Nat → Option Nat} {D Z : Nat → Prop} {w : World} {h : List (Option Blk)} (H : HR B w ρ D Z h) (l : List Deferred) : HR { B with df := l } w ρ D Z h :=
  ⟨H.live, H.only, H.dead, H.inj, H.own, H.z, H.fr, H.os, H.tape, H.output, H.size, H.step, H.zg⟩
theorem HR.undf {B : Base} {ρ : Nat → Option Nat} {D Z : Nat → Prop} {w : World} {h : List (Option Blk)} {l : List Deferred} (H : HR { B with df := l } w ρ D Z h) : HR B w ρ D Z h :=
  ⟨H.live, H.only, H.dead, H.inj, H.own, H.z, H.fr, H.os, H.tape, H.output, H.size, H.step, H.zg⟩

theorem Inv.get {B : Base} {ρ : Nat → Option Nat} {D Z : Nat → Prop} {st : St} {a : Act} {w : World} (I : Inv B ρ D Z st a w) (x : Operand) : RV w ρ D Z (st.get x) (a.eval x) := by
  cases x with
  | tmp t => exact I.env t
  | const v => exact .v v
  | global g =>
    simp only [St.get]
    split
    · rename_i cs hg; exact (B.gl.step I.h.step).rv hg
    · exact .v _
  | func f => exact .v _

/-- The contract: called with these arguments, these blocks being live, it returns what Q says, and leaves the blocks that Q says. -/
def Con (P : Program) (f : FuncId) (args : List AV) (h : List (Option Blk)) (Q : AV → List (Option Blk) → Prop) : Prop :=
  ∀ (B : Base) (cargs : Array Value), args.length = cargs.size →
    (∀ i, i < args.length → RV B.w B.ρ B.D B.Z (args.getD i .junk) (cargs.getD i undef)) → HR B B.w B.ρ B.D B.Z h →
    Calls P f cargs B.w fun e w' => ∃ r v h' ρ' D' Z', e = .returned v ∧ Q r h' ∧ RV w' ρ' D' Z' r v ∧ HR B w' ρ' D' Z' h'

theorem Con.mono {P : Program} {f : FuncId} {args : List AV} {h : List (Option Blk)} {Q Q' : AV → List (Option Blk) → Prop} (c : Con P f args h Q) (hq : ∀ r h', Q r h' → Q' r h') : Con P f args h Q' :=
  fun B cargs hl ha hh => (c B cargs hl ha hh).mono fun _ _ ⟨r, v, h', ρ', D', Z', e1, q, e2, e3⟩ => ⟨r, v, h', ρ', D', Z', e1, hq _ _ q, e2, e3⟩

/-- The triple. -/
def Tri (P : Program) (c : Code) (st : St) (K : Exit → St → Prop) : Prop :=
  ∀ (B : Base) (ρ : Nat → Option Nat) (D Z : Nat → Prop) (a : Act) (w : World), Inv B ρ D Z st a w →
    c.wp P (fun ex a' w' => ∃ st' ρ' D' Z', K ex st' ∧ Inv B ρ' D' Z' st' a' w') a w
/-- The same of a list of operations: what is left of a region whose operations are ops. -/
def TriOps (P : Program) (ops : Array Oper) (l : List Oper) (st : St) (K : St → Prop) : Prop :=
  ∀ (B : Base) (ρ : Nat → Option Nat) (D Z : Nat → Prop) (a : Act) (w : World) (Q : Exit → Act → World → Prop), Inv B ρ D Z st a w →
    (∀ st' ρ' D' Z' a' w', K st' → Inv B ρ' D' Z' st' a' w' → Q .normal a' w') → wpList P ops Q l a w

def thenK (K' : St → Prop) (K : Exit → St → Prop) : Exit → St → Prop
  | .normal, st => K' st
  | e, st => K e st
def blockK (id : Nat) (K : Exit → St → Prop) : Exit → St → Prop
  | .exit i, st => if i = id then K .normal st else K (.exit i) st
  | e, st => K e st

section
variable {P : Program} {st : St} {K : Exit → St → Prop}
theorem Tri.mono {c : Code} {K' : Exit → St → Prop} (h : Tri P c st K) (hk : ∀ e st, K e st → K' e st) : Tri P c st K' :=
  fun B ρ D Z a w I => wp_mono (h B ρ D Z a w I) fun _ _ _ ⟨st', ρ', D', Z', q, I'⟩ => ⟨st', ρ', D', Z', hk _ _ q, I'⟩
theorem tri_skip (h : K .normal st) : Tri P .skip st K := fun _ ρ D Z _ _ I => wp_skip ⟨st, ρ, D, Z, h, I⟩
theorem tri_ret (h : K .ret st) : Tri P .ret st K := fun _ ρ D Z _ _ I => wp_ret ⟨st, ρ, D, Z, h, I⟩
theorem tri_exit {id : Nat} (h : K (.exit id) st) : Tri P (.exit id) st K := fun _ ρ D Z _ _ I => wp_exit ⟨st, ρ, D, Z, h, I⟩
theorem tri_seq {x y : Code} (h : ∀ K' : St → Prop, (∀ st, Tri P y st K → K' st) → Tri P x st (thenK K' K)) : Tri P (.seq x y) st K := by
  intro B ρ D Z a w I
  refine wp_seq (wp_mono (h (fun st => Tri P y st K) (fun _ h => h) B ρ D Z a w I) ?_)
  rintro e a' w' ⟨st', ρ', D', Z', q, I'⟩
  cases e with
  | normal => exact q B ρ' D' Z' a' w' I'
  | _ => exact ⟨st', ρ', D', Z', q, I'⟩
theorem tri_cond {c : Operand} {x y : Code} {b : Bool} (hc : st.get c = .v (.bool b)) (ht : b = true → Tri P x st K) (hf : b = false → Tri P y st K) : Tri P (.cond c x y) st K := by
  intro B ρ D Z a w I
  have hv := I.get c
  rw [hc] at hv
  have he := hv.v_inv
  cases b with
  | true => exact wp_cond_true he (ht rfl B ρ D Z a w I)
  | false => exact wp_cond_false he (hf rfl B ρ D Z a w I)
theorem tri_block {id : Nat} {c : Code} (h : Tri P c st (blockK id K)) : Tri P (.block id c) st K := by
  intro B ρ D Z a w I
  refine wp_block (wp_mono (h B ρ D Z a w I) ?_)
  rintro e a' w' ⟨st', ρ', D', Z', q, I'⟩
  cases e with
  | exit i =>
    simp only [blockK] at q
    simp only [Exit.inBlock]
    split
    · rename_i hi; rw [if_pos hi] at q; exact ⟨st', ρ', D', Z', q, I'⟩
    · rename_i hi; rw [if_neg hi] at q; exact ⟨st', ρ', D', Z', q, I'⟩
  | _ => exact ⟨st', ρ', D', Z', q, I'⟩
theorem tri_region {id : Nat} {l : List Oper} (h : TriOps P l.toArray l st (K .normal)) : Tri P (.region id l.toArray false) st K := by
  intro B ρ D Z a w I
  exact wp_region_lit (h B ρ D Z a w _ I fun st' ρ' D' Z' a' w' q I' => ⟨st', ρ', D', Z', q, I'⟩)

/-- Every world of st is one of st'. -/
def Weak (st st' : St) : Prop := ∀ (B : Base) (ρ : Nat → Option Nat) (D Z : Nat → Prop) (a : Act) (w : World), Inv B ρ D Z st a w → ∃ ρ' D' Z', Inv B ρ' D' Z' st' a w
theorem Weak.refl (st : St) : Weak st st := fun _ ρ D Z _ _ I => ⟨ρ, D, Z, I⟩
theorem Weak.trans {a b c : St} (h : Weak a b) (h' : Weak b c) : Weak a c := fun B ρ D Z x w I => let ⟨ρ1, D1, Z1, I1⟩ := h B ρ D Z x w I; h' B ρ1 D1 Z1 x w I1
theorem Tri.weak {c : Code} {st' : St} (h : Tri P c st' K) (hw : Weak st st') : Tri P c st K :=
  fun B ρ D Z a w I => let ⟨ρ', D', Z', I'⟩ := hw B ρ D Z a w I; h B ρ' D' Z' a w I'
theorem TriOps.weak {ops : Array Oper} {l : List Oper} {st' : St} {K : St → Prop} (h : TriOps P ops l st' K) (hw : Weak st st') : TriOps P ops l st K :=
  fun B ρ D Z a w Q I hk => let ⟨ρ', D', Z', I'⟩ := hw B ρ D Z a w I; h B ρ' D' Z' a w Q I' hk

def loopK (I : St → Prop) (μ : St → Nat) (m : Nat) (K : Exit → St → Prop) : Exit → St → Prop
  | .normal, st => ∃ st', Weak st st' ∧ I st' ∧ μ st' < m
  | e, st => K e st
/-- A loop by an invariant and a measure. -/
theorem tri_loop {c : Code} (I : St → Prop) (μ : St → Nat) (h0 : ∃ st', Weak st st' ∧ I st') (round : ∀ st', I st' → Tri P c st' (loopK I μ (μ st') K)) : Tri P (.loop c) st K := by
  obtain ⟨st1, hw, hi⟩ := h0
  refine Tri.weak ?_ hw
  clear hw
  intro B ρ D Z a w J
  -- the machine's invariant: some state that fits
  have key : ∀ m, ∀ st1, I st1 → μ st1 = m → ∀ ρ D Z a w, Inv B ρ D Z st1 a w → (Code.loop c).wp P (fun ex a' w' => ∃ st' ρ' D' Z', K ex st' ∧ Inv B ρ' D' Z' st' a' w') a w := by
    intro m st1 h1 hm ρ D Z a w J
    refine wp_loop_nat (fun k a w => ∃ st ρ D Z, I st ∧ μ st = k ∧ Inv B ρ D Z st a w) m ⟨st1, ρ, D, Z, h1, hm, J⟩ ?_
    rintro k a w ⟨st2, ρ2, D2, Z2, h2, rfl, J2⟩
    refine wp_mono (round st2 h2 B ρ2 D2 Z2 a w J2) ?_
    rintro e a' w' ⟨st', ρ', D', Z', q, I'⟩
    cases e with
    | normal =>
      obtain ⟨st3, hw3, hi3, hm3⟩ := q
      obtain ⟨ρ3, D3, Z3, I3⟩ := hw3 B ρ' D' Z' a' w' I'
      exact ⟨μ st3, hm3, st3, ρ3, D3, Z3, hi3, rfl, I3⟩
    | _ => exact ⟨st', ρ', D', Z', q, I'⟩
  exact key _ st1 hi rfl ρ D Z a w J
where
  wp_loop_nat {c : Code} {Q : Exit → Act → World → Prop} (J : Nat → Act → World → Prop) (m : Nat) {a : Act} {w : World} (h : J m a w)
      (round : ∀ k a w, J k a w → c.wp P (fun e a' w' => match e with | .normal => ∃ k', k' < k ∧ J k' a' w' | e => Q e a' w') a w) : (Code.loop c).wp P Q a w := by
    intro b k cs
    have key : ∀ n a w, J n a w →
        ∃ e a' w', Q e a' w' ∧ Arrives P (lone (b.at a (.code c :: .inLoop c :: k)) cs w) b k cs e a' w' := by
      intro n
      induction n using Nat.strongRecOn with
      | _ n ih =>
        intro a w hI
        obtain ⟨e, a₁, w₁, hq, harr⟩ := round n a w hI b (.inLoop c :: k) cs
        cases e with
        | normal =>
          obtain ⟨n', hlt, hI₁⟩ := hq
          obtain ⟨e₂, a₂, w₂, hq₂, harr₂⟩ := ih n' hlt a₁ w₁ hI₁
          exact ⟨e₂, a₂, w₂, hq₂, .of_steps (Steps.trans harr (.one step_inLoop)) harr₂⟩
        | exit id => exact ⟨_, a₁, w₁, hq, .pass (x := .inLoop c) rfl (fun _ _ => .inl (by simp)) harr⟩
        | goto l => exact ⟨_, a₁, w₁, hq, .pass (x := .inLoop c) rfl (fun _ _ => .inl (by simp)) harr⟩
        | ret => exact ⟨_, a₁, w₁, hq, .pass (x := .inLoop c) rfl (fun _ _ => .inl (by simp)) harr⟩
        | panic ch => exact ⟨_, a₁, w₁, hq, .pass (x := .inLoop c) rfl (fun _ _ => .inl (by simp)) harr⟩
        | outgrown => exact ⟨_, a₁, w₁, hq, .pass (x := .inLoop c) rfl (fun _ _ => .inl (by simp)) harr⟩
    obtain ⟨e, a', w', hq, harr⟩ := key _ a w h
    exact ⟨e, a', w', hq, .of_steps (.one step_loop) harr⟩
end

/-! ### What a function returns -/
end Pm
end Go.Proofs.YtdgoompjoeffcaaGreat
/- PM, part C: what becomes of the heap's relation when a block is made, written, or given up. -/
namespace Go.Proofs.YtdgoompjoeffcaaGreat
namespace Pm

def setρ (ρ : Nat → Option Nat) (id : Nat) (g : Option Nat) : Nat → Option Nat := fun i => if i = id then g else ρ i

section
variable {B : Base} {w : World} {ρ : Nat → Option Nat} {D Z : Nat → Prop} {h : List (Option Blk)}

theorem HR.lt (H : HR B w ρ D Z h) {id g : Nat} (hr : ρ id = some g) : g < w.heap.size := by
  obtain ⟨b, hb⟩ := H.only id g hr
  obtain ⟨g', hg', hb'⟩ := H.live id b hb
  rw [hr] at hg'
  cases hg'
  cases b with
  | row e sz es => obtain ⟨c, fr, hc, _⟩ := hb'; exact (Array.getElem?_eq_some_iff.1 hc).1
  | mp es => obtain ⟨c, k, hc, _⟩ := hb'; exact (Array.getElem?_eq_some_iff.1 hc).1
  | it cur ks vs => obtain ⟨gm, since, seen, last, ents, clock, hc, _⟩ := hb'; exact (Array.getElem?_eq_some_iff.1 hc).1
theorem HR.id_lt (H : HR B w ρ D Z h) {id g : Nat} (hr : ρ id = some g) : id < h.length := by
  obtain ⟨b, hb⟩ := H.only id g hr
  exact (List.getElem?_eq_some_iff.1 hb).1
theorem HR.dead_lt (H : HR B w ρ D Z h) {id : Nat} (hr : D id) : id < h.length := (List.getElem?_eq_some_iff.1 (H.dead id hr)).1
theorem HR.not_dead (H : HR B w ρ D Z h) {id : Nat} {b : Blk} (hb : h[id]? = some (some b)) : ¬ D id := fun hd => by
  have := H.dead id hd
  rw [hb] at this
  cases this

theorem RB.step {w' : World} {ρ' : Nat → Option Nat} {D' Z' : Nat → Prop} (s : Step w w' ρ ρ' D D' Z Z') {b : Blk} {g : Nat} (hg : w'.heap[g]? = w.heap[g]?) (hb : RB w ρ D Z b g) : RB w' ρ' D' Z' b g := by
  cases b with
  | row e sz es =>
    obtain ⟨c, fr, hc, hf, h1, h2, h3⟩ := hb
    exact ⟨c, fr, hg.trans hc, hf, h1, h2, fun i j hi hj => ⟨(h3 i j hi hj).1.step s, (h3 i j hi hj).2⟩⟩
  | mp es =>
    obtain ⟨c, k, hc, h0, h1, h2⟩ := hb
    exact ⟨c, k, hg.trans hc, h0, h1, fun i hi => ⟨(h2 i hi).1.step s, (h2 i hi).2.step s⟩⟩
  | it cur ks vs =>
    obtain ⟨gm, since, seen, last, ents, clock, hc, hz, hm, hst, h1, h2, h3, h4, h5, h6, h7⟩ := hb
    refine ⟨gm, since, seen, last, ents, clock, hg.trans hc, s.z _ hz, (s.zb _ hz).trans hm, hst, h1, h2, h3, h4, h5, fun i hi => ⟨(h6 i hi).1.step s, (h6 i hi).2.step s⟩, ?_⟩
    rcases h7 with h7 | ⟨k, v, e, h8, h9, h10, h11, h12⟩
    · exact .inl h7
    · exact .inr ⟨k, v, e, h8, h9, h10, h11.step s, h12.step s⟩

theorem World.heap_old (w : World) (o : Obj) (i : Nat) (h : i < w.heap.size) : (w.alloc o).heap[i]? = w.heap[i]? := by
  show (w.heap.push o)[i]? = _
  rw [Array.getElem?_push, if_neg (by omega)]
/-- A new block. -/
theorem HR.alloc_step (H : HR B w ρ D Z h) (o : Obj) : Step w (w.alloc o) ρ (setρ ρ h.length (some w.heap.size)) D D Z Z where
  rho id g hr := .inl (by unfold setρ; rw [if_neg (Nat.ne_of_lt (H.id_lt hr))]; exact hr)
  dead _ hd := hd
  z _ hz := hz
  zb k hz := World.heap_old w o k (H.z k hz).1
  cap id g c e fr hr _ hc := ⟨c, e, fr, by rw [World.heap_old w o g (H.lt hr)]; exact hc, Nat.le_refl _⟩

theorem HR.alloc (H : HR B w ρ D Z h) (o : Obj) (b : Blk) (hb : RB (w.alloc o) (setρ ρ h.length (some w.heap.size)) D Z b w.heap.size) :
    HR B (w.alloc o) (setρ ρ h.length (some w.heap.size)) D Z (h ++ [some b]) where
  live id b' hb' := by
    by_cases e : id < h.length
    · rw [List.getElem?_append_left e] at hb'
      obtain ⟨g, hg, hr⟩ := H.live id b' hb'
      refine ⟨g, by unfold setρ; rw [if_neg (by omega)]; exact hg, hr.step (H.alloc_step o) (World.heap_old w o g (H.lt hg))⟩
    · rw [List.getElem?_append_right (by omega)] at hb'
      have : id = h.length := by
        have := (List.getElem?_eq_some_iff.1 hb').1
        simp at this
        omega
      subst this
      simp only [Nat.sub_self, List.getElem?_cons_zero, Option.some.injEq] at hb'
      subst hb'
      exact ⟨w.heap.size, by simp [setρ], hb⟩
  only id g hr := by
    unfold setρ at hr
    split at hr
    · subst id; exact ⟨b, by simp⟩
    · obtain ⟨b', hb'⟩ := H.only id g hr
      exact ⟨b', by rw [List.getElem?_append_left (List.getElem?_eq_some_iff.1 hb').1]; exact hb'⟩
  dead id hd := by rw [List.getElem?_append_left (H.dead_lt hd)]; exact H.dead id hd
  inj i j g hi hj := by
    unfold setρ at hi hj
    split at hi
    · rename_i e1
      cases hi
      split at hj
      · rename_i e2; rw [e1, e2]
      · exact absurd (H.lt hj) (by omega)
    · rename_i e1
      split at hj
      · rename_i e2; cases hj; exact absurd (H.lt hi) (by omega)
      · exact H.inj i j g hi hj
  own id g hr := by
    unfold setρ at hr
    split at hr
    · cases hr; exact .inr H.size
    · exact H.own id g hr
  z k hz := by
    refine ⟨by have := (H.z k hz).1; simp; omega, fun id hr => ?_⟩
    unfold setρ at hr
    split at hr
    · cases hr; exact absurd (H.z _ hz).1 (by omega)
    · exact (H.z k hz).2 id hr
  fr k hk hn := by
    rw [World.heap_old w o k (by have := H.size; omega)]
    exact H.fr k hk hn
  os := H.os
  tape := H.tape
  output := H.output
  size := by have := H.size; simp; omega
  step := by
    have s := H.step
    have t := H.alloc_step o
    refine ⟨fun id g hr => ?_, fun id hd => t.dead _ (s.dead _ hd), fun k hz => t.z _ (s.z _ hz), fun k hz => (t.zb k (s.z k hz)).trans (s.zb k hz), fun id g c e fr hr hr' hc => ?_⟩
    · rcases s.rho id g hr with h1 | h1
      · exact t.rho id g h1
      · exact .inr (t.dead _ h1)
    · have hw : ρ id = some g ∨ D id := s.rho id g hr
      rcases hw with h1 | h1
      · obtain ⟨c1, e1, fr1, hc1, hl1⟩ := s.cap id g c e fr hr h1 hc
        obtain ⟨c2, e2, fr2, hc2, hl2⟩ := t.cap id g c1 e1 fr1 h1 hr' hc1
        exact ⟨c2, e2, fr2, hc2, Nat.le_trans hl1 hl2⟩
      · exfalso
        have h2 := H.dead_lt h1
        unfold setρ at hr'
        rw [if_neg (by omega)] at hr'
        obtain ⟨b', hb'⟩ := H.only id g hr'
        exact H.not_dead hb' h1
  zg k hz := H.zg k hz

/-- A live row is written. -/
theorem HR.set_step (H : HR B w ρ D Z h) {id g : Nat} {c c' : Array Value} {e : TypeId} {fr : Nat × Nat} (hr : ρ id = some g) (hc : w.heap[g]? = some (.cells c e fr)) (hs : c.size ≤ c'.size) :
    Step w (w.setRow g c') ρ ρ D D Z Z where
  rho _ _ hr := .inl hr
  dead _ hd := hd
  z _ hz := hz
  zb k hz := setRow_other w g k c' (fun e => (H.z k hz).2 id (e ▸ hr))
  cap id' g' d e' fr' hr' _ hd := by
    by_cases eg : g' = g
    · subst eg
      rw [hc] at hd
      cases hd
      exact ⟨c', _, _, setRow_heap w g' c c' e _ hc, hs⟩
    · exact ⟨d, e', fr', by rw [setRow_other w g g' c' eg]; exact hd, Nat.le_refl _⟩

theorem HR.set_row (H : HR B w ρ D Z h) {id g : Nat} {c c' : Array Value} {e : TypeId} {fr : Nat × Nat} (sz : Nat) (es : List AV) (hr : ρ id = some g) (hc : w.heap[g]? = some (.cells c e fr)) (hfr : okFr fr c'.size) (hs : c.size ≤ c'.size)
    (h1 : es.length * sz ≤ c'.size) (h2 : ∀ i, i < es.length → (es.getD i .junk).cells.length = sz)
    (h3 : ∀ i j, i < es.length → j < sz → RV w ρ D Z ((es.getD i .junk).cellAt j) (c'.getD (i * sz + j) undef) ∧ (c'.getD (i * sz + j) undef).oneCell' = true) :
    HR B (w.setRow g c') ρ D Z (h.set id (some (.row e sz es))) where
  live id' b' hb' := by
    have s := H.set_step hr hc hs
    by_cases ei : id' = id
    · subst ei
      rw [List.getElem?_set_self (H.id_lt hr)] at hb'
      cases hb'
      exact ⟨g, hr, c', fr, setRow_heap w g c c' e _ hc, hfr, h1, h2, fun i j hi hj => ⟨(h3 i j hi hj).1.step s, (h3 i j hi hj).2⟩⟩
    · rw [List.getElem?_set_ne (Ne.symm ei)] at hb'
      obtain ⟨g', hg', hb⟩ := H.live id' b' hb'
      exact ⟨g', hg', hb.step s (setRow_other w g g' c' (fun eg => ei (H.inj id' id g (eg ▸ hg') hr)))⟩
  only id' g' hr' := by
    by_cases ei : id' = id
    · subst ei; exact ⟨_, List.getElem?_set_self (H.id_lt hr)⟩
    · rw [List.getElem?_set_ne (Ne.symm ei)]; exact H.only id' g' hr'
  dead id' hd := by
    have ei : id' ≠ id := fun ei => by
      obtain ⟨b, hb⟩ := H.only id g hr
      exact H.not_dead hb (ei ▸ hd)
    rw [List.getElem?_set_ne (Ne.symm ei)]
    exact H.dead id' hd
  inj := H.inj
  own := H.own
  z k hz := ⟨by have := (H.z k hz).1; simpa using this, (H.z k hz).2⟩
  fr k hk hn := by
    rw [setRow_other w g k c' (fun ek => ?_)]
    · exact H.fr k hk hn
    · subst ek
      rcases H.own id k hr with ⟨id0, h0⟩ | h0
      · exact hn id0 h0
      · omega
  os := H.os
  tape := H.tape
  output := H.output
  size := by have := H.size; simpa using this
  step := by
    have s := H.step
    have t := H.set_step hr hc hs
    refine ⟨fun id g hr => ?_, fun id hd => t.dead _ (s.dead _ hd), fun k hz => t.z _ (s.z _ hz), fun k hz => (t.zb k (s.z k hz)).trans (s.zb k hz), fun id g c e fr hr hr' hc => ?_⟩
    · exact s.rho id g hr
    · obtain ⟨c1, e1, fr1, hc1, hl1⟩ := s.cap id g c e fr hr hr' hc
      obtain ⟨c2, e2, fr2, hc2, hl2⟩ := t.cap id g c1 e1 fr1 hr' hr' hc1
      exact ⟨c2, e2, fr2, hc2, Nat.le_trans hl1 hl2⟩
  zg := H.zg

/-- A live block is given up. -/
theorem HR.kill_step (H : HR B w ρ D Z h) (id : Nat) : Step w w ρ (setρ ρ id none) D (fun i => D i ∨ (i = id ∧ id < h.length)) Z Z where
  rho i g hr := by
    by_cases e : i = id
    · exact .inr (.inr ⟨e, e ▸ H.id_lt hr⟩)
    · exact .inl (by unfold setρ; rw [if_neg e]; exact hr)
  dead _ hd := .inl hd
  z _ hz := hz
  zb _ _ := rfl
  cap id g c e fr _ _ hc := ⟨c, e, fr, hc, Nat.le_refl _⟩
theorem HR.kill (H : HR B w ρ D Z h) (id : Nat) : HR B w (setρ ρ id none) (fun i => D i ∨ (i = id ∧ id < h.length)) Z (h.set id none) where
  live id' b' hb' := by
    by_cases ei : id' = id
    · subst ei
      rw [List.getElem?_set] at hb'
      split at hb'
      · split at hb' <;> cases hb'
      · contradiction
    · rw [List.getElem?_set_ne (Ne.symm ei)] at hb'
      obtain ⟨g', hg', hb⟩ := H.live id' b' hb'
      exact ⟨g', by unfold setρ; rw [if_neg ei]; exact hg', hb.step (H.kill_step id) rfl⟩
  only id' g' hr' := by
    unfold setρ at hr'
    split at hr'
    · cases hr'
    · rename_i ei; rw [List.getElem?_set_ne (Ne.symm ei)]; exact H.only id' g' hr'
  dead id' hd := by
    by_cases ei : id' = id
    · subst ei
      refine List.getElem?_set_self ?_
      rcases hd with hd | ⟨_, hd⟩
      · exact H.dead_lt hd
      · exact hd
    · rw [List.getElem?_set_ne (Ne.symm ei)]
      rcases hd with hd | ⟨hd, _⟩
      · exact H.dead _ hd
      · exact absurd hd ei
  inj i j g hi hj := by
    unfold setρ at hi hj
    split at hi
    · cases hi
    · split at hj
      · cases hj
      · exact H.inj i j g hi hj
  own i g hr := by
    unfold setρ at hr
    split at hr
    · cases hr
    · exact H.own i g hr
  z k hz := ⟨(H.z k hz).1, fun i hr => by
    unfold setρ at hr
    split at hr
    · cases hr
    · exact (H.z k hz).2 i hr⟩
  fr := H.fr
  os := H.os
  tape := H.tape
  output := H.output
  size := H.size
  step := by
    have s := H.step
    have t := H.kill_step id
    refine ⟨fun i g hr => ?_, fun i hd => t.dead _ (s.dead _ hd), fun k hz => t.z _ (s.z _ hz), fun k hz => (t.zb k (s.z k hz)).trans (s.zb k hz), fun i g c e fr hr hr' hc => ?_⟩
    · rcases s.rho i g hr with h1 | h1
      · exact t.rho i g h1
      · exact .inr (t.dead _ h1)
    · have h1 : ρ i = some g := by
        unfold setρ at hr'
        split at hr'
        · cases hr'
        · exact hr'
      exact s.cap i g c e fr hr h1 hc
  zg := H.zg
end

/-! ### Of states -/
section
variable {B : Base} {w : World} {ρ : Nat → Option Nat} {D Z : Nat → Prop} {st : St} {a : Act}
theorem Inv.put (I : Inv B ρ D Z st a w) (d : Nat) {av : AV} {x : Value} (hd : d < st.n) (hx : RV w ρ D Z av x) : Inv B ρ D Z { st with env := (d, av) :: st.env } (a.put (some d) x) w where
  n := by simp [Act.put, I.n]
  env m := by
    simp only [look, Act.put]
    split
    · rename_i e
      subst e
      rw [show (a.tmps.setIfInBounds m x).getD m undef = x from by simp [Array.getD, I.n, hd]]
      exact hx
    · rename_i e
      have : (a.tmps.setIfInBounds d x).getD m undef = a.tmps.getD m undef := by
        simp only [Array.getD_eq_getD_getElem?, Array.getElem?_setIfInBounds]
        rw [if_neg (by omega)]
      rw [this]
      exact I.env m
  h := I.h
  bm := I.bm
  defers := by simpa [Act.put] using I.defers
theorem Inv.moved (I : Inv B ρ D Z st a w) {w' : World} {ρ' : Nat → Option Nat} {D' Z' : Nat → Prop} {h' : List (Option Blk)} (s : Step w w' ρ ρ' D D' Z Z') (H : HR B w' ρ' D' Z' h') : Inv B ρ' D' Z' { st with h := h' } a w' where
  n := I.n
  env m := (I.env m).step s
  h := H
  bm := I.bm
  defers := I.defers
end
end Pm
end Go.Proofs.YtdgoompjoeffcaaGreat
