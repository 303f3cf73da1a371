import Derived.Test.YtdgoompjoeffcaaGreatPmJ
import Derived.Scope
/- PM, part K: code with what is left to do behind it, as a reckoning. -/
namespace Go.Proofs.YtdgoompjoeffcaaGreat
namespace Pm

/-- What is left to do. -/
inductive It where
  | code (c : Code)
  | ops (ops : Array Oper) (l : List Oper)
  | blk (id : Nat)
  | goal (k : St → Prop)
/-- Where a leave of a block goes on; none: out of all. -/
def exitA (id : Nat) : List It → Option (List It)
  | [] => none
  | .blk j :: t => if j = id then some t else exitA id t
  | _ :: t => exitA id t
mutual
def TriT (P : Program) : List It → St → (Exit → St → Prop) → Prop
  | [], st, K => K .normal st
  | .code c :: t, st, K => Tri P c st fun ex st' => match ex with
    | .normal => TriT P t st' K
    | .exit id => TriX P id t st' K
    | .ret => K .ret st'
    | _ => False
  | .ops ops l :: t, st, K => TriOps P ops l st fun st' => TriT P t st' K
  | .blk _ :: t, st, K => TriT P t st K
  | .goal k :: _, st, _ => k st
def TriX (P : Program) (id : Nat) : List It → St → (Exit → St → Prop) → Prop
  | [], st, K => K (.exit id) st
  | .blk j :: t, st, K => if j = id then TriT P t st K else TriX P id t st K
  | .code _ :: t, st, K => TriX P id t st K
  | .ops _ _ :: t, st, K => TriX P id t st K
  | .goal _ :: t, st, K => TriX P id t st K
end
theorem TriX_eq (P : Program) (id : Nat) (K : Exit → St → Prop) (st : St) : ∀ t : List It, TriX P id t st K = match exitA id t with
    | some t' => TriT P t' st K
    | none => K (.exit id) st
  | [] => by simp [TriX, exitA]
  | .blk j :: t => by
    simp only [TriX, exitA]
    split
    · rfl
    · exact TriX_eq P id K st t
  | .code _ :: t => by simp only [TriX, exitA]; exact TriX_eq P id K st t
  | .ops _ _ :: t => by simp only [TriX, exitA]; exact TriX_eq P id K st t
  | .goal _ :: t => by simp only [TriX, exitA]; exact TriX_eq P id K st t

section
variable {P : Program} {st : St} {K : Exit → St → Prop}
theorem tri_of_t {c : Code} (h : TriT P [.code c] st K) : Tri P c st K := by
  simp only [TriT] at h
  refine h.mono fun e st' q => ?_
  cases e <;> first | exact q | exact q.elim
theorem t_seq {a b : Code} {t : List It} (h : TriT P (.code a :: .code b :: t) st K) : TriT P (.code (.seq a b) :: t) st K := by
  simp only [TriT] at h ⊢
  refine tri_seq fun K' hK' => h.mono fun e st' q => ?_
  cases e <;> first | exact hK' _ q | exact q | (simp only [TriX] at q; exact q) | exact q.elim
theorem t_block {id : Nat} {c : Code} {t : List It} (h : TriT P (.code c :: .blk id :: t) st K) : TriT P (.code (.block id c) :: t) st K := by
  simp only [TriT] at h ⊢
  refine tri_block (h.mono fun e st' q => ?_)
  cases e with
  | exit i =>
    simp only [TriX] at q
    simp only [blockK]
    split at q
    · rename_i hi; rw [if_pos hi.symm]; exact q
    · rename_i hi; rw [if_neg (Ne.symm hi)]; exact q
  | normal => exact q
  | ret => exact q
  | _ => exact q.elim
theorem t_cond {c : Operand} {x y : Code} {t : List It} {b : Bool} (hc : st.get c = .v (.bool b)) (h1 : b = true → TriT P (.code x :: t) st K) (h2 : b = false → TriT P (.code y :: t) st K) : TriT P (.code (.cond c x y) :: t) st K := by
  simp only [TriT] at h1 h2 ⊢
  exact tri_cond hc h1 h2
theorem t_exit {id : Nat} {t : List It} (h : match exitA id t with | some t' => TriT P t' st K | none => K (.exit id) st) : TriT P (.code (.exit id) :: t) st K := by
  simp only [TriT]
  refine tri_exit ?_
  simp only
  rw [TriX_eq]
  exact h
theorem t_region {id : Nat} {l : List Oper} {t : List It} (h : TriT P (.ops l.toArray l :: t) st K) : TriT P (.code (.region id l.toArray false) :: t) st K := by
  simp only [TriT] at h ⊢
  exact tri_region h
theorem t_scope {c : Code} {t : List It} (h : TriT P (.code c :: t) st K) : TriT P (.code (.scope c) :: t) st K := by
  simp only [TriT] at h ⊢
  intro B ρ D Z a w I
  refine wp_scope_straight (wp_mono (h B ρ D Z a w I) ?_)
  rintro e a' w' ⟨st', ρ', D', Z', q, I'⟩
  cases e with
  | goto l => exact q.elim
  | _ => exact ⟨st', ρ', D', Z', q, I'⟩
theorem t_label {l : Nat} {t : List It} (h : TriT P t st K) : TriT P (.code (.label l) :: t) st K := by
  simp only [TriT]
  intro B ρ D Z a w I
  exact wp_label ⟨st, ρ, D, Z, h, I⟩
theorem TriT.weak {t : List It} {st' : St} (hw : Weak st st') (hn : (match t with | .code _ :: _ => True | .ops _ _ :: _ => True | _ => False)) (h : TriT P t st' K) : TriT P t st K := by
  match t, hn with
  | .code c :: t, _ => simp only [TriT] at h ⊢; exact h.weak hw
  | .ops ops l :: t, _ => simp only [TriT] at h ⊢; exact h.weak hw

/-- A call that is met, and what is left behind it. -/
def CallT (P : Program) (f : FuncId) (args : List AV) (st : St) (d : Option Tmp) (ops : Array Oper) (rest : List Oper) (t : List It) (K : Exit → St → Prop) : Prop :=
  CallA P f args st d fun st => TriT P (.ops ops rest :: t) st K
/-- The next entry of a map that is gone through, and what is left behind it. -/
def NextT (P : Program) (x : AV) (st : St) (d : Option Tmp) (ops : Array Oper) (rest : List Oper) (t : List It) (K : Exit → St → Prop) : Prop :=
  NextA st x d fun st => TriT P (.ops ops rest :: t) st K
/-- What waits for a word of the prover's: a loop, a region that draws. -/
def Wait (P : Program) (c : Code) (t : List It) (st : St) (K : Exit → St → Prop) : Prop := TriT P (.code c :: t) st K

/-- What stands behind an operation, a question and a callee: it is not looked at before they are known. -/
def thenR (x : R) (k : AV → List (Option Blk) → Prop) : Prop := match x with
  | some (c, r, h) => c ∧ k r h
  | none => False
def thenB (x : AV) (k : Bool → Prop) : Prop := match x with
  | .v (.bool b) => k b
  | _ => False
def thenC (x : Option (FuncId × List AV × List AV)) (k : FuncId → List AV → List AV → Prop) : Prop := match x with
  | some (f, fs, cs) => k f fs cs
  | none => False
def thenI (p k : Prop) : Prop := p → k
/-- A guard's question; an operation that was passed over answers neither way. -/
def thenG (x : AV) (k : Bool → Prop) (u : Prop) : Prop := match x with
  | .v (.bool b) => k b
  | .v (.tuple _) => u
  | _ => False
def thenO {α : Type} (x : Option α) (k : α → Prop) (u : Prop) : Prop := match x with
  | some a => k a
  | none => u
def thenT (x : Bool) (k u : Prop) : Prop := match x with
  | true => k
  | false => u
/-- The reckoning. -/
def run (P : Program) : Nat → List It → St → (Exit → St → Prop) → Prop
  | 0, t, st, K => TriT P t st K
  | _ + 1, [], st, K => K .normal st
  | n + 1, .blk _ :: t, st, K => run P n t st K
  | _ + 1, .goal k :: _, st, _ => k st
  | n + 1, .ops _ [] :: t, st, K => run P n t st K
  | n + 1, .ops ops (o :: rest) :: t, st, K => okDst st.n o.dst = true ∧ match guardA ops o.guard with
    | none => False
    | some none => match o.op with
      | .call c => match c.callee with
        | .value f => thenC (calleeA (st.get f)) fun f fs cs => plainFn P f = true ∧ CallT P f (fs ++ c.args.toList.map st.get ++ cs) st o.dst ops rest t K
        | .builtin b => thenR (builtinR P st b c.args.toList c.argTypes.toList) fun r h => run P n (.ops ops rest :: t) ({ st with h := h }.put o.dst r) K
        | _ => False
      | .next x s => match s with
        | false => NextT P (st.get x) st o.dst ops rest t K
        | true => False
      | op => thenR (opR P st op) fun r h => run P n (.ops ops rest :: t) ({ st with h := h }.put o.dst r) K
    | some (some (d, b)) => thenG (look d st.env) (fun q => thenI (q = b) (run P n (.ops ops ({ o with guard := none } :: rest) :: t) { st with env := (d, .v (.bool b)) :: st.env } K) ∧ thenI (q = !b) (run P n (.ops ops rest :: t) ({ st with env := (d, .v (.bool (!b))) :: st.env }.put o.dst (.v undef)) K)) (run P n (.ops ops rest :: t) (st.put o.dst (.v undef)) K)
  | n + 1, .code c :: t, st, K => match c with
    | .skip => run P n t st K
    | .seq a b => run P n (.code a :: .code b :: t) st K
    | .cond c x y => thenB (st.get c) fun b => thenI (b = true) (run P n (.code x :: t) st K) ∧ thenI (b = false) (run P n (.code y :: t) st K)
    | .block id c => run P n (.code c :: .blk id :: t) st K
    | .exit id => match exitA id t with
      | some t' => run P n t' st K
      | none => K (.exit id) st
    | .ret => K .ret st
    | .region _ ops draw => if draw then Wait P c t st K else run P n (.ops ops ops.toList :: t) st K
    | .loop _ => Wait P c t st K
    | .scope c => run P n (.code c :: t) st K
    | .label _ => run P n t st K
    | _ => False

/-! ### The reckoning's rules: what is left to do stands in arguments, so that it is not looked at before the value at hand is known -/
def runI (P : Program) (n : Nat) (t : List It) (st : St) (K : Exit → St → Prop) (p : Prop) : Prop := p → run P n t st K
theorem runI_true {n : Nat} {t : List It} : runI P n t st K True = run P n t st K := by simp [runI]
theorem runI_false {n : Nat} {t : List It} : runI P n t st K False = True := by simp [runI]
theorem runI_eq {α : Type} {a b : α} {n : Nat} {t : List It} : runI P n t st K (a = b) = (a = b → run P n t st K) := rfl
theorem runI_lt {a b : Int} {n : Nat} {t : List It} : runI P n t st K (a < b) = (a < b → run P n t st K) := rfl
theorem runI_le {a b : Int} {n : Nat} {t : List It} : runI P n t st K (a ≤ b) = (a ≤ b → run P n t st K) := rfl
theorem runI_not {p : Prop} {n : Nat} {t : List It} : runI P n t st K (¬ p) = (¬ p → run P n t st K) := rfl
theorem runI_and {p q : Prop} {n : Nat} {t : List It} : runI P n t st K (p ∧ q) = (p ∧ q → run P n t st K) := rfl
theorem runI_or {p q : Prop} {n : Nat} {t : List It} : runI P n t st K (p ∨ q) = (p ∨ q → run P n t st K) := rfl
def runR (P : Program) (n : Nat) (t : List It) (dst : Option Tmp) (st : St) (K : Exit → St → Prop) (x : R) : Prop := thenR x fun r h => run P n t ({ st with h := h }.put dst r) K
theorem runR_some {n : Nat} {t : List It} {dst : Option Tmp} {c : Prop} {r : AV} {h : List (Option Blk)} : runR P n t dst st K (some (c, r, h)) = (c ∧ run P n t ({ st with h := h }.put dst r) K) := rfl
theorem runR_none {n : Nat} {t : List It} {dst : Option Tmp} : runR P n t dst st K none = False := rfl
def runH (P : Program) (n : Nat) (tA tB : List It) (dst : Option Tmp) (b : Bool) (st : St) (K : Exit → St → Prop) (d : Tmp) (x : AV) : Prop :=
  thenG x (fun q => thenI (q = b) (run P n tA { st with env := (d, .v (.bool b)) :: st.env } K) ∧ thenI (q = !b) (run P n tB ({ st with env := (d, .v (.bool (!b))) :: st.env }.put dst (.v undef)) K)) (run P n tB (st.put dst (.v undef)) K)
theorem runH_bool {n : Nat} {tA tB : List It} {dst : Option Tmp} {b : Bool} {d : Tmp} {q : Bool} : runH P n tA tB dst b st K d (.v (.bool q)) =
  (runI P n tA { st with env := (d, .v (.bool b)) :: st.env } K (q = b) ∧ runI P n tB ({ st with env := (d, .v (.bool (!b))) :: st.env }.put dst (.v undef)) K (q = !b)) := rfl
theorem runH_undef {n : Nat} {tA tB : List It} {dst : Option Tmp} {b : Bool} {d : Tmp} : runH P n tA tB dst b st K d (.v undef) = run P n tB (st.put dst (.v undef)) K := rfl
def runG (P : Program) (n : Nat) (tA tB : List It) (dst : Option Tmp) (b : Bool) (st : St) (K : Exit → St → Prop) (x : Option Tmp) : Prop := thenO x (fun d => runH P n tA tB dst b st K d (look d st.env)) False
theorem runG_some {n : Nat} {tA tB : List It} {dst : Option Tmp} {b : Bool} {d : Tmp} : runG P n tA tB dst b st K (some d) = runH P n tA tB dst b st K d (look d st.env) := rfl
def runB (P : Program) (n : Nat) (x y : Code) (t : List It) (st : St) (K : Exit → St → Prop) (v : AV) : Prop := thenB v fun b => thenI (b = true) (run P n (.code x :: t) st K) ∧ thenI (b = false) (run P n (.code y :: t) st K)
theorem runB_bool {n : Nat} {x y : Code} {t : List It} {b : Bool} : runB P n x y t st K (.v (.bool b)) = (runI P n (.code x :: t) st K (b = true) ∧ runI P n (.code y :: t) st K (b = false)) := rfl
def runE (P : Program) (n : Nat) (id : Nat) (st : St) (K : Exit → St → Prop) (x : Option (List It)) : Prop := thenO x (fun t' => run P n t' st K) (K (.exit id) st)
theorem runE_some {n id : Nat} {t : List It} : runE P n id st K (some t) = run P n t st K := rfl
theorem runE_none {n id : Nat} : runE P n id st K none = K (.exit id) st := rfl
def runC (P : Program) (args : List AV) (st : St) (d : Option Tmp) (ops : Array Oper) (rest : List Oper) (t : List It) (K : Exit → St → Prop) (x : Option (FuncId × List AV × List AV)) : Prop :=
  thenC x fun f fs cs => plainFn P f = true ∧ CallT P f (fs ++ args ++ cs) st d ops rest t K
theorem runC_some {args : List AV} {d : Option Tmp} {ops : Array Oper} {rest : List Oper} {t : List It} {f : FuncId} {fs cs : List AV} : runC P args st d ops rest t K (some (f, fs, cs)) = (plainFn P f = true ∧ CallT P f (fs ++ args ++ cs) st d ops rest t K) := rfl
/-- An operation at its turn. -/
def runO (P : Program) (n : Nat) (ops : Array Oper) (rest : List Oper) (t : List It) (dst : Option Tmp) (op : Op) (st : St) (K : Exit → St → Prop) : Prop := match op with
  | .call c => match c.callee with
    | .value f => runC P (c.args.toList.map st.get) st dst ops rest t K (calleeA (st.get f))
    | .builtin b => runR P n (.ops ops rest :: t) dst st K (builtinR P st b c.args.toList c.argTypes.toList)
    | _ => False
  | .next x s => match s with
    | false => NextT P (st.get x) st dst ops rest t K
    | true => False
  | op => runR P n (.ops ops rest :: t) dst st K (opR P st op)
theorem run_nil (n : Nat) : run P (n + 1) [] st K = K .normal st := by simp only [run]
theorem run_blk (n : Nat) {id : Nat} {t : List It} : run P (n + 1) (.blk id :: t) st K = run P n t st K := by simp only [run]
theorem run_goal (n : Nat) {k : St → Prop} {t : List It} : run P (n + 1) (.goal k :: t) st K = k st := by simp only [run]
theorem run_ops_nil (n : Nat) {ops : Array Oper} {t : List It} : run P (n + 1) (.ops ops [] :: t) st K = run P n t st K := by simp only [run]
theorem run_op (n : Nat) {ops : Array Oper} {dst : Option Tmp} {op : Op} {ty : TypeId} {pos : String} {af : Array Edge} {rest : List Oper} {t : List It} :
    run P (n + 1) (.ops ops (⟨dst, op, ty, pos, af, none⟩ :: rest) :: t) st K = (okDst st.n dst = true ∧ runO P n ops rest t dst op st K) := by
  simp only [run, guardA, runO, runR, runC]
theorem run_guard (n : Nat) {ops : Array Oper} {dst : Option Tmp} {op : Op} {ty : TypeId} {pos : String} {af : Array Edge} {j : Nat} {b : Bool} {rest : List Oper} {t : List It} :
    run P (n + 1) (.ops ops (⟨dst, op, ty, pos, af, some (j, b)⟩ :: rest) :: t) st K = (okDst st.n dst = true ∧ runG P n (.ops ops (⟨dst, op, ty, pos, af, none⟩ :: rest) :: t) (.ops ops rest :: t) dst b st K ((ops[j]?).bind (·.dst))) := by
  simp only [run, guardA, runG]
  cases (ops[j]?).bind (·.dst) <;> simp only [thenO, runH]
theorem run_skip (n : Nat) {t : List It} : run P (n + 1) (.code .skip :: t) st K = run P n t st K := by simp only [run]
theorem run_seq (n : Nat) {a b : Code} {t : List It} : run P (n + 1) (.code (.seq a b) :: t) st K = run P n (.code a :: .code b :: t) st K := by simp only [run]
theorem run_cond (n : Nat) {c : Operand} {x y : Code} {t : List It} : run P (n + 1) (.code (.cond c x y) :: t) st K = runB P n x y t st K (st.get c) := by simp only [run, runB]
theorem run_block (n : Nat) {id : Nat} {c : Code} {t : List It} : run P (n + 1) (.code (.block id c) :: t) st K = run P n (.code c :: .blk id :: t) st K := by simp only [run]
theorem run_exit (n : Nat) {id : Nat} {t : List It} : run P (n + 1) (.code (.exit id) :: t) st K = runE P n id st K (exitA id t) := by
  simp only [run, runE]
  cases exitA id t <;> simp only [thenO]
theorem run_ret (n : Nat) {t : List It} : run P (n + 1) (.code .ret :: t) st K = K .ret st := by simp only [run]
theorem run_region (n : Nat) {id : Nat} {l : List Oper} {t : List It} : run P (n + 1) (.code (.region id l.toArray false) :: t) st K = run P n (.ops l.toArray l :: t) st K := by simp [run]
theorem run_draw (n : Nat) {id : Nat} {ops : Array Oper} {t : List It} : run P (n + 1) (.code (.region id ops true) :: t) st K = Wait P (.region id ops true) t st K := by simp [run]
theorem run_scope (n : Nat) {c : Code} {t : List It} : run P (n + 1) (.code (.scope c) :: t) st K = run P n (.code c :: t) st K := by simp only [run]
theorem run_label (n : Nat) {l : Nat} {t : List It} : run P (n + 1) (.code (.label l) :: t) st K = run P n t st K := by simp only [run]
theorem run_loop (n : Nat) {c : Code} {t : List It} : run P (n + 1) (.code (.loop c) :: t) st K = Wait P (.loop c) t st K := by simp only [run]

/-- A slot's value that is known anew. -/
theorem weak_known {d : Tmp} {x : AV} (h : look d st.env = x) : Weak st { st with env := (d, x) :: st.env } := by
  intro B ρ D Z a w I
  refine ⟨ρ, D, Z, ⟨I.n, fun m => ?_, I.h, I.bm, I.defers⟩⟩
  simp only [look]
  split
  · rename_i e; subst e; rw [← h]; exact I.env m
  · exact I.env m
theorem triOps_guard {ops : Array Oper} {o : Oper} {rest : List Oper} {st : St} {K : St → Prop} {d : Tmp} {q b : Bool} (hg : guardA ops o.guard = some (some (d, b))) (hl : look d st.env = .v (.bool q)) (hd : okDst st.n o.dst = true)
    (h1 : q = b → TriOps P ops ({ o with guard := none } :: rest) st K) (h2 : q = (!b) → TriOps P ops rest (st.put o.dst (.v undef)) K) : TriOps P ops (o :: rest) st K := by
  intro B ρ D Z a w Q I hq
  unfold guardA at hg
  split at hg
  · simp at hg
  · rename_i j b' hgd
    split at hg
    · rename_i d' hdst
      simp only [Option.some.injEq, Prod.mk.injEq] at hg
      obtain ⟨rfl, rfl⟩ := hg
      have hv := I.env d'
      rw [hl] at hv
      have hval := hv.v_inv
      have hy : yielded ops a.tmps j = some q := by
        unfold yielded
        rw [hdst]
        have hlt : d' < a.tmps.size := by
          rcases Nat.lt_or_ge d' a.tmps.size with h1 | h1
          · exact h1
          · simp [Array.getD, Nat.not_lt.2 h1, undef] at hval
        have e1 : a.tmps[d']? = some (.bool q) := by
          rw [Array.getElem?_eq_getElem hlt]
          simpa [Array.getD, hlt] using hval
        simp [e1]
      by_cases htb : q = b'
      · have := h1 htb B ρ D Z a w Q I hq
        unfold wpList at this ⊢
        rw [if_pos (by simp [Region.wanted])] at this
        rw [if_pos (by simp [Region.wanted, hgd, hy, htb])]
        exact this
      · unfold wpList
        rw [if_neg (by simp [Region.wanted, hgd, hy, htb])]
        exact h2 (by cases q <;> cases b' <;> simp_all) B ρ D Z _ w Q (I.puts hd (.v _)) hq
    · simp at hg
theorem not_yielded {B : Base} {w : World} {ρ : Nat → Option Nat} {D Z : Nat → Prop} {a : Act} (I : Inv B ρ D Z st a w) {ops : Array Oper} {o : Oper} {d : Tmp} {b : Bool} {c : Array Value} (hg : guardA ops o.guard = some (some (d, b))) (hl : look d st.env = .v (.tuple c)) :
    Region.wanted o (yielded ops a.tmps) = false := by
  unfold guardA at hg
  split at hg
  · simp at hg
  · rename_i j b' hgd
    split at hg
    · rename_i d' hdst
      simp only [Option.some.injEq, Prod.mk.injEq] at hg
      obtain ⟨rfl, rfl⟩ := hg
      have hv := I.env d'
      rw [hl] at hv
      have hval := hv.v_inv
      have hy : yielded ops a.tmps j = none := by
        unfold yielded
        rw [hdst]
        rcases Nat.lt_or_ge d' a.tmps.size with hlt | hge
        · have e1 : a.tmps[d']? = some (.tuple c) := by
            rw [Array.getElem?_eq_getElem hlt]
            simpa [Array.getD, hlt] using hval
          simp [e1]
        · simp [Array.getElem?_eq_none hge]
      simp [Region.wanted, hgd, hy]
    · simp at hg
theorem triOps_over {ops : Array Oper} {o : Oper} {rest : List Oper} {st : St} {K : St → Prop} {d : Tmp} {b : Bool} {c : Array Value} (hg : guardA ops o.guard = some (some (d, b))) (hl : look d st.env = .v (.tuple c)) (hd : okDst st.n o.dst = true)
    (h : TriOps P ops rest (st.put o.dst (.v undef)) K) : TriOps P ops (o :: rest) st K := by
  intro B ρ D Z a w Q I hq
  unfold wpList
  rw [if_neg (by simp [not_yielded I hg hl])]
  exact h B ρ D Z _ w Q (I.puts hd (.v _)) hq
theorem run_sound : ∀ (n : Nat) (t : List It) (st : St), run P n t st K → TriT P t st K
  | 0, _, _, h => h
  | n + 1, [], st, h => by simpa only [TriT, run] using h
  | n + 1, .blk id :: t, st, h => by simp only [run] at h; simp only [TriT]; exact run_sound n t st h
  | n + 1, .goal k :: t, st, h => by simp only [run] at h; simp only [TriT]; exact h
  | n + 1, .ops ops [] :: t, st, h => by simp only [run] at h; simp only [TriT]; exact tri_nil (run_sound n t st h)
  | n + 1, .ops ops (o :: rest) :: t, st, h => by
    simp only [run, thenR, thenG, thenC, thenI] at h
    obtain ⟨hd, h⟩ := h
    have up : ∀ st', TriT P (.ops ops rest :: t) st' K → TriOps P ops rest st' fun st' => TriT P t st' K := fun st' h => by simpa only [TriT] using h
    simp only [TriT]
    split at h
    · exact h.elim
    · rename_i hg
      refine tri_step ⟨hd, ?_⟩
      simp only [hg]
      unfold stepA
      split at h
      · rename_i c ho
        simp only [ho]
        split at h
        · rename_i f hf
          simp only [hf]
          split at h
          · rename_i fid fs cs hc
            simp only [hc]
            refine ⟨h.1, ?_⟩
            have := h.2
            unfold CallT at this
            simpa only [TriT] using this
          · exact h.elim
        · rename_i b hb
          simp only [hb]
          split at h
          · rename_i c' r h' hr
            simp only [hr]
            exact ⟨h.1, up _ (run_sound n _ _ h.2)⟩
          · exact h.elim
        · exact h.elim
      · rename_i x s ho
        simp only [ho]
        split at h
        · unfold NextT at h
          simpa only [TriT] using h
        · exact h.elim
      · rename_i hnc hnn
        split
        · rename_i c hc; exact absurd hc (hnc c)
        · rename_i x s hc; exact absurd hc (hnn x s)
        · split at h
          · rename_i c' r h' hr
            simp only [hr]
            exact ⟨h.1, up _ (run_sound n _ _ h.2)⟩
          · exact h.elim
    · rename_i d b hg
      split at h
      · rename_i q hl
        refine triOps_guard hg hl hd (fun e => ?_) (fun e => ?_)
        · have := run_sound n _ _ (h.1 e)
          simp only [TriT] at this
          exact this.weak (weak_known (by rw [hl, e]))
        · have := up _ (run_sound n _ _ (h.2 e))
          refine this.weak ?_
          have hw := weak_known (st := st) (d := d) (x := .v (.bool (!b))) (by rw [hl, e])
          intro B ρ D Z a w I
          cases hdst : o.dst with
          | none =>
            rw [hdst] at I
            exact hw B ρ D Z a w I
          | some dd =>
            rw [hdst] at I
            refine ⟨ρ, D, Z, ⟨I.n, fun m => ?_, I.h, I.bm, I.defers⟩⟩
            have hm := I.env m
            simp only [St.put, look] at hm ⊢
            split
            · rename_i e1; rw [if_pos e1] at hm; exact hm
            · rename_i e1
              rw [if_neg e1] at hm
              split
              · rename_i e2; subst e2; rw [hl, e] at hm; exact hm
              · exact hm
      · rename_i c hl
        exact triOps_over hg hl hd (up _ (run_sound n _ _ h))
      · exact h.elim
  | n + 1, .code c :: t, st, h => by
    simp only [run, thenB, thenI] at h
    split at h
    · simp only [TriT]; exact tri_skip (run_sound n t st h)
    · exact t_seq (run_sound n _ st h)
    · split at h
      · rename_i b hc; exact t_cond hc (fun e => run_sound n _ st (h.1 e)) (fun e => run_sound n _ st (h.2 e))
      · exact h.elim
    · exact t_block (run_sound n _ st h)
    · refine t_exit ?_
      split at h
      · exact run_sound n _ st h
      · exact h
    · simp only [TriT]; exact tri_ret h
    · split at h
      · exact h
      · rename_i id ops draw hd
        have hd' : draw = false := by simpa using hd
        subst hd'
        have e : ops = ops.toList.toArray := by simp
        rw [e] at h ⊢
        exact t_region (by simpa using run_sound n _ st h)
    · exact h
    · exact t_scope (run_sound n _ st h)
    · exact t_label (run_sound n _ st h)
    · exact h.elim
theorem tri_run (n : Nat) {c : Code} (h : run P n [.code c] st K) : Tri P c st K := tri_of_t (run_sound n _ _ h)

def loopN (I : Nat → St → Prop) (m : Nat) (K : Exit → St → Prop) : Exit → St → Prop
  | .normal, st => ∃ m' st', Weak st st' ∧ I m' st' ∧ m' < m
  | e, st => K e st
theorem tri_loopN {c : Code} (I : Nat → St → Prop) (m : Nat) (h0 : ∃ st', Weak st st' ∧ I m st') (round : ∀ m st', I m st' → Tri P c st' (loopN I m K)) : Tri P (.loop c) st K := by
  obtain ⟨st1, hw, hi⟩ := h0
  refine Tri.weak ?_ hw
  clear hw
  intro B ρ D Z a w J
  refine tri_loop.wp_loop_nat (fun k a w => ∃ st ρ D Z, I k st ∧ Inv B ρ D Z st a w) m ⟨st1, ρ, D, Z, hi, J⟩ ?_
  rintro k a w ⟨st2, ρ2, D2, Z2, h2, J2⟩
  refine wp_mono (round k st2 h2 B ρ2 D2 Z2 a w J2) ?_
  rintro e a' w' ⟨st', ρ', D', Z', q, I'⟩
  cases e with
  | normal =>
    obtain ⟨m3, st3, hw3, hi3, hm3⟩ := q
    obtain ⟨ρ3, D3, Z3, I3⟩ := hw3 B ρ' D' Z' a' w' I'
    exact ⟨m3, hm3, st3, ρ3, D3, Z3, hi3, I3⟩
  | _ => exact ⟨st', ρ', D', Z', q, I'⟩
/-- A loop that counts up to N: the states are told one by one. -/
theorem wait_range (N : Nat) (S : Nat → St) (G : Nat → Prop) {c : Code} {t : List It} (h0 : Weak st (S 0)) (g0 : G 0) (round : ∀ k, k ≤ N → G k → TriT P (.code c :: .goal (fun st2 => k < N ∧ G (k + 1) ∧ Weak st2 (S (k + 1))) :: t) (S k) K) :
    Wait P (.loop c) t st K := by
  unfold Wait
  simp only [TriT]
  refine tri_loopN (fun m st' => ∃ k, k ≤ N ∧ m = N - k ∧ G k ∧ st' = S k) (N - 0) ⟨S 0, h0, 0, Nat.zero_le _, rfl, g0, rfl⟩ ?_
  rintro m st' ⟨k, hk, rfl, hg, rfl⟩
  have := round k hk hg
  simp only [TriT] at this
  refine this.mono fun e st2 q => ?_
  cases e with
  | exit id => simp only [TriX] at q; exact q
  | normal => obtain ⟨h1, h2, h3⟩ := q; exact ⟨_, S (k + 1), h3, ⟨k + 1, h1, rfl, h2, rfl⟩, by omega⟩
  | _ => exact q
/-- A call by a pure contract. -/
theorem call_pure (n : Nat) {f : FuncId} {args args' : List AV} {d : Option Tmp} {ops : Array Oper} {rest : List Oper} {t : List It} {Q : AV → Prop} (c : PCon P f args' Q) (ha : AV.renL noF args = args') (hd : okDst st.n d = true)
    (hk : ∀ r, Q r → run P n (.ops ops rest :: t) (st.put d r) K) : CallT P f args st d ops rest t K :=
  callA_pure (by rw [ha]; exact c) hd fun r q => run_sound n _ _ (hk r q)
theorem call_read (n : Nat) {f : FuncId} {args args' : List AV} {d : Option Tmp} {ops : Array Oper} {rest : List Oper} {t : List It} {Q : AV → Prop} (c : PCon P f args' Q) (ha : fzL st.h args = args') (hd : okDst st.n d = true)
    (hk : ∀ r, Q r → r.closed = true ∧ run P n (.ops ops rest :: t) (st.put d r) K) : CallT P f args st d ops rest t K :=
  callA_read (by rw [ha]; exact c) hd fun r q => ⟨(hk r q).1, run_sound n _ _ (hk r q).2⟩

theorem next_t (n : Nat) {x : AV} {d : Option Tmp} {ops : Array Oper} {rest : List Oper} {t : List It} {id : Nat} {cur ks vs : List AV} (hx : x = .ptr id 0 0 0) (hb : st.h[id]? = some (some (.it cur ks vs)))
    (h0 : ks = [] → run P n (.ops ops rest :: t) (st.put d (.tup [.v (.bool false)])) K)
    (h1 : ∀ q, q < ks.length → run P n (.ops ops rest :: t) ({ st with h := st.h.set id (some (.it [ks.getD q .junk, vs.getD q .junk] (ks.eraseIdx q) (vs.eraseIdx q))) }.put d (.tup [.v (.bool true), ks.getD q .junk, vs.getD q .junk])) K) :
    NextT P x st d ops rest t K := by
  subst hx
  unfold NextT NextA
  have : itOf st id = some (cur, ks, vs) := by unfold itOf; rw [hb]
  simp only [this]
  exact ⟨trivial, trivial, trivial, fun e => run_sound n _ _ (h0 e), fun q hq => run_sound n _ _ (h1 q hq)⟩
/-! ### What may be forgotten -/
/-- Some slots, some blocks, in a new order. -/
def idxOf (ids : List Nat) (id : Nat) : Option Nat := match ids with
  | [] => none
  | i :: l => if id = i then some 0 else (idxOf l id).map (· + 1)
def Blk.ren (f : Nat → Option Nat) : Blk → Blk
  | .it cur ks vs => .it (AV.renL f cur) (AV.renL f ks) (AV.renL f vs)
  | .row e sz es => .row e sz (AV.renL f es)
  | .mp es => .mp (es.map fun x => (x.1.ren f, x.2.ren f))
def keepB (h : List (Option Blk)) (ids : List Nat) (id : Nat) : Option Blk := match h[id]? with
  | some (some b) => some (b.ren (idxOf ids))
  | _ => none
def St.keep (st : St) (slots ids : List Nat) : St where
  n := st.n
  m := st.m
  env := slots.map fun s => (s, (look s st.env).ren (idxOf ids))
  h := ids.map (keepB st.h ids)
theorem idxOf_some : ∀ (ids : List Nat) (id i : Nat), idxOf ids id = some i → ids[i]? = some id
  | [], id, i, h => by simp [idxOf] at h
  | j :: l, id, i, h => by
    simp only [idxOf] at h
    split at h
    · rename_i e; cases h; simp [e]
    · obtain ⟨k, hk, rfl⟩ := Option.map_eq_some_iff.1 h
      simpa using idxOf_some l id k hk
theorem look_map (f : Nat → AV) : ∀ (l : List Nat) (n : Nat), look n (l.map fun s => (s, f s)) = if n ∈ l then f n else .junk
  | [], n => by simp [look]
  | s :: l, n => by
    simp only [List.map_cons, look, look_map f l n, List.mem_cons]
    split
    · rename_i e; subst e; simp
    · rename_i e; simp [e]
theorem RB.ren {w : World} {ρ ρ' : Nat → Option Nat} {D D' Z : Nat → Prop} (f : Nat → Option Nat) (hρ : ∀ id i g, f id = some i → ρ id = some g → ρ' i = some g) (hD : ∀ id i, f id = some i → D id → D' i) {b : Blk} {g : Nat} (h : RB w ρ D Z b g) : RB w ρ' D' Z (b.ren f) g := by
  cases b with
  | row e sz es =>
    obtain ⟨c, fr, hc, hf, h1, h2, h3⟩ := h
    refine ⟨c, fr, hc, hf, by rw [AV.renL_length]; exact h1, fun i hi => ?_, fun i j hi hj => ?_⟩
    · rw [AV.renL_getD, AV.cells_ren, AV.renL_length]; exact h2 i (by rwa [AV.renL_length] at hi)
    · rw [AV.renL_getD, AV.cellAt_ren]
      have := h3 i j (by rwa [AV.renL_length] at hi) hj
      exact ⟨this.1.ren f hρ hD, this.2⟩
  | mp es =>
    obtain ⟨c, k, hc, h0, h1, h2⟩ := h
    refine ⟨c, k, hc, h0, by simpa using h1, fun i hi => ?_⟩
    have hi' : i < es.length := by simpa using hi
    have := h2 i hi'
    have e : (es.map fun x => (x.1.ren f, x.2.ren f)).getD i default = ((es.getD i default).1.ren f, (es.getD i default).2.ren f) := by
      simp [List.getD_eq_getElem?_getD, hi']
    rw [e]
    exact ⟨this.1.ren f hρ hD, this.2.ren f hρ hD⟩
  | it cur ks vs =>
    obtain ⟨gm, since, seen, last, ents, clock, hc, hz, hm, hst, h1, h2, h3, h4, h5, h6, h7⟩ := h
    refine ⟨gm, since, seen, last, ents, clock, hc, hz, hm, hst, h1, h2, h3, by rw [AV.renL_length]; exact h4, by rw [AV.renL_length, AV.renL_length]; exact h5, fun i hi => ?_, ?_⟩
    · rw [AV.renL_getD, AV.renL_getD]
      have := h6 i (by rwa [AV.renL_length] at hi)
      exact ⟨this.1.ren f hρ hD, this.2.ren f hρ hD⟩
    · rcases h7 with h7 | ⟨k, v, e, h8, h9, h10, h11, h12⟩
      · exact .inl (by rw [h7]; rfl)
      · exact .inr ⟨k.ren f, v.ren f, e, by rw [h8]; rfl, h9, h10, h11.ren f hρ hD, h12.ren f hρ hD⟩
theorem weak_move (slots ids : List Nat) (hn : ids.Nodup) (hm : ∀ i, i < st.m → ∃ j, ids[i]? = some j ∧ (j = i ∨ st.h.length ≤ j)) : Weak st (st.keep slots ids) := by
  intro B ρ D Z a w I
  have H := I.h
  let ρ' : Nat → Option Nat := fun i => (ids[i]?).bind ρ
  let D' : Nat → Prop := fun i => ∃ id, ids[i]? = some id ∧ ∀ g, ρ id ≠ some g
  have hρ : ∀ id i g, idxOf ids id = some i → ρ id = some g → ρ' i = some g := fun id i g h hg => by
    simp only [ρ', idxOf_some ids id i h, Option.bind_some, hg]
  have hD : ∀ id i, idxOf ids id = some i → D id → D' i := fun id i h hd => ⟨id, idxOf_some ids id i h, fun g hg => by
    obtain ⟨b, hb⟩ := H.only id g hg
    exact H.not_dead hb hd⟩
  have hρ' : ∀ i g, ρ' i = some g → ∃ id, ids[i]? = some id ∧ ρ id = some g := fun i g h => by
    simp only [ρ', Option.bind_eq_some_iff] at h
    exact h
  refine ⟨ρ', D', Z, ⟨I.n, fun m => ?_, ?_, I.bm, I.defers⟩⟩
  · simp only [St.keep]
    rw [look_map (fun s => (look s st.env).ren (idxOf ids))]
    split
    · exact (I.env m).ren _ hρ hD
    · exact .junk _
  · have hget : ∀ i, (st.keep slots ids).h[i]? = (ids[i]?).map (keepB st.h ids) := fun i => by unfold St.keep; exact List.getElem?_map ..
    constructor
    case live =>
      intro i b hb
      rw [hget] at hb
      obtain ⟨id, hid, hb2⟩ := Option.map_eq_some_iff.1 hb
      unfold keepB at hb2
      split at hb2
      · rename_i b0 hb0
        cases hb2
        obtain ⟨g, hg, hr⟩ := H.live id b0 hb0
        exact ⟨g, by simp only [ρ', hid, Option.bind_some, hg], hr.ren _ hρ hD⟩
      · cases hb2
    case only =>
      intro i g hg
      obtain ⟨id, hid, hr⟩ := hρ' i g hg
      obtain ⟨b, hb⟩ := H.only id g hr
      exact ⟨b.ren (idxOf ids), by rw [hget, hid]; simp [keepB, hb]⟩
    case dead =>
      rintro i ⟨id, hid, hd⟩
      rw [hget, hid]
      simp only [Option.map_some, keepB]
      split
      · rename_i b hb
        obtain ⟨g, hg, _⟩ := H.live id b hb
        exact absurd hg (hd g)
      · rfl
    case inj =>
      intro i j g hi hj
      obtain ⟨id, h1, h2⟩ := hρ' i g hi
      obtain ⟨jd, h3, h4⟩ := hρ' j g hj
      have e := H.inj id jd g h2 h4
      subst e
      obtain ⟨hi1, hi2⟩ := List.getElem?_eq_some_iff.1 h1
      obtain ⟨hj1, hj2⟩ := List.getElem?_eq_some_iff.1 h3
      exact (List.getElem_inj hn).1 (hi2.trans hj2.symm)
    case own =>
      intro i g hg
      obtain ⟨id, h1, h2⟩ := hρ' i g hg
      exact H.own id g h2
    case z =>
      intro k hk
      refine ⟨(H.z k hk).1, fun i hg => ?_⟩
      obtain ⟨id, h1, h2⟩ := hρ' i k hg
      exact (H.z k hk).2 id h2
    case fr => exact H.fr
    case os => exact H.os
    case tape => exact H.tape
    case output => exact H.output
    case size => exact H.size
    case zg => exact H.zg
    case step =>
      have s := H.step
      have key : ∀ id, (∃ g, B.ρ id = some g) ∨ B.D id → ∃ j, ids[id]? = some j ∧ (j = id ∨ st.h.length ≤ j) := fun id h => hm id (I.bm id h)
      have gone : ∀ j, st.h.length ≤ j → ∀ g, ρ j ≠ some g := fun j hj g hg => by
        obtain ⟨b, hb⟩ := H.only j g hg
        have := (List.getElem?_eq_some_iff.1 hb).1
        omega
      refine ⟨fun id g hg => ?_, fun id hd => ?_, s.z, s.zb, fun id g c e fr hg hg' hc => ?_⟩
      · obtain ⟨j, hid, rfl | hj⟩ := key id (.inl ⟨g, hg⟩)
        · rcases s.rho j g hg with h1 | h1
          · exact .inl (by simp only [ρ', hid, Option.bind_some, h1])
          · refine .inr ⟨j, hid, fun g' hg' => ?_⟩
            obtain ⟨b, hb⟩ := H.only j g' hg'
            exact H.not_dead hb h1
        · exact .inr ⟨j, hid, gone j hj⟩
      · obtain ⟨j, hid, rfl | hj⟩ := key id (.inr hd)
        · refine ⟨j, hid, fun g' hg' => ?_⟩
          obtain ⟨b, hb⟩ := H.only j g' hg'
          exact H.not_dead hb (s.dead j hd)
        · exact ⟨j, hid, gone j hj⟩
      · obtain ⟨j, hid, rfl | hj⟩ := key id (.inl ⟨g, hg⟩)
        · obtain ⟨id', h1, h2⟩ := hρ' j g hg'
          rw [hid] at h1
          cases h1
          exact s.cap j g c e fr hg h2 hc
        · obtain ⟨id', h1, h2⟩ := hρ' id g hg'
          rw [hid] at h1
          cases h1
          exact absurd h2 (gone j hj g)
theorem weak_keep (slots ids : List Nat) (hn : ids.Nodup) (hm : ∀ i, i < st.m → ids[i]? = some i) : Weak st (st.keep slots ids) := weak_move slots ids hn fun i h => ⟨i, hm i h, .inl rfl⟩
/-- Forgetting, to a state that is written out. -/
theorem weak_to (slots ids : List Nat) {st' : St} (e : st.keep slots ids = st') (hn : ids.Nodup) (hm : ∀ i, i < st.m → ids[i]? = some i) : Weak st st' := by
  subst e
  exact weak_keep slots ids hn hm
theorem weak_to' (slots ids : List Nat) {st' : St} (e : st.keep slots ids = st') (hn : ids.Nodup) (hm : ∀ i, i < st.m → ∃ j, ids[i]? = some j ∧ (j = i ∨ st.h.length ≤ j)) : Weak st st' := by
  subst e
  exact weak_move slots ids hn hm
end
end Pm
end Go.Proofs.YtdgoompjoeffcaaGreat
