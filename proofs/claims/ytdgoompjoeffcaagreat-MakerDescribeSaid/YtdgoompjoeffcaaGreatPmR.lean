import Derived.Test.YtdgoompjoeffcaaGreatPmN
import Derived.Attr
import Derived.ProofKit
import Derived.Deep.Slices
/- PM, part O: the reckoning's rules, and small facts that walks ask for. -/
namespace Go.Proofs.YtdgoompjoeffcaaGreat
namespace Pm

theorem call_eq (n : Nat) {P : Program} {st : St} {K : Exit → St → Prop} {f : FuncId} {args args' : List AV} {d : Option Tmp} {ops : Array Oper} {rest : List Oper} {t : List It} {r : AV} (c : PCon P f args' fun x => x = r) (ha : AV.renL noF args = args')
    (hk : run P n (.ops ops rest :: t) (st.put d r) K) (hd : okDst st.n d = true) : CallT P f args st d ops rest t K :=
  call_pure n c ha hd fun r' e => by rw [e]; exact hk
theorem call_eq_read (n : Nat) {P : Program} {st : St} {K : Exit → St → Prop} {f : FuncId} {args args' : List AV} {d : Option Tmp} {ops : Array Oper} {rest : List Oper} {t : List It} {r : AV} (c : PCon P f args' fun x => x = r) (ha : fzL st.h args = args') (hr : r.closed = true)
    (hk : run P n (.ops ops rest :: t) (st.put d r) K) (hd : okDst st.n d = true) : CallT P f args st d ops rest t K :=
  call_read n c ha hd fun r' e => by rw [e]; exact ⟨hr, hk⟩
theorem fz_byA (h : List (Option Blk)) (l : List UInt8) : fzL h (byA l) = byA l := by
  exact fzL_vs h _ (fun b => fz_v h _) l
theorem fy_byA (h : List (Option Blk)) (l : List UInt8) : fyL h (byA l) = byA l := by
  exact fyL_vs h _ (fun b => fy_v h _) l
theorem ren_fmap (f : Nat → Option Nat) (k l : List AV) : AV.ren f (.fmap k l) = .fmap (AV.renL f k) (AV.renL f l) := by simp only [AV.ren]
theorem ren_v (f : Nat → Option Nat) (x : Value) : AV.ren f (.v x) = .v x := by simp only [AV.ren]
theorem ren_agg (f : Nat → Option Nat) (l : List AV) : AV.ren f (.agg l) = .agg (AV.renL f l) := by simp only [AV.ren]
theorem ren_tup (f : Nat → Option Nat) (l : List AV) : AV.ren f (.tup l) = .tup (AV.renL f l) := by simp only [AV.ren]
theorem ren_fsl (f : Nat → Option Nat) (n : Nat) (l : List AV) : AV.ren f (.fsl n l) = .fsl n (AV.renL f l) := by simp only [AV.ren]
theorem ren_fptr (f : Nat → Option Nat) (l : List AV) : AV.ren f (.fptr l) = .fptr (AV.renL f l) := by simp only [AV.ren]
theorem ren_clo (g : Nat → Option Nat) (f : Fn) (l m : List AV) : AV.ren g (.clo f l m) = .clo f (AV.renL g l) (AV.renL g m) := by simp only [AV.ren]
theorem ren_sl (f : Nat → Option Nat) (id sz off n : Nat) : AV.ren f (.sl id sz off n) = AV.renId f id fun id => .sl id sz off n := by simp only [AV.ren]
theorem ren_ptr (f : Nat → Option Nat) (id sz i j : Nat) : AV.ren f (.ptr id sz i j) = AV.renId f id fun id => .ptr id sz i j := by simp only [AV.ren]
theorem ren_map (f : Nat → Option Nat) (id : Nat) : AV.ren f (.map id) = AV.renId f id fun id => .map id := by simp only [AV.ren]
theorem ren_junk (f : Nat → Option Nat) : AV.ren f .junk = .junk := by simp only [AV.ren]
theorem renL_nil (f : Nat → Option Nat) : AV.renL f [] = [] := by simp only [AV.renL]
theorem renL_cons (f : Nat → Option Nat) (a : AV) (l : List AV) : AV.renL f (a :: l) = a.ren f :: AV.renL f l := by simp only [AV.renL]
theorem closed_v (x : Value) : AV.closed (.v x) = true := by simp only [AV.closed]
theorem closed_agg (l : List AV) : AV.closed (.agg l) = AV.closedL l := by simp only [AV.closed]
theorem closed_tup (l : List AV) : AV.closed (.tup l) = AV.closedL l := by simp only [AV.closed]
theorem closedL_nil : AV.closedL [] = true := by simp only [AV.closedL]
theorem closedL_cons (a : AV) (l : List AV) : AV.closedL (a :: l) = (a.closed && AV.closedL l) := by simp only [AV.closedL]
theorem wrap64 {x : Int} (h1 : -9223372036854775808 ≤ x) (h2 : x ≤ 9223372036854775807) : IntKind.i64.wrap x = x := by
  simp [IntKind.wrap, IntKind.bits, IntKind.signed]
  split <;> omega
end Pm
end Go.Proofs.YtdgoompjoeffcaaGreat
/- PM, part P: a value told in another way. -/
namespace Go.Proofs.YtdgoompjoeffcaaGreat
namespace Pm
/-- What is an a is a b. -/
def Le (a b : AV) : Prop := ∀ (w : World) (Z : Nat → Prop) (x : Value), RV w noρ noD Z a x → RV w noρ noD Z b x
theorem Le.refl (a : AV) : Le a a := fun _ _ _ h => h
theorem Le.trans {a b c : AV} (h : Le a b) (k : Le b c) : Le a c := fun w Z x r => k w Z x (h w Z x r)
/-- No slice is an empty one. -/
theorem Le.nil (sz : Nat) : Le (.v (.slice none 0 0)) (.fsl sz []) := fun w Z x h => by
  rw [h.v_inv]
  exact .fsl (es := []) (cap := 0) (A := none) (fun _ _ => undef) (Nat.le_refl _) (by simp) (fun i hi => by simp at hi) (fun i j hi => by simp at hi) (fun i j hi => by simp at hi) (fun i j hi => by simp at hi)
inductive LeL : List AV → List AV → Prop where
  | nil : LeL [] []
  | cons {a b : AV} {l m : List AV} (h : Le a b) (t : LeL l m) : LeL (a :: l) (b :: m)
theorem LeL.length {l m : List AV} (h : LeL l m) : l.length = m.length := by
  induction h with
  | nil => rfl
  | cons _ _ ih => simp [ih]
theorem LeL.getD {l m : List AV} (h : LeL l m) (i : Nat) : Le (l.getD i .junk) (m.getD i .junk) := by
  induction h generalizing i with
  | nil => exact Le.refl _
  | cons h _ ih =>
    cases i with
    | zero => exact h
    | succ i => simpa using ih i
theorem LeL.refl : ∀ l : List AV, LeL l l
  | [] => .nil
  | a :: l => .cons (Le.refl a) (LeL.refl l)
theorem Le.agg {l m : List AV} (h : LeL l m) : Le (.agg l) (.agg m) := fun w Z x r => by
  obtain ⟨c, rfl, h1, h2⟩ := r.agg_inv
  exact .agg (by rw [← h.length]; exact h1) fun i hi => h.getD i w Z _ (h2 i (by rw [h.length]; exact hi))
theorem Le.tup {l m : List AV} (h : LeL l m) : Le (.tup l) (.tup m) := fun w Z x r => by
  obtain ⟨c, rfl, h1, h2⟩ := r.tup_inv
  exact .tup (by rw [← h.length]; exact h1) fun i hi => h.getD i w Z _ (h2 i (by rw [h.length]; exact hi))
theorem PCon.le {P : Program} {f : FuncId} {args : List AV} {r r' : AV} (c : PCon P f args fun x => x = r) (h : Le r r') : PCon P f args fun x => x = r' :=
  fun w Z cargs hl ha hz hgl => (c w Z cargs hl ha hz hgl).mono fun _ _ ⟨_, v, Z', e1, q, e2, e3⟩ => ⟨r', v, Z', e1, rfl, h _ _ _ (q ▸ e2), e3⟩
theorem PCon.upto {P : Program} {f : FuncId} {args : List AV} {r' : AV} (c : PCon P f args fun x => Le x r') : PCon P f args fun x => x = r' :=
  fun w Z cargs hl ha hz hgl => (c w Z cargs hl ha hz hgl).mono fun _ _ ⟨_, v, Z', e1, q, e2, e3⟩ => ⟨r', v, Z', e1, rfl, q _ _ _ e2, e3⟩
end Pm
end Go.Proofs.YtdgoompjoeffcaaGreat
/- PM, part Q: a law's row: what stands behind the call. -/
namespace Go.Proofs.YtdgoompjoeffcaaGreat
namespace Pm
section
variable {H : Type} {enc : TypeId × Value → H} {P : Program}
theorem trodAll_stays (hl : laidOutB P = true) {W W' : World} {sp : Nat → Bool} (hb : RowKit.Below W.heap.size W W') : ∀ (ts : List TypeId) (vs : List Value) (ds : List (DataW H)) (ps : List MemPlace),
    (∀ t ∈ ts, P.readableRec t = true ∧ t < P.types.size) → (∀ x ∈ ps, x.block < W.heap.size) → (∀ x ∈ ps, sp x.block = true) → DataW.TrodAll enc P W 0 (fun _ => true) true ts vs ds ps → DataW.TrodAll enc P W' 0 sp true ts vs ds ps
  | [], [], [], _, _, _, _, h => h
  | t :: ts, v :: vs, d :: ds, ps, hr, hlt, hs, h => by
    obtain ⟨p, q, h1, h2, rfl⟩ := h
    refine ⟨p, q, ?_, trodAll_stays hl hb ts vs ds q (fun t ht => hr t (List.mem_cons_of_mem _ ht)) (fun x hx => hlt x (List.mem_append_right _ hx)) (fun x hx => hs x (List.mem_append_right _ hx)) h2, rfl⟩
    exact WideElems.Trod_stays hl (hr t List.mem_cons_self).1 (hr t List.mem_cons_self).2 h1 (fun x hx => hb.same (hlt x (List.mem_append_left _ hx))) (fun x hx => hs x (List.mem_append_left _ hx))
  | [], [], _ :: _, _, _, _, _, h => h.elim
  | [], _ :: _, _, _, _, _, _, h => h.elim
  | _ :: _, [], _, _, _, _, _, h => h.elim
  | _ :: _, _ :: _, [], _, _, _, _, h => h.elim
theorem below_kept {W W' : World} (hb : RowKit.Below W.heap.size W W') (may : MemPlace → Prop) : W.keptBut W' may := by
  refine ⟨hb.os, hb.output, fun i hi => ?_⟩
  rw [hb.block i hi]
  cases h : W.heap[i]? with
  | none => rfl
  | some o => cases o <;> simp
/-- A law that answers true and leaves what it was given. -/
theorem post_true {f : Func} {s : ChangeSpec} {apart fresh handsOn : Bool} {W W' : World} {args : Array Value} {ds gs : List (DataW H)} {before : List MemPlace} {tb : TypeId} (hl : laidOutB P = true)
    (hW : DataW.Whole enc P f.params.toList s.vars apart W args.toList ds gs before) (hv : s.vars = []) (hp : ∀ t ∈ f.params.toList, P.readableRec t = true ∧ t < P.types.size) (hr : f.resultTypes = #[tb]) (ht : P.underlying tb = some .bool)
    (hf : ∀ ds', gs = [] → ds' = ds → s.fn H (ds' ++ gs) = { results := [.lit (.bool true)], args := ds' }) (hb : RowKit.Below W.heap.size W W') : s.post enc P f apart fresh handsOn false W args (.bool true) W' := by
  have hlt : ∀ x ∈ before, x.block < W.heap.size := fun x hx => hW.lt x hx
  have hW0 := hW
  obtain ⟨p, q, hA, hV, rfl, _, _⟩ := hW
  have hg : gs = [] ∧ q = [] := by
    rw [hv] at hV
    cases gs with
    | nil => exact ⟨rfl, hV⟩
    | cons g gs => exact hV.elim
  obtain ⟨hg, hq⟩ := hg
  subst hq
  have e := hf ds hg rfl
  refine ⟨ds, gs, p ++ [], [], p, [], hW0, ?_, ?_, ?_, below_kept hb _, fun h => by cases h⟩
  · rw [e, hr]
    exact ⟨[], [], ⟨1, by simp [DataW.trod, ht, Value.cells]⟩, rfl, rfl⟩
  · rw [e]
    exact trodAll_stays hl hb _ _ _ _ hp (fun x hx => hlt x (by simpa using hx)) (fun x hx => by simpa using hlt x (by simpa using hx)) hA
  · rw [e, hv]
    exact rfl
end
end Pm
end Go.Proofs.YtdgoompjoeffcaaGreat
/- PM, part R: a law's row: what it is given, read as abstract values. -/
namespace Go.Proofs.YtdgoompjoeffcaaGreat
namespace Pm
section
variable {H : Type} {enc : TypeId × Value → H} {P : Program} {W : World}
/-- The blocks that are there. -/
abbrev zOf (W : World) : Nat → Prop := fun k => k < W.heap.size
theorem cells_get {a : Addr} {n : Nat} {cs : List Value} (h : W.cells? 0 a n = some cs) : cs.length = n ∧ ∀ j, j < n → W.cell? (a.add j) = some (cs.getD j undef) := by
  unfold World.cells? at h
  rw [if_pos (Nat.zero_le _)] at h
  have key : ∀ (l : List Nat) (cs : List Value), l.mapM (fun i => W.cell? (a.add i)) = some cs → cs.length = l.length ∧ ∀ j, j < l.length → W.cell? (a.add (l.getD j 0)) = some (cs.getD j undef) := by
    intro l
    induction l with
    | nil => intro cs h; simp at h; subst h; exact ⟨rfl, fun j hj => by simp at hj⟩
    | cons x l ih =>
      intro cs h
      rw [List.mapM_cons] at h
      simp only [Option.bind_eq_bind, Option.bind_eq_some_iff, Option.pure_def, Option.some.injEq] at h
      obtain ⟨y, hy, ys, hys, rfl⟩ := h
      obtain ⟨h1, h2⟩ := ih ys hys
      refine ⟨by simp [h1], fun j hj => ?_⟩
      cases j with
      | zero => exact hy
      | succ j => simpa using h2 j (by simpa using hj)
  obtain ⟨h1, h2⟩ := key _ _ h
  rw [List.length_range] at h1 h2
  refine ⟨h1, fun j hj => ?_⟩
  have := h2 j hj
  simpa [List.getD_eq_getElem?_getD, hj] using this
theorem cell_lt {a : Addr} {v : Value} (h : W.cell? a = some v) : a.block < W.heap.size := by
  unfold World.cell? at h
  split at h
  · rename_i c t fr hc; exact (Array.getElem?_eq_some_iff.1 hc).1
  · cases h
theorem addr_block (a : Addr) (n : Nat) : (a.add n).block = a.block := by
  unfold Addr.add
  split <;> rfl
def dlen : DataW H → Nat
  | .slice xs _ => xs.length
  | _ => 0
theorem slice_reads {α : Type} [Inhabited α] (toA : α → AV) {t e : TypeId} {sz fuel : Nat} {cs : List Value} {d : DataW H} {ps : List MemPlace} (ht : P.underlying t = some (.slice e)) (hsz : P.cellsOf e = sz)
    (rd : ∀ (n : Nat) (cs : List Value) (d : DataW H) (ps : List MemPlace), cs.length = sz → DataW.trod enc P W 0 (fun _ => true) true n e cs = some (d, ps) →
      ∃ x : α, (toA x).cells.length = sz ∧ ∀ j, j < sz → RV W noρ noD (zOf W) ((toA x).cellAt j) (cs.getD j undef) ∧ (cs.getD j undef).oneCell' = true)
    (h : DataW.trod enc P W 0 (fun _ => true) true fuel t cs = some (d, ps)) : ∃ (l : List α) (v : Value), cs = [v] ∧ RV W noρ noD (zOf W) (.fsl sz (l.map toA)) v ∧ l.length = dlen d := by
  rcases Deep.open_slice ht h with ⟨rfl, hx⟩ | ⟨a, len, cap, m, n, D, Pl, rfl, _, hl, hm, hm', hx, hel⟩
  · cases hx
    refine ⟨[], _, rfl, ?_, rfl⟩
    exact Le.nil sz W (zOf W) _ (.v _)
  · cases hx
    rw [if_pos rfl] at hm'
    subst hm'
    have each : ∀ i, ∃ x : α, i < len → (toA x).cells.length = sz ∧ ∃ cs' : List Value, (∀ j, j < sz → W.cell? (a.add (i * sz + j)) = some (cs'.getD j undef)) ∧ ∀ j, j < sz → RV W noρ noD (zOf W) ((toA x).cellAt j) (cs'.getD j undef) ∧ (cs'.getD j undef).oneCell' = true := fun i => by
      by_cases hi : i < len
      · obtain ⟨cs', h1, h2⟩ := hel i (by omega)
        rw [hsz] at h1
        obtain ⟨h3, h4⟩ := cells_get h1
        obtain ⟨x, hx1, hx2⟩ := rd n cs' _ _ h3 h2
        exact ⟨x, fun _ => ⟨hx1, cs', fun j hj => by rw [← Deep.add_add]; exact h4 j hj, hx2⟩⟩
      · exact ⟨default, fun h => absurd h hi⟩
    let X : Nat → α := fun i => (each i).choose
    have hX : ∀ i, i < len → _ := fun i hi => (each i).choose_spec hi
    let F : Nat → Nat → Value := fun i j => (W.cell? (a.add (i * sz + j))).getD undef
    have hF : ∀ i j, i < len → j < sz → W.cell? (a.add (i * sz + j)) = some (F i j) ∧ RV W noρ noD (zOf W) ((toA (X i)).cellAt j) (F i j) ∧ (F i j).oneCell' = true := fun i j hi hj => by
      obtain ⟨h1, cs', h2, h3⟩ := hX i hi
      have e : F i j = cs'.getD j undef := by simp only [F, h2 j hj, Option.getD_some]
      rw [e]
      exact ⟨h2 j hj, h3 j hj⟩
    have hg : ∀ i, i < len → (((List.range len).map X).map toA).getD i .junk = toA (X i) := fun i hi => by simp [List.getD_eq_getElem?_getD, hi]
    have hlen : (((List.range len).map X).map toA).length = len := by simp
    refine ⟨(List.range len).map X, _, rfl, ?_, by simp [dlen]⟩
    have key : RV W noρ noD (zOf W) (.fsl sz (((List.range len).map X).map toA)) (.slice (some a) (((List.range len).map X).map toA).length m) := by
      refine .fsl F (by rw [hlen]; exact hl) hm (fun i hi => ?_) (fun i j hi hj => ?_) (fun i j hi hj => ?_) (fun i j hi hj => ?_) <;> rw [hlen] at hi
      · rw [hg i hi]; exact (hX i hi).1
      · have := hF i j hi hj
        refine ⟨a, rfl, ?_, this.1⟩
        have := cell_lt this.1
        rwa [addr_block] at this
      · exact (hF i j hi hj).2.2
      · rw [hg i hi]; exact (hF i j hi hj).2.1
    rw [hlen] at key
    exact key
theorem int_reads {t : TypeId} {k : IntKind} {fuel : Nat} {cs : List Value} {r : DataW H × List MemPlace} (ht : P.underlying t = some (.int k)) (h : DataW.trod enc P W 0 (fun _ => true) true fuel t cs = some r) : ∃ x, cs = [.int k x] ∧ (Lit.int k x).wf = true := by
  cases fuel with
  | zero => simp [DataW.trod] at h
  | succ n =>
    unfold DataW.trod at h
    rw [ht] at h
    split at h <;> first
      | (rename_i k' k'' x h1
         cases h1
         split at h
         · rename_i hh; obtain ⟨rfl, hw⟩ := hh; exact ⟨_, rfl, hw⟩
         · cases h)
      | (exfalso; simp_all; done)
end
end Pm
end Go.Proofs.YtdgoompjoeffcaaGreat
