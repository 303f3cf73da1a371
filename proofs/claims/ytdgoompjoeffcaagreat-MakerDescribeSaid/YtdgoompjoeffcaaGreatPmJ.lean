import Derived.Test.YtdgoompjoeffcaaGreatPmI
import Derived.Calls
/- PM, part J: functions, their results, pure contracts, calls by contracts, and what may be forgotten. -/
namespace Go.Proofs.YtdgoompjoeffcaaGreat
namespace Pm

/-! ### Results -/
def resultsA (P : Program) (st : St) : List ResultVar → Option (List AV)
  | [] => some []
  | .tmp t :: l => (resultsA P st l).map (look t st.env :: ·)
  | .cell p t :: l => match look p st.env with
    | .ptr id sz i 0 => match rowOf st id, aggOf P t, szOf P t with
      | some (_, sz', es), some g, some n => if sz' = sz ∧ i < es.length ∧ n = sz ∧ (g = false → n = 1) then (resultsA P st l).map (ldA g n 0 (es.getD i .junk).cells :: ·) else none
      | _, _, _ => none
    | _ => none
def oneA : List AV → AV
  | [r] => r
  | l => .tup l
/-- The post of a function's body. -/
def retK (P : Program) (rs : Array ResultVar) (Q : AV → List (Option Blk) → Prop) : Exit → St → Prop
  | .normal, st => match resultsA P st rs.toList with
    | some l => Q (oneA l) st.h
    | none => False
  | .ret, st => match resultsA P st rs.toList with
    | some l => Q (oneA l) st.h
    | none => False
  | _, _ => False
def envOf (args : List AV) : List (Nat × AV) := args.zipIdx.map fun x => (x.2, x.1)

section
variable {P : Program} {B : Base} {w : World} {ρ : Nat → Option Nat} {D Z : Nat → Prop} {st : St} {a : Act}
theorem results_sound (I : Inv B ρ D Z st a w) : ∀ (rs : List ResultVar) (l : List AV), resultsA P st rs = some l →
    ∃ vs : List Value, (rs.mapM (fun | .tmp t => pure (a.tmps.getD t undef) | .cell p t => do loadVar t (← asAddr (a.tmps.getD p undef)) : ResultVar → Sem Value)).run P w = .ok vs w ∧ l.length = vs.length ∧
      ∀ i, i < l.length → RV w ρ D Z (l.getD i .junk) (vs.getD i undef)
  | [], l, h => by
    simp only [resultsA, Option.some.injEq] at h
    subst h
    exact ⟨[], by simp, rfl, fun i hi => by simp at hi⟩
  | .tmp t :: rs, l, h => by
    simp only [resultsA] at h
    obtain ⟨l', hl', rfl⟩ := Option.map_eq_some_iff.1 h
    obtain ⟨vs, h1, h2, h3⟩ := results_sound I rs l' hl'
    refine ⟨a.tmps.getD t undef :: vs, by rw [List.mapM_cons]; simp only [Sem.run_bind, Sem.run_pure, Result.andThen_ok, h1], by simp [h2], fun i hi => ?_⟩
    cases i with
    | zero => exact I.env t
    | succ i => simp only [List.getD_cons_succ]; exact h3 i (by simpa using hi)
  | .cell p t :: rs, l, h => by
    simp only [resultsA] at h
    split at h
    · rename_i id sz i hp
      split at h
      · rename_i e sz' es g n hr hg hn
        split at h
        · rename_i hc
          obtain ⟨rfl, hi, rfl, h1⟩ := hc
          obtain ⟨l', hl', rfl⟩ := Option.map_eq_some_iff.1 h
          obtain ⟨vs, k1, k2, k3⟩ := results_sound I rs l' hl'
          have hb := rowOf_some hr
          obtain ⟨gb, c, fr, hrho, hc, _, hlen, hs, hv⟩ := I.h.row hb
          have hpv := I.env p
          rw [hp] at hpv
          have hcell : ∀ k, k < n → w.cell? ((⟨gb, i * n + 0, none⟩ : Addr).add k) = some (c.getD (i * n + k) undef) := fun k hk => by
            rw [Addr.add_plain, Nat.add_zero]
            have := mul_lt hi hk
            exact cell_row hc (by omega)
          have hload := run_load (P := P) hg hn h1 _ _ hcell
          refine ⟨(if g then .agg ((List.range n).map fun k => c.getD (i * n + k) undef).toArray else c.getD (i * n + 0) undef) :: vs, ?_, by simp only [List.length_cons, k2], fun q hq => ?_⟩
          · rw [List.mapM_cons]
            have hp2 : (asAddr (a.tmps.getD p undef)).run P w = .ok ⟨gb, i * n + 0, none⟩ w := by rw [hpv.ptr_live I.h hb hrho]; rfl
            simp only [Sem.run_bind, Sem.run_pure, Result.andThen_ok, hp2, hload, k1]
          · cases q with
            | zero => exact RV.ld h1 (by rw [hs i hi]; exact Nat.le_of_eq (Nat.zero_add _)) fun k hk => by rw [Nat.zero_add]; exact (hv i k hi hk).1
            | succ q => simp only [List.getD_cons_succ]; exact k3 q (by simpa using hq)
        · cases h
      · cases h
    · cases h
theorem results_run (I : Inv B ρ D Z st a w) {fn : Func} {l : List AV} (h : resultsA P st fn.results.toList = some l) : ∃ v, (results fn a.tmps).run P w = .ok v w ∧ RV w ρ D Z (oneA l) v := by
  obtain ⟨vs, h1, h2, h3⟩ := results_sound I _ _ h
  have hrun : (fn.results.mapM (fun | .tmp t => pure (a.tmps.getD t undef) | .cell p t => do loadVar t (← asAddr (a.tmps.getD p undef)) : ResultVar → Sem Value)).run P w = .ok vs.toArray w := by
    rw [Array.mapM_eq_mapM_toList]
    simp only [Sem.run_map]
    rw [h1]
    rfl
  refine ⟨if h : vs.toArray.size = 1 then vs.toArray[0] else .tuple vs.toArray, ?_, ?_⟩
  · unfold results
    rw [Sem.run_bind]
    exact (congrArg (fun r => Result.andThen r fun (a : Array Value) w' => Sem.run P (pure (if h : a.size = 1 then a[0] else Value.tuple a)) w') hrun).trans rfl
  · by_cases hl : vs.length = 1
    · match vs, hl with
      | [v], _ =>
        have hl1 : l.length = 1 := by rw [h2]; rfl
        match l, hl1 with
        | [r], _ =>
          have := h3 0 (by simp)
          simpa [oneA] using this
    · rw [dif_neg (by simpa using hl)]
      have e : oneA l = .tup l := by
        unfold oneA
        split
        · rename_i r; simp at h2; omega
        · rfl
      rw [e]
      refine .tup (by simp [h2]) fun i hi => ?_
      have := h3 i hi
      simpa [List.getD_eq_getElem?_getD, Array.getD_eq_getD_getElem?] using this

theorem look_env : ∀ (args : List AV) (k n : Nat), look n ((args.zipIdx k).map fun x => (x.2, x.1)) = if k ≤ n then args.getD (n - k) .junk else .junk
  | [], k, n => by simp [look]
  | x :: args, k, n => by
    rw [List.zipIdx_cons, List.map_cons, look, look_env args (k + 1) n]
    by_cases h : n = k
    · subst h; simp
    · rw [if_neg h]
      by_cases h2 : k + 1 ≤ n
      · rw [if_pos h2, if_pos (by omega), show n - k = (n - (k + 1)) + 1 by omega, List.getD_cons_succ]
      · rw [if_neg h2, if_neg (by omega)]

theorem inv_enter {args : List AV} {h : List (Option Blk)} {cargs : Array Value} {n : Nat} (hl : args.length = cargs.size) (hn : cargs.size ≤ n) (ha : ∀ i, i < args.length → RV w ρ D Z (args.getD i .junk) (cargs.getD i undef)) (H : HR B w ρ D Z h) (hbm : ∀ id, (∃ g, B.ρ id = some g) ∨ B.D id → id < h.length) :
    Inv B ρ D Z ⟨n, h.length, envOf args, h⟩ { tmps := cargs ++ Array.replicate (n - cargs.size) undef, defers := B.df } w where
  n := by simp; omega
  env m := by
    unfold envOf
    rw [look_env]
    simp only [Nat.zero_le, if_true, Nat.sub_zero]
    by_cases hm : m < args.length
    · have := ha m hm
      have e : (cargs ++ Array.replicate (n - cargs.size) undef).getD m undef = cargs.getD m undef := by
        simp only [Array.getD_eq_getD_getElem?]
        rw [Array.getElem?_append_left (by omega)]
      rw [e]; exact this
    · have e : args.getD m .junk = .junk := by simp [List.getD_eq_getElem?_getD, Nat.not_lt.1 hm]
      rw [e]; exact .junk _
  h := H
  bm := hbm
  defers := rfl

/-- A contract out of a walk over the body. -/
theorem con_of {f : FuncId} {fn : Func} {c : Code} {args : List AV} {h : List (Option Blk)} {Q : AV → List (Option Blk) → Prop} (hf : P.funcs[f]? = some fn) (hb : fn.body = some c) (hn : args.length ≤ fn.ntmps)
    (ht : Tri P c ⟨fn.ntmps, h.length, envOf args, h⟩ (retK P fn.results Q)) : Con P f args h Q := by
  intro B cargs hl ha H
  refine calls_of_wp hf hb (wp_mono (ht { B with df := [] } B.ρ B.D B.Z _ B.w (inv_enter hl (by omega) ha (H.df []) (fun id hi => by
    rcases hi with ⟨g, hg⟩ | hd
    · exact H.id_lt hg
    · exact H.dead_lt hd))) ?_)
  rintro e a' w' ⟨st', ρ', D', Z', q, I'⟩
  cases e <;> simp only [retK] at q
  case normal =>
    split at q
    · rename_i l hr
      obtain ⟨v, h1, h2⟩ := results_run I' hr
      exact ⟨I'.defers, v, h1, _, v, _, ρ', D', Z', rfl, q, h2, I'.h.undf⟩
    · exact q.elim
  case ret =>
    split at q
    · rename_i l hr
      obtain ⟨v, h1, h2⟩ := results_run I' hr
      exact ⟨I'.defers, v, h1, _, v, _, ρ', D', Z', rfl, q, h2, I'.h.undf⟩
    · exact q.elim

/-! ### Frozen: a value told whole -/
def noF : Nat → Option Nat := fun _ => none
abbrev noρ : Nat → Option Nat := fun _ => none
abbrev noD : Nat → Prop := fun _ => False
def slW (n : AV → AV) (h : List (Option Blk)) (id sz off len : Nat) : AV := match h[id]? with
  | some (some (.row _ q es)) => if q = sz ∧ off + len ≤ es.length then .fsl sz (((es.drop off).take len).map n) else .junk
  | _ => .junk
theorem slW_single (n : AV → AV) (h : List (Option Blk)) (id sz off len : Nat) : (slW n h id sz off len).single = true := by unfold slW; (repeat' split) <;> rfl
/-- What a pointer into a live row points at. -/
def ptW (n : AV → AV) (h : List (Option Blk)) (id sz i j : Nat) : AV := match h[id]? with
  | some (some (.row _ q es)) => if q = sz ∧ i < es.length ∧ j ≤ sz then .fptr (((es.getD i .junk).cells.drop j).map n) else .junk
  | _ => .junk
theorem ptW_single (n : AV → AV) (h : List (Option Blk)) (id sz i j : Nat) : (ptW n h id sz i j).single = true := by unfold ptW; (repeat' split) <;> rfl
def mpW (n : AV → AV) (h : List (Option Blk)) (id : Nat) : AV := match h[id]? with
  | some (some (.mp es)) => .fmap (es.map fun x => n x.1) (es.map fun x => n x.2)
  | _ => .junk
theorem mpW_single (n : AV → AV) (h : List (Option Blk)) (id : Nat) : (mpW n h id).single = true := by unfold mpW; (repeat' split) <;> rfl
mutual
/-- A value told whole; n: what lies in live blocks. -/
def fzW (n : AV → AV) (h : List (Option Blk)) : AV → AV
  | .sl id sz off len => slW n h id sz off len
  | .agg cs => .agg (fzWL n h cs)
  | .tup cs => .tup (fzWL n h cs)
  | .clo fn fs cs => .clo fn (fzWL n h fs) (fzWL n h cs)
  | .fsl sz es => .fsl sz (fzWL n h es)
  | .fptr cs => .fptr (fzWL n h cs)
  | .fmap ks vs => .fmap (fzWL n h ks) (fzWL n h vs)
  | .v x => .v x
  | .ptr id sz i j => ptW n h id sz i j
  | .map id => mpW n h id
  | .junk => .junk
def fzWL (n : AV → AV) (h : List (Option Blk)) : List AV → List AV
  | [] => []
  | a :: l => fzW n h a :: fzWL n h l
end
theorem fzWL_eq (n : AV → AV) (h : List (Option Blk)) (l : List AV) : fzWL n h l = l.map (fzW n h) := by
  induction l with
  | nil => simp [fzWL]
  | cons a l ih => simp [fzWL, ih]
theorem fzWL_getD (n : AV → AV) (h : List (Option Blk)) (l : List AV) (i : Nat) : (fzWL n h l).getD i .junk = fzW n h (l.getD i .junk) := by
  rw [fzWL_eq, List.getD_eq_getElem?_getD, List.getD_eq_getElem?_getD, List.getElem?_map]
  cases l[i]? <;> simp [fzW]
theorem fzWL_length (n : AV → AV) (h : List (Option Blk)) (l : List AV) : (fzWL n h l).length = l.length := by rw [fzWL_eq]; simp
theorem fzW_cells (n : AV → AV) (h : List (Option Blk)) (a : AV) : (fzW n h a).cells = fzWL n h a.cells := by
  cases a
  case sl id sz off len =>
    simp only [fzW]
    rw [AV.cells_single (slW_single _ _ _ _ _ _)]
    simp only [AV.cells, fzWL, fzW]
  case ptr id sz i j =>
    simp only [fzW]
    rw [AV.cells_single (ptW_single _ _ _ _ _ _)]
    simp only [AV.cells, fzWL, fzW]
  case map id =>
    simp only [fzW]
    rw [AV.cells_single (mpW_single _ _ _)]
    simp only [AV.cells, fzWL, fzW]
  all_goals simp only [fzW, AV.cells, fzWL]
theorem fzW_cellAt (n : AV → AV) (h : List (Option Blk)) (a : AV) (j : Nat) : (fzW n h a).cellAt j = fzW n h (a.cellAt j) := by
  unfold AV.cellAt
  rw [fzW_cells, fzWL_getD]
theorem RV.noF {a : AV} {x : Value} {Z' : Nat → Prop} (hz : ∀ k, Z k → Z' k) (h : RV w ρ D Z a x) : RV w noρ noD Z' (a.ren Pm.noF) x := by
  have h1 : RV w ρ D Z' a x := h.step ⟨fun _ _ h => .inl h, fun _ h => h, hz, fun _ _ => rfl, fun _ _ c e fr _ _ h => ⟨c, e, fr, h, Nat.le_refl _⟩⟩
  exact h1.ren Pm.noF (fun _ _ _ h => by cases h) (fun _ _ h => by cases h)
/-- What is asked of n. -/
structure Inner (w : World) (ρ : Nat → Option Nat) (D Z : Nat → Prop) (n : AV → AV) : Prop where
  junk : n .junk = .junk
  cells : ∀ a, (n a).cells = a.cells.map n
  rv : ∀ a x, RV w ρ D Z a x → RV w noρ noD (fun k => Z k ∨ ∃ id, ρ id = some k) (n a) x
theorem map_getD {n : AV → AV} (hn : n .junk = .junk) (l : List AV) (i : Nat) : (l.map n).getD i .junk = n (l.getD i .junk) := by
  rw [List.getD_eq_getElem?_getD, List.getD_eq_getElem?_getD, List.getElem?_map]
  cases l[i]? <;> simp [hn]
theorem RV.fzW {h : List (Option Blk)} {n : AV → AV} (N : Inner w ρ D Z n) (H : HR B w ρ D Z h) {a : AV} {x : Value} (hx : RV w ρ D Z a x) : RV w noρ noD (fun k => Z k ∨ ∃ id, ρ id = some k) (Pm.fzW n h a) x := by
  induction hx with
  | v x => unfold Pm.fzW; exact .v x
  | junk x => unfold Pm.fzW; exact .junk x
  | @dead a id x ha hd h1 =>
    have hn := H.dead _ hd
    cases a <;> simp only [AV.idOf, Option.some.injEq, reduceCtorEq] at ha <;> subst ha <;> simp only [Pm.fzW, slW, ptW, mpW, hn] <;> exact .junk x
  | agg hl _ ih =>
    unfold Pm.fzW
    exact .agg (by rw [fzWL_length, hl]) fun i hi => by rw [fzWL_getD]; exact ih i (by rwa [fzWL_length] at hi)
  | tup hl _ ih =>
    unfold Pm.fzW
    exact .tup (by rw [fzWL_length, hl]) fun i hi => by rw [fzWL_getD]; exact ih i (by rwa [fzWL_length] at hi)
  | @ptr id sz i j g hr =>
    unfold Pm.fzW ptW
    split
    · rename_i e q es hb
      split
      · rename_i hq
        obtain ⟨rfl, hi, hj⟩ := hq
        obtain ⟨g', c, fr, hr', hcc, _, hcl, hs, hv⟩ := H.row hb
        rw [hr] at hr'
        cases hr'
        have hlen : (((es.getD i .junk).cells.drop j).map n).length = q - j := by rw [List.length_map, List.length_drop, hs i hi]
        have hget : ∀ k, ((es.getD i .junk).cells.drop j).getD k .junk = (es.getD i .junk).cellAt (j + k) := fun k => by
          simp [List.getD_eq_getElem?_getD, AV.cellAt]
        refine .fptr (fun k => c.getD (i * q + (j + k)) undef) (.inr ⟨id, hr⟩) (fun k hk => ?_) (fun k hk => ?_) <;> rw [hlen] at hk
        · have := mul_lt hi (show j + k < q by omega)
          rw [Addr.add_plain, show i * q + j + k = i * q + (j + k) by omega]
          exact cell_row hcc (by omega)
        · rw [map_getD N.junk, hget]
          exact N.rv _ _ (hv i (j + k) hi (by omega)).1
      · exact .junk _
    · exact .junk _
  | @map id g hr =>
    unfold Pm.fzW mpW
    split
    · rename_i es hb
      obtain ⟨g', hr', ents, clock, hc, hst, hl, hkv⟩ := H.live id _ hb
      rw [hr] at hr'
      cases hr'
      have hge : ∀ i, i < es.length → ∀ f : AV × AV → AV, (es.map f).getD i .junk = f (es.getD i default) := fun i hi f => by simp [List.getD_eq_getElem?_getD, hi]
      refine .fmap (.inr ⟨id, hr⟩) hc hst (by rw [List.length_map, hl]) (by rw [List.length_map, List.length_map]) (fun i hi => ?_) (fun i hi => ?_) <;> rw [List.length_map] at hi
      · rw [hge i hi fun x => n x.1]
        exact N.rv _ _ (hkv i hi).1
      · rw [hge i hi fun x => n x.2]
        exact N.rv _ _ (hkv i hi).2
    · exact .junk _
  | @sl id sz off len g cap hr hc hl hm =>
    unfold Pm.fzW slW
    split
    · rename_i e q es hb
      split
      · rename_i hq
        obtain ⟨rfl, hle⟩ := hq
        obtain ⟨g', c, fr, hr', hcc, _, hcl, hs, hv⟩ := H.row hb
        rw [hr] at hr'
        cases hr'
        have hlen : (((es.drop off).take len).map n).length = len := by rw [List.length_map]; simp; omega
        have hget : ∀ i, i < len → ((es.drop off).take len).getD i .junk = es.getD (off + i) .junk := fun i hi => by
          simp [List.getD_eq_getElem?_getD, hi]
        suffices key : RV w noρ noD (fun k => Z k ∨ ∃ id, ρ id = some k) (.fsl q (((es.drop off).take len).map n)) (.slice (some ⟨g, off * q, none⟩) (((es.drop off).take len).map n).length cap) by
          rw [hlen] at key
          exact key
        refine .fsl (es := ((es.drop off).take len).map n) (fun i j => c.getD ((off + i) * q + j) undef) (by rw [hlen]; exact hl) hm (fun i hi => ?_) (fun i j hi hj => ?_) (fun i j hi hj => (hv (off + i) j (by rw [hlen] at hi; omega) hj).2) (fun i j hi hj => ?_) <;> rw [hlen] at hi
        · rw [map_getD N.junk, hget i (by omega), N.cells, List.length_map]; exact hs _ (by omega)
        · refine ⟨_, rfl, .inr ⟨id, hr⟩, ?_⟩
          have := mul_lt (show off + i < es.length by omega) hj
          rw [Addr.add_plain, show off * q + (i * q + j) = (off + i) * q + j by rw [Nat.add_mul]; omega]
          exact cell_row hcc (by omega)
        · rw [map_getD N.junk, hget i (by omega)]
          have e : (n (es.getD (off + i) .junk)).cellAt j = n ((es.getD (off + i) .junk).cellAt j) := by
            unfold AV.cellAt
            rw [N.cells, map_getD N.junk]
          rw [e]
          exact N.rv _ _ (hv (off + i) j (by omega) hj).1
      · exact .junk _
    · exact .junk _
  | @fsl sz cap es A F hl hm hs hA h1 _ ih =>
    unfold Pm.fzW
    have e : es.length = (fzWL n h es).length := (fzWL_length n h es).symm
    rw [e]
    refine .fsl F (by rw [← e]; exact hl) hm (fun i hi => ?_) (fun i j hi hj => ?_) (fun i j hi hj => h1 i j (by rwa [← e] at hi) hj) (fun i j hi hj => ?_)
    · rw [fzWL_getD, fzW_cells, fzWL_length]; exact hs i (by rwa [← e] at hi)
    · obtain ⟨ad, e1, hz, hc⟩ := hA i j (by rwa [← e] at hi) hj
      exact ⟨ad, e1, .inl hz, hc⟩
    · rw [fzWL_getD, fzW_cellAt]; exact ih i j (by rwa [← e] at hi) hj
  | fptr F hz hA _ ih =>
    unfold Pm.fzW
    exact .fptr F (.inl hz) (fun j hj => hA j (by rwa [fzWL_length] at hj)) (fun j hj => by rw [fzWL_getD]; exact ih j (by rwa [fzWL_length] at hj))
  | fmap hz hh hs hl hl2 _ _ ih1 ih2 =>
    unfold Pm.fzW
    exact .fmap (.inl hz) hh hs (by rw [fzWL_length, hl]) (by rw [fzWL_length, fzWL_length, hl2]) (fun i hi => by rw [fzWL_getD]; exact ih1 i (by rwa [fzWL_length] at hi)) (fun i hi => by rw [fzWL_getD]; exact ih2 i (by rwa [fzWL_length] at hi))
  | clo hf _ hl _ ih1 ih =>
    unfold Pm.fzW
    exact .clo (by rw [fzWL_length, hf]) (fun i hi => by rw [fzWL_getD]; exact ih1 i (by rwa [fzWL_length] at hi))
      (by rw [fzWL_length, hl]) (fun i hi => by rw [fzWL_getD]; exact ih i (by rwa [fzWL_length] at hi))
theorem inner_noF : Inner w ρ D Z (AV.ren noF) := ⟨rfl, fun a => by rw [AV.cells_ren, AV.renL_eq], fun a x h => h.noF fun k hk => .inl hk⟩
theorem inner_fzW {h : List (Option Blk)} {n : AV → AV} (N : Inner w ρ D Z n) (H : HR B w ρ D Z h) : Inner w ρ D Z (fzW n h) := ⟨by simp [fzW], fun a => by rw [fzW_cells, fzWL_eq], fun a x hx => hx.fzW N H⟩
/-- Told whole, one level deep; then two levels deep. -/
def fy (h : List (Option Blk)) : AV → AV := fzW (AV.ren noF) h
def fyL (h : List (Option Blk)) : List AV → List AV := fzWL (AV.ren noF) h
def fz (h : List (Option Blk)) : AV → AV := fzW (fy h) h
def fzL (h : List (Option Blk)) : List AV → List AV := fzWL (fy h) h
theorem fyL_eq (h : List (Option Blk)) (l : List AV) : fyL h l = l.map (fy h) := fzWL_eq _ _ _
theorem fzL_eq (h : List (Option Blk)) (l : List AV) : fzL h l = l.map (fz h) := fzWL_eq _ _ _
theorem fzL_getD (h : List (Option Blk)) (l : List AV) (i : Nat) : (fzL h l).getD i .junk = fz h (l.getD i .junk) := fzWL_getD _ _ _ _
theorem fzL_length (h : List (Option Blk)) (l : List AV) : (fzL h l).length = l.length := fzWL_length _ _ _
theorem RV.fz {h : List (Option Blk)} (H : HR B w ρ D Z h) {a : AV} {x : Value} (hx : RV w ρ D Z a x) : RV w noρ noD (fun k => Z k ∨ ∃ id, ρ id = some k) (Pm.fz h a) x := hx.fzW (inner_fzW inner_noF H) H
def slF (h : List (Option Blk)) (id sz off len : Nat) : AV := match h[id]? with
  | some (some (.row _ q es)) => if q = sz ∧ off + len ≤ es.length then .fsl sz (fyL h ((es.drop off).take len)) else .junk
  | _ => .junk
def ptF (h : List (Option Blk)) (id sz i j : Nat) : AV := match h[id]? with
  | some (some (.row _ q es)) => if q = sz ∧ i < es.length ∧ j ≤ sz then .fptr (fyL h ((es.getD i .junk).cells.drop j)) else .junk
  | _ => .junk
def mpF (h : List (Option Blk)) (id : Nat) : AV := match h[id]? with
  | some (some (.mp es)) => .fmap (fyL h (es.map (·.1))) (fyL h (es.map (·.2)))
  | _ => .junk
def slY (h : List (Option Blk)) (id sz off len : Nat) : AV := match h[id]? with
  | some (some (.row _ q es)) => if q = sz ∧ off + len ≤ es.length then .fsl sz (AV.renL noF ((es.drop off).take len)) else .junk
  | _ => .junk
def ptY (h : List (Option Blk)) (id sz i j : Nat) : AV := match h[id]? with
  | some (some (.row _ q es)) => if q = sz ∧ i < es.length ∧ j ≤ sz then .fptr (AV.renL noF ((es.getD i .junk).cells.drop j)) else .junk
  | _ => .junk
def mpY (h : List (Option Blk)) (id : Nat) : AV := match h[id]? with
  | some (some (.mp es)) => .fmap (AV.renL noF (es.map (·.1))) (AV.renL noF (es.map (·.2)))
  | _ => .junk
theorem fz_sl (h : List (Option Blk)) (id sz off n : Nat) : fz h (.sl id sz off n) = slF h id sz off n := by
  show slW (fy h) h id sz off n = _
  unfold slW slF
  split <;> simp only [fyL_eq]
theorem fz_ptr (h : List (Option Blk)) (id sz i j : Nat) : fz h (.ptr id sz i j) = ptF h id sz i j := by
  show ptW (fy h) h id sz i j = _
  unfold ptW ptF
  split <;> simp only [fyL_eq]
theorem fz_map (h : List (Option Blk)) (id : Nat) : fz h (.map id) = mpF h id := by
  show mpW (fy h) h id = _
  unfold mpW mpF
  split <;> simp only [fyL_eq, List.map_map] <;> rfl
theorem fy_sl (h : List (Option Blk)) (id sz off n : Nat) : fy h (.sl id sz off n) = slY h id sz off n := by
  show slW (AV.ren noF) h id sz off n = _
  unfold slW slY
  split <;> simp only [AV.renL_eq]
theorem fy_ptr (h : List (Option Blk)) (id sz i j : Nat) : fy h (.ptr id sz i j) = ptY h id sz i j := by
  show ptW (AV.ren noF) h id sz i j = _
  unfold ptW ptY
  split <;> simp only [AV.renL_eq]
theorem fy_map (h : List (Option Blk)) (id : Nat) : fy h (.map id) = mpY h id := by
  show mpW (AV.ren noF) h id = _
  unfold mpW mpY
  split <;> simp only [AV.renL_eq, List.map_map] <;> rfl
theorem fz_v (h : List (Option Blk)) (x : Value) : fz h (.v x) = .v x := by simp only [fz, fzW]
theorem fz_agg (h : List (Option Blk)) (l : List AV) : fz h (.agg l) = .agg (fzL h l) := by simp only [fz, fzL, fzW]
theorem fz_tup (h : List (Option Blk)) (l : List AV) : fz h (.tup l) = .tup (fzL h l) := by simp only [fz, fzL, fzW]
theorem fz_fsl (h : List (Option Blk)) (n : Nat) (l : List AV) : fz h (.fsl n l) = .fsl n (fzL h l) := by simp only [fz, fzL, fzW]
theorem fz_fptr (h : List (Option Blk)) (l : List AV) : fz h (.fptr l) = .fptr (fzL h l) := by simp only [fz, fzL, fzW]
theorem fz_fmap (h : List (Option Blk)) (k l : List AV) : fz h (.fmap k l) = .fmap (fzL h k) (fzL h l) := by simp only [fz, fzL, fzW]
theorem fz_clo (h : List (Option Blk)) (f : Fn) (l m : List AV) : fz h (.clo f l m) = .clo f (fzL h l) (fzL h m) := by simp only [fz, fzL, fzW]
theorem fz_junk (h : List (Option Blk)) : fz h .junk = .junk := by simp only [fz, fzW]
theorem fzL_nil (h : List (Option Blk)) : fzL h [] = [] := by simp only [fzL, fzWL]
theorem fzL_cons (h : List (Option Blk)) (a : AV) (l : List AV) : fzL h (a :: l) = fz h a :: fzL h l := by simp only [fz, fzL, fzWL]
theorem fy_v (h : List (Option Blk)) (x : Value) : fy h (.v x) = .v x := by simp only [fy, fzW]
theorem fy_agg (h : List (Option Blk)) (l : List AV) : fy h (.agg l) = .agg (fyL h l) := by simp only [fy, fyL, fzW]
theorem fy_tup (h : List (Option Blk)) (l : List AV) : fy h (.tup l) = .tup (fyL h l) := by simp only [fy, fyL, fzW]
theorem fy_fsl (h : List (Option Blk)) (n : Nat) (l : List AV) : fy h (.fsl n l) = .fsl n (fyL h l) := by simp only [fy, fyL, fzW]
theorem fy_fptr (h : List (Option Blk)) (l : List AV) : fy h (.fptr l) = .fptr (fyL h l) := by simp only [fy, fyL, fzW]
theorem fy_fmap (h : List (Option Blk)) (k l : List AV) : fy h (.fmap k l) = .fmap (fyL h k) (fyL h l) := by simp only [fy, fyL, fzW]
theorem fy_clo (h : List (Option Blk)) (f : Fn) (l m : List AV) : fy h (.clo f l m) = .clo f (fyL h l) (fyL h m) := by simp only [fy, fyL, fzW]
theorem fy_junk (h : List (Option Blk)) : fy h .junk = .junk := by simp only [fy, fzW]
theorem fyL_nil (h : List (Option Blk)) : fyL h [] = [] := by simp only [fyL, fzWL]
theorem fyL_cons (h : List (Option Blk)) (a : AV) (l : List AV) : fyL h (a :: l) = fy h a :: fyL h l := by simp only [fy, fyL, fzWL]
/-- What names no block is told whole as it is. -/
theorem fyL_vs {α : Type} (h : List (Option Blk)) (f : α → AV) (hf : ∀ x, fy h (f x) = f x) (l : List α) : fyL h (l.map f) = l.map f := by
  rw [fyL_eq, List.map_map]
  exact List.map_congr_left fun p _ => hf p
theorem fzL_vs {α : Type} (h : List (Option Blk)) (f : α → AV) (hf : ∀ x, fz h (f x) = f x) (l : List α) : fzL h (l.map f) = l.map f := by
  rw [fzL_eq, List.map_map]
  exact List.map_congr_left fun p _ => hf p

/-! ### Pure contracts -/
/-- The function takes and returns values that are told whole; what was there before is not touched; what it returns lies in what it was given or in new blocks. -/
def PCon (P : Program) (f : FuncId) (args : List AV) (Q : AV → Prop) : Prop :=
  ∀ (w : World) (Z : Nat → Prop) (cargs : Array Value), args.length = cargs.size → (∀ i, i < args.length → RV w noρ noD Z (args.getD i .junk) (cargs.getD i undef)) → (∀ k, Z k → k < w.heap.size) → Gl w Z →
    Calls P f cargs w fun e w' => ∃ r v Z', e = .returned v ∧ Q r ∧ RV w' noρ noD Z' r v ∧ RowKit.Below w.heap.size w w' ∧ ∀ k, Z' k → (Z k ∨ w.heap.size ≤ k) ∧ k < w'.heap.size
theorem PCon.mono {f : FuncId} {args : List AV} {Q Q' : AV → Prop} (c : PCon P f args Q) (hq : ∀ r, Q r → Q' r) : PCon P f args Q' :=
  fun w Z cargs hl ha hz hgl => (c w Z cargs hl ha hz hgl).mono fun _ _ ⟨r, v, Z', e1, q, e2, e3⟩ => ⟨r, v, Z', e1, hq _ q, e2, e3⟩
theorem hr_empty (w : World) (Z : Nat → Prop) (hz : ∀ k, Z k → k < w.heap.size) (hgl : Gl w Z) : HR ⟨w, noρ, noD, Z, hgl, []⟩ w noρ noD Z [] where
  live id b h := by simp at h
  only id g h := by cases h
  dead id h := h.elim
  inj i j g h := by cases h
  own id g h := by cases h
  z k hk := ⟨hz k hk, fun id h => by cases h⟩
  fr k _ _ := rfl
  os := rfl
  tape := rfl
  output := rfl
  size := Nat.le_refl _
  step := Step.refl _ _ _ _
  zg k hk := .inl hk
theorem HR.below {h : List (Option Blk)} {Z0 : Nat → Prop} {w0 : World} {hgl : Gl w0 Z0} (H : HR ⟨w0, noρ, noD, Z0, hgl, []⟩ w ρ D Z h) : RowKit.Below w0.heap.size w0 w :=
  ⟨H.os, H.tape, H.output, H.size, fun k hk => H.fr k hk (fun id h => by cases h)⟩
theorem pcon_of_con {f : FuncId} {args : List AV} {Q : AV → Prop} {Q' : AV → List (Option Blk) → Prop} (c : Con P f args [] Q') (hq : ∀ r h, Q' r h → Q (Pm.fz h r)) : PCon P f args Q := by
  intro w Z cargs hl ha hz hgl
  refine (c ⟨w, noρ, noD, Z, hgl, []⟩ cargs hl ha (hr_empty w Z hz hgl)).mono ?_
  rintro e w' ⟨r, v, h', ρ', D', Z', rfl, q, hv, H⟩
  refine ⟨_, v, _, rfl, hq _ _ q, hv.fz H, H.below, fun k hk => ?_⟩
  rcases hk with hk | ⟨id, hk⟩
  · exact ⟨H.zg k hk, (H.z k hk).1⟩
  · refine ⟨?_, H.lt hk⟩
    rcases H.own id k hk with ⟨id0, h0⟩ | h0
    · cases h0
    · exact .inr h0
/-- The post of a pure function's body. -/
def retP (P : Program) (rs : Array ResultVar) (Q : AV → Prop) : Exit → St → Prop := retK P rs fun r h => Q (Pm.fz h r)
theorem pcon_of {f : FuncId} {fn : Func} {c : Code} {args : List AV} {Q : AV → Prop} (hf : P.funcs[f]? = some fn) (hb : fn.body = some c) (hn : args.length ≤ fn.ntmps)
    (ht : Tri P c ⟨fn.ntmps, 0, envOf args, []⟩ (retP P fn.results Q)) : PCon P f args Q :=
  pcon_of_con (con_of hf hb hn ht) fun _ _ q => q

/-! ### Calls by pure contracts -/
theorem HR.callee {h : List (Option Blk)} (H : HR B w ρ D Z h) {w' : World} {Z' : Nat → Prop} (hb : RowKit.Below w.heap.size w w') (hz : ∀ k, Z' k → (Z k ∨ w.heap.size ≤ k) ∧ k < w'.heap.size) :
    Step w w' ρ ρ D D Z (fun k => Z k ∨ Z' k) ∧ HR B w' ρ D (fun k => Z k ∨ Z' k) h := by
  have s : Step w w' ρ ρ D D Z (fun k => Z k ∨ Z' k) := ⟨fun _ _ h => .inl h, fun _ h => h, fun _ h => .inl h, fun k hk => hb.block k (H.z k hk).1, fun id g c e fr hr _ hc => ⟨c, e, fr, (hb.block g (H.lt hr)).trans hc, Nat.le_refl _⟩⟩
  refine ⟨s, ⟨fun id b hb' => ?_, H.only, H.dead, H.inj, H.own, fun k hk => ?_, fun k hk hn => (hb.block k (by have := H.size; omega)).trans (H.fr k hk hn), hb.os.trans H.os, hb.tape.trans H.tape, hb.output.trans H.output, Nat.le_trans H.size hb.size, ?_, fun k hk => ?_⟩⟩
  · obtain ⟨g, hg, hr⟩ := H.live id b hb'
    exact ⟨g, hg, hr.step s (hb.block g (H.lt hg))⟩
  · rcases hk with hk | hk
    · exact ⟨Nat.lt_of_lt_of_le (H.z k hk).1 hb.size, (H.z k hk).2⟩
    · obtain ⟨h1, h2⟩ := hz k hk
      refine ⟨h2, fun id hr => ?_⟩
      rcases h1 with h1 | h1
      · exact (H.z k h1).2 id hr
      · have := H.lt hr
        omega
  · have t := H.step
    refine ⟨fun id g hr => t.rho id g hr, fun id hd => t.dead id hd, fun k hk => .inl (t.z k hk), fun k hk => (s.zb k (t.z k hk)).trans (t.zb k hk), fun id g c e fr hr hr' hc => ?_⟩
    obtain ⟨c1, e1, fr1, h1, h2⟩ := t.cap id g c e fr hr hr' hc
    obtain ⟨c2, e2, fr2, h3, h4⟩ := s.cap id g c1 e1 fr1 hr' hr' h1
    exact ⟨c2, e2, fr2, h3, Nat.le_trans h2 h4⟩
  · rcases hk with hk | hk
    · exact H.zg k hk
    · rcases (hz k hk).1 with h1 | h1
      · exact H.zg k h1
      · have := H.size
        exact .inr (by omega)
/-- The arguments are told whole as they stand. -/
theorem callA_pure {f : FuncId} {args : List AV} {d : Option Tmp} {Kr : St → Prop} {Q : AV → Prop} (c : PCon P f (AV.renL noF args) Q) (hd : okDst st.n d = true) (hk : ∀ r, Q r → Kr (st.put d r)) : CallA P f args st d Kr := by
  intro B ρ D Z a w I cargs hl ha
  refine (c w Z cargs (by rw [AV.renL_length, hl]) (fun i hi => by rw [AV.renL_getD]; exact (ha i (by rwa [AV.renL_length] at hi)).noF fun k hk => hk) (fun k hk => (I.h.z k hk).1) (B.gl.step I.h.step)).mono ?_
  rintro e w' ⟨r, v, Z', rfl, q, hv, hb, hz⟩
  obtain ⟨s, H'⟩ := I.h.callee hb hz
  have hv' : RV w' ρ D (fun k => Z k ∨ Z' k) r v := by
    have h1 : RV w' noρ noD (fun k => Z k ∨ Z' k) r v := hv.step ⟨fun _ _ h => .inl h, fun _ h => h, fun _ h => .inr h, fun _ _ => rfl, fun _ _ c e fr _ _ h => ⟨c, e, fr, h, Nat.le_refl _⟩⟩
    exact h1.step ⟨fun id g h => (by cases h), fun id h => h.elim, fun _ h => h, fun _ _ => rfl, fun id g c e fr h => (by cases h)⟩
  exact ⟨v, _, ρ, D, _, rfl, hk r q, (I.moved s H').puts hd hv'⟩
mutual
def AV.closed : AV → Bool
  | .v _ => true
  | .agg cs => AV.closedL cs
  | .tup cs => AV.closedL cs
  | _ => false
def AV.closedL : List AV → Bool
  | [] => true
  | a :: l => a.closed && AV.closedL l
end
theorem AV.closedL_getD : ∀ (l : List AV), AV.closedL l = true → ∀ i, i < l.length → (l.getD i .junk).closed = true
  | [], _, i, hi => by simp at hi
  | a :: l, h, 0, _ => by simp [AV.closedL] at h; exact h.1
  | a :: l, h, i + 1, hi => by
    simp [AV.closedL] at h
    rw [List.getD_cons_succ]
    exact AV.closedL_getD l h.2 i (by simpa using hi)
theorem RV.closed {a : AV} {x : Value} {w' : World} {ρ' : Nat → Option Nat} {D' Z' : Nat → Prop} (h : RV w ρ D Z a x) : a.closed = true → RV w' ρ' D' Z' a x := by
  induction h with
  | v x => intro _; exact .v x
  | agg hl _ ih => intro hc; exact .agg hl fun i hi => ih i hi (AV.closedL_getD _ (by simpa [AV.closed] using hc) i hi)
  | tup hl _ ih => intro hc; exact .tup hl fun i hi => ih i hi (AV.closedL_getD _ (by simpa [AV.closed] using hc) i hi)
  | dead x ha hd h1 => intro hc; rename_i a id; cases a <;> simp [AV.idOf] at ha <;> simp [AV.closed] at hc
  | _ => intro hc; simp [AV.closed] at hc
/-- The arguments may be live rows; what comes back leads to no memory. -/
theorem callA_read {f : FuncId} {args : List AV} {d : Option Tmp} {Kr : St → Prop} {Q : AV → Prop} (c : PCon P f (fzL st.h args) Q) (hd : okDst st.n d = true) (hk : ∀ r, Q r → r.closed = true ∧ Kr (st.put d r)) : CallA P f args st d Kr := by
  intro B ρ D Z a w I cargs hl ha
  refine (c w (fun k => Z k ∨ ∃ id, ρ id = some k) cargs (by rw [fzL_length, hl]) (fun i hi => by rw [fzL_getD]; exact (ha i (by rwa [fzL_length] at hi)).fz I.h) (fun k hk => by
    rcases hk with hk | ⟨id, hk⟩
    · exact (I.h.z k hk).1
    · exact I.h.lt hk) ((B.gl.step I.h.step).weaken fun k hk => .inl hk)).mono ?_
  rintro e w' ⟨r, v, Z', rfl, q, hv, hb, hz⟩
  obtain ⟨hc, hkr⟩ := hk r q
  obtain ⟨s, H'⟩ := I.h.callee (w' := w') (Z' := fun _ => False) hb (fun k (h : False) => h.elim)
  exact ⟨v, _, ρ, D, _, rfl, hkr, (I.moved s H').puts hd (hv.closed hc)⟩
end
end Pm
end Go.Proofs.YtdgoompjoeffcaaGreat
