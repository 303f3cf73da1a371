/- PM, part Y: loops told by data, rows given up to be told whole, strings as lists of bytes, calls of the library. -/
import Derived.Test.YtiipggfhjkalfaaDoorPmU
import Derived.Lib.Strings
set_option linter.unusedSimpArgs false
set_option linter.unusedVariables false
namespace Go.Proofs.YtiipggfhjkalfaaDoor
namespace Pm
section
variable {P : Program} {st : St} {K : Exit → St → Prop}
/-- A loop whose states are told by data. -/
theorem wait_data {β : Type} (S : β → St) (G : β → Prop) (μ : β → Nat) (b0 : β) {c : Code} {t : List It} (h0 : Weak st (S b0)) (g0 : G b0)
    (round : ∀ b, G b → TriT P (.code c :: .goal (fun st2 => ∃ b', μ b' < μ b ∧ G b' ∧ Weak st2 (S b')) :: t) (S b) K) : Wait P (.loop c) t st K := by
  unfold Wait
  simp only [TriT]
  refine tri_loopN (fun m st' => ∃ b, m = μ b ∧ G b ∧ st' = S b) (μ b0) ⟨S b0, h0, b0, rfl, g0, rfl⟩ ?_
  rintro m st' ⟨b, rfl, hg, rfl⟩
  have := round b hg
  simp only [TriT] at this
  refine this.mono fun e st2 q => ?_
  cases e with
  | exit id => simp only [TriX] at q; exact q
  | normal => obtain ⟨b', h1, h2, h3⟩ := q; exact ⟨μ b', S b', h3, ⟨b', rfl, h2, rfl⟩, h1⟩
  | _ => exact q
end

/-! ### A row that is given up, and told whole from then on -/
mutual
def AV.frz (id sz0 : Nat) (es : List AV) : AV → AV
  | .v x => .v x
  | .agg cs => .agg (AV.frzL id sz0 es cs)
  | .tup cs => .tup (AV.frzL id sz0 es cs)
  | .ptr i sz a b => if i = id then .junk else .ptr i sz a b
  | .sl i sz off len => if i = id then (if sz = sz0 ∧ off + len ≤ es.length then .fsl sz ((es.drop off).take len) else .junk) else .sl i sz off len
  | .map i => if i = id then .junk else .map i
  | .fsl sz l => .fsl sz (AV.frzL id sz0 es l)
  | .fptr cs => .fptr (AV.frzL id sz0 es cs)
  | .clo fn fs cs => .clo fn (AV.frzL id sz0 es fs) (AV.frzL id sz0 es cs)
  | .junk => .junk
def AV.frzL (id sz0 : Nat) (es : List AV) : List AV → List AV
  | [] => []
  | a :: l => a.frz id sz0 es :: AV.frzL id sz0 es l
end
section
variable {id sz0 : Nat} {es : List AV}
theorem frz_v (x : Value) : (AV.v x).frz id sz0 es = .v x := by simp only [AV.frz]
theorem frz_agg (cs : List AV) : (AV.agg cs).frz id sz0 es = .agg (AV.frzL id sz0 es cs) := by simp only [AV.frz]
theorem frz_sl (i sz off len : Nat) : (AV.sl i sz off len).frz id sz0 es = if i = id then (if sz = sz0 ∧ off + len ≤ es.length then .fsl sz ((es.drop off).take len) else .junk) else .sl i sz off len := by simp only [AV.frz]
theorem frz_ptr (i sz a b : Nat) : (AV.ptr i sz a b).frz id sz0 es = if i = id then .junk else .ptr i sz a b := by simp only [AV.frz]
theorem frz_fsl (sz : Nat) (l : List AV) : (AV.fsl sz l).frz id sz0 es = .fsl sz (AV.frzL id sz0 es l) := by simp only [AV.frz]
theorem frzL_nil : AV.frzL id sz0 es [] = [] := by simp only [AV.frzL]
theorem frzL_cons (a : AV) (l : List AV) : AV.frzL id sz0 es (a :: l) = a.frz id sz0 es :: AV.frzL id sz0 es l := by simp only [AV.frzL]
theorem frzL_eq (l : List AV) : AV.frzL id sz0 es l = l.map (AV.frz id sz0 es) := by
  induction l with
  | nil => simp [frzL_nil]
  | cons a l ih => simp [frzL_cons, ih]
theorem frzL_app (l m : List AV) : AV.frzL id sz0 es (l ++ m) = AV.frzL id sz0 es l ++ AV.frzL id sz0 es m := by simp [frzL_eq]
theorem frzL_getD (l : List AV) (i : Nat) : (AV.frzL id sz0 es l).getD i .junk = (l.getD i .junk).frz id sz0 es := by
  rw [frzL_eq, List.getD_eq_getElem?_getD, List.getD_eq_getElem?_getD, List.getElem?_map]
  cases l[i]? <;> simp [AV.frz]
theorem frzL_length (l : List AV) : (AV.frzL id sz0 es l).length = l.length := by rw [frzL_eq]; simp
theorem frz_cells (a : AV) : (a.frz id sz0 es).cells = AV.frzL id sz0 es a.cells := by
  cases a
  case agg cs => simp only [AV.frz, AV.cells]
  case sl i sz off len =>
    simp only [AV.frz]
    by_cases h : i = id
    · by_cases h2 : sz = sz0 ∧ off + len ≤ es.length
      · simp only [if_pos h, if_pos h2, AV.cells, AV.frzL, AV.frz]
      · simp only [if_pos h, if_neg h2, AV.cells, AV.frzL, AV.frz]
    · simp only [if_neg h, AV.cells, AV.frzL, AV.frz]
  case ptr i sz a b =>
    simp only [AV.frz]
    by_cases h : i = id
    · simp only [if_pos h, AV.cells, AV.frzL, AV.frz]
    · simp only [if_neg h, AV.cells, AV.frzL, AV.frz]
  case map i =>
    simp only [AV.frz]
    by_cases h : i = id
    · simp only [if_pos h, AV.cells, AV.frzL, AV.frz]
    · simp only [if_neg h, AV.cells, AV.frzL, AV.frz]
  all_goals simp only [AV.frz, AV.cells, AV.frzL]
theorem frz_cellAt (a : AV) (j : Nat) : (a.frz id sz0 es).cellAt j = (a.cellAt j).frz id sz0 es := by
  unfold AV.cellAt
  rw [frz_cells, frzL_getD]
end
theorem free_cell {es : List AV} (hf : ∀ f, AV.renL f es = es) (i j : Nat) : Free ((es.getD i .junk).cellAt j) := by
  intro f
  rw [← AV.cellAt_ren, ← AV.renL_getD, hf]
section
variable {B : Base} {w : World} {ρ : Nat → Option Nat} {D Z : Nat → Prop} {h : List (Option Blk)}
theorem RV.frz (H : HR B w ρ D Z h) {id g sz0 : Nat} {e : TypeId} {es : List AV} (hb : h[id]? = some (some (.row e sz0 es))) (hr : ρ id = some g) (hf : ∀ f, AV.renL f es = es) {a : AV} {x : Value} (hx : RV w ρ D Z a x) :
    RV w (setρ ρ id none) D (fun k => Z k ∨ k = g) (a.frz id sz0 es) x := by
  have hkeep : ∀ i q, i ≠ id → ρ i = some q → setρ ρ id none i = some q := fun i q hi hq => by unfold setρ; rw [if_neg hi]; exact hq
  obtain ⟨g', c, fr, hr', hcc, _, hcl, hs, hv⟩ := H.row hb
  rw [hr] at hr'
  cases hr'
  induction hx with
  | v x => rw [frz_v]; exact .v x
  | junk x => simp only [AV.frz]; exact .junk x
  | @dead a i x ha hd h1 =>
    have hi : i ≠ id := fun e => by subst e; exact H.not_dead hb hd
    have : a.frz id sz0 es = a := by
      cases a <;> simp only [AV.idOf, Option.some.injEq, reduceCtorEq] at ha <;> (subst ha; simp only [AV.frz]; rw [if_neg hi])
    rw [this]
    exact .dead x ha hd h1
  | agg hl _ ih => simp only [AV.frz]; exact .agg (by rw [frzL_length, hl]) fun i hi => by rw [frzL_getD]; exact ih i (by rwa [frzL_length] at hi)
  | tup hl _ ih => simp only [AV.frz]; exact .tup (by rw [frzL_length, hl]) fun i hi => by rw [frzL_getD]; exact ih i (by rwa [frzL_length] at hi)
  | @ptr i sz a b q hq =>
    simp only [AV.frz]
    split
    · exact .junk _
    · rename_i hi; exact .ptr (hkeep i q hi hq)
  | @map i q hq =>
    simp only [AV.frz]
    split
    · exact .junk _
    · rename_i hi; exact .map (hkeep i q hi hq)
  | @sl i sz off len q cap hq hc hl hm =>
    simp only [AV.frz]
    split
    · rename_i hi
      subst hi
      rw [hr] at hq
      cases hq
      split
      · rename_i hle
        obtain ⟨rfl, hle⟩ := hle
        have hlen : ((es.drop off).take len).length = len := by simp; omega
        have hget : ∀ k, k < len → ((es.drop off).take len).getD k .junk = es.getD (off + k) .junk := fun k hk => by simp [List.getD_eq_getElem?_getD, hk]
        suffices key : RV w (setρ ρ i none) D (fun k => Z k ∨ k = g) (.fsl sz ((es.drop off).take len)) (.slice (some ⟨g, off * sz, none⟩) ((es.drop off).take len).length cap) by
          rw [hlen] at key
          exact key
        refine .fsl (fun a b => c.getD ((off + a) * sz + b) undef) (by rw [hlen]; exact hl) hm (fun a ha => ?_) (fun a b ha hb' => ?_) (fun a b ha hb' => (hv (off + a) b (by rw [hlen] at ha; omega) hb').2) (fun a b ha hb' => ?_) <;> rw [hlen] at ha
        · rw [hget a ha]; exact hs _ (by omega)
        · refine ⟨_, rfl, .inr rfl, ?_⟩
          have := mul_lt (show off + a < es.length by omega) hb'
          rw [Addr.add_plain, show off * sz + (a * sz + b) = (off + a) * sz + b by rw [Nat.add_mul]; omega]
          exact cell_row hcc (by omega)
        · rw [hget a ha]
          have h1 := (hv (off + a) b (by omega) hb').1
          have h2 : RV w (setρ ρ i none) D Z ((es.getD (off + a) .junk).cellAt b) (c.getD ((off + a) * sz + b) undef) := h1.free (free_cell hf _ _)
          exact h2.step ⟨fun _ _ h => .inl h, fun _ h => h, fun _ h => .inl h, fun _ _ => rfl, fun _ _ c e fr _ _ h => ⟨c, e, fr, h, Nat.le_refl _⟩⟩
      · exact .junk _
    · rename_i hi; exact .sl (hkeep i q hi hq) hc hl hm
  | @fsl sz cap l A F hl hm hs2 hA h1 _ ih =>
    simp only [AV.frz]
    have e : l.length = (AV.frzL id sz0 es l).length := (frzL_length l).symm
    rw [e]
    refine .fsl F (by rw [← e]; exact hl) hm (fun i hi => ?_) (fun i j hi hj => ?_) (fun i j hi hj => h1 i j (by rwa [← e] at hi) hj) (fun i j hi hj => ?_)
    · rw [frzL_getD, frz_cells, frzL_length]; exact hs2 i (by rwa [← e] at hi)
    · obtain ⟨ad, e1, hz, hc⟩ := hA i j (by rwa [← e] at hi) hj
      exact ⟨ad, e1, .inl hz, hc⟩
    · rw [frzL_getD, frz_cellAt]; exact ih i j (by rwa [← e] at hi) hj
  | @fptr cs ad F hz hA _ ih =>
    simp only [AV.frz]
    exact .fptr F (.inl hz) (fun j hj => hA j (by rwa [frzL_length] at hj)) (fun j hj => by rw [frzL_getD]; exact ih j (by rwa [frzL_length] at hj))
  | clo hf' _ hl _ ih1 ih =>
    simp only [AV.frz]
    exact .clo (by rw [frzL_length, hf']) (fun i hi => by rw [frzL_getD]; exact ih1 i (by rwa [frzL_length] at hi))
      (by rw [frzL_length, hl]) (fun i hi => by rw [frzL_getD]; exact ih i (by rwa [frzL_length] at hi))
end
def Blk.frz (id sz0 : Nat) (es : List AV) : Blk → Blk
  | .row e sz l => .row e sz (AV.frzL id sz0 es l)
  | .mp l => .mp (l.map fun x => (x.1.frz id sz0 es, x.2.frz id sz0 es))
def frzE (id sz0 : Nat) (es : List AV) : List (Nat × AV) → List (Nat × AV)
  | [] => []
  | (n, a) :: l => (n, a.frz id sz0 es) :: frzE id sz0 es l
def frzH (id sz0 : Nat) (es : List AV) : Nat → List (Option Blk) → List (Option Blk)
  | _, [] => []
  | i, b :: l => (if i = id then none else b.map (Blk.frz id sz0 es)) :: frzH id sz0 es (i + 1) l
theorem frzE_look (id sz0 : Nat) (es : List AV) (n : Nat) : ∀ l, look n (frzE id sz0 es l) = (look n l).frz id sz0 es
  | [] => by simp [frzE, look, AV.frz]
  | (m, a) :: l => by
    simp only [frzE, look]
    split
    · rfl
    · exact frzE_look id sz0 es n l
theorem frzH_get (id sz0 : Nat) (es : List AV) : ∀ (l : List (Option Blk)) (i k : Nat), (frzH id sz0 es i l)[k]? = (l[k]?).map fun b => if i + k = id then none else b.map (Blk.frz id sz0 es)
  | [], i, k => by simp [frzH]
  | b :: l, i, 0 => by simp [frzH]
  | b :: l, i, k + 1 => by
    simp only [frzH, List.getElem?_cons_succ]
    rw [frzH_get id sz0 es l (i + 1) k, show i + 1 + k = i + (k + 1) by omega]
theorem weak_frz (id : Nat) {st st' : St} {e : TypeId} {sz0 : Nat} {es : List AV} (hm : st.m = 0) (hb : st.h[id]? = some (some (.row e sz0 es))) (hf : ∀ f, AV.renL f es = es)
    (he : st' = ⟨st.n, 0, frzE id sz0 es st.env, frzH id sz0 es 0 st.h⟩) : Weak st st' := by
  subst he
  intro B ρ D Z a w I
  have H := I.h
  obtain ⟨g, c, fr, hr, hcc, _⟩ := H.row hb
  have hrv : ∀ {a : AV} {x : Value}, RV w ρ D Z a x → RV w (setρ ρ id none) D (fun k => Z k ∨ k = g) (a.frz id sz0 es) x := fun hx => hx.frz H hb hr hf
  have hBρ : ∀ i q, B.ρ i ≠ some q := fun i q h => by
    have := I.bm i (.inl ⟨q, h⟩)
    omega
  have hget : ∀ k, (frzH id sz0 es 0 st.h)[k]? = (st.h[k]?).map fun b => if k = id then none else b.map (Blk.frz id sz0 es) := fun k => by rw [frzH_get, Nat.zero_add]
  have hρ' : ∀ i q, setρ ρ id none i = some q → i ≠ id ∧ ρ i = some q := fun i q h => by
    unfold setρ at h
    split at h
    · cases h
    · rename_i hi; exact ⟨hi, h⟩
  refine ⟨setρ ρ id none, D, fun k => Z k ∨ k = g, ⟨I.n, fun n => ?_, ?_, fun i hi => ?_, I.defers⟩⟩
  · show RV w _ D _ (look n (frzE id sz0 es st.env)) _
    rw [frzE_look]
    exact hrv (I.env n)
  · refine ⟨fun i b hib => ?_, fun i q hq => ?_, fun i hd => ?_, fun i j q hi hj => ?_, fun i q hq => ?_, fun k hk => ?_, H.fr, H.os, H.tape, H.output, H.size, ?_, fun k hk => ?_⟩
    · rw [hget] at hib
      cases hx : st.h[i]? with
      | none => rw [hx] at hib; cases hib
      | some ob =>
        rw [hx] at hib
        simp only [Option.map_some, Option.some.injEq] at hib
        split at hib
        · cases hib
        · rename_i hi
          cases ob with
          | none => cases hib
          | some b0 =>
            simp only [Option.map_some, Option.some.injEq] at hib
            subst hib
            obtain ⟨q, hq, hrb⟩ := H.live i b0 hx
            refine ⟨q, by unfold setρ; rw [if_neg hi]; exact hq, ?_⟩
            cases b0 with
            | row e' sz' l =>
              obtain ⟨c', fr', h1, h2, h3, h4, h5⟩ := hrb
              refine ⟨c', fr', h1, h2, by rw [frzL_length]; exact h3, fun k hk => ?_, fun k j hk hj => ?_⟩
              · rw [frzL_getD, frz_cells, frzL_length]; exact h4 k (by rwa [frzL_length] at hk)
              · rw [frzL_getD, frz_cellAt]
                have := h5 k j (by rwa [frzL_length] at hk) hj
                exact ⟨hrv this.1, this.2⟩
            | mp l =>
              obtain ⟨ents, clock, h1, h2, h3⟩ := hrb
              refine ⟨ents, clock, h1, by simpa using h2, fun k hk => ?_⟩
              have hk' : k < l.length := by simpa using hk
              have := h3 k hk'
              have e : (l.map fun x => (x.1.frz id sz0 es, x.2.frz id sz0 es)).getD k default = ((l.getD k default).1.frz id sz0 es, (l.getD k default).2.frz id sz0 es) := by
                simp [List.getD_eq_getElem?_getD, hk']
              rw [e]
              exact ⟨hrv this.1, hrv this.2⟩
    · obtain ⟨hi, hq'⟩ := hρ' i q hq
      obtain ⟨b, hb'⟩ := H.only i q hq'
      exact ⟨b.frz id sz0 es, by rw [hget, hb']; simp [hi]⟩
    · have := H.dead i hd
      rw [hget, this]
      simp
    · exact H.inj i j q (hρ' i q hi).2 (hρ' j q hj).2
    · exact H.own i q (hρ' i q hq).2
    · rcases hk with hk | rfl
      · exact ⟨(H.z k hk).1, fun i hi => (H.z k hk).2 i (hρ' i k hi).2⟩
      · exact ⟨H.lt hr, fun i hi => (hρ' i _ hi).1 (H.inj i id _ (hρ' i _ hi).2 hr)⟩
    · have t := H.step
      exact ⟨fun i q hq => absurd hq (hBρ i q), t.dead, fun k hk => .inl (t.z k hk), t.zb, fun i q c e fr hq => absurd hq (hBρ i q)⟩
    · rcases hk with hk | rfl
      · exact H.zg k hk
      · rcases H.own id k hr with ⟨id0, h0⟩ | h0
        · exact absurd h0 (hBρ id0 k)
        · exact .inr h0
  · have := I.bm i hi
    omega

/-! ### Strings as lists of bytes -/
theorem mk_bs (l : List UInt8) : ByteArray.mk l.toArray = bs l := rfl
theorem bs_size (l : List UInt8) : (bs l).size = l.length := by simp [bs, ByteArray.size]
theorem bs_app (l m : List UInt8) : bs l ++ bs m = bs (l ++ m) := by apply ByteArray.ext; simp [bs]
theorem bs_data (l : List UInt8) : (bs l).data.toList = l := by simp [bs]
theorem bs_toList (l : List UInt8) : (bs l).toList = l := by rw [Go.Lib.toList_data, bs_data]
theorem bs_extract (l : List UInt8) (a b : Nat) : (bs l).extract a b = bs ((l.take b).drop a) := by
  apply ByteArray.ext
  simp only [bs, ByteArray.data_extract, List.extract_toArray, List.extract_eq_drop_take']
theorem bs_of (b : ByteArray) : b = bs b.data.toList := by apply ByteArray.ext; simp [bs]
theorem bs_at (l : List UInt8) (n : Nat) : bAt (bs l) n = ((l.getD n 0).toNat : Int) := by
  unfold bAt
  simp [bs]
theorem renL_app (f : Nat → Option Nat) (l m : List AV) : AV.renL f (l ++ m) = AV.renL f l ++ AV.renL f m := by rw [AV.renL_eq, AV.renL_eq, AV.renL_eq, List.map_append]
theorem renL_rep (f : Nat → Option Nat) (n : Nat) (x : Value) : AV.renL f (List.replicate n (.v x)) = List.replicate n (.v x) := by
  rw [AV.renL_eq, List.map_replicate]
  simp [AV.ren]
attribute [go_sem] mk_bs bs_size bs_app bs_toList bs_extract bs_at bs_data renL_app renL_rep
attribute [go_sem] frz_v frz_agg frz_sl frz_ptr frz_fsl frzL_nil frzL_cons frzL_app frzE frzH Blk.frz
theorem cat_ok (a b : Nat) (h : a + b < 9223372036854775807) : (((a + b : Nat) : Int) > 9223372036854775807) = False := by simp; omega
def iA (n : Int) : AV := .v (.int .i64 n)
def sA (l : List UInt8) : AV := .v (.string (bs l))
def nilA : AV := .v (.slice none 0 0)
theorem renL_iA (f : Nat → Option Nat) (t : List Int) : AV.renL f (t.map iA) = t.map iA := by
  rw [AV.renL_eq, List.map_map]
  exact List.map_congr_left fun p _ => by simp [iA, AV.ren]
theorem fzL_iA (h : List (Option Blk)) (t : List Int) : fzL h (t.map iA) = t.map iA := by
  rw [fzL_eq, List.map_map]
  exact List.map_congr_left fun p _ => by simp [iA, fz_v]
theorem frzL_iA (id sz0 : Nat) (es : List AV) (t : List Int) : AV.frzL id sz0 es (t.map iA) = t.map iA := by
  rw [frzL_eq, List.map_map]
  exact List.map_congr_left fun p _ => by simp [iA, frz_v]
theorem renL_sA (f : Nat → Option Nat) (t : List (List UInt8)) : AV.renL f (t.map sA) = t.map sA := by
  rw [AV.renL_eq, List.map_map]
  exact List.map_congr_left fun p _ => by simp [sA, AV.ren]
theorem fzL_sA (h : List (Option Blk)) (t : List (List UInt8)) : fzL h (t.map sA) = t.map sA := by
  rw [fzL_eq, List.map_map]
  exact List.map_congr_left fun p _ => by simp [sA, fz_v]
attribute [go_sem] renL_iA fzL_iA frzL_iA renL_sA fzL_sA
theorem get_iA (t : List Int) (k : Nat) (h : k < t.length) : (t.map iA).getD k .junk = .v (.int .i64 (t.getD k 0)) := by simp [List.getD_eq_getElem?_getD, h, iA]
theorem get_sA (t : List (List UInt8)) (k : Nat) (h : k < t.length) : (t.map sA).getD k .junk = .v (.string (bs (t.getD k []))) := by simp [List.getD_eq_getElem?_getD, h, sA]
theorem drop_at {α : Type} (d : α) (l : List α) (k : Nat) (h : k < l.length) : l.drop k = l.getD k d :: l.drop (k + 1) := by
  rw [List.drop_eq_getElem_cons h]
  simp [List.getD_eq_getElem?_getD, h]
theorem take_at {α : Type} (d : α) (l : List α) (k : Nat) (h : k < l.length) : l.take (k + 1) = l.take k ++ [l.getD k d] := by
  rw [List.take_add_one, List.getElem?_eq_getElem h]
  simp [List.getD_eq_getElem?_getD, h]
theorem u8_eq (c : UInt8) (n : Nat) (hn : n < 256) : ((c.toNat : Int) = (n : Int)) = (c = UInt8.ofNat n) := by
  apply propext
  constructor
  · intro h
    apply UInt8.toNat_inj.1
    rw [UInt8.toNat_ofNat']
    omega
  · intro h
    subst h
    rw [UInt8.toNat_ofNat']
    omega

/-! ### Calls of the library -/
theorem args_v (xs : List Value) (cargs : Array Value) {w : World} {ρ : Nat → Option Nat} {D Z : Nat → Prop} (hl : (xs.map AV.v).length = cargs.size)
    (ha : ∀ i, i < (xs.map AV.v).length → RV w ρ D Z ((xs.map AV.v).getD i .junk) (cargs.getD i undef)) : cargs = xs.toArray := by
  have hs : xs.length = cargs.size := by simpa using hl
  apply Array.ext
  · simp [hs]
  · intro i h1 h2
    have hi : i < xs.length := by omega
    have := ha i (by simpa using hi)
    rw [show (xs.map AV.v).getD i .junk = .v xs[i] by simp [List.getD_eq_getElem?_getD, hi]] at this
    have e := this.v_inv
    rw [show cargs.getD i undef = cargs[i] by simp [Array.getD, h1]] at e
    rw [e]
    simp
/-- A call that makes new blocks alone, and whose results are plain values. -/
theorem pcon_lib {P : Program} {f : FuncId} (xs : List Value) {Q : AV → Prop}
    (h : ∀ w Z, Gl w Z → Calls P f xs.toArray w fun e w' => ∃ r v, e = .returned v ∧ Q r ∧ (∀ w, RV w noρ noD (fun _ => False) r v) ∧ RowKit.Below w.heap.size w w') : PCon P f (xs.map .v) Q := by
  intro w Z cargs hl ha hz hgl
  rw [args_v xs cargs hl ha]
  refine (h w Z hgl).mono ?_
  rintro e w' ⟨r, v, rfl, hq, hv, hb⟩
  exact ⟨r, v, fun _ => False, rfl, hq, hv w', hb, fun k hk => hk.elim⟩
/-- A call that leaves the world as it was. -/
theorem pcon_same {P : Program} {f : FuncId} (xs : List Value) {v : Value} {r : AV} (hr : ∀ w, RV w noρ noD (fun _ => False) r v)
    (h : ∀ w, Calls P f xs.toArray w fun e w' => e = .returned v ∧ w' = w) : PCon P f (xs.map .v) (· = r) :=
  pcon_lib xs fun w Z _ => (h w).mono fun e w' ⟨he, hw⟩ => ⟨r, v, he, rfl, hr, hw ▸ RowKit.Below.refl _ _⟩
end Pm
end Go.Proofs.YtiipggfhjkalfaaDoor
