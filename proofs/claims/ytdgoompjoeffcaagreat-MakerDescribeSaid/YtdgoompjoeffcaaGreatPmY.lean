import Derived.Test.YtdgoompjoeffcaaGreatPmS
import Derived.Test.YtdgoompjoeffcaaGreatPmT
import Derived.Lib.Strings
/- PM, part U: the set of rules that the reckoning goes by. -/
namespace Go.Proofs.YtdgoompjoeffcaaGreat
namespace Pm
attribute [go_sem]
  run_nil run_blk run_goal run_ops_nil run_op run_guard run_skip run_seq run_cond run_block run_exit run_ret run_region run_draw run_loop runO runI_true runI_false runI_eq runI_lt
  runI_le runI_not runI_and runI_or runR_some runR_none runH_bool runH_undef runG_some runB_bool runE_some runE_none runC_some runD_nil runD_op runD_guard runDO runDI_true
  runDI_false runDI_eq runDI_lt runDI_le runDI_not runDI_and runDI_or runDR_some runDR_none runDQ_quiet runDQ_alloc runDQ_hard runDH_bool runDH_undef runDG_some runDC_some okDst
  guardA opR St.get St.put Pm.look binR eqL eqV sBin intA strA pickR calleeA exitA retP retK resultsA oneA fz_v fz_agg fz_tup fz_fsl fz_fptr fz_clo fz_sl fz_ptr fz_junk fzL_nil
  fzL_cons slF envOf loadR storeR fieldAddrR indexAddrR indexR fieldR sliceR arrPtrR appendR builtinR nilR buildR buildSliceR makeSliceR makeFslR mkD_none mkD_some rowOf isLive srcA srcTy mmA sUn sConv bnd fillA putL
  stA ldA AV.cells AV.fit AV.ones AV.one AV.single ren_v ren_agg ren_tup ren_fsl ren_fptr ren_clo ren_sl ren_ptr ren_map ren_junk renL_nil renL_cons AV.renId noF closed_v closed_agg
  closed_tup closedL_nil closedL_cons quietB allocB PL.at elemA Value.oneCell' AV.zero chunkA decide_true decide_false decide_eq_true_eq decide_eq_false_iff_not Bool.false_eq_true
  true_and and_true List.getElem?_toArray List.getElem?_cons_zero List.getElem?_cons_succ List.getElem?_nil Option.bind_some Option.bind_none Option.map_some Option.map_none
  Bool.not_true Bool.not_false Bool.not_eq_true' Bool.not_eq_false' eq_self Int.ofNat_lt Int.natCast_nonneg AV.agg.injEq exists_eq' true_or or_true false_or or_false
  not_true_eq_false not_false_eq_true List.append_nil List.nil_append List.cons_append List.zipIdx_cons List.zipIdx_nil List.map_cons List.map_nil List.length_cons List.length_nil
  List.getD_cons_zero List.getD_cons_succ List.set_cons_zero List.set_cons_succ List.size_toArray List.drop_zero List.drop_succ_cons List.drop_nil List.take_succ_cons List.take_zero
  List.take_nil List.length_map List.all_cons List.all_nil Bool.and_true Bool.true_and Bool.and_self and_self Nat.zero_add Nat.add_zero Nat.zero_mul Nat.mul_zero false_implies
  true_implies Nat.succ_ne_zero Nat.one_ne_zero Nat.zero_ne_one Nat.lt_add_one Nat.le_refl Int.cast_ofNat_Int Nat.mul_one Int.le_refl Int.toNat_zero Nat.zero_le List.take_length
  Int.toNat_natCast Option.some.injEq List.replicate_succ List.replicate_zero List.getElem?_map
attribute [go_sem ↓] reduceIte
attribute [go_sem] reduceCtorEq Nat.reduceEqDiff Nat.reduceLT Nat.reduceAdd Nat.reduceLeDiff Nat.reduceMul Nat.reduceSub Nat.reduceDiv Nat.reduceMod Int.reduceToNat Int.reduceLT Int.reduceLE Int.reduceEq Int.reduceAdd Int.reduceSub Int.reduceMul Int.reduceNeg Int.reduceTMod Int.reduceTDiv Int.reduceMod Int.reduceDiv Int.reduceBEq Int.reduceBNe Nat.reduceBEq
/-- What omega is asked for: orders of numbers. -/
class Ord' (p : Prop) : Prop
instance {a b : Nat} : Ord' (a ≤ b) where
instance {a b : Nat} : Ord' (a < b) where
instance {a b : Int} : Ord' (a ≤ b) where
instance {a b : Int} : Ord' (a < b) where
theorem om {p : Prop} [Ord' p] (h : p) : p := h
theorem sameKey_none {es : List (AV × AV)} {k : AV} : sameKey es k none = True := rfl
attribute [go_sem] Bool.or_self Bool.false_or Bool.or_false Bool.or_true Bool.true_or imp_self pickO refOk killK lastK hardK lOf okX_true okX_false okL nilsB isLit run_scope run_label unsafeStringR isStrTo byA_app byA_len byA_ren byA_take bytesB_byA byA_eq fz_byA mapUpdR lookR convR mpOf gotA_none gotA_some keyOk isBytesTo bytesA fz_map glA keepB Blk.ren idxOf rdOk rdOk_none okW okW_none agreeW Option.isSome_some beq_iff_eq bne_iff_ne beq_eq_false_iff_ne bne_eq_false_iff_eq ne_eq Bool.or_eq_true Bool.and_eq_true ptF mpF slY ptY mpY fy_v fy_agg fy_tup fy_fsl fy_fptr fy_fmap fy_clo fy_junk fy_sl fy_ptr fy_map fyL_nil fyL_cons fy_byA fz_fmap ren_fmap bitsV bitsOk sameKey_none deleteR rangeR entryR itOf backH backL backN renO backId St.back fz_ptr
theorem wrap_lit (n : Nat) (h : n < 9223372036854775808) : IntKind.i64.wrap (no_index (@OfNat.ofNat Int n (@instOfNat n))) = @OfNat.ofNat Int n (@instOfNat n) := wrap64 (by show -9223372036854775808 ≤ (n : Int); omega) (by show (n : Int) ≤ 9223372036854775807; omega)
attribute [go_sem] wrap_lit
def iA (n : Int) : AV := .v (.int .i64 n)
theorem bool_eq {a b : Bool} (h : a = true ↔ b = true) : a = b := Bool.eq_iff_iff.2 h
end Pm
end Go.Proofs.YtdgoompjoeffcaaGreat
/- PM, part Y: loops told by data, rows given up to be told whole, strings as lists of bytes, calls of the library. -/
set_option linter.unusedSimpArgs false
set_option linter.unusedVariables false
namespace Go.Proofs.YtdgoompjoeffcaaGreat
namespace Pm
section
variable {P : Program} {st : St} {K : Exit → St → Prop}
/-- A loop whose states are told by data. -/
theorem wait_data {β : Type} (S : β → St) (G : β → Prop) (μ : β → Nat) (b0 : β) {c : Code} {t : List It} (h0 : Weak st (S b0)) (g0 : G b0)
    (round : ∀ b, G b → TriT P (.code c :: .goal (fun st2 => ∃ b', μ b' < μ b ∧ G b' ∧ Weak st2 (S b')) :: t) (S b) K) : Wait P (.loop c) t st K := by
  unfold Wait
  simp only [TriT]
  refine tri_loopN (fun m st' => ∃ b, m = μ b ∧ G b ∧ st' = S b) (μ b0) ⟨S b0, h0, b0, rfl, g0, rfl⟩ ?_
  rintro m st' ⟨b, rfl, hg, rfl⟩
  have := round b hg
  simp only [TriT] at this
  refine this.mono fun e st2 q => ?_
  cases e with
  | exit id => simp only [TriX] at q; exact q
  | normal => obtain ⟨b', h1, h2, h3⟩ := q; exact ⟨μ b', S b', h3, ⟨b', rfl, h2, rfl⟩, h1⟩
  | _ => exact q
end

/-! ### A block that is given up, and told whole from then on -/
def frS (b : Blk) (sz off len : Nat) : AV := match b with
  | .row _ q es => if q = sz ∧ off + len ≤ es.length then .fsl sz ((es.drop off).take len) else .junk
  | _ => .junk
def frP (b : Blk) (sz i j : Nat) : AV := match b with
  | .row _ q es => if q = sz ∧ i < es.length ∧ j ≤ sz then .fptr ((es.getD i .junk).cells.drop j) else .junk
  | _ => .junk
def frM (b : Blk) : AV := match b with
  | .mp es => .fmap (es.map Prod.fst) (es.map Prod.snd)
  | _ => .junk
theorem frS_single (b : Blk) (sz off len : Nat) : (frS b sz off len).single = true := by unfold frS; (repeat' split) <;> rfl
theorem frP_single (b : Blk) (sz i j : Nat) : (frP b sz i j).single = true := by unfold frP; (repeat' split) <;> rfl
theorem frM_single (b : Blk) : (frM b).single = true := by unfold frM; (repeat' split) <;> rfl
mutual
def AV.frz (id : Nat) (b : Blk) : AV → AV
  | .v x => .v x
  | .agg cs => .agg (AV.frzL id b cs)
  | .tup cs => .tup (AV.frzL id b cs)
  | .ptr i sz x y => if i = id then frP b sz x y else .ptr i sz x y
  | .sl i sz off len => if i = id then frS b sz off len else .sl i sz off len
  | .map i => if i = id then frM b else .map i
  | .fsl sz l => .fsl sz (AV.frzL id b l)
  | .fptr cs => .fptr (AV.frzL id b cs)
  | .fmap ks vs => .fmap (AV.frzL id b ks) (AV.frzL id b vs)
  | .clo fn fs cs => .clo fn (AV.frzL id b fs) (AV.frzL id b cs)
  | .junk => .junk
def AV.frzL (id : Nat) (b : Blk) : List AV → List AV
  | [] => []
  | a :: l => a.frz id b :: AV.frzL id b l
end
section
variable {id : Nat} {b : Blk}
theorem frz_v (x : Value) : (AV.v x).frz id b = .v x := by simp only [AV.frz]
theorem frz_agg (cs : List AV) : (AV.agg cs).frz id b = .agg (AV.frzL id b cs) := by simp only [AV.frz]
theorem frz_tup (cs : List AV) : (AV.tup cs).frz id b = .tup (AV.frzL id b cs) := by simp only [AV.frz]
theorem frz_sl (i sz off len : Nat) : (AV.sl i sz off len).frz id b = if i = id then frS b sz off len else .sl i sz off len := by simp only [AV.frz]
theorem frz_ptr (i sz x y : Nat) : (AV.ptr i sz x y).frz id b = if i = id then frP b sz x y else .ptr i sz x y := by simp only [AV.frz]
theorem frz_map (i : Nat) : (AV.map i).frz id b = if i = id then frM b else .map i := by simp only [AV.frz]
theorem frz_fsl (sz : Nat) (l : List AV) : (AV.fsl sz l).frz id b = .fsl sz (AV.frzL id b l) := by simp only [AV.frz]
theorem frz_fptr (l : List AV) : (AV.fptr l).frz id b = .fptr (AV.frzL id b l) := by simp only [AV.frz]
theorem frz_fmap (k l : List AV) : (AV.fmap k l).frz id b = .fmap (AV.frzL id b k) (AV.frzL id b l) := by simp only [AV.frz]
theorem frz_clo (f : Fn) (k l : List AV) : (AV.clo f k l).frz id b = .clo f (AV.frzL id b k) (AV.frzL id b l) := by simp only [AV.frz]
theorem frz_junk : AV.junk.frz id b = .junk := by simp only [AV.frz]
theorem frzL_nil : AV.frzL id b [] = [] := by simp only [AV.frzL]
theorem frzL_cons (a : AV) (l : List AV) : AV.frzL id b (a :: l) = a.frz id b :: AV.frzL id b l := by simp only [AV.frzL]
theorem frzL_eq (l : List AV) : AV.frzL id b l = l.map (AV.frz id b) := by
  induction l with
  | nil => simp [frzL_nil]
  | cons a l ih => simp [frzL_cons, ih]
theorem frzL_app (l m : List AV) : AV.frzL id b (l ++ m) = AV.frzL id b l ++ AV.frzL id b m := by simp [frzL_eq]
theorem frzL_getD (l : List AV) (i : Nat) : (AV.frzL id b l).getD i .junk = (l.getD i .junk).frz id b := by
  rw [frzL_eq, List.getD_eq_getElem?_getD, List.getD_eq_getElem?_getD, List.getElem?_map]
  cases l[i]? <;> simp [AV.frz]
theorem frzL_length (l : List AV) : (AV.frzL id b l).length = l.length := by rw [frzL_eq]; simp
theorem frz_cells (a : AV) : (a.frz id b).cells = AV.frzL id b a.cells := by
  cases a
  case agg cs => simp only [AV.frz, AV.cells]
  case sl i sz off len =>
    simp only [AV.frz]
    by_cases h : i = id
    · simp only [if_pos h, AV.cells, AV.frzL, AV.frz]; exact AV.cells_single (frS_single _ _ _ _)
    · simp only [if_neg h, AV.cells, AV.frzL, AV.frz]
  case ptr i sz x y =>
    simp only [AV.frz]
    by_cases h : i = id
    · simp only [if_pos h, AV.cells, AV.frzL, AV.frz]; exact AV.cells_single (frP_single _ _ _ _)
    · simp only [if_neg h, AV.cells, AV.frzL, AV.frz]
  case map i =>
    simp only [AV.frz]
    by_cases h : i = id
    · simp only [if_pos h, AV.cells, AV.frzL, AV.frz]; exact AV.cells_single (frM_single _)
    · simp only [if_neg h, AV.cells, AV.frzL, AV.frz]
  all_goals simp only [AV.frz, AV.cells, AV.frzL]
theorem frz_cellAt (a : AV) (j : Nat) : (a.frz id b).cellAt j = (a.cellAt j).frz id b := by
  unfold AV.cellAt
  rw [frz_cells, frzL_getD]
end
theorem free_cell {es : List AV} (hf : ∀ f, AV.renL f es = es) (i j : Nat) : Free ((es.getD i .junk).cellAt j) := by
  intro f
  rw [← AV.cellAt_ren, ← AV.renL_getD, hf]
theorem free_mp {es : List (AV × AV)} (hf : ∀ f, Blk.ren f (.mp es) = .mp es) (i : Nat) : Free (es.getD i default).1 ∧ Free (es.getD i default).2 := by
  have key : ∀ f, (es.map fun x => (x.1.ren f, x.2.ren f)) = es := fun f => by simpa [Blk.ren] using hf f
  have hd : ∀ f : Nat → Option Nat, ((es.getD i default).1.ren f, (es.getD i default).2.ren f) = es.getD i default := fun f => by
    have h1 := congrArg (fun l : List (AV × AV) => l.getD i default) (key f)
    simp only [List.getD_eq_getElem?_getD, List.getElem?_map] at h1 ⊢
    cases h2 : es[i]? with
    | none => simp [default, instInhabitedAV.default, AV.ren]
    | some y => simpa [h2] using h1
  exact ⟨fun f => congrArg Prod.fst (hd f), fun f => congrArg Prod.snd (hd f)⟩
section
variable {B : Base} {w : World} {ρ : Nat → Option Nat} {D Z : Nat → Prop} {h : List (Option Blk)}
theorem RV.frz (H : HR B w ρ D Z h) {id g : Nat} {b : Blk} (hb : h[id]? = some (some b)) (hr : ρ id = some g) (hf : ∀ f, Blk.ren f b = b) {a : AV} {x : Value} (hx : RV w ρ D Z a x) :
    RV w (setρ ρ id none) D (fun k => Z k ∨ k = g) (a.frz id b) x := by
  have hkeep : ∀ i q, i ≠ id → ρ i = some q → setρ ρ id none i = some q := fun i q hi hq => by unfold setρ; rw [if_neg hi]; exact hq
  have wide : ∀ {a : AV} {x : Value}, Free a → RV w ρ D Z a x → RV w (setρ ρ id none) D (fun k => Z k ∨ k = g) a x := fun fr h2 =>
    (RV.free (ρ' := setρ ρ id none) (D' := D) fr h2).step ⟨fun _ _ h => .inl h, fun _ h => h, fun _ h => .inl h, fun _ _ => rfl, fun _ _ c e fr _ _ h => ⟨c, e, fr, h, Nat.le_refl _⟩⟩
  obtain ⟨g', hr', hB⟩ := H.live id b hb
  rw [hr] at hr'
  cases hr'
  induction hx with
  | v x => rw [frz_v]; exact .v x
  | junk x => simp only [AV.frz]; exact .junk x
  | @dead a i x ha hd h1 =>
    have hi : i ≠ id := fun e => by subst e; exact H.not_dead hb hd
    have : a.frz id b = a := by
      cases a <;> simp only [AV.idOf, Option.some.injEq, reduceCtorEq] at ha <;> (subst ha; simp only [AV.frz]; rw [if_neg hi])
    rw [this]
    exact .dead x ha hd h1
  | agg hl _ ih => simp only [AV.frz]; exact .agg (by rw [frzL_length, hl]) fun i hi => by rw [frzL_getD]; exact ih i (by rwa [frzL_length] at hi)
  | tup hl _ ih => simp only [AV.frz]; exact .tup (by rw [frzL_length, hl]) fun i hi => by rw [frzL_getD]; exact ih i (by rwa [frzL_length] at hi)
  | @ptr i sz x y q hq =>
    simp only [AV.frz]
    split
    · rename_i hi
      subst hi
      rw [hr] at hq
      cases hq
      unfold frP
      split
      · rename_i e p es
        have hes : ∀ f, AV.renL f es = es := fun f => by simpa [Blk.ren] using hf f
        obtain ⟨c, fr, hcc, _, hcl, hs, hv⟩ := hB
        split
        · rename_i hq
          obtain ⟨rfl, hi, hj⟩ := hq
          have hlen : ((es.getD x .junk).cells.drop y).length = p - y := by rw [List.length_drop, hs x hi]
          have hget : ∀ k, ((es.getD x .junk).cells.drop y).getD k .junk = (es.getD x .junk).cellAt (y + k) := fun k => by
            simp [List.getD_eq_getElem?_getD, AV.cellAt]
          refine .fptr (fun k => c.getD (x * p + (y + k)) undef) (.inr rfl) (fun k hk => ?_) (fun k hk => ?_) <;> rw [hlen] at hk
          · have := mul_lt hi (show y + k < p by omega)
            rw [Addr.add_plain, show x * p + y + k = x * p + (y + k) by omega]
            exact cell_row hcc (by omega)
          · rw [hget]
            exact wide (free_cell hes _ _) (hv x (y + k) hi (by omega)).1
        · exact .junk _
      · exact .junk _
    · rename_i hi; exact .ptr (hkeep i q hi hq)
  | @map i q hq =>
    simp only [AV.frz]
    split
    · rename_i hi
      subst hi
      rw [hr] at hq
      cases hq
      unfold frM
      split
      · rename_i es
        obtain ⟨ents, clock, hc, hst, hl, hkv⟩ := hB
        have hge : ∀ i, i < es.length → ∀ f : AV × AV → AV, (es.map f).getD i .junk = f (es.getD i default) := fun i hi f => by simp [List.getD_eq_getElem?_getD, hi]
        refine .fmap (.inr rfl) hc hst (by rw [List.length_map, hl]) (by rw [List.length_map, List.length_map]) (fun i hi => ?_) (fun i hi => ?_) <;> rw [List.length_map] at hi
        · rw [hge i hi Prod.fst]; exact wide (free_mp hf i).1 (hkv i hi).1
        · rw [hge i hi Prod.snd]; exact wide (free_mp hf i).2 (hkv i hi).2
      · exact .junk _
    · rename_i hi; exact .map (hkeep i q hi hq)
  | @sl i sz off len q cap hq hc hl hm =>
    simp only [AV.frz]
    split
    · rename_i hi
      subst hi
      rw [hr] at hq
      cases hq
      unfold frS
      split
      · rename_i e p es
        have hes : ∀ f, AV.renL f es = es := fun f => by simpa [Blk.ren] using hf f
        obtain ⟨c, fr, hcc, _, hcl, hs, hv⟩ := hB
        split
        · rename_i hle
          obtain ⟨rfl, hle⟩ := hle
          have hlen : ((es.drop off).take len).length = len := by simp; omega
          have hget : ∀ k, k < len → ((es.drop off).take len).getD k .junk = es.getD (off + k) .junk := fun k hk => by simp [List.getD_eq_getElem?_getD, hk]
          suffices key : RV w (setρ ρ i none) D (fun k => Z k ∨ k = g) (.fsl p ((es.drop off).take len)) (.slice (some ⟨g, off * p, none⟩) ((es.drop off).take len).length cap) by
            rw [hlen] at key
            exact key
          refine .fsl (fun a b => c.getD ((off + a) * p + b) undef) (by rw [hlen]; exact hl) hm (fun a ha => ?_) (fun a b ha hb' => ?_) (fun a b ha hb' => (hv (off + a) b (by rw [hlen] at ha; omega) hb').2) (fun a b ha hb' => ?_) <;> rw [hlen] at ha
          · rw [hget a ha]; exact hs _ (by omega)
          · refine ⟨_, rfl, .inr rfl, ?_⟩
            have := mul_lt (show off + a < es.length by omega) hb'
            rw [Addr.add_plain, show off * p + (a * p + b) = (off + a) * p + b by rw [Nat.add_mul]; omega]
            exact cell_row hcc (by omega)
          · rw [hget a ha]
            exact wide (free_cell hes _ _) (hv (off + a) b (by omega) hb').1
        · exact .junk _
      · exact .junk _
    · rename_i hi; exact .sl (hkeep i q hi hq) hc hl hm
  | @fsl sz cap l A F hl hm hs2 hA h1 _ ih =>
    simp only [AV.frz]
    have e : l.length = (AV.frzL id b l).length := (frzL_length l).symm
    rw [e]
    refine .fsl F (by rw [← e]; exact hl) hm (fun i hi => ?_) (fun i j hi hj => ?_) (fun i j hi hj => h1 i j (by rwa [← e] at hi) hj) (fun i j hi hj => ?_)
    · rw [frzL_getD, frz_cells, frzL_length]; exact hs2 i (by rwa [← e] at hi)
    · obtain ⟨ad, e1, hz, hc⟩ := hA i j (by rwa [← e] at hi) hj
      exact ⟨ad, e1, .inl hz, hc⟩
    · rw [frzL_getD, frz_cellAt]; exact ih i j (by rwa [← e] at hi) hj
  | @fptr cs ad F hz hA _ ih =>
    simp only [AV.frz]
    exact .fptr F (.inl hz) (fun j hj => hA j (by rwa [frzL_length] at hj)) (fun j hj => by rw [frzL_getD]; exact ih j (by rwa [frzL_length] at hj))
  | fmap hz hh hs hl hl2 _ _ ih1 ih2 =>
    simp only [AV.frz]
    exact .fmap (.inl hz) hh hs (by rw [frzL_length, hl]) (by rw [frzL_length, frzL_length, hl2]) (fun i hi => by rw [frzL_getD]; exact ih1 i (by rwa [frzL_length] at hi)) (fun i hi => by rw [frzL_getD]; exact ih2 i (by rwa [frzL_length] at hi))
  | clo hf' _ hl _ ih1 ih =>
    simp only [AV.frz]
    exact .clo (by rw [frzL_length, hf']) (fun i hi => by rw [frzL_getD]; exact ih1 i (by rwa [frzL_length] at hi))
      (by rw [frzL_length, hl]) (fun i hi => by rw [frzL_getD]; exact ih i (by rwa [frzL_length] at hi))
end
def Blk.frz (id : Nat) (b : Blk) : Blk → Blk
  | .row e sz l => .row e sz (AV.frzL id b l)
  | .mp l => .mp (l.map fun x => (x.1.frz id b, x.2.frz id b))
  | .it c k l => .it (AV.frzL id b c) (AV.frzL id b k) (AV.frzL id b l)
def frzE (id : Nat) (b : Blk) : List (Nat × AV) → List (Nat × AV)
  | [] => []
  | (n, a) :: l => (n, a.frz id b) :: frzE id b l
def frzH (id : Nat) (b : Blk) : Nat → List (Option Blk) → List (Option Blk)
  | _, [] => []
  | i, x :: l => (if i = id then none else x.map (Blk.frz id b)) :: frzH id b (i + 1) l
theorem frzE_look (id : Nat) (b : Blk) (n : Nat) : ∀ l, look n (frzE id b l) = (look n l).frz id b
  | [] => by simp [frzE, look, AV.frz]
  | (m, a) :: l => by
    simp only [frzE, look]
    split
    · rfl
    · exact frzE_look id b n l
theorem frzH_get (id : Nat) (b : Blk) : ∀ (l : List (Option Blk)) (i k : Nat), (frzH id b i l)[k]? = (l[k]?).map fun x => if i + k = id then none else x.map (Blk.frz id b)
  | [], i, k => by simp [frzH]
  | x :: l, i, 0 => by simp [frzH]
  | x :: l, i, k + 1 => by
    simp only [frzH, List.getElem?_cons_succ]
    rw [frzH_get id b l (i + 1) k, show i + 1 + k = i + (k + 1) by omega]
theorem weak_frzB (id : Nat) {st st' : St} {b : Blk} (hm : st.m = 0) (hb : st.h[id]? = some (some b)) (hf : ∀ f, Blk.ren f b = b)
    (he : st' = ⟨st.n, 0, frzE id b st.env, frzH id b 0 st.h⟩) : Weak st st' := by
  subst he
  intro B ρ D Z a w I
  have H := I.h
  obtain ⟨g, hr, hB⟩ := H.live id b hb
  have hrv : ∀ {a : AV} {x : Value}, RV w ρ D Z a x → RV w (setρ ρ id none) D (fun k => Z k ∨ k = g) (a.frz id b) x := fun hx => hx.frz H hb hr hf
  have hBρ : ∀ i q, B.ρ i ≠ some q := fun i q h => by
    have := I.bm i (.inl ⟨q, h⟩)
    omega
  have hget : ∀ k, (frzH id b 0 st.h)[k]? = (st.h[k]?).map fun x => if k = id then none else x.map (Blk.frz id b) := fun k => by rw [frzH_get, Nat.zero_add]
  have hρ' : ∀ i q, setρ ρ id none i = some q → i ≠ id ∧ ρ i = some q := fun i q h => by
    unfold setρ at h
    split at h
    · cases h
    · rename_i hi; exact ⟨hi, h⟩
  refine ⟨setρ ρ id none, D, fun k => Z k ∨ k = g, ⟨I.n, fun n => ?_, ?_, fun i hi => ?_, I.defers⟩⟩
  · show RV w _ D _ (look n (frzE id b st.env)) _
    rw [frzE_look]
    exact hrv (I.env n)
  · refine ⟨fun i b' hib => ?_, fun i q hq => ?_, fun i hd => ?_, fun i j q hi hj => ?_, fun i q hq => ?_, fun k hk => ?_, H.fr, H.os, H.tape, H.output, H.size, ?_, fun k hk => ?_⟩
    · rw [hget] at hib
      cases hx : st.h[i]? with
      | none => rw [hx] at hib; cases hib
      | some ob =>
        rw [hx] at hib
        simp only [Option.map_some, Option.some.injEq] at hib
        split at hib
        · cases hib
        · rename_i hi
          cases ob with
          | none => cases hib
          | some b0 =>
            simp only [Option.map_some, Option.some.injEq] at hib
            subst hib
            obtain ⟨q, hq, hrb⟩ := H.live i b0 hx
            refine ⟨q, by unfold setρ; rw [if_neg hi]; exact hq, ?_⟩
            cases b0 with
            | row e' sz' l =>
              obtain ⟨c', fr', h1, h2, h3, h4, h5⟩ := hrb
              refine ⟨c', fr', h1, h2, by rw [frzL_length]; exact h3, fun k hk => ?_, fun k j hk hj => ?_⟩
              · rw [frzL_getD, frz_cells, frzL_length]; exact h4 k (by rwa [frzL_length] at hk)
              · rw [frzL_getD, frz_cellAt]
                have := h5 k j (by rwa [frzL_length] at hk) hj
                exact ⟨hrv this.1, this.2⟩
            | mp l =>
              obtain ⟨ents, clock, h1, hst, h2, h3⟩ := hrb
              refine ⟨ents, clock, h1, hst, by simpa using h2, fun k hk => ?_⟩
              have hk' : k < l.length := by simpa using hk
              have := h3 k hk'
              have e : (l.map fun x => (x.1.frz id b, x.2.frz id b)).getD k default = ((l.getD k default).1.frz id b, (l.getD k default).2.frz id b) := by
                simp [List.getD_eq_getElem?_getD, hk']
              rw [e]
              exact ⟨hrv this.1, hrv this.2⟩
            | it cur ks vs =>
              obtain ⟨gm, since, seen, last, ents, clock, h1, h2, h3, h4, h5, h6, h7, h8, h9, h10, h11⟩ := hrb
              refine ⟨gm, since, seen, last, ents, clock, h1, .inl h2, h3, h4, h5, h6, h7, by rw [frzL_length]; exact h8, by rw [frzL_length, frzL_length]; exact h9, fun k hk => ?_, ?_⟩
              · rw [frzL_length] at hk
                rw [frzL_getD, frzL_getD]
                exact ⟨hrv (h10 k hk).1, hrv (h10 k hk).2⟩
              · rcases h11 with rfl | ⟨k, v, e, rfl, h12, h13, h14, h15⟩
                · exact .inl (by simp [AV.frzL])
                · exact .inr ⟨k.frz id b, v.frz id b, e, by simp [AV.frzL], h12, h13, hrv h14, hrv h15⟩
    · obtain ⟨hi, hq'⟩ := hρ' i q hq
      obtain ⟨b', hb'⟩ := H.only i q hq'
      exact ⟨Blk.frz id b b', by rw [hget, hb']; simp [hi]⟩
    · have := H.dead i hd
      rw [hget, this]
      simp
    · exact H.inj i j q (hρ' i q hi).2 (hρ' j q hj).2
    · exact H.own i q (hρ' i q hq).2
    · rcases hk with hk | rfl
      · exact ⟨(H.z k hk).1, fun i hi => (H.z k hk).2 i (hρ' i k hi).2⟩
      · exact ⟨H.lt hr, fun i hi => (hρ' i _ hi).1 (H.inj i id _ (hρ' i _ hi).2 hr)⟩
    · have t := H.step
      exact ⟨fun i q hq => absurd hq (hBρ i q), t.dead, fun k hk => .inl (t.z k hk), t.zb, fun i q c e fr hq => absurd hq (hBρ i q)⟩
    · rcases hk with hk | rfl
      · exact H.zg k hk
      · rcases H.own id k hr with ⟨id0, h0⟩ | h0
        · exact absurd h0 (hBρ id0 k)
        · exact .inr h0
  · have := I.bm i hi
    omega
/-! ### Strings as lists of bytes -/
theorem mk_bs (l : List UInt8) : ByteArray.mk l.toArray = bs l := rfl
theorem bs_size (l : List UInt8) : (bs l).size = l.length := by simp [bs, ByteArray.size]
theorem bs_app (l m : List UInt8) : bs l ++ bs m = bs (l ++ m) := by apply ByteArray.ext; simp [bs]
theorem bs_data (l : List UInt8) : (bs l).data.toList = l := by simp [bs]
theorem bs_toList (l : List UInt8) : (bs l).toList = l := by rw [Go.Lib.toList_data, bs_data]
theorem bs_extract (l : List UInt8) (a b : Nat) : (bs l).extract a b = bs ((l.take b).drop a) := by
  apply ByteArray.ext
  simp only [bs, ByteArray.data_extract, List.extract_toArray, List.extract_eq_drop_take']
theorem bs_at (l : List UInt8) (n : Nat) : bAt (bs l) n = ((l.getD n 0).toNat : Int) := by
  unfold bAt
  simp [bs]
theorem renL_app (f : Nat → Option Nat) (l m : List AV) : AV.renL f (l ++ m) = AV.renL f l ++ AV.renL f m := by rw [AV.renL_eq, AV.renL_eq, AV.renL_eq, List.map_append]
theorem renL_rep (f : Nat → Option Nat) (n : Nat) (x : Value) : AV.renL f (List.replicate n (.v x)) = List.replicate n (.v x) := by
  rw [AV.renL_eq, List.map_replicate]
  simp [AV.ren]
attribute [go_sem] mk_bs bs_size bs_app bs_toList bs_extract bs_at bs_data renL_app renL_rep
attribute [go_sem] frz_v frz_agg frz_tup frz_sl frz_ptr frz_map frz_fsl frz_fptr frz_fmap frz_clo frz_junk frzL_nil frzL_cons frzL_app frzE frzH Blk.frz frS frP frM
def sA (l : List UInt8) : AV := .v (.string (bs l))
def nilA : AV := .v (.slice none 0 0)
theorem renL_iA (f : Nat → Option Nat) (t : List Int) : AV.renL f (t.map iA) = t.map iA := by
  rw [AV.renL_eq, List.map_map]
  exact List.map_congr_left fun p _ => by simp [iA, AV.ren]
theorem fzL_iA (h : List (Option Blk)) (t : List Int) : fzL h (t.map iA) = t.map iA := by
  rw [fzL_eq, List.map_map]
  exact List.map_congr_left fun p _ => by simp [iA, fz_v]
theorem frzL_iA (id : Nat) (b : Blk) (t : List Int) : AV.frzL id b (t.map iA) = t.map iA := by
  rw [frzL_eq, List.map_map]
  exact List.map_congr_left fun p _ => by simp [iA, frz_v]
theorem renL_sA (f : Nat → Option Nat) (t : List (List UInt8)) : AV.renL f (t.map sA) = t.map sA := by
  rw [AV.renL_eq, List.map_map]
  exact List.map_congr_left fun p _ => by simp [sA, AV.ren]
theorem fzL_sA (h : List (Option Blk)) (t : List (List UInt8)) : fzL h (t.map sA) = t.map sA := by
  rw [fzL_eq, List.map_map]
  exact List.map_congr_left fun p _ => by simp [sA, fz_v]
attribute [go_sem] renL_iA fzL_iA frzL_iA renL_sA fzL_sA
/-! ### Calls of the library -/
theorem args_v (xs : List Value) (cargs : Array Value) {w : World} {ρ : Nat → Option Nat} {D Z : Nat → Prop} (hl : (xs.map AV.v).length = cargs.size)
    (ha : ∀ i, i < (xs.map AV.v).length → RV w ρ D Z ((xs.map AV.v).getD i .junk) (cargs.getD i undef)) : cargs = xs.toArray := by
  have hs : xs.length = cargs.size := by simpa using hl
  apply Array.ext
  · simp [hs]
  · intro i h1 h2
    have hi : i < xs.length := by omega
    have := ha i (by simpa using hi)
    rw [show (xs.map AV.v).getD i .junk = .v xs[i] by simp [List.getD_eq_getElem?_getD, hi]] at this
    have e := this.v_inv
    rw [show cargs.getD i undef = cargs[i] by simp [Array.getD, h1]] at e
    rw [e]
    simp
/-- A call that makes new blocks alone, and whose results are plain values. -/
theorem pcon_lib {P : Program} {f : FuncId} (xs : List Value) {Q : AV → Prop}
    (h : ∀ w Z, Gl w Z → Calls P f xs.toArray w fun e w' => ∃ r v, e = .returned v ∧ Q r ∧ (∀ w, RV w noρ noD (fun _ => False) r v) ∧ RowKit.Below w.heap.size w w') : PCon P f (xs.map .v) Q := by
  intro w Z cargs hl ha hz hgl
  rw [args_v xs cargs hl ha]
  refine (h w Z hgl).mono ?_
  rintro e w' ⟨r, v, rfl, hq, hv, hb⟩
  exact ⟨r, v, fun _ => False, rfl, hq, hv w', hb, fun k hk => hk.elim⟩
/-- A call that leaves the world as it was. -/
theorem pcon_same {P : Program} {f : FuncId} (xs : List Value) {v : Value} {r : AV} (hr : ∀ w, RV w noρ noD (fun _ => False) r v)
    (h : ∀ w, Calls P f xs.toArray w fun e w' => e = .returned v ∧ w' = w) : PCon P f (xs.map .v) (· = r) :=
  pcon_lib xs fun w Z _ => (h w).mono fun e w' ⟨he, hw⟩ => ⟨r, v, he, rfl, hr, hw ▸ RowKit.Below.refl _ _⟩
end Pm
end Go.Proofs.YtdgoompjoeffcaaGreat
