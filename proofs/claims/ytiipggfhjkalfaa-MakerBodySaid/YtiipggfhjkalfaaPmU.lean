/- PM, part U: the set of rules that the reckoning goes by. -/
import Derived.Test.YtiipggfhjkalfaaPmS
import Derived.Test.YtiipggfhjkalfaaPmT
namespace Go.Proofs.Ytiipggfhjkalfaa
namespace Pm
attribute [go_sem]
  run_nil run_blk run_goal run_ops_nil run_op run_guard run_skip run_seq run_cond run_block run_exit run_ret run_region run_draw run_loop runO runI_true runI_false runI_eq runI_lt
  runI_le runI_not runI_and runI_or runR_some runR_none runH_bool runH_undef runG_some runB_bool runE_some runE_none runC_some runD_nil runD_op runD_guard runDO runDI_true
  runDI_false runDI_eq runDI_lt runDI_le runDI_not runDI_and runDI_or runDR_some runDR_none runDQ_quiet runDQ_alloc runDQ_hard runDH_bool runDH_undef runDG_some runDC_some okDst
  guardA opR St.get St.put Pm.look binR eqL eqV sBin intA strA pickR calleeA exitA retP retK resultsA oneA fz_v fz_agg fz_tup fz_fsl fz_fptr fz_clo fz_sl fz_ptr fz_junk fzL_nil
  fzL_cons slF envOf loadR storeR fieldAddrR indexAddrR indexR fieldR sliceR arrPtrR appendR builtinR nilR buildR buildSliceR makeSliceR makeFslR mkD_none mkD_some rowOf isLive srcA srcTy mmA sUn sConv bnd fillA putL
  stA ldA AV.cells AV.fit AV.ones AV.one AV.single ren_v ren_agg ren_tup ren_fsl ren_fptr ren_clo ren_sl ren_ptr ren_map ren_junk renL_nil renL_cons AV.renId noF closed_v closed_agg
  closed_tup closedL_nil closedL_cons quietB allocB PL.at elemA Value.oneCell' AV.zero chunkA decide_true decide_false decide_eq_true_eq decide_eq_false_iff_not Bool.false_eq_true
  true_and and_true List.getElem?_toArray List.getElem?_cons_zero List.getElem?_cons_succ List.getElem?_nil Option.bind_some Option.bind_none Option.map_some Option.map_none
  Bool.not_true Bool.not_false Bool.not_eq_true' Bool.not_eq_false' eq_self Int.ofNat_lt Int.natCast_nonneg AV.agg.injEq exists_eq' true_or or_true false_or or_false
  not_true_eq_false not_false_eq_true List.append_nil List.nil_append List.cons_append List.zipIdx_cons List.zipIdx_nil List.map_cons List.map_nil List.length_cons List.length_nil
  List.getD_cons_zero List.getD_cons_succ List.set_cons_zero List.set_cons_succ List.size_toArray List.drop_zero List.drop_succ_cons List.drop_nil List.take_succ_cons List.take_zero
  List.take_nil List.length_map List.all_cons List.all_nil Bool.and_true Bool.true_and Bool.and_self and_self Nat.zero_add Nat.add_zero Nat.zero_mul Nat.mul_zero false_implies
  true_implies Nat.succ_ne_zero Nat.one_ne_zero Nat.zero_ne_one Nat.lt_add_one Nat.le_refl Int.cast_ofNat_Int Nat.mul_one Int.le_refl Int.toNat_zero Nat.zero_le List.take_length
  Int.toNat_natCast Option.some.injEq List.replicate_succ List.replicate_zero List.getElem?_map
theorem sameKey_none {es : List (AV × AV)} {k : AV} : sameKey es k none = True := rfl
attribute [go_sem] Bool.or_self Bool.false_or Bool.or_false Bool.or_true Bool.true_or imp_self pickO refOk killK lastK hardK lOf okX_true okX_false okL nilsB isLit run_scope run_label unsafeStringR isStrTo byA_app byA_len byA_ren byA_take bytesB_byA byA_eq fz_byA mapUpdR lookR convR mpOf gotA_none gotA_some keyOk isBytesTo bytesA fz_map glA keepB Blk.ren idxOf rdOk rdOk_none okW okW_none agreeW Option.isSome_some beq_iff_eq bne_iff_ne beq_eq_false_iff_ne bne_eq_false_iff_eq ne_eq Bool.or_eq_true Bool.and_eq_true ptF mpF slY ptY mpY fy_v fy_agg fy_tup fy_fsl fy_fptr fy_fmap fy_clo fy_junk fy_sl fy_ptr fy_map fyL_nil fyL_cons fy_byA fz_fmap ren_fmap bitsV bitsOk sameKey_none deleteR rangeR entryR itOf backH backL backN renO backId St.back fz_ptr
theorem wrap_lit (n : Nat) (h : n < 9223372036854775808) : IntKind.i64.wrap (no_index (@OfNat.ofNat Int n (@instOfNat n))) = @OfNat.ofNat Int n (@instOfNat n) := wrap64 (by show -9223372036854775808 ≤ (n : Int); omega) (by show (n : Int) ≤ 9223372036854775807; omega)
attribute [go_sem] wrap_lit
def iA (n : Int) : AV := .v (.int .i64 n)
theorem bool_eq {a b : Bool} (h : a = true ↔ b = true) : a = b := Bool.eq_iff_iff.2 h
end Pm
end Go.Proofs.Ytiipggfhjkalfaa
