/- PM, part L: a function's contract by the reckoning. -/
import Derived.Test.YtiipggfhjkalfaaDoorPmK
namespace Go.Proofs.YtiipggfhjkalfaaDoor
namespace Pm
theorem pcon_run (n : Nat) {P : Program} {f : FuncId} {fn : Func} {c : Code} {rs : Array ResultVar} {k : Nat} {args : List AV} {Q : AV → Prop} (hf : P.funcs[f]? = some fn) (hb : fn.body = some c) (hr : fn.results = rs) (hk : fn.ntmps = k) (hle : args.length ≤ k)
    (h : run P n [.code c] ⟨k, 0, envOf args, []⟩ (retP P rs Q)) : PCon P f args Q := by
  subst hr hk
  exact pcon_of hf hb hle (tri_run n h)
end Pm
end Go.Proofs.YtiipggfhjkalfaaDoor
