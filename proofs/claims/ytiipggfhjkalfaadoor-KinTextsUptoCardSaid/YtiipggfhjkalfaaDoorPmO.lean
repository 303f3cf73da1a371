/- PM, part O: the reckoning's rules, and small facts that walks ask for. -/
import Derived.Test.YtiipggfhjkalfaaDoorPmN
import Derived.Attr
namespace Go.Proofs.YtiipggfhjkalfaaDoor
namespace Pm

theorem call_eq (n : Nat) {P : Program} {st : St} {K : Exit → St → Prop} {f : FuncId} {args args' : List AV} {d : Option Tmp} {ops : Array Oper} {rest : List Oper} {t : List It} {r : AV} (c : PCon P f args' fun x => x = r) (ha : AV.renL noF args = args')
    (hk : run P n (.ops ops rest :: t) (st.put d r) K) (hd : okDst st.n d = true) : CallT P f args st d ops rest t K :=
  call_pure n c ha hd fun r' e => by rw [e]; exact hk
theorem call_eq_read (n : Nat) {P : Program} {st : St} {K : Exit → St → Prop} {f : FuncId} {args args' : List AV} {d : Option Tmp} {ops : Array Oper} {rest : List Oper} {t : List It} {r : AV} (c : PCon P f args' fun x => x = r) (ha : fzL st.h args = args') (hr : r.closed = true)
    (hk : run P n (.ops ops rest :: t) (st.put d r) K) (hd : okDst st.n d = true) : CallT P f args st d ops rest t K :=
  call_read n c ha hd fun r' e => by rw [e]; exact ⟨hr, hk⟩
theorem fz_v (h : List (Option Blk)) (x : Value) : fz h (.v x) = .v x := by simp only [fz]
theorem fz_agg (h : List (Option Blk)) (l : List AV) : fz h (.agg l) = .agg (fzL h l) := by simp only [fz]
theorem fz_tup (h : List (Option Blk)) (l : List AV) : fz h (.tup l) = .tup (fzL h l) := by simp only [fz]
theorem fz_fsl (h : List (Option Blk)) (n : Nat) (l : List AV) : fz h (.fsl n l) = .fsl n (fzL h l) := by simp only [fz]
theorem fz_fptr (h : List (Option Blk)) (l : List AV) : fz h (.fptr l) = .fptr (fzL h l) := by simp only [fz]
theorem fz_clo (h : List (Option Blk)) (f : Fn) (l m : List AV) : fz h (.clo f l m) = .clo f (fzL h l) (fzL h m) := by simp only [fz]
theorem fz_sl (h : List (Option Blk)) (id sz off n : Nat) : fz h (.sl id sz off n) = slF h id sz off n := by simp only [fz]
theorem fz_ptr (h : List (Option Blk)) (id sz i j : Nat) : fz h (.ptr id sz i j) = ptF h id sz i j := by simp only [fz]
theorem fz_junk (h : List (Option Blk)) : fz h .junk = .junk := by simp only [fz]
theorem fz_map (h : List (Option Blk)) (id : Nat) : fz h (.map id) = .junk := by simp only [fz]
theorem fz_byA (h : List (Option Blk)) (l : List UInt8) : fzL h (byA l) = byA l := by
  rw [fzL_eq, byA, List.map_map]
  exact List.map_congr_left fun b _ => by simp only [Function.comp, fz]
theorem fzL_nil (h : List (Option Blk)) : fzL h [] = [] := by simp only [fzL]
theorem fzL_cons (h : List (Option Blk)) (a : AV) (l : List AV) : fzL h (a :: l) = fz h a :: fzL h l := by simp only [fzL]
theorem ren_v (f : Nat → Option Nat) (x : Value) : AV.ren f (.v x) = .v x := by simp only [AV.ren]
theorem ren_agg (f : Nat → Option Nat) (l : List AV) : AV.ren f (.agg l) = .agg (AV.renL f l) := by simp only [AV.ren]
theorem ren_tup (f : Nat → Option Nat) (l : List AV) : AV.ren f (.tup l) = .tup (AV.renL f l) := by simp only [AV.ren]
theorem ren_fsl (f : Nat → Option Nat) (n : Nat) (l : List AV) : AV.ren f (.fsl n l) = .fsl n (AV.renL f l) := by simp only [AV.ren]
theorem ren_fptr (f : Nat → Option Nat) (l : List AV) : AV.ren f (.fptr l) = .fptr (AV.renL f l) := by simp only [AV.ren]
theorem ren_clo (g : Nat → Option Nat) (f : Fn) (l m : List AV) : AV.ren g (.clo f l m) = .clo f (AV.renL g l) (AV.renL g m) := by simp only [AV.ren]
theorem ren_sl (f : Nat → Option Nat) (id sz off n : Nat) : AV.ren f (.sl id sz off n) = AV.renId f id fun id => .sl id sz off n := by simp only [AV.ren]
theorem ren_ptr (f : Nat → Option Nat) (id sz i j : Nat) : AV.ren f (.ptr id sz i j) = AV.renId f id fun id => .ptr id sz i j := by simp only [AV.ren]
theorem ren_map (f : Nat → Option Nat) (id : Nat) : AV.ren f (.map id) = AV.renId f id fun id => .map id := by simp only [AV.ren]
theorem ren_junk (f : Nat → Option Nat) : AV.ren f .junk = .junk := by simp only [AV.ren]
theorem renL_nil (f : Nat → Option Nat) : AV.renL f [] = [] := by simp only [AV.renL]
theorem renL_cons (f : Nat → Option Nat) (a : AV) (l : List AV) : AV.renL f (a :: l) = a.ren f :: AV.renL f l := by simp only [AV.renL]
theorem closed_v (x : Value) : AV.closed (.v x) = true := by simp only [AV.closed]
theorem closed_agg (l : List AV) : AV.closed (.agg l) = AV.closedL l := by simp only [AV.closed]
theorem closed_tup (l : List AV) : AV.closed (.tup l) = AV.closedL l := by simp only [AV.closed]
theorem closedL_nil : AV.closedL [] = true := by simp only [AV.closedL]
theorem closedL_cons (a : AV) (l : List AV) : AV.closedL (a :: l) = (a.closed && AV.closedL l) := by simp only [AV.closedL]
theorem wrap64 {x : Int} (h1 : -9223372036854775808 ≤ x) (h2 : x ≤ 9223372036854775807) : IntKind.i64.wrap x = x := by
  simp [IntKind.wrap, IntKind.bits, IntKind.signed]
  split <;> omega
end Pm
end Go.Proofs.YtiipggfhjkalfaaDoor
