/- The yard's step: what it is, without Go. -/
import Derived.Test.YthflneagfnpfkaaDoorProg
import Derived.Test.YthflneagfnpfkaaDoorPmU
import Derived.Test.YthflneagfnpfkaaDoorYaJ
set_option linter.unusedSimpArgs false
set_option linter.unusedVariables false
set_option maxRecDepth 20000
open Go Go.Proofs
namespace Go.Proofs.YthflneagfnpfkaaDoor
open Pm
attribute [local irreducible] Wait CallT CallW Le Weak
structure Y where
  k : Int
  d : Int
  s : Int
  a : Int
  b : Int
  p : Int
  q : Int
  t : Int
  r : Int
  c : Int
deriving DecidableEq, Inhabited
def Y.l (y : Y) : List Int := [y.k, y.d, y.s, y.a, y.b, y.p, y.q, y.t, y.r, y.c]
def YA (y : Y) : AV := .agg [iA y.k, iA y.d, iA y.s, iA y.a, iA y.b, iA y.p, iA y.q, iA y.t, iA y.r, iA y.c]
def Y.of (l : List Int) : Y := ⟨l.getD 0 0, l.getD 1 0, l.getD 2 0, l.getD 3 0, l.getD 4 0, l.getD 5 0, l.getD 6 0, l.getD 7 0, l.getD 8 0, l.getD 9 0⟩
theorem YA_l (y : Y) : yA y.l = YA y := rfl
theorem yA_of (l : List Int) (h : l.length = 10) : yA l = YA (Y.of l) := by
  obtain ⟨a0, a1, a2, a3, a4, a5, a6, a7, a8, a9, rfl⟩ := ten_of l h
  rfl
structure WF (y : Y) : Prop where
  k0 : 0 ≤ y.k
  k1 : y.k ≤ 15
  d0 : 0 ≤ y.d
  d1 : y.d ≤ 3
  s0 : 0 ≤ y.s
  s1 : y.s ≤ 1
  a0 : 0 ≤ y.a
  a1 : y.a ≤ 127
  b0 : 0 ≤ y.b
  b1 : y.b ≤ 127
  p0 : 0 ≤ y.p
  p1 : y.p ≤ 7
  q0 : 0 ≤ y.q
  q1 : y.q ≤ 3
  t0 : 0 ≤ y.t
  t1 : y.t ≤ 3
  r0 : 0 ≤ y.r
  r1 : y.r ≤ 1
  c0 : 0 ≤ y.c
  c1 : y.c ≤ 255
/-- Four neighbours. -/
structure Nb where
  e : Y
  n : Y
  w : Y
  s : Y
def Nb.at (v : Nb) (d : Int) : Y := if d = 0 then v.e else if d = 1 then v.n else if d = 2 then v.w else v.s
def opp (d : Int) : Int := (d + 2) % 4
def lft (d : Int) : Int := (d + 1) % 4
def rgt (d : Int) : Int := (d + 3) % 4
def sideM (y : Y) : Int := if y.s = 0 then lft y.d else rgt y.d
def offerM (y : Y) (d : Int) : Int :=
  if y.k = 1 ∨ y.k = 2 ∨ y.k = 7 ∨ y.k = 13 then if d = y.d then y.a else 0
  else if y.k = 4 then if d = y.d then y.a else if d = sideM y then y.b else 0
  else if y.k = 3 then if (d = y.d ∧ y.t % 2 = 0) ∨ (d = sideM y ∧ y.t < 2) then y.a else 0
  else if y.k = 5 then if d = y.d ∧ y.a ≠ 0 ∧ y.b ≠ 0 then if y.a = 2 ∧ y.b = 2 then 9 else 8 else 0
  else if y.k = 6 then if d = y.d ∧ y.a ≠ 0 ∧ y.b ≠ 0 then if y.a = 1 ∧ y.b = 1 then 8 else 9 else 0
  else if y.k = 8 then if d = y.d ∧ y.t % 2 = 0 ∧ y.p ≠ 4 then y.a else 0
  else 0
def readyM (y : Y) (d : Int) : Bool :=
  if y.k = 1 ∨ y.k = 2 then decide (y.a = 0 ∧ d ≠ y.d)
  else if y.k = 3 then decide (y.a = 0 ∧ d ≠ y.d ∧ d ≠ sideM y)
  else if y.k = 8 then decide (y.a = 0 ∧ d = opp y.d)
  else if y.k = 4 then decide ((d = opp y.d ∧ y.a = 0) ∨ (d = opp (sideM y) ∧ y.b = 0))
  else if y.k = 5 ∨ y.k = 6 then decide ((d = opp y.d ∧ y.a = 0) ∨ (d = sideM y ∧ y.b = 0))
  else if y.k = 7 then decide (y.a = 0 ∧ ((y.p = 0 ∧ d = sideM y) ∨ (y.p = 1 ∧ d = opp y.d)))
  else false
def ready2M (y : Y) (d : Int) (second : Bool) : Bool :=
  if y.k = 1 ∨ y.k = 2 then !second && decide (y.a = 0 ∧ d ≠ y.d)
  else if y.k = 3 then !second && decide (y.a = 0 ∧ d ≠ y.d ∧ d ≠ sideM y)
  else if y.k = 8 then !second && decide (y.a = 0 ∧ d = opp y.d)
  else if y.k = 4 then if second = true then decide (y.b = 0 ∧ d = opp (sideM y)) else decide (y.a = 0 ∧ d = opp y.d)
  else if y.k = 5 ∨ y.k = 6 then if second = true then decide (y.b = 0 ∧ d = sideM y) else decide (y.a = 0 ∧ d = opp y.d)
  else if y.k = 7 then !second && decide (y.a = 0 ∧ ((y.p = 0 ∧ d = sideM y) ∨ (y.p = 1 ∧ d = opp y.d)))
  else false
def netM (y : Y) : Bool := decide (1 ≤ y.k ∧ y.k ≤ 8)
def gaveM (v : Nb) (y : Y) (d : Int) : Bool := decide (offerM y d ≠ 0) && (netM (v.at d) && readyM (v.at d) (opp d))
def offeredM (v : Nb) (y : Y) : List Int → Int
  | [] => 0
  | d :: ds => if readyM y d = true ∧ offerM (v.at d) (opp d) ≠ 0 then offerM (v.at d) (opp d) else offeredM v y ds
def hasDirM (y : Y) : Bool := decide (y.k ≠ 0 ∧ y.k ≠ 14)
def pointsM (v : Nb) (d : Int) : Bool := hasDirM (v.at d) && decide ((v.at d).d = opp d)
def fromArmM (v : Nb) : List Int → Int
  | [] => 0
  | d :: ds => if (v.at d).k = 9 ∧ pointsM v d = true ∧ (v.at d).a ≠ 0 then (v.at d).a else fromArmM v ds
def bitM (s : Int) : Int := if s = 0 then 0 else if s = 8 then 1 else 2
def heardM (ph s : Int) : Int × Bool :=
  if ph = 0 then if s = 4 then (1, false) else (0, false)
  else if ph = 1 then if s = 1 then (2, false) else (1, false)
  else if ph = 2 then if s = 3 then (5, true) else if s = 2 then (6, true) else (2, true)
  else if ph = 5 then if s = 1 then (3, true) else (5, false)
  else if ph = 3 then if s = 1 then (4, false) else (3, true)
  else if ph = 6 then if s = 1 then (4, false) else (6, false)
  else (ph, false)
theorem at_dec (v : Nb) (d : Int) (h0 : 0 ≤ d) (h1 : d ≤ 3) : d = 0 ∨ d = 1 ∨ d = 2 ∨ d = 3 := by omega
def cells10 (y : Y) : List AV := [iA y.k, iA y.d, iA y.s, iA y.a, iA y.b, iA y.p, iA y.q, iA y.t, iA y.r, iA y.c]
def cellsN (v : Nb) : List AV := cells10 v.e ++ (cells10 v.n ++ (cells10 v.w ++ cells10 v.s))
def NbA (v : Nb) : AV := .fptr (cellsN v)
theorem and1 (t : Int) (h0 : 0 ≤ t) (h1 : t ≤ 3) : bitsA .and .i64 t 1 = t % 2 := by
  obtain ⟨n, rfl⟩ := Int.eq_ofNat_of_zero_le h0
  match n, h1 with
  | 0, _ => decide +kernel
  | 1, _ => decide +kernel
  | 2, _ => decide +kernel
  | 3, _ => decide +kernel
  | n + 4, h => exfalso; omega
theorem and2 (t : Int) (h0 : 0 ≤ t) (h1 : t ≤ 3) : bitsA .and .i64 t 2 = t - t % 2 := by
  obtain ⟨n, rfl⟩ := Int.eq_ofNat_of_zero_le h0
  match n, h1 with
  | 0, _ => decide +kernel
  | 1, _ => decide +kernel
  | 2, _ => decide +kernel
  | 3, _ => decide +kernel
  | n + 4, h => exfalso; omega
theorem or1 (t : Int) (h0 : 0 ≤ t) (h1 : t ≤ 3) : bitsA .or .i64 t 1 = t - t % 2 + 1 := by
  obtain ⟨n, rfl⟩ := Int.eq_ofNat_of_zero_le h0
  match n, h1 with
  | 0, _ => decide +kernel
  | 1, _ => decide +kernel
  | 2, _ => decide +kernel
  | 3, _ => decide +kernel
  | n + 4, h => exfalso; omega
theorem or2 (t : Int) (h0 : 0 ≤ t) (h1 : t ≤ 3) : bitsA .or .i64 t 2 = t % 2 + 2 := by
  obtain ⟨n, rfl⟩ := Int.eq_ofNat_of_zero_le h0
  match n, h1 with
  | 0, _ => decide +kernel
  | 1, _ => decide +kernel
  | 2, _ => decide +kernel
  | 3, _ => decide +kernel
  | n + 4, h => exfalso; omega
end Go.Proofs.YthflneagfnpfkaaDoor
