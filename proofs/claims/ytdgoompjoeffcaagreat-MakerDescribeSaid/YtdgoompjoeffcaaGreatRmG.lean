import Derived.Test.YtdgoompjoeffcaaGreatProg
import Derived.Test.YtdgoompjoeffcaaGreatPmY
import Derived.Test.YtdgoompjoeffcaaGreatRmE
import Derived.Test.YtdgoompjoeffcaaGreatMmT
/- What a tape means, the document's way: a place is remembered, the walk. -/
set_option linter.unusedSimpArgs false
set_option linter.unusedVariables false
set_option maxRecDepth 20000
open Go Go.Proofs
namespace Go.Proofs.YtdgoompjoeffcaaGreat
open Pm
attribute [local irreducible] Wait CallT CallW NextT Le Weak
def spotQ (w : Rk) (p : Pl) (r : AV) (h' : List (Option Blk)) : Prop := ∃ T, TabOk T (spotW w p).K ∧ r = .v (.int .i64 (kI (spotW w p).K p)) ∧ h' = rkE (spotW w p) T
theorem spot_old {w : Rk} {p : Pl} (h : p ∈ w.K) : spotW w p = w := if_pos h
theorem spot_new {w : Rk} {p : Pl} (h : p ∉ w.K) : spotW w p = { w with K := w.K ++ [p], S := w.S ++ [0], A := w.A ++ [false], R := w.R ++ [false] } := if_neg h
theorem kI_new {K : List Pl} {p : Pl} (hn : K.Nodup) (h : p ∉ K) : kI (K ++ [p]) p = K.length := by
  refine kI_at (List.nodup_append.2 ⟨hn, by simp, fun a ha b hb => ?_⟩) (by simp)
  simp only [List.mem_singleton] at hb
  subst hb
  exact fun e => h (e ▸ ha)
theorem mfa (K : List Pl) (x y : Int) : (K ++ [(x, y)]).map Prod.fst = K.map Prod.fst ++ [x] := by simp
theorem msa (K : List Pl) (x y : Int) : (K ++ [(x, y)]).map Prod.snd = K.map Prod.snd ++ [y] := by simp
theorem spot_con (w : Rk) (T : List Int) (hT : TabOk T w.K) (hw : RkOk w) (x y : Int) (hx : -90000 ≤ x ∧ x ≤ 90000) (hy : -90000 ≤ y ∧ y ≤ 90000) (hsz : w.at_.length < 1000000000) :
    Con Tryz.prog 32 [.ptr 0 16 0 0, .v (.int .i64 x), .v (.int .i64 y)] (rkS w T) (spotQ w (x, y)) := by
  have hlo := hT.lo
  have hpos := hT.tab.pos
  have hup := hT.up
  have hsm := hw.sm
  refine Con.move (con_run 1000 Tryz.func32 rfl Tryz.results32 Tryz.ntmps32 (Nat.le_of_ble_eq_true rfl) ?_)
  have e1 : IntKind.i64.wrap (2 * (w.K.length : Int)) = 2 * (w.K.length : Int) := wrap64 (by omega) (by omega)
  have hwS := hw.s
  have hwA := hw.a
  have hwR := hw.r
  by_cases hbig : T.length ≤ 2 * w.K.length
  · have hb1 : ((T.length : Int) ≤ 2 * (w.K.length : Int)) = True := eq_true (by omega)
    have e2 : IntKind.i64.wrap (2 * (T.length : Int)) = 2 * (T.length : Int) := wrap64 (by omega) (by omega)
    have e3 : IntKind.i64.wrap (2 * (T.length : Int) + 64) = ((2 * T.length + 64 : Nat) : Int) := by rw [wrap64 (by omega) (by omega)]; omega
    simp -implicitDefEqProofs only [go_sem, rkS, rkB, intB, longB, boolB, e1]
    (repeat' (first | exact trivial | contradiction | exact ⟨_, rfl⟩ | refine And.intro ?_ ?_ | (refine om ?_; omega)  | (refine wait_draw 1000 mixed (by decide +kernel) ?_; simp -implicitDefEqProofs only [go_sem , rkS, rkB, intB, longB, boolB, e1, e2, e3, hb1]) | intro _))
    refine call_con 0 [0, 1, 2, 3, 4, 5, 6, 7, 8, 9, 10, 11] (wide_con w T (2 * T.length + 64) (by omega) (by omega) hw.nd hw.b) ?_ ?_ (by simp) (by simp) rfl ?_
    · simp -implicitDefEqProofs only [go_sem]
    · simp -implicitDefEqProofs only [go_sem, rkS, rkB, intB, longB, boolB]
    rintro r hcal ⟨T1, hT1, hl1, hn1, rfl, rfl⟩
    refine ⟨by simp [rkN], ?_⟩
    have hTo : TabOk T1 w.K := ⟨hT1, fun h hh => hn1 h (by omega), by omega, by omega⟩
    obtain ⟨z, hz, hs, hold, hnew⟩ := slot_ok w T1 hTo hw x y hx hy
    simp only [rkR] at hs
    have hlt1 : (z < T1.length) = True := eq_true hz
    have hlt2 : ((z : Int) < (T1.length : Int)) = True := eq_true (by omega)
    have hlt3 : (z < (T1.set z (w.K.length : Int)).length) = True := by rw [List.length_set]; exact hlt1
    have hlt4 : ((z : Int) < ((T1.set z (w.K.length : Int)).length : Int)) = True := by rw [List.length_set]; exact hlt2
    have g0 := get_tA T1 z hz
    by_cases hm : (x, y) ∈ w.K
    · rw [hold hm] at g0
      obtain ⟨i, hi, hi2, -⟩ := kI_mem hm
      have hneg : (kI w.K (x, y) < 0) = False := eq_false (by omega)
      refine run_again 1000 ?_
      simp -implicitDefEqProofs only [go_sem, rkS, rkN, rkB, intB, longB, boolB, e1]
      (repeat' (first | exact trivial | contradiction | exact ⟨_, rfl⟩ | refine And.intro ?_ ?_ | (refine om ?_; omega) | (refine wait_draw 1000 mixed (by decide +kernel) ?_; simp -implicitDefEqProofs only [go_sem, rkS, rkN, rkB, intB, longB, boolB, e1, hb1, hlt1, hlt2, g0, hneg]) | ((first | refine call_eq_read 1000 (hs) ?_ ?_ ?_ rfl | refine call_draw_read 1000 (hs) ?_ ?_ ?_); (focus (simp -implicitDefEqProofs only [go_sem, rkS, rkN, rkB, intB, longB, boolB, e1, hb1, hlt1, hlt2, g0, hneg]; done)); (focus ((first | intro ext | skip); simp -implicitDefEqProofs only [go_sem, rkS, rkN, rkB, intB, longB, boolB, e1, hb1, hlt1, hlt2, g0, hneg]; done)); simp -implicitDefEqProofs only [go_sem, rkS, rkN, rkB, intB, longB, boolB, e1, hb1, hlt1, hlt2, g0, hneg]) | intro _))
      refine ⟨[0, 100, 101, 102, 103, 104, 105, 106, 107, 108, 109, 110, 12, 2, 3, 4, 5, 6, 7, 8, 9, 10, 11], by decide, rfl, T1, by rw [spot_old hm]; exact hTo, by rw [spot_old hm], ?_⟩
      rw [spot_old hm]
      simp -implicitDefEqProofs only [go_sem, rkE, rkB, intB, longB, boolB]
    · obtain ⟨hz1, hT2⟩ := hnew hm
      have hT2 := hT2 (by omega)
      rw [hz1] at g0
      have g1 : ((T1.set z (w.K.length : Int)).map iA).getD z .junk = .v (.int .i64 (w.K.length : Int)) := by
        rw [get_tA _ _ (by rw [List.length_set]; exact hz)]; simp [List.getD_eq_getElem?_getD, hz]
      refine run_again 1000 ?_
      simp -implicitDefEqProofs only [go_sem, rkS, rkN, rkB, intB, longB, boolB, e1]
      (repeat' (first | exact trivial | contradiction | exact ⟨_, rfl⟩ | refine And.intro ?_ ?_ | (refine om ?_; omega) | (refine wait_draw 1000 mixed (by decide +kernel) ?_; simp -implicitDefEqProofs only [go_sem, rkS, rkN, rkB, intB, longB, boolB, e1, hb1, hlt1, hlt2, hlt3, hlt4, g0, g1]) | ((first | refine call_eq_read 1000 (hs) ?_ ?_ ?_ rfl | refine call_draw_read 1000 (hs) ?_ ?_ ?_); (focus (simp -implicitDefEqProofs only [go_sem, rkS, rkN, rkB, intB, longB, boolB, e1, hb1, hlt1, hlt2, hlt3, hlt4, g0, g1]; done)); (focus ((first | intro ext | skip); simp -implicitDefEqProofs only [go_sem, rkS, rkN, rkB, intB, longB, boolB, e1, hb1, hlt1, hlt2, hlt3, hlt4, g0, g1]; done)); simp -implicitDefEqProofs only [go_sem, rkS, rkN, rkB, intB, longB, boolB, e1, hb1, hlt1, hlt2, hlt3, hlt4, g0, g1]) | intro _))
      all_goals (try exact hlt3.mpr trivial)
      all_goals (try omega)
      refine ⟨[0, 100, 101, 102, 103, 104, 105, 106, 107, 108, 109, 110, 12, 14, 16, 18, 20, 22, 7, 8, 9, 10, 11], by decide, rfl, T1.set z (w.K.length : Int), by rw [spot_new hm]; exact hT2, by rw [spot_new hm]; simp only [kI_new hw.nd hm], ?_⟩
      rw [spot_new hm]
      simp -implicitDefEqProofs only [go_sem, rkE, rkB, intB, longB, boolB, List.length_set, List.length_append, mfa, msa]
  · have hb1 : ((T.length : Int) ≤ 2 * (w.K.length : Int)) = False := eq_false (by omega)
    obtain ⟨z, hz, hs, hold, hnew⟩ := slot_ok w T hT hw x y hx hy
    simp only [rkR] at hs
    have hlt1 : (z < T.length) = True := eq_true hz
    have hlt2 : ((z : Int) < (T.length : Int)) = True := eq_true (by omega)
    have hlt3 : (z < (T.set z (w.K.length : Int)).length) = True := by rw [List.length_set]; exact hlt1
    have hlt4 : ((z : Int) < ((T.set z (w.K.length : Int)).length : Int)) = True := by rw [List.length_set]; exact hlt2
    have g0 := get_tA T z hz
    by_cases hm : (x, y) ∈ w.K
    · rw [hold hm] at g0
      obtain ⟨i, hi, hi2, -⟩ := kI_mem hm
      have hneg : (kI w.K (x, y) < 0) = False := eq_false (by omega)
      skip
      simp -implicitDefEqProofs only [go_sem, rkS, rkN, rkB, intB, longB, boolB, e1]
      (repeat' (first | exact trivial | contradiction | exact ⟨_, rfl⟩ | refine And.intro ?_ ?_ | (refine om ?_; omega) | (refine wait_draw 1000 mixed (by decide +kernel) ?_; simp -implicitDefEqProofs only [go_sem, rkS, rkN, rkB, intB, longB, boolB, e1, hb1, hlt1, hlt2, g0, hneg]) | ((first | refine call_eq_read 1000 (hs) ?_ ?_ ?_ rfl | refine call_draw_read 1000 (hs) ?_ ?_ ?_); (focus (simp -implicitDefEqProofs only [go_sem, rkS, rkN, rkB, intB, longB, boolB, e1, hb1, hlt1, hlt2, g0, hneg]; done)); (focus ((first | intro ext | skip); simp -implicitDefEqProofs only [go_sem, rkS, rkN, rkB, intB, longB, boolB, e1, hb1, hlt1, hlt2, g0, hneg]; done)); simp -implicitDefEqProofs only [go_sem, rkS, rkN, rkB, intB, longB, boolB, e1, hb1, hlt1, hlt2, g0, hneg]) | intro _))
      refine ⟨[0, 100, 101, 102, 103, 104, 105, 106, 107, 108, 109, 110, 1, 2, 3, 4, 5, 6, 7, 8, 9, 10, 11], by decide, rfl, T, by rw [spot_old hm]; exact hT, by rw [spot_old hm], ?_⟩
      rw [spot_old hm]
      simp -implicitDefEqProofs only [go_sem, rkE, rkB, intB, longB, boolB]
    · obtain ⟨hz1, hT2⟩ := hnew hm
      have hT2 := hT2 (by omega)
      rw [hz1] at g0
      have g1 : ((T.set z (w.K.length : Int)).map iA).getD z .junk = .v (.int .i64 (w.K.length : Int)) := by
        rw [get_tA _ _ (by rw [List.length_set]; exact hz)]; simp [List.getD_eq_getElem?_getD, hz]
      skip
      simp -implicitDefEqProofs only [go_sem, rkS, rkN, rkB, intB, longB, boolB, e1]
      (repeat' (first | exact trivial | contradiction | exact ⟨_, rfl⟩ | refine And.intro ?_ ?_ | (refine om ?_; omega) | (refine wait_draw 1000 mixed (by decide +kernel) ?_; simp -implicitDefEqProofs only [go_sem, rkS, rkN, rkB, intB, longB, boolB, e1, hb1, hlt1, hlt2, hlt3, hlt4, g0, g1]) | ((first | refine call_eq_read 1000 (hs) ?_ ?_ ?_ rfl | refine call_draw_read 1000 (hs) ?_ ?_ ?_); (focus (simp -implicitDefEqProofs only [go_sem, rkS, rkN, rkB, intB, longB, boolB, e1, hb1, hlt1, hlt2, hlt3, hlt4, g0, g1]; done)); (focus ((first | intro ext | skip); simp -implicitDefEqProofs only [go_sem, rkS, rkN, rkB, intB, longB, boolB, e1, hb1, hlt1, hlt2, hlt3, hlt4, g0, g1]; done)); simp -implicitDefEqProofs only [go_sem, rkS, rkN, rkB, intB, longB, boolB, e1, hb1, hlt1, hlt2, hlt3, hlt4, g0, g1]) | intro _))
      all_goals (try exact hlt3.mpr trivial)
      all_goals (try omega)
      refine ⟨[0, 100, 101, 102, 103, 104, 105, 106, 107, 108, 109, 110, 1, 13, 15, 17, 19, 21, 7, 8, 9, 10, 11], by decide, rfl, T.set z (w.K.length : Int), by rw [spot_new hm]; exact hT2, by rw [spot_new hm]; simp only [kI_new hw.nd hm], ?_⟩
      rw [spot_new hm]
      simp -implicitDefEqProofs only [go_sem, rkE, rkB, intB, longB, boolB, List.length_set, List.length_append, mfa, msa]
end Go.Proofs.YtdgoompjoeffcaaGreat
/- What a tape means, the document's way: one step ahead. -/
namespace Go.Proofs.YtdgoompjoeffcaaGreat
open Pm
attribute [local irreducible] Wait CallT CallW NextT Le Weak
def markW (w : Rk) (i : Nat) : Rk := if w.R.getD i false = true then { w with A := w.A.set i true } else { w with A := w.A.set i true, R := w.R.set i true, roads := w.roads + 1 }
theorem mark_con (w : Rk) (T : List Int) (i : Nat) (hA : i < w.A.length) (hR : i < w.R.length) (hr : 0 ≤ w.roads ∧ w.roads < 1000000000) :
    Con Tryz.prog 33 [.ptr 0 16 0 0, .v (.int .i64 (i : Int))] (rkS w T) fun r h' => r = .tup [] ∧ h' = rkS (markW w i) T := by
  refine con_run 1000 Tryz.func33 rfl Tryz.results33 Tryz.ntmps33 (Nat.le_of_ble_eq_true rfl) ?_
  have g1 := bl_get w.A i hA
  have g2 := bl_get w.R i hR
  have h1 : (i < w.A.length) = True := eq_true hA
  have h2 : (i < w.R.length) = True := eq_true hR
  have h3 : ((i : Int) < (w.A.length : Int)) = True := eq_true (by omega)
  have h4 : ((i : Int) < (w.R.length : Int)) = True := eq_true (by omega)
  have e1 : IntKind.i64.wrap (w.roads + 1) = w.roads + 1 := wrap64 (by omega) (by omega)
  simp -implicitDefEqProofs only [go_sem, rkS, rkB, intB, longB, boolB, g1, g2, h1, h2, h3, h4, e1]
  (repeat' (first | exact trivial | contradiction | exact ⟨_, rfl⟩ | refine And.intro ?_ ?_ | (refine om ?_; omega)  | (refine wait_draw 1000 mixed (by decide +kernel) ?_; simp -implicitDefEqProofs only [go_sem , rkS, rkB, intB, longB, boolB, g1, g2, h1, h2, h3, h4, e1]) | intro _))
  all_goals first
    | (rw [show markW w i = _ from if_neg (by rw [‹w.R.getD i false = false›]; decide)]; simp only [List.length_set]; done)
    | (rw [show markW w i = _ from if_pos ‹_›]; simp only [List.length_set]; done)
theorem mark_K (w : Rk) (i : Nat) : (markW w i).K = w.K := by unfold markW; split <;> rfl
def hereP (w : Rk) : Pl := w.K.getD w.here.toNat (0, 0)
/-- The walk between two steps. -/
structure RkIn (w : Rk) (n : Nat) : Prop where
  nd : w.K.Nodup
  s : w.S.length = w.K.length
  a : w.A.length = w.K.length
  r : w.R.length = w.K.length
  b : ∀ p ∈ w.K, near p
  kl : w.K.length ≤ n + 2
  h : 0 ≤ w.here ∧ w.here < w.K.length
  l : 0 ≤ w.look ∧ w.look < 4
  ro : 0 ≤ w.roads ∧ w.roads ≤ n + 2
  da : w.dir.length = w.at_.length
  al : w.at_.length ≤ n + 2
theorem RkIn.okk {w : Rk} {n : Nat} (h : RkIn w n) (hn : n < 50000000) : RkOk w := ⟨h.nd, h.s, h.a, h.r, fun p hp => by have := h.b p hp; unfold near at this; omega, by have := h.kl; omega⟩
theorem hereP_mem {w : Rk} (h : 0 ≤ w.here ∧ w.here < w.K.length) : hereP w ∈ w.K := by
  unfold hereP
  rw [List.getD_eq_getElem?_getD, List.getElem?_eq_getElem (by omega)]
  exact List.getElem_mem _
def pushW (w : Rk) (k : Nat) : Rk := { w with at_ := w.at_ ++ [w.here], dir := w.dir ++ [w.look], here := (k : Int) }
def longW (w : Rk) : Rk := { w with long := max w.long w.at_.length }
def rfwdR (w : Rk) : Int × Rk :=
  let p := onP (hereP w) w.look
  if p.1 < -4000 ∨ 4000 < p.1 ∨ p.2 < -4000 ∨ -1 < p.2 then (74, w)
  else
    let w1 := spotW w p
    let k := (kI w1.K p).toNat
    if w1.A.getD k false = true ∨ w1.S.getD k 0 ≠ 0 ∨ facedB w1.K w1.S p = true then (70, w1)
    else
      let w3 := longW (markW (pushW w1 k) k)
      if 65536 < w3.roads then (74, w3) else (0, w3)
theorem spot_len {w : Rk} {n : Nat} (hw : RkIn w n) {p : Pl} : (spotW w p).S.length = (spotW w p).K.length ∧ (spotW w p).A.length = (spotW w p).K.length ∧ (spotW w p).R.length = (spotW w p).K.length ∧ (spotW w p).K.Nodup ∧ p ∈ (spotW w p).K ∧ (spotW w p).K.length ≤ w.K.length + 1 := by
  by_cases hm : p ∈ w.K
  · rw [spot_old hm]; exact ⟨hw.s, hw.a, hw.r, hw.nd, hm, by omega⟩
  · rw [spot_new hm]
    have h1 := hw.s
    have h2 := hw.a
    have h3 := hw.r
    refine ⟨by simp [h1], by simp [h2], by simp [h3], List.nodup_append.2 ⟨hw.nd, by simp, fun a ha b hb => ?_⟩, by simp, by simp⟩
    simp only [List.mem_singleton] at hb
    subst hb
    exact fun e => hm (e ▸ ha)
theorem spot_same (w : Rk) (p : Pl) : (spotW w p).here = w.here ∧ (spotW w p).look = w.look ∧ (spotW w p).at_ = w.at_ ∧ (spotW w p).dir = w.dir ∧ (spotW w p).roads = w.roads ∧ (spotW w p).long = w.long ∧ (spotW w p).count = w.count := by
  unfold spotW; split <;> exact ⟨rfl, rfl, rfl, rfl, rfl, rfl, rfl⟩
theorem rforth_con (w : Rk) (T : List Int) (n : Nat) (hT : TabOk T w.K) (hw : RkIn w n) (hn : n < 50000000) :
    Con Tryz.prog 60 [.ptr 0 16 0 0] (rkS w T) fun r h' => ∃ e w' T', rfwdR w = (e, w') ∧ r = .v (.int .i64 e) ∧ h' = rkE w' T' ∧ (e = 0 → TabOk T' w'.K) := by
  have hkl := hw.kl
  have hh := hw.h
  have hok := hw.okk hn
  refine Con.move (con_run 1000 Tryz.func60 rfl Tryz.results60 Tryz.ntmps60 (Nat.le_of_ble_eq_true rfl) ?_)
  obtain ⟨a, b, hab⟩ : ∃ a b, onP (hereP w) w.look = (a, b) := ⟨_, _, rfl⟩
  have hnr := hw.b _ (hereP_mem hh)
  obtain ⟨hx, hy, hxy⟩ : ∃ hx hy, hereP w = (hx, hy) := ⟨_, _, rfl⟩
  rw [hxy] at hab hnr
  have hon := next_pc hx hy w.look hw.l.1 hw.l.2 (by unfold near at hnr; simp only at hnr; omega) (by unfold near at hnr; simp only at hnr; omega) (by unfold near at hnr; simp only at hnr; omega) (by unfold near at hnr; simp only at hnr; omega)
  rw [hab] at hon
  have gx := getD_iA (w.K.map Prod.fst) w.here.toNat (by simp; omega)
  have gy := getD_iA (w.K.map Prod.snd) w.here.toNat (by simp; omega)
  have hq : w.K.getD w.here.toNat (0, 0) = (hx, hy) := hxy
  rw [show (w.K.map Prod.fst).getD w.here.toNat 0 = hx by
    have := congrArg Prod.fst hq
    rw [List.getD_eq_getElem?_getD, List.getElem?_eq_getElem (by omega)] at this
    simpa [List.getD_eq_getElem?_getD, List.getElem?_eq_getElem (show w.here.toNat < w.K.length by omega)] using this] at gx
  rw [show (w.K.map Prod.snd).getD w.here.toNat 0 = hy by
    have := congrArg Prod.snd hq
    rw [List.getD_eq_getElem?_getD, List.getElem?_eq_getElem (by omega)] at this
    simpa [List.getD_eq_getElem?_getD, List.getElem?_eq_getElem (show w.here.toNat < w.K.length by omega)] using this] at gy
  simp only [iA] at gx gy
  have f1 : (0 ≤ w.here) = True := eq_true hh.1
  have f2 : (w.here < (w.K.length : Int)) = True := eq_true hh.2
  have f3 : (w.here < 0) = False := eq_false (by omega)
  simp -implicitDefEqProofs only [go_sem, rkS, rkB, intB, longB, boolB, gx, gy, f1, f2]
  (repeat' (first | exact trivial | contradiction | exact ⟨_, rfl⟩ | refine And.intro ?_ ?_ | (refine om ?_; omega) | (refine wait_draw 1000 mixed (by decide +kernel) ?_; simp -implicitDefEqProofs only [go_sem, rkS, rkB, intB, longB, boolB, gx, gy, f1, f2]) | ((first | refine call_eq 1000 (hon) ?_ ?_ rfl | refine call_draw 1000 (hon) ?_ ?_); (focus (simp -implicitDefEqProofs only [go_sem, rkS, rkB, intB, longB, boolB, gx, gy, f1, f2]; done)); simp -implicitDefEqProofs only [go_sem, rkS, rkB, intB, longB, boolB, gx, gy, f1, f2]) | intro _))
  case' refine_2.refine_2.refine_2.refine_1.refine_1.refine_1.refine_2 =>
    have hr1 : ¬ (a < -4000 ∨ 4000 < a ∨ b < -4000 ∨ -1 < b) := by omega
    refine call_con 0 [0, 1, 2, 3, 4, 5, 6, 7, 8, 9, 10, 11] (spot_con w T hT hok a b (by omega) (by omega) (by have := hw.al; omega)) ?_ ?_ (by simp) (by simp) rfl ?_
    · simp -implicitDefEqProofs only [go_sem]
    · simp -implicitDefEqProofs only [go_sem, rkS, rkB, intB, longB, boolB]
    rintro r hcal ⟨T1, hT1, rfl, rfl⟩
    refine ⟨by simp [rkE], ?_⟩
    obtain ⟨hS1, hA1, hR1, hnd1, hmem1, hkl1⟩ := spot_len hw (p := (a, b))
    obtain ⟨hsm1, hsm2, hsm3, hsm4, hsm5, hsm6, hsm7⟩ := spot_same w (a, b)
    obtain ⟨k, hk, hkl2, -⟩ := kI_mem hmem1
    have hr : rfwdR w = (if (spotW w (a, b)).A.getD k false = true ∨ (spotW w (a, b)).S.getD k 0 ≠ 0 ∨ facedB (spotW w (a, b)).K (spotW w (a, b)).S (a, b) = true then (70, spotW w (a, b))
        else if 65536 < (longW (markW (pushW (spotW w (a, b)) k) k)).roads then (74, longW (markW (pushW (spotW w (a, b)) k) k)) else (0, longW (markW (pushW (spotW w (a, b)) k) k))) := by
      unfold rfwdR
      rw [hxy, hab]
      simp only [hk, Int.toNat_natCast]
      rw [if_neg hr1]
    rw [hr]
    have hro := hw.ro
    have hal := hw.al
    have hda := hw.da
    generalize spotW w (a, b) = w1 at *
    have hal1 : w1.at_.length ≤ n + 2 := by rw [hsm3]; exact hal
    have hdl1 : w1.dir.length ≤ n + 2 := by rw [hsm4, hda]; exact hal
    rw [hk]
    have gA := bl_get w1.A k (by omega)
    have gS := get_tA w1.S k (by omega)
    have b1 : (k < w1.A.length) = True := eq_true (by omega)
    have b2 : ((k : Int) < (w1.A.length : Int)) = True := eq_true (by omega)
    have b3 : (k < w1.S.length) = True := eq_true (by omega)
    have b4 : ((k : Int) < (w1.S.length : Int)) = True := eq_true (by omega)
    have hfc := faced_pc T1 w1.K w1.S a b [.fsl 1 (w1.A.map bA), .fsl 1 (w1.R.map bA), .fsl 1 (w1.at_.map iA), .fsl 1 (w1.dir.map iA), .v (.int .i64 w1.here), .v (.int .i64 w1.look), .v (.int .i64 w1.count), .v (.int .i64 w1.long), .v (.int .i64 w1.roads),
      .fsl 1 (w1.arms.map iA), .fsl 1 (w1.acts.map iA), .fsl 1 (w1.wr.map bA)] hT1.tab hnd1 (by have := hT1.up; omega) (by omega) (by omega) (fun f => by simp only [renL_cons, renL_nil, ren_fsl, ren_v, renL_iA, bl_ren]) hT1.neg hS1
    simp only [xsA, ysA] at hfc
    have hm := mark_con (pushW w1 k) T1 k (by show k < w1.A.length; omega) (by show k < w1.R.length; omega) (by show 0 ≤ w1.roads ∧ w1.roads < 1000000000; omega)
    refine run_again 1000 ?_
    simp -implicitDefEqProofs only [go_sem, rkE, rkB, intB, longB, boolB, gA, gS, b1, b2, b3, b4]
    (repeat' (first | exact trivial | contradiction | exact ⟨_, rfl⟩ | refine And.intro ?_ ?_ | (refine om ?_; omega) | ((first | refine wait_draw 1000 mixed (by decide +kernel) ?_ | refine wait_drawV (fun id => id == 18 || id == 18 + killK || id == 19 || id == 19 + killK || id == lastK) 1000 mixed (by decide +kernel) ?_); simp -implicitDefEqProofs only [go_sem, rkS, rkE, rkB, intB, longB, boolB, gA, gS, b1, b2, b3, b4, pushW, List.length_append, mnmx_max]) | ((first | refine call_con_eq 1000 [0, 12, 13, 14, 15, 16, 17, 24, 26, 20, 21, 22] (hm) ?_ ?_ ?_ | refine call_draw_con 1000 [0, 12, 13, 14, 15, 16, 17, 24, 26, 20, 21, 22] (hm) (by decide +kernel) ?_ ?_ ?_); (focus (simp -implicitDefEqProofs only [go_sem, rkS, rkE, rkB, intB, longB, boolB, gA, gS, b1, b2, b3, b4, pushW, List.length_append, mnmx_max]; done)); (focus (simp -implicitDefEqProofs only [go_sem, rkS, rkE, rkB, intB, longB, boolB, gA, gS, b1, b2, b3, b4, pushW, List.length_append, mnmx_max]; done)); simp -implicitDefEqProofs only [go_sem, rkS, rkE, rkB, intB, longB, boolB, gA, gS, b1, b2, b3, b4, pushW, List.length_append, mnmx_max]) | ((first | refine call_eq_read 1000 (hfc) ?_ ?_ ?_ rfl | refine call_draw_read 1000 (hfc) ?_ ?_ ?_); (focus (simp -implicitDefEqProofs only [go_sem, rkS, rkE, rkB, intB, longB, boolB, gA, gS, b1, b2, b3, b4, pushW, List.length_append, mnmx_max]; done)); (focus ((first | intro ext | skip); simp -implicitDefEqProofs only [go_sem, rkS, rkE, rkB, intB, longB, boolB, gA, gS, b1, b2, b3, b4, pushW, List.length_append, mnmx_max]; done)); simp -implicitDefEqProofs only [go_sem, rkS, rkE, rkB, intB, longB, boolB, gA, gS, b1, b2, b3, b4, pushW, List.length_append, mnmx_max]) | intro _))
    all_goals first
      | omega
      | (have h2 : w1.A.getD k false = true ∨ w1.S.getD k 0 ≠ 0 ∨ facedB w1.K w1.S (a, b) = true := by first | exact .inl ‹_› | exact .inr (.inl ‹_›) | exact .inr (.inr ‹_›)
         refine ⟨[0, 1, 2, 3, 4, 5, 6, 7, 8, 9, 10, 11, 12, 13, 14, 15, 16, 17, 18, 19, 20, 21, 22], by decide, rfl, 70, w1, T1, if_pos h2, rfl, ?_, fun h => by omega⟩
         simp -implicitDefEqProofs only [go_sem, rkE, rkB, intB, longB, boolB])
      | (have h2 : ¬ (w1.A.getD k false = true ∨ w1.S.getD k 0 ≠ 0 ∨ facedB w1.K w1.S (a, b) = true) := by
           rintro (h | h | h)
           · rw [‹w1.A.getD k false = false›] at h; cases h
           · exact h ‹_›
           · rw [‹facedB w1.K w1.S (a, b) = false›] at h; cases h
         refine ⟨[0, 100, 101, 102, 103, 104, 105, 106, 107, 108, 109, 110, 12, 13, 14, 15, 16, 17, 24, 26, 20, 21, 22], by decide, rfl, 74, _, T1, (if_neg h2).trans (if_pos ‹_›), rfl, ?_, fun h => by omega⟩
         simp -implicitDefEqProofs only [go_sem, rkE, rkB, intB, longB, boolB, longW, pushW])
      | (have h2 : ¬ (w1.A.getD k false = true ∨ w1.S.getD k 0 ≠ 0 ∨ facedB w1.K w1.S (a, b) = true) := by
           rintro (h | h | h)
           · rw [‹w1.A.getD k false = false›] at h; cases h
           · exact h ‹_›
           · rw [‹facedB w1.K w1.S (a, b) = false›] at h; cases h
         refine ⟨[0, 100, 101, 102, 103, 104, 105, 106, 107, 108, 109, 110, 12, 13, 14, 15, 16, 17, 24, 26, 20, 21, 22], by decide, rfl, 0, _, T1, (if_neg h2).trans (if_neg ‹_›), rfl, ?_, fun _ => ?_⟩
         · simp -implicitDefEqProofs only [go_sem, rkE, rkB, intB, longB, boolB, longW, pushW]
         · have hmk : (longW (markW (pushW w1 k) k)).K = w1.K := mark_K _ _
           exact hmk.symm ▸ hT1)
  all_goals
    refine ⟨[0, 100, 101, 102, 103, 104, 105, 106, 107, 108, 109, 110, 1, 2, 3, 4, 5, 6, 7, 8, 9, 10, 11], by decide, rfl, 74, w, T, by unfold rfwdR; rw [hxy, hab]; exact if_pos (by omega), rfl, ?_, fun h => by omega⟩
    simp -implicitDefEqProofs only [go_sem, rkE, rkB, intB, longB, boolB]
end Go.Proofs.YtdgoompjoeffcaaGreat
