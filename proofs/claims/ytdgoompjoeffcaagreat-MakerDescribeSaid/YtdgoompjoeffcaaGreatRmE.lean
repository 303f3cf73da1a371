import Derived.Test.YtdgoompjoeffcaaGreatProg
import Derived.Test.YtdgoompjoeffcaaGreatPmY
import Derived.Test.YtdgoompjoeffcaaGreatRmC
/- What a tape means, the document's way: the walk's state; the table made wide. -/
set_option linter.unusedSimpArgs false
set_option linter.unusedVariables false
set_option maxRecDepth 20000
open Go Go.Proofs
namespace Go.Proofs.YtdgoompjoeffcaaGreat
open Pm
attribute [local irreducible] Wait CallT CallW NextT Le Weak
theorem fyL_iA (h : List (Option Blk)) (t : List Int) : fyL h (t.map iA) = t.map iA := by rw [fyL_eq, List.map_map]; exact List.map_congr_left fun p _ => by simp [iA, fy_v]
theorem bl_ren (f : Nat → Option Nat) (t : List Bool) : AV.renL f (t.map bA) = t.map bA := by rw [AV.renL_eq, List.map_map]; exact List.map_congr_left fun p _ => by simp [bA, AV.ren]
theorem bl_fy (h : List (Option Blk)) (t : List Bool) : fyL h (t.map bA) = t.map bA := by rw [fyL_eq, List.map_map]; exact List.map_congr_left fun p _ => by simp [bA, fy_v]
theorem bl_get (t : List Bool) (k : Nat) (h : k < t.length) : (t.map bA).getD k .junk = .v (.bool (t.getD k false)) := by simp [List.getD_eq_getElem?_getD, h, bA]
theorem bl_set (l : List Bool) (c : Nat) (v : Bool) : (l.map bA).set c (.v (.bool v)) = (l.set c v).map bA := by rw [List.map_set]; rfl
theorem bl_app (l : List Bool) (v : Bool) : l.map bA ++ [.v (.bool v)] = (l ++ [v]).map bA := by simp [bA]
theorem il_app (l : List Int) (v : Int) : l.map iA ++ [.v (.int .i64 v)] = (l ++ [v]).map iA := by simp [iA]
theorem il_take (l : List Int) : (l.map iA).take l.length = l.map iA := List.take_of_length_le (by simp)
theorem bl_take (l : List Bool) : (l.map bA).take l.length = l.map bA := List.take_of_length_le (by simp)
theorem il_set (l : List Int) (c : Nat) (v : Int) : (l.map iA).set c (.v (.int .i64 v)) = (l.set c v).map iA := put_iA l c v
theorem x_take (K : List Pl) : ((K.map Prod.fst).map iA).take K.length = (K.map Prod.fst).map iA := List.take_of_length_le (by simp)
theorem y_take (K : List Pl) : ((K.map Prod.snd).map iA).take K.length = (K.map Prod.snd).map iA := List.take_of_length_le (by simp)
attribute [go_sem] renL_iA fyL_iA bl_ren bl_fy bl_app il_app il_take bl_take il_set bl_set x_take y_take
/-- The document's walk. -/
structure Rk where
  K : List Pl
  S : List Int
  A : List Bool
  R : List Bool
  at_ : List Int
  dir : List Int
  here : Int
  look : Int
  count : Int
  long : Int
  roads : Int
  arms : List Int
  acts : List Int
  wr : List Bool
  deriving Inhabited
def rkB (o : Nat) (w : Rk) (n : Nat) : Option Blk := some (.row 50 16 [.agg [.sl (o + 1) 1 0 n, .sl (o + 2) 1 0 w.K.length, .sl (o + 3) 1 0 w.K.length, .sl (o + 4) 1 0 w.S.length, .sl (o + 5) 1 0 w.A.length, .sl (o + 6) 1 0 w.R.length,
  .sl (o + 7) 1 0 w.at_.length, .sl (o + 8) 1 0 w.dir.length, .v (.int .i64 w.here), .v (.int .i64 w.look), .v (.int .i64 w.count), .v (.int .i64 w.long), .v (.int .i64 w.roads),
  .sl (o + 9) 1 0 w.arms.length, .sl (o + 10) 1 0 w.acts.length, .sl (o + 11) 1 0 w.wr.length]])
def intB (l : List Int) : Option Blk := some (.row 3 1 (l.map iA))
def longB (l : List Int) : Option Blk := some (.row 2 1 (l.map iA))
def boolB (l : List Bool) : Option Blk := some (.row 4 1 (l.map bA))
def rkS (w : Rk) (T : List Int) : List (Option Blk) := [rkB 0 w T.length, intB T, longB (w.K.map Prod.fst), longB (w.K.map Prod.snd), intB w.S, boolB w.A, boolB w.R, intB w.at_, intB w.dir, intB w.arms, intB w.acts, boolB w.wr]
/-- The same, all moved. -/
def rkE (w : Rk) (T : List Int) : List (Option Blk) := [rkB 11 w T.length, none, none, none, none, none, none, none, none, none, none, none, intB T, longB (w.K.map Prod.fst), longB (w.K.map Prod.snd), intB w.S, boolB w.A, boolB w.R, intB w.at_, intB w.dir, intB w.arms, intB w.acts, boolB w.wr]
/-- With a table that was just made. -/
def rkN (w : Rk) (T0 T : List Int) : List (Option Blk) := [some (.row 50 16 [.agg [.sl 12 1 0 T.length, .sl 2 1 0 w.K.length, .sl 3 1 0 w.K.length, .sl 4 1 0 w.S.length, .sl 5 1 0 w.A.length, .sl 6 1 0 w.R.length,
  .sl 7 1 0 w.at_.length, .sl 8 1 0 w.dir.length, .v (.int .i64 w.here), .v (.int .i64 w.look), .v (.int .i64 w.count), .v (.int .i64 w.long), .v (.int .i64 w.roads),
  .sl 9 1 0 w.arms.length, .sl 10 1 0 w.acts.length, .sl 11 1 0 w.wr.length]]), intB T0, longB (w.K.map Prod.fst), longB (w.K.map Prod.snd), intB w.S, boolB w.A, boolB w.R, intB w.at_, intB w.dir, intB w.arms, intB w.acts, boolB w.wr, intB T]
def fillL (n k : Nat) : List Int := List.replicate k (-1) ++ List.replicate (n - k) 0
theorem fillL_len {n k : Nat} (h : k ≤ n) : (fillL n k).length = n := by simp [fillL]; omega
theorem fillL_set {n k : Nat} (h : k < n) : (fillL n k).set k (-1) = fillL n (k + 1) := by
  unfold fillL
  rw [List.set_append_right _ _ (by simp), List.length_replicate, Nat.sub_self]
  obtain ⟨m, hm⟩ : ∃ m, n - k = m + 1 := ⟨n - k - 1, by omega⟩
  rw [hm, List.replicate_succ, List.set_cons_zero, show n - (k + 1) = m by omega, List.replicate_succ', List.append_assoc]
  rfl
theorem occ_nn {T X Y : List Int} {x y : Int} {h : Nat} (ho : occ T X Y x y h = true) : 0 ≤ T.getD h 0 := by
  simp only [occ, Bool.and_eq_true, decide_eq_true_eq] at ho; exact ho.1
theorem wide_con (w : Rk) (T0 : List Int) (n : Nat) (hn : w.K.length + 1 < n) (hn' : n < 1000000000) (hK : w.K.Nodup) (hb : ∀ p ∈ w.K, (-90000 ≤ p.1 ∧ p.1 ≤ 90000) ∧ (-90000 ≤ p.2 ∧ p.2 ≤ 90000)) :
    Con Tryz.prog 57 [.ptr 0 16 0 0, .v (.int .i64 (n : Int))] (rkS w T0)
      fun r h' => ∃ T, Tab T w.K w.K.length ∧ T.length = n ∧ (∀ h, h < n → -1 ≤ T.getD h 0) ∧ r = .tup [] ∧ h' = rkN w T0 T := by
  refine con_run 1000 Tryz.func57 rfl Tryz.results57 Tryz.ntmps57 (Nat.le_of_ble_eq_true rfl) ?_
  simp -implicitDefEqProofs only [go_sem, rkS, rkB, intB, longB, boolB]
  (repeat' (first | exact trivial | contradiction | exact ⟨_, rfl⟩ | refine And.intro ?_ ?_ | (refine om ?_; omega)  | (refine wait_draw 1000 mixed (by decide +kernel) ?_; simp -implicitDefEqProofs only [go_sem , rkS, rkB, intB, longB, boolB]) | intro _))
  have hrep : List.replicate n (AV.v (Value.int IntKind.i64 0)) = (fillL n 0).map iA := by simp [fillL, iA]
  have hl : ∀ k, k ≤ n → (fillL n k).length = n := fun k hk => fillL_len hk
  refine wait_range n (fun k => ⟨53, 12, [(0, .ptr 0 16 0 0), (1, .v (.int .i64 (n : Int))), (4, .v (.int .i64 (k : Int)))], rkN w T0 (fillL n k)⟩) (fun _ => True)
    (weak_to' [0, 1, 4] [0, 1, 2, 3, 4, 5, 6, 7, 8, 9, 10, 11, 12] ?_ (by decide) (stay_of rfl)) trivial ?_
  · simp -implicitDefEqProofs only [go_sem, St.keep, rkN, intB, longB, boolB, hrep, hl 0 (Nat.zero_le _), Int.natCast_zero]
  intro k hk _
  refine run_sound 1000 _ _ ?_
  have hlk := hl k hk
  by_cases hkn : k < n
  · have hlt : ((k : Int) < (n : Int)) = True := eq_true (by omega)
    have hlt2 : (k < n) = True := eq_true hkn
    have hlk1 := hl (k + 1) hkn
    have hset := fillL_set hkn
    have g0 := get_tA (fillL n k) k (by omega)
    have hw1 : IntKind.i64.wrap ((k : Int) + 1) = ((k + 1 : Nat) : Int) := by rw [wrap64 (by omega) (by omega)]; omega
    simp -implicitDefEqProofs only [go_sem, rkN, intB, longB, boolB, hlt, hlk, hlt2, g0]
    (repeat' (first | exact trivial | contradiction | exact ⟨_, rfl⟩ | refine And.intro ?_ ?_ | (refine om ?_; omega)  | (refine wait_draw 1000 mixed (by decide +kernel) ?_; simp -implicitDefEqProofs only [go_sem , rkN, intB, longB, boolB, hlt, hlk, hlt2, g0]) | intro _))
    refine weak_to' [0, 1, 4] [0, 1, 2, 3, 4, 5, 6, 7, 8, 9, 10, 11, 12] ?_ (by decide) (stay_of rfl)
    simp -implicitDefEqProofs only [go_sem, St.keep, intB, longB, boolB, hlk1, hset, hw1]
  · have hlt : ((k : Int) < (n : Int)) = False := eq_false (by omega)
    have hkn2 : k = n := by omega
    subst hkn2
    simp -implicitDefEqProofs only [go_sem, rkN, intB, longB, boolB, hlt, hlk]
    have hfn : fillL k k = List.replicate k (-1) := by simp [fillL]
    refine wait_data (fun p : Nat × List Int => ⟨53, 12, [(0, .ptr 0 16 0 0), (5, .v (.int .i64 (p.1 : Int)))], rkN w T0 p.2⟩) (fun p => p.1 ≤ w.K.length ∧ Tab p.2 w.K p.1 ∧ p.2.length = k ∧ ∀ h, h < k → -1 ≤ p.2.getD h 0) (fun p => w.K.length - p.1) (0, fillL k k)
      (weak_to' [0, 5] [0, 1, 2, 3, 4, 5, 6, 7, 8, 9, 10, 11, 12] ?_ (by decide) (stay_of rfl)) ⟨Nat.zero_le _, by rw [hfn]; exact Tab.new (by omega) _, hlk, fun h hh => by rw [hfn]; simp [List.getD_eq_getElem?_getD, hh]⟩ ?_
    · simp -implicitDefEqProofs only [go_sem, St.keep, rkN, intB, longB, boolB, hlk, Int.natCast_zero]
    rintro ⟨i, T⟩ ⟨hi, hT, hTl, hTn⟩
    simp only at hi hT hTl hTn
    refine run_sound 1000 _ _ ?_
    by_cases hiK : i < w.K.length
    · have hlt3 : ((i : Int) < (w.K.length : Int)) = True := eq_true (by omega)
      have hw1 : IntKind.i64.wrap ((i : Int) + 1) = ((i + 1 : Nat) : Int) := by rw [wrap64 (by omega) (by omega)]; omega
      obtain ⟨p, hp⟩ : ∃ p, p = w.K.getD i (0, 0) := ⟨_, rfl⟩
      have hpm : p ∈ w.K := by
        rw [hp, List.getD_eq_getElem?_getD, List.getElem?_eq_getElem hiK]; exact List.getElem_mem hiK
      have hpb := hb p hpm
      have gx := getD_iA (w.K.map Prod.fst) i (by simpa using hiK)
      have gy := getD_iA (w.K.map Prod.snd) i (by simpa using hiK)
      rw [show (w.K.map Prod.fst).getD i 0 = p.1 by rw [hp]; simp [List.getD_eq_getElem?_getD, hiK]] at gx
      rw [show (w.K.map Prod.snd).getD i 0 = p.2 by rw [hp]; simp [List.getD_eq_getElem?_getD, hiK]] at gy
      simp only [iA] at gx gy
      obtain ⟨d, h1, h2, h3, h4⟩ := hT.find hi hK p.1 p.2
      have hnot : (p.1, p.2) ∉ w.K.take i := by
        intro hm
        obtain ⟨j, hj, hjk⟩ := List.getElem_of_mem hm
        rw [List.length_take] at hj
        rw [List.getElem_take] at hjk
        have hpi : w.K[i] = p := by rw [hp, List.getD_eq_getElem?_getD, List.getElem?_eq_getElem hiK]; rfl
        have := (List.getElem_inj hK).1 (hjk.trans hpi.symm)
        omega
      have hneg := h4 hnot
      have hs := slot_pc T (w.K.map Prod.fst) (w.K.map Prod.snd) p.1 p.2 [.fsl 1 (w.S.map iA), .fsl 1 (w.A.map bA), .fsl 1 (w.R.map bA), .fsl 1 (w.at_.map iA), .fsl 1 (w.dir.map iA), .v (.int .i64 w.here), .v (.int .i64 w.look), .v (.int .i64 w.count), .v (.int .i64 w.long), .v (.int .i64 w.roads),
        .fsl 1 (w.arms.map iA), .fsl 1 (w.acts.map iA), .fsl 1 (w.wr.map bA)] d (by omega) (by omega) (by omega) (by omega) (by simp) (by simp; omega) (fun f => by simp only [renL_cons, renL_nil, ren_fsl, ren_v, renL_iA, bl_ren]) (fun e _ => by
          rcases hT.rng _ (Nat.mod_lt (hash0 p.1 p.2 T.length + e) (show 0 < T.length by omega)) with h | h
          · rw [List.length_map]; omega
          · rw [List.length_map]; omega) h1 h2
      obtain ⟨z, hz⟩ : ∃ z, z = (hash0 p.1 p.2 T.length + d) % T.length := ⟨_, rfl⟩
      rw [← hz] at hs hneg
      have hzl : z < T.length := by rw [hz]; exact Nat.mod_lt _ (by omega)
      have g0 := get_tA T z hzl
      have hlt4 : (z < T.length) = True := eq_true hzl
      have hlt5 : ((z : Int) < (T.length : Int)) = True := eq_true (by omega)
      simp -implicitDefEqProofs only [go_sem, rkN, intB, longB, boolB, hlt3, gx, gy]
      (repeat' (first | exact trivial | contradiction | exact ⟨_, rfl⟩ | refine And.intro ?_ ?_ | (refine om ?_; omega) | (refine wait_draw 1000 mixed (by decide +kernel) ?_; simp -implicitDefEqProofs only [go_sem, rkN, intB, longB, boolB, hlt3, gx, gy, hlt4, hlt5, g0]) | ((first | refine call_eq_read 1000 (hs) ?_ ?_ ?_ rfl | refine call_draw_read 1000 (hs) ?_ ?_ ?_); (focus (simp -implicitDefEqProofs only [go_sem, rkN, intB, longB, boolB, hlt3, gx, gy, hlt4, hlt5, g0]; done)); (focus ((first | intro ext | skip); simp -implicitDefEqProofs only [go_sem, rkN, intB, longB, boolB, hlt3, gx, gy, hlt4, hlt5, g0]; done)); simp -implicitDefEqProofs only [go_sem, rkN, intB, longB, boolB, hlt3, gx, gy, hlt4, hlt5, g0]) | intro _))
      have hput := hT.put hiK (by omega) (d := d) (by rw [← hp]; exact fun e he => occ_nn (h1 e he)) (by rw [← hp, ← hz]; exact hneg)
      rw [← hp, ← hz] at hput
      refine ⟨(i + 1, T.set z (i : Int)), ?_, ⟨?_, hput, by simp [hTl], fun h hh => ?_⟩, ?_⟩
      · show w.K.length - (i + 1) < w.K.length - i; omega
      · show i + 1 ≤ w.K.length; omega
      · show -1 ≤ (T.set z (i : Int)).getD h 0
        have := hTn h hh
        rw [List.getD_eq_getElem?_getD] at this
        rw [List.getD_eq_getElem?_getD]
        by_cases e : z = h
        · subst e; rw [List.getElem?_set_self hzl, Option.getD_some]; omega
        · rw [List.getElem?_set_ne e]; exact this
      · refine weak_to' [0, 5] [0, 1, 2, 3, 4, 5, 6, 7, 8, 9, 10, 11, 12] ?_ (by decide) (stay_of rfl)
        simp -implicitDefEqProofs only [go_sem, St.keep, intB, longB, boolB, hw1, List.length_set]
    · have hlt3 : ((i : Int) < (w.K.length : Int)) = False := eq_false (by omega)
      have hiK2 : i = w.K.length := by omega
      subst hiK2
      simp -implicitDefEqProofs only [go_sem, rkN, intB, longB, boolB, hlt3]
      exact ⟨T, hT, hTl, hTn, rfl⟩
end Go.Proofs.YtdgoompjoeffcaaGreat
/- What a tape means, the document's way: a place is remembered. -/
namespace Go.Proofs.YtdgoompjoeffcaaGreat
open Pm
attribute [local irreducible] Wait CallT CallW NextT Le Weak
structure TabOk (T : List Int) (K : List Pl) : Prop where
  tab : Tab T K K.length
  neg : ∀ h, h < T.length → -1 ≤ T.getD h 0
  up : T.length ≤ 4 * K.length + 64
  lo : 64 ≤ T.length
/-- Places and what is told of them. -/
structure RkOk (w : Rk) : Prop where
  nd : w.K.Nodup
  s : w.S.length = w.K.length
  a : w.A.length = w.K.length
  r : w.R.length = w.K.length
  b : ∀ p ∈ w.K, (-90000 ≤ p.1 ∧ p.1 ≤ 90000) ∧ (-90000 ≤ p.2 ∧ p.2 ≤ 90000)
  sm : w.K.length < 100000000
def spotW (w : Rk) (p : Pl) : Rk := if p ∈ w.K then w else { w with K := w.K ++ [p], S := w.S ++ [0], A := w.A ++ [false], R := w.R ++ [false] }
theorem Tab.snoc {T : List Int} {K : List Pl} {m : Nat} (h : Tab T K m) (hm : m ≤ K.length) (p : Pl) : Tab T (K ++ [p]) m := by
  refine ⟨h.pos, h.rng, fun i hi => ?_, h.cnt⟩
  have e : (K ++ [p]).getD i (0, 0) = K.getD i (0, 0) := by
    rw [List.getD_eq_getElem?_getD, List.getElem?_append_left (by omega), List.getD_eq_getElem?_getD]
  rw [e]
  exact h.chain i hi
/-- Where a new place is put. -/
theorem TabOk.add {T : List Int} {w : Rk} (h : TabOk T w.K) (hw : RkOk w) (h2 : 2 * w.K.length < T.length) {p : Pl} (hp : p ∉ w.K) {d : Nat}
    (ho : ∀ e, e < d → occ T (w.K.map Prod.fst) (w.K.map Prod.snd) p.1 p.2 ((hash0 p.1 p.2 T.length + e) % T.length) = true) (hd : T.getD ((hash0 p.1 p.2 T.length + d) % T.length) 0 < 0) :
    TabOk (T.set ((hash0 p.1 p.2 T.length + d) % T.length) (w.K.length : Int)) (w.K ++ [p]) := by
  have hlo := h.lo
  have e : (w.K ++ [p]).getD w.K.length (0, 0) = p := by simp [List.getD_eq_getElem?_getD]
  have ht := (h.tab.snoc (Nat.le_refl _) p).put (by simp) (by omega) (d := d) (by rw [e]; exact fun e' he => occ_nn (ho e' he)) (by rw [e]; exact hd)
  rw [e] at ht
  refine ⟨by rw [List.length_append, List.length_singleton]; exact ht, fun i hi => ?_, by have := h.up; simp only [List.length_set, List.length_append, List.length_singleton]; omega, by rw [List.length_set]; exact hlo⟩
  rw [List.length_set] at hi
  have hn := h.neg i hi
  rw [List.getD_eq_getElem?_getD] at hn
  rw [List.getD_eq_getElem?_getD]
  obtain ⟨z, hz⟩ : ∃ z, z = (hash0 p.1 p.2 T.length + d) % T.length := ⟨_, rfl⟩
  rw [← hz]
  have hzl : z < T.length := by rw [hz]; exact Nat.mod_lt _ (by omega)
  by_cases e : z = i
  · subst e; rw [List.getElem?_set_self hzl, Option.getD_some]; omega
  · rw [List.getElem?_set_ne e]; exact hn
/-- The fields behind the first three, told whole. -/
def rkR (w : Rk) : List AV := [.fsl 1 (w.S.map iA), .fsl 1 (w.A.map bA), .fsl 1 (w.R.map bA), .fsl 1 (w.at_.map iA), .fsl 1 (w.dir.map iA), .v (.int .i64 w.here), .v (.int .i64 w.look), .v (.int .i64 w.count), .v (.int .i64 w.long), .v (.int .i64 w.roads),
  .fsl 1 (w.arms.map iA), .fsl 1 (w.acts.map iA), .fsl 1 (w.wr.map bA)]
theorem rkR_ren (w : Rk) (f : Nat → Option Nat) : AV.renL f (rkR w) = rkR w := by simp only [rkR, renL_cons, renL_nil, ren_fsl, ren_v, renL_iA, bl_ren]
/-- slot, where the table is right. -/
theorem slot_ok (w : Rk) (T : List Int) (hT : TabOk T w.K) (hw : RkOk w) (x y : Int) (hx : -90000 ≤ x ∧ x ≤ 90000) (hy : -90000 ≤ y ∧ y ≤ 90000) :
    ∃ z, z < T.length ∧ PCon Tryz.prog 58 [.fptr (.fsl 1 (T.map iA) :: .fsl 1 ((w.K.map Prod.fst).map iA) :: .fsl 1 ((w.K.map Prod.snd).map iA) :: rkR w), .v (.int .i64 x), .v (.int .i64 y)] (· = .v (.int .i64 (z : Int))) ∧
      ((x, y) ∈ w.K → T.getD z 0 = kI w.K (x, y)) ∧ ((x, y) ∉ w.K → T.getD z 0 = -1 ∧ (2 * w.K.length < T.length → TabOk (T.set z (w.K.length : Int)) (w.K ++ [(x, y)]))) := by
  have hlo := hT.lo
  obtain ⟨d, h1, h2, h3, h4⟩ := hT.tab.find (Nat.le_refl _) hw.nd x y
  rw [List.take_length] at h3 h4
  have hlt := Nat.mod_lt (hash0 x y T.length + d) (show 0 < T.length by omega)
  have hs := slot_pc T (w.K.map Prod.fst) (w.K.map Prod.snd) x y (rkR w) d (by omega) (by have := hT.up; have := hw.sm; omega) (by omega) (by omega) (by simp) (by have := hw.sm; simp; omega) (rkR_ren w) (fun e _ => by
    rcases hT.tab.rng _ (Nat.mod_lt (hash0 x y T.length + e) (show 0 < T.length by omega)) with h | h
    · rw [List.length_map]; omega
    · rw [List.length_map]; omega) h1 h2
  refine ⟨_, hlt, hs, h3, fun hm => ⟨?_, fun hb => hT.add hw hb (p := (x, y)) hm h1 (h4 hm)⟩⟩
  have := hT.neg _ hlt
  have := h4 hm
  omega
end Go.Proofs.YtdgoompjoeffcaaGreat
