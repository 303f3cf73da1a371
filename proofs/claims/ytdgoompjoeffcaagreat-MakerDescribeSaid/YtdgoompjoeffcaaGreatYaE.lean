import Derived.Test.YtdgoompjoeffcaaGreatProg
import Derived.Test.YtdgoompjoeffcaaGreatPmY
import Derived.Test.YtdgoompjoeffcaaGreatYaC
/- A state of the yard taken apart. -/
set_option linter.unusedSimpArgs false
set_option linter.unusedVariables false
set_option maxRecDepth 20000
open Go Go.Proofs
namespace Go.Proofs.YtdgoompjoeffcaaGreat
open Pm
attribute [local irreducible] Wait CallT CallW NextT Le Weak
theorem ite_P {α : Type} {Q : α → Prop} {c : Prop} [Decidable c] {a b : α} (h1 : Q a) (h2 : Q b) : Q (if c then a else b) := by split <;> assumption
theorem kindF_ok (k : Int) : ∀ p ∈ kindF k, p.2 < 10 ∧ 2 ≤ p.2 ∧ 2 ≤ p.1 ∧ p.1 ≤ 256 := by
  have key : ∀ F : List (Nat × Nat), (F.all fun p => decide (p.2 < 10 ∧ 2 ≤ p.2 ∧ 2 ≤ p.1 ∧ p.1 ≤ 256)) = true → ∀ p ∈ F, p.2 < 10 ∧ 2 ≤ p.2 ∧ 2 ≤ p.1 ∧ p.1 ≤ 256 := fun F h p hp => of_decide_eq_true (List.all_eq_true.1 h p hp)
  refine key _ ?_
  unfold kindF
  repeat' (first | rfl | refine ite_P (Q := fun F : List (Nat × Nat) => (F.all fun p => decide (p.2 < 10 ∧ 2 ≤ p.2 ∧ 2 ≤ p.1 ∧ p.1 ≤ 256)) = true) ?_ ?_)
theorem kindF_len (k : Int) : (kindF k).length ≤ 5 := by
  unfold kindF
  repeat' (first | (simp; done) | refine ite_P (Q := fun F : List (Nat × Nat) => F.length ≤ 5) ?_ ?_)
theorem fsV_ne {F : List (Nat × Nat)} (h : F ≠ []) (id : Nat) : fsV F id = .sl id 2 0 F.length := by cases F with | nil => exact absurd rfl h | cons => rfl
theorem fsH_ne {F : List (Nat × Nat)} (h : F ≠ []) (id : Nat) : fsH F id = [some (.row 143 2 (F.map (fA id)))] := by cases F with | nil => exact absurd rfl h | cons => rfl
def fAo (o : Option Nat) (p : Nat × Nat) : AV := match o with
  | some id => fA id p
  | none => .agg [iA p.1, .junk]
theorem fAo_some (id : Nat) : fAo (some id) = fA id := rfl
theorem renL_fA (f : Nat → Option Nat) (id : Nat) (F : List (Nat × Nat)) : AV.renL f (F.map (fA id)) = F.map (fAo (f id)) := by
  rw [AV.renL_eq, List.map_map]
  refine List.map_congr_left fun p _ => ?_
  cases h : f id <;> simp [fA, fAo, iA, AV.ren, AV.renL, AV.renId, h]
theorem take_iA (l : List Int) (n : Nat) (h : l.length = n) : (l.map iA).take n = l.map iA := List.take_of_length_le (by simp [h])
theorem getD_fA (id : Nat) (F : List (Nat × Nat)) (k : Nat) (h : k < F.length) : (F.map (fA id)).getD k .junk = fA id (F.getD k default) := by
  simp [List.getD_eq_getElem?_getD, h]
theorem getD_iA (l : List Int) (k : Nat) (h : k < l.length) : (l.map iA).getD k .junk = iA (l.getD k 0) := by
  simp [List.getD_eq_getElem?_getD, h]
theorem renL_iA (f : Nat → Option Nat) (l : List Int) : AV.renL f (l.map iA) = l.map iA := by
  rw [AV.renL_eq, List.map_map]
  refine List.map_congr_left fun p _ => ?_
  simp [iA, AV.ren]
theorem put_iA (l : List Int) (c : Nat) (v : Int) : (l.map iA).set c (.v (.int .i64 v)) = (l.set c v).map iA := by
  rw [List.map_set]; rfl
/-- The digits of a number are laid into their cells. -/
def stepD (p : List Int × Int) (f : Nat × Nat) : List Int × Int := (p.1.set f.2 (p.2 % f.1), p.2 / f.1)
def digs (F : List (Nat × Nat)) (y : List Int) (r : Int) : List Int × Int := F.foldl stepD (y, r)
theorem digs_ok : ∀ (F : List (Nat × Nat)) (y : List Int) (r : Int), y.length = 10 → 0 ≤ r → (∀ p ∈ F, 2 ≤ p.1) → (digs F y r).1.length = 10 ∧ 0 ≤ (digs F y r).2 ∧ (digs F y r).2 ≤ r
  | [], y, r, h, h0, _ => ⟨h, h0, Int.le_refl _⟩
  | f :: F, y, r, h, h0, hF => by
    have hf := hF f List.mem_cons_self
    have h1 : 0 ≤ r / (f.1 : Int) := Int.ediv_nonneg h0 (by omega)
    have h2 : r / (f.1 : Int) ≤ r := Int.ediv_le_self _ h0
    obtain ⟨a, b, c⟩ := digs_ok F (y.set f.2 (r % f.1)) (r / f.1) (by simpa using h) h1 fun p hp => hF p (List.mem_cons_of_mem _ hp)
    exact ⟨a, b, Int.le_trans c h2⟩
theorem digs_take (F : List (Nat × Nat)) (y : List Int) (r : Int) (k : Nat) (hk : k < F.length) : digs (F.take (k + 1)) y r = stepD (digs (F.take k) y r) (F.getD k default) := by
  unfold digs
  rw [List.take_add_one, List.foldl_append]
  simp [List.getD_eq_getElem?_getD, hk]
def zero10 : List Int := [0, 0, 0, 0, 0, 0, 0, 0, 0, 0]
def part0 (s : Int) : List Int := [s % 16, s / 16 % 4, 0, 0, 0, 0, 0, 0, 0, 0]
def YardOfE (s : Int) : List Int × Int :=
  if s < 0 then (zero10, 11) else if (digs (kindF (s % 16)) (part0 s) (s / 64)).2 = 0 ∧ properB (digs (kindF (s % 16)) (part0 s) (s / 64)).1 = true then ((digs (kindF (s % 16)) (part0 s) (s / 64)).1, 0) else (zero10, 11)
theorem wrapI {x : Int} (h1 : -9223372036854775808 ≤ x) (h2 : x ≤ 9223372036854775807) : IntKind.i64.wrap x = x := wrap64 h1 h2
theorem yardOf_pc (s : Int) (hs : s ≤ 9223372036854775807) : PCon Tryz.prog 64 [iA s] (· = .tup [yA (YardOfE s).1, iA (YardOfE s).2]) := by
  refine pcon_run 1000 Tryz.func64 rfl Tryz.results64 Tryz.ntmps64 (Nat.le_of_ble_eq_true rfl) ?_
  simp -implicitDefEqProofs only [go_sem, yA, iA]
  refine ⟨fun h1 => ?_, fun h1 => ?_⟩
  · simp [YardOfE, h1, zero10, iA]
  · have h0 : 0 ≤ s := by omega
    have e1 : s.tmod 16 = s % 16 := Int.tmod_eq_emod_of_nonneg h0
    have e2 : s.tdiv 16 = s / 16 := Int.tdiv_eq_ediv_of_nonneg h0
    have e3 : s.tdiv 64 = s / 64 := Int.tdiv_eq_ediv_of_nonneg h0
    have e4 : IntKind.i64.wrap (s / 16) = s / 16 := wrapI (by omega) (by omega)
    have e5 : IntKind.i64.wrap (s / 64) = s / 64 := wrapI (by omega) (by omega)
    have e6 : (s / 16).tmod 4 = s / 16 % 4 := Int.tmod_eq_emod_of_nonneg (by omega)
    simp only [e1, e2, e3, e4, e5, e6]
    refine call_con_eq 1000 [1] (fields_con (part0 s) rfl) (by simp -implicitDefEqProofs only [go_sem, idxOf]) (by simp -implicitDefEqProofs only [go_sem, keepB, Blk.ren, idxOf, yA, part0, iA]) ?_ (by simp) (by simp) rfl (by simp)
    have hF : kindF ((part0 s).getD 0 0) = kindF (s % 16) := rfl
    rw [hF]
    have hok := kindF_ok (s % 16)
    have h5 := kindF_len (s % 16)
    have hY : YardOfE s = if (digs (kindF (s % 16)) (part0 s) (s / 64)).2 = 0 ∧ properB (digs (kindF (s % 16)) (part0 s) (s / 64)).1 = true then ((digs (kindF (s % 16)) (part0 s) (s / 64)).1, 0) else (zero10, 11) := by
      unfold YardOfE; rw [if_neg h1]
    generalize kindF (s % 16) = F at hok hY h5
    have hlen := digs_ok F (part0 s) (s / 64) rfl (by omega) fun p hp => (hok p hp).2.2.1
    by_cases hne : F = []
    · subst hne
      simp -implicitDefEqProofs only [go_sem, idxOf, fsV, fsH, Blk.ren, renL_iA, yA]
      refine wait_range 0 (fun k => ⟨46, 0, [(2, .ptr 0 10 0 0), (3, iA 0), (4, .ptr 1 10 0 0), (5, iA (s / 64)), (20, iA 0), (21, iA 0)], [some (.row 106 10 [yA zero10]), some (.row 106 10 [yA (part0 s)])]⟩) (fun _ => True) (weak_to [2, 3, 4, 5, 20, 21] [0, 1] ?_ (by simp) (fun i h => by cases h)) trivial ?_
      · simp -implicitDefEqProofs only [go_sem, St.keep, keepB, Blk.ren, idxOf, iA, yA, zero10, part0]
      · intro k hk _
        refine run_sound 1000 _ _ ?_
        rw [hY]
        simp -implicitDefEqProofs only [go_sem, iA, yA, part0]
        refine ⟨fun g1 => ?_, fun g1 => ?_⟩
        · refine call_eq 1000 (proper_pc (part0 s) rfl) (by simp -implicitDefEqProofs only [go_sem, yA, iA, part0]) ?_ rfl
          simp -implicitDefEqProofs only [go_sem]
          refine ⟨fun g2 => ?_, fun g2 => ?_⟩
          · have g3 : properB [s % 16, s / 16 % 4, 0, 0, 0, 0, 0, 0, 0, 0] = false := g2
            simp [fz_v, fz_agg, fz_tup, fz_fsl, fzL_nil, fzL_cons, digs, g1, g3, zero10, iA]
          · have g3 : properB [s % 16, s / 16 % 4, 0, 0, 0, 0, 0, 0, 0, 0] = true := g2
            simp [fz_v, fz_agg, fz_tup, fz_fsl, fzL_nil, fzL_cons, digs, g1, g3, zero10, iA]
        · simp only [digs, List.foldl_nil, g1]
          simp [fz_v, fz_agg, fz_tup, fz_fsl, fzL_nil, fzL_cons, zero10, iA]
    · rw [fsV_ne hne, fsH_ne hne]
      have hb : backId [1] 2 0 = some 1 := rfl
      simp -implicitDefEqProofs only [go_sem, idxOf, Blk.ren, renL_iA, yA]
      refine wait_range F.length (fun k => ⟨46, 0, [(2, .ptr 0 10 0 0), (3, iA 0), (4, .ptr 1 10 0 0), (5, iA (digs (F.take k) (part0 s) (s / 64)).2), (19, .sl 2 2 0 F.length), (20, iA F.length), (21, iA k)],
        [some (.row 106 10 [yA zero10]), some (.row 106 10 [yA (digs (F.take k) (part0 s) (s / 64)).1]), some (.row 143 2 (F.map (fA 1)))]⟩) (fun _ => True) (weak_to [2, 3, 4, 5, 19, 20, 21] [0, 1, 2] ?_ (by simp) (fun i h => by cases h)) trivial ?_
      · simp -implicitDefEqProofs only [go_sem, St.keep, keepB, Blk.ren, idxOf, iA, yA, zero10, digs, List.foldl_nil, part0, renL_fA, fAo_some]
      · intro k hk _
        refine run_sound 1000 _ _ ?_
        have hk0 := digs_ok (F.take k) (part0 s) (s / 64) rfl (by omega) fun p hp => (hok p (List.mem_of_mem_take hp)).2.2.1
        by_cases hk1 : k < F.length
        · have hs := digs_take F (part0 s) (s / 64) k hk1
          have hm := hok (F.getD k default) (by rw [List.getD_eq_getElem?_getD, List.getElem?_eq_getElem hk1]; exact List.getElem_mem hk1)
          simp only [hs, stepD]
          generalize digs (F.take k) (part0 s) (s / 64) = p at hk0
          obtain ⟨y, r⟩ := p
          simp only at hk0
          have g1 := getD_fA 1 F k hk1
          generalize F.getD k default = f at hm g1
          obtain ⟨b, c⟩ := f
          simp only at hm
          have hw2 : IntKind.i64.wrap ((k : Int) + 1) = ((k + 1 : Nat) : Int) := by rw [wrapI (by omega) (by omega)]; omega
          have hb0 : ((b : Int) = 0) = False := by simp; omega
          have hq1 : r.tmod b = r % b := Int.tmod_eq_emod_of_nonneg hk0.2.1
          have hq2 : r.tdiv b = r / b := Int.tdiv_eq_ediv_of_nonneg hk0.2.1
          have hq3 : IntKind.i64.wrap (r / b) = r / b := by
            have h1 := Int.ediv_nonneg hk0.2.1 (show (0 : Int) ≤ b by omega)
            have h2 := Int.ediv_le_self (b : Int) hk0.2.1
            exact wrapI (by omega) (by omega)
          simp -implicitDefEqProofs only [go_sem, iA, yA, hk1, g1, fA]
          refine wait_draw 1000 mixed (by decide +kernel) ?_
          simp -implicitDefEqProofs only [go_sem, hb0, hq1, hq2, hq3]
          refine ⟨by omega, ?_⟩
          refine weak_to [2, 3, 4, 5, 19, 20, 21] [0, 1, 2] ?_ (by simp) (fun i h => by cases h)
          simp -implicitDefEqProofs only [go_sem, St.keep, keepB, Blk.ren, idxOf, iA, yA, zero10, hw2]
          simp -implicitDefEqProofs only [go_sem, put_iA, renL_iA, renL_fA, fAo_some]
        · have hk2 : k = F.length := by omega
          subst hk2
          simp only [List.take_length]
          generalize digs F (part0 s) (s / 64) = p at hlen hY
          obtain ⟨y, r⟩ := p
          simp only at hlen hY
          rw [hY]
          obtain ⟨a0, a1, a2, a3, a4, a5, a6, a7, a8, a9, rfl⟩ := ten_of y hlen.1
          clear hY hk0 hb hF
          simp -implicitDefEqProofs only [go_sem, iA, yA, hk1]
          refine ⟨fun g1 => ?_, fun g1 => ?_⟩
          · refine call_eq 1000 (proper_pc _ hlen.1) (by simp -implicitDefEqProofs only [go_sem, yA, iA]) ?_ rfl
            simp -implicitDefEqProofs only [go_sem]
            refine ⟨fun g2 => ?_, fun g2 => ?_⟩
            · simp [fz_v, fz_agg, fz_tup, fz_fsl, fzL_nil, fzL_cons, g1, g2, zero10, iA]
            · simp [fz_v, fz_agg, fz_tup, fz_fsl, fzL_nil, fzL_cons, g1, g2, zero10, iA]
          · simp [fz_v, fz_agg, fz_tup, fz_fsl, fzL_nil, fzL_cons, g1, zero10, iA]
end Go.Proofs.YtdgoompjoeffcaaGreat
/- A state of the yard taken apart: the reference. -/
namespace Go.Proofs.YtdgoompjoeffcaaGreat
open Pm
attribute [local irreducible] Wait CallT CallW NextT Le Weak
theorem withE_set (l : List Int) (c : Nat) (v : Int) (h2 : 2 ≤ c) (h10 : c < 10) : withE l ((c : Int) - 2) v = l.set c v := by
  unfold withE
  match c, h2, h10 with
  | 2, _, _ => rfl
  | 3, _, _ => rfl
  | 4, _, _ => rfl
  | 5, _, _ => rfl
  | 6, _, _ => rfl
  | 7, _, _ => rfl
  | 8, _, _ => rfl
  | 9, _, _ => rfl
theorem fieldE_get (l : List Int) (c : Nat) (h2 : 2 ≤ c) (h10 : c < 10) : fieldE l ((c : Int) - 2) = l.getD c 0 := by
  unfold fieldE
  match c, h2, h10 with
  | 2, _, _ => rfl
  | 3, _, _ => rfl
  | 4, _, _ => rfl
  | 5, _, _ => rfl
  | 6, _, _ => rfl
  | 7, _, _ => rfl
  | 8, _, _ => rfl
  | 9, _, _ => rfl
def b1 (p : Nat × Nat) : AV := iA p.1
def b2 (p : Nat × Nat) : AV := iA (p.2 - 2)
theorem getD_b1 (F : List (Nat × Nat)) (k : Nat) (h : k < F.length) : (F.map b1).getD k .junk = b1 (F.getD k default) := by
  simp [List.getD_eq_getElem?_getD, h]
theorem getD_b2 (F : List (Nat × Nat)) (k : Nat) (h : k < F.length) : (F.map b2).getD k .junk = b2 (F.getD k default) := by
  simp [List.getD_eq_getElem?_getD, h]
theorem renL_b1 (f : Nat → Option Nat) (F : List (Nat × Nat)) : AV.renL f (F.map b1) = F.map b1 := by
  rw [AV.renL_eq, List.map_map]
  exact List.map_congr_left fun p _ => by simp [b1, iA, AV.ren]
theorem renL_b2 (f : Nat → Option Nat) (F : List (Nat × Nat)) : AV.renL f (F.map b2) = F.map b2 := by
  rw [AV.renL_eq, List.map_map]
  exact List.map_congr_left fun p _ => by simp [b2, iA, AV.ren]
theorem bases_pc' (k : Int) : PCon Tryz.prog 81 [iA k] (· = .tup [.fsl 1 ((kindF k).map b1), .fsl 1 ((kindF k).map b2)]) := bases_pc k
def RefYardOfE (s : Int) : List Int × Int :=
  if s < 0 ∨ 8388608 ≤ s then (zero10, 11) else
  if (digs (kindF (s % 16)) (part0 s) (s / 64)).2 = 0 ∧ ¬(((digs (kindF (s % 16)) (part0 s) (s / 64)).1.getD 0 0 = 0 ∨ (digs (kindF (s % 16)) (part0 s) (s / 64)).1.getD 0 0 = 14) ∧ (digs (kindF (s % 16)) (part0 s) (s / 64)).1.getD 1 0 ≠ 0) ∧ rightB (digs (kindF (s % 16)) (part0 s) (s / 64)).1 = true
  then ((digs (kindF (s % 16)) (part0 s) (s / 64)).1, 0) else (zero10, 11)
theorem refYardOf_pc (s : Int) : PCon Tryz.prog 79 [iA s] (· = .tup [yA (RefYardOfE s).1, iA (RefYardOfE s).2]) := by
  refine pcon_run 1000 Tryz.func79 rfl Tryz.results79 Tryz.ntmps79 (Nat.le_of_ble_eq_true rfl) ?_
  simp -implicitDefEqProofs only [go_sem, yA, iA]
  refine ⟨fun h1 => ⟨fun h2 => ?_, fun h2 => ?_⟩, fun h1 => ?_⟩
  · simp [fz_v, fz_agg, fz_tup, fz_fsl, fzL_nil, fzL_cons, RefYardOfE, h1, h2, zero10, iA]
  · have h0 : 0 ≤ s := by omega
    have e1 : s.tmod 16 = s % 16 := Int.tmod_eq_emod_of_nonneg h0
    have e2 : s.tdiv 16 = s / 16 := Int.tdiv_eq_ediv_of_nonneg h0
    have e3 : s.tdiv 64 = s / 64 := Int.tdiv_eq_ediv_of_nonneg h0
    have e4 : IntKind.i64.wrap (s / 16) = s / 16 := wrapI (by omega) (by omega)
    have e5 : IntKind.i64.wrap (s / 64) = s / 64 := wrapI (by omega) (by omega)
    have e6 : (s / 16).tmod 4 = s / 16 % 4 := Int.tmod_eq_emod_of_nonneg (by omega)
    simp only [e1, e2, e3, e4, e5, e6]
    have hok := kindF_ok (s % 16)
    have h5 := kindF_len (s % 16)
    have hY : RefYardOfE s = if (digs (kindF (s % 16)) (part0 s) (s / 64)).2 = 0 ∧ ¬(((digs (kindF (s % 16)) (part0 s) (s / 64)).1.getD 0 0 = 0 ∨ (digs (kindF (s % 16)) (part0 s) (s / 64)).1.getD 0 0 = 14) ∧ (digs (kindF (s % 16)) (part0 s) (s / 64)).1.getD 1 0 ≠ 0) ∧ rightB (digs (kindF (s % 16)) (part0 s) (s / 64)).1 = true
        then ((digs (kindF (s % 16)) (part0 s) (s / 64)).1, 0) else (zero10, 11) := by
      unfold RefYardOfE; rw [if_neg (by omega)]
    refine call_eq 1000 (bases_pc' (s % 16)) (by simp -implicitDefEqProofs only [go_sem, iA]) ?_ rfl
    generalize kindF (s % 16) = F at hok hY h5
    have hlen := digs_ok F (part0 s) (s / 64) rfl (by omega) fun p hp => (hok p hp).2.2.1
    simp -implicitDefEqProofs only [go_sem]
    refine wait_range F.length (fun k => ⟨78, 0, [(2, .ptr 0 10 0 0), (3, iA 0), (4, .ptr 1 10 0 0), (5, iA (digs (F.take k) (part0 s) (s / 64)).2), (6, .fsl 1 (F.map b1)), (7, .fsl 1 (F.map b2)), (8, iA k)],
      [some (.row 106 10 [yA zero10]), some (.row 106 10 [yA (digs (F.take k) (part0 s) (s / 64)).1])]⟩) (fun _ => True) (weak_to [2, 3, 4, 5, 6, 7, 8] [0, 1] ?_ (by simp) (fun i h => by cases h)) trivial ?_
    · simp -implicitDefEqProofs only [go_sem, St.keep, keepB, Blk.ren, idxOf, iA, yA, zero10, digs, List.foldl_nil, part0, renL_b1, renL_b2]
    · intro k hk _
      refine run_sound 1000 _ _ ?_
      have hk0 := digs_ok (F.take k) (part0 s) (s / 64) rfl (by omega) fun p hp => (hok p (List.mem_of_mem_take hp)).2.2.1
      by_cases hk1 : k < F.length
      · have hs := digs_take F (part0 s) (s / 64) k hk1
        have hm := hok (F.getD k default) (by rw [List.getD_eq_getElem?_getD, List.getElem?_eq_getElem hk1]; exact List.getElem_mem hk1)
        simp only [hs, stepD]
        generalize digs (F.take k) (part0 s) (s / 64) = p at hk0
        obtain ⟨y, r⟩ := p
        simp only at hk0
        have g1 := getD_b1 F k hk1
        have g2 := getD_b2 F k hk1
        generalize F.getD k default = f at hm g1 g2
        obtain ⟨b, c⟩ := f
        simp only at hm
        have hw2 : IntKind.i64.wrap ((k : Int) + 1) = ((k + 1 : Nat) : Int) := by rw [wrapI (by omega) (by omega)]; omega
        have hb0 : ((b : Int) = 0) = False := by simp; omega
        have hq1 : r.tmod b = r % b := Int.tmod_eq_emod_of_nonneg hk0.2.1
        have hq2 : r.tdiv b = r / b := Int.tdiv_eq_ediv_of_nonneg hk0.2.1
        have hq3 : IntKind.i64.wrap (r / b) = r / b := by
          have h1 := Int.ediv_nonneg hk0.2.1 (show (0 : Int) ≤ b by omega)
          have h2 := Int.ediv_le_self (b : Int) hk0.2.1
          exact wrapI (by omega) (by omega)
        simp -implicitDefEqProofs only [go_sem, iA, yA, hk1, g1, g2, b1, b2]
        refine wait_draw 1000 mixed (by decide +kernel) ?_
        simp -implicitDefEqProofs only [go_sem, iA, yA, hk1, g1, g2, b1, b2, hb0, hq1, hq2, hq3, take_iA y 10 hk0.1]
        refine call_draw 1000 (with_pc y hk0.1 ((c : Int) - 2) (r % b)) (by simp -implicitDefEqProofs only [go_sem, yA, iA, renL_iA]) ?_
        rw [withE_set y c (r % b) hm.2.1 hm.1]
        have hl2 : (y.set c (r % b)).length = 10 := by simp [hk0.1]
        generalize y.set c (r % b) = y2 at hl2
        obtain ⟨a0, a1, a2, a3, a4, a5, a6, a7, a8, a9, rfl⟩ := ten_of y2 hl2
        obtain ⟨c0, c1, c2, c3, c4, c5, c6, c7, c8, c9, rfl⟩ := ten_of y hk0.1
        simp -implicitDefEqProofs only [go_sem, iA, yA, hk1, g1, g2, b1, b2, hb0, hq1, hq2, hq3]
        refine weak_to [2, 3, 4, 5, 6, 7, 8] [0, 1] ?_ (by simp) (fun i h => by cases h)
        simp -implicitDefEqProofs only [go_sem, St.keep, keepB, Blk.ren, idxOf, iA, yA, zero10, hw2, renL_b1, renL_b2]
      · have hk2 : k = F.length := by omega
        subst hk2
        simp only [List.take_length]
        generalize digs F (part0 s) (s / 64) = p at hlen hY
        obtain ⟨y, r⟩ := p
        simp only at hlen hY
        rw [hY]
        obtain ⟨a0, a1, a2, a3, a4, a5, a6, a7, a8, a9, rfl⟩ := ten_of y hlen.1
        clear hY hk0
        simp -implicitDefEqProofs only [go_sem, iA, yA, hk1]
        (repeat' (first | exact trivial | contradiction | exact ⟨_, rfl⟩ | refine And.intro ?_ ?_ | (refine om ?_; omega) | (refine wait_draw 1000 mixed (by decide +kernel) ?_; simp -implicitDefEqProofs only [go_sem, yA, iA]) | ((first | refine call_eq 1000 (right_pc _ hlen.1) ?_ ?_ rfl | refine call_draw 1000 (right_pc _ hlen.1) ?_ ?_); (focus (simp -implicitDefEqProofs only [go_sem, yA, iA]; done)); simp -implicitDefEqProofs only [go_sem, yA, iA]) | intro _))
        all_goals (clear h5 hok h0 e1 e2 e3 e4 e5 e6; simp_all [fz_v, fz_agg, fz_tup, fz_fsl, fzL_nil, fzL_cons, zero10, iA])
  · simp [fz_v, fz_agg, fz_tup, fz_fsl, fzL_nil, fzL_cons, RefYardOfE, h1, zero10, iA]
end Go.Proofs.YtdgoompjoeffcaaGreat
