import Derived.Test.YtdgoompjoeffcaaGreatProg
import Derived.Test.YtdgoompjoeffcaaGreatPmY
import Derived.Test.YtdgoompjoeffcaaGreatDwZ
/- A tape that describes: the document describes. -/
set_option linter.unusedSimpArgs false
set_option linter.unusedVariables false
set_option maxRecDepth 20000
open Go Go.Proofs
namespace Go.Proofs.YtdgoompjoeffcaaGreat
open Pm
attribute [local irreducible] Wait CallT CallW NextT Le Weak
theorem rrows_pcon (p : List Ce) (K : Nat) (T : List Int) (hl : p.length < 1000000) (hK : K ≤ 4000) (ho : inOrder p) (hx : ∀ c ∈ p, -((4000 : Nat) : Int) ≤ c.1.1 ∧ c.1.1 ≤ ((4000 : Nat) : Int)) (hT : T.length < 10000) :
    Con Tryz.prog 13 [.sl 0 1 0 T.length, .fsl 3 (ceL p), .v (.int .i64 (-(K : Int))), .v (.int .i64 (-1))] [tpB T] fun r h => r = .sl 1 1 0 (exitD (grpD (rowsDL p K)) T).length ∧ h = [none, tpB (exitD (grpD (rowsDL p K)) T)] := by
  refine Con.move (Con.mono (rrows_con p K T hl hK ho hx hT) fun r h => ?_)
  generalize exitD (grpD (rowsDL p K)) T = X
  rintro ⟨b, rfl, hb, h0, hz⟩
  have hlt : b < h.length := (List.getElem?_eq_some_iff.1 hb).1
  refine ⟨[0, b], by simp; omega, by simp [stayB], ?_, ?_⟩
  · have : ¬ b = 0 := by omega
    simp [AV.ren, AV.renId, idxOf, this]
  · simp only [List.map_cons, List.map_nil, keepB, hz, hb, tpB, Blk.ren, zl_ren]
def dfA (t : List Int) : St := ⟨106, 0, [(2, .v (.slice none 0 0)), (3, .v (.int .i64 0)), (9, .sl 0 1 0 t.length), (98, .sl 0 1 0 t.length)], [tpB t]⟩
def dfB (t : List Int) : St := ⟨106, 0, [(2, .v (.slice none 0 0)), (3, .v (.int .i64 0)), (9, .fsl 1 (t.map zA)), (98, .fsl 1 (t.map zA))], [none]⟩
theorem zl_frz (id : Nat) (b : Blk) (l : List Int) : AV.frzL id b (l.map zA) = l.map zA := by rw [frzL_eq, List.map_map]; exact List.map_congr_left fun x _ => by simp only [Function.comp, zA, frz_v]
theorem exitD_len (M : Nat) : ∀ (l : List (List Int)) (t : List Int), (∀ c ∈ l, c.length ≤ M) → (exitD l t).length ≤ max t.length 4096 + M
  | [], t, _ => by simp only [exitD]; omega
  | c :: l, t, h => by
    have hc := h c (by simp)
    simp only [exitD]
    split
    · rw [List.length_append]; omega
    · have := exitD_len M l (t ++ c) fun x hx => h x (by simp [hx])
      omega
theorem sideD_len (a b : Int) (L : List Int) : (sideD a b L).length ≤ 2 + 2 * L.length := by
  unfold sideD
  split
  · simp
  · rename_i h
    have h1 := numD_len L.length 5 (List.length_pos_iff.2 h)
    have h2 := lineD_len L
    simp only [List.length_cons, List.length_append, List.length_nil]
    omega
theorem grpD_len (D : List Rd) : (∀ r ∈ D, r.west.length ≤ 4000 ∧ r.east.length ≤ 4000) → ∀ c ∈ grpD D, c.length ≤ 16010 + D.length := by
  induction D using grpD.induct with
  | case1 => intro _ c hc; rw [grpD] at hc; cases hc
  | case2 r l h ih =>
    intro hr c hc
    rw [grpD, if_pos h] at hc
    rcases List.mem_cons.1 hc with rfl | hc
    · have h0 := hr r (by simp)
      have h1 := sideD_len 6 7 r.west
      have h2 := sideD_len 7 6 r.east
      have h3 := numD_len 1 (24 + numF r.mid) (by decide)
      simp only [List.length_append, List.length_cons]
      omega
    · have := ih (fun x hx => hr x (by simp [hx])) c hc
      rw [List.length_cons]
      omega
  | case3 r l h ih =>
    intro hr c hc
    rw [grpD, if_neg h] at hc
    have h3 : (l.takeWhile fun s => !sidedD s && s.mid == r.mid).length ≤ l.length := List.Sublist.length_le (List.takeWhile_sublist _)
    rcases List.mem_cons.1 hc with rfl | hc
    · have h4 := numD_len (1 + (l.takeWhile fun s => !sidedD s && s.mid == r.mid).length) (24 + numF r.mid) (by omega)
      rw [List.length_cons]
      omega
    · have := ih (fun x hx => hr x (by simp [List.mem_of_mem_drop hx])) c hc
      rw [List.length_drop] at this
      rw [List.length_cons]
      omega
theorem zl_fzL (h : List (Option Blk)) (l : List Int) : fzL h (l.map zA) = l.map zA := by rw [fzL_eq, List.map_map]; exact List.map_congr_left fun x _ => by simp only [Function.comp, zA, fz_v]
theorem df_weak (t : List Int) : Weak (dfA t) (dfB t) := by
  refine weak_frzB 0 (b := .row 3 1 (t.map zA)) rfl rfl (fun f => by simp only [Blk.ren, zl_ren]) ?_
  unfold dfA dfB tpB
  simp -implicitDefEqProofs only [go_sem, zl_frz]
def deS (p : List Ce) (k : Nat) : St := ⟨106, 0, [(0, .fsl 3 (ceL p)), (2, .v (.slice none 0 0)), (3, .v (.int .i64 0)), (5, .v (.int .i64 (k : Int)))], []⟩
def deT (p : List Ce) (k : Nat) : St := ⟨106, 0, [(0, .fsl 3 (ceL p)), (2, .v (.slice none 0 0)), (3, .v (.int .i64 0)), (8, .v (.int .i64 (k : Int)))], []⟩
set_option maxHeartbeats 8000000 in
theorem describeD_pc (p : List Ce) (hl : p.length < 9223372036854775808) : PCon Tryz.prog 4 [.fsl 3 (ceL p)] (· = tupE (tapeR p) (descE tapeR p)) := by
  refine pcon_run 1000 Tryz.func4 rfl Tryz.results4 Tryz.ntmps4 (Nat.le_of_ble_eq_true rfl) ?_
  have pc := properD_pc p hl
  have yc := yardRule_pc
  unfold ruleA at pc yc
  simp only [iA] at pc yc
  by_cases h0 : properE p = 0
  · rw [h0] at pc
    obtain ⟨ho, hnz, hlen⟩ := properE_ok h0
    simp -implicitDefEqProofs only [go_sem]
    (repeat' (first | exact trivial | contradiction | exact ⟨_, rfl⟩ | refine And.intro ?_ ?_ | (refine om ?_; omega) | (refine wait_draw 1000 mixed (by decide +kernel) ?_; simp -implicitDefEqProofs only [go_sem, bne_self_eq_false]) | ((first | refine call_eq 1000 (yc) ?_ ?_ rfl | refine call_draw 1000 (yc) ?_ ?_ | refine call_eq 1000 (pc) ?_ ?_ rfl | refine call_draw 1000 (pc) ?_ ?_); (focus (simp -implicitDefEqProofs only [go_sem, bne_self_eq_false]; done)); simp -implicitDefEqProofs only [go_sem, bne_self_eq_false]) | intro _))
    refine wait_range p.length (deS p) (fun k => ∀ j, j < k → (WrittenNumberE (p.getD j ((0, 0), 0)).2).2 = 0) (weak_to [0, 2, 3, 5] [] ?_ (by decide) (fun i h => by cases h)) (fun j hj => by omega) ?_
    focus
      simp -implicitDefEqProofs only [go_sem, St.keep, deS, Int.natCast_zero]
    intro k hk hG
    refine run_sound 1000 _ _ ?_
    unfold deS
    by_cases hkl : k < p.length
    focus
      have h1 : ((k : Int) < (p.length : Int)) = True := eq_true (by omega)
      have h2 : (k < p.length) = True := eq_true hkl
      have ga := ceA_at p k hkl
      have hw1 : IntKind.i64.wrap ((k : Int) + 1) = ((k + 1 : Nat) : Int) := by rw [wrapN (by omega) (by omega)]; omega
      have nc := numD_pc (p.getD k ((0, 0), 0)).2
      simp only [iA] at nc
      have hmem : p.getD k ((0, 0), 0) ∈ p := by rw [List.getD_eq_getElem?_getD, List.getElem?_eq_getElem hkl]; exact List.getElem_mem hkl
      by_cases hn : (WrittenNumberE (p.getD k ((0, 0), 0)).2).2 = 0
      focus
        rw [hn] at nc
        have hG' : ∀ j, j < k + 1 → (WrittenNumberE (p.getD j ((0, 0), 0)).2).2 = 0 := fun j hj => by
          by_cases e : j = k
          · subst e; exact hn
          · exact hG j (by omega)
        simp -implicitDefEqProofs only [go_sem, h1, h2, ga]
        (repeat' (first | exact trivial | contradiction | exact ⟨_, rfl⟩ | refine And.intro ?_ ?_ | (refine om ?_; omega) | (refine wait_draw 1000 mixed (by decide +kernel) ?_; simp -implicitDefEqProofs only [go_sem, h1, h2, ga, hw1, bne_self_eq_false]) | ((first | refine call_eq 1000 (nc) ?_ ?_ rfl | refine call_draw 1000 (nc) ?_ ?_); (focus (simp -implicitDefEqProofs only [go_sem, h1, h2, ga, hw1, bne_self_eq_false]; done)); simp -implicitDefEqProofs only [go_sem, h1, h2, ga, hw1, bne_self_eq_false]) | intro _))
        all_goals
          first
            | exact hG' _ (by assumption)
            | (refine weak_to [0, 2, 3, 5] [] ?_ (by decide) (fun i h => by cases h)
               simp -implicitDefEqProofs only [go_sem, St.keep]
               done)
      focus
        have hN : ¬ numOK p := fun h => hn (h _ hmem)
        have hd : descE tapeR p = 72 := by unfold descE; rw [if_neg (by omega), if_pos hN]
        rw [hd, tupE_bad _ (by decide)]
        have hb : ((WrittenNumberE (p.getD k ((0, 0), 0)).2).2 != 0) = true := by simpa using hn
        simp -implicitDefEqProofs only [go_sem, h1, h2, ga]
        (repeat' (first | exact trivial | contradiction | exact ⟨_, rfl⟩ | refine And.intro ?_ ?_ | (refine om ?_; omega) | (refine wait_draw 1000 mixed (by decide +kernel) ?_; simp -implicitDefEqProofs only [go_sem, h1, h2, ga, hb]) | ((first | refine call_eq 1000 (nc) ?_ ?_ rfl | refine call_draw 1000 (nc) ?_ ?_); (focus (simp -implicitDefEqProofs only [go_sem, h1, h2, ga, hb]; done)); simp -implicitDefEqProofs only [go_sem, h1, h2, ga, hb]) | intro _))
    obtain rfl : k = p.length := by omega
    have hN : numOK p := fun c hc => by
      obtain ⟨j, hj, rfl⟩ := List.mem_iff_getElem.1 hc
      have := hG j hj
      rw [List.getD_eq_getElem?_getD, List.getElem?_eq_getElem hj] at this
      exact this
    have h1 : ((p.length : Int) < (p.length : Int)) = False := eq_false (by omega)
    clear hG hk hkl
    simp -implicitDefEqProofs only [go_sem, h1]
    refine wait_range p.length (deT p) (fun k => ∀ j, j < k → -4000 ≤ (p.getD j ((0, 0), 0)).1.1 ∧ (p.getD j ((0, 0), 0)).1.1 ≤ 4000 ∧ -4000 ≤ (p.getD j ((0, 0), 0)).1.2 ∧ (p.getD j ((0, 0), 0)).1.2 ≤ -1) (weak_to [0, 2, 3, 8] [] ?_ (by decide) (fun i h => by cases h)) (fun j hj => by omega) ?_
    focus
      simp -implicitDefEqProofs only [go_sem, St.keep, deT, Int.natCast_zero]
    clear h1
    intro k hk hG
    unfold deT
    by_cases hkl : k < p.length
    focus
      refine run_sound 1000 _ _ ?_
      have h1 : ((k : Int) < (p.length : Int)) = True := eq_true (by omega)
      have h2 : (k < p.length) = True := eq_true hkl
      have ga := ceA_at p k hkl
      have hw1 : IntKind.i64.wrap ((k : Int) + 1) = ((k + 1 : Nat) : Int) := by rw [wrapN (by omega) (by omega)]; omega
      have hmem : p.getD k ((0, 0), 0) ∈ p := by rw [List.getD_eq_getElem?_getD, List.getElem?_eq_getElem hkl]; exact List.getElem_mem hkl
      have hG' : -4000 ≤ (p.getD k ((0, 0), 0)).1.1 ∧ (p.getD k ((0, 0), 0)).1.1 ≤ 4000 ∧ -4000 ≤ (p.getD k ((0, 0), 0)).1.2 ∧ (p.getD k ((0, 0), 0)).1.2 ≤ -1 → ∀ j, j < k + 1 → -4000 ≤ (p.getD j ((0, 0), 0)).1.1 ∧ (p.getD j ((0, 0), 0)).1.1 ≤ 4000 ∧ -4000 ≤ (p.getD j ((0, 0), 0)).1.2 ∧ (p.getD j ((0, 0), 0)).1.2 ≤ -1 := fun h j hj => by
        by_cases e : j = k
        · subst e; exact h
        · exact hG j (by omega)
      have hbad : ¬ (-4000 ≤ (p.getD k ((0, 0), 0)).1.1 ∧ (p.getD k ((0, 0), 0)).1.1 ≤ 4000 ∧ -4000 ≤ (p.getD k ((0, 0), 0)).1.2 ∧ (p.getD k ((0, 0), 0)).1.2 ≤ -1) → descE tapeR p = 74 := fun h => by
        unfold descE
        rw [if_neg (by omega), if_neg (fun g => g hN), if_pos (fun g => h (g _ hmem))]
      generalize p.getD k ((0, 0), 0) = c at ga hG' hbad
      obtain ⟨⟨x, y⟩, s⟩ := c
      simp only at ga hG' hbad
      by_cases hx1 : x < -4000
      focus
        have hd := hbad (fun h => by omega)
        have c1 : (x < -4000) = True := eq_true hx1
        rw [hd, tupE_bad _ (by decide)]
        simp -implicitDefEqProofs only [go_sem, h1, h2, ga, c1]
      have c1 : (x < -4000) = False := eq_false hx1
      by_cases hx2 : 4000 < x
      focus
        have hd := hbad (fun h => by omega)
        have c2 : (4000 < x) = True := eq_true hx2
        rw [hd, tupE_bad _ (by decide)]
        simp -implicitDefEqProofs only [go_sem, h1, h2, ga, c1, c2]
      have c2 : (4000 < x) = False := eq_false hx2
      by_cases hy1 : y < -4000
      focus
        have hd := hbad (fun h => by omega)
        have c3 : (y < -4000) = True := eq_true hy1
        rw [hd, tupE_bad _ (by decide)]
        simp -implicitDefEqProofs only [go_sem, h1, h2, ga, c1, c2, c3]
      have c3 : (y < -4000) = False := eq_false hy1
      by_cases hy2 : -1 < y
      focus
        have hd := hbad (fun h => by omega)
        have c4 : (-1 < y) = True := eq_true hy2
        rw [hd, tupE_bad _ (by decide)]
        simp -implicitDefEqProofs only [go_sem, h1, h2, ga, c1, c2, c3, c4]
      have c4 : (-1 < y) = False := eq_false hy2
      have hn := hG' (by omega)
      simp -implicitDefEqProofs only [go_sem, h1, h2, ga, c1, c2, c3, c4, hw1]
      refine ⟨hn, weak_to [0, 2, 3, 8] [] ?_ (by decide) (fun i h => by cases h)⟩
      simp -implicitDefEqProofs only [go_sem, St.keep]
    obtain rfl : k = p.length := by omega
    have hR : roomOK p := fun c hc => by
      obtain ⟨j, hj, rfl⟩ := List.mem_iff_getElem.1 hc
      have := hG j hj
      rw [List.getD_eq_getElem?_getD, List.getElem?_eq_getElem hj] at this
      exact this
    have h1 : ((p.length : Int) < (p.length : Int)) = False := eq_false (by omega)
    clear hG hk hkl
    have hp : Desc p := ⟨ho, hnz, hN, fun c hc => (hR c hc).2.2.2⟩
    have hd : descE tapeR p = if 4096 < (tapeR p).length then 71 else (progWalk (tapeR p)).1 := by
      unfold descE
      rw [if_neg (by omega), if_neg (fun g => g hN), if_neg (fun g => g hR)]
    rw [hd]
    by_cases hpe : p = []
    focus
      have hY : tapeR p = [1, 2, 4] := by rw [hpe]; rfl
      have z0 : (p.length : Int) = 0 := by rw [hpe]; rfl
      rw [z0] at h1
      rw [hY]
      rw [if_neg (by decide)]
      have wq := refWalk_pc [1, 2, 4] (by decide)
      have hse := (sim_all [1, 2, 4]).1
      refine run_sound 46 _ _ ?_
      simp -implicitDefEqProofs only [go_sem, h1, z0]
      refine run_weak 1000 ((weak_to [2, 3, 9, 98] [4] (st' := dfA ([1, 2, 4])) ?_ (by decide) (fun i h => by cases h)).trans (df_weak ([1, 2, 4]))) ?_
      focus
        simp -implicitDefEqProofs only [go_sem, St.keep, dfA, tpB, List.length_append, List.length_cons, List.length_nil, List.map_cons, List.map_nil, zA]
      unfold dfB
      simp -implicitDefEqProofs only [go_sem]
      refine call_pure 1000 wq ?_ rfl ?_
      focus
        simp -implicitDefEqProofs only [go_sem, tA, List.map_cons, List.map_nil, zA, iA]
        all_goals rfl
      rintro r (⟨e, w, T, he, hne, rfl⟩ | ⟨he, T, rfl⟩)
      focus
        have hb : (e != 0) = true := by simpa using hne
        rw [hse, he, tupE_bad _ hne]
        unfold rkV rkR
        simp -implicitDefEqProofs only [go_sem, hb]
      focus
        rw [hse, he, tupE_ok]
        unfold rkV rkR tZ
        simp -implicitDefEqProofs only [go_sem, bne_self_eq_false, List.map_cons, List.map_nil, zl_fzL, zA]
    obtain ⟨c, q, hpq⟩ : ∃ c q, p = c :: q := by
      cases p with
      | nil => exact absurd rfl hpe
      | cons c q => exact ⟨c, q, rfl⟩
    have hp0 : 0 < p.length := List.length_pos_iff.2 hpe
    have g0 := ceA_at p 0 hp0
    have hc0 : p.getD 0 ((0, 0), 0) ∈ p := by rw [List.getD_eq_getElem?_getD, List.getElem?_eq_getElem hp0]; exact List.getElem_mem hp0
    have hcb := hR _ hc0
    obtain ⟨K, hK⟩ : ∃ K : Nat, K = topK p := ⟨_, rfl⟩
    have hKy : (p.getD 0 ((0, 0), 0)).1.2 = -(K : Int) := by
      rw [hK, hpq]
      show c.1.2 = -(((-c.1.2).toNat : Nat) : Int)
      rw [hpq] at hcb
      have : -4000 ≤ c.1.1 ∧ c.1.1 ≤ 4000 ∧ -4000 ≤ c.1.2 ∧ c.1.2 ≤ -1 := hcb
      omega
    have hKb : 1 ≤ K ∧ K ≤ 4000 := by omega
    have tl := numD_len K 5 hKb.1
    have tc := number_pcon [1] K 5 hKb.1 (by omega) (by decide)
    obtain ⟨T1, hT1⟩ : ∃ T1, T1 = [1] ++ numD K 5 := ⟨_, rfl⟩
    rw [← hT1] at tc
    have hT1l : T1.length ≤ 4001 := by rw [hT1, List.length_append]; simp only [List.length_cons, List.length_nil]; omega
    have wr := rrows_pcon p K T1 (by omega) hKb.2 ho (fun d hd => by have := hR d hd; omega) (by omega)
    obtain ⟨Z, hZ⟩ : ∃ Z, Z = exitD (grpD (rowsDL p K)) T1 := ⟨_, rfl⟩
    rw [← hZ] at wr
    have hZl : Z.length < 1000000 := by
      have h1 := exitD_len (16010 + K) (grpD (rowsDL p K)) T1 (fun c hc => by
        have := grpD_len (rowsDL p K) (fun r hr => by
          obtain ⟨i, _, rfl⟩ := List.mem_map.1 hr
          exact rowD_bd ho 4000 (fun d hd => by have := hR d hd; omega) _) c hc
        rw [rowsDL_len] at this
        exact this)
      rw [← hZ] at h1
      omega
    have hY : tapeR p = Z ++ [2] ++ [4] := by
      rw [hZ, hT1, hK]
      unfold tapeR
      rw [if_neg hpe]
      simp only [List.append_assoc, List.cons_append, List.nil_append]
    have e0 : IntKind.i64.wrap (0 - -(K : Int)) = (K : Int) := by rw [wrap64 (by omega) (by omega)]; omega
    have e1 : ((0 : Int) < (p.length : Int)) = True := eq_true (by omega)
    have e2 : (0 < p.length) = True := eq_true hp0
    rw [hKy] at g0
    unfold tpB at tc wr
    rw [show List.map zA [1] = [AV.v (.int .i64 1)] from rfl, show ([1] : List Int).length = 1 from rfl] at tc
    have tk : ((Z ++ [2] ++ [4]).map zA).take (Z.length + 1 + 1) = (Z ++ [2] ++ [4]).map zA := List.take_of_length_le (by simp)
    have tk2 : (Z.length + 1 + 1 ≤ (Z ++ [2] ++ [4]).length) = True := eq_true (by simp)
    by_cases hlong : 4096 < (tapeR p).length
    focus
      have l1 : ((4096 : Int) < ((Z.length + 1 + 1 : Nat) : Int)) = True := eq_true (by rw [hY] at hlong; simp only [List.length_append, List.length_cons, List.length_nil] at hlong; omega)
      rw [if_pos hlong, tupE_bad _ (by decide)]
      refine run_sound 1000 _ _ ?_
      simp -implicitDefEqProofs only [go_sem, h1, e1, e2, e0, g0]
      (repeat' (first | exact trivial | contradiction | exact ⟨_, rfl⟩ | refine And.intro ?_ ?_ | (refine om ?_; omega) | (refine wait_draw 1000 mixed (by decide +kernel) ?_; simp -implicitDefEqProofs only [go_sem, h1, e0, e1, e2, g0, tk, tk2, List.length_append, List.length_cons, List.length_nil, l1]) | ((first | refine call_con_eq 1000 [0] (tc) ?_ ?_ ?_ | refine call_draw_con 1000 [0] (tc) (by decide +kernel) ?_ ?_ ?_); (focus (simp -implicitDefEqProofs only [go_sem, h1, e0, e1, e2, g0, tk, tk2, List.length_append, List.length_cons, List.length_nil, l1]; done)); (focus (simp -implicitDefEqProofs only [go_sem, h1, e0, e1, e2, g0, tk, tk2, List.length_append, List.length_cons, List.length_nil, l1]; done)); simp -implicitDefEqProofs only [go_sem, h1, e0, e1, e2, g0, tk, tk2, List.length_append, List.length_cons, List.length_nil, l1]) | ((first | refine call_con_eq 1000 [1] (wr) ?_ ?_ ?_ | refine call_draw_con 1000 [1] (wr) (by decide +kernel) ?_ ?_ ?_); (focus (simp -implicitDefEqProofs only [go_sem, h1, e0, e1, e2, g0, tk, tk2, List.length_append, List.length_cons, List.length_nil, l1]; done)); (focus (simp -implicitDefEqProofs only [go_sem, h1, e0, e1, e2, g0, tk, tk2, List.length_append, List.length_cons, List.length_nil, l1]; done)); simp -implicitDefEqProofs only [go_sem, h1, e0, e1, e2, g0, tk, tk2, List.length_append, List.length_cons, List.length_nil, l1]) | intro _))
    have l1 : ((4096 : Int) < ((Z.length + 1 + 1 : Nat) : Int)) = False := eq_false (by rw [hY] at hlong; simp only [List.length_append, List.length_cons, List.length_nil] at hlong; omega)
    rw [if_neg hlong]
    have wq := refWalk_pc (tapeR p) (by omega)
    have hse := (sim_all (tapeR p)).1
    rw [hY] at wq hse ⊢
    refine run_sound 1000 _ _ ?_
    simp -implicitDefEqProofs only [go_sem, h1, e1, e2, e0, g0]
    (repeat' (first | exact trivial | contradiction | exact ⟨_, rfl⟩ | refine And.intro ?_ ?_ | (refine om ?_; omega) | (refine wait_draw 1000 mixed (by decide +kernel) ?_; simp -implicitDefEqProofs only [go_sem, h1, e0, e1, e2, g0, tk, tk2, List.length_append, List.length_cons, List.length_nil, l1]) | ((first | refine call_con_eq 1000 [0] (tc) ?_ ?_ ?_ | refine call_draw_con 1000 [0] (tc) (by decide +kernel) ?_ ?_ ?_); (focus (simp -implicitDefEqProofs only [go_sem, h1, e0, e1, e2, g0, tk, tk2, List.length_append, List.length_cons, List.length_nil, l1]; done)); (focus (simp -implicitDefEqProofs only [go_sem, h1, e0, e1, e2, g0, tk, tk2, List.length_append, List.length_cons, List.length_nil, l1]; done)); simp -implicitDefEqProofs only [go_sem, h1, e0, e1, e2, g0, tk, tk2, List.length_append, List.length_cons, List.length_nil, l1]) | intro _))
    refine call_con_eq 24 [1] (wr) ?_ ?_ ?_ (by simp) (by simp) rfl (by first | (simp; done) | exact Nat.le_of_ble_eq_true rfl)
    focus
      simp -implicitDefEqProofs only [go_sem]
    focus
      simp -implicitDefEqProofs only [go_sem]
    simp -implicitDefEqProofs only [go_sem, h1, e0, e1, e2, g0, tk, tk2, List.length_append, List.length_cons, List.length_nil, l1]
    refine ⟨⟨by omega, by omega⟩, ⟨by omega, by omega⟩, ?_⟩
    refine run_weak 1000 ((weak_to [2, 3, 9, 98] [6] (st' := dfA (Z ++ [2] ++ [4])) ?_ (by decide) (fun i h => by cases h)).trans (df_weak (Z ++ [2] ++ [4]))) ?_
    focus
      simp -implicitDefEqProofs only [go_sem, St.keep, dfA, tpB, List.length_append, List.length_cons, List.length_nil, List.map_cons, List.map_nil, zA]
    unfold dfB
    simp -implicitDefEqProofs only [go_sem]
    refine call_pure 1000 wq ?_ rfl ?_
    focus
      simp -implicitDefEqProofs only [go_sem, tA, List.map_cons, List.map_nil, zA, iA]
      all_goals rfl
    rintro r (⟨e, w, T, he, hne, rfl⟩ | ⟨he, T, rfl⟩)
    focus
      have hb : (e != 0) = true := by simpa using hne
      rw [hse, he, tupE_bad _ hne]
      unfold rkV rkR
      simp -implicitDefEqProofs only [go_sem, hb]
    focus
      rw [hse, he, tupE_ok]
      unfold rkV rkR tZ
      simp -implicitDefEqProofs only [go_sem, bne_self_eq_false, List.map_cons, List.map_nil, zl_fzL, zA]
  · have hb : (properE p != 0) = true := by simpa using h0
    have hd : descE tapeR p = properE p := by unfold descE; rw [if_pos h0]
    rw [hd, tupE_bad _ h0]
    simp -implicitDefEqProofs only [go_sem]
    (repeat' (first | exact trivial | contradiction | exact ⟨_, rfl⟩ | refine And.intro ?_ ?_ | (refine om ?_; omega) | (refine wait_draw 1000 mixed (by decide +kernel) ?_; simp -implicitDefEqProofs only [go_sem, hb]) | ((first | refine call_eq 1000 (yc) ?_ ?_ rfl | refine call_draw 1000 (yc) ?_ ?_ | refine call_eq 1000 (pc) ?_ ?_ rfl | refine call_draw 1000 (pc) ?_ ?_); (focus (simp -implicitDefEqProofs only [go_sem, hb]; done)); simp -implicitDefEqProofs only [go_sem, hb]) | intro _))
end Go.Proofs.YtdgoompjoeffcaaGreat
