import Derived.Test.YtdgoompjoeffcaaGreatProg
import Derived.Test.YtdgoompjoeffcaaGreatPmY
import Derived.Test.YtdgoompjoeffcaaGreatRmA
import Derived.Test.YtdgoompjoeffcaaGreatDwQ
/- A tape that describes: the program's way, the last parts. -/
set_option linter.unusedSimpArgs false
set_option linter.unusedVariables false
set_option maxRecDepth 20000
open Go Go.Proofs
namespace Go.Proofs.YtdgoompjoeffcaaGreat
open Pm
attribute [local irreducible] Wait CallT CallW NextT Le Weak
theorem canon_pos : ∀ {l : List (Nat × Int)}, canon l → ∀ r ∈ l, 1 ≤ r.1
  | x :: l, h, r, hr => by
    rcases List.mem_cons.1 hr with rfl | hr
    · exact h.1
    · exact canon_pos h.2.2 r hr
theorem part_bd {w : List (Nat × Int)} {W : List Int} (hc : canon w) (hW : lineN w = W.map numF) (hl : W.length ≤ 4000) : w.length < 1000000 ∧ lineLen w ≤ 4000 ∧ (∀ x ∈ w, 1 ≤ x.1 ∧ x.1 < 10000000 ∧ 0 ≤ x.2 ∧ x.2 < 1000000) := by
  obtain ⟨h1, h2⟩ := canon_bound w hc
  have h3 : (lineN w).length = W.length := by rw [hW, List.length_map]
  refine ⟨by omega, by rw [lineLen_N]; omega, fun x hx => ?_⟩
  have h4 := canon_mem hc x hx
  rw [hW] at h4
  obtain ⟨a, _, e⟩ := List.mem_map.1 h4
  have h5 := numF_pos a
  have h6 := numF_le a
  have h7 := h2 x hx
  have h8 := canon_pos hc x hx
  omega
theorem rows_bd {p : List Ce} (hp : Desc p) (hr : roomOK p) (K : Nat) : ∀ r ∈ rowsP numF p K, (rowC r).length ≤ 16005 ∧ r.west.length < 1000000 ∧ r.east.length < 1000000 ∧ lineLen r.west < 10000000 ∧ lineLen r.east < 10000000 ∧ (∀ x ∈ r.west, 1 ≤ x.1 ∧ x.1 < 10000000 ∧ 0 ≤ x.2 ∧ x.2 < 1000000) ∧ (∀ x ∈ r.east, 1 ≤ x.1 ∧ x.1 < 10000000 ∧ 0 ≤ x.2 ∧ x.2 < 1000000) ∧ 0 ≤ r.mid ∧ r.mid < 1000000 := by
  intro r hrm
  obtain ⟨i, _, rfl⟩ := List.mem_map.1 hrm
  obtain ⟨e1, e2, e3, c1, c2, _, _, _⟩ := row_same hp ((i : Int) - (K : Int))
  obtain ⟨b1, b2⟩ := rowD_bd hp.ord 4000 (fun c hc => by have := hr c hc; omega) ((i : Int) - (K : Int))
  obtain ⟨p1, p2, p3⟩ := part_bd c1 e1 b1
  obtain ⟨q1, q2, q3⟩ := part_bd c2 e2 b2
  have h := rowC_len (rowP (rowCells numF p ((i : Int) - (K : Int))))
  have m1 := numF_pos (rowD p ((i : Int) - (K : Int))).mid
  have m2 := numF_le (rowD p ((i : Int) - (K : Int))).mid
  rw [← e3] at m1 m2
  exact ⟨by omega, p1, q1, by omega, by omega, p3, q3, by omega, by omega⟩
theorem le_junk (x : AV) : Le x .junk := by
  unfold Le
  intro w Z v h
  exact .junk _
theorem le_err (h : List (Option Blk)) (x : AV) (e : Int) : Le (fz h (.tup [x, .v (.int .i64 e)])) (.tup [.junk, .v (.int .i64 e)]) := by
  simp only [fz_tup, fzL_cons, fzL_nil, fz_v]
  exact Le.tup (.cons (le_junk _) (LeL.refl _))
def tZ (t : List Int) : AV := .fsl 1 (t.map zA)
theorem progWalk_pc (t : List Int) (hm : t.length < 9223372036854775808) : PCon Tryz.prog 20 [tZ t] (· = .tup [.junk, .v (.int .i64 (progWalk t).1)]) := by
  show PCon Tryz.prog 20 [tA t] _
  refine PCon.lift (pcon_of_con (walk_con t hm) ?_)
  rintro r h (⟨e, he, hne, rfl⟩ | ⟨he, rfl, rfl⟩)
  · exact ⟨_, by rw [he]; exact le_err _ _ _, rfl⟩
  · exact ⟨_, by rw [he]; exact le_err _ _ _, rfl⟩
section
variable {P : Program} {st : St} {K : Exit → St → Prop}
theorem rv_err {w w' : World} {ρ ρ' : Nat → Option Nat} {D D' Z Z' : Nat → Prop} {e x : Value} (h : RV w ρ D Z (.tup [.junk, .v e]) x) : RV w' ρ' D' Z' (.tup [.junk, .v e]) x := by
  obtain ⟨c, rfl, hl, h⟩ := h.tup_inv
  refine .tup hl fun i hi => ?_
  rcases i with _ | _ | i
  · exact .junk _
  · have := RV.v_inv (h 1 (by simp))
    show RV w' ρ' D' Z' (.v e) _
    rw [this]
    exact .v _
  · simp at hi; omega
/-- A call that reads live rows; of what comes back only a number is told. -/
theorem call_readJ (n : Nat) {f : FuncId} {args args' : List AV} {d : Option Tmp} {ops : Array Oper} {rest : List Oper} {t : List It} {e : Value} (c : PCon P f args' fun x => x = .tup [.junk, .v e]) (ha : fzL st.h args = args')
    (hk : run P n (.ops ops rest :: t) (st.put d (.tup [.junk, .v e])) K) (hd : okDst st.n d = true) : CallT P f args st d ops rest t K := by
  subst ha
  unfold CallT CallA
  intro B ρ D Z a w I cargs hl ha
  refine (c w (fun k => Z k ∨ ∃ id, ρ id = some k) cargs (by rw [fzL_length, hl]) (fun i hi => by rw [fzL_getD]; exact (ha i (by rwa [fzL_length] at hi)).fz I.h) (fun k hk => by
    rcases hk with hk | ⟨id, hk⟩
    · exact (I.h.z k hk).1
    · exact I.h.lt hk) ((B.gl.step I.h.step).weaken fun k hk => .inl hk)).mono ?_
  rintro e w' ⟨r, v, Z', rfl, q, hv, hb, hz⟩
  obtain ⟨s, H'⟩ := I.h.callee (w' := w') (Z' := fun _ => False) hb (fun k (h : False) => h.elim)
  rw [q] at hv
  exact ⟨v, _, ρ, D, _, rfl, run_sound n _ _ hk, (I.moved s H').puts hd (rv_err hv)⟩
end
end Go.Proofs.YtdgoompjoeffcaaGreat
/- A tape that describes: the program describes. -/
namespace Go.Proofs.YtdgoompjoeffcaaGreat
open Pm
attribute [local irreducible] Wait CallT CallW NextT Le Weak
open Classical in
noncomputable def descE (T : List Ce → List Int) (p : List Ce) : Int := if properE p ≠ 0 then properE p else if ¬ numOK p then 72 else if ¬ roomOK p then 74 else if 4096 < (T p).length then 71 else (progWalk (T p)).1
def tupE (t : List Int) (e : Int) : AV := .tup [if e = 0 then tZ t else .v (.slice none 0 0), .v (.int .i64 e)]
theorem tupE_bad (t : List Int) {e : Int} (h : e ≠ 0) : tupE t e = .tup [.v (.slice none 0 0), .v (.int .i64 e)] := by unfold tupE; rw [if_neg h]
theorem tupE_ok (t : List Int) : tupE t 0 = .tup [tZ t, .v (.int .i64 0)] := rfl
def dsS (p : List Ce) (k : Nat) : St := ⟨96, 0, [(0, .fsl 3 (ceL p)), (2, .v (.slice none 0 0)), (3, .v (.int .i64 0)), (21, .fsl 3 (ceL p)), (22, .v (.int .i64 (p.length : Int))), (23, .v (.int .i64 (k : Int)))], []⟩
def dsT (p : List Ce) (k : Nat) : St := ⟨96, 0, [(0, .fsl 3 (ceL p)), (2, .v (.slice none 0 0)), (3, .v (.int .i64 0)), (36, .fsl 3 (ceL p)), (37, .v (.int .i64 (p.length : Int))), (38, .v (.int .i64 (k : Int)))], []⟩
set_option maxHeartbeats 8000000 in
theorem describe_pc (p : List Ce) (hl : p.length < 9223372036854775808) (hs : ∀ c ∈ p, c.2 ≤ 9223372036854775807) : PCon Tryz.prog 5 [.fsl 3 (ceL p)] (· = tupE (tapeD p) (descE tapeD p)) := by
  refine pcon_run 1000 Tryz.func5 rfl Tryz.results5 Tryz.ntmps5 (Nat.le_of_ble_eq_true rfl) ?_
  have pc := properC_pc p hl hs
  unfold ruleA at pc
  simp only [iA] at pc
  by_cases h0 : properE p = 0
  · rw [h0] at pc
    obtain ⟨ho, hnz, hlen⟩ := properE_ok h0
    simp -implicitDefEqProofs only [go_sem]
    (repeat' (first | exact trivial | contradiction | exact ⟨_, rfl⟩ | refine And.intro ?_ ?_ | (refine om ?_; omega) | (refine wait_draw 1000 mixed (by decide +kernel) ?_; simp -implicitDefEqProofs only [go_sem, bne_self_eq_false]) | ((first | refine call_eq 1000 (pc) ?_ ?_ rfl | refine call_draw 1000 (pc) ?_ ?_); (focus (simp -implicitDefEqProofs only [go_sem, bne_self_eq_false]; done)); simp -implicitDefEqProofs only [go_sem, bne_self_eq_false]) | intro _))
    refine wait_range p.length (dsS p) (fun k => ∀ j, j < k → (WrittenNumberE (p.getD j ((0, 0), 0)).2).2 = 0) (weak_to [0, 2, 3, 21, 22, 23] [] ?_ (by decide) (fun i h => by cases h)) (fun j hj => by omega) ?_
    focus
      simp -implicitDefEqProofs only [go_sem, St.keep, dsS, Int.natCast_zero]
    intro k hk hG
    refine run_sound 1000 _ _ ?_
    unfold dsS
    by_cases hkl : k < p.length
    focus
      have h1 : ((k : Int) < (p.length : Int)) = True := eq_true (by omega)
      have h2 : (k < p.length) = True := eq_true hkl
      have ga := ceA_at p k hkl
      have hw1 : IntKind.i64.wrap ((k : Int) + 1) = ((k + 1 : Nat) : Int) := by rw [wrapN (by omega) (by omega)]; omega
      have nc := number_pc (p.getD k ((0, 0), 0)).2
      simp only [iA] at nc
      have hmem : p.getD k ((0, 0), 0) ∈ p := by rw [List.getD_eq_getElem?_getD, List.getElem?_eq_getElem hkl]; exact List.getElem_mem hkl
      by_cases hn : (WrittenNumberE (p.getD k ((0, 0), 0)).2).2 = 0
      focus
        rw [hn] at nc
        have hG' : ∀ j, j < k + 1 → (WrittenNumberE (p.getD j ((0, 0), 0)).2).2 = 0 := fun j hj => by
          by_cases e : j = k
          · subst e; exact hn
          · exact hG j (by omega)
        simp -implicitDefEqProofs only [go_sem, h1, h2, ga]
        (repeat' (first | exact trivial | contradiction | exact ⟨_, rfl⟩ | refine And.intro ?_ ?_ | (refine om ?_; omega) | (refine wait_draw 1000 mixed (by decide +kernel) ?_; simp -implicitDefEqProofs only [go_sem, h1, h2, ga, hw1, bne_self_eq_false]) | ((first | refine call_eq 1000 (nc) ?_ ?_ rfl | refine call_draw 1000 (nc) ?_ ?_); (focus (simp -implicitDefEqProofs only [go_sem, h1, h2, ga, hw1, bne_self_eq_false]; done)); simp -implicitDefEqProofs only [go_sem, h1, h2, ga, hw1, bne_self_eq_false]) | intro _))
        all_goals
          first
            | exact hG' _ (by assumption)
            | (refine weak_to [0, 2, 3, 21, 22, 23] [] ?_ (by decide) (fun i h => by cases h)
               simp -implicitDefEqProofs only [go_sem, St.keep]
               done)
      focus
        have hN : ¬ numOK p := fun h => hn (h _ hmem)
        have hd : descE tapeD p = 72 := by unfold descE; rw [if_neg (by omega), if_pos hN]
        rw [hd, tupE_bad _ (by decide)]
        have hb : ((WrittenNumberE (p.getD k ((0, 0), 0)).2).2 != 0) = true := by simpa using hn
        simp -implicitDefEqProofs only [go_sem, h1, h2, ga]
        (repeat' (first | exact trivial | contradiction | exact ⟨_, rfl⟩ | refine And.intro ?_ ?_ | (refine om ?_; omega) | (refine wait_draw 1000 mixed (by decide +kernel) ?_; simp -implicitDefEqProofs only [go_sem, h1, h2, ga, hb]) | ((first | refine call_eq 1000 (nc) ?_ ?_ rfl | refine call_draw 1000 (nc) ?_ ?_); (focus (simp -implicitDefEqProofs only [go_sem, h1, h2, ga, hb]; done)); simp -implicitDefEqProofs only [go_sem, h1, h2, ga, hb]) | intro _))
    obtain rfl : k = p.length := by omega
    have hN : numOK p := fun c hc => by
      obtain ⟨j, hj, rfl⟩ := List.mem_iff_getElem.1 hc
      have := hG j hj
      rw [List.getD_eq_getElem?_getD, List.getElem?_eq_getElem hj] at this
      exact this
    have h1 : ((p.length : Int) < (p.length : Int)) = False := eq_false (by omega)
    clear hG hk hkl
    simp -implicitDefEqProofs only [go_sem, h1]
    refine wait_range p.length (dsT p) (fun k => ∀ j, j < k → -4000 ≤ (p.getD j ((0, 0), 0)).1.1 ∧ (p.getD j ((0, 0), 0)).1.1 ≤ 4000 ∧ -4000 ≤ (p.getD j ((0, 0), 0)).1.2 ∧ (p.getD j ((0, 0), 0)).1.2 ≤ -1) (weak_to [0, 2, 3, 36, 37, 38] [] ?_ (by decide) (fun i h => by cases h)) (fun j hj => by omega) ?_
    focus
      simp -implicitDefEqProofs only [go_sem, St.keep, dsT, Int.natCast_zero]
    clear h1
    intro k hk hG
    refine run_sound 1000 _ _ ?_
    unfold dsT
    by_cases hkl : k < p.length
    focus
      have h1 : ((k : Int) < (p.length : Int)) = True := eq_true (by omega)
      have h2 : (k < p.length) = True := eq_true hkl
      have ga := ceA_at p k hkl
      have hw1 : IntKind.i64.wrap ((k : Int) + 1) = ((k + 1 : Nat) : Int) := by rw [wrapN (by omega) (by omega)]; omega
      have hmem : p.getD k ((0, 0), 0) ∈ p := by rw [List.getD_eq_getElem?_getD, List.getElem?_eq_getElem hkl]; exact List.getElem_mem hkl
      have hG' : -4000 ≤ (p.getD k ((0, 0), 0)).1.1 ∧ (p.getD k ((0, 0), 0)).1.1 ≤ 4000 ∧ -4000 ≤ (p.getD k ((0, 0), 0)).1.2 ∧ (p.getD k ((0, 0), 0)).1.2 ≤ -1 → ∀ j, j < k + 1 → -4000 ≤ (p.getD j ((0, 0), 0)).1.1 ∧ (p.getD j ((0, 0), 0)).1.1 ≤ 4000 ∧ -4000 ≤ (p.getD j ((0, 0), 0)).1.2 ∧ (p.getD j ((0, 0), 0)).1.2 ≤ -1 := fun h j hj => by
        by_cases e : j = k
        · subst e; exact h
        · exact hG j (by omega)
      have hbad : ¬ (-4000 ≤ (p.getD k ((0, 0), 0)).1.1 ∧ (p.getD k ((0, 0), 0)).1.1 ≤ 4000 ∧ -4000 ≤ (p.getD k ((0, 0), 0)).1.2 ∧ (p.getD k ((0, 0), 0)).1.2 ≤ -1) → descE tapeD p = 74 := fun h => by
        unfold descE
        rw [if_neg (by omega), if_neg (fun g => g hN), if_pos (fun g => h (g _ hmem))]
      generalize p.getD k ((0, 0), 0) = c at ga hG' hbad
      obtain ⟨⟨x, y⟩, s⟩ := c
      simp only at ga hG' hbad
      by_cases hx1 : x < -4000
      focus
        have hd := hbad (fun h => by omega)
        have c1 : (x < -4000) = True := eq_true hx1
        rw [hd, tupE_bad _ (by decide)]
        simp -implicitDefEqProofs only [go_sem, h1, h2, ga, c1]
      have c1 : (x < -4000) = False := eq_false hx1
      by_cases hx2 : 4000 < x
      focus
        have hd := hbad (fun h => by omega)
        have c2 : (4000 < x) = True := eq_true hx2
        rw [hd, tupE_bad _ (by decide)]
        simp -implicitDefEqProofs only [go_sem, h1, h2, ga, c1, c2]
      have c2 : (4000 < x) = False := eq_false hx2
      by_cases hy1 : y < -4000
      focus
        have hd := hbad (fun h => by omega)
        have c3 : (y < -4000) = True := eq_true hy1
        rw [hd, tupE_bad _ (by decide)]
        simp -implicitDefEqProofs only [go_sem, h1, h2, ga, c1, c2, c3]
      have c3 : (y < -4000) = False := eq_false hy1
      by_cases hy2 : -1 < y
      focus
        have hd := hbad (fun h => by omega)
        have c4 : (-1 < y) = True := eq_true hy2
        rw [hd, tupE_bad _ (by decide)]
        simp -implicitDefEqProofs only [go_sem, h1, h2, ga, c1, c2, c3, c4]
      have c4 : (-1 < y) = False := eq_false hy2
      have hn := hG' (by omega)
      simp -implicitDefEqProofs only [go_sem, h1, h2, ga, c1, c2, c3, c4, hw1]
      refine ⟨hn, weak_to [0, 2, 3, 36, 37, 38] [] ?_ (by decide) (fun i h => by cases h)⟩
      simp -implicitDefEqProofs only [go_sem, St.keep]
    obtain rfl : k = p.length := by omega
    have hR : roomOK p := fun c hc => by
      obtain ⟨j, hj, rfl⟩ := List.mem_iff_getElem.1 hc
      have := hG j hj
      rw [List.getD_eq_getElem?_getD, List.getElem?_eq_getElem hj] at this
      exact this
    have h1 : ((p.length : Int) < (p.length : Int)) = False := eq_false (by omega)
    clear hG hk hkl
    have hp : Desc p := ⟨ho, hnz, hN, fun c hc => (hR c hc).2.2.2⟩
    have hd : descE tapeD p = if 4096 < (tapeD p).length then 71 else (progWalk (tapeD p)).1 := by
      unfold descE
      rw [if_neg (by omega), if_neg (fun g => g hN), if_neg (fun g => g hR)]
    rw [hd]
    by_cases hpe : p = []
    focus
      have hY : tapeD p = [1, 2, 4] := by rw [hpe]; rfl
      have z0 : (p.length : Int) = 0 := by rw [hpe]; rfl
      rw [z0] at h1
      have wc := progWalk_pc [1, 2, 4] (by decide)
      rw [hY]
      rw [if_neg (by decide)]
      generalize (progWalk [1, 2, 4]).1 = e at wc ⊢
      unfold tZ at wc
      simp only [List.map_cons, List.map_nil, zA] at wc
      by_cases he : e = 0
      focus
        subst he
        rw [tupE_ok]
        unfold tZ
        simp -implicitDefEqProofs only [go_sem, h1, z0]
        refine call_readJ 1000 wc ?_ ?_ rfl
        focus
          simp -implicitDefEqProofs only [go_sem]
        simp -implicitDefEqProofs only [go_sem, h1, z0, bne_self_eq_false, List.map_cons, List.map_nil, zA]
      focus
        have hb : (e != 0) = true := by simpa using he
        rw [tupE_bad _ he]
        simp -implicitDefEqProofs only [go_sem, h1, z0]
        refine call_readJ 1000 wc ?_ ?_ rfl
        focus
          simp -implicitDefEqProofs only [go_sem]
        simp -implicitDefEqProofs only [go_sem, h1, z0, hb]
    obtain ⟨c, q, hpq⟩ : ∃ c q, p = c :: q := by
      cases p with
      | nil => exact absurd rfl hpe
      | cons c q => exact ⟨c, q, rfl⟩
    have hp0 : 0 < p.length := List.length_pos_iff.2 hpe
    have g0 := ceA_at p 0 hp0
    have hc0 : p.getD 0 ((0, 0), 0) ∈ p := by rw [List.getD_eq_getElem?_getD, List.getElem?_eq_getElem hp0]; exact List.getElem_mem hp0
    have hcb := hR _ hc0
    obtain ⟨K, hK⟩ : ∃ K : Nat, K = topK p := ⟨_, rfl⟩
    have hKy : (p.getD 0 ((0, 0), 0)).1.2 = -(K : Int) := by
      rw [hK, hpq]
      show c.1.2 = -(((-c.1.2).toNat : Nat) : Int)
      rw [hpq] at hcb
      have : -4000 ≤ c.1.1 ∧ c.1.1 ≤ 4000 ∧ -4000 ≤ c.1.2 ∧ c.1.2 ≤ -1 := hcb
      omega
    have hKb : 1 ≤ K ∧ K ≤ 4000 := by omega
    have hbd := rows_bd hp hR K
    have hlenR := rowsP_len numF p K
    have hgl := grpC_len 16005 (by decide) (rowsP numF p K) fun r hr => (hbd r hr).1
    rw [hlenR] at hgl
    have tl := times_len K 5
    have tc := times_pc [1] K 5 hKb.1 (by omega) (by decide)
    obtain ⟨T1, hT1⟩ : ∃ T1, T1 = [1] ++ timesP K 5 := ⟨_, rfl⟩
    rw [← hT1] at tc
    have hT1l : T1.length ≤ 4001 := by rw [hT1, List.length_append]; simp only [List.length_cons, List.length_nil]; omega
    have rc := rowsOf_pc p K hpe (by omega) (by omega) hKy ho (fun d hd => by
      have h1 := (hR d hd).2.2
      have h2 : -(K : Int) ≤ d.1.2 := by
        obtain ⟨j, hj, rfl⟩ := List.mem_iff_getElem.1 hd
        by_cases hj0 : j = 0
        · subst hj0
          rw [List.getD_eq_getElem?_getD, List.getElem?_eq_getElem hp0] at hKy
          simp only [Option.getD_some] at hKy
          omega
        · have := List.pairwise_iff_getElem.1 ho 0 j hp0 hj (by omega)
          rw [List.getD_eq_getElem?_getD, List.getElem?_eq_getElem hp0] at hKy
          simp only [Option.getD_some] at hKy
          omega
      exact ⟨h2, h1.2⟩) (fun d hd => by have := hR d hd; omega)
    have wr := rows_con T1 (rowsP numF p K) (by rw [List.length_append]; omega) (by omega) (fun r hr => (hbd r hr).2)
    obtain ⟨Z, hZ⟩ : ∃ Z, Z = T1 ++ grpC (rowsP numF p K) := ⟨_, rfl⟩
    rw [← hZ] at wr
    have hY : tapeD p = Z ++ [2, 4] := by
      rw [hZ, hT1, hK]
      unfold tapeD bodyD grpC
      rw [if_neg hpe]
      simp only [List.append_assoc, List.cons_append, List.nil_append]
    have hZl : Z.length < 100000000 := by rw [hZ, List.length_append]; omega
    generalize rowsP numF p K = RR at rc wr
    have e0 : IntKind.i64.wrap (0 - -(K : Int)) = (K : Int) := by rw [wrap64 (by omega) (by omega)]; omega
    have e1 : ((0 : Int) < (p.length : Int)) = True := eq_true (by omega)
    have e2 : (0 < p.length) = True := eq_true hp0
    rw [hKy] at g0
    unfold tpB wrB at tc wr
    rw [show List.map zA [1] = [AV.v (.int .i64 1)] from rfl, show ([1] : List Int).length = 1 from rfl] at tc
    have tk : ((Z ++ [2, 4]).map zA).take (Z.length + 2) = (Z ++ [2, 4]).map zA := List.take_of_length_le (by simp)
    have tk2 : (Z.length + 2 ≤ (Z ++ [2, 4]).length) = True := eq_true (by simp)
    by_cases hlong : 4096 < (tapeD p).length
    focus
      have l1 : ((4096 : Int) < ((Z.length + 2 : Nat) : Int)) = True := eq_true (by rw [hY, List.length_append] at hlong; simp only [List.length_cons, List.length_nil] at hlong; omega)
      rw [if_pos hlong, tupE_bad _ (by decide)]
      simp -implicitDefEqProofs only [go_sem, h1, e1, e2, e0, g0]
      (repeat' (first | exact trivial | contradiction | exact ⟨_, rfl⟩ | refine And.intro ?_ ?_ | (refine om ?_; omega) | (refine wait_draw 1000 mixed (by decide +kernel) ?_; simp -implicitDefEqProofs only [go_sem, l1, h1, e0, e1, e2, g0, tk, tk2]) | ((first | refine call_eq 1000 (rc) ?_ ?_ rfl | refine call_draw 1000 (rc) ?_ ?_); (focus (simp -implicitDefEqProofs only [go_sem, l1, h1, e0, e1, e2, g0, tk, tk2]; done)); simp -implicitDefEqProofs only [go_sem, l1, h1, e0, e1, e2, g0, tk, tk2]) | ((first | refine call_con_eq 1000 [1, 0] (tc) ?_ ?_ ?_ | refine call_draw_con 1000 [1, 0] (tc) (by decide +kernel) ?_ ?_ ?_); (focus (simp -implicitDefEqProofs only [go_sem, l1, h1, e0, e1, e2, g0, tk, tk2]; done)); (focus (simp -implicitDefEqProofs only [go_sem, l1, h1, e0, e1, e2, g0, tk, tk2]; done)); simp -implicitDefEqProofs only [go_sem, l1, h1, e0, e1, e2, g0, tk, tk2]) | ((first | refine call_con_eq 1000 [1, 2] (wr) ?_ ?_ ?_ | refine call_draw_con 1000 [1, 2] (wr) (by decide +kernel) ?_ ?_ ?_); (focus (simp -implicitDefEqProofs only [go_sem, l1, h1, e0, e1, e2, g0, tk, tk2]; done)); (focus (simp -implicitDefEqProofs only [go_sem, l1, h1, e0, e1, e2, g0, tk, tk2]; done)); simp -implicitDefEqProofs only [go_sem, l1, h1, e0, e1, e2, g0, tk, tk2]) | intro _))
    by_cases he : (progWalk (tapeD p)).1 = 0
    focus
      have l1 : ((4096 : Int) < ((Z.length + 2 : Nat) : Int)) = False := eq_false (by rw [hY, List.length_append] at hlong; simp only [List.length_cons, List.length_nil] at hlong; omega)
      rw [if_neg hlong]
      have wc := progWalk_pc (tapeD p) (by omega)
      rw [he] at wc ⊢
      rw [tupE_ok, hY]
      rw [hY] at wc 
      unfold tZ at wc ⊢
      simp -implicitDefEqProofs only [go_sem, h1, e1, e2, e0, g0]
      (repeat' (first | exact trivial | contradiction | exact ⟨_, rfl⟩ | refine And.intro ?_ ?_ | (refine om ?_; omega) | (refine wait_draw 1000 mixed (by decide +kernel) ?_; simp -implicitDefEqProofs only [go_sem, l1, h1, e0, e1, e2, g0, tk, tk2, bne_self_eq_false]) | ((first | refine call_eq 1000 (rc) ?_ ?_ rfl | refine call_draw 1000 (rc) ?_ ?_); (focus (simp -implicitDefEqProofs only [go_sem, l1, h1, e0, e1, e2, g0, tk, tk2, bne_self_eq_false]; done)); simp -implicitDefEqProofs only [go_sem, l1, h1, e0, e1, e2, g0, tk, tk2, bne_self_eq_false]) | ((first | refine call_con_eq 1000 [1, 0] (tc) ?_ ?_ ?_ | refine call_draw_con 1000 [1, 0] (tc) (by decide +kernel) ?_ ?_ ?_); (focus (simp -implicitDefEqProofs only [go_sem, l1, h1, e0, e1, e2, g0, tk, tk2, bne_self_eq_false]; done)); (focus (simp -implicitDefEqProofs only [go_sem, l1, h1, e0, e1, e2, g0, tk, tk2, bne_self_eq_false]; done)); simp -implicitDefEqProofs only [go_sem, l1, h1, e0, e1, e2, g0, tk, tk2, bne_self_eq_false]) | ((first | refine call_con_eq 1000 [1, 2] (wr) ?_ ?_ ?_ | refine call_draw_con 1000 [1, 2] (wr) (by decide +kernel) ?_ ?_ ?_); (focus (simp -implicitDefEqProofs only [go_sem, l1, h1, e0, e1, e2, g0, tk, tk2, bne_self_eq_false]; done)); (focus (simp -implicitDefEqProofs only [go_sem, l1, h1, e0, e1, e2, g0, tk, tk2, bne_self_eq_false]; done)); simp -implicitDefEqProofs only [go_sem, l1, h1, e0, e1, e2, g0, tk, tk2, bne_self_eq_false]) | intro _))
      refine call_readJ 1000 wc ?_ ?_ rfl
      focus
        simp -implicitDefEqProofs only [go_sem, tk, tk2]
      simp -implicitDefEqProofs only [go_sem, l1, h1, e0, e1, e2, g0, tk, tk2, bne_self_eq_false]
    focus
      have l1 : ((4096 : Int) < ((Z.length + 2 : Nat) : Int)) = False := eq_false (by rw [hY, List.length_append] at hlong; simp only [List.length_cons, List.length_nil] at hlong; omega)
      rw [if_neg hlong]
      have wc := progWalk_pc (tapeD p) (by omega)
      have hb : ((progWalk (tapeD p)).1 != 0) = true := by simpa using he
      rw [tupE_bad _ he]
      rw [hY] at wc hb ⊢
      unfold tZ at wc 
      simp -implicitDefEqProofs only [go_sem, h1, e1, e2, e0, g0]
      (repeat' (first | exact trivial | contradiction | exact ⟨_, rfl⟩ | refine And.intro ?_ ?_ | (refine om ?_; omega) | (refine wait_draw 1000 mixed (by decide +kernel) ?_; simp -implicitDefEqProofs only [go_sem, l1, h1, e0, e1, e2, g0, tk, tk2, hb]) | ((first | refine call_eq 1000 (rc) ?_ ?_ rfl | refine call_draw 1000 (rc) ?_ ?_); (focus (simp -implicitDefEqProofs only [go_sem, l1, h1, e0, e1, e2, g0, tk, tk2, hb]; done)); simp -implicitDefEqProofs only [go_sem, l1, h1, e0, e1, e2, g0, tk, tk2, hb]) | ((first | refine call_con_eq 1000 [1, 0] (tc) ?_ ?_ ?_ | refine call_draw_con 1000 [1, 0] (tc) (by decide +kernel) ?_ ?_ ?_); (focus (simp -implicitDefEqProofs only [go_sem, l1, h1, e0, e1, e2, g0, tk, tk2, hb]; done)); (focus (simp -implicitDefEqProofs only [go_sem, l1, h1, e0, e1, e2, g0, tk, tk2, hb]; done)); simp -implicitDefEqProofs only [go_sem, l1, h1, e0, e1, e2, g0, tk, tk2, hb]) | ((first | refine call_con_eq 1000 [1, 2] (wr) ?_ ?_ ?_ | refine call_draw_con 1000 [1, 2] (wr) (by decide +kernel) ?_ ?_ ?_); (focus (simp -implicitDefEqProofs only [go_sem, l1, h1, e0, e1, e2, g0, tk, tk2, hb]; done)); (focus (simp -implicitDefEqProofs only [go_sem, l1, h1, e0, e1, e2, g0, tk, tk2, hb]; done)); simp -implicitDefEqProofs only [go_sem, l1, h1, e0, e1, e2, g0, tk, tk2, hb]) | intro _))
      refine call_readJ 1000 wc ?_ ?_ rfl
      focus
        simp -implicitDefEqProofs only [go_sem, tk, tk2]
      simp -implicitDefEqProofs only [go_sem, l1, h1, e0, e1, e2, g0, tk, tk2, hb]
  · have hb : (properE p != 0) = true := by simpa using h0
    have hd : descE tapeD p = properE p := by unfold descE; rw [if_pos h0]
    rw [hd, tupE_bad _ h0]
    simp -implicitDefEqProofs only [go_sem]
    (repeat' (first | exact trivial | contradiction | exact ⟨_, rfl⟩ | refine And.intro ?_ ?_ | (refine om ?_; omega) | (refine wait_draw 1000 mixed (by decide +kernel) ?_; simp -implicitDefEqProofs only [go_sem, hb]) | ((first | refine call_eq 1000 (pc) ?_ ?_ rfl | refine call_draw 1000 (pc) ?_ ?_); (focus (simp -implicitDefEqProofs only [go_sem, hb]; done)); simp -implicitDefEqProofs only [go_sem, hb]) | intro _))
end Go.Proofs.YtdgoompjoeffcaaGreat
