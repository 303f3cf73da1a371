import Derived.Test.YtdgoompjoeffcaaGreatProg
import Derived.Test.YtdgoompjoeffcaaGreatPmY
import Derived.Test.YtdgoompjoeffcaaGreatRmA
import Derived.Test.YtdgoompjoeffcaaGreatYaJ
/- What a tape means, the document's way: the table of places, a plain law. -/
set_option linter.unusedSimpArgs false
set_option linter.unusedVariables false
set_option maxRecDepth 20000
open Go Go.Proofs
namespace Go.Proofs.YtdgoompjoeffcaaGreat
open Pm
attribute [local irreducible] Wait CallT CallW NextT Le Weak
def kF (p : Pl) : List Pl → Nat → Option Nat
  | [], _ => none
  | q :: l, n => if p = q then some n else kF p l (n + 1)
/-- The number of a place, -1 if it is none. -/
def kI (K : List Pl) (p : Pl) : Int := match kF p K 0 with
  | some i => (i : Int)
  | none => -1
theorem kF_some {p : Pl} : ∀ {l : List Pl} {n i : Nat}, kF p l n = some i → n ≤ i ∧ i < n + l.length ∧ l[i - n]? = some p
  | [], n, i, h => by cases h
  | q :: l, n, i, h => by
    simp only [kF] at h
    split at h
    · rename_i e; cases h; exact ⟨Nat.le_refl _, by simp, by simp [e]⟩
    · have := kF_some h
      refine ⟨by omega, by simp only [List.length_cons]; omega, ?_⟩
      rw [show i - n = (i - (n + 1)) + 1 by omega, List.getElem?_cons_succ]
      exact this.2.2
theorem kF_none {p : Pl} : ∀ {l : List Pl} {n : Nat}, kF p l n = none ↔ p ∉ l
  | [], n => by simp [kF]
  | q :: l, n => by
    simp only [kF, List.mem_cons, not_or]
    split
    · rename_i e; simp [e]
    · rename_i e; rw [kF_none]; simp [e]
theorem kF_at {p : Pl} : ∀ {l : List Pl} {n i : Nat}, l.Nodup → l[i]? = some p → kF p l n = some (n + i)
  | [], n, i, _, h => by simp at h
  | q :: l, n, 0, _, h => by simp only [List.getElem?_cons_zero, Option.some.injEq] at h; simp [kF, h]
  | q :: l, n, i + 1, hn, h => by
    simp only [List.getElem?_cons_succ] at h
    have hm : p ∈ l := List.mem_of_getElem? h
    have hq : p ≠ q := fun e => (List.nodup_cons.1 hn).1 (e ▸ hm)
    simp only [kF, if_neg hq, kF_at (List.nodup_cons.1 hn).2 h]
    rw [show n + 1 + i = n + (i + 1) by omega]
theorem kI_none {K : List Pl} {p : Pl} (h : p ∉ K) : kI K p = -1 := by unfold kI; rw [kF_none.2 h]
theorem kI_at {K : List Pl} {p : Pl} {i : Nat} (hn : K.Nodup) (h : K[i]? = some p) : kI K p = i := by unfold kI; rw [kF_at hn h]; simp
theorem kI_mem {K : List Pl} {p : Pl} (h : p ∈ K) : ∃ i : Nat, kI K p = i ∧ i < K.length ∧ K[i]? = some p := by
  cases hk : kF p K 0 with
  | none => exact absurd h (kF_none.1 hk)
  | some i =>
    have := kF_some hk
    exact ⟨i, by unfold kI; rw [hk], by omega, by simpa using this.2.2⟩
/-- The first m places lie in the table. -/
structure Tab (T : List Int) (K : List Pl) (m : Nat) : Prop where
  pos : m < T.length
  rng : ∀ h, h < T.length → T.getD h 0 < 0 ∨ (T.getD h 0).toNat < m
  chain : ∀ i, i < m → ∃ d, T.getD ((hash0 (K.getD i (0, 0)).1 (K.getD i (0, 0)).2 T.length + d) % T.length) 0 = (i : Int) ∧
    ∀ e, e < d → 0 ≤ T.getD ((hash0 (K.getD i (0, 0)).1 (K.getD i (0, 0)).2 T.length + e) % T.length) 0
  cnt : (T.filter fun v => decide (0 ≤ v)).length ≤ m
theorem filter_all {l : List Int} {p : Int → Bool} (h : ∀ i, i < l.length → p (l.getD i 0) = true) : (l.filter p).length = l.length := by
  induction l with
  | nil => rfl
  | cons a l ih =>
    have h0 := h 0 (by simp)
    simp only [List.getD_cons_zero] at h0
    rw [List.filter_cons_of_pos h0]
    simp only [List.length_cons]
    rw [ih fun i hi => by have := h (i + 1) (by simpa using hi); simpa using this]
theorem Tab.empty {T : List Int} {K : List Pl} {m : Nat} (h : Tab T K m) : ∃ z, z < T.length ∧ T.getD z 0 < 0 := by
  refine Classical.byContradiction fun hc => ?_
  have := filter_all (l := T) (p := fun v => decide (0 ≤ v)) fun i hi => by
    have : ¬ T.getD i 0 < 0 := fun h0 => hc ⟨i, hi, h0⟩
    simp only [decide_eq_true_eq]; omega
  have h1 := h.cnt
  have h2 := h.pos
  omega
theorem reach {n h z : Nat} (hh : h < n) (hz : z < n) : ∃ d, (h + d) % n = z := by
  rcases Nat.lt_or_ge z h with h1 | h1
  · exact ⟨z + n - h, by rw [show h + (z + n - h) = z + n by omega, Nat.add_mod_right, Nat.mod_eq_of_lt hz]⟩
  · exact ⟨z - h, by rw [show h + (z - h) = z by omega, Nat.mod_eq_of_lt hz]⟩
theorem least {p : Nat → Bool} : ∀ {d : Nat}, p d = false → ∃ e, p e = false ∧ ∀ k, k < e → p k = true
  | 0, h => ⟨0, h, fun k hk => by omega⟩
  | d + 1, h => by
    by_cases h0 : ∃ e, e ≤ d ∧ p e = false
    · obtain ⟨e, he, hp⟩ := h0
      exact least (d := e) hp
    · refine ⟨d + 1, h, fun k hk => ?_⟩
      cases hp : p k with
      | true => rfl
      | false => exact absurd ⟨k, by omega, hp⟩ h0
  termination_by d => d
  decreasing_by omega
/-- Where a place is found, or would be put. -/
theorem Tab.find {T : List Int} {K : List Pl} {m : Nat} (h : Tab T K m) (hm : m ≤ K.length) (hn : K.Nodup) (x y : Int) :
    ∃ d, (∀ e, e < d → occ T (K.map Prod.fst) (K.map Prod.snd) x y ((hash0 x y T.length + e) % T.length) = true) ∧ occ T (K.map Prod.fst) (K.map Prod.snd) x y ((hash0 x y T.length + d) % T.length) = false ∧
      ((x, y) ∈ K.take m → T.getD ((hash0 x y T.length + d) % T.length) 0 = kI K (x, y)) ∧ ((x, y) ∉ K.take m → T.getD ((hash0 x y T.length + d) % T.length) 0 < 0) := by
  have hT : 0 < T.length := Nat.lt_of_le_of_lt (Nat.zero_le _) h.pos
  obtain ⟨z, hz, hzn⟩ := h.empty
  obtain ⟨d0, hd0⟩ := reach (hash_lt x y hT) hz
  obtain ⟨d, hd, hlt⟩ := least (p := fun e => occ T (K.map Prod.fst) (K.map Prod.snd) x y ((hash0 x y T.length + e) % T.length)) (d := d0) (by simp only [hd0, occ]; rw [decide_eq_false (by omega)]; rfl)
  refine ⟨d, hlt, hd, ?_, ?_⟩
  · intro hmem
    obtain ⟨i, hi, hik⟩ := List.getElem_of_mem hmem
    have hi' : i < m := by simp only [List.length_take] at hi; omega
    have hKi : K[i]? = some (x, y) := by rw [← hik, List.getElem_take, List.getElem?_eq_getElem]
    have hKd : K.getD i (0, 0) = (x, y) := by rw [List.getD_eq_getElem?_getD, hKi]; rfl
    obtain ⟨c, hc, hce⟩ := h.chain i hi'
    rw [hKd] at hc hce
    simp only at hc hce
    have hfree : occ T (K.map Prod.fst) (K.map Prod.snd) x y ((hash0 x y T.length + c) % T.length) = false := by
      simp only [occ, hc]
      have h1 : (K.map Prod.fst).getD i 0 = x := by simp [List.getD_eq_getElem?_getD, hKi]
      have h2 : (K.map Prod.snd).getD i 0 = y := by simp [List.getD_eq_getElem?_getD, hKi]
      simp only [Int.toNat_natCast, h1, h2]; simp
    have hdc : d ≤ c := by
      rcases Nat.lt_or_ge c d with h1 | h1
      · have := hlt c h1; simp only [hfree] at this; cases this
      · exact h1
    have hv : 0 ≤ T.getD ((hash0 x y T.length + d) % T.length) 0 := by
      rcases Nat.lt_or_ge d c with h1 | h1
      · exact hce d h1
      · rw [show d = c by omega, hc]; omega
    obtain ⟨v, hvv⟩ : ∃ v, v = T.getD ((hash0 x y T.length + d) % T.length) 0 := ⟨_, rfl⟩
    have hvm : v.toNat < m := by
      rcases h.rng _ (Nat.mod_lt (hash0 x y T.length + d) hT) with h1 | h1
      · omega
      · rw [hvv]; exact h1
    simp only [occ, ← hvv] at hd
    rw [← hvv] at hv ⊢
    have hX : (K.map Prod.fst).getD v.toNat 0 = (K.getD v.toNat (0, 0)).1 := by simp [List.getD_eq_getElem?_getD, show v.toNat < K.length by omega]
    have hY : (K.map Prod.snd).getD v.toNat 0 = (K.getD v.toNat (0, 0)).2 := by simp [List.getD_eq_getElem?_getD, show v.toNat < K.length by omega]
    rw [hX, hY] at hd
    simp only [Bool.and_eq_false_iff, Bool.or_eq_false_iff, decide_eq_false_iff_not, Decidable.not_not] at hd
    rcases hd with hd | ⟨hd1, hd2⟩
    · exact absurd hv hd
    · have : K[v.toNat]? = some (x, y) := by
        rw [List.getElem?_eq_getElem (by omega)]
        rw [List.getD_eq_getElem?_getD, List.getElem?_eq_getElem (by omega)] at hd1 hd2
        exact congrArg some (Prod.ext hd1 hd2)
      rw [kI_at hn this]; omega
  · intro hmem
    obtain ⟨v, hvv⟩ : ∃ v, v = T.getD ((hash0 x y T.length + d) % T.length) 0 := ⟨_, rfl⟩
    simp only [occ, ← hvv] at hd
    rw [← hvv]
    refine Classical.byContradiction fun hv => ?_
    have hvm : v.toNat < m := by
      rcases h.rng _ (Nat.mod_lt (hash0 x y T.length + d) hT) with h1 | h1
      · omega
      · rw [hvv]; exact h1
    have hX : (K.map Prod.fst).getD v.toNat 0 = (K.getD v.toNat (0, 0)).1 := by simp [List.getD_eq_getElem?_getD, show v.toNat < K.length by omega]
    have hY : (K.map Prod.snd).getD v.toNat 0 = (K.getD v.toNat (0, 0)).2 := by simp [List.getD_eq_getElem?_getD, show v.toNat < K.length by omega]
    rw [hX, hY] at hd
    simp only [Bool.and_eq_false_iff, Bool.or_eq_false_iff, decide_eq_false_iff_not, Decidable.not_not] at hd
    rcases hd with hd | ⟨hd1, hd2⟩
    · exact hd (by omega)
    · apply hmem
      rw [List.getD_eq_getElem?_getD, List.getElem?_eq_getElem (by omega)] at hd1 hd2
      have : K[v.toNat] = (x, y) := Prod.ext hd1 hd2
      rw [← this]
      have hl : v.toNat < (K.take m).length := by rw [List.length_take]; omega
      rw [show K[v.toNat] = (K.take m)[v.toNat] by rw [List.getElem_take]]
      exact List.getElem_mem hl
/-- A place is put where it would be found. -/
theorem Tab.put {T : List Int} {K : List Pl} {m : Nat} (h : Tab T K m) (hm : m < K.length) (hT : m + 1 < T.length) {d : Nat}
    (ho : ∀ e, e < d → 0 ≤ T.getD ((hash0 (K.getD m (0, 0)).1 (K.getD m (0, 0)).2 T.length + e) % T.length) 0) (hd : T.getD ((hash0 (K.getD m (0, 0)).1 (K.getD m (0, 0)).2 T.length + d) % T.length) 0 < 0) :
    Tab (T.set ((hash0 (K.getD m (0, 0)).1 (K.getD m (0, 0)).2 T.length + d) % T.length) (m : Int)) K (m + 1) := by
  obtain ⟨z, hz⟩ : ∃ z, z = (hash0 (K.getD m (0, 0)).1 (K.getD m (0, 0)).2 T.length + d) % T.length := ⟨_, rfl⟩
  rw [← hz] at hd ⊢
  have hzn : z < T.length := by rw [hz]; exact Nat.mod_lt _ (by omega)
  have hget : ∀ i, (T.set z (m : Int)).getD i 0 = if i = z then (m : Int) else T.getD i 0 := fun i => by
    rw [List.getD_eq_getElem?_getD, List.getElem?_set]
    by_cases hi : z = i
    · subst hi; simp [hzn]
    · rw [if_neg hi, if_neg (Ne.symm hi), List.getD_eq_getElem?_getD]
  have keep : ∀ i, 0 ≤ T.getD i 0 → (T.set z (m : Int)).getD i 0 = T.getD i 0 := fun i hi => by
    rw [hget, if_neg]
    rintro rfl
    omega
  refine ⟨by rw [List.length_set]; exact hT, fun i hi => ?_, fun i hi => ?_, ?_⟩
  · rw [hget]
    split
    · right; omega
    · rcases h.rng i (by simpa using hi) with h1 | h1
      · exact .inl h1
      · right; omega
  · rw [List.length_set]
    rcases Nat.lt_or_ge i m with him | him
    · obtain ⟨c, hc, hce⟩ := h.chain i him
      refine ⟨c, ?_, fun e he => ?_⟩
      · rw [keep _ (by rw [hc]; omega), hc]
      · rw [keep _ (hce e he)]; exact hce e he
    · have : i = m := by omega
      subst this
      refine ⟨d, ?_, fun e he => ?_⟩
      · rw [← hz, hget, if_pos rfl]
      · rw [keep _ (ho e he)]; exact ho e he
  · have key : ∀ (l : List Int) (i : Nat) (v : Int), ((l.set i v).filter fun v => decide (0 ≤ v)).length ≤ (l.filter fun v => decide (0 ≤ v)).length + 1 := by
      intro l
      induction l with
      | nil => intro i v; simp
      | cons a l ih =>
        intro i v
        cases i with
        | zero =>
          simp only [List.set_cons_zero, List.filter_cons]
          split <;> split <;> (try simp only [List.length_cons]) <;> omega
        | succ i =>
          simp only [List.set_cons_succ, List.filter_cons]
          have := ih i v
          split <;> simp <;> omega
    have := key T z m
    have := h.cnt
    omega
theorem Tab.new {n : Nat} (hn : 0 < n) (K : List Pl) : Tab (List.replicate n (-1)) K 0 := by
  refine ⟨by simpa using hn, fun h hh => ?_, fun i hi => by omega, ?_⟩
  · left; simp at hh; simp [List.getD_eq_getElem?_getD, hh]
  · rw [List.filter_replicate]; simp
end Go.Proofs.YtdgoompjoeffcaaGreat
/- What a tape means, the document's way: places known, places that an arm faces. -/
namespace Go.Proofs.YtdgoompjoeffcaaGreat
open Pm
attribute [local irreducible] Wait CallT CallW NextT Le Weak
def xsA (K : List Pl) : List AV := (K.map Prod.fst).map iA
def ysA (K : List Pl) : List AV := (K.map Prod.snd).map iA
theorem known_pc (T : List Int) (K : List Pl) (x y : Int) (rest : List AV) (hT : Tab T K K.length) (hn : K.Nodup) (hn' : T.length < 1000000000) (hx : -100000 ≤ x ∧ x ≤ 100000) (hy : -100000 ≤ y ∧ y ≤ 100000) (hr : ∀ f, AV.renL f rest = rest)
    (hneg : ∀ h, h < T.length → -1 ≤ T.getD h 0) :
    PCon Tryz.prog 86 [.fptr (.fsl 1 (T.map iA) :: .fsl 1 (xsA K) :: .fsl 1 (ysA K) :: rest), .v (.int .i64 x), .v (.int .i64 y)] (· = .v (.int .i64 (kI K (x, y)))) := by
  have hp := hT.pos
  obtain ⟨d, h1, h2, h3, h4⟩ := hT.find (Nat.le_refl _) hn x y
  have hlt := Nat.mod_lt (hash0 x y T.length + d) (show 0 < T.length by omega)
  have hv : T.getD ((hash0 x y T.length + d) % T.length) 0 = kI K (x, y) := by
    by_cases hm : (x, y) ∈ K
    · exact h3 (by rw [List.take_length]; exact hm)
    · have h5 := h4 (by rw [List.take_length]; exact hm)
      have := hneg _ hlt
      rw [kI_none hm]; omega
  have hs := slot_pc T (K.map Prod.fst) (K.map Prod.snd) x y rest d (by omega) hn' hx hy (by simp) (by simp; omega) hr (fun e _ => by
    rcases hT.rng _ (Nat.mod_lt (hash0 x y T.length + e) (show 0 < T.length by omega)) with h | h
    · rw [List.length_map]; omega
    · rw [List.length_map]; omega) h1 h2
  obtain ⟨p, hpz⟩ : ∃ p, p = (hash0 x y T.length + d) % T.length := ⟨_, rfl⟩
  rw [← hpz] at hs hv hlt
  have hg := getD_iA T p hlt
  rw [hv] at hg
  have hlt2 : ((p : Int) < (T.length : Int)) = True := eq_true (by omega)
  have hz : ((T.length : Int) = 0) = False := eq_false (by omega)
  simp only [iA] at hg
  refine pcon_run 1000 Tryz.func86 rfl Tryz.results86 Tryz.ntmps86 (Nat.le_of_ble_eq_true rfl) ?_
  simp -implicitDefEqProofs only [go_sem, xsA, ysA, hz]
  (repeat' (first | exact trivial | contradiction | exact ⟨_, rfl⟩ | refine And.intro ?_ ?_ | (refine om ?_; omega) | (refine wait_draw 1000 mixed (by decide +kernel) ?_; simp -implicitDefEqProofs only [go_sem, xsA, ysA, hz, hg, hlt2, hr, renL_iA]) | ((first | refine call_eq 1000 (hs) ?_ ?_ rfl | refine call_draw 1000 (hs) ?_ ?_); (focus (simp -implicitDefEqProofs only [go_sem, xsA, ysA, hz, hg, hlt2, hr, renL_iA]; done)); simp -implicitDefEqProofs only [go_sem, xsA, ysA, hz, hg, hlt2, hr, renL_iA]) | intro _))
/-- Whether an arm that was written faces a place: is there one on side d? -/
def faceB (K : List Pl) (S : List Int) (p : Pl) (d : Int) : Bool :=
  let k := kI K (onP p d)
  decide (0 ≤ k) && (decide (kindOf (S.getD k.toNat 0) = 9) && decide (dirOf (S.getD k.toNat 0) = (d + 2) % 4))
def facedB (K : List Pl) (S : List Int) (p : Pl) : Bool := faceB K S p 0 || (faceB K S p 1 || (faceB K S p 2 || faceB K S p 3))
theorem kI_lt (K : List Pl) (p : Pl) : -1 ≤ kI K p ∧ kI K p < K.length := by
  by_cases h : p ∈ K
  · obtain ⟨i, h1, h2, -⟩ := kI_mem h
    rw [h1]; omega
  · rw [kI_none h]; omega
theorem facedB_true {K : List Pl} {S : List Int} {p : Pl} {k : Nat} (hk : k < 4) (h : faceB K S p k = true) : facedB K S p = true := by
  unfold facedB
  have : k = 0 ∨ k = 1 ∨ k = 2 ∨ k = 3 := by omega
  rcases this with rfl | rfl | rfl | rfl
  · have h' : faceB K S p 0 = true := h
    simp [h']
  · have h' : faceB K S p 1 = true := h
    simp [h']
  · have h' : faceB K S p 2 = true := h
    simp [h']
  · have h' : faceB K S p 3 = true := h
    simp [h']
theorem facedB_false {K : List Pl} {S : List Int} {p : Pl} (h : ∀ j : Nat, j < 4 → faceB K S p j = false) : facedB K S p = false := by
  unfold facedB
  have h0 : faceB K S p 0 = false := h 0 (by omega)
  have h1 : faceB K S p 1 = false := h 1 (by omega)
  have h2 : faceB K S p 2 = false := h 2 (by omega)
  have h3 : faceB K S p 3 = false := h 3 (by omega)
  simp [h0, h1, h2, h3]
theorem ryard10 (s : Int) : ∃ a2 a3 a4 a5 a6 a7 a8 a9, (RefYardOfE s).1 = [kindOf s, dirOf s, a2, a3, a4, a5, a6, a7, a8, a9] := by rw [← yard_eq]; exact yard10 s
theorem faced_pc (T : List Int) (K : List Pl) (S : List Int) (x y : Int) (rest : List AV) (hT : Tab T K K.length) (hn : K.Nodup) (hn' : T.length < 1000000000) (hx : -90000 ≤ x ∧ x ≤ 90000) (hy : -90000 ≤ y ∧ y ≤ 90000) (hr : ∀ f, AV.renL f rest = rest)
    (hneg : ∀ h, h < T.length → -1 ≤ T.getD h 0) (hS : S.length = K.length) :
    PCon Tryz.prog 87 [.fptr (.fsl 1 (T.map iA) :: .fsl 1 (xsA K) :: .fsl 1 (ysA K) :: .fsl 1 (S.map iA) :: rest), .v (.int .i64 x), .v (.int .i64 y)] (· = .v (.bool (facedB K S (x, y)))) := by
  have hp := hT.pos
  refine pcon_run 1000 Tryz.func87 rfl Tryz.results87 Tryz.ntmps87 (Nat.le_of_ble_eq_true rfl) ?_
  simp -implicitDefEqProofs only [go_sem, xsA, ysA]
  refine wait_range 4 (fun k => ⟨52, 0, [(0, .fptr (.fsl 1 (T.map iA) :: .fsl 1 (xsA K) :: .fsl 1 (ysA K) :: .fsl 1 (S.map iA) :: rest)), (1, .v (.int .i64 x)), (2, .v (.int .i64 y)), (7, .v (.int .i64 (k : Int)))], []⟩)
    (fun k => ∀ j : Nat, j < k → faceB K S (x, y) j = false) (weak_to [0, 1, 2, 7] [] ?_ (by simp) (fun i h => by cases h)) (fun j hj => by omega) ?_
  · simp -implicitDefEqProofs only [go_sem, St.keep, xsA, ysA, renL_iA, hr, Int.natCast_zero]
  · intro k hk hG
    refine run_sound 1000 _ _ ?_
    by_cases hk4 : k < 4
    · have hlt : ((k : Int) < 4) = True := eq_true (by omega)
      obtain ⟨a, b, hab⟩ : ∃ a b, onP (x, y) k = (a, b) := ⟨_, _, rfl⟩
      have hon := next_pc x y k (by omega) (by omega) (by omega) (by omega) (by omega) (by omega)
      rw [hab] at hon
      have hbd : (-100000 ≤ a ∧ a ≤ 100000) ∧ (-100000 ≤ b ∧ b ≤ 100000) := by
        unfold onP at hab
        split at hab
        · cases hab; omega
        · split at hab
          · cases hab; omega
          · split at hab
            · cases hab; omega
            · cases hab; omega
      have hkn := known_pc T K a b (.fsl 1 (S.map iA) :: rest) hT hn hn' hbd.1 hbd.2 (fun f => by simp only [renL_cons, ren_fsl, renL_iA, hr]) hneg
      simp only [xsA, ysA] at hkn
      have hk1 := kI_lt K (a, b)
      obtain ⟨v, hv⟩ : ∃ v, v = kI K (a, b) := ⟨_, rfl⟩
      rw [← hv] at hkn hk1
      have hw1 : IntKind.i64.wrap ((k : Int) + 1) = ((k + 1 : Nat) : Int) := by rw [wrap64 (by omega) (by omega)]; omega
      have hw2 : IntKind.i64.wrap ((k : Int) + 2) = (k : Int) + 2 := wrap64 (by omega) (by omega)
      have hw3 : ((k : Int) + 2).tmod 4 = ((k : Int) + 2) % 4 := Int.tmod_eq_emod_of_nonneg (by omega)
      have hw4 : IntKind.i64.wrap (((k : Int) + 2) % 4) = ((k : Int) + 2) % 4 := wrap64 (by omega) (by omega)
      have hface : faceB K S (x, y) k = (decide (0 ≤ v) && (decide (kindOf (S.getD v.toNat 0) = 9) && decide (dirOf (S.getD v.toNat 0) = ((k : Int) + 2) % 4))) := by
        simp only [faceB, hab, ← hv]
      have hnext : faceB K S (x, y) k = false → ∀ j : Nat, j < k + 1 → faceB K S (x, y) j = false := fun h j hj => by
        rcases Nat.lt_or_ge j k with h1 | h1
        · exact hG j h1
        · rw [show j = k by omega]; exact h
      by_cases hv0 : v < 0
      · have f1 : (v < 0) = True := eq_true hv0
        have hF : faceB K S (x, y) k = false := by rw [hface, decide_eq_false (by omega)]; rfl
        simp -implicitDefEqProofs only [go_sem, xsA, ysA, hlt]
        (repeat' (first | exact trivial | contradiction | exact ⟨_, rfl⟩ | refine And.intro ?_ ?_ | (refine om ?_; omega) | (refine wait_draw 1000 mixed (by decide +kernel) ?_; simp -implicitDefEqProofs only [go_sem, xsA, ysA, hlt, hr, renL_iA, f1]) | ((first | refine call_eq 1000 (hon) ?_ ?_ rfl | refine call_draw 1000 (hon) ?_ ?_ | refine call_eq 1000 (hkn) ?_ ?_ rfl | refine call_draw 1000 (hkn) ?_ ?_); (focus (simp -implicitDefEqProofs only [go_sem, xsA, ysA, hlt, hr, renL_iA, f1]; done)); simp -implicitDefEqProofs only [go_sem, xsA, ysA, hlt, hr, renL_iA, f1]) | intro _))
        all_goals first
          | exact hnext hF _ ‹_›
          | ((refine weak_to [0, 1, 2, 7] [] ?_ (by simp) (fun i h => by cases h); simp -implicitDefEqProofs only [go_sem, St.keep, xsA, ysA, renL_iA, hr, hw1]; done))
      · have f1 : (v < 0) = False := eq_false hv0
        have f2 : (0 ≤ v) = True := eq_true (by omega)
        have f3 : (v < (S.length : Int)) = True := eq_true (by omega)
        have hg := getD_iA S v.toNat (by omega)
        obtain ⟨a2, a3, a4, a5, a6, a7, a8, a9, hy10⟩ := ryard10 (S.getD v.toNat 0)
        have hyp := refYardOf_pc (S.getD v.toNat 0)
        rw [hy10] at hyp
        simp only [yA, iA, List.map_cons, List.map_nil] at hyp
        simp only [iA] at hg
        simp -implicitDefEqProofs only [go_sem, xsA, ysA, hlt]
        (repeat' (first | exact trivial | contradiction | exact ⟨_, rfl⟩ | refine And.intro ?_ ?_ | (refine om ?_; omega) | (refine wait_draw 1000 mixed (by decide +kernel) ?_; simp -implicitDefEqProofs only [go_sem, xsA, ysA, hlt, hr, renL_iA, f1, f2, f3, hg, hw1, hw2, hw3, hw4]) | ((first | refine call_eq 1000 (hon) ?_ ?_ rfl | refine call_draw 1000 (hon) ?_ ?_ | refine call_eq 1000 (hkn) ?_ ?_ rfl | refine call_draw 1000 (hkn) ?_ ?_ | refine call_eq 1000 (hyp) ?_ ?_ rfl | refine call_draw 1000 (hyp) ?_ ?_); (focus (simp -implicitDefEqProofs only [go_sem, xsA, ysA, hlt, hr, renL_iA, f1, f2, f3, hg, hw1, hw2, hw3, hw4]; done)); simp -implicitDefEqProofs only [go_sem, xsA, ysA, hlt, hr, renL_iA, f1, f2, f3, hg, hw1, hw2, hw3, hw4]) | intro _))
        all_goals first
          | (have hF : faceB K S (x, y) k = true := by
               rw [hface]; simp only [Bool.and_eq_true, decide_eq_true_eq]; exact ⟨by omega, ‹_›, ‹_›⟩
             rw [facedB_true hk4 hF]; done)
          | (have hF : faceB K S (x, y) k = false := by
               rw [hface]; simp only [Bool.and_eq_false_iff, decide_eq_false_iff_not]; first | exact .inr (.inl ‹_›) | exact .inr (.inr ‹_›)
             first
             | exact hnext hF _ ‹_›
             | ((refine weak_to [0, 1, 2, 7] [] ?_ (by simp) (fun i h => by cases h); simp -implicitDefEqProofs only [go_sem, St.keep, xsA, ysA, renL_iA, hr, hw1]; done)))
    · have hlt : ((k : Int) < 4) = False := eq_false (by omega)
      have hk5 : k = 4 := by omega
      subst hk5
      simp -implicitDefEqProofs only [go_sem, xsA, ysA, hlt]
      rw [facedB_false hG]
end Go.Proofs.YtdgoompjoeffcaaGreat
