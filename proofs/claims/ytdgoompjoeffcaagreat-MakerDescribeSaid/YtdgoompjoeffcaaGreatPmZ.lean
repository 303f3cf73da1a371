import Derived.Test.YtdgoompjoeffcaaGreatPmY
/- PM, part Z: rows cut short; maps by places. -/
set_option linter.unusedSimpArgs false
set_option linter.unusedVariables false
namespace Go.Proofs.YtdgoompjoeffcaaGreat
namespace Pm
/-! ### A row cut short -/
section
variable {B : Base} {w : World} {ρ : Nat → Option Nat} {D Z : Nat → Prop} {h : List (Option Blk)} {P : Program}
theorem HR.cut (H : HR B w ρ D Z h) {id sz : Nat} {e : TypeId} {es : List AV} (k : Nat) (hb : h[id]? = some (some (.row e sz es))) : HR B w ρ D Z (h.set id (some (.row e sz (es.take k)))) := by
  have hlt := (List.getElem?_eq_some_iff.1 hb).1
  have hg : ∀ i, i ≠ id → (h.set id (some (.row e sz (es.take k))))[i]? = h[i]? := fun i hi => List.getElem?_set_ne (Ne.symm hi)
  have hs : (h.set id (some (.row e sz (es.take k))))[id]? = some (some (.row e sz (es.take k))) := by simp [hlt]
  refine ⟨fun i b hi => ?_, fun i q hq => ?_, fun i hd => ?_, H.inj, H.own, H.z, H.fr, H.os, H.tape, H.output, H.size, H.step, H.zg⟩
  · by_cases hid : i = id
    · subst hid
      rw [hs] at hi
      cases hi
      obtain ⟨g, hr, c, fr, h1, h2, h3, h4, h5⟩ := H.live i _ hb
      have hl : (es.take k).length ≤ es.length := by simp; omega
      have hget : ∀ j, j < (es.take k).length → (es.take k).getD j .junk = es.getD j .junk := fun j hj => by
        have : j < k := by simp at hj; omega
        simp [List.getD_eq_getElem?_getD, this]
      refine ⟨g, hr, c, fr, h1, h2, Nat.le_trans (Nat.mul_le_mul_right _ hl) h3, fun j hj => ?_, fun j m hj hm => ?_⟩
      · rw [hget j hj]; exact h4 j (by omega)
      · rw [hget j hj]; exact h5 j m (by omega) hm
    · rw [hg i hid] at hi
      exact H.live i b hi
  · by_cases hid : i = id
    · subst hid; exact ⟨_, hs⟩
    · rw [hg i hid]; exact H.only i q hq
  · by_cases hid : i = id
    · subst hid
      have := H.dead i hd
      rw [this] at hb
      cases hb
    · rw [hg i hid]; exact H.dead i hd
theorem HR.back (H : HR B w ρ D Z h) {id : Nat} {cur ks vs : List AV} (hb : h[id]? = some (some (.it cur ks vs))) : HR B w ρ D Z (h.set id (some (.it [] ks vs))) := by
  have hlt := (List.getElem?_eq_some_iff.1 hb).1
  have hg : ∀ i, i ≠ id → (h.set id (some (.it [] ks vs)))[i]? = h[i]? := fun i hi => List.getElem?_set_ne (Ne.symm hi)
  have hs : (h.set id (some (.it [] ks vs)))[id]? = some (some (.it [] ks vs)) := by simp [hlt]
  refine ⟨fun i b hi => ?_, fun i q hq => ?_, fun i hd => ?_, H.inj, H.own, H.z, H.fr, H.os, H.tape, H.output, H.size, H.step, H.zg⟩
  · by_cases hid : i = id
    · subst hid
      rw [hs] at hi
      cases hi
      obtain ⟨g, hr, gm, since, seen, last, ents, clock, hc, hz, hm, hst, h1, h2, h3, h4, h5, h6, h7⟩ := H.live i _ hb
      exact ⟨g, hr, gm, since, seen, last, ents, clock, hc, hz, hm, hst, h1, h2, h3, h4, h5, h6, .inl rfl⟩
    · rw [hg i hid] at hi
      exact H.live i b hi
  · by_cases hid : i = id
    · subst hid; exact ⟨_, hs⟩
    · rw [hg i hid]; exact H.only i q hq
  · by_cases hid : i = id
    · subst hid
      have := H.dead i hd
      rw [this] at hb
      cases hb
    · rw [hg i hid]; exact H.dead i hd
/-- An iterator, its entry forgotten. -/
theorem weak_it (id : Nat) {st : St} {cur ks vs : List AV} (hb : st.h[id]? = some (some (.it cur ks vs))) : Weak st { st with h := st.h.set id (some (.it [] ks vs)) } := by
  intro B ρ D Z a w I
  exact ⟨ρ, D, Z, I.n, I.env, I.h.back hb, I.bm, I.defers⟩
theorem Con.cut {f : FuncId} {args : List AV} {r : AV} {h1 h2 : List (Option Blk)} {id sz : Nat} {e : TypeId} {es : List AV} (c : Con P f args h fun x y => x = r ∧ y = h1) (k : Nat) (hb : h1[id]? = some (some (.row e sz es)))
    (he : h2 = h1.set id (some (.row e sz (es.take k)))) : Con P f args h fun x y => x = r ∧ y = h2 :=
  fun B cargs hl ha hh => (c B cargs hl ha hh).mono fun _ _ ⟨r', v, h', ρ', D', Z', e1, q, e2, e3⟩ => by
    obtain ⟨q1, q2⟩ := q
    subst q2 he
    exact ⟨r', v, _, ρ', D', Z', e1, ⟨q1, rfl⟩, e2, e3.cut k hb⟩
def stayB (n len : Nat) (ids : List Nat) : Bool := (List.range n).all fun i => match ids[i]? with
  | some j => j == i || decide (len ≤ j)
  | none => false
theorem stay_of {n len : Nat} {ids : List Nat} (h : stayB n len ids = true) : ∀ i, i < n → ∃ j, ids[i]? = some j ∧ (j = i ∨ len ≤ j) := fun i hi => by
  simp only [stayB, List.all_eq_true, List.mem_range] at h
  have := h i hi
  split at this
  · rename_i j hj
    refine ⟨j, hj, ?_⟩
    simpa using this
  · cases this
/-- What a call leaves, renamed and forgotten: the blocks that came in stay where they are or are given up. -/
theorem Con.keep {f : FuncId} {args : List AV} {r r' : AV} {h1 h2 : List (Option Blk)} (c : Con P f args h fun x y => x = r ∧ y = h1) (ids : List Nat) (hr : r.ren (idxOf ids) = r') (he : ids.map (keepB h1 ids) = h2) (hn : ids.Nodup)
    (hm : ∀ i, i < h.length → ∃ j, ids[i]? = some j ∧ (j = i ∨ h1.length ≤ j)) : Con P f args h fun x y => x = r' ∧ y = h2 :=
  fun B cargs hl ha hh => (c B cargs hl ha hh).mono fun _ _ ⟨x, v, h', ρ', D', Z', e1, q, e2, e3⟩ => by
    obtain ⟨rfl, rfl⟩ := q
    have I : Inv B ρ' D' Z' ⟨1, h.length, [(0, x)], h'⟩ (⟨#[v], B.df⟩ : Act) _ := ⟨rfl, fun n => by
      simp only [look]
      split
      · rename_i e; subst e; exact e2
      · exact .junk _, e3, fun id hid => by
        rcases hid with ⟨g, hg⟩ | hd
        · obtain ⟨b, hb⟩ := hh.only id g hg
          exact (List.getElem?_eq_some_iff.1 hb).1
        · exact (List.getElem?_eq_some_iff.1 (hh.dead id hd)).1, rfl⟩
    obtain ⟨ρ2, D2, Z2, I2⟩ := weak_move [0] ids hn hm B ρ' D' Z' _ _ I
    refine ⟨_, v, _, ρ2, D2, Z2, e1, ⟨hr, he⟩, ?_, I2.h⟩
    have := I2.env 0
    simpa [St.keep, look] using this
/-- Likewise, told at each end. -/
theorem Con.move {f : FuncId} {args : List AV} {Q : AV → List (Option Blk) → Prop} (c : Con P f args h fun r h' => ∃ ids : List Nat, ids.Nodup ∧ stayB h.length h'.length ids = true ∧ Q (r.ren (idxOf ids)) (ids.map (keepB h' ids))) : Con P f args h Q :=
  fun B cargs hl ha hh => (c B cargs hl ha hh).mono fun _ _ ⟨x, v, h', ρ', D', Z', e1, ⟨ids, hn, hs, q⟩, e2, e3⟩ => by
    have I : Inv B ρ' D' Z' ⟨1, h.length, [(0, x)], h'⟩ (⟨#[v], B.df⟩ : Act) _ := ⟨rfl, fun n => by
      simp only [look]
      split
      · rename_i e; subst e; exact e2
      · exact .junk _, e3, fun id hid => by
        rcases hid with ⟨g, hg⟩ | hd
        · obtain ⟨b, hb⟩ := hh.only id g hg
          exact (List.getElem?_eq_some_iff.1 hb).1
        · exact (List.getElem?_eq_some_iff.1 (hh.dead id hd)).1, rfl⟩
    obtain ⟨ρ2, D2, Z2, I2⟩ := weak_move [0] ids hn (stay_of hs) B ρ' D' Z' _ _ I
    refine ⟨_, v, _, ρ2, D2, Z2, e1, q, ?_, I2.h⟩
    have := I2.env 0
    simpa [St.keep, look] using this
/-- Blocks of which less is said. -/
def WeakH (h h' : List (Option Blk)) : Prop := ∀ (B : Base) (w : World) (ρ : Nat → Option Nat) (D Z : Nat → Prop), HR B w ρ D Z h → HR B w ρ D Z h'
theorem WeakH.refl (h : List (Option Blk)) : WeakH h h := fun _ _ _ _ _ H => H
theorem WeakH.trans {a b c : List (Option Blk)} (x : WeakH a b) (y : WeakH b c) : WeakH a c := fun B w ρ D Z H => y B w ρ D Z (x B w ρ D Z H)
theorem cutH (id : Nat) {sz : Nat} {e : TypeId} {es : List AV} (k : Nat) (hb : h[id]? = some (some (.row e sz es))) : WeakH h (h.set id (some (.row e sz (es.take k)))) := fun _ _ _ _ _ H => H.cut k hb
theorem Con.wk {f : FuncId} {args : List AV} {Q : AV → List (Option Blk) → Prop} (c : Con P f args h fun r h' => ∃ h2, WeakH h' h2 ∧ Q r h2) : Con P f args h Q :=
  fun B cargs hl ha hh => (c B cargs hl ha hh).mono fun _ _ ⟨x, v, h', ρ', D', Z', e1, ⟨h2, hw, q⟩, e2, e3⟩ => ⟨x, v, h2, ρ', D', Z', e1, q, e2, hw _ _ _ _ _ e3⟩
end
section
variable {P : Program} {st st' : St} {K : Exit → St → Prop} {ops : Array Oper} {rest : List Oper} {t : List It}
/-- In the middle of a region something may be forgotten, or told whole. -/
theorem run_weak (n : Nat) (hw : Weak st st') (h : run P n (.ops ops rest :: t) st' K) : run P 0 (.ops ops rest :: t) st K := by
  simp only [run]
  exact TriT.weak hw trivial (run_sound n _ _ h)
theorem run_again (n : Nat) {t : List It} (h : run P n t st K) : run P 0 t st K := by
  simp only [run]
  exact run_sound n _ _ h
end
/-! ### Maps by places -/
abbrev Pl := Int × Int
def kA (p : Pl) : AV := .agg [.v (.int .i64 p.1), .v (.int .i64 p.2)]
def bA (b : Bool) : AV := .v (.bool b)
section
variable {α : Type}
def afind (p : Pl) : List (Pl × α) → Nat → Option (Nat × α)
  | [], _ => none
  | (q, a) :: l, n => if p = q then some (n, a) else afind p l (n + 1)
def aget (d : α) (p : Pl) : List (Pl × α) → α
  | [] => d
  | (q, a) :: l => if p = q then a else aget d p l
def aput (p : Pl) (v : α) : List (Pl × α) → List (Pl × α)
  | [] => [(p, v)]
  | (q, a) :: l => if p = q then (p, v) :: l else (q, a) :: aput p v l
def adel (p : Pl) : List (Pl × α) → List (Pl × α)
  | [] => []
  | (q, a) :: l => if p = q then l else (q, a) :: adel p l
/-- A map by places, told to the reckoning. -/
def mE (f : α → AV) (l : List (Pl × α)) : List (AV × AV) := l.map fun e => (kA e.1, f e.2)
def mK (l : List (Pl × α)) : List AV := l.map fun e => kA e.1
def mV (f : α → AV) (l : List (Pl × α)) : List AV := l.map fun e => f e.2
def rget (f : α → AV) (p : Pl) (l : List (Pl × α)) : Option (Nat × AV) := (afind p l 0).map fun r => (r.1, f r.2)
theorem mE_len (f : α → AV) (l : List (Pl × α)) : (mE f l).length = l.length := by simp [mE]
theorem mK_len (l : List (Pl × α)) : (mK l).length = l.length := by simp [mK]
theorem mV_len (f : α → AV) (l : List (Pl × α)) : (mV f l).length = l.length := by simp [mV]
theorem mE_fst (f : α → AV) (l : List (Pl × α)) : (mE f l).map Prod.fst = mK l := by simp [mE, mK]
theorem mE_snd (f : α → AV) (l : List (Pl × α)) : (mE f l).map Prod.snd = mV f l := by simp [mE, mV]
theorem mE_fst' (f : α → AV) (l : List (Pl × α)) (n : AV → AV) (hn : ∀ p, n (kA p) = kA p) : ((mE f l).map fun x => n x.1) = mK l := by simp [mE, mK, hn]
theorem mE_snd' (f : α → AV) (l : List (Pl × α)) (n : AV → AV) (hn : ∀ a, n (f a) = f a) : ((mE f l).map fun x => n x.2) = mV f l := by simp [mE, mV, hn]
theorem mE_zip (f : α → AV) (l : List (Pl × α)) : (mK l).zip (mV f l) = mE f l := by
  induction l with
  | nil => rfl
  | cons a l ih => simpa [mK, mV, mE] using ih
theorem mE_map (f : α → AV) (l : List (Pl × α)) (n : AV → AV) (hn : ∀ p, n (kA p) = kA p) (hf : ∀ a, n (f a) = f a) : ((mE f l).map fun x => (n x.1, n x.2)) = mE f l := by simp [mE, hn, hf]
theorem kA_ren (f : Nat → Option Nat) (p : Pl) : (kA p).ren f = kA p := by simp [kA, AV.ren, AV.renL]
theorem kA_fy (h : List (Option Blk)) (p : Pl) : fy h (kA p) = kA p := by simp [kA, fy_agg, fyL_cons, fyL_nil, fy_v]
theorem kA_fz (h : List (Option Blk)) (p : Pl) : fz h (kA p) = kA p := by simp [kA, fz_agg, fzL_cons, fzL_nil, fz_v]
theorem kA_frz (id : Nat) (b : Blk) (p : Pl) : AV.frz id b (kA p) = kA p := by simp [kA, AV.frz, AV.frzL]
/-- What lies in no live block, whatever is asked of it. -/
structure Plain (f : α → AV) : Prop where
  ren : ∀ g a, (f a).ren g = f a
  fy : ∀ h a, fy h (f a) = f a
  fz : ∀ h a, fz h (f a) = f a
  frz : ∀ id b a, AV.frz id b (f a) = f a
theorem plain_v (g : α → Value) : Plain fun a => .v (g a) := ⟨fun _ _ => by simp only [AV.ren], fun _ _ => by simp only [fy_v], fun _ _ => by simp only [fz_v], fun _ _ _ => by simp only [frz_v]⟩
theorem plain_bA : Plain bA := plain_v _
theorem plain_iA : Plain iA := plain_v _
theorem mE_ren {f : α → AV} (hf : Plain f) (g : Nat → Option Nat) (l : List (Pl × α)) : ((mE f l).map fun x => (x.1.ren g, x.2.ren g)) = mE f l := mE_map f l (AV.ren g) (kA_ren g) (hf.ren g)
theorem mE_frz {f : α → AV} (hf : Plain f) (id : Nat) (b : Blk) (l : List (Pl × α)) : ((mE f l).map fun x => (AV.frz id b x.1, AV.frz id b x.2)) = mE f l := mE_map f l (AV.frz id b) (kA_frz id b) (hf.frz id b)
theorem mK_ren (g : Nat → Option Nat) (l : List (Pl × α)) : AV.renL g (mK l) = mK l := by rw [AV.renL_eq]; simp [mK, kA_ren]
theorem mV_ren {f : α → AV} (hf : Plain f) (g : Nat → Option Nat) (l : List (Pl × α)) : AV.renL g (mV f l) = mV f l := by rw [AV.renL_eq]; simp [mV, hf.ren]
theorem mK_fy (h : List (Option Blk)) (l : List (Pl × α)) : fyL h (mK l) = mK l := by rw [fyL_eq]; simp [mK, kA_fy]
theorem mV_fy {f : α → AV} (hf : Plain f) (h : List (Option Blk)) (l : List (Pl × α)) : fyL h (mV f l) = mV f l := by rw [fyL_eq]; simp [mV, hf.fy]
theorem mK_fz (h : List (Option Blk)) (l : List (Pl × α)) : fzL h (mK l) = mK l := by rw [fzL_eq]; simp [mK, kA_fz]
theorem mV_fz {f : α → AV} (hf : Plain f) (h : List (Option Blk)) (l : List (Pl × α)) : fzL h (mV f l) = mV f l := by rw [fzL_eq]; simp [mV, hf.fz]
theorem mK_frz (id : Nat) (b : Blk) (l : List (Pl × α)) : AV.frzL id b (mK l) = mK l := by rw [frzL_eq]; simp [mK, kA_frz]
theorem mV_frz {f : α → AV} (hf : Plain f) (id : Nat) (b : Blk) (l : List (Pl × α)) : AV.frzL id b (mV f l) = mV f l := by rw [frzL_eq]; simp [mV, hf.frz]
theorem mK_erase (l : List (Pl × α)) (q : Nat) : (mK l).eraseIdx q = mK (l.eraseIdx q) := by
  induction l generalizing q with
  | nil => rfl
  | cons a l ih => cases q with
    | zero => rfl
    | succ q => simpa [mK] using ih q
theorem mV_erase (f : α → AV) (l : List (Pl × α)) (q : Nat) : (mV f l).eraseIdx q = mV f (l.eraseIdx q) := by
  induction l generalizing q with
  | nil => rfl
  | cons a l ih => cases q with
    | zero => rfl
    | succ q => simpa [mV] using ih q
theorem mK_get [Inhabited α] (l : List (Pl × α)) (q : Nat) (h : q < l.length) : (mK l).getD q .junk = kA (l.getD q default).1 := by simp [mK, List.getD_eq_getElem?_getD, h]
theorem mV_get [Inhabited α] (f : α → AV) (l : List (Pl × α)) (q : Nat) (h : q < l.length) : (mV f l).getD q .junk = f (l.getD q default).2 := by simp [mV, List.getD_eq_getElem?_getD, h]
variable {P : Program} {kt : TypeId}
theorem keyEq_pl (hk : eqOf P kt = some [(0, false), (1, false)]) (p q : Pl) : keyEq P kt (.agg [.v (.int .i64 p.1), .v (.int .i64 p.2)]) (kA q) = some (decide (p = q)) := by
  obtain ⟨a, b⟩ := p
  obtain ⟨c, d⟩ := q
  simp only [keyEq, kA, hk]
  by_cases h1 : a = c <;> by_cases h2 : b = d <;> simp [eqL, eqV, AV.cellAt, h1, h2]
theorem mget_mE' (hk : eqOf P kt = some [(0, false), (1, false)]) (f : α → AV) (p : Pl) : ∀ (l : List (Pl × α)) (n : Nat), mget P kt (.agg [.v (.int .i64 p.1), .v (.int .i64 p.2)]) (mE f l) n = some ((afind p l n).map fun r => (r.1, f r.2))
  | [], n => rfl
  | (q, a) :: l, n => by
    have h1 : mE f ((q, a) :: l) = (kA q, f a) :: mE f l := rfl
    rw [h1]
    simp only [mget, keyEq_pl hk, afind]
    by_cases h : p = q
    · simp [h]
    · simp only [h, decide_false, if_false]; exact mget_mE' hk f p l (n + 1)
theorem mget_mE (hk : eqOf P kt = some [(0, false), (1, false)]) (f : α → AV) (x y : Int) (l : List (Pl × α)) : mget P kt (.agg [.v (.int .i64 x), .v (.int .i64 y)]) (mE f l) 0 = some (rget f (x, y) l) := mget_mE' hk f (x, y) l 0
theorem afind_ge (p : Pl) : ∀ (l : List (Pl × α)) (n i : Nat) (a : α), afind p l n = some (i, a) → n ≤ i ∧ i < n + l.length ∧ l[i - n]? = some (p, a)
  | [], n, i, a, h => by cases h
  | (q, b) :: l, n, i, a, h => by
    simp only [afind] at h
    split at h
    · rename_i e; cases h; exact ⟨Nat.le_refl _, by simp, by simp [e]⟩
    · have := afind_ge p l (n + 1) i a h
      refine ⟨by omega, by simp; omega, ?_⟩
      rw [show i - n = (i - (n + 1)) + 1 by omega, List.getElem?_cons_succ]
      exact this.2.2
theorem same_mE (f : α → AV) (x y : Int) (l : List (Pl × α)) : sameKey (mE f l) (.agg [.v (.int .i64 x), .v (.int .i64 y)]) (rget f (x, y) l) = True := by
  unfold rget
  cases h : afind (x, y) l 0 with
  | none => simp [sameKey]
  | some r =>
    obtain ⟨i, a⟩ := r
    have := (afind_ge _ _ _ _ _ h).2.2
    simp only [Option.map_some, sameKey, eq_iff_iff, iff_true]
    simp only [Nat.sub_zero] at this
    simp [mE, List.getD_eq_getElem?_getD, this, kA]
theorem got_mE (f : α → AV) (d : α) (p : Pl) (l : List (Pl × α)) : gotA (f d) (rget f p l) = f (aget d p l) := by
  unfold rget
  generalize 0 = n
  induction l generalizing n with
  | nil => rfl
  | cons e l ih =>
    obtain ⟨q, a⟩ := e
    simp only [afind, aget]
    split
    · rfl
    · exact ih (n + 1)
theorem put_afind (p : Pl) (v : α) : ∀ (l : List (Pl × α)) (n : Nat), aput p v l = match afind p l n with
    | some (i, _) => l.set (i - n) (p, v)
    | none => l ++ [(p, v)]
  | [], n => rfl
  | (q, a) :: l, n => by
    simp only [aput, afind]
    split
    · simp
    · rw [put_afind p v l (n + 1)]
      cases h : afind p l (n + 1) with
      | none => rfl
      | some r =>
        obtain ⟨i, b⟩ := r
        have := (afind_ge _ _ _ _ _ h).1
        simp only
        rw [show i - n = (i - (n + 1)) + 1 by omega, List.set_cons_succ]
theorem put_mE (f : α → AV) (x y : Int) (v : α) (l : List (Pl × α)) : mputR (.agg [.v (.int .i64 x), .v (.int .i64 y)]) (f v) (mE f l) (rget f (x, y) l) = mE f (aput (x, y) v l) := by
  rw [put_afind (x, y) v l 0]
  unfold rget
  cases h : afind (x, y) l 0 with
  | none => simp [mputR, mE, kA]
  | some r => simp [mputR, mE, kA, List.map_set]
theorem del_afind (p : Pl) : ∀ (l : List (Pl × α)) (n : Nat), adel p l = match afind p l n with
    | some (i, _) => l.eraseIdx (i - n)
    | none => l
  | [], n => rfl
  | (q, a) :: l, n => by
    simp only [adel, afind]
    split
    · simp
    · rw [del_afind p l (n + 1)]
      cases h : afind p l (n + 1) with
      | none => rfl
      | some r =>
        obtain ⟨i, b⟩ := r
        have := (afind_ge _ _ _ _ _ h).1
        simp only
        rw [show i - n = (i - (n + 1)) + 1 by omega, List.eraseIdx_cons_succ]
theorem mE_erase (f : α → AV) (l : List (Pl × α)) (q : Nat) : (mE f l).eraseIdx q = mE f (l.eraseIdx q) := by
  induction l generalizing q with
  | nil => rfl
  | cons a l ih => cases q with
    | zero => rfl
    | succ q => simpa [mE] using ih q
theorem del_mE (f : α → AV) (p : Pl) (l : List (Pl × α)) : mdelR (mE f l) (rget f p l) = mE f (adel p l) := by
  rw [del_afind p l 0]
  unfold rget
  cases h : afind p l 0 with
  | none => rfl
  | some r => simp [mdelR, mE_erase]
theorem mE_ren_b (g : Nat → Option Nat) (l : List (Pl × Bool)) : ((mE bA l).map fun x => (x.1.ren g, x.2.ren g)) = mE bA l := mE_ren plain_bA g l
theorem mE_ren_i (g : Nat → Option Nat) (l : List (Pl × Int)) : ((mE iA l).map fun x => (x.1.ren g, x.2.ren g)) = mE iA l := mE_ren plain_iA g l
theorem mE_frz_b (id : Nat) (b : Blk) (l : List (Pl × Bool)) : ((mE bA l).map fun x => (AV.frz id b x.1, AV.frz id b x.2)) = mE bA l := mE_frz plain_bA id b l
theorem mE_frz_i (id : Nat) (b : Blk) (l : List (Pl × Int)) : ((mE iA l).map fun x => (AV.frz id b x.1, AV.frz id b x.2)) = mE iA l := mE_frz plain_iA id b l
theorem mE_fst_fy (f : α → AV) (h : List (Option Blk)) (l : List (Pl × α)) : ((mE f l).map fun x => fy h x.1) = mK l := mE_fst' f l (fy h) (kA_fy h)
theorem mE_snd_fy_b (h : List (Option Blk)) (l : List (Pl × Bool)) : ((mE bA l).map fun x => fy h x.2) = mV bA l := mE_snd' bA l (fy h) (plain_bA.fy h)
theorem mE_snd_fy_i (h : List (Option Blk)) (l : List (Pl × Int)) : ((mE iA l).map fun x => fy h x.2) = mV iA l := mE_snd' iA l (fy h) (plain_iA.fy h)
theorem mE_fst_no (f : α → AV) (l : List (Pl × α)) : ((mE f l).map fun x => AV.ren noF x.1) = mK l := mE_fst' f l (AV.ren noF) (kA_ren noF)
theorem mE_snd_no_b (l : List (Pl × Bool)) : ((mE bA l).map fun x => AV.ren noF x.2) = mV bA l := mE_snd' bA l (AV.ren noF) (plain_bA.ren noF)
theorem mE_snd_no_i (l : List (Pl × Int)) : ((mE iA l).map fun x => AV.ren noF x.2) = mV iA l := mE_snd' iA l (AV.ren noF) (plain_iA.ren noF)
theorem got_b (d : Bool) (p : Pl) (l : List (Pl × Bool)) : gotA (.v (.bool d)) (rget bA p l) = .v (.bool (aget d p l)) := got_mE bA d p l
theorem got_i (d : Int) (p : Pl) (l : List (Pl × Int)) : gotA (.v (.int .i64 d)) (rget iA p l) = .v (.int .i64 (aget d p l)) := got_mE iA d p l
theorem put_b (x y : Int) (v : Bool) (l : List (Pl × Bool)) : mputR (.agg [.v (.int .i64 x), .v (.int .i64 y)]) (.v (.bool v)) (mE bA l) (rget bA (x, y) l) = mE bA (aput (x, y) v l) := put_mE bA x y v l
theorem put_i (x y : Int) (v : Int) (l : List (Pl × Int)) : mputR (.agg [.v (.int .i64 x), .v (.int .i64 y)]) (.v (.int .i64 v)) (mE iA l) (rget iA (x, y) l) = mE iA (aput (x, y) v l) := put_mE iA x y v l
theorem mV_ren_b (g : Nat → Option Nat) (l : List (Pl × Bool)) : AV.renL g (mV bA l) = mV bA l := mV_ren plain_bA g l
theorem mV_ren_i (g : Nat → Option Nat) (l : List (Pl × Int)) : AV.renL g (mV iA l) = mV iA l := mV_ren plain_iA g l
theorem mV_fy_b (h : List (Option Blk)) (l : List (Pl × Bool)) : fyL h (mV bA l) = mV bA l := mV_fy plain_bA h l
theorem mV_fy_i (h : List (Option Blk)) (l : List (Pl × Int)) : fyL h (mV iA l) = mV iA l := mV_fy plain_iA h l
theorem mV_fz_b (h : List (Option Blk)) (l : List (Pl × Bool)) : fzL h (mV bA l) = mV bA l := mV_fz plain_bA h l
theorem mV_fz_i (h : List (Option Blk)) (l : List (Pl × Int)) : fzL h (mV iA l) = mV iA l := mV_fz plain_iA h l
theorem mV_frz_b (id : Nat) (b : Blk) (l : List (Pl × Bool)) : AV.frzL id b (mV bA l) = mV bA l := mV_frz plain_bA id b l
theorem mV_frz_i (id : Nat) (b : Blk) (l : List (Pl × Int)) : AV.frzL id b (mV iA l) = mV iA l := mV_frz plain_iA id b l
attribute [go_sem] mE_len mK_len mV_len mE_fst mE_snd mE_zip mE_ren_b mE_ren_i mE_frz_b mE_frz_i mE_fst_fy mE_snd_fy_b mE_snd_fy_i mE_fst_no mE_snd_no_b mE_snd_no_i got_b got_i put_b put_i same_mE del_mE mK_ren mV_ren_b mV_ren_i mK_fy mV_fy_b mV_fy_i mK_fz mV_fz_b mV_fz_i mK_frz mV_frz_b mV_frz_i mK_erase mV_erase
/-! What the lists say as maps. -/
theorem aget_put (d v : α) (p q : Pl) (l : List (Pl × α)) : aget d p (aput q v l) = if p = q then v else aget d p l := by
  induction l with
  | nil => simp [aput, aget]
  | cons e l ih =>
    obtain ⟨r, a⟩ := e
    simp only [aput]
    split
    · rename_i h; subst h; simp only [aget]; split <;> rfl
    · rename_i h
      simp only [aget, ih]
      by_cases h1 : p = r
      · rw [if_pos h1, if_pos h1, if_neg (fun h2 => h (h2.symm.trans h1))]
      · rw [if_neg h1, if_neg h1]
theorem keys_put (v : α) (q : Pl) (l : List (Pl × α)) : (aput q v l).map Prod.fst = if q ∈ l.map Prod.fst then l.map Prod.fst else l.map Prod.fst ++ [q] := by
  induction l with
  | nil => simp [aput]
  | cons e l ih =>
    obtain ⟨r, a⟩ := e
    simp only [aput]
    split
    · rename_i h; subst h; simp
    · rename_i h
      simp only [List.map_cons, ih, List.mem_cons, h, false_or]
      split <;> simp
theorem nodup_put {v : α} {q : Pl} {l : List (Pl × α)} (h : (l.map Prod.fst).Nodup) : ((aput q v l).map Prod.fst).Nodup := by
  rw [keys_put]
  split
  · exact h
  · rename_i hq
    rw [List.nodup_append]
    refine ⟨h, by simp, fun a ha b hb => ?_⟩
    simp only [List.mem_singleton] at hb
    subst hb
    exact fun e => hq (e ▸ ha)
theorem adel_sub (q : Pl) (l : List (Pl × α)) : (adel q l).Sublist l := by
  induction l with
  | nil => exact List.Sublist.slnil
  | cons e l ih =>
    obtain ⟨r, a⟩ := e
    simp only [adel]
    split
    · exact List.sublist_cons_self _ _
    · exact ih.cons_cons _
theorem nodup_del {q : Pl} {l : List (Pl × α)} (h : (l.map Prod.fst).Nodup) : ((adel q l).map Prod.fst).Nodup := h.sublist ((adel_sub q l).map _)
theorem aget_none {d : α} {p : Pl} {l : List (Pl × α)} (h : p ∉ l.map Prod.fst) : aget d p l = d := by
  induction l with
  | nil => rfl
  | cons e l ih =>
    obtain ⟨r, a⟩ := e
    simp only [List.map_cons, List.mem_cons, not_or] at h
    simp only [aget, if_neg h.1, ih h.2]
theorem aget_del {d : α} {p q : Pl} {l : List (Pl × α)} (h : (l.map Prod.fst).Nodup) : aget d p (adel q l) = if p = q then d else aget d p l := by
  induction l with
  | nil => simp [adel, aget]
  | cons e l ih =>
    obtain ⟨r, a⟩ := e
    simp only [List.map_cons, List.nodup_cons] at h
    simp only [adel]
    split
    · rename_i hq
      subst hq
      by_cases hp : p = q
      · rw [if_pos hp, hp, aget_none h.1]
      · simp [aget, hp]
    · rename_i hq
      simp only [aget, ih h.2]
      by_cases h1 : p = r
      · rw [if_pos h1, if_pos h1, if_neg (fun h2 => hq (h2.symm.trans h1))]
      · rw [if_neg h1, if_neg h1]
end
end Pm
end Go.Proofs.YtdgoompjoeffcaaGreat
