import Derived.Test.YtiipggfhjkalfaaPmY
import Derived.WideKeyEntry
/- PM, part Z: rows cut short; maps by places. -/
set_option linter.unusedSimpArgs false
set_option linter.unusedVariables false
namespace Go.Proofs.Ytiipggfhjkalfaa
namespace Pm
/-! ### A row cut short -/
section
variable {B : Base} {w : World} {ρ : Nat → Option Nat} {D Z : Nat → Prop} {h : List (Option Blk)} {P : Program}
theorem HR.cut (H : HR B w ρ D Z h) {id sz : Nat} {e : TypeId} {es : List AV} (k : Nat) (hb : h[id]? = some (some (.row e sz es))) : HR B w ρ D Z (h.set id (some (.row e sz (es.take k)))) := by
  have hlt := (List.getElem?_eq_some_iff.1 hb).1
  have hg : ∀ i, i ≠ id → (h.set id (some (.row e sz (es.take k))))[i]? = h[i]? := fun i hi => List.getElem?_set_ne (Ne.symm hi)
  have hs : (h.set id (some (.row e sz (es.take k))))[id]? = some (some (.row e sz (es.take k))) := by simp [hlt]
  refine ⟨fun i b hi => ?_, fun i q hq => ?_, fun i hd => ?_, H.inj, H.own, H.z, H.fr, H.os, H.tape, H.output, H.size, H.step, H.zg⟩
  · by_cases hid : i = id
    · subst hid
      rw [hs] at hi
      cases hi
      obtain ⟨g, hr, c, fr, h1, h2, h3, h4, h5⟩ := H.live i _ hb
      have hl : (es.take k).length ≤ es.length := by simp; omega
      have hget : ∀ j, j < (es.take k).length → (es.take k).getD j .junk = es.getD j .junk := fun j hj => by
        have : j < k := by simp at hj; omega
        simp [List.getD_eq_getElem?_getD, this]
      refine ⟨g, hr, c, fr, h1, h2, Nat.le_trans (Nat.mul_le_mul_right _ hl) h3, fun j hj => ?_, fun j m hj hm => ?_⟩
      · rw [hget j hj]; exact h4 j (by omega)
      · rw [hget j hj]; exact h5 j m (by omega) hm
    · rw [hg i hid] at hi
      exact H.live i b hi
  · by_cases hid : i = id
    · subst hid; exact ⟨_, hs⟩
    · rw [hg i hid]; exact H.only i q hq
  · by_cases hid : i = id
    · subst hid
      have := H.dead i hd
      rw [this] at hb
      cases hb
    · rw [hg i hid]; exact H.dead i hd
theorem weak_cut {st : St} {id sz : Nat} {e : TypeId} {es : List AV} (k : Nat) (hb : st.h[id]? = some (some (.row e sz es))) : Weak st { st with h := st.h.set id (some (.row e sz (es.take k))) } := by
  intro B ρ D Z a w I
  exact ⟨ρ, D, Z, I.n, I.env, I.h.cut k hb, I.bm, I.defers⟩
theorem HR.back (H : HR B w ρ D Z h) {id : Nat} {cur ks vs : List AV} (hb : h[id]? = some (some (.it cur ks vs))) : HR B w ρ D Z (h.set id (some (.it [] ks vs))) := by
  have hlt := (List.getElem?_eq_some_iff.1 hb).1
  have hg : ∀ i, i ≠ id → (h.set id (some (.it [] ks vs)))[i]? = h[i]? := fun i hi => List.getElem?_set_ne (Ne.symm hi)
  have hs : (h.set id (some (.it [] ks vs)))[id]? = some (some (.it [] ks vs)) := by simp [hlt]
  refine ⟨fun i b hi => ?_, fun i q hq => ?_, fun i hd => ?_, H.inj, H.own, H.z, H.fr, H.os, H.tape, H.output, H.size, H.step, H.zg⟩
  · by_cases hid : i = id
    · subst hid
      rw [hs] at hi
      cases hi
      obtain ⟨g, hr, gm, since, seen, last, ents, clock, hc, hz, hm, hst, h1, h2, h3, h4, h5, h6, h7⟩ := H.live i _ hb
      exact ⟨g, hr, gm, since, seen, last, ents, clock, hc, hz, hm, hst, h1, h2, h3, h4, h5, h6, .inl rfl⟩
    · rw [hg i hid] at hi
      exact H.live i b hi
  · by_cases hid : i = id
    · subst hid; exact ⟨_, hs⟩
    · rw [hg i hid]; exact H.only i q hq
  · by_cases hid : i = id
    · subst hid
      have := H.dead i hd
      rw [this] at hb
      cases hb
    · rw [hg i hid]; exact H.dead i hd
/-- An iterator, its entry forgotten. -/
theorem weak_it (id : Nat) {st : St} {cur ks vs : List AV} (hb : st.h[id]? = some (some (.it cur ks vs))) : Weak st { st with h := st.h.set id (some (.it [] ks vs)) } := by
  intro B ρ D Z a w I
  exact ⟨ρ, D, Z, I.n, I.env, I.h.back hb, I.bm, I.defers⟩
theorem Con.cut {f : FuncId} {args : List AV} {r : AV} {h1 h2 : List (Option Blk)} {id sz : Nat} {e : TypeId} {es : List AV} (c : Con P f args h fun x y => x = r ∧ y = h1) (k : Nat) (hb : h1[id]? = some (some (.row e sz es)))
    (he : h2 = h1.set id (some (.row e sz (es.take k)))) : Con P f args h fun x y => x = r ∧ y = h2 :=
  fun B cargs hl ha hh => (c B cargs hl ha hh).mono fun _ _ ⟨r', v, h', ρ', D', Z', e1, q, e2, e3⟩ => by
    obtain ⟨q1, q2⟩ := q
    subst q2 he
    exact ⟨r', v, _, ρ', D', Z', e1, ⟨q1, rfl⟩, e2, e3.cut k hb⟩
def stayB (n len : Nat) (ids : List Nat) : Bool := (List.range n).all fun i => match ids[i]? with
  | some j => j == i || decide (len ≤ j)
  | none => false
theorem stay_of {n len : Nat} {ids : List Nat} (h : stayB n len ids = true) : ∀ i, i < n → ∃ j, ids[i]? = some j ∧ (j = i ∨ len ≤ j) := fun i hi => by
  simp only [stayB, List.all_eq_true, List.mem_range] at h
  have := h i hi
  split at this
  · rename_i j hj
    refine ⟨j, hj, ?_⟩
    simpa using this
  · cases this
/-- What a call leaves, renamed and forgotten: the blocks that came in stay where they are or are given up. -/
theorem Con.keep {f : FuncId} {args : List AV} {r r' : AV} {h1 h2 : List (Option Blk)} (c : Con P f args h fun x y => x = r ∧ y = h1) (ids : List Nat) (hr : r.ren (idxOf ids) = r') (he : ids.map (keepB h1 ids) = h2) (hn : ids.Nodup)
    (hm : ∀ i, i < h.length → ∃ j, ids[i]? = some j ∧ (j = i ∨ h1.length ≤ j)) : Con P f args h fun x y => x = r' ∧ y = h2 :=
  fun B cargs hl ha hh => (c B cargs hl ha hh).mono fun _ _ ⟨x, v, h', ρ', D', Z', e1, q, e2, e3⟩ => by
    obtain ⟨rfl, rfl⟩ := q
    have I : Inv B ρ' D' Z' ⟨1, h.length, [(0, x)], h'⟩ (⟨#[v], []⟩ : Act) _ := ⟨rfl, fun n => by
      simp only [look]
      split
      · rename_i e; subst e; exact e2
      · exact .junk _, e3, fun id hid => by
        rcases hid with ⟨g, hg⟩ | hd
        · obtain ⟨b, hb⟩ := hh.only id g hg
          exact (List.getElem?_eq_some_iff.1 hb).1
        · exact (List.getElem?_eq_some_iff.1 (hh.dead id hd)).1, rfl⟩
    obtain ⟨ρ2, D2, Z2, I2⟩ := weak_move [0] ids hn hm B ρ' D' Z' _ _ I
    refine ⟨_, v, _, ρ2, D2, Z2, e1, ⟨hr, he⟩, ?_, I2.h⟩
    have := I2.env 0
    simpa [St.keep, look] using this
/-- Likewise, told at each end. -/
theorem Con.move {f : FuncId} {args : List AV} {Q : AV → List (Option Blk) → Prop} (c : Con P f args h fun r h' => ∃ ids : List Nat, ids.Nodup ∧ stayB h.length h'.length ids = true ∧ Q (r.ren (idxOf ids)) (ids.map (keepB h' ids))) : Con P f args h Q :=
  fun B cargs hl ha hh => (c B cargs hl ha hh).mono fun _ _ ⟨x, v, h', ρ', D', Z', e1, ⟨ids, hn, hs, q⟩, e2, e3⟩ => by
    have I : Inv B ρ' D' Z' ⟨1, h.length, [(0, x)], h'⟩ (⟨#[v], []⟩ : Act) _ := ⟨rfl, fun n => by
      simp only [look]
      split
      · rename_i e; subst e; exact e2
      · exact .junk _, e3, fun id hid => by
        rcases hid with ⟨g, hg⟩ | hd
        · obtain ⟨b, hb⟩ := hh.only id g hg
          exact (List.getElem?_eq_some_iff.1 hb).1
        · exact (List.getElem?_eq_some_iff.1 (hh.dead id hd)).1, rfl⟩
    obtain ⟨ρ2, D2, Z2, I2⟩ := weak_move [0] ids hn (stay_of hs) B ρ' D' Z' _ _ I
    refine ⟨_, v, _, ρ2, D2, Z2, e1, q, ?_, I2.h⟩
    have := I2.env 0
    simpa [St.keep, look] using this
/-- Blocks of which less is said. -/
def WeakH (h h' : List (Option Blk)) : Prop := ∀ (B : Base) (w : World) (ρ : Nat → Option Nat) (D Z : Nat → Prop), HR B w ρ D Z h → HR B w ρ D Z h'
theorem WeakH.refl (h : List (Option Blk)) : WeakH h h := fun _ _ _ _ _ H => H
theorem WeakH.trans {a b c : List (Option Blk)} (x : WeakH a b) (y : WeakH b c) : WeakH a c := fun B w ρ D Z H => y B w ρ D Z (x B w ρ D Z H)
theorem cutH (id : Nat) {sz : Nat} {e : TypeId} {es : List AV} (k : Nat) (hb : h[id]? = some (some (.row e sz es))) : WeakH h (h.set id (some (.row e sz (es.take k)))) := fun _ _ _ _ _ H => H.cut k hb
theorem Con.wk {f : FuncId} {args : List AV} {Q : AV → List (Option Blk) → Prop} (c : Con P f args h fun r h' => ∃ h2, WeakH h' h2 ∧ Q r h2) : Con P f args h Q :=
  fun B cargs hl ha hh => (c B cargs hl ha hh).mono fun _ _ ⟨x, v, h', ρ', D', Z', e1, ⟨h2, hw, q⟩, e2, e3⟩ => ⟨x, v, h2, ρ', D', Z', e1, q, e2, hw _ _ _ _ _ e3⟩
end
section
variable {P : Program} {st st' : St} {K : Exit → St → Prop} {ops : Array Oper} {rest : List Oper} {t : List It}
/-- In the middle of a region something may be forgotten, or told whole. -/
theorem run_weak (n : Nat) (hw : Weak st st') (h : run P n (.ops ops rest :: t) st' K) : run P 0 (.ops ops rest :: t) st K := by
  simp only [run]
  exact TriT.weak hw trivial (run_sound n _ _ h)
theorem run_again (n : Nat) {t : List It} (h : run P n t st K) : run P 0 t st K := by
  simp only [run]
  exact run_sound n _ _ h
end
/-! ### Maps by places -/
abbrev Pl := Int × Int
def kA (p : Pl) : AV := .agg [.v (.int .i64 p.1), .v (.int .i64 p.2)]
def bA (b : Bool) : AV := .v (.bool b)
section
variable {α : Type}
def afind (p : Pl) : List (Pl × α) → Nat → Option (Nat × α)
  | [], _ => none
  | (q, a) :: l, n => if p = q then some (n, a) else afind p l (n + 1)
def aget (d : α) (p : Pl) : List (Pl × α) → α
  | [] => d
  | (q, a) :: l => if p = q then a else aget d p l
def aput (p : Pl) (v : α) : List (Pl × α) → List (Pl × α)
  | [] => [(p, v)]
  | (q, a) :: l => if p = q then (p, v) :: l else (q, a) :: aput p v l
def adel (p : Pl) : List (Pl × α) → List (Pl × α)
  | [] => []
  | (q, a) :: l => if p = q then l else (q, a) :: adel p l
/-- A map by places, told to the reckoning. -/
def mE (f : α → AV) (l : List (Pl × α)) : List (AV × AV) := l.map fun e => (kA e.1, f e.2)
def mK (l : List (Pl × α)) : List AV := l.map fun e => kA e.1
def mV (f : α → AV) (l : List (Pl × α)) : List AV := l.map fun e => f e.2
def rget (f : α → AV) (p : Pl) (l : List (Pl × α)) : Option (Nat × AV) := (afind p l 0).map fun r => (r.1, f r.2)
theorem mE_len (f : α → AV) (l : List (Pl × α)) : (mE f l).length = l.length := by simp [mE]
theorem mK_len (l : List (Pl × α)) : (mK l).length = l.length := by simp [mK]
theorem mV_len (f : α → AV) (l : List (Pl × α)) : (mV f l).length = l.length := by simp [mV]
theorem mE_fst (f : α → AV) (l : List (Pl × α)) : (mE f l).map Prod.fst = mK l := by simp [mE, mK]
theorem mE_snd (f : α → AV) (l : List (Pl × α)) : (mE f l).map Prod.snd = mV f l := by simp [mE, mV]
theorem mE_fst' (f : α → AV) (l : List (Pl × α)) (n : AV → AV) (hn : ∀ p, n (kA p) = kA p) : ((mE f l).map fun x => n x.1) = mK l := by simp [mE, mK, hn]
theorem mE_snd' (f : α → AV) (l : List (Pl × α)) (n : AV → AV) (hn : ∀ a, n (f a) = f a) : ((mE f l).map fun x => n x.2) = mV f l := by simp [mE, mV, hn]
theorem mE_zip (f : α → AV) (l : List (Pl × α)) : (mK l).zip (mV f l) = mE f l := by
  induction l with
  | nil => rfl
  | cons a l ih => simpa [mK, mV, mE] using ih
theorem mE_map (f : α → AV) (l : List (Pl × α)) (n : AV → AV) (hn : ∀ p, n (kA p) = kA p) (hf : ∀ a, n (f a) = f a) : ((mE f l).map fun x => (n x.1, n x.2)) = mE f l := by simp [mE, hn, hf]
theorem kA_ren (f : Nat → Option Nat) (p : Pl) : (kA p).ren f = kA p := by simp [kA, AV.ren, AV.renL]
theorem kA_fy (h : List (Option Blk)) (p : Pl) : fy h (kA p) = kA p := by simp [kA, fy_agg, fyL_cons, fyL_nil, fy_v]
theorem kA_fz (h : List (Option Blk)) (p : Pl) : fz h (kA p) = kA p := by simp [kA, fz_agg, fzL_cons, fzL_nil, fz_v]
theorem kA_frz (id : Nat) (b : Blk) (p : Pl) : AV.frz id b (kA p) = kA p := by simp [kA, AV.frz, AV.frzL]
/-- What lies in no live block, whatever is asked of it. -/
structure Plain (f : α → AV) : Prop where
  ren : ∀ g a, (f a).ren g = f a
  fy : ∀ h a, fy h (f a) = f a
  fz : ∀ h a, fz h (f a) = f a
  frz : ∀ id b a, AV.frz id b (f a) = f a
theorem plain_v (g : α → Value) : Plain fun a => .v (g a) := ⟨fun _ _ => by simp only [AV.ren], fun _ _ => by simp only [fy_v], fun _ _ => by simp only [fz_v], fun _ _ _ => by simp only [frz_v]⟩
theorem plain_bA : Plain bA := plain_v _
theorem plain_iA : Plain iA := plain_v _
theorem mE_ren {f : α → AV} (hf : Plain f) (g : Nat → Option Nat) (l : List (Pl × α)) : ((mE f l).map fun x => (x.1.ren g, x.2.ren g)) = mE f l := mE_map f l (AV.ren g) (kA_ren g) (hf.ren g)
theorem mE_frz {f : α → AV} (hf : Plain f) (id : Nat) (b : Blk) (l : List (Pl × α)) : ((mE f l).map fun x => (AV.frz id b x.1, AV.frz id b x.2)) = mE f l := mE_map f l (AV.frz id b) (kA_frz id b) (hf.frz id b)
theorem mK_ren (g : Nat → Option Nat) (l : List (Pl × α)) : AV.renL g (mK l) = mK l := by rw [AV.renL_eq]; simp [mK, kA_ren]
theorem mV_ren {f : α → AV} (hf : Plain f) (g : Nat → Option Nat) (l : List (Pl × α)) : AV.renL g (mV f l) = mV f l := by rw [AV.renL_eq]; simp [mV, hf.ren]
theorem mK_fy (h : List (Option Blk)) (l : List (Pl × α)) : fyL h (mK l) = mK l := by rw [fyL_eq]; simp [mK, kA_fy]
theorem mV_fy {f : α → AV} (hf : Plain f) (h : List (Option Blk)) (l : List (Pl × α)) : fyL h (mV f l) = mV f l := by rw [fyL_eq]; simp [mV, hf.fy]
theorem mK_fz (h : List (Option Blk)) (l : List (Pl × α)) : fzL h (mK l) = mK l := by rw [fzL_eq]; simp [mK, kA_fz]
theorem mV_fz {f : α → AV} (hf : Plain f) (h : List (Option Blk)) (l : List (Pl × α)) : fzL h (mV f l) = mV f l := by rw [fzL_eq]; simp [mV, hf.fz]
theorem mK_frz (id : Nat) (b : Blk) (l : List (Pl × α)) : AV.frzL id b (mK l) = mK l := by rw [frzL_eq]; simp [mK, kA_frz]
theorem mV_frz {f : α → AV} (hf : Plain f) (id : Nat) (b : Blk) (l : List (Pl × α)) : AV.frzL id b (mV f l) = mV f l := by rw [frzL_eq]; simp [mV, hf.frz]
theorem mK_erase (l : List (Pl × α)) (q : Nat) : (mK l).eraseIdx q = mK (l.eraseIdx q) := by
  induction l generalizing q with
  | nil => rfl
  | cons a l ih => cases q with
    | zero => rfl
    | succ q => simpa [mK] using ih q
theorem mV_erase (f : α → AV) (l : List (Pl × α)) (q : Nat) : (mV f l).eraseIdx q = mV f (l.eraseIdx q) := by
  induction l generalizing q with
  | nil => rfl
  | cons a l ih => cases q with
    | zero => rfl
    | succ q => simpa [mV] using ih q
theorem mK_get [Inhabited α] (l : List (Pl × α)) (q : Nat) (h : q < l.length) : (mK l).getD q .junk = kA (l.getD q default).1 := by simp [mK, List.getD_eq_getElem?_getD, h]
theorem mV_get [Inhabited α] (f : α → AV) (l : List (Pl × α)) (q : Nat) (h : q < l.length) : (mV f l).getD q .junk = f (l.getD q default).2 := by simp [mV, List.getD_eq_getElem?_getD, h]
variable {P : Program} {kt : TypeId}
theorem keyEq_pl (hk : eqOf P kt = some [(0, false), (1, false)]) (p q : Pl) : keyEq P kt (.agg [.v (.int .i64 p.1), .v (.int .i64 p.2)]) (kA q) = some (decide (p = q)) := by
  obtain ⟨a, b⟩ := p
  obtain ⟨c, d⟩ := q
  simp only [keyEq, kA, hk]
  by_cases h1 : a = c <;> by_cases h2 : b = d <;> simp [eqL, eqV, AV.cellAt, h1, h2]
theorem mget_mE' (hk : eqOf P kt = some [(0, false), (1, false)]) (f : α → AV) (p : Pl) : ∀ (l : List (Pl × α)) (n : Nat), mget P kt (.agg [.v (.int .i64 p.1), .v (.int .i64 p.2)]) (mE f l) n = some ((afind p l n).map fun r => (r.1, f r.2))
  | [], n => rfl
  | (q, a) :: l, n => by
    have h1 : mE f ((q, a) :: l) = (kA q, f a) :: mE f l := rfl
    rw [h1]
    simp only [mget, keyEq_pl hk, afind]
    by_cases h : p = q
    · simp [h]
    · simp only [h, decide_false, if_false]; exact mget_mE' hk f p l (n + 1)
theorem mget_mE (hk : eqOf P kt = some [(0, false), (1, false)]) (f : α → AV) (x y : Int) (l : List (Pl × α)) : mget P kt (.agg [.v (.int .i64 x), .v (.int .i64 y)]) (mE f l) 0 = some (rget f (x, y) l) := mget_mE' hk f (x, y) l 0
theorem afind_ge (p : Pl) : ∀ (l : List (Pl × α)) (n i : Nat) (a : α), afind p l n = some (i, a) → n ≤ i ∧ i < n + l.length ∧ l[i - n]? = some (p, a)
  | [], n, i, a, h => by cases h
  | (q, b) :: l, n, i, a, h => by
    simp only [afind] at h
    split at h
    · rename_i e; cases h; exact ⟨Nat.le_refl _, by simp, by simp [e]⟩
    · have := afind_ge p l (n + 1) i a h
      refine ⟨by omega, by simp; omega, ?_⟩
      rw [show i - n = (i - (n + 1)) + 1 by omega, List.getElem?_cons_succ]
      exact this.2.2
theorem same_mE (f : α → AV) (x y : Int) (l : List (Pl × α)) : sameKey (mE f l) (.agg [.v (.int .i64 x), .v (.int .i64 y)]) (rget f (x, y) l) = True := by
  unfold rget
  cases h : afind (x, y) l 0 with
  | none => simp [sameKey]
  | some r =>
    obtain ⟨i, a⟩ := r
    have := (afind_ge _ _ _ _ _ h).2.2
    simp only [Option.map_some, sameKey, eq_iff_iff, iff_true]
    simp only [Nat.sub_zero] at this
    simp [mE, List.getD_eq_getElem?_getD, this, kA]
theorem got_mE (f : α → AV) (d : α) (p : Pl) (l : List (Pl × α)) : gotA (f d) (rget f p l) = f (aget d p l) := by
  unfold rget
  generalize 0 = n
  induction l generalizing n with
  | nil => rfl
  | cons e l ih =>
    obtain ⟨q, a⟩ := e
    simp only [afind, aget]
    split
    · rfl
    · exact ih (n + 1)
theorem put_afind (p : Pl) (v : α) : ∀ (l : List (Pl × α)) (n : Nat), aput p v l = match afind p l n with
    | some (i, _) => l.set (i - n) (p, v)
    | none => l ++ [(p, v)]
  | [], n => rfl
  | (q, a) :: l, n => by
    simp only [aput, afind]
    split
    · simp
    · rw [put_afind p v l (n + 1)]
      cases h : afind p l (n + 1) with
      | none => rfl
      | some r =>
        obtain ⟨i, b⟩ := r
        have := (afind_ge _ _ _ _ _ h).1
        simp only
        rw [show i - n = (i - (n + 1)) + 1 by omega, List.set_cons_succ]
theorem put_mE (f : α → AV) (x y : Int) (v : α) (l : List (Pl × α)) : mputR (.agg [.v (.int .i64 x), .v (.int .i64 y)]) (f v) (mE f l) (rget f (x, y) l) = mE f (aput (x, y) v l) := by
  rw [put_afind (x, y) v l 0]
  unfold rget
  cases h : afind (x, y) l 0 with
  | none => simp [mputR, mE, kA]
  | some r => simp [mputR, mE, kA, List.map_set]
theorem del_afind (p : Pl) : ∀ (l : List (Pl × α)) (n : Nat), adel p l = match afind p l n with
    | some (i, _) => l.eraseIdx (i - n)
    | none => l
  | [], n => rfl
  | (q, a) :: l, n => by
    simp only [adel, afind]
    split
    · simp
    · rw [del_afind p l (n + 1)]
      cases h : afind p l (n + 1) with
      | none => rfl
      | some r =>
        obtain ⟨i, b⟩ := r
        have := (afind_ge _ _ _ _ _ h).1
        simp only
        rw [show i - n = (i - (n + 1)) + 1 by omega, List.eraseIdx_cons_succ]
theorem mE_erase (f : α → AV) (l : List (Pl × α)) (q : Nat) : (mE f l).eraseIdx q = mE f (l.eraseIdx q) := by
  induction l generalizing q with
  | nil => rfl
  | cons a l ih => cases q with
    | zero => rfl
    | succ q => simpa [mE] using ih q
theorem del_mE (f : α → AV) (p : Pl) (l : List (Pl × α)) : mdelR (mE f l) (rget f p l) = mE f (adel p l) := by
  rw [del_afind p l 0]
  unfold rget
  cases h : afind p l 0 with
  | none => rfl
  | some r => simp [mdelR, mE_erase]
theorem mE_ren_b (g : Nat → Option Nat) (l : List (Pl × Bool)) : ((mE bA l).map fun x => (x.1.ren g, x.2.ren g)) = mE bA l := mE_ren plain_bA g l
theorem mE_ren_i (g : Nat → Option Nat) (l : List (Pl × Int)) : ((mE iA l).map fun x => (x.1.ren g, x.2.ren g)) = mE iA l := mE_ren plain_iA g l
theorem mE_frz_b (id : Nat) (b : Blk) (l : List (Pl × Bool)) : ((mE bA l).map fun x => (AV.frz id b x.1, AV.frz id b x.2)) = mE bA l := mE_frz plain_bA id b l
theorem mE_frz_i (id : Nat) (b : Blk) (l : List (Pl × Int)) : ((mE iA l).map fun x => (AV.frz id b x.1, AV.frz id b x.2)) = mE iA l := mE_frz plain_iA id b l
theorem mE_fst_fy (f : α → AV) (h : List (Option Blk)) (l : List (Pl × α)) : ((mE f l).map fun x => fy h x.1) = mK l := mE_fst' f l (fy h) (kA_fy h)
theorem mE_snd_fy_b (h : List (Option Blk)) (l : List (Pl × Bool)) : ((mE bA l).map fun x => fy h x.2) = mV bA l := mE_snd' bA l (fy h) (plain_bA.fy h)
theorem mE_snd_fy_i (h : List (Option Blk)) (l : List (Pl × Int)) : ((mE iA l).map fun x => fy h x.2) = mV iA l := mE_snd' iA l (fy h) (plain_iA.fy h)
theorem mE_fst_no (f : α → AV) (l : List (Pl × α)) : ((mE f l).map fun x => AV.ren noF x.1) = mK l := mE_fst' f l (AV.ren noF) (kA_ren noF)
theorem mE_snd_no_b (l : List (Pl × Bool)) : ((mE bA l).map fun x => AV.ren noF x.2) = mV bA l := mE_snd' bA l (AV.ren noF) (plain_bA.ren noF)
theorem mE_snd_no_i (l : List (Pl × Int)) : ((mE iA l).map fun x => AV.ren noF x.2) = mV iA l := mE_snd' iA l (AV.ren noF) (plain_iA.ren noF)
theorem got_b (d : Bool) (p : Pl) (l : List (Pl × Bool)) : gotA (.v (.bool d)) (rget bA p l) = .v (.bool (aget d p l)) := got_mE bA d p l
theorem got_i (d : Int) (p : Pl) (l : List (Pl × Int)) : gotA (.v (.int .i64 d)) (rget iA p l) = .v (.int .i64 (aget d p l)) := got_mE iA d p l
theorem put_b (x y : Int) (v : Bool) (l : List (Pl × Bool)) : mputR (.agg [.v (.int .i64 x), .v (.int .i64 y)]) (.v (.bool v)) (mE bA l) (rget bA (x, y) l) = mE bA (aput (x, y) v l) := put_mE bA x y v l
theorem put_i (x y : Int) (v : Int) (l : List (Pl × Int)) : mputR (.agg [.v (.int .i64 x), .v (.int .i64 y)]) (.v (.int .i64 v)) (mE iA l) (rget iA (x, y) l) = mE iA (aput (x, y) v l) := put_mE iA x y v l
theorem mV_ren_b (g : Nat → Option Nat) (l : List (Pl × Bool)) : AV.renL g (mV bA l) = mV bA l := mV_ren plain_bA g l
theorem mV_ren_i (g : Nat → Option Nat) (l : List (Pl × Int)) : AV.renL g (mV iA l) = mV iA l := mV_ren plain_iA g l
theorem mV_fy_b (h : List (Option Blk)) (l : List (Pl × Bool)) : fyL h (mV bA l) = mV bA l := mV_fy plain_bA h l
theorem mV_fy_i (h : List (Option Blk)) (l : List (Pl × Int)) : fyL h (mV iA l) = mV iA l := mV_fy plain_iA h l
theorem mV_fz_b (h : List (Option Blk)) (l : List (Pl × Bool)) : fzL h (mV bA l) = mV bA l := mV_fz plain_bA h l
theorem mV_fz_i (h : List (Option Blk)) (l : List (Pl × Int)) : fzL h (mV iA l) = mV iA l := mV_fz plain_iA h l
theorem mV_frz_b (id : Nat) (b : Blk) (l : List (Pl × Bool)) : AV.frzL id b (mV bA l) = mV bA l := mV_frz plain_bA id b l
theorem mV_frz_i (id : Nat) (b : Blk) (l : List (Pl × Int)) : AV.frzL id b (mV iA l) = mV iA l := mV_frz plain_iA id b l
attribute [go_sem] mE_len mK_len mV_len mE_fst mE_snd mE_zip mE_ren_b mE_ren_i mE_frz_b mE_frz_i mE_fst_fy mE_snd_fy_b mE_snd_fy_i mE_fst_no mE_snd_no_b mE_snd_no_i got_b got_i put_b put_i same_mE del_mE mK_ren mV_ren_b mV_ren_i mK_fy mV_fy_b mV_fy_i mK_fz mV_fz_b mV_fz_i mK_frz mV_frz_b mV_frz_i mK_erase mV_erase
/-! What the lists say as maps. -/
theorem aget_put (d v : α) (p q : Pl) (l : List (Pl × α)) : aget d p (aput q v l) = if p = q then v else aget d p l := by
  induction l with
  | nil => simp [aput, aget]
  | cons e l ih =>
    obtain ⟨r, a⟩ := e
    simp only [aput]
    split
    · rename_i h; subst h; simp only [aget]; split <;> rfl
    · rename_i h
      simp only [aget, ih]
      by_cases h1 : p = r
      · rw [if_pos h1, if_pos h1, if_neg (fun h2 => h (h2.symm.trans h1))]
      · rw [if_neg h1, if_neg h1]
theorem keys_put (v : α) (q : Pl) (l : List (Pl × α)) : (aput q v l).map Prod.fst = if q ∈ l.map Prod.fst then l.map Prod.fst else l.map Prod.fst ++ [q] := by
  induction l with
  | nil => simp [aput]
  | cons e l ih =>
    obtain ⟨r, a⟩ := e
    simp only [aput]
    split
    · rename_i h; subst h; simp
    · rename_i h
      simp only [List.map_cons, ih, List.mem_cons, h, false_or]
      split <;> simp
theorem nodup_put {v : α} {q : Pl} {l : List (Pl × α)} (h : (l.map Prod.fst).Nodup) : ((aput q v l).map Prod.fst).Nodup := by
  rw [keys_put]
  split
  · exact h
  · rename_i hq
    rw [List.nodup_append]
    refine ⟨h, by simp, fun a ha b hb => ?_⟩
    simp only [List.mem_singleton] at hb
    subst hb
    exact fun e => hq (e ▸ ha)
theorem adel_sub (q : Pl) (l : List (Pl × α)) : (adel q l).Sublist l := by
  induction l with
  | nil => exact List.Sublist.slnil
  | cons e l ih =>
    obtain ⟨r, a⟩ := e
    simp only [adel]
    split
    · exact List.sublist_cons_self _ _
    · exact ih.cons_cons _
theorem nodup_del {q : Pl} {l : List (Pl × α)} (h : (l.map Prod.fst).Nodup) : ((adel q l).map Prod.fst).Nodup := h.sublist ((adel_sub q l).map _)
theorem aget_none {d : α} {p : Pl} {l : List (Pl × α)} (h : p ∉ l.map Prod.fst) : aget d p l = d := by
  induction l with
  | nil => rfl
  | cons e l ih =>
    obtain ⟨r, a⟩ := e
    simp only [List.map_cons, List.mem_cons, not_or] at h
    simp only [aget, if_neg h.1, ih h.2]
theorem aget_del {d : α} {p q : Pl} {l : List (Pl × α)} (h : (l.map Prod.fst).Nodup) : aget d p (adel q l) = if p = q then d else aget d p l := by
  induction l with
  | nil => simp [adel, aget]
  | cons e l ih =>
    obtain ⟨r, a⟩ := e
    simp only [List.map_cons, List.nodup_cons] at h
    simp only [adel]
    split
    · rename_i hq
      subst hq
      by_cases hp : p = q
      · rw [if_pos hp, hp, aget_none h.1]
      · simp [aget, hp]
    · rename_i hq
      simp only [aget, ih h.2]
      by_cases h1 : p = r
      · rw [if_pos h1, if_pos h1, if_neg (fun h2 => hq (h2.symm.trans h1))]
      · rw [if_neg h1, if_neg h1]
end
end Pm
end Go.Proofs.Ytiipggfhjkalfaa
/- PM, part AA: an entry is made, then written: 'l[a], l[b] = x, y'. -/
set_option linter.unusedSimpArgs false
set_option linter.unusedVariables false
namespace Go.Proofs.Ytiipggfhjkalfaa
namespace Pm
section
variable {P : Program} {B : Base} {w : World} {ρ : Nat → Option Nat} {D Z : Nat → Prop} {st : St} {a : Act}
theorem setObjW_twice (w : World) (g : Nat) (o o' : Obj) : setObjW (setObjW w g o) g o' = setObjW w g o' := by
  simp [setObjW]
theorem idx_of {es : Array MapEntry} {i : Nat} {e0 : MapEntry} (hn : (es.toList.map (·.born)).Nodup) (h : es[i]? = some e0) : es.findIdx? (fun e => ((e.born : Nat) : Int) == ((e0.born : Nat) : Int)) = some i := by
  rw [WideElems.findIdx_arr]
  exact WideElems.findIdx_born hn (by simpa using h)
/-- The entry, then the store: as an update. -/
theorem entry_then (I : Inv B ρ D Z st a w) {t kt e : TypeId} {m k : Operand} {id : Nat} {l : List (AV × AV)} {r : Option (Nat × AV)} {z : AV} (hm : st.get m = .map id)
    (hb : st.h[id]? = some (some (.mp l))) (ht : mapOf P t = some (kt, e)) (hg : mget P kt (st.get k) l 0 = some r) (ho : keyOkA P kt (st.get k) = true) (hbit : bitsOk (st.get k) = true) (hsame : ∀ i y, r = some (i, y) → (l.getD i default).1 = st.get k)
    (hz : zvA P e = some z) :
    ∃ (v0 : Value) (n : Nat) (w1 : World), (Instr.mapEntry t (a.eval m) (a.eval k)).run P w = .ok (.tuple #[v0, goInt n]) w1 ∧
      ∀ val w2, (Instr.mapUpdate t (a.eval m) (a.eval k) val).run P w = .ok () w2 → (Instr.entryStore t (a.eval m) (goInt n) val).run P w1 = .ok () w2 := by
  obtain ⟨g, es, clock, hr, hc, hst, hE⟩ := I.h.mp hb
  have hmv := I.get m
  rw [hm] at hmv
  rw [hmv.map_live I.h hb hr]
  have hkk := I.get k
  have hel : es.size = l.length := by simpa using hE.1
  obtain ⟨q, hq, hf⟩ := hE.key ho hkk hg
  have hck := run_checkKey (P := P) ho hkk false
  obtain ⟨zv, hzr, -⟩ := run_zvA (w := w) hz
  rcases hf with ⟨rfl, rfl⟩ | ⟨i, y, v0, rfl, rfl, hy⟩
  · refine ⟨zv, clock, setObjW w g (.map (es.push { key := a.eval k, val := zv, born := clock }) (clock + 1)), ?_, fun val w2 h2 => ?_⟩
    · unfold Instr.mapEntry
      simp only [Sem.run_bind, run_underlying (und_map ht), Result.andThen, run_getMap hc, hck, hq, hzr, Sem.run_pure, run_setMap _ hc]
    · unfold Instr.mapUpdate at h2
      simp only [Sem.run_bind, run_underlying (und_map ht), Result.andThen, run_getMap hc, hck, hq, Sem.run_pure, run_setMap _ hc] at h2
      cases h2
      have hidx := idx_of (es := es.push { key := a.eval k, val := zv, born := clock }) (i := es.size) (e0 := { key := a.eval k, val := zv, born := clock }) (stamps_push hst _ _).2 (by simp)
      have hmod : (es.push { key := a.eval k, val := zv, born := clock }).modify es.size (fun e => { e with val := val }) = es.push { key := a.eval k, val := val, born := clock } := by
        apply Array.ext'
        rw [Array.toList_modify, Array.toList_push, Array.toList_push, ← Array.length_toList, WideElems.modify_last]
      have hw1 := setObjW_self (.map (es.push { key := a.eval k, val := zv, born := clock }) (clock + 1)) hc
      unfold Instr.entryStore
      simp only [Sem.run_bind, Result.andThen, run_getMap hw1, asInt, asIntOf, goInt, Sem.run_pure, hidx, run_setMap _ hw1, hmod, setObjW_twice]
  · obtain ⟨_, hil, _⟩ := mget_lt hg
    have hil' : i < l.length := by omega
    have hies : i < es.size := by omega
    have hold := (hE.2 i hil').1
    rw [hsame i y rfl, getD_toList es i hies] at hold
    have hei : es[i]? = some es[i] := Array.getElem?_eq_getElem hies
    have hgd : es.getD i default = es[i] := by simp [Array.getD, hies]
    rw [hgd] at hold
    obtain ⟨hee, hsb⟩ := bits_same hbit hold hkk
    have hkt : (Instr.keyThatStays (((es[i]?).map (·.key)).getD (a.eval k)) (a.eval k)).run P w = .ok (a.eval k) w := by
      unfold Instr.keyThatStays
      rw [hei, Option.map_some, Option.getD_some, if_pos hsb]
      rfl
    refine ⟨v0, es[i].born, setObjW w g (.map (es.modify i fun e => { e with key := a.eval k }) clock), ?_, fun val w2 h2 => ?_⟩
    · unfold Instr.mapEntry
      simp only [Sem.run_bind, run_underlying (und_map ht), Result.andThen, run_getMap hc, hck, hq, hkt, Sem.run_pure, run_setMap _ hc]
      simp [hei]
    · unfold Instr.mapUpdate at h2
      simp only [Sem.run_bind, run_underlying (und_map ht), Result.andThen, run_getMap hc, hck, hq, hkt, Sem.run_pure, run_setMap _ hc] at h2
      cases h2
      have hidx := idx_of (es := es.modify i fun e => { e with key := a.eval k }) (i := i) (e0 := { es[i] with key := a.eval k }) (stamps_modify hst i (fun e => { e with key := a.eval k }) fun _ => rfl).2 (by simp [Array.getElem?_modify, hei])
      have hmod : (es.modify i fun e => { e with key := a.eval k }).modify i (fun e => { e with val := val }) = es.modify i fun e => { e with key := a.eval k, val := val } := by
        apply Array.ext'
        rw [Array.toList_modify, Array.toList_modify, Array.toList_modify]
        apply List.ext_getElem?
        intro j
        simp only [List.getElem?_modify]
        by_cases e : i = j
        · simp [e, Function.comp_def]
        · simp [e]
      have hw1 := setObjW_self (.map (es.modify i fun e => { e with key := a.eval k }) clock) hc
      unfold Instr.entryStore
      simp only [Sem.run_bind, Result.andThen, run_getMap hw1, asInt, asIntOf, goInt, Sem.run_pure, hidx, run_setMap _ hw1, hmod, setObjW_twice]
theorem eval_put {x : Operand} {d : Tmp} {v : Value} (h : x ≠ .tmp d) : (a.put (some d) v).eval x = a.eval x := by
  cases x with
  | tmp t =>
    have hd : t ≠ d := fun e => h (e ▸ rfl)
    simp only [Act.put, Act.eval, Array.getD_eq_getD_getElem?, Array.getElem?_setIfInBounds, if_neg (Ne.symm hd)]
  | _ => rfl
theorem eval_put_self {d : Tmp} {v : Value} (h : d < a.tmps.size) : (a.put (some d) v).eval (.tmp d) = v := by
  simp [Act.put, Act.eval, Array.getD_eq_getD_getElem?, h]
/-- 'l[a], l[b] = x, y' : the first of them. -/
theorem tri_entry {ops : Array Oper} {rest : List Oper} {K : St → Prop} {t kt e : TypeId} {m k x : Operand} {id : Nat} {l : List (AV × AV)} {r : Option (Nat × AV)} {z : AV} {d1 d2 : Tmp} {y1 y2 y3 : TypeId} {p1 p2 p3 : String} {f1 f2 f3 : Array Edge}
    (hm : st.get m = .map id) (hb : st.h[id]? = some (some (.mp l))) (ht : mapOf P t = some (kt, e)) (hg : mget P kt (st.get k) l 0 = some r) (ho : keyOkA P kt (st.get k) = true) (hbit : bitsOk (st.get k) = true)
    (hsame : ∀ i y, r = some (i, y) → (l.getD i default).1 = st.get k) (hz : zvA P e = some z) (hd1 : d1 < st.n) (hd2 : d2 < st.n) (hm1 : m ≠ .tmp d1) (hm2 : m ≠ .tmp d2) (hx1 : x ≠ .tmp d1) (hx2 : x ≠ .tmp d2)
    (h : TriOps P ops rest (({ st with h := st.h.set id (some (.mp (mputR (st.get k) (st.get x) l r))) }.put (some d1) .junk).put (some d2) .junk) K) :
    TriOps P ops (⟨some d1, .mapEntry t m k, y1, p1, f1, none⟩ :: ⟨some d2, .extract (.tmp d1) 1, y2, p2, f2, none⟩ :: ⟨none, .entryStore t m (.tmp d2) x, y3, p3, f3, none⟩ :: rest) st K := by
  intro B ρ D Z a w Q I hq
  obtain ⟨v0, n, w1, he, hs⟩ := entry_then I hm hb ht hg ho hbit hsame hz
  obtain ⟨nx, w2, hrun, v, hnx, av, h', ρ', D', Z', ⟨rfl, hK⟩, hv, I'⟩ := out_mapUpdate (K := fun r h' => r = .v undef ∧ h' = st.h.set id (some (.mp (mputR (st.get k) (st.get x) l _)))) (v := x) I hm hb ht hg ho hbit hsame ⟨rfl, rfl⟩
  subst hK
  have hup : (Instr.mapUpdate t (a.eval m) (a.eval k) (a.eval x)).run P w = .ok () w2 := by
    simp only [Sem.run_bind, Result.andThen] at hrun
    split at hrun
    · rename_i u w' hu
      simp only [Sem.run_pure, Result.ok.injEq] at hrun
      rw [hu, hrun.2]
    · cases hrun
  have hst := hs _ _ hup
  have hn1 : d1 < a.tmps.size := by rw [I.n]; exact hd1
  have hn2 : d2 < a.tmps.size := by rw [I.n]; exact hd2
  unfold wpList
  rw [if_pos (by simp [Region.wanted])]
  refine .inl ?_
  unfold Oper.wp
  rw [show (execOp a.eval ⟨some d1, .mapEntry t m k, y1, p1, f1, none⟩).run P w = .ok (.value (.tuple #[v0, goInt n])) w1 by
    simp only [execOp, Sem.run_bind, he, Result.andThen, Sem.run_pure]]
  show wpList P ops Q _ (a.put (some d1) (.tuple #[v0, goInt n])) w1
  unfold wpList
  rw [if_pos (by simp [Region.wanted])]
  refine .inl ?_
  unfold Oper.wp
  rw [show (execOp (a.put (some d1) (.tuple #[v0, goInt n])).eval ⟨some d2, .extract (.tmp d1) 1, y2, p2, f2, none⟩).run P w1 = .ok (.value (goInt n)) w1 by
    simp only [execOp, Sem.run_bind, eval_put_self hn1, Instr.extract]
    rfl]
  show wpList P ops Q _ ((a.put (some d1) (.tuple #[v0, goInt n])).put (some d2) (goInt n)) w1
  unfold wpList
  rw [if_pos (by simp [Region.wanted])]
  refine .inl ?_
  unfold Oper.wp
  rw [show (execOp ((a.put (some d1) (.tuple #[v0, goInt n])).put (some d2) (goInt n)).eval ⟨none, .entryStore t m (.tmp d2) x, y3, p3, f3, none⟩).run P w1 = .ok .skip w2 by
    simp only [execOp, Sem.run_bind, eval_put hm2, eval_put hm1, eval_put hx2, eval_put hx1, eval_put_self (a := a.put (some d1) (.tuple #[v0, goInt n])) (d := d2) (v := goInt n) (by simpa [Act.put] using hn2), hst, Result.andThen, Sem.run_pure]]
  show wpList P ops Q rest ((a.put (some d1) (.tuple #[v0, goInt n])).put (some d2) (goInt n)) w2
  refine h B ρ' D' Z' _ w2 Q ?_ hq
  exact (I'.puts (d := some d1) (by simpa [okDst] using hd1) (.junk _)).puts (d := some d2) (show decide (d2 < st.n) = true from decide_eq_true hd2) (.junk _)
def notT (x : Operand) (d : Tmp) : Bool := match x with
  | .tmp t => !(t == d)
  | _ => true
theorem notT_ne {x : Operand} {d : Tmp} (h : notT x d = true) : x ≠ .tmp d := by
  rintro rfl
  simp [notT] at h
/-- The reckoning goes on behind it. The reckoning stops ahead of such an entry when the call in front of it is made with fuel 0. -/
theorem run_entry (n : Nat) {ops : Array Oper} {rest : List Oper} {tt : List It} {K : Exit → St → Prop} {t kt e : TypeId} {m k x : Operand} {id : Nat} {l : List (AV × AV)} {r : Option (Nat × AV)} {z : AV} {d1 d2 : Tmp} {y1 y2 y3 : TypeId} {p1 p2 p3 : String} {f1 f2 f3 : Array Edge} {kA : AV}
    (hm : st.get m = .map id) (hb : st.h[id]? = some (some (.mp l))) (ht : mapOf P t = some (kt, e)) (hk : st.get k = kA) (hg : mget P kt kA l 0 = some r) (ho : keyOkA P kt kA = true) (hbit : bitsOk kA = true)
    (hsame : sameKey l kA r) (hz : zvA P e = some z) (hd : (decide (d1 < st.n) && decide (d2 < st.n) && notT m d1 && notT m d2 && notT x d1 && notT x d2) = true)
    (h : run P n (.ops ops rest :: tt) (({ st with h := st.h.set id (some (.mp (mputR kA (st.get x) l r))) }.put (some d1) .junk).put (some d2) .junk) K) :
    run P 0 (.ops ops (⟨some d1, .mapEntry t m k, y1, p1, f1, none⟩ :: ⟨some d2, .extract (.tmp d1) 1, y2, p2, f2, none⟩ :: ⟨none, .entryStore t m (.tmp d2) x, y3, p3, f3, none⟩ :: rest) :: tt) st K := by
  subst hk
  simp only [Bool.and_eq_true, decide_eq_true_eq] at hd
  simp only [run, TriT]
  have h' := run_sound n _ _ h
  simp only [TriT] at h'
  refine tri_entry hm hb ht hg ho hbit (fun i y e => ?_) hz hd.1.1.1.1.1 hd.1.1.1.1.2 (notT_ne hd.1.1.1.2) (notT_ne hd.1.1.2) (notT_ne hd.1.2) (notT_ne hd.2) h'
  subst e
  exact hsame
end
end Pm
end Go.Proofs.Ytiipggfhjkalfaa
/- PM, part AB: a region whose order is open, in two parts: what only reads, strictly; then the rest, where stores may come early. -/
set_option linter.unusedSimpArgs false
set_option linter.unusedVariables false
namespace Go.Proofs.Ytiipggfhjkalfaa
namespace Pm
section
variable {P : Program} {W : WS} {ops : Array Oper}
theorem HeapW.of_none {h h' : List (Option Blk)} (k : HeapW none h h') : HeapW W h h' := ⟨k.len, fun id hi _ => k.same id hi rfl, fun id b hb _ => k.live id b hb rfl⟩
theorem Takes.to_none {o : Oper} {st : St} {r : AV} (h : Takes P W ops o st r) : Takes P none ops o st r := fun s' hs => h s' ⟨hs.n, hs.env, hs.h.of_none⟩
theorem quietW_none {o : Op} (h : quietW W o = false) : quietW none o = false := by
  have := quietW_hard h
  simp [quietW, this]
theorem any_none {K : St → Prop} : ∀ (n : Nat) (listed : Array Bool) (st : St), AnyA P W ops n listed st K → AnyA P none ops n listed st K
  | 0, _, _, h => h
  | n + 1, listed, st, h => by
    refine ⟨h.1, fun i hi o ho => ?_⟩
    rcases h.2 i hi o ho with ⟨r, ht, hr⟩ | ⟨ha, hg, hd, c, r, b, hop, hc, hr⟩ | ⟨ha, hg, hd, c, r, h', hop, hc, hw, hr⟩ | ⟨h1, h2, h4, h3⟩ | ⟨h1, h3⟩ | ⟨r, bs, hgv, hr⟩
    · exact .inl ⟨r, ht.to_none, any_none n _ _ hr⟩
    · exact .inr (.inl ⟨ha, hg, hd, c, r, b, hop, hc, any_none n _ _ hr⟩)
    · refine .inr (.inr (.inr (.inl ⟨quietW_none (store_hardW (W := W) ha), store_noalloc ha, fun h => (by cases h), ?_⟩)))
      refine step_to ⟨hd, ?_⟩
      simp only [hg, guardA]
      exact stepA_of_opR hop hc (any_none n _ _ hr)
    · exact .inr (.inr (.inr (.inl ⟨quietW_none h1, h2, fun h => (by cases h), fun B ρ D Z a w Q Ka I hq => h3 B ρ D Z a w Q Ka I fun st' ρ' D' Z' a' w' e I' => hq _ _ _ _ _ _ (any_none n _ _ e) I'⟩)))
    · exact .inr (.inr (.inr (.inr (.inl ⟨h1, fun B ρ D Z a w Q Ka I hq => h3 B ρ D Z a w Q Ka I fun st' ρ' D' Z' a' w' e I' => hq _ _ _ _ _ _ (any_none n _ _ e) I'⟩))))
    · exact .inr (.inr (.inr (.inr (.inr ⟨r, bs, hgv, any_none n _ _ hr⟩))))
/-- What only reads, one behind the other. -/
def RunQ (P : Program) (W : WS) (ops : Array Oper) : List Oper → St → (St → Prop) → Prop
  | [], st, K => K st
  | o :: rest, st, K => ∃ r, Takes P W ops o st r ∧ RunQ P W ops rest (st.put o.dst r) K
theorem any_preQ {K : St → Prop} (hK : ∀ s s', EqSt s s' → K s → K s') (m : Nat) : ∀ (l : List Oper) (ks : List Nat) (listed : Array Bool) (st : St), (l.map some = ks.map fun k => ops[k]?) →
    drawPre W ops ks listed = true → RunQ P W ops l st (fun s => AnyA P W ops m (listAll ks listed) s K) → AnyA P W ops (l.length + m) listed st K
  | [], [], _, _, _, _, h => by simpa [listAll, RunQ] using h
  | [], _ :: _, _, _, hl, _, _ => by simp at hl
  | _ :: _, [], _, _, hl, _, _ => by simp at hl
  | o :: l, k :: ks, listed, st, hl, hB, h => by
    simp only [List.map_cons, List.cons.injEq] at hl
    obtain ⟨h0, hl'⟩ := hl
    have h0 := h0.symm
    simp only [drawPre, Bool.and_eq_true] at hB
    obtain ⟨⟨hr, hf⟩, hB'⟩ := hB
    have hr' : k ∈ Region.ready .any ops listed := by simpa using hr
    have hspec := heapOk_spec h0 hf
    have hn : (o :: l).length + m = (l.length + m) + 1 := by simp only [List.length_cons]; omega
    rw [hn]
    obtain ⟨r, ht, hrest⟩ := h
    exact any_first hK h0 (fun j => (depS ops k).getD j false) (fun _ h => h) hspec.1 (l.length + m) listed st hspec.2.1 (fun j oj hj hne hun hs => (hspec.2.2 j oj hj hne hun hs).2) hr' ht (any_preQ hK m l ks _ _ hl' hB' hrest)
def plainB (o : Oper) : Bool := o.guard.isNone && (quietB o.op && (match o.op with
  | .call c => (match c.callee with
    | .value _ => false
    | _ => true)
  | _ => true))
theorem runD_quiet {t : List It} {K : Exit → St → Prop} {G : St → Prop} : ∀ (n : Nat) (l : List Oper) (st : St), l.all plainB = true → runD P W ops n l (.goal G :: t) st K → RunQ P W ops l st G
  | 0, _, _, _, h => h.elim
  | n + 1, [], st, _, h => by
    have h1 := run_sound n _ _ h
    simpa [TriT, RunQ] using h1
  | n + 1, o :: rest, st, hp, h => by
    simp only [List.all_cons, Bool.and_eq_true] at hp
    obtain ⟨ho, hp⟩ := hp
    simp only [plainB, Bool.and_eq_true, Option.isNone_iff_eq_none] at ho
    obtain ⟨hg, hq, hc⟩ := ho
    simp only [runD, hg, guardA, quietW_of hq] at h
    obtain ⟨hd, h⟩ := h
    have fin : ∀ x : R, opR P st o.op = x → (match x with
        | some (c, r, h) => c ∧ (h = st.h ∧ rdOk W st o.op = true) ∧ runD P W ops n rest (.goal G :: t) (st.put o.dst r) K
        | none => False) → RunQ P W ops (o :: rest) st G := fun x hx h => by
      cases x with
      | none => exact h.elim
      | some y =>
        obtain ⟨c, r, h'⟩ := y
        obtain ⟨hcc, ⟨rfl, hrd⟩, hr⟩ := h
        exact ⟨r, takes_op hq hd (by simp [guardA, hg]) hx hrd hcc, runD_quiet n rest _ hp hr⟩
    split at h
    · rename_i tt x y hop
      rw [hop] at hq
      simp [quietB] at hq
    · rename_i c hop
      rw [hop] at hc
      split at h
      · rename_i f hf
        simp [hf] at hc
      · exact fin _ (by rw [hop]) h
    · exact fin _ rfl h
def drawP (f : Nat → Bool) (ops : Array Oper) (ks ks2 : List Nat) : Bool :=
  ((ks.length + ks2.length == ops.size) && ((ks.all fun k => decide (k < ops.size)) && (ks2.all fun k => decide (k < ops.size)))) && ((pickO ops ks).all plainB && (drawPre none ops ks (Array.replicate ops.size false) &&
    (drawFrom (some f) ops ks2 (listAll ks (Array.replicate ops.size false)) && (!(f lastK) || lastDep ops (ops.size - 1)))))
/-- What is left to do, told by arguments alone. -/
def HoldD (P : Program) (W : WS) (ops : Array Oper) (n : Nat) (l : List Oper) (t : List It) (K : Exit → St → Prop) (s : St) : Prop := runD P W ops n l t s K
def BothD (P : Program) (W : WS) (ops : Array Oper) (n : Nat) (l m : List Oper) (t : List It) (K : Exit → St → Prop) (s : St) : Prop := runD P W ops n l t s K ∧ runD P W ops n m t s K
theorem holdD {n : Nat} {l : List Oper} {t : List It} {K : Exit → St → Prop} {a b : Nat} {e : List (Nat × AV)} {h : List (Option Blk)} : HoldD P W ops n l t K ⟨a, b, e, h⟩ = runD P W ops n l t ⟨a, b, e, h⟩ K := rfl
theorem bothD {n : Nat} {l m : List Oper} {t : List It} {K : Exit → St → Prop} {a b : Nat} {e : List (Nat × AV)} {h : List (Option Blk)} : BothD P W ops n l m t K ⟨a, b, e, h⟩ = (runD P W ops n l t ⟨a, b, e, h⟩ K ∧ runD P W ops n m t ⟨a, b, e, h⟩ K) := rfl
/-- What only reads (ks), strictly; then the rest (ks2), where the blocks f may be written early. -/
theorem wait_drawP (ks ks2 : List Nat) (f : Nat → Bool) (n : Nat) {id : Nat} {st : St} {t : List It} {K : Exit → St → Prop} (hm : P.follows .mixedOrders = true) (hB : drawP f ops ks ks2 = true)
    (h : runD P none ops n (pickO ops ks) (.goal (HoldD P (some f) ops n (pickO ops ks2) t K) :: t) st K) : Wait P (.region id ops true) t st K := by
  simp only [drawP, Bool.and_eq_true, beq_iff_eq, Bool.or_eq_true, Bool.not_eq_true'] at hB
  obtain ⟨⟨hlen, hk1, hk2⟩, hq, hpre, hfrom, hL⟩ := hB
  have hm1 := pickO_map ops ks hk1
  have hm2 := pickO_map ops ks2 hk2
  have hl1 : (pickO ops ks).length = ks.length := by have := congrArg List.length hm1; simpa using this
  have hl2 : (pickO ops ks2).length = ks2.length := by have := congrArg List.length hm2; simpa using this
  have hL' : lOf (some f) = true → lastDep ops (ops.size - 1) = true := fun h0 => by
    rcases hL with h1 | h1
    · simp only [lOf] at h0; rw [h1] at h0; cases h0
    · exact h1
  have h1 := runD_quiet n _ _ hq h
  have mono : ∀ (l : List Oper) (s : St) (k1 k2 : St → Prop), (∀ x, k1 x → k2 x) → RunQ P none ops l s k1 → RunQ P none ops l s k2 := by
    intro l
    induction l with
    | nil => intro s k1 k2 hk h; exact hk _ h
    | cons o l ih => rintro s k1 k2 hk ⟨r, ht, h⟩; exact ⟨r, ht, ih _ _ _ hk h⟩
  have hn : ops.size = (pickO ops ks).length + (pickO ops ks2).length := by omega
  have key : AnyA P none ops ops.size (Array.replicate ops.size false) st (Cl fun s => TriT P t s K) := by
    rw [show AnyA P none ops ops.size (Array.replicate ops.size false) st (Cl fun s => TriT P t s K) = AnyA P none ops ((pickO ops ks).length + (pickO ops ks2).length) (Array.replicate ops.size false) st (Cl fun s => TriT P t s K) from by rw [← hn]]
    exact any_preQ cl_eq _ (pickO ops ks) ks _ st hm1 hpre (mono _ _ _ _ (fun s hs => any_none _ _ _ (any_lex (W := some f) cl_eq (pickO ops ks2) ks2 _ s hm2 hfrom (runD_sound hL' n _ _ hs))) h1)
  unfold Wait
  simp only [TriT]
  intro B ρ D Z a w I
  refine wp_region_any hm ?_
  obtain ⟨Z', I'⟩ := I.draw
  refine any_sound _ _ st key B ρ D Z' a _ I' ?_
  rintro st' ρ' D' Z'' a' w' ⟨x, ex, hx⟩ I''
  exact ⟨x, ρ', D', Z'', hx, eqSt_inv ex.symm I''⟩
theorem runD_stepR {Kc : St → Prop} {K : St → Prop} {n : Nat} {listed : Array Bool} {o : Oper} {rest : List Oper} {st : St} {i : Nat} (hne : rest ≠ []) (h : RunD P W ops (o :: rest) st Kc) (hr : ∀ s, RunD P W ops rest s Kc → AnyA P W ops n (listed.setIfInBounds i true) s K) :
    (∃ r, Takes P W ops o st r ∧ AnyA P W ops n (listed.setIfInBounds i true) (st.put o.dst r) K) ∨
      (allocB o.op = true ∧ o.guard = none ∧ okDst st.n o.dst = true ∧ ∃ c r b, opR P st o.op = some (c, r, st.h ++ [b]) ∧ c ∧ AnyA P W ops n (listed.setIfInBounds i true) ({ st with h := st.h ++ [b] }.put o.dst r) K) ∨
      (storeB o.op = true ∧ o.guard = none ∧ okDst st.n o.dst = true ∧ ∃ c r h, opR P st o.op = some (c, r, h) ∧ c ∧ HeapW W st.h h ∧ AnyA P W ops n (listed.setIfInBounds i true) ({ st with h := h }.put o.dst r) K) ∨
      (quietW W o.op = false ∧ allocB o.op = false ∧ (W.isSome = true → storeB o.op = false) ∧ StepTo P ops o st fun st' => AnyA P W ops n (listed.setIfInBounds i true) st' K) ∨
      (lastDep ops i = true ∧ StepTo P ops o st fun st' => AnyA P W ops n (listed.setIfInBounds i true) st' K) ∨
      (∃ r bs, Gives P ops o st r bs ∧ AnyA P W ops n (listed.setIfInBounds i true) ({ st with h := st.h ++ bs }.put o.dst r) K) := by
  rcases h with ⟨hq, r, ht, hrest⟩ | ⟨ha, hg, hd, c, r, b, hop, hc, hrest⟩ | ⟨ha, hg, hd, c, r, h', hop, hc, hw, hrest⟩ | ⟨h1, h2, h4, h3⟩ | ⟨h1, _, _⟩ | ⟨h1, r, bs, hgv, hrest⟩
  · exact .inl ⟨r, ht, hr _ hrest⟩
  · exact .inr (.inl ⟨ha, hg, hd, c, r, b, hop, hc, hr _ hrest⟩)
  · exact .inr (.inr (.inl ⟨ha, hg, hd, c, r, h', hop, hc, hw, hr _ hrest⟩))
  · exact .inr (.inr (.inr (.inl ⟨h1, h2, h4, fun B ρ D Z a w Q Ka I hq => h3 B ρ D Z a w Q Ka I fun st' ρ' D' Z' a' w' e I' => hq _ _ _ _ _ _ (hr _ e) I'⟩)))
  · exact absurd h1 hne
  · exact .inr (.inr (.inr (.inr (.inr ⟨r, bs, hgv, hr _ hrest⟩))))
def drawT2 (f : Nat → Bool) (ops : Array Oper) (ks : List Nat) (i j : Nat) (ks2 : List Nat) : Bool :=
  let l1 := listAll ks (Array.replicate ops.size false)
  ((ks.length + (ks2.length + 2) == ops.size) && ((ks.all fun k => decide (k < ops.size)) && (ks2.all fun k => decide (k < ops.size)))) && ((decide (i < ops.size) && decide (j < ops.size) && !(i == j)) && (((pickO ops ks).all plainB && drawPre (some f) ops ks (Array.replicate ops.size false)) &&
    ((Region.ready .any ops l1 == [i, j]) && ((Region.ready .any ops (l1.setIfInBounds i true) == [j]) && ((Region.ready .any ops (l1.setIfInBounds j true) == [i]) && (drawFrom (some f) ops ks2 ((l1.setIfInBounds i true).setIfInBounds j true) && (!ks2.isEmpty && (!(f lastK) || lastDep ops (ops.size - 1)))))))))
/-- Two operations in either order, behind what only reads. -/
theorem wait_drawT' (ks : List Nat) (i j : Nat) (ks2 : List Nat) (f : Nat → Bool) (n : Nat) {id : Nat} {st : St} {t : List It} {K : Exit → St → Prop} (hm : P.follows .mixedOrders = true) (hB : drawT2 f ops ks i j ks2 = true)
    (h : runD P (some f) ops n (pickO ops ks) (.goal (BothD P (some f) ops n (pickO ops (i :: j :: ks2)) (pickO ops (j :: i :: ks2)) t K) :: t) st K) : Wait P (.region id ops true) t st K := by
  simp only [drawT2, Bool.and_eq_true, beq_iff_eq, Bool.not_eq_true', decide_eq_true_eq, beq_eq_false_iff_ne, Bool.or_eq_true] at hB
  obtain ⟨⟨hlen, hk1, hk2⟩, ⟨⟨hi, hj⟩, hij⟩, ⟨hq, hpre⟩, hr1, hr2, hr3, hfrom, hne, hL⟩ := hB
  have hm1 := pickO_map ops ks hk1
  have hm2 := pickO_map ops ks2 hk2
  have hl1 : (pickO ops ks).length = ks.length := by have := congrArg List.length hm1; simpa using this
  have hl2 : (pickO ops ks2).length = ks2.length := by have := congrArg List.length hm2; simpa using this
  have hne' : pickO ops ks2 ≠ [] := fun e => by
    rw [e] at hl2
    cases ks2 with
    | nil => simp at hne
    | cons a l => simp at hl2
  have hL' : lOf (some f) = true → lastDep ops (ops.size - 1) = true := fun h0 => by
    rcases hL with h1 | h1
    · simp only [lOf] at h0; rw [h1] at h0; cases h0
    · exact h1
  have e1 : pickO ops (i :: j :: ks2) = ops[i] :: ops[j] :: pickO ops ks2 := by simp only [pickO, Array.getElem?_eq_getElem hi, Array.getElem?_eq_getElem hj]
  have e2 : pickO ops (j :: i :: ks2) = ops[j] :: ops[i] :: pickO ops ks2 := by simp only [pickO, Array.getElem?_eq_getElem hi, Array.getElem?_eq_getElem hj]
  have h1 := runD_quiet n _ _ hq h
  have mono : ∀ (l : List Oper) (s : St) (k1 k2 : St → Prop), (∀ x, k1 x → k2 x) → RunQ P (some f) ops l s k1 → RunQ P (some f) ops l s k2 := by
    intro l
    induction l with
    | nil => intro s k1 k2 hk h; exact hk _ h
    | cons o l ih => rintro s k1 k2 hk ⟨r, ht, h⟩; exact ⟨r, ht, ih _ _ _ hk h⟩
  have hn : ops.size = (pickO ops ks).length + ((pickO ops ks2).length + 1 + 1) := by omega
  have sfx : ∀ s, RunD P (some f) ops (pickO ops ks2) s (Cl fun s => TriT P t s K) → AnyA P (some f) ops (pickO ops ks2).length (((listAll ks (Array.replicate ops.size false)).setIfInBounds i true).setIfInBounds j true) s (Cl fun s => TriT P t s K) := fun s hs => any_lex cl_eq _ ks2 _ s hm2 hfrom hs
  have key : AnyA P (some f) ops ops.size (Array.replicate ops.size false) st (Cl fun s => TriT P t s K) := by
    rw [show AnyA P (some f) ops ops.size (Array.replicate ops.size false) st (Cl fun s => TriT P t s K) = AnyA P (some f) ops ((pickO ops ks).length + ((pickO ops ks2).length + 1 + 1)) (Array.replicate ops.size false) st (Cl fun s => TriT P t s K) from by rw [← hn]]
    refine any_preQ cl_eq _ (pickO ops ks) ks _ st hm1 hpre (mono _ _ _ _ (fun s hs => ?_) h1)
    obtain ⟨ha, hb⟩ := hs
    have ha := runD_sound hL' n _ _ ha
    have hb := runD_sound hL' n _ _ hb
    rw [e1] at ha
    rw [e2] at hb
    refine ⟨fun h => (by rw [hr1] at h; cases h), fun x hx o ho => ?_⟩
    rw [hr1] at hx
    simp only [List.mem_cons, List.not_mem_nil, or_false] at hx
    rcases hx with rfl | rfl
    · rw [Array.getElem?_eq_getElem hi] at ho
      cases ho
      refine runD_stepR (by simp) ha fun s hs => ?_
      refine ⟨fun h => (by rw [hr2] at h; cases h), fun y hy o ho => ?_⟩
      rw [hr2] at hy
      simp only [List.mem_singleton] at hy
      subst hy
      rw [Array.getElem?_eq_getElem hj] at ho
      cases ho
      exact runD_stepR hne' hs fun s hs => sfx s hs
    · rw [Array.getElem?_eq_getElem hj] at ho
      cases ho
      refine runD_stepR (by simp) hb fun s hs => ?_
      refine ⟨fun h => (by rw [hr3] at h; cases h), fun y hy o ho => ?_⟩
      rw [hr3] at hy
      simp only [List.mem_singleton] at hy
      subst hy
      rw [Array.getElem?_eq_getElem hi] at ho
      cases ho
      refine runD_stepR hne' hs fun s hs => ?_
      rw [Array.setIfInBounds_comm _ _ (fun e => hij e.symm)]
      exact sfx s hs
  unfold Wait
  simp only [TriT]
  intro B ρ D Z a w I
  refine wp_region_any hm ?_
  obtain ⟨Z', I'⟩ := I.draw
  refine any_sound _ _ st key B ρ D Z' a _ I' ?_
  rintro st' ρ' D' Z'' a' w' ⟨x, ex, hx⟩ I''
  exact ⟨x, ρ', D', Z'', hx, eqSt_inv ex.symm I''⟩
attribute [go_sem] holdD bothD
end
end Pm
end Go.Proofs.Ytiipggfhjkalfaa
