import Derived.Test.YtdgoompjoeffcaaGreatProg
import Derived.Test.YtdgoompjoeffcaaGreatPmY
import Derived.Test.YtdgoompjoeffcaaGreatRmR
/- What a tape means: both walks, step by step. -/
set_option linter.unusedSimpArgs false
set_option linter.unusedVariables false
set_option maxRecDepth 20000
open Go Go.Proofs
namespace Go.Proofs.YtdgoompjoeffcaaGreat
open Pm
attribute [local irreducible] Wait CallT CallW NextT Le Weak
def plT (t : Sd) : Pl := (t.x, t.y)
structure Sim (w : Wk) (v : Rk) : Prop where
  here : hereP v = (w.s.x, w.s.y)
  look : v.look = w.s.d
  tr : v.at_.map (fun a => v.K.getD a.toNat (0, 0)) = w.trail.map plT
  td : v.dir = w.trail.map Sd.d
  c : v.count = w.count
  lo : v.long = w.long
  wr : ∀ p, aget 0 p w.wrote = lk v.K v.S 0 p
  fr : ∀ p, aget false p w.fronts = facedB v.K v.S p
  on : ∀ p, aget false p w.onto = decide (p ∈ w.trail.map plT)
  arm : ∀ p, lk v.K v.A false p = decide (p = (w.s.x, w.s.y) ∨ p ∈ w.trail.map plT)
  nh : (w.s.x, w.s.y) ∉ w.trail.map plT
  nd : (w.trail.map plT).Nodup
  z : ∀ p, (p = (w.s.x, w.s.y) ∨ p ∈ w.trail.map plT) → lk v.K v.S 0 p = 0
  rd : ∀ p, aget false p w.road = lk v.K v.R false p
  rt : ∀ c ∈ w.road, c.2 = true
  rl : v.roads = w.road.length
  od : (w.onto.map Prod.fst).Nodup
theorem key_iff {l : List (Pl × Bool)} (h : ∀ c ∈ l, c.2 = true) (p : Pl) : p ∈ l.map Prod.fst ↔ aget false p l = true := by
  induction l with
  | nil => simp [aget]
  | cons e l ih =>
    obtain ⟨q, a⟩ := e
    simp only [List.map_cons, List.mem_cons, aget]
    by_cases hq : p = q
    · rw [if_pos hq]
      exact ⟨fun _ => h (q, a) (by simp), fun _ => .inl hq⟩
    · rw [if_neg hq, ← ih fun c hc => h c (by simp [hc])]
      exact ⟨fun h => h.resolve_left hq, .inr⟩
theorem put_len {l : List (Pl × Bool)} (h : ∀ c ∈ l, c.2 = true) (p : Pl) : (aput p true l).length = if aget false p l = true then l.length else l.length + 1 := by
  have h1 := congrArg List.length (keys_put true p l)
  rw [List.length_map] at h1
  rw [h1]
  by_cases hp : p ∈ l.map Prod.fst
  · rw [if_pos hp, if_pos ((key_iff h p).1 hp), List.length_map]
  · rw [if_neg hp, if_neg fun e => hp ((key_iff h p).2 e), List.length_append, List.length_map]; rfl
theorem mark_lk {v : Rk} {k : Nat} (hn : v.K.Nodup) (hA : v.A.length = v.K.length) (hR : v.R.length = v.K.length) (hk : k < v.K.length) (q : Pl) :
    lk v.K (markW v k).A false q = (if q = v.K.getD k (0, 0) then true else lk v.K v.A false q) ∧ lk v.K (markW v k).R false q = (if q = v.K.getD k (0, 0) then true else lk v.K v.R false q) := by
  have hg : v.K[k]? = some (v.K.getD k (0, 0)) := by rw [List.getD_eq_getElem?_getD, List.getElem?_eq_getElem hk]; rfl
  unfold markW
  split
  · rename_i h
    refine ⟨lk_set hn hA hk q, ?_⟩
    simp only
    split
    · rename_i e
      subst e
      rw [← lk_at (List.mem_of_getElem? hg), kI_at hn hg, Int.toNat_natCast, h]
    · rfl
  · exact ⟨lk_set hn hA hk q, lk_set hn hR hk q⟩
theorem mark_roads {v : Rk} {k : Nat} : (markW v k).roads = if v.R.getD k false = true then v.roads else v.roads + 1 := by
  unfold markW
  split <;> rfl
theorem sim_fwd {w : Wk} {v : Rk} {n : Nat} (h : Sim w v) (hx : RkX v n) : (fwdR w).1 = (rfwdR v).1 ∧ ((fwdR w).1 = 0 → Sim (fwdR w).2 (rfwdR v).2) := by
  unfold fwdR rfwdR
  rw [h.here, h.look]
  obtain ⟨p, hp⟩ : ∃ p, p = onP (w.s.x, w.s.y) w.s.d := ⟨_, rfl⟩
  have hph : p ≠ (w.s.x, w.s.y) := by rw [hp]; exact onP_ne
  rw [← hp]
  simp only
  by_cases hroom : p.1 < -4000 ∨ 4000 < p.1 ∨ p.2 < -4000 ∨ -1 < p.2
  · rw [if_pos hroom, if_pos hroom]
    exact ⟨rfl, fun e => by cases e⟩
  rw [if_neg hroom, if_neg hroom]
  obtain ⟨hS1, hA1, hR1, hnd1, hmem1, hkl1⟩ := spot_len hx.i (p := p)
  obtain ⟨hsm1, hsm2, hsm3, hsm4, hsm5, hsm6, hsm7⟩ := spot_same v p
  have hlk := spot_lk hx.i p
  have hplc : ∀ i, i < v.K.length → (spotW v p).K.getD i (0, 0) = v.K.getD i (0, 0) := fun i hi => spot_plc p hi
  generalize spotW v p = u at *
  obtain ⟨k, hk1, hk2, hk3⟩ := kI_mem hmem1
  have hkp : u.K.getD k (0, 0) = p := by rw [List.getD_eq_getElem?_getD, hk3]; rfl
  have eA : u.A.getD k false = lk u.K u.A false p := by rw [← lk_at hmem1, hk1, Int.toNat_natCast]
  have eS : u.S.getD k 0 = lk u.K u.S 0 p := by rw [← lk_at hmem1, hk1, Int.toNat_natCast]
  have eR : u.R.getD k false = lk u.K u.R false p := by rw [← lk_at hmem1, hk1, Int.toNat_natCast]
  rw [hk1, Int.toNat_natCast, eA, eS, (hlk p).1, (hlk p).2.1, (hlk p).2.2.2, h.wr, h.fr, h.on, h.arm]
  have hc : (decide (p ∈ w.trail.map plT) = true ∨ lk v.K v.S 0 p ≠ 0 ∨ facedB v.K v.S p = true) ↔ (decide (p = (w.s.x, w.s.y) ∨ p ∈ w.trail.map plT) = true ∨ lk v.K v.S 0 p ≠ 0 ∨ facedB v.K v.S p = true) := by
    simp only [decide_eq_true_eq, hph, false_or]
  by_cases hbad : decide (p ∈ w.trail.map plT) = true ∨ lk v.K v.S 0 p ≠ 0 ∨ facedB v.K v.S p = true
  · rw [if_pos hbad, if_pos (hc.1 hbad)]
    exact ⟨rfl, fun e => by cases e⟩
  rw [if_neg hbad, if_neg fun e => hbad (hc.2 e)]
  have hpP : p ∉ w.trail.map plT := fun e => hbad (.inl (by simpa using e))
  have hpS : lk v.K v.S 0 p = 0 := by
    by_cases e : lk v.K v.S 0 p = 0
    · exact e
    · exact absurd (.inr (.inl e)) hbad
  have hroads : (longW (markW (pushW u k) k)).roads = ((aput p true w.road).length : Int) := by
    have e1 : (longW (markW (pushW u k) k)).roads = (markW (pushW u k) k).roads := rfl
    rw [e1, mark_roads, show (pushW u k).R.getD k false = u.R.getD k false from rfl, eR, (hlk p).2.2.1, put_len h.rt, h.rd, show (pushW u k).roads = u.roads from rfl, hsm5, h.rl]
    split <;> omega
  rw [hroads]
  have hfull : (65536 < ((aput p true w.road).length : Int)) ↔ (65536 < (aput p true w.road).length) := by omega
  by_cases hf : 65536 < (aput p true w.road).length
  · rw [if_pos hf, if_pos (hfull.2 hf)]
    exact ⟨rfl, fun e => by cases e⟩
  rw [if_neg hf, if_neg fun e => hf (hfull.1 e)]
  refine ⟨rfl, fun _ => ?_⟩
  obtain ⟨mS, mA, mR, mh, ml, ma, md, -, -, mc, -, -, -⟩ := mark_R (pushW u k) k
  have mK := mark_K (pushW u k) k
  have mlk := fun q => mark_lk (v := pushW u k) (k := k) hnd1 hA1 hR1 hk2 q
  have hlong : (markW (pushW u k) k).long = u.long := by unfold markW; split <;> rfl
  refine ⟨?_, ?_, ?_, ?_, ?_, ?_, fun q => ?_, fun q => ?_, fun q => ?_, fun q => ?_, ?_, ?_, fun q hq => ?_, fun q => ?_, fun c hc => ?_, hroads, nodup_put h.od⟩
  · show (markW (pushW u k) k).K.getD (markW (pushW u k) k).here.toNat (0, 0) = p
    rw [mK, mh]
    exact hkp
  · show (markW (pushW u k) k).look = w.s.d
    rw [ml, ← h.look]; exact hsm2
  · show (markW (pushW u k) k).at_.map (fun a => (markW (pushW u k) k).K.getD a.toNat (0, 0)) = (w.trail ++ [w.s]).map plT
    rw [ma, mK, show (pushW u k).at_ = u.at_ ++ [u.here] from rfl, show (pushW u k).K = u.K from rfl, List.map_append, List.map_append, hsm3, hsm1, ← h.tr]
    refine congr (congrArg _ (List.map_congr_left fun a ha => hplc _ (by have := hx.ai a ha; omega))) ?_
    simp only [List.map_cons, List.map_nil]
    rw [hplc _ (by have := hx.i.h; omega)]
    exact congrArg (fun z => [z]) h.here
  · show (markW (pushW u k) k).dir = (w.trail ++ [w.s]).map Sd.d
    rw [md, show (pushW u k).dir = u.dir ++ [u.look] from rfl, hsm4, hsm2, h.td, h.look, List.map_append]; rfl
  · show (markW (pushW u k) k).count = w.count
    rw [mc, ← h.c]; exact hsm7
  · show max (markW (pushW u k) k).long ((markW (pushW u k) k).at_.length : Int) = max w.long ((w.trail ++ [w.s]).length : Int)
    have hl := congrArg List.length h.tr
    rw [List.length_map, List.length_map] at hl
    rw [hlong, ma, show (pushW u k).at_ = u.at_ ++ [u.here] from rfl, hsm6, h.lo, hsm3, List.length_append, List.length_append, hl]; rfl
  · show aget 0 q w.wrote = lk (markW (pushW u k) k).K (markW (pushW u k) k).S 0 q
    rw [mK, mS, h.wr]; exact (hlk q).1.symm
  · show aget false q w.fronts = facedB (markW (pushW u k) k).K (markW (pushW u k) k).S q
    rw [mK, mS, h.fr]; exact (hlk q).2.2.2.symm
  · show aget false q (aput (w.s.x, w.s.y) true w.onto) = decide (q ∈ (w.trail ++ [w.s]).map plT)
    rw [aget_put, h.on, List.map_append]
    by_cases e : q = (w.s.x, w.s.y)
    · rw [if_pos e, e]; simp [plT]
    · rw [if_neg e]; simp [plT, e]
  · show lk (markW (pushW u k) k).K (markW (pushW u k) k).A false q = decide (q = p ∨ q ∈ (w.trail ++ [w.s]).map plT)
    rw [mK, (mlk q).1, show (pushW u k).K = u.K from rfl, show (pushW u k).A = u.A from rfl, hkp, (hlk q).2.1, h.arm, List.map_append]
    by_cases e : q = p
    · rw [if_pos e]; simp [e]
    · rw [if_neg e]
      by_cases e2 : q = (w.s.x, w.s.y)
      · simp [e2, plT]
      · simp [e, e2, plT]
  · show p ∉ (w.trail ++ [w.s]).map plT
    rw [List.map_append, List.mem_append]
    rintro (e | e)
    · exact hpP e
    · simp only [List.map_cons, List.map_nil, List.mem_singleton] at e
      exact hph e
  · show ((w.trail ++ [w.s]).map plT).Nodup
    rw [List.map_append, List.nodup_append]
    refine ⟨h.nd, by simp, fun a ha b hb => ?_⟩
    simp only [List.map_cons, List.map_nil, List.mem_singleton] at hb
    subst hb
    exact fun e => h.nh (by rw [show (w.s.x, w.s.y) = a from e.symm]; exact ha)
  · show lk (markW (pushW u k) k).K (markW (pushW u k) k).S 0 q = 0
    rw [mK, mS]
    refine ((hlk q).1).trans ?_
    rcases hq with e | e
    · exact (congrArg _ e).trans hpS
    · refine h.z q ?_
      have e2 : q ∈ (w.trail ++ [w.s]).map plT := e
      rw [List.map_append, List.mem_append] at e2
      rcases e2 with e2 | e2
      · exact .inr e2
      · simp only [List.map_cons, List.map_nil, List.mem_singleton] at e2
        exact .inl e2
  · show aget false q (aput p true w.road) = lk (markW (pushW u k) k).K (markW (pushW u k) k).R false q
    rw [mK, (mlk q).2, show (pushW u k).K = u.K from rfl, show (pushW u k).R = u.R from rfl, hkp, (hlk q).2.2.1, aget_put, h.rd]
  · rcases mem_put hc with e | e
    · rw [e]
    · exact h.rt c e
end Go.Proofs.YtdgoompjoeffcaaGreat
/- What a tape means: both walks, writing; a command; all commands. -/
namespace Go.Proofs.YtdgoompjoeffcaaGreat
open Pm
attribute [local irreducible] Wait CallT CallW NextT Le Weak
theorem take_snocD {α : Type} (l : List α) (k : Nat) (d : α) (h : k < l.length) : l.take (k + 1) = l.take k ++ [l.getD k d] := by
  rw [List.take_add_one, List.getElem?_eq_getElem h, List.getD_eq_getElem?_getD, List.getElem?_eq_getElem h]; rfl
theorem snoc_ofD {α : Type} {l : List α} {n : Nat} (d : α) (h : n + 1 = l.length) : l = l.take n ++ [l.getD n d] := by
  have h1 := take_snocD l n d (by omega)
  rw [h, List.take_length] at h1
  exact h1
theorem kI_iff {K : List Pl} {p : Pl} : 0 ≤ kI K p ↔ p ∈ K := by
  by_cases h : p ∈ K
  · obtain ⟨i, h1, h2, h3⟩ := kI_mem h
    rw [h1]; simp only [h, iff_true]; omega
  · rw [kI_none h]; simp only [h, iff_false]; omega
theorem sim_wr {w : Wk} {v : Rk} {n : Nat} (s : Int) (h : Sim w v) (hx : RkX v n) : (wrR w s).1 = (rwrR v s).1 ∧ ((wrR w s).1 = 0 → Sim (wrR w s).2 (rwrR v s).2) := by
  unfold wrR rwrR
  rw [h.here]
  have hl := congrArg List.length h.tr
  rw [List.length_map, List.length_map] at hl
  have hne := hx.ne
  obtain ⟨f, hf⟩ : ∃ f, f = onP (w.s.x, w.s.y) (dirOf s) := ⟨_, rfl⟩
  have hfh : f ≠ (w.s.x, w.s.y) := by rw [hf]; exact onP_ne
  rw [← hf]
  simp only
  have hc : (w.trail.length = 1 ∨ kindOf s = 9 ∧ aget false f w.onto = true) ↔ (v.at_.length = 1 ∨ kindOf s = 9 ∧ 0 ≤ kI v.K f ∧ v.A.getD (kI v.K f).toNat false = true) := by
    rw [hl, h.on, kI_iff]
    have h1 := h.arm f
    unfold lk at h1
    by_cases hm : f ∈ v.K
    · rw [if_pos hm] at h1
      rw [h1]
      simp only [hm, true_and, decide_eq_true_eq, hfh, false_or]
    · rw [if_neg hm] at h1
      have h2 := of_decide_eq_false h1.symm
      have h3 : f ∉ w.trail.map plT := fun e => h2 (.inr e)
      simp only [hm, h3, false_and, and_false, decide_false, Bool.false_eq_true]
  by_cases hbad : w.trail.length = 1 ∨ kindOf s = 9 ∧ aget false f w.onto = true
  · rw [if_pos hbad, if_pos (hc.1 hbad)]
    exact ⟨rfl, fun e => by cases e⟩
  rw [if_neg hbad, if_neg fun e => hbad (hc.2 e)]
  refine ⟨rfl, fun _ => ?_⟩
  obtain ⟨m, hm⟩ : ∃ m, m + 1 = w.trail.length := ⟨w.trail.length - 1, by omega⟩
  rw [show w.trail.length - 1 = m by omega, show v.at_.length - 1 = m by omega]
  obtain ⟨T, hT⟩ : ∃ T, T = w.trail.take m := ⟨_, rfl⟩
  obtain ⟨t, ht⟩ : ∃ t, t = w.trail.getD m default := ⟨_, rfl⟩
  have eT : w.trail = T ++ [t] := by rw [hT, ht]; exact snoc_ofD _ hm
  obtain ⟨B, hB⟩ : ∃ B, B = v.at_.take m := ⟨_, rfl⟩
  obtain ⟨a, ha⟩ : ∃ a, a = v.at_.getD m 0 := ⟨_, rfl⟩
  have eB : v.at_ = B ++ [a] := by rw [hB, ha]; exact snoc_ofD _ (by omega)
  obtain ⟨D, hD⟩ : ∃ D, D = v.dir.take m := ⟨_, rfl⟩
  obtain ⟨d, hd⟩ : ∃ d, d = v.dir.getD m 0 := ⟨_, rfl⟩
  have eD : v.dir = D ++ [d] := by rw [hD, hd]; exact snoc_ofD _ (by have := hx.i.da; omega)
  rw [← hT, ← ht, ← hB, ← ha, ← hD, ← hd]
  have htr := h.tr
  rw [eT, eB, List.map_append, List.map_append] at htr
  have htr1 := List.append_inj_left' htr rfl
  have htr2 := List.append_inj_right' htr rfl
  simp only [List.map_cons, List.map_nil, List.cons.injEq, and_true] at htr2
  have htd := h.td
  rw [eT, eD, List.map_append] at htd
  have htd1 := List.append_inj_left' htd rfl
  have htd2 := List.append_inj_right' htd rfl
  simp only [List.map_cons, List.map_nil, List.cons.injEq, and_true] at htd2
  have hP : w.trail.map plT = T.map plT ++ [plT t] := by rw [eT, List.map_append]; rfl
  have hnd := h.nd
  have hnh := h.nh
  rw [hP] at hnd hnh
  have htT : plT t ∉ T.map plT := fun e => (List.nodup_append.1 hnd).2.2 _ e _ (by simp) rfl
  have hth : plT t ≠ (w.s.x, w.s.y) := fun e => hnh (by rw [← e]; simp)
  have hhT : (w.s.x, w.s.y) ∉ T.map plT := fun e => hnh (by simp [e])
  have hnat : v.here.toNat < v.K.length := by have := hx.i.h; omega
  have hhere : v.K.getD v.here.toNat (0, 0) = (w.s.x, w.s.y) := h.here
  have hset := fun q => lk_set (d := 0) (a := s) hx.i.nd hx.i.s hnat q
  have hsetA := fun q => lk_set (d := false) (a := false) hx.i.nd hx.i.a hnat q
  rw [hhere] at hset hsetA
  refine ⟨htr2, htd2, htr1, htd1, h.c, h.lo, fun q => ?_, fun q => ?_, fun q => ?_, fun q => ?_, htT, (List.nodup_append.1 hnd).1, fun q hq => ?_, h.rd, h.rt, h.rl, nodup_del h.od⟩
  · show aget 0 q (aput (w.s.x, w.s.y) s w.wrote) = lk v.K (v.S.set v.here.toNat s) 0 q
    rw [aget_put, hset, h.wr]
  · show aget false q (if kindOf s = 9 then aput f true w.fronts else w.fronts) = facedB v.K (v.S.set v.here.toNat s) q
    rw [Bool.eq_iff_iff, faced_set hx.i.nd hx.i.s hnat (by rw [hhere]; exact h.z _ (.inl rfl)), hhere, ← hf, ← h.fr]
    by_cases h9 : kindOf s = 9
    · rw [if_pos h9, aget_put]
      by_cases e : q = f
      · rw [if_pos e]; simp [h9, e]
      · rw [if_neg e]; simp [e]
    · rw [if_neg h9]; simp [h9]
  · show aget false q (adel (plT t) w.onto) = decide (q ∈ T.map plT)
    rw [aget_del h.od, h.on, hP]
    by_cases e : q = plT t
    · rw [if_pos e, e]; simp only [htT, decide_false]
    · rw [if_neg e]; simp only [List.mem_append, List.mem_singleton, e, or_false]
  · show lk v.K (v.A.set v.here.toNat false) false q = decide (q = plT t ∨ q ∈ T.map plT)
    rw [hsetA, h.arm, hP]
    by_cases e : q = (w.s.x, w.s.y)
    · have h1 : ¬ (q = plT t ∨ q ∈ T.map plT) := by
        rw [e]
        rintro (h1 | h1)
        · exact hth h1.symm
        · exact hhT h1
      rw [if_pos e, decide_eq_false h1]
    · rw [if_neg e]
      simp only [List.mem_append, List.mem_singleton, e, false_or, or_comm]
  · show lk v.K (v.S.set v.here.toNat s) 0 q = 0
    rw [hset]
    have hq2 : q = plT t ∨ q ∈ T.map plT := hq
    have hqh : q ≠ (w.s.x, w.s.y) := by
      rintro e
      rw [e] at hq2
      rcases hq2 with h1 | h1
      · exact hth h1.symm
      · exact hhT h1
    rw [if_neg hqh]
    refine h.z q (.inr ?_)
    rw [hP, List.mem_append, List.mem_singleton]
    exact hq2.symm
theorem sim_fwdN : ∀ (k n : Nat) (w : Wk) (v : Rk), Sim w v → RkX v n → (fwdN k w).1 = (rfwdN k v).1 ∧ ((fwdN k w).1 = 0 → Sim (fwdN k w).2 (rfwdN k v).2)
  | 0, n, w, v, h, hx => ⟨rfl, fun _ => h⟩
  | k + 1, n, w, v, h, hx => by
    obtain ⟨h1, h2⟩ := sim_fwd h hx
    by_cases e : (fwdR w).1 = 0
    · have e' : (rfwdR v).1 = 0 := h1 ▸ e
      rw [fwdN_ok e, rfwdN_ok e']
      exact sim_fwdN k (n + 1) _ _ (h2 e) (rfwdR_inv (w' := (rfwdR v).2) hx (by rw [← e'])).1
    · have e' : (rfwdR v).1 ≠ 0 := fun h0 => e (h1.trans h0)
      rw [fwdN_bad e, rfwdN_bad e']
      exact ⟨h1, fun h0 => absurd h0 e⟩
theorem sim_wrN (s : Int) : ∀ (k n : Nat) (w : Wk) (v : Rk), Sim w v → RkX v n → (wrN s k w).1 = (rwrN s k v).1 ∧ ((wrN s k w).1 = 0 → Sim (wrN s k w).2 (rwrN s k v).2)
  | 0, n, w, v, h, hx => ⟨rfl, fun _ => h⟩
  | k + 1, n, w, v, h, hx => by
    obtain ⟨h1, h2⟩ := sim_wr s h hx
    by_cases e : (wrR w s).1 = 0
    · have e' : (rwrR v s).1 = 0 := h1 ▸ e
      rw [wrN_ok e, rwrN_ok e']
      exact sim_wrN s k n _ _ (h2 e) (rwrR_inv (w' := (rwrR v s).2) hx (by rw [← e'])).1
    · have e' : (rwrR v s).1 ≠ 0 := fun h0 => e (h1.trans h0)
      rw [wrN_bad e, rwrN_bad e']
      exact ⟨h1, fun h0 => absurd h0 e⟩
theorem sim_cmd {w : Wk} {v : Rk} {n : Nat} {s : Int} (hs : cmdB s = true) (h : Sim w v) (hx : RkX v n) : (cmdP w s).1 = (rcmdR v s).1 ∧ ((cmdP w s).1 = 0 → Sim (cmdP w s).2 (rcmdR v s).2) := by
  simp only [cmdB, Bool.and_eq_true, decide_eq_true_eq] at hs
  have hp := rpre_x (s := s) hx
  unfold cmdP rcmdR
  by_cases h5 : s = 5
  · rw [if_pos h5, if_neg (by omega), if_neg (by omega), h.c]
    refine sim_fwdN _ n _ _ ⟨h.here, ?_, h.tr, h.td, ?_, h.lo, h.wr, h.fr, h.on, h.arm, h.nh, h.nd, h.z, h.rd, h.rt, h.rl, h.od⟩ hp
    · simp only [rpreR, h5]; exact h.look
    · simp only [rpreR, h5]; rfl
  rw [if_neg h5]
  by_cases h67 : s = 6 ∨ s = 7
  · rw [if_pos h67, if_pos (by omega)]
    refine ⟨rfl, fun _ => ⟨h.here, ?_, h.tr, h.td, ?_, h.lo, h.wr, h.fr, h.on, h.arm, h.nh, h.nd, h.z, h.rd, h.rt, h.rl, h.od⟩⟩
    · rcases h67 with rfl | rfl
      · show (if (6 : Int) = 6 then (v.look + 1).tmod 4 else if (6 : Int) = 7 then (v.look + 3).tmod 4 else v.look) = (w.s.d + 1 + 2 * (6 - 6)).tmod 4
        rw [if_pos rfl, h.look]; simp
      · show (if (7 : Int) = 6 then (v.look + 1).tmod 4 else if (7 : Int) = 7 then (v.look + 3).tmod 4 else v.look) = (w.s.d + 1 + 2 * (7 - 6)).tmod 4
        rw [if_neg (by decide), if_pos rfl, h.look, show w.s.d + 1 + 2 * (7 - 6) = w.s.d + 3 by omega]
    · show (if 8 ≤ s ∧ s < 24 then _ else 0) = 0
      rw [if_neg (by omega)]
  rw [if_neg h67]
  by_cases h24 : s < 24
  · rw [if_pos h24, if_pos (by omega)]
    refine ⟨rfl, fun _ => ⟨h.here, ?_, h.tr, h.td, ?_, h.lo, h.wr, h.fr, h.on, h.arm, h.nh, h.nd, h.z, h.rd, h.rt, h.rl, h.od⟩⟩
    · show (if s = 6 then _ else if s = 7 then _ else v.look) = w.s.d
      rw [if_neg (by omega), if_neg (by omega)]; exact h.look
    · show (if 8 ≤ s ∧ s < 24 then min (16 * v.count + s - 8) 255 else 0) = min (16 * w.count + s - 8) 255
      rw [if_pos (by omega), h.c]
  · rw [if_neg h24, if_neg (by omega), if_pos (by omega), h.c, ← written_eq]
    refine sim_wrN _ _ n _ _ ⟨h.here, ?_, h.tr, h.td, ?_, h.lo, h.wr, h.fr, h.on, h.arm, h.nh, h.nd, h.z, h.rd, h.rt, h.rl, h.od⟩ hp
    · show (if s = 6 then _ else if s = 7 then _ else v.look) = w.s.d
      rw [if_neg (by omega), if_neg (by omega)]; exact h.look
    · show (if 8 ≤ s ∧ s < 24 then _ else 0) = 0
      rw [if_neg (by omega)]
theorem sim_walk : ∀ (l : List Int) (n : Nat) (w : Wk) (v : Rk), l.all cmdB = true → Sim w v → RkX v n → (0 ≤ v.count ∧ v.count ≤ 255) → (walkP l w).1 = (rwalkR l v).1 ∧ ((walkP l w).1 = 0 → Sim (walkP l w).2 (rwalkR l v).2)
  | [], n, w, v, _, h, hx, hc => ⟨rfl, fun _ => h⟩
  | s :: l, n, w, v, hl, h, hx, hc => by
    simp only [List.all_cons, Bool.and_eq_true] at hl
    obtain ⟨h1, h2⟩ := sim_cmd hl.1 h hx
    by_cases e : (cmdP w s).1 = 0
    · have e' : (rcmdR v s).1 = 0 := h1 ▸ e
      rw [walkP_ok e, rwalkR_ok e']
      have hi := rcmd_inv (w' := (rcmdR v s).2) (s := s) hx hc (by have := hl.1; simp only [cmdB, Bool.and_eq_true, decide_eq_true_eq] at this; omega) (by rw [← e'])
      exact sim_walk l (n + 255) _ _ hl.2 (h2 e) hi.1 hi.2.1
    · have e' : (rcmdR v s).1 ≠ 0 := fun h0 => e (h1.trans h0)
      rw [walkP_bad e, rwalkR_bad e']
      exact ⟨h1, fun h0 => absurd h0 e⟩
theorem sim_begin : Sim beginW rBegin := by
  have hz : ∀ p, lk rBegin.K rBegin.S 0 p = 0 := fun p => by
    unfold lk
    split
    · show ([0, 0] : List Int).getD _ 0 = 0
      match (kI rBegin.K p).toNat with
      | 0 => rfl
      | 1 => rfl
      | n + 2 => rfl
    · rfl
  have hk0 : kI rBegin.K (0, 0) = 0 := by decide
  have hk1 : kI rBegin.K (0, 1) = 1 := by decide
  refine ⟨rfl, rfl, rfl, rfl, rfl, rfl, fun p => (hz p).symm, fun p => ?_, fun p => ?_, fun p => ?_, by decide, by decide, fun p _ => hz p, fun p => ?_, by decide, rfl, by decide⟩
  · show false = facedB rBegin.K rBegin.S p
    cases h : facedB rBegin.K rBegin.S p with
    | false => rfl
    | true =>
      obtain ⟨d, -, h1, -⟩ := (facedB_iff _ _ _).1 h
      rw [hz] at h1
      exact absurd h1 kind0
  · show (if p = (0, 1) then true else false) = decide (p ∈ [((0, 1) : Pl)])
    by_cases e : p = (0, 1)
    · rw [if_pos e, e]; rfl
    · rw [if_neg e]; simp [e]
  · show lk rBegin.K rBegin.A false p = decide (p = (0, 0) ∨ p ∈ [((0, 1) : Pl)])
    unfold lk
    by_cases e : p = (0, 0)
    · rw [e, hk0]; rfl
    · by_cases e2 : p = (0, 1)
      · rw [e2, hk1]; rfl
      · have h1 : p ∉ rBegin.K := by show p ∉ [((0, 0) : Pl), (0, 1)]; simp [e, e2]
        rw [if_neg h1]; simp [e, e2]
  · show (if p = (0, 0) then true else false) = lk rBegin.K rBegin.R false p
    unfold lk
    by_cases e : p = (0, 0)
    · rw [e, hk0]; rfl
    · rw [if_neg e]
      by_cases e2 : p = (0, 1)
      · rw [e2, hk1]; rfl
      · have h1 : p ∉ rBegin.K := by show p ∉ [((0, 0) : Pl), (0, 1)]; simp [e, e2]
        rw [if_neg h1]
theorem sim_all (t : List Int) : (progWalk t).1 = (refWalk t).1 ∧ ((progWalk t).1 = 0 → Sim (progWalk t).2 (refWalk t).2) := by
  unfold progWalk refWalk
  by_cases hc : checkE t = 0
  · rw [if_pos hc, if_pos hc]
    have hall : ((t.take (t.length - 2)).drop 1).all cmdB = true := by
      cases h : ((t.take (t.length - 2)).drop 1).all cmdB with
      | true => rfl
      | false => rw [checkE_bad h] at hc; cases hc
    exact sim_walk _ 0 _ _ hall sim_begin rBegin_x (by decide)
  · rw [if_neg hc, if_neg hc]
    exact ⟨rfl, fun h => by cases h⟩
end Go.Proofs.YtdgoompjoeffcaaGreat
