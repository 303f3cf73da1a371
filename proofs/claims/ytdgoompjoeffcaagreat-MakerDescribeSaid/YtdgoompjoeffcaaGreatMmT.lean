import Derived.Test.YtdgoompjoeffcaaGreatProg
import Derived.Test.YtdgoompjoeffcaaGreatPmY
import Derived.Test.YtdgoompjoeffcaaGreatMmQ
/- What a tape means: what a walker has written. -/
set_option linter.unusedSimpArgs false
set_option linter.unusedVariables false
set_option maxRecDepth 20000
open Go Go.Proofs
namespace Go.Proofs.YtdgoompjoeffcaaGreat
open Pm
attribute [local irreducible] Wait CallT CallW NextT Le Weak
theorem aput_new {α : Type} {p : Pl} {v : α} {M : List (Pl × α)} (h : p ∉ M.map Prod.fst) : aput p v M = M ++ [(p, v)] := by
  induction M with
  | nil => rfl
  | cons e M ih =>
    obtain ⟨q, a⟩ := e
    simp only [List.map_cons, List.mem_cons, not_or] at h
    simp only [aput, if_neg h.1, ih h.2, List.cons_append]
/-- A walker, told whole. -/
def wkF (w : Wk) : AV := .fptr [.v (.int .i64 w.s.x), .v (.int .i64 w.s.y), .v (.int .i64 w.s.d), .fsl 3 (trA w.trail), .v (.int .i64 w.count), .fmap (mK w.onto) (mV bA w.onto), .fmap (mK w.wrote) (mV iA w.wrote), .fmap (mK w.fronts) (mV bA w.fronts), .fmap (mK w.road) (mV bA w.road), .v (.int .i64 w.long), .v (.int .i64 w.give)]
def nz (c : Ce) : Bool := decide (c.2 ≠ 0)
theorem wrote_pc (w : Wk) (hb : ∀ c ∈ w.wrote, far c) (hn : (w.wrote.map Prod.fst).Nodup) (hs : w.wrote.length < 1000000000000) :
    PCon Tryz.prog 22 [wkF w] (· = .fsl 3 (ceL (sortC (w.wrote.filter nz)))) := by
  obtain ⟨l, hl⟩ : ∃ l, l = w.wrote := ⟨_, rfl⟩
  rw [← hl] at hb hn hs ⊢
  have hnf : ((l.filter nz).map Prod.fst).Nodup := hn.sublist ((List.filter_sublist).map _)
  refine pcon_run 1000 Tryz.func22 rfl Tryz.results22 Tryz.ntmps22 (Nat.le_of_ble_eq_true rfl) ?_
  simp -implicitDefEqProofs only [go_sem, wkF, ← hl]
  (repeat' (first | exact trivial | contradiction | exact ⟨_, rfl⟩ | refine And.intro ?_ ?_ | (refine om ?_; omega)  | (refine wait_draw 1000 mixed (by decide +kernel) ?_; simp -implicitDefEqProofs only [go_sem , wkF, ← hl]) | intro _))
  refine wait_data (fun p : List Ce × List Ce => ⟨24, 0, [(3, .map 0), (11, .ptr 1 0 0 0)], [some (.mp (mE iA p.2)), some (.it [] (mK p.1) (mV iA p.1))]⟩) (fun p => (p.1.filter nz ++ p.2).Perm (l.filter nz) ∧ ((p.1 ++ p.2).map Prod.fst).Nodup) (fun p => p.1.length) (l, []) (weak_to [3, 11] [0, 1] ?_ (by simp) (fun i h => by cases h)) (by simpa using hn) ?_
  · simp -implicitDefEqProofs only [go_sem, St.keep]
    rfl
  rintro ⟨L, M⟩ ⟨hp, hk⟩
  simp only at hp hk
  refine run_sound 1000 _ _ ?_
  simp -implicitDefEqProofs only [go_sem]
  refine next_t 0 (id := 1) rfl rfl (fun h0 => ?_) (fun q hq => ?_)
  · have hL : L = [] := by cases L with | nil => rfl | cons a b => simp [mK] at h0
    subst hL
    have hM : M.Perm (l.filter nz) := by simpa using hp
    have heq := sortC_congr hM hnf
    have hMl : M.length < 1000000000000 := by have := hM.length_eq; have := List.length_filter_le nz l; omega
    have hMb : ∀ c ∈ M, far c := fun c hc => hb c (List.mem_filter.1 (hM.mem_iff.1 hc)).1
    have hMn : (M.map Prod.fst).Nodup := by simpa using hk
    refine run_weak 1000 (weak_frzB 0 (st' := ⟨24, 0, [(12, .tup [.v (.bool false)]), (3, .fmap (mK M) (mV iA M)), (11, .ptr 1 0 0 0)], [none, some (.it [] (mK ([] : List Ce)) (mV iA ([] : List Ce)))]⟩) rfl rfl (fun f => by simp -implicitDefEqProofs only [go_sem]) ?_) ?_
    · simp -implicitDefEqProofs only [go_sem]
    simp -implicitDefEqProofs only [go_sem]
    (repeat' (first | exact trivial | contradiction | exact ⟨_, rfl⟩ | refine And.intro ?_ ?_ | (refine om ?_; omega) | (refine wait_draw 1000 mixed (by decide +kernel) ?_; simp -implicitDefEqProofs only [go_sem]) | ((first | refine call_eq 1000 (sorted_pc M hMb hMn hMl) ?_ ?_ rfl | refine call_draw 1000 (sorted_pc M hMb hMn hMl) ?_ ?_); (focus (simp -implicitDefEqProofs only [go_sem]; done)); simp -implicitDefEqProofs only [go_sem]) | intro _))
    all_goals rw [heq]
  · rw [mK_len] at hq
    have gk := mK_get L q hq
    have gv := mV_get iA L q hq
    have hpe := perm_erase L q hq
    generalize L.getD q default = e at gk gv hpe
    obtain ⟨⟨x, y⟩, s⟩ := e
    simp only [kA] at gk
    simp only [iA] at gv
    have hlen2 := hpe.length_eq
    rw [List.length_cons] at hlen2
    have hk2 : ((L.eraseIdx q ++ (M ++ [((x, y), s)])).map Prod.fst).Nodup := by
      rw [← List.append_assoc]
      refine (List.Perm.nodup_iff ?_).2 hk
      exact ((List.perm_append_singleton _ _).trans (List.Perm.append_right M hpe)).map _
    have hnew : (x, y) ∉ M.map Prod.fst := by
      rw [List.map_append, List.map_append] at hk2
      have := (List.nodup_append.1 (List.nodup_append.1 hk2).2.1).2.2
      intro h
      exact this _ h _ (by simp) rfl
    refine run_again 1000 ?_
    simp -implicitDefEqProofs only [go_sem, gk, gv, mget_pl]
    (repeat' (first | exact trivial | contradiction | exact ⟨_, rfl⟩ | refine And.intro ?_ ?_ | (refine om ?_; omega)  | (refine wait_draw 1000 mixed (by decide +kernel) ?_; simp -implicitDefEqProofs only [go_sem , mget_pl]) | intro _))
    · refine ⟨(L.eraseIdx q, aput (x, y) s M), ?_, ⟨?_, ?_⟩, ?_⟩
      · show (L.eraseIdx q).length < L.length; omega
      · show ((L.eraseIdx q).filter nz ++ aput (x, y) s M).Perm (l.filter nz)
        rw [aput_new hnew, ← List.append_assoc]
        refine (List.perm_append_singleton _ _).trans (List.Perm.trans ?_ hp)
        have := hpe.filter nz
        rw [List.filter_cons_of_pos (by simp [nz, *])] at this
        exact List.Perm.append_right M this
      · show ((L.eraseIdx q ++ aput (x, y) s M).map Prod.fst).Nodup
        rw [aput_new hnew]; exact hk2
      · refine (weak_it 1 rfl).trans (weak_to [3, 11] [0, 1] ?_ (by simp) (fun i h => by cases h))
        simp -implicitDefEqProofs only [go_sem, St.keep]
    · refine ⟨(L.eraseIdx q, M), ?_, ⟨?_, ?_⟩, ?_⟩
      · show (L.eraseIdx q).length < L.length; omega
      · show ((L.eraseIdx q).filter nz ++ M).Perm (l.filter nz)
        refine List.Perm.trans ?_ hp
        have := hpe.filter nz
        rw [List.filter_cons_of_neg (by simp [nz, *])] at this
        exact List.Perm.append_right M this
      · show ((L.eraseIdx q ++ M).map Prod.fst).Nodup
        exact List.Sublist.nodup (List.Sublist.map _ (List.Sublist.append_left (List.sublist_append_left _ _) _)) hk2
      · refine (weak_it 1 rfl).trans (weak_to [3, 11] [0, 1] ?_ (by simp) (fun i h => by cases h))
        simp -implicitDefEqProofs only [go_sem, St.keep]
end Go.Proofs.YtdgoompjoeffcaaGreat
/- What a tape means: the walker's maps. -/
namespace Go.Proofs.YtdgoompjoeffcaaGreat
open Pm
attribute [local irreducible] Wait CallT CallW NextT Le Weak
def near (p : Pl) : Prop := (-4000 ≤ p.1 ∧ p.1 ≤ 4000) ∧ (-4000 ≤ p.2 ∧ p.2 ≤ 1)
theorem mem_put {α : Type} {p : Pl} {v : α} {c : Pl × α} : ∀ {l : List (Pl × α)}, c ∈ aput p v l → c = (p, v) ∨ c ∈ l
  | [], h => .inl (by simpa [aput] using h)
  | (q, a) :: l, h => by
    simp only [aput] at h
    split at h
    · rcases List.mem_cons.1 h with h | h
      · exact .inl h
      · exact .inr (List.mem_cons_of_mem _ h)
    · rcases List.mem_cons.1 h with h | h
      · exact .inr (by rw [h]; simp)
      · rcases mem_put h with h | h
        · exact .inl h
        · exact .inr (List.mem_cons_of_mem _ h)
theorem len_put {α : Type} {p : Pl} {v : α} : ∀ (l : List (Pl × α)), (aput p v l).length ≤ l.length + 1 ∧ l.length ≤ (aput p v l).length
  | [] => by simp [aput]
  | (q, a) :: l => by
    simp only [aput]
    split
    · simp
    · have := len_put (p := p) (v := v) l
      simp only [List.length_cons]; omega
structure WkM (w : Wk) (n : Nat) : Prop where
  wl : w.wrote.length ≤ n
  rl : w.road.length ≤ n
  wn : (w.wrote.map Prod.fst).Nodup
  rn : (w.road.map Prod.fst).Nodup
  on : (w.onto.map Prod.fst).Nodup
  wf : ∀ c ∈ w.wrote, near c.1
  rf : ∀ c ∈ w.road, near c.1
theorem near_sd {s : Sd} (h : SdOk s) : near (s.x, s.y) := ⟨h.x, h.y⟩
theorem fwdR_map {w w' : Wk} {n m : Nat} (h : WkM w n) (e : fwdR w = (0, w')) : WkM w' (n + 1) := by
  obtain ⟨a, b, hab⟩ : ∃ a b, onP (w.s.x, w.s.y) w.s.d = (a, b) := ⟨_, _, rfl⟩
  simp only [fwdR, hab] at e
  split at e
  · cases e
  · rename_i h1
    split at e
    · cases e
    · split at e
      · cases e
      · cases e
        refine ⟨by have := h.wl; simp only; omega, by have := h.rl; have := (len_put (p := (a, b)) (v := true) w.road).1; simp only; omega, h.wn, nodup_put h.rn, nodup_put h.on, h.wf, fun c hc => ?_⟩
        rcases mem_put hc with rfl | hc
        · exact ⟨by simp only; omega, by simp only; omega⟩
        · exact h.rf c hc
theorem fwdN_map : ∀ (k n : Nat) (w w' : Wk), WkM w n → fwdN k w = (0, w') → WkM w' (n + k)
  | 0, n, w, w', h, e => by cases e; exact h
  | k + 1, n, w, w', h, e => by
    simp only [fwdN] at e
    split at e
    · rename_i h0
      have h1 := fwdR_map (m := 0) (w' := (fwdR w).2) h (by rw [← h0])
      have h3 := fwdN_map k (n + 1) _ w' h1 e
      rw [show n + (k + 1) = n + 1 + k by omega]; exact h3
    · rename_i h0; rw [e] at h0; exact absurd rfl h0
theorem wrR_map {w w' : Wk} {s : Int} {n m : Nat} (h : WkM w n) (hs : SdOk w.s) (e : wrR w s = (0, w')) : WkM w' (n + 1) := by
  simp only [wrR] at e
  split at e
  · cases e
  · cases e
    refine ⟨by have := h.wl; have := (len_put (p := (w.s.x, w.s.y)) (v := s) w.wrote).1; simp only; omega, by have := h.rl; simp only; omega, nodup_put h.wn, h.rn, nodup_del h.on, fun c hc => ?_, h.rf⟩
    rcases mem_put hc with rfl | hc
    · exact near_sd hs
    · exact h.wf c hc
theorem wrN_map (s : Int) : ∀ (k n m : Nat) (w w' : Wk), WkM w n → WkOk w m → wrN s k w = (0, w') → WkM w' (n + k)
  | 0, n, m, w, w', h, _, e => by cases e; exact h
  | k + 1, n, m, w, w', h, ho, e => by
    simp only [wrN] at e
    split at e
    · rename_i h0
      have h1 := wrR_map (m := 0) (w' := (wrR w s).2) h ho.s (by rw [← h0])
      have h3 := wrN_map s k (n + 1) m _ w' h1 (wrR_inv ho (by rw [← h0])).1 e
      rw [show n + (k + 1) = n + 1 + k by omega]; exact h3
    · rename_i h0; rw [e] at h0; exact absurd rfl h0
theorem WkM.le {w : Wk} {n m : Nat} (h : WkM w n) (hm : n ≤ m) : WkM w m := ⟨Nat.le_trans h.wl hm, Nat.le_trans h.rl hm, h.wn, h.rn, h.on, h.wf, h.rf⟩
theorem cmdP_map {w w' : Wk} {s : Int} {n m : Nat} (h : WkM w n) (hi : WkIn w m) (e : cmdP w s = (0, w')) : WkM w' (n + 255) := by
  have hc := hi.c
  unfold cmdP at e
  split at e
  · have hp : WkM (paidW w fun l => IntKind.i64.wrap (IntKind.i64.wrap (l + IntKind.i64.wrap (3 * (max w.count 1))) + 2)) n := ⟨h.wl, h.rl, h.wn, h.rn, h.on, h.wf, h.rf⟩
    exact (fwdN_map _ n _ _ hp e).le (by omega)
  · split at e
    · cases e; exact WkM.le (n := n) ⟨h.wl, h.rl, h.wn, h.rn, h.on, h.wf, h.rf⟩ (by omega)
    · split at e
      · cases e; exact WkM.le (n := n) ⟨h.wl, h.rl, h.wn, h.rn, h.on, h.wf, h.rf⟩ (by omega)
      · have hp : WkM (paidW w fun l => IntKind.i64.wrap (IntKind.i64.wrap (l + max w.count 1) + 2)) n := ⟨h.wl, h.rl, h.wn, h.rn, h.on, h.wf, h.rf⟩
        exact (wrN_map _ _ n m _ _ hp (paid_ok hi.ok _) e).le (by omega)
theorem cmdP_in {w w' : Wk} {s : Int} {n : Nat} (hs : cmdB s = true) (h : WkIn w n) (e : cmdP w s = (0, w')) : WkIn w' (n + 255) := by
  simp only [cmdB, Bool.and_eq_true, decide_eq_true_eq] at hs
  unfold cmdP at e
  split at e
  · exact forthP_inv h e
  · split at e
    · cases e; exact turn_in h (by omega) (by omega)
    · split at e
      · cases e; exact digit_in h (by omega)
      · exact writeP_inv h e
theorem walkP_inv : ∀ (l : List Int) (w w' : Wk) (n m : Nat), l.all cmdB = true → WkM w n → WkIn w m → walkP l w = (0, w') → WkM w' (n + 255 * l.length) ∧ WkIn w' (m + 255 * l.length)
  | [], w, w', n, m, _, h, hi, e => by cases e; exact ⟨h, hi⟩
  | s :: l, w, w', n, m, hl, h, hi, e => by
    simp only [List.all_cons, Bool.and_eq_true] at hl
    simp only [walkP] at e
    split at e
    · rename_i h0
      have h1 := cmdP_map (w' := (cmdP w s).2) h hi (by rw [← h0])
      have h2 := cmdP_in (w' := (cmdP w s).2) hl.1 hi (by rw [← h0])
      obtain ⟨h3, h4⟩ := walkP_inv l _ w' _ _ hl.2 h1 h2 e
      refine ⟨h3.le ?_, ?_⟩
      · simp only [List.length_cons]; omega
      · rw [show m + 255 * (s :: l).length = m + 255 + 255 * l.length by simp only [List.length_cons]; omega]; exact h4
    · rename_i h0; rw [e] at h0; exact absurd rfl h0
theorem begin_map : WkM beginW 1 := ⟨by decide, by decide, by decide, by decide, by decide, by simp [beginW], by
  simp only [beginW, List.mem_singleton, forall_eq, near]; omega⟩
theorem progWalk_inv {t : List Int} {w : Wk} (h : progWalk t = (0, w)) : WkM w 1048576 ∧ WkIn w 1048576 ∧ t.length ≤ 4096 ∧ 3 ≤ t.length := by
  unfold progWalk at h
  split at h
  · rename_i hc
    have hh : headB t = true := by
      cases h0 : headB t with
      | true => rfl
      | false => rw [checkE_head h0] at hc; cases hc
    have hlen : 3 ≤ t.length ∧ t.length ≤ 4096 := by simp only [headB, decide_eq_true_eq] at hh; omega
    have hall : ((t.take (t.length - 2)).drop 1).all cmdB = true := by
      cases h0 : ((t.take (t.length - 2)).drop 1).all cmdB with
      | true => rfl
      | false => rw [checkE_bad h0] at hc; cases hc
    have hbl : ((t.take (t.length - 2)).drop 1).length = t.length - 3 := by rw [List.length_drop, List.length_take]; omega
    obtain ⟨h1, h2⟩ := walkP_inv _ _ _ 1 1 hall begin_map begin_in h
    refine ⟨h1.le (by omega), ?_, hlen.2, hlen.1⟩
    exact ⟨⟨by have := h2.ok.tl; omega, h2.ok.ne, h2.ok.s, h2.ok.all⟩, h2.c⟩
  · cases h
end Go.Proofs.YtdgoompjoeffcaaGreat
/- What a tape means: the program's Meaning. -/
namespace Go.Proofs.YtdgoompjoeffcaaGreat
open Pm
attribute [local irreducible] Wait CallT CallW NextT Le Weak
structure Md where
  cells : List Ce
  road : List Ce
  long : Int
  copies : Bool
  port : Ce
def mdA (m : Md) : AV := .agg [.fsl 3 (ceL m.cells), .fsl 3 (ceL m.road), .v (.int .i64 m.long), .v (.bool m.copies), .v (.int .i64 m.port.1.1), .v (.int .i64 m.port.1.2), .v (.int .i64 m.port.2)]
def md0 : Md := ⟨[], [], 0, false, ((0, 0), 0)⟩
def bare0 (c : Pl × Bool) : Ce := (c.1, 0)
def cop (t : List Int) : Bool := t.getD (t.length - 2) 0 == 3
def progMade (t : List Int) : Md × Int :=
  let r := progWalk t
  if r.1 = 0 then (⟨sortC (r.2.wrote.filter nz), sortC (r.2.road.map bare0), r.2.long, cop t, if cop t = true then ((r.2.s.x, r.2.s.y), 0) else ((0, 0), 0)⟩, 0) else (md0, r.1)
theorem meaning_pc (t : List Int) (hm : t.length < 9223372036854775808) : PCon Tryz.prog 7 [tA t] (· = .tup [mdA (progMade t).1, .v (.int .i64 (progMade t).2)]) := by
  refine PCon.upto (pcon_run 1000 Tryz.func7 rfl Tryz.results7 Tryz.ntmps7 (Nat.le_of_ble_eq_true rfl) ?_)
  simp -implicitDefEqProofs only [go_sem, tA]
  refine call_con 0 [] (walk_con t hm) ?_ ?_ (by simp) (by simp) rfl ?_
  · simp -implicitDefEqProofs only [go_sem, tA]
  · simp -implicitDefEqProofs only [go_sem]
  rintro r hcal (⟨e, he, hne, rfl⟩ | ⟨he, rfl, rfl⟩)
  · refine ⟨by simp, ?_⟩
    have hpm : progMade t = (md0, e) := by unfold progMade; simp only [he, if_neg hne]
    have hf : (e = 0) = False := eq_false hne
    rw [hpm]
    refine run_again 1000 ?_
    simp -implicitDefEqProofs only [go_sem, tA, hf]
    exact Le.tup (.cons (Le.agg (.cons (Le.nil 3) (.cons (Le.nil 3) (LeL.refl _)))) (LeL.refl _))
  · refine ⟨by simp, ?_⟩
    obtain ⟨w, hw⟩ : ∃ w, w = (progWalk t).2 := ⟨_, rfl⟩
    have hpw : progWalk t = (0, w) := by rw [← he, hw]
    obtain ⟨hM, hI, ht1, ht2⟩ := progWalk_inv hpw
    rw [← hw]
    refine run_weak 1000 (st' := ⟨57, 0, [(11, .tup [wkF w, .v (.int .i64 0)]), (10, .fsl 1 (t.map iA)), (3, .v (.int .i64 0)), (2, .ptr 0 7 0 0), (0, .fsl 1 (t.map iA))],
      [some (.row 31 7 [.agg [.v (.slice none 0 0), .v (.slice none 0 0), .v (.int .i64 0), .v (.bool false), .v (.int .i64 0), .v (.int .i64 0), .v (.int .i64 0)]]), none, none, none, none, none, none]⟩) ?_ ?_
    · simp -implicitDefEqProofs only [go_sem, wkS, wkB, trB, tA]
      refine (weak_frzB 2 rfl rfl (fun f => by simp -implicitDefEqProofs only [go_sem]) rfl).trans ?_
      simp -implicitDefEqProofs only [go_sem, Nat.add_zero, Nat.zero_add]
      refine (weak_frzB 3 rfl rfl (fun f => by simp -implicitDefEqProofs only [go_sem]) rfl).trans ?_
      simp -implicitDefEqProofs only [go_sem, Nat.add_zero, Nat.zero_add]
      refine (weak_frzB 4 rfl rfl (fun f => by simp -implicitDefEqProofs only [go_sem]) rfl).trans ?_
      simp -implicitDefEqProofs only [go_sem, Nat.add_zero, Nat.zero_add]
      refine (weak_frzB 5 rfl rfl (fun f => by simp -implicitDefEqProofs only [go_sem]) rfl).trans ?_
      simp -implicitDefEqProofs only [go_sem, Nat.add_zero, Nat.zero_add]
      refine (weak_frzB 6 rfl rfl (fun f => by simp -implicitDefEqProofs only [go_sem]) rfl).trans ?_
      simp -implicitDefEqProofs only [go_sem, Nat.add_zero, Nat.zero_add]
      refine (weak_frzB 1 rfl rfl (fun f => by simp -implicitDefEqProofs only [go_sem]) rfl).trans ?_
      simp -implicitDefEqProofs only [go_sem, Nat.add_zero, Nat.zero_add]
      
      exact Weak.refl _
    have hwr := wrote_pc w (fun c hc => by have := hM.wf c hc; unfold near at this; unfold far; omega) hM.wn (by have := hM.wl; omega)
    simp only [wkF] at hwr
    have e2 : IntKind.i64.wrap ((t.length : Int) - 2) = ((t.length - 2 : Nat) : Int) := by rw [wrap64 (by omega) (by omega)]; omega
    have g2 := get_tA t (t.length - 2) (by omega)
    have hl2 : (((t.length - 2 : Nat) : Int) < (t.length : Int)) = True := eq_true (by omega)
    simp -implicitDefEqProofs only [go_sem, wkF]
    (repeat' (first | exact trivial | contradiction | exact ⟨_, rfl⟩ | refine And.intro ?_ ?_ | (refine om ?_; omega) | (refine wait_draw 1000 mixed (by decide +kernel) ?_; simp -implicitDefEqProofs only [go_sem, tA, e2, g2, hl2]) | ((first | refine call_eq 1000 (hwr) ?_ ?_ rfl | refine call_draw 1000 (hwr) ?_ ?_); (focus (simp -implicitDefEqProofs only [go_sem, tA, e2, g2, hl2]; done)); simp -implicitDefEqProofs only [go_sem, tA, e2, g2, hl2]) | intro _))
    obtain ⟨rd, hrd⟩ : ∃ rd, rd = w.road := ⟨_, rfl⟩
    have hrn := hM.rn
    have hrl := hM.rl
    have hrf := hM.rf
    rw [← hrd] at hrn hrl hrf
    have hbn : ((rd.map bare0).map Prod.fst).Nodup := by rw [List.map_map]; exact hrn
    refine wait_data (fun p : List (Pl × Bool) × List Ce => ⟨57, 0, [(2, .ptr 0 7 0 0), (4, wkF w), (6, .ptr 1 7 0 0), (7, .map 2), (37, .ptr 3 0 0 0)],
        [some (.row 31 7 [.agg [.v (.slice none 0 0), .v (.slice none 0 0), .v (.int .i64 0), .v (.bool false), .v (.int .i64 0), .v (.int .i64 0), .v (.int .i64 0)]]),
         some (.row 31 7 [.agg [.fsl 3 (ceL (sortC (w.wrote.filter nz))), .v (.slice none 0 0), .v (.int .i64 w.long), .v (.bool (t.getD (t.length - 2) 0 == 3)), .v (.int .i64 0), .v (.int .i64 0), .v (.int .i64 0)]]),
         some (.mp (mE iA p.2)), some (.it [] (mK p.1) (mV bA p.1))]⟩)
      (fun p => (p.1.map bare0 ++ p.2).Perm (rd.map bare0)) (fun p => p.1.length) (rd, []) (weak_to [2, 4, 6, 7, 37] [0, 7, 8, 9] ?_ (by simp) (fun i h => by cases h)) (by simp) ?_
    · simp -implicitDefEqProofs only [go_sem, St.keep, wkF, ← hrd]
      rfl
    rintro ⟨L, M⟩ hp
    simp only at hp
    refine run_sound 1000 _ _ ?_
    simp -implicitDefEqProofs only [go_sem]
    refine next_t 0 (id := 3) rfl rfl (fun h0 => ?_) (fun q hq => ?_)
    · have hL : L = [] := by cases L with | nil => rfl | cons a b => simp [mK] at h0
      subst hL
      have hMp : M.Perm (rd.map bare0) := by simpa using hp
      have hMl : M.length < 1000000000000 := by have := hMp.length_eq; rw [List.length_map] at this; omega
      have hMb : ∀ c ∈ M, far c := fun c hc => by
        obtain ⟨d, hd, rfl⟩ := List.mem_map.1 (hMp.mem_iff.1 hc)
        have := hrf d hd; unfold near at this; unfold far bare0; simp only; omega
      have hMn : (M.map Prod.fst).Nodup := (hMp.map _).nodup_iff.2 hbn
      have hsp := sorted_pc M hMb hMn hMl
      rw [sortC_congr hMp hbn] at hsp
      have hcl := cell_pc w.s.x w.s.y 0
      have hpm : progMade t = (⟨sortC (w.wrote.filter nz), sortC (rd.map bare0), w.long, cop t, if cop t = true then ((w.s.x, w.s.y), 0) else ((0, 0), 0)⟩, 0) := by
        unfold progMade; simp only [hpw, if_true, hrd]
      rw [hpm]
      refine run_weak 1000 (weak_frzB 2 (st' := ⟨57, 0, [(38, .tup [.v (.bool false)]), (2, .ptr 0 7 0 0), (4, wkF w), (6, .ptr 1 7 0 0), (7, .fmap (mK M) (mV iA M)), (37, .ptr 3 0 0 0)],
        [some (.row 31 7 [.agg [.v (.slice none 0 0), .v (.slice none 0 0), .v (.int .i64 0), .v (.bool false), .v (.int .i64 0), .v (.int .i64 0), .v (.int .i64 0)]]),
         some (.row 31 7 [.agg [.fsl 3 (ceL (sortC (w.wrote.filter nz))), .v (.slice none 0 0), .v (.int .i64 w.long), .v (.bool (t.getD (t.length - 2) 0 == 3)), .v (.int .i64 0), .v (.int .i64 0), .v (.int .i64 0)]]),
         none, some (.it [] (mK ([] : List (Pl × Bool))) (mV bA ([] : List (Pl × Bool))))]⟩) rfl rfl (fun f => by simp -implicitDefEqProofs only [go_sem]) ?_) ?_
      · simp -implicitDefEqProofs only [go_sem, wkF]
      obtain ⟨cb, hcb⟩ : ∃ cb, cb = (t.getD (t.length - 2) 0 == 3) := ⟨_, rfl⟩
      have hcop : cop t = cb := hcb.symm
      rw [← hcb, hcop]
      cases cb
      all_goals
        simp -implicitDefEqProofs only [go_sem, wkF]
        (repeat' (first | exact trivial | contradiction | exact ⟨_, rfl⟩ | refine And.intro ?_ ?_ | (refine om ?_; omega) | (refine wait_draw 1000 mixed (by decide +kernel) ?_; simp -implicitDefEqProofs only [go_sem]) | ((first | refine call_eq 1000 (hsp) ?_ ?_ rfl | refine call_draw 1000 (hsp) ?_ ?_ | refine call_eq 1000 (hcl) ?_ ?_ rfl | refine call_draw 1000 (hcl) ?_ ?_); (focus (simp -implicitDefEqProofs only [go_sem]; done)); simp -implicitDefEqProofs only [go_sem]) | intro _))
        all_goals exact Le.refl _
    · rw [mK_len] at hq
      have gk := mK_get L q hq
      have gv := mV_get bA L q hq
      have hpe := perm_erase L q hq
      generalize L.getD q default = e at gk gv hpe
      obtain ⟨⟨x, y⟩, s⟩ := e
      simp only [kA] at gk
      simp only [bA] at gv
      have hlen2 := hpe.length_eq
      rw [List.length_cons] at hlen2
      have hpe2 : ((L.eraseIdx q).map bare0 ++ (M ++ [((x, y), 0)])).Perm (rd.map bare0) := by
        rw [← List.append_assoc]
        exact ((List.perm_append_singleton _ _).trans (List.Perm.append_right M (hpe.map bare0))).trans hp
      have hnew : (x, y) ∉ M.map Prod.fst := by
        have h1 : (((L.eraseIdx q).map bare0 ++ (M ++ [((x, y), (0 : Int))])).map Prod.fst).Nodup := (hpe2.map _).nodup_iff.2 hbn
        rw [List.map_append, List.map_append] at h1
        have := (List.nodup_append.1 (List.nodup_append.1 h1).2.1).2.2
        intro h
        exact this _ h _ (by simp) rfl
      refine run_again 1000 ?_
      simp -implicitDefEqProofs only [go_sem, gk, gv, mget_pl]
      (repeat' (first | exact trivial | contradiction | exact ⟨_, rfl⟩ | refine And.intro ?_ ?_ | (refine om ?_; omega)  | (refine wait_draw 1000 mixed (by decide +kernel) ?_; simp -implicitDefEqProofs only [go_sem , mget_pl]) | intro _))
      refine ⟨(L.eraseIdx q, aput (x, y) 0 M), ?_, ?_, ?_⟩
      · show (L.eraseIdx q).length < L.length; omega
      · show ((L.eraseIdx q).map bare0 ++ aput (x, y) 0 M).Perm (rd.map bare0)
        rw [aput_new hnew]; exact hpe2
      · refine (weak_it 3 rfl).trans (weak_to [2, 4, 6, 7, 37] [0, 1, 2, 3] ?_ (by simp) (fun i h => by cases h))
        simp -implicitDefEqProofs only [go_sem, St.keep, wkF]
end Go.Proofs.YtdgoompjoeffcaaGreat
