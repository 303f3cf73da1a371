import Derived.Test.YtdgoompjoeffcaaGreatMmN
import Derived.WalkKit
import Derived.Test.YtdgoompjoeffcaaGreatProg
import Derived.Test.YtdgoompjoeffcaaGreatPmY
/- What a tape means: the library's sort, at cells. -/
set_option linter.unusedSimpArgs false
set_option linter.unusedVariables false
set_option maxRecDepth 20000
open Go Go.Proofs Go.Shelf Go.RowKit Go.Lib Go.Sort
namespace Go.Proofs.YtdgoompjoeffcaaGreat
open Pm
/-- Cells that are not too far. -/
structure BC where
  v : Ce
  h : (-1000000000 ≤ v.1.1 ∧ v.1.1 ≤ 1000000000) ∧ (-1000000000 ≤ v.1.2 ∧ v.1.2 ≤ 1000000000)
instance : Inhabited BC := ⟨⟨((0, 0), 0), by decide⟩⟩
def encC (c : BC) : List Value := [.int .i64 c.1.1.1, .int .i64 c.1.1.2, .int .i64 c.1.2]
def cmpC (a b : BC) : Int := if a.1.1.2 ≠ b.1.1.2 then max (min (a.1.1.2 - b.1.1.2) 1) (-1) else if a.1.1.1 ≠ b.1.1.1 then max (min (a.1.1.1 - b.1.1.1) 1) (-1) else 0
theorem ltC (a b : BC) : ltOf cmpC a b = decide (a.1.1.2 < b.1.1.2 ∨ a.1.1.2 = b.1.1.2 ∧ a.1.1.1 < b.1.1.1) := by
  unfold ltOf cmpC
  rw [decide_eq_decide]
  split
  · omega
  · split <;> omega
theorem swoC : SWO (ltOf cmpC) where
  irrefl x := by rw [ltC]; simp
  trans x y z h1 h2 := by rw [ltC] at *; simp only [decide_eq_true_eq] at *; omega
  ntrans x y z h1 h2 := by rw [ltC] at *; simp only [decide_eq_false_iff_not] at *; omega
theorem closureC (x y : BC) (W : World) : Calls Tryz.prog 49 #[.agg #[.int .i64 x.1.1.1, .int .i64 x.1.1.2, .int .i64 x.1.2], .agg #[.int .i64 y.1.1.1, .int .i64 y.1.1.2, .int .i64 y.1.2]] W
    fun e w' => e = .returned (.int .i64 (cmpC x y)) ∧ ∃ q os', w' = grow (W.drewN q) os' := by
  obtain ⟨⟨⟨a1, a2⟩, a3⟩, ha⟩ := x
  obtain ⟨⟨⟨b1, b2⟩, b3⟩, hb⟩ := y
  obtain ⟨r, hr⟩ : ∃ r, r = cmpC ⟨((a1, a2), a3), ha⟩ ⟨((b1, b2), b3), hb⟩ := ⟨_, rfl⟩
  rw [← hr]
  simp only at ha hb ⊢
  have e1 : IntKind.i64.wrap (a2 - b2) = a2 - b2 := wrap64 (by omega) (by omega)
  have e2 : IntKind.i64.wrap (a1 - b1) = a1 - b1 := wrap64 (by omega) (by omega)
  go_enter Tryz.func49, Tryz.ntmps49
  go_wp2
  all_goals go_ret
  · refine ⟨?_, 0, _, by rw [alloc_eq_grow, alloc_eq_grow, grow_grow]; rfl⟩
    rw [hr, show cmpC ⟨((a1, a2), a3), ha⟩ ⟨((b1, b2), b3), hb⟩ = max (min (a2 - b2) 1) (-1) from if_pos (by simpa using ‹(a2 != b2) = true›)]
    rfl
  · refine ⟨?_, 0, _, by rw [alloc_eq_grow, alloc_eq_grow, grow_grow]; rfl⟩
    rw [hr, show cmpC ⟨((a1, a2), a3), ha⟩ ⟨((b1, b2), b3), hb⟩ = max (min (a1 - b1) 1) (-1) from (if_neg (by simpa using ‹(a2 != b2) = false›)).trans (if_pos (by simpa using ‹(a1 != b1) = true›))]
    rfl
  · refine ⟨?_, 0, _, by rw [alloc_eq_grow, alloc_eq_grow, grow_grow]; rfl⟩
    rw [hr, show cmpC ⟨((a1, a2), a3), ha⟩ ⟨((b1, b2), b3), hb⟩ = 0 from (if_neg (by simpa using ‹(a2 != b2) = false›)).trans (if_neg (by simpa using ‹(a1 != b1) = false›))]
    rfl
theorem cmpLaysC (blk off size : Nat) (w : World) : CmpLays Tryz.prog 49 #[] encC 3 cmpC blk off size w := fun _ _ _ _ x y => closureC x y _
end Go.Proofs.YtdgoompjoeffcaaGreat
/- What a tape means: the library's sort as a contract over blocks. -/
open Go Go.Proofs Go.Shelf Go.RowKit Go.Lib Go.Sort
namespace Go.Proofs.YtdgoompjoeffcaaGreat
open Pm
def far (c : Ce) : Prop := (-1000000000 ≤ c.1.1 ∧ c.1.1 ≤ 1000000000) ∧ (-1000000000 ≤ c.1.2 ∧ c.1.2 ≤ 1000000000)
def toB : (l : List Ce) → (∀ c ∈ l, far c) → List BC
  | [], _ => []
  | a :: l, h => ⟨a, h a (by simp)⟩ :: toB l fun c hc => h c (List.mem_cons_of_mem _ hc)
theorem toB_val : ∀ (l : List Ce) (h : ∀ c ∈ l, far c), (toB l h).map BC.v = l
  | [], _ => rfl
  | a :: l, h => by simp only [toB, List.map_cons, toB_val l]
section
variable {w : World} {ρ : Nat → Option Nat} {D Z : Nat → Prop}
theorem encC_at (c : BC) (j : Nat) (hj : j < 3) : RV w ρ D Z ((ceA c.1).cellAt j) ((encC c)[j]!) := by
  match j, hj with
  | 0, _ => exact .v _
  | 1, _ => exact .v _
  | 2, _ => exact .v _
theorem encC_inv {c : Ce} {d : BC} (he : d.1 = c) {j : Nat} (hj : j < 3) {x : Value} (h : RV w ρ D Z ((ceA c).cellAt j) x) : x = (encC d)[j]! := by
  subst he
  match j, hj with
  | 0, _ => exact h.v_inv
  | 1, _ => exact h.v_inv
  | 2, _ => exact h.v_inv
end
theorem sortedIn_pair {lt : BC → BC → Bool} {d : Array BC} (h : SortedIn lt 0 d.size d) : d.toList.Pairwise (fun a b => lt b a = false) := by
  rw [List.pairwise_iff_getElem]
  intro i j hi hj hij
  have := h i j (Nat.zero_le _) hij (by simpa using hj)
  rw [getElem!_pos d j (by simpa using hj), getElem!_pos d i (by simpa using hi)] at this
  simpa using this
theorem permIn_perm {d d' : Array BC} (h : PermIn 0 d.size d d') : d'.toList.Perm d.toList := by
  have h1 := h.2.2
  have e1 : (d.extract 0 d.size).toList = d.toList := by simp
  have e2 : (d'.extract 0 d.size).toList = d'.toList := by rw [← h.1]; simp
  rwa [e1, e2] at h1
theorem sort_con (l : List Ce) (hb : ∀ c ∈ l, far c) (hn : (l.map Prod.fst).Nodup) (hs : l.length < 4611686018427387904) :
    Con Tryz.prog 48 [.sl 0 3 0 l.length, .v (.func (.func 49) #[] #[])] [some (.row 29 3 (ceL l))]
      fun r h' => r = .tup [] ∧ h' = [some (.row 29 3 (ceL (sortC l)))] := by
  intro B cargs hl ha H
  obtain ⟨g, c, fr, hr, hcc, hfr, hcl, hsz, hv⟩ := H.row (id := 0) rfl
  have hcl' : l.length * 3 ≤ c.size := by simpa [ceL] using hcl
  have a0 := (ha 0 (by simp)).sl_inv
  have a1 : cargs.getD 1 undef = .func (.func 49) #[] #[] := (ha 1 (by simp)).v_inv
  rcases a0 with hd | ⟨g', cap, hr', e0, -, -, -⟩
  · exact absurd hd (H.not_dead (b := .row 29 3 (ceL l)) rfl)
  have hg : g' = g := by rw [hr] at hr'; exact (Option.some.inj hr').symm
  subst hg
  obtain ⟨d, hd⟩ : ∃ d : Array BC, d = (toB l hb).toArray := ⟨_, rfl⟩
  have hdv : d.toList.map BC.v = l := by rw [hd]; simpa using toB_val l hb
  have hds : d.size = l.length := by rw [← hdv]; simp
  have ec : cargs = #[.slice (some ⟨g', 0, none⟩) d.size cap, .func (.func 49) #[] #[]] := by
    apply Array.ext
    · simpa using hl.symm
    · intro i h1 h2
      match i, h2 with
      | 0, _ => rw [hds]; simpa [Array.getD, h1] using e0
      | 1, _ => simpa [Array.getD, h1] using a1
  rw [ec]
  have hlt := H.lt hr
  have hval : ∀ i, i < l.length → (d[i]!).1 = l.getD i default := fun i hi => by
    have h1 : i < d.size := by omega
    rw [getElem!_pos d i h1, List.getD_eq_getElem?_getD]
    have : (d.toList.map BC.v)[i]? = l[i]? := by rw [hdv]
    rw [List.getElem?_map, List.getElem?_eq_getElem (by simpa using h1)] at this
    rw [← this]
    simp
  have hH : HoldsK encC 3 B.w g' 0 d := by
    intro j hj
    have hj' : j < l.length * 3 := by rw [← hds]; simpa using hj
    have hi : j / 3 < l.length := by omega
    refine ⟨?_, ?_⟩
    · rw [Nat.zero_add, cell_row hcc (by omega), get_flatK _ _ _ _ (by rw [hds]; exact hj')]
      have h1 := (hv (j / 3) (j % 3) (by simpa [ceL] using hi) (by omega)).1
      rw [show j / 3 * 3 + j % 3 = j by omega] at h1
      have h2 : (ceL l).getD (j / 3) .junk = ceA (l.getD (j / 3) default) := by simp [ceL, List.getD_eq_getElem?_getD, hi]
      rw [h2] at h1
      rw [encC_inv (hval _ hi) (by omega) h1]
      rfl
    · unfold okFr at hfr
      simp only [World.frozen?, hcc, Bool.and_eq_false_iff, decide_eq_false_iff_not]
      omega
  have eg : ∀ args w, (callFunc 49 args).run Tryz.prog w = .ok (.enter 49 args) w := enters_of Tryz.func49 (by kernel_rfl) rfl
  have hcon := AnyQ.slices_SortFunc Tryz.sortCell 3 Tryz.isAgg29 Tryz.sizeOf29 encC (fun _ => rfl) (fun x v hv => by simp [encC] at hv; rcases hv with rfl | rfl | rfl <;> rfl) cmpC swoC 49 #[] g' 0 cap d B.w eg (cmpLaysC g' 0 d.size B.w) hH hlt (by omega)
  refine Calls.mono hcon ?_
  rintro e w' ⟨rfl, d', m, os, hp, hsd, rfl⟩
  have hp' := permIn_perm hp
  have hsz' : d'.size = d.size := hp.1
  obtain ⟨l', hl'⟩ : ∃ l', l' = d'.toList.map BC.v := ⟨_, rfl⟩
  have hlp : l'.Perm l := by rw [hl', ← hdv]; exact hp'.map _
  have hls : l' = sortC l := by
    refine sortC_uniq hlp ?_ hn
    rw [hl', List.pairwise_map]
    rw [← hsz'] at hsd
    refine (sortedIn_pair hsd).imp fun {a b} h => ?_
    rw [ltC] at h
    simp only [decide_eq_false_iff_not] at h
    simp only [leC, decide_eq_true_eq]
    omega
  have hlen' : l'.length = l.length := hlp.length_eq
  have hval' : ∀ i, i < l'.length → (ceL l').getD i .junk = ceA (d'[i]!).1 := fun i hi => by
    have h1 : i < d'.size := by rw [hl'] at hi; simpa using hi
    rw [getElem!_pos d' i h1, hl']
    simp [ceL, List.getD_eq_getElem?_getD, h1]
  rw [← hls]
  have ew : putRowK encC 3 B.w g' 0 d' = B.w.setRow g' (putCells id 0 (flatK encC 3 d') c) := by
    unfold putRowK putRow mapBlock World.setRow
    congr 1
    apply Array.ext_getElem?
    intro k
    rw [Array.getElem?_modify, Array.getElem?_modify]
    by_cases hk : g' = k
    · subst hk
      simp [hcc, onCells]
    · simp [hk]
  have hcs : (putCells id 0 (flatK encC 3 d') c).size = c.size := by simp [putCells]
  have h1 := H.set_row (id := 0) (c' := putCells id 0 (flatK encC 3 d') c) 3 (ceL l') hr hcc (by rw [hcs]; exact hfr) (by rw [hcs]; exact Nat.le_refl _) (by rw [hcs]; simpa [ceL, hlen'] using hcl')
    (fun i hi => by rw [hval' i (by simpa [ceL] using hi)]; rfl) (fun i j hi hj => by
      have hi' : i < l'.length := by simpa [ceL] using hi
      have hk : i * 3 + j < d'.size * 3 := by rw [hsz', hds]; omega
      have hkc : i * 3 + j < c.size := by rw [hsz', hds] at hk; omega
      have e : (putCells id 0 (flatK encC 3 d') c).getD (i * 3 + j) undef = (encC (d'[i]!))[j]! := by
        have h2 := get_flatK encC 3 d' (i * 3 + j) hk
        rw [show (i * 3 + j) / 3 = i by omega, show (i * 3 + j) % 3 = j by omega] at h2
        rw [← h2]
        have : (putCells id 0 (flatK encC 3 d') c)[i * 3 + j]? = some ((flatK encC 3 d')[i * 3 + j]!) := by
          simp only [putCells, Array.getElem?_mapIdx, Array.getElem?_eq_getElem hkc, Option.map_some]
          rw [if_pos ⟨Nat.zero_le _, by simpa using hk⟩]
          rfl
        simp [Array.getD_eq_getD_getElem?, this]
      rw [e, hval' i hi']
      refine ⟨encC_at _ j hj, ?_⟩
      match j, hj with
      | 0, _ => rfl
      | 1, _ => rfl
      | 2, _ => rfl)
  rw [← ew] at h1
  have hput : (putRowK encC 3 B.w g' 0 d').heap.size = B.w.heap.size := by unfold putRowK; simp
  obtain ⟨-, h2⟩ := h1.callee (w' := sortWorldK encC 3 B.w g' 0 m d' os) (Z' := fun _ => False) ⟨rfl, rfl, rfl, by simp [sortWorldK, grow, putRowK, putRow, mapBlock, ahead], fun k hk => by
    have hk' : k < (putRowK encC 3 B.w g' 0 d').heap.size := hk
    show (sortWorldK encC 3 B.w g' 0 m d' os).heap[k]? = _
    have : (sortWorldK encC 3 B.w g' 0 m d' os).heap = (putRowK encC 3 B.w g' 0 d').heap ++ os := rfl
    rw [this, Array.getElem?_append_left hk']⟩ (fun k (h : False) => h.elim)
  exact ⟨.tup [], _, _, _, _, _, rfl, ⟨rfl, rfl⟩, .tup rfl (fun i hi => by simp at hi), h2⟩
end Go.Proofs.YtdgoompjoeffcaaGreat
/- What a tape means: places with states, in order. -/
open Go Go.Proofs
namespace Go.Proofs.YtdgoompjoeffcaaGreat
open Pm
attribute [local irreducible] Wait CallT CallW NextT Le Weak
open Go.Shelf in
theorem sort_nil : PCon Tryz.prog 48 [.v (.slice none 0 0), .v (.func (.func 49) #[] #[])] (· = .tup []) :=
  pcon_same [.slice none 0 0, .func (.func 49) #[] #[]] (fun w => .tup (c := #[]) rfl (fun i hi => by simp at hi)) fun w => AnyF.slices_SortFunc_none Tryz.sortCell none 0 _ w
theorem perm_erase {α : Type} [Inhabited α] : ∀ (l : List α) (q : Nat), q < l.length → (l.getD q default :: l.eraseIdx q).Perm l
  | [], q, h => by simp at h
  | a :: l, 0, _ => List.Perm.refl _
  | a :: l, q + 1, h => by
    have := perm_erase l q (by simpa using h)
    simp only [List.getD_cons_succ, List.eraseIdx_cons_succ]
    exact (List.Perm.swap _ _ _).trans (this.cons a)
theorem ceL_len (l : List Ce) : (ceL l).length = l.length := by simp [ceL]
theorem ceL_ren (f : Nat → Option Nat) (l : List Ce) : AV.renL f (ceL l) = ceL l := by rw [AV.renL_eq]; simp [ceL, ceA, AV.ren, AV.renL]
theorem ceL_fy (h : List (Option Blk)) (l : List Ce) : fyL h (ceL l) = ceL l := by rw [fyL_eq]; simp [ceL, ceA, fy_agg, fyL_cons, fyL_nil, fy_v]
theorem ceL_fz (h : List (Option Blk)) (l : List Ce) : fzL h (ceL l) = ceL l := by rw [fzL_eq]; simp [ceL, ceA, fz_agg, fzL_cons, fzL_nil, fz_v]
theorem ceL_take (l : List Ce) : (ceL l).take l.length = ceL l := List.take_of_length_le (by simp [ceL])
theorem ceL_app (l : List Ce) (x y s : Int) : ceL l ++ [.agg [.v (.int .i64 x), .v (.int .i64 y), .v (.int .i64 s)]] = ceL (l ++ [((x, y), s)]) := by simp [ceL, ceA]
theorem ceL_one (x y s : Int) : [AV.agg [.v (.int .i64 x), .v (.int .i64 y), .v (.int .i64 s)]] = ceL [((x, y), s)] := rfl
theorem ceL_closed (l : List Ce) : AV.closedL (ceL l) = true := by
  induction l with
  | nil => rfl
  | cons a l ih => show AV.closedL (ceA a :: ceL l) = true; rw [closedL_cons, ih]; rfl
theorem ceL_frz (id : Nat) (b : Blk) (l : List Ce) : AV.frzL id b (ceL l) = ceL l := by rw [frzL_eq]; simp [ceL, ceA, frz_agg, frzL_cons, frzL_nil, frz_v]
attribute [go_sem] ceL_frz ceL_len ceL_ren ceL_fy ceL_fz ceL_take ceL_app ceL_closed
def soN (L : List Ce) : St := ⟨22, 0, [(3, .v (.slice none 0 0)), (7, .ptr 0 0 0 0)], [some (.it [] (mK L) (mV iA L))]⟩
def soC (L Q : List Ce) : St := ⟨22, 0, [(3, .sl 1 3 0 Q.length), (7, .ptr 0 0 0 0)], [some (.it [] (mK L) (mV iA L)), some (.row 29 3 (ceL Q))]⟩
def soS (p : List Ce × List Ce) : St := if p.2 = [] then soN p.1 else soC p.1 p.2
theorem soS_ne {L Q : List Ce} (h : Q ≠ []) : soS (L, Q) = soC L Q := if_neg h
theorem sorted_pc (l : List Ce) (hb : ∀ c ∈ l, far c) (hn : (l.map Prod.fst).Nodup) (hs : l.length < 1000000000000) : PCon Tryz.prog 23 [.fmap (mK l) (mV iA l)] (· = .fsl 3 (ceL (sortC l))) := by
  refine PCon.upto (pcon_run 1000 Tryz.func23 rfl Tryz.results23 Tryz.ntmps23 (Nat.le_of_ble_eq_true rfl) ?_)
  simp -implicitDefEqProofs only [go_sem]
  (repeat' (first | exact trivial | contradiction | exact ⟨_, rfl⟩ | refine And.intro ?_ ?_ | (refine om ?_; omega)  | (refine wait_draw 1000 mixed (by decide +kernel) ?_; simp -implicitDefEqProofs only [go_sem]) | intro _))
  refine wait_data soS (fun p => (p.1 ++ p.2).Perm l) (fun p => p.1.length) (l, []) (weak_to [3, 7] [0] ?_ (by simp) (fun i h => by cases h)) (by simp) ?_
  · simp -implicitDefEqProofs only [go_sem, St.keep, soS, soN]
  rintro ⟨L, O⟩ hp
  simp only at hp
  have hlen := hp.length_eq
  rw [List.length_append] at hlen
  refine run_sound 1000 _ _ ?_
  by_cases hO0 : O = []
  · subst hO0
    simp -implicitDefEqProofs only [go_sem, soN, show soS (L, []) = soN L from rfl]
    refine next_t 1000 (id := 0) rfl rfl (fun h0 => ?_) (fun q hq => ?_)
    · have hL : L = [] := by cases L with | nil => rfl | cons a b => simp [mK] at h0
      subst hL
      have hl0 : l = [] := by cases l with | nil => rfl | cons a b => simp at hlen
      subst hl0
      simp -implicitDefEqProofs only [go_sem]
      (repeat' (first | exact trivial | contradiction | exact ⟨_, rfl⟩ | refine And.intro ?_ ?_ | (refine om ?_; omega) | (refine wait_draw 1000 mixed (by decide +kernel) ?_; simp -implicitDefEqProofs only [go_sem]) | ((first | refine call_eq 1000 (sort_nil) ?_ ?_ rfl | refine call_draw 1000 (sort_nil) ?_ ?_); (focus (simp -implicitDefEqProofs only [go_sem]; done)); simp -implicitDefEqProofs only [go_sem]) | intro _))
      all_goals (rw [show ceL (sortC []) = [] by simp [sortC, ceL]]; exact Le.nil 3)
    · rw [mK_len] at hq
      have gk := mK_get L q hq
      have gv := mV_get iA L q hq
      have hpe := perm_erase L q hq
      generalize L.getD q default = e at gk gv hpe
      obtain ⟨⟨x, y⟩, s⟩ := e
      simp only [kA] at gk
      simp only [iA] at gv
      have hlen2 := hpe.length_eq
      rw [List.length_cons] at hlen2
      simp -implicitDefEqProofs only [go_sem, gk, gv]
      (repeat' (first | exact trivial | contradiction | exact ⟨_, rfl⟩ | refine And.intro ?_ ?_ | (refine om ?_; omega) | (refine wait_draw 1000 mixed (by decide +kernel) ?_; simp -implicitDefEqProofs only [go_sem]) | ((first | refine call_eq 1000 (cell_pc x y s) ?_ ?_ rfl | refine call_draw 1000 (cell_pc x y s) ?_ ?_); (focus (simp -implicitDefEqProofs only [go_sem]; done)); simp -implicitDefEqProofs only [go_sem]) | intro _))
      refine ⟨(L.eraseIdx q, [((x, y), s)]), ?_, ?_, ?_⟩
      · show (L.eraseIdx q).length < L.length; omega
      · exact (List.perm_append_singleton _ _).trans (hpe.trans (by simpa using hp))
      · refine (weak_it 0 rfl).trans ?_
        rw [soS_ne (by simp)]
        refine weak_to [3, 7] [0, 3] ?_ (by simp) (fun i h => by cases h)
        simp -implicitDefEqProofs only [go_sem, St.keep, soC, ceL_one]
  · rw [soS_ne hO0]
    simp -implicitDefEqProofs only [go_sem, soC]
    refine next_t 1000 (id := 0) rfl rfl (fun h0 => ?_) (fun q hq => ?_)
    · have hL : L = [] := by cases L with | nil => rfl | cons a b => simp [mK] at h0
      subst hL
      have hO : O.Perm l := by simpa using hp
      have hso := sortC_len O
      have hs' : O.length < 4611686018427387904 := by simp at hlen; omega
      have hst : (ceL (sortC O)).take O.length = ceL (sortC O) := by rw [← hso]; exact ceL_take _
      have hn' : (O.map Prod.fst).Nodup := (hO.map Prod.fst).nodup_iff.2 hn
      have heq := sortC_congr hO hn
      simp -implicitDefEqProofs only [go_sem]
      (repeat' (first | exact trivial | contradiction | exact ⟨_, rfl⟩ | refine And.intro ?_ ?_ | (refine om ?_; omega) | (refine wait_draw 1000 mixed (by decide +kernel) ?_; simp -implicitDefEqProofs only [go_sem, hst, hso]) | ((first | refine call_con_eq 1000 [1] (sort_con O (fun c hc => hb c (hO.mem_iff.1 hc)) hn' hs') ?_ ?_ ?_ | refine call_draw_con 1000 [1] (sort_con O (fun c hc => hb c (hO.mem_iff.1 hc)) hn' hs') (by decide +kernel) ?_ ?_ ?_); (focus (simp -implicitDefEqProofs only [go_sem, hst, hso]; done)); (focus (simp -implicitDefEqProofs only [go_sem, hst, hso]; done)); simp -implicitDefEqProofs only [go_sem, hst, hso]) | intro _))
      all_goals (rw [heq]; exact Le.refl _)
    · rw [mK_len] at hq
      have gk := mK_get L q hq
      have gv := mV_get iA L q hq
      have hpe := perm_erase L q hq
      generalize L.getD q default = e at gk gv hpe
      obtain ⟨⟨x, y⟩, s⟩ := e
      simp only [kA] at gk
      simp only [iA] at gv
      have hlen2 := hpe.length_eq
      rw [List.length_cons] at hlen2
      have hcl : O.length < 1000000000000 := by omega
      simp -implicitDefEqProofs only [go_sem, gk, gv]
      (repeat' (first | exact trivial | contradiction | exact ⟨_, rfl⟩ | refine And.intro ?_ ?_ | (refine om ?_; omega) | (refine wait_draw 1000 mixed (by decide +kernel) ?_; simp -implicitDefEqProofs only [go_sem]) | ((first | refine call_eq 1000 (cell_pc x y s) ?_ ?_ rfl | refine call_draw 1000 (cell_pc x y s) ?_ ?_); (focus (simp -implicitDefEqProofs only [go_sem]; done)); simp -implicitDefEqProofs only [go_sem]) | intro _))
      refine ⟨(L.eraseIdx q, O ++ [((x, y), s)]), ?_, ?_, ?_⟩
      · show (L.eraseIdx q).length < L.length; omega
      · show (L.eraseIdx q ++ (O ++ [((x, y), s)])).Perm l
        rw [← List.append_assoc]
        refine (List.perm_append_singleton _ _).trans ?_
        exact ((List.Perm.append_right O hpe)).trans hp
      · refine (weak_it 0 rfl).trans ?_
        rw [soS_ne (by simp)]
        refine weak_to [3, 7] [0, 4] ?_ (by simp) (fun i h => by cases h)
        simp -implicitDefEqProofs only [go_sem, St.keep, soC, List.length_append]
end Go.Proofs.YtdgoompjoeffcaaGreat
