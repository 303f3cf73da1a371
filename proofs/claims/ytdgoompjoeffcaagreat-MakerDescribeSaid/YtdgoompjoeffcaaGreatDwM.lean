import Derived.Test.YtdgoompjoeffcaaGreatProg
import Derived.Test.YtdgoompjoeffcaaGreatPmY
import Derived.Test.YtdgoompjoeffcaaGreatDwF
/- A tape that describes: what a writer writes for one side of a row. -/
set_option linter.unusedSimpArgs false
set_option linter.unusedVariables false
set_option maxRecDepth 20000
open Go Go.Proofs
namespace Go.Proofs.YtdgoompjoeffcaaGreat
open Pm
attribute [local irreducible] Wait CallT CallW NextT Le Weak
attribute [local go_sem] Oper.semAt_some
theorem arr46 (t : Array Value) (h : t.size = 46) : ∃ x0 x1 x2 x3 x4 x5 x6 x7 x8 x9 x10 x11 x12 x13 x14 x15 x16 x17 x18 x19 x20 x21 x22 x23 x24 x25 x26 x27 x28 x29 x30 x31 x32 x33 x34 x35 x36 x37 x38 x39 x40 x41 x42 x43 x44 x45, t = #[x0, x1, x2, x3, x4, x5, x6, x7, x8, x9, x10, x11, x12, x13, x14, x15, x16, x17, x18, x19, x20, x21, x22, x23, x24, x25, x26, x27, x28, x29, x30, x31, x32, x33, x34, x35, x36, x37, x38, x39, x40, x41, x42, x43, x44, x45] := by
  obtain ⟨l⟩ := t
  rcases l with _ | ⟨x0, l⟩
  · simp at h
  rcases l with _ | ⟨x1, l⟩
  · simp at h
  rcases l with _ | ⟨x2, l⟩
  · simp at h
  rcases l with _ | ⟨x3, l⟩
  · simp at h
  rcases l with _ | ⟨x4, l⟩
  · simp at h
  rcases l with _ | ⟨x5, l⟩
  · simp at h
  rcases l with _ | ⟨x6, l⟩
  · simp at h
  rcases l with _ | ⟨x7, l⟩
  · simp at h
  rcases l with _ | ⟨x8, l⟩
  · simp at h
  rcases l with _ | ⟨x9, l⟩
  · simp at h
  rcases l with _ | ⟨x10, l⟩
  · simp at h
  rcases l with _ | ⟨x11, l⟩
  · simp at h
  rcases l with _ | ⟨x12, l⟩
  · simp at h
  rcases l with _ | ⟨x13, l⟩
  · simp at h
  rcases l with _ | ⟨x14, l⟩
  · simp at h
  rcases l with _ | ⟨x15, l⟩
  · simp at h
  rcases l with _ | ⟨x16, l⟩
  · simp at h
  rcases l with _ | ⟨x17, l⟩
  · simp at h
  rcases l with _ | ⟨x18, l⟩
  · simp at h
  rcases l with _ | ⟨x19, l⟩
  · simp at h
  rcases l with _ | ⟨x20, l⟩
  · simp at h
  rcases l with _ | ⟨x21, l⟩
  · simp at h
  rcases l with _ | ⟨x22, l⟩
  · simp at h
  rcases l with _ | ⟨x23, l⟩
  · simp at h
  rcases l with _ | ⟨x24, l⟩
  · simp at h
  rcases l with _ | ⟨x25, l⟩
  · simp at h
  rcases l with _ | ⟨x26, l⟩
  · simp at h
  rcases l with _ | ⟨x27, l⟩
  · simp at h
  rcases l with _ | ⟨x28, l⟩
  · simp at h
  rcases l with _ | ⟨x29, l⟩
  · simp at h
  rcases l with _ | ⟨x30, l⟩
  · simp at h
  rcases l with _ | ⟨x31, l⟩
  · simp at h
  rcases l with _ | ⟨x32, l⟩
  · simp at h
  rcases l with _ | ⟨x33, l⟩
  · simp at h
  rcases l with _ | ⟨x34, l⟩
  · simp at h
  rcases l with _ | ⟨x35, l⟩
  · simp at h
  rcases l with _ | ⟨x36, l⟩
  · simp at h
  rcases l with _ | ⟨x37, l⟩
  · simp at h
  rcases l with _ | ⟨x38, l⟩
  · simp at h
  rcases l with _ | ⟨x39, l⟩
  · simp at h
  rcases l with _ | ⟨x40, l⟩
  · simp at h
  rcases l with _ | ⟨x41, l⟩
  · simp at h
  rcases l with _ | ⟨x42, l⟩
  · simp at h
  rcases l with _ | ⟨x43, l⟩
  · simp at h
  rcases l with _ | ⟨x44, l⟩
  · simp at h
  rcases l with _ | ⟨x45, l⟩
  · simp at h
  rcases l with _ | ⟨y, l⟩
  · exact ⟨x0, x1, x2, x3, x4, x5, x6, x7, x8, x9, x10, x11, x12, x13, x14, x15, x16, x17, x18, x19, x20, x21, x22, x23, x24, x25, x26, x27, x28, x29, x30, x31, x32, x33, x34, x35, x36, x37, x38, x39, x40, x41, x42, x43, x44, x45, rfl⟩
  · simp at h

def boxB : Option Blk := some (.row 53 1 [.ptr 0 1 0 0])
def hS (T : List Int) : List (Option Blk) := [wrB 3 T.length, none, boxB, tpB T]
def siE (l : List (Nat × Int)) (tu ba : Int) : List (Nat × AV) := [(1, .v (.int .i64 tu)), (2, .v (.int .i64 ba)), (3, .fsl 2 (rnL l)), (4, .ptr 2 1 0 0)]
def si1 (T : List Int) (l : List (Nat × Int)) (tu ba : Int) : St := ⟨46, 2, siE l tu ba, [wrB 1 T.length, tpB T, boxB]⟩
def si2 (T : List Int) (l : List (Nat × Int)) (tu ba : Int) : St := ⟨46, 2, siE l tu ba, hS T⟩
def si3 (T : List Int) (l : List (Nat × Int)) (tu ba : Int) : St := ⟨46, 2, siE l tu ba ++ [(28, .clo (.func 68) [.fsl 2 (rnL l)] [])], hS T⟩
theorem timN_len (s : Int) (n : Nat) : (timN n s).length ≤ n := by
  induction n using Nat.strongRecOn with
  | ind n ih =>
    rw [timN]
    split
    · have := ih (n - 255) (by omega)
      simp only [List.length_append, List.length_cons, List.length_nil]
      omega
    · split
      · simp
      · unfold digT
        split
        · simp only [List.length_append, List.length_cons, List.length_nil]; omega
        · split
          · simp only [List.length_append, List.length_cons, List.length_nil]; omega
          · simp only [List.length_cons, List.length_nil]; omega
def runT (l : List (Nat × Int)) : List Int := l.flatMap fun r => timN r.1 (24 + r.2)
theorem runT_len : ∀ l : List (Nat × Int), (runT l).length ≤ runSum l
  | [] => Nat.le_refl _
  | r :: l => by
    have h1 := runT_len l
    have h2 := timN_len (24 + r.2) r.1
    unfold runT runSum at *
    simp only [List.flatMap_cons, List.length_append, List.map_cons, List.sum_cons]
    omega
theorem runT_take (l : List (Nat × Int)) (k : Nat) (h : k < l.length) : runT (l.take (k + 1)) = runT (l.take k) ++ timN (l.getD k (0, 0)).1 (24 + (l.getD k (0, 0)).2) := by
  have : l.take (k + 1) = l.take k ++ [l.getD k (0, 0)] := by rw [List.take_add_one, List.getD_eq_getElem?_getD, List.getElem?_eq_getElem h]; rfl
  rw [this]
  unfold runT
  rw [List.flatMap_append]
  simp
theorem runSum_pos : ∀ (l : List (Nat × Int)), l ≠ [] → (∀ r ∈ l, 1 ≤ r.1) → 1 ≤ runSum l
  | [], h, _ => absurd rfl h
  | r :: l, _, h => by
    have := h r (by simp)
    unfold runSum
    simp only [List.map_cons, List.sum_cons]
    omega
theorem hS_sub (X : List Int) : [0, 3].map (keepB (hS X) [0, 3]) = [wrB 1 X.length, tpB X] := by
  simp [hS, keepB, wrB, tpB, Blk.ren, AV.ren, AV.renL, AV.renId, idxOf, zl_ren]
theorem hS_back (X Y : List Int) : backH [0, 3] (hS X) [wrB 2 Y.length, none, tpB Y] = [wrB 4 Y.length, none, boxB, none, tpB Y] := by
  simp [hS, backH, backL, backN, backId, renO, keepB, wrB, tpB, boxB, Blk.ren, AV.ren, AV.renL, AV.renId, idxOf, zl_ren]
theorem hS_move (Y : List Int) : [0, 1, 2, 4].map (keepB [wrB 4 Y.length, none, boxB, none, tpB Y] [0, 1, 2, 4]) = hS Y := by
  simp [hS, keepB, wrB, tpB, boxB, Blk.ren, AV.ren, AV.renL, AV.renId, idxOf, zl_ren]
theorem hS_free (Y : List Int) : ∀ (id : Nat) (b : Blk), (hS Y)[id]? = some (some b) → b.free := by
  intro id b h
  rcases id with _ | _ | _ | _ | id
  · simp [hS, wrB] at h
    subst h
    intro i j hi hj
    simp at hi hj
    subst hi hj
    rfl
  · simp [hS] at h
  · simp [hS, boxB] at h
    subst h
    intro i j hi hj
    simp at hi hj
    subst hi hj
    rfl
  · simp [hS, tpB] at h
    subst h
    intro i j hi hj
    simp at hi hj
    subst hj
    have : (Y.map zA).getD i .junk = zA (Y.getD i 0) := by simp [List.getD_eq_getElem?_getD, hi]
    rw [this]
    rfl
  · simp [hS] at h
theorem runs_it {w : World} {ρ : Nat → Option Nat} {D Z : Nat → Prop} (l : List (Nat × Int)) (hl : l ≠ []) (hn : l.length < 1000000) {v : Value} (hv : RV w ρ D Z (.fsl 2 (rnL l)) v) :
    IterZ Tryz.prog 68 #[v] #[] (fun k => #[.int .i64 ((l.getD k (0, 0)).1 : Int), .int .i64 (l.getD k (0, 0)).2]) l.length Z w := by
  obtain ⟨A, cap, F, rfl, hle, hm, hs, hA, h1, h⟩ := hv.fsl_inv
  simp only [rnL_len] at hle hs hA h1 h ⊢
  have h0 : 0 < l.length := List.length_pos_iff.2 hl
  obtain ⟨a, rfl, hz, hc0⟩ := hA 0 0 h0 (by decide)
  obtain ⟨b, off, sp⟩ := a
  have hsp : sp = none := by
    have e : (⟨b, off, sp⟩ : Addr).add (0 * 2 + 0) = ⟨b, off, sp⟩ := rfl
    rw [e] at hc0
    cases sp with
    | none => rfl
    | some x =>
      unfold World.cell? at hc0
      split at hc0 <;> simp at hc0
  subst hsp
  have key : ∀ j, j < l.length → w.cell? ⟨b, off + j * 2, none⟩ = some (.int .i64 ((l.getD j (0, 0)).1 : Int)) ∧ w.cell? ⟨b, off + j * 2 + 1, none⟩ = some (.int .i64 (l.getD j (0, 0)).2) := by
    intro j hj
    obtain ⟨a1, e1, _, c1⟩ := hA j 0 hj (by decide)
    obtain ⟨a2, e2, _, c2⟩ := hA j 1 hj (by decide)
    cases e1
    cases e2
    have v1 := h j 0 hj (by decide)
    have v2 := h j 1 hj (by decide)
    rw [rnL_get l j hj] at v1 v2
    have v1' := RV.v_inv v1
    have v2' := RV.v_inv v2
    rw [Addr.add_plain] at c1 c2
    rw [v1'] at c1
    rw [v2'] at c2
    exact ⟨c1, c2⟩
  intro l' J W hk hJ hJz hY h0
  exact runs1_in Fence.wide 1 trivial rfl (Nat.le_refl 1) l' Z b off l.length cap (fun k => l.getD k (0, 0)) (by omega) hz J W hJ hJz hY (fun j hj =>
    ⟨(hk.cell (p := ⟨b, off + j * 2, none⟩) hz).trans (key j hj).1, (hk.cell (p := ⟨b, off + j * 2 + 1, none⟩) hz).trans (key j hj).2⟩) h0
theorem side_con (T : List Int) (l : List (Nat × Int)) (tu ba : Int) (hl : l ≠ []) (hT : T.length < 100000000) (h1 : l.length < 1000000) (h2 : runSum l < 100000000) (hr : ∀ r ∈ l, 1 ≤ r.1 ∧ r.1 < 100000000 ∧ 0 ≤ r.2 ∧ r.2 < 1000000) :
    Con Tryz.prog 40 [.ptr 0 1 0 0, .v (.int .i64 tu), .v (.int .i64 ba), .fsl 2 (rnL l)] [wrB 1 T.length, tpB T] fun r h => r = .tup [] ∧ ∃ i, h[0]? = some (wrB i (T ++ [tu] ++ timN (runSum l) 5 ++ runT l ++ [ba]).length) ∧ h[i]? = some (tpB (T ++ [tu] ++ timN (runSum l) 5 ++ runT l ++ [ba])) ∧ 1 < i := by
  intro B cargs hlen hargs H
  refine (callsIn_wide (n := 1)).1 (callsIn_of_wp_marks (F := Fence.wide) Tryz.func40 rfl trivial (wpIn_wide.2 ?_))
  have I0 := inv_enter (B := { B with df := [] }) (n := 46) hlen (by rw [← hlen]; exact Nat.le_of_ble_eq_true rfl) hargs (H.df []) (fun id hi => by
    rcases hi with ⟨g, hg⟩ | hd
    · exact H.id_lt hg
    · exact H.dead_lt hd)
  have hl0 : (0 < l.length) = True := eq_true (List.length_pos_iff.2 hl)
  have hl1 : ((l.length : Int) == 0) = false := beq_false_of_ne (by have := List.length_pos_iff.2 hl; omega)
  refine wp_tri_seq (S := si1 T l tu ba) I0 (tri_run 1000 (by
    simp -implicitDefEqProofs only [go_sem, wrB, tpB]
    refine weak_to' [1, 2, 3, 4] [0, 1, 2] ?_ (by decide) (stay_of rfl)
    simp -implicitDefEqProofs only [go_sem, St.keep, si1, siE, boxB, tpB, wrB])) ?_
  clear I0
  intro ρ D Z a w I
  refine wp_tri_seq (S := si1 T l tu ba) I (tri_run 1000 (by
    unfold si1 siE boxB
    simp -implicitDefEqProofs only [go_sem, wrB, tpB, hl1]
    refine weak_to' [1, 2, 3, 4] [0, 1, 2] ?_ (by decide) (stay_of rfl)
    simp -implicitDefEqProofs only [go_sem, St.keep])) ?_
  clear I
  intro ρ D Z a w I
  refine wp_tri_seq (S := si2 (T ++ [tu]) l tu ba) I (tri_run 1000 (by
    unfold si1 siE boxB
    simp -implicitDefEqProofs only [go_sem, wrB, tpB]
    (repeat' (first | exact trivial | contradiction | exact ⟨_, rfl⟩ | refine And.intro ?_ ?_ | (refine om ?_; omega) | ((first | refine wait_draw 1000 mixed (by decide +kernel) ?_ | refine wait_drawV (fun id => id == 1 || id == 1 + killK || id == lastK) 1000 mixed (by decide +kernel) ?_); simp -implicitDefEqProofs only [go_sem]) | intro _))
    all_goals
      refine weak_to' [1, 2, 3, 4] [0, 100, 2, 4] ?_ (by decide) (stay_of rfl)
      simp -implicitDefEqProofs only [go_sem, St.keep, si2, siE, hS, wrB, tpB, boxB, List.length_append, List.length_cons, List.length_nil])) ?_
  clear I
  intro ρ D Z a w I
  have lc := long_pc l (by omega) (by omega)
  have tc := times_pcon (T ++ [tu]) (runSum l) 5 (runSum_pos l hl fun r h => (hr r h).1) (by omega) (by simp; omega)
  unfold tpB wrB at tc
  refine wp_tri_seq (S := si2 (T ++ [tu] ++ timN (runSum l) 5) l tu ba) I (tri_run 1000 (by
    unfold si2 siE hS boxB
    simp -implicitDefEqProofs only [go_sem, wrB, tpB]
    (repeat' (first | exact trivial | contradiction | exact ⟨_, rfl⟩ | refine And.intro ?_ ?_ | (refine om ?_; omega) | (refine wait_draw 1000 mixed (by decide +kernel) ?_; simp -implicitDefEqProofs only [go_sem]) | ((first | refine call_eq 1000 (lc) ?_ ?_ rfl | refine call_draw 1000 (lc) ?_ ?_); (focus (simp -implicitDefEqProofs only [go_sem]; done)); simp -implicitDefEqProofs only [go_sem]) | ((first | refine call_con_eq 1000 [0, 3] (tc) ?_ ?_ ?_ | refine call_draw_con 1000 [0, 3] (tc) (by decide +kernel) ?_ ?_ ?_); (focus (simp -implicitDefEqProofs only [go_sem]; done)); (focus (simp -implicitDefEqProofs only [go_sem]; done)); simp -implicitDefEqProofs only [go_sem]) | intro _))
    all_goals
      refine weak_to' [1, 2, 3, 4] [0, 100, 2, 4] ?_ (by decide) (stay_of rfl)
      simp -implicitDefEqProofs only [go_sem, St.keep])) ?_
  clear I
  intro ρ D Z a w I
  obtain ⟨T', hT'⟩ : ∃ T', T' = T ++ [tu] ++ timN (runSum l) 5 := ⟨_, rfl⟩
  rw [← hT'] at I
  refine wp_seq (wp_tri_seq (S := si3 T' l tu ba) I (tri_run 1000 (by
    unfold si2 siE hS boxB
    simp -implicitDefEqProofs only [go_sem, wrB, tpB]
    refine weak_to' [1, 2, 3, 4, 28] [0, 1, 2, 3] ?_ (by decide) (stay_of rfl)
    simp -implicitDefEqProofs only [go_sem, St.keep, si3, siE, hS, boxB, wrB, tpB])) ?_)
  clear I
  intro ρ D Z a w I
  refine wp_block ?_
  obtain ⟨fs, lb, e28, f1, f2, f3, f4⟩ := (I.env 28).clo_inv
  obtain ⟨v, rfl⟩ : ∃ v, fs = #[v] := by
    obtain ⟨fl⟩ := fs
    rcases fl with _ | ⟨v, fl⟩
    · simp at f1
    · rcases fl with _ | ⟨u, fl⟩
      · exact ⟨v, rfl⟩
      · simp at f1
  obtain rfl : lb = #[] := by
    obtain ⟨ll⟩ := lb
    rcases ll with _ | ⟨u, ll⟩
    · rfl
    · simp at f3
  have hit := runs_it l hl h1 (f2 0 (by simp))
  have hdead : ∀ {W : World} {ρ' : Nat → Option Nat} {D' Z' : Nat → Prop} {X : List Int}, HR { B with df := [] } W ρ' D' Z' (hS X) → ¬ D' 2 := fun H hd => by
    have := H.dead 2 hd
    simp [hS, boxB] at this
  obtain ⟨g4, r4, e4⟩ : ∃ g4, ρ 2 = some g4 ∧ a.tmps.getD 4 undef = .pointer (some ⟨g4, 0, none⟩) := by
    rcases (I.env 4).ptr_inv with hd | ⟨g, h, e⟩
    · exact absurd hd (hdead I.h)
    · exact ⟨g, h, e⟩
  have e2 : a.tmps.getD 2 undef = .int .i64 ba := (I.env 2).v_inv
  have hdf : a.defers = [] := I.defers
  have hn : a.tmps.size = 46 := I.n
  obtain ⟨tm, df⟩ := a
  simp only at e2 e4 e28 hdf hn
  obtain ⟨x0, x1, x2, x3, x4, x5, x6, x7, x8, x9, x10, x11, x12, x13, x14, x15, x16, x17, x18, x19, x20, x21, x22, x23, x24, x25, x26, x27, x28, x29, x30, x31, x32, x33, x34, x35, x36, x37, x38, x39, x40, x41, x42, x43, x44, x45, rfl⟩ := arr46 tm hn
  obtain rfl : x28 = _ := e28
  obtain rfl : x4 = _ := e4
  obtain rfl : x2 = _ := e2
  subst hdf
  have H0 := I.h
  have hz0 : ∀ i, Z i → i < w.heap.size := fun i hi => (H0.z i hi).1
  have gl0 : Gl w Z := B.gl.step H0.step
  clear I f1 f2 f3 f4
  obtain ⟨TT, hTT⟩ : ∃ TT : Nat → List Int, TT = fun k => T' ++ runT (l.take k) := ⟨_, rfl⟩
  have TT0 : TT 0 = T' := by rw [hTT]; simp [runT]
  obtain ⟨II, hII⟩ : ∃ II : Nat → World → Prop, ∀ k W, II k W ↔ (∃ ρ' D', HR { B with df := [] } W ρ' D' Z (hS (TT k)) ∧ ρ' 2 = some g4 ∧ ∀ id, ρ' id ≠ some w.heap.size ∧ ρ' id ≠ some (w.heap.size + 1)) := ⟨_, fun _ _ => Iff.rfl⟩
  refine wp_rangeZ (gf := 68) (fs := #[v]) (lb := #[]) rfl (enters_of Tryz.func68 (by kernel_rfl) rfl) hit (fun k => rfl) hz0
    II
    (fun k W W' hi e => by
      obtain ⟨ρ', D', i1, i2, i3⟩ := (hII k W).1 hi
      exact (hII k W').2 ⟨ρ', D', (i1.else e H0.size i3 fun i hi => by have := hz0 i hi; exact ⟨by omega, by omega⟩).2, i2, i3⟩)
    (fun k W hi i hz => by
      obtain ⟨ρ', D', i1, i2, i3⟩ := (hII k W).1 hi
      exact (i1.z i hz).1)
    ((hII 0 w).2 ⟨ρ, D, by rw [TT0]; exact H0, r4, fun id => ⟨fun e => absurd (H0.lt e) (by omega), fun e => absurd (H0.lt e) (by omega)⟩⟩)
    (fun k => { tmps := #[x0, x1, (.int .i64 ba), x3, (.pointer (some ⟨g4, 0, none⟩)), x5, x6, x7, (.int .i64 ((l.getD k (0, 0)).1 : Int)), (.int .i64 (l.getD k (0, 0)).2), x10, x11, x12, x13, x14, x15, x16, x17, x18, x19, x20, x21, x22, x23, x24, x25, x26, x27, (.func (.func 68) #[v] #[]), (.int .i64 ((l.getD k (0, 0)).1 : Int)), (.int .i64 (l.getD k (0, 0)).2), x31, x32, x33, x34, x35, x36, x37, x38, x39, x40, x41, x42, x43, x44, x45], defers := [] }) ?_ ?_ ?_
  · intro l' k W K hK
    gi_wp2
    exact hK
  · intro l' k W hk hi hsz
    obtain ⟨ρ', D', i1, i2, i3⟩ := (hII k W).1 hi
    obtain ⟨g', hg', c, fr, hc1, hc2, hc3, hc4, hc5⟩ := i1.live 2 (.row 53 1 [.ptr 0 1 0 0]) rfl
    rw [i2] at hg'
    cases hg'
    obtain ⟨g0, r0, eg0⟩ : ∃ g0, ρ' 0 = some g0 ∧ c.getD 0 undef = .pointer (some ⟨g0, 0, none⟩) := by
      rcases RV.ptr_inv (hc5 0 0 (by decide) (by decide)).1 with hd | ⟨g, h, e⟩
      · have := i1.dead 0 hd
        simp [hS, wrB] at this
      · exact ⟨g, h, e⟩
    have hcell : W.cell? ⟨g4, 0, none⟩ = some (.pointer (some ⟨g0, 0, none⟩)) := by
      unfold World.cell?
      rw [hc1, ← eg0]
      have h0 : 0 < c.size := by simp at hc3; omega
      simp [Array.getD_eq_getD_getElem?, h0]
    have hmem : l.getD k (0, 0) ∈ l := by rw [List.getD_eq_getElem?_getD, List.getElem?_eq_getElem hk]; exact List.getElem_mem hk
    obtain ⟨q1, q2, q3, q4⟩ := hr _ hmem
    have hTl : (TT k).length < 1000000000 := by
      have a1 := runT_len (l.take k)
      have a2 := runSum_le l k
      have a3 := timN_len 5 (runSum l)
      rw [hTT, hT']
      simp only [List.length_append, List.length_cons, List.length_nil]
      omega
    have hTn : TT (k + 1) = TT k ++ timN (l.getD k (0, 0)).1 (24 + (l.getD k (0, 0)).2) := by
      rw [hTT]
      simp only
      rw [runT_take l k hk, List.append_assoc]
    have hw : IntKind.i64.wrap (24 + (l.getD k (0, 0)).2) = 24 + (l.getD k (0, 0)).2 := wrap64 (by omega) (by omega)
    generalize l.getD k (0, 0) = r at q1 q2 q3 q4 hTn hw hmem ⊢
    obtain ⟨n, s⟩ := r
    simp only at q1 q2 q3 q4 hTn hw ⊢
    have tcall : Calls Tryz.prog 17 #[.pointer (some ⟨g0, 0, none⟩), .int .i64 (n : Int), .int .i64 (24 + s)] W fun e W' => (∃ v, e = .returned v) ∧
        II (k + 1) W' ∧ KpZ Z W W' ∧ ∀ i, w.heap.size ≤ i → i < w.heap.size + 2 → W'.heap[i]? = W.heap[i]? := by
      have hsub := i1.sub (hgl := B.gl.step i1.step) [0, 3] (by decide)
      rw [hS_sub] at hsub
      refine ((times_pcon (TT k) n (24 + s) q1 (by omega) hTl) ⟨W, rhoC [0, 3] ρ', deadC [0, 3] ρ', Z, B.gl.step i1.step, []⟩ _ rfl ?_ hsub).mono ?_
      · intro i hi
        rcases i with _ | _ | _ | i
        · exact .ptr (i := 0) (j := 0) (sz := 1) r0
        · exact .v _
        · exact .v _
        · simp at hi; omega
      · rintro e W' ⟨r, v, h', ρ2, D2, Z2, rfl, ⟨-, rfl⟩, -, H2⟩
        refine ⟨⟨v, rfl⟩, ?_⟩
        obtain ⟨s2, Hn⟩ := i1.framed (by decide) (by simp [hS]) (by simp) H2
        rw [hS_back] at Hn
        rw [← hTn] at Hn
        have Hm := Hn.moveZ [0, 1, 2, 4] (by decide) (fun i hi => by
          have h2 : i < 2 := by
            rcases hi with ⟨g, hg⟩ | hd
            · exact H.id_lt hg
            · exact H.dead_lt hd
          rcases i with _ | _ | i
          · exact ⟨0, rfl, .inl rfl⟩
          · exact ⟨1, rfl, .inl rfl⟩
          · omega)
        rw [hS_move] at Hm
        have Hz := Hm.lessZ (Z := Z) (fun i hi => s2.z i hi) (fun i hi => H0.step.z i hi) (hS_free _)
        refine ⟨(hII (k + 1) W').2 ⟨_, _, Hz, ?_, ?_⟩, ⟨H2.size, fun i hi => s2.zb i hi⟩, fun i ha hb => H2.fr i (by show i < W.heap.size; omega) fun id hid => ?_⟩
        · show rhoN [0, 3] 4 ρ' ρ2 2 = some g4
          exact i2
        · have hav : ∀ x, w.heap.size ≤ x → x < w.heap.size + 2 → ∀ id, rhoN [0, 3] 4 ρ' ρ2 id ≠ some x := by
            intro x hx1 hx2 id hid
            have h3 : ∀ i, ρ2 i ≠ some x := fun i hi => by
              rcases H2.own i x hi with ⟨id0, h0⟩ | h0
              · obtain ⟨id', _, h4⟩ := rhoC_some h0
                have := i3 id'
                have hx : x = w.heap.size ∨ x = w.heap.size + 1 := by omega
                rcases hx with rfl | rfl
                · exact this.1 h4
                · exact this.2 h4
              · have h0' : W.heap.size ≤ x := h0
                omega
            have h4 : ∀ i, ρ' i ≠ some x := fun i hi => by
              have := i3 i
              have hx : x = w.heap.size ∨ x = w.heap.size + 1 := by omega
              rcases hx with rfl | rfl
              · exact this.1 hi
              · exact this.2 hi
            unfold rhoN at hid
            split at hid
            · split at hid
              · exact h3 _ hid
              · exact h4 _ hid
            · exact h3 _ hid
          intro id
          refine ⟨fun hid => ?_, fun hid => ?_⟩
          · obtain ⟨id', _, h4⟩ := rhoC_some hid
            exact hav _ (Nat.le_refl _) (by omega) id' h4
          · obtain ⟨id', _, h4⟩ := rhoC_some hid
            exact hav _ (by omega) (by omega) id' h4
        · obtain ⟨id', _, h4⟩ := rhoC_some hid
          have := i3 id'
          have hx : i = w.heap.size ∨ i = w.heap.size + 1 := by omega
          rcases hx with rfl | rfl
          · exact this.1 h4
          · exact this.2 h4
    clear hII hTT hTn hTl TT0 hT' H0 i1 lc tc hit
    gi_wp2
    refine ⟨trivial, rfl, (CallsIn.inRound l' (callsIn_wide.2 tcall)).mono ?_⟩
    rintro e W3 ⟨⟨v3, rfl⟩, k1, k2, k3⟩
    gi_wp2
    exact ⟨k1, k3⟩
  · intro W hi hsz hK
    obtain ⟨ρ', D', i1, i2, i3⟩ := (hII _ W).1 hi
    have hTl : TT l.length = T' ++ runT l := by rw [hTT]; simp
    rw [hTl] at i1
    have hXl : (T' ++ runT l).length < 1000000000 := by
      have a1 := runT_len l
      have a3 := timN_len 5 (runSum l)
      rw [hT']
      simp only [List.length_append, List.length_cons, List.length_nil]
      omega
    rw [← hT']
    generalize T' ++ runT l = X at i1 hXl ⊢
    have gl1 : Gl W Z := B.gl.step i1.step
    have IW : Inv ⟨W, ρ', D', Z, gl1, [{ target := .collected w.heap.size, args := #[] }]⟩ ρ' D' Z ⟨46, 4, [(2, .v (.int .i64 ba)), (4, .ptr 2 1 0 0)], hS X⟩
        { tmps := #[x0, x1, (.int .i64 ba), x3, (.pointer (some ⟨g4, 0, none⟩)), x5, x6, x7, x8, x9, x10, x11, x12, x13, x14, x15, x16, x17, x18, x19, x20, x21, x22, x23, x24, x25, x26, x27, (.func (.func 68) #[v] #[]), x29, x30, x31, x32, x33, x34, x35, x36, x37, x38, x39, x40, x41, x42, x43, x44, x45], defers := [{ target := .collected w.heap.size, args := #[] }] } W := by
      refine ⟨rfl, fun n => ?_, i1.rebase, fun id hi => ?_, rfl⟩
      · by_cases h2 : n = 2
        · subst h2
          exact .v _
        · by_cases h4 : n = 4
          · subst h4
            exact .ptr (i := 0) (j := 0) (sz := 1) i2
          · simp only [Pm.look, if_neg h2, if_neg h4]
            exact .junk _
      · rcases hi with ⟨g, hg⟩ | hd
        · exact i1.id_lt hg
        · exact i1.dead_lt hd
    refine wp_mono ((tri_run (P := Tryz.prog) 1000 (K := fun e st' => e = .normal ∧ ∃ i, st'.h[0]? = some (wrB i (X ++ [ba]).length) ∧ st'.h[i]? = some (tpB (X ++ [ba])) ∧ 1 < i) ?_) _ ρ' D' Z _ W IW) ?_
    · unfold hS boxB
      simp -implicitDefEqProofs only [go_sem, wrB, tpB]
      (repeat' (first | exact trivial | contradiction | exact ⟨_, rfl⟩ | refine And.intro ?_ ?_ | (refine om ?_; omega) | ((first | refine wait_draw 1000 mixed (by decide +kernel) ?_ | refine wait_drawV (fun id => id == 3 || id == 3 + killK || id == lastK) 1000 mixed (by decide +kernel) ?_); simp -implicitDefEqProofs only [go_sem]) | intro _))
      all_goals exact ⟨5, by rw [List.length_append]; rfl, rfl, by decide⟩
    · rintro e a' w' ⟨st', ρ2, D2, Z2, ⟨rfl, i, k1, k2, k3⟩, I'⟩
      have hdf := I'.defers
      have hK8 : w'.heap[w.heap.size]? = some (.deferred (some [])) := (I'.h.fr w.heap.size (by show w.heap.size < W.heap.size; omega) fun id => (i3 id).1).trans hK
      have Hn := i1.trans I'.h
      have Hf := (Hn.else (Else.put0 w.heap.size w' (.deferred none)) H0.size (fun id => by
        refine ⟨fun hid => ?_, fun hid => ?_⟩
        · rcases I'.h.own id _ hid with ⟨id0, h0⟩ | h0
          · exact (i3 id0).1 h0
          · have h0' : W.heap.size ≤ w.heap.size := h0
            omega
        · rcases I'.h.own id _ hid with ⟨id0, h0⟩ | h0
          · exact (i3 id0).2 h0
          · have h0' : W.heap.size ≤ w.heap.size + 1 := h0
            omega) fun i hi => by
        rcases I'.h.zg i hi with h0 | h0
        · have := hz0 i h0
          exact ⟨by omega, by omega⟩
        · have h0' : W.heap.size ≤ i := h0
          exact ⟨by omega, by omega⟩).2
      show LeavesInM _ _ _ _ _ _ a'.defers _ _
      rw [hdf]
      refine ⟨by simp, .inl ⟨w.heap.size, _, rfl, run_takeDeferred hK8, ?_⟩⟩
      refine ⟨.tuple #[], by simp [results, Tryz.f40, go_sem], .tup [], .tuple #[], st'.h, ρ2, D2, Z2, rfl, ?_, .tup rfl (fun i hi => by simp at hi), Hf.undf⟩
      exact ⟨rfl, i, k1, k2, k3⟩
end Go.Proofs.YtdgoompjoeffcaaGreat
