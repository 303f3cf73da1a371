import Derived.Test.YtdgoompjoeffcaaGreatDwK
import Derived.Test.YtdgoompjoeffcaaGreatProg
import Derived.Test.YtdgoompjoeffcaaGreatPmY
import Derived.Test.YtdgoompjoeffcaaGreatDwA
/- A range over a function in a walk over abstract values: what the rounds keep of the heap's relation. -/
set_option linter.unusedSimpArgs false
set_option linter.unusedVariables false
open Go Go.Proofs Go.RowKit
namespace Go.Proofs.YtdgoompjoeffcaaGreat
open Pm
namespace Pm
section
variable {B : Base} {w w' : World} {ρ ρ' : Nat → Option Nat} {D D' Z Z' : Nat → Prop} {h h' : List (Option Blk)}
theorem HR.else (H : HR B w ρ D Z h) {b : Nat} (e : Else b w w') (hb : B.w.heap.size ≤ b) (h1 : ∀ id, ρ id ≠ some b ∧ ρ id ≠ some (b + 1)) (h2 : ∀ k, Z k → k ≠ b ∧ k ≠ b + 1) : Step w w' ρ ρ D D Z Z ∧ HR B w' ρ D Z h := by
  have hr : ∀ id g, ρ id = some g → w'.heap[g]? = w.heap[g]? := fun id g hg => e.same g (H.lt hg) (fun x => (h1 id).1 (x ▸ hg)) (fun x => (h1 id).2 (x ▸ hg))
  have hz : ∀ k, Z k → w'.heap[k]? = w.heap[k]? := fun k hk => e.same k (H.z k hk).1 (h2 k hk).1 (h2 k hk).2
  have s : Step w w' ρ ρ D D Z Z := ⟨fun _ _ h => .inl h, fun _ h => h, fun _ h => h, hz, fun id g c e fr hg _ hc => ⟨c, e, fr, (hr id g hg).trans hc, Nat.le_refl _⟩⟩
  refine ⟨s, ?_⟩
  constructor
  case live => intro id b hb; obtain ⟨g, hg, hv⟩ := H.live id b hb; exact ⟨g, hg, hv.step s (hr id g hg)⟩
  case only => exact H.only
  case dead => exact H.dead
  case inj => exact H.inj
  case own => exact H.own
  case z => exact fun k hk => ⟨Nat.lt_of_lt_of_le (H.z k hk).1 e.size, (H.z k hk).2⟩
  case fr => exact fun k hk hn => (e.same k (by have := H.size; omega) (by omega) (by omega)).trans (H.fr k hk hn)
  case os => exact e.os.trans H.os
  case tape => exact e.tape.trans H.tape
  case output => exact e.output.trans H.output
  case size => exact Nat.le_trans H.size e.size
  case zg => exact H.zg
  case step =>
    have t := H.step
    refine ⟨t.rho, t.dead, t.z, fun k hk => (hz k (t.z k hk)).trans (t.zb k hk), fun id g c e fr hg hg' hc => ?_⟩
    obtain ⟨c1, e1, fr1, hc1, hl1⟩ := t.cap id g c e fr hg hg' hc
    exact ⟨c1, e1, fr1, (hr id g hg').trans hc1, hl1⟩
/-- Values that hang on no block that nobody writes. -/
def AV.free : AV → Bool
  | .v _ => true
  | .junk => true
  | .ptr .. => true
  | .sl .. => true
  | _ => false
theorem RV.lessZ {a : AV} {x : Value} (hf : a.free = true) (h : RV w ρ D Z a x) : RV w ρ D Z' a x := by
  cases h with
  | v x => exact .v x
  | junk x => exact .junk x
  | dead x h1 h2 h3 => exact .dead x h1 h2 h3
  | ptr hr => exact .ptr hr
  | sl hr hc hl hm => exact .sl hr hc hl hm
  | _ => simp [AV.free] at hf
def Blk.free : Blk → Prop
  | .row _ sz es => ∀ i j, i < es.length → j < sz → ((es.getD i .junk).cellAt j).free = true
  | _ => False
theorem HR.lessZ (H : HR B w ρ D Z' h) (hz : ∀ k, Z k → Z' k) (hb : ∀ k, B.Z k → Z k) (hf : ∀ (id : Nat) (b : Blk), h[id]? = some (some b) → b.free) : HR B w ρ D Z h where
  live id b hb := by
    obtain ⟨g, hg, hv⟩ := H.live id b hb
    refine ⟨g, hg, ?_⟩
    have := hf id b hb
    cases b with
    | row e sz es =>
      obtain ⟨c, fr, h1, h2, h3, h4, h5⟩ := hv
      exact ⟨c, fr, h1, h2, h3, h4, fun i j hi hj => ⟨RV.lessZ (this i j hi hj) (h5 i j hi hj).1, (h5 i j hi hj).2⟩⟩
    | mp es => exact this.elim
    | it _ _ _ => exact this.elim
  only := H.only
  dead := H.dead
  inj := H.inj
  own := H.own
  z k hk := H.z k (hz k hk)
  fr := H.fr
  os := H.os
  tape := H.tape
  output := H.output
  size := H.size
  zg k hk := H.zg k (hz k hk)
  step := ⟨H.step.rho, H.step.dead, hb, H.step.zb, H.step.cap⟩
theorem HR.moveZ (H : HR B w ρ D Z h) (ids : List Nat) (hn : ids.Nodup) (hm : ∀ i, (∃ g, B.ρ i = some g) ∨ B.D i → ∃ j, ids[i]? = some j ∧ (j = i ∨ h.length ≤ j)) : HR B w (rhoC ids ρ) (deadC ids ρ) Z (ids.map (keepB h ids)) := by
  have hρ : ∀ id i g, idxOf ids id = some i → ρ id = some g → rhoC ids ρ i = some g := fun id i g h hg => by
    simp only [rhoC, idxOf_some ids id i h, Option.bind_some, hg]
  have hD : ∀ id i, idxOf ids id = some i → D id → deadC ids ρ i := fun id i h hd => ⟨id, idxOf_some ids id i h, fun g hg => by
    obtain ⟨b, hb⟩ := H.only id g hg
    exact H.not_dead hb hd⟩
  constructor
  case live =>
    intro i b hb
    rw [List.getElem?_map] at hb
    obtain ⟨id, hid, hb2⟩ := Option.map_eq_some_iff.1 hb
    unfold keepB at hb2
    split at hb2
    · rename_i b0 hb0
      cases hb2
      obtain ⟨g, hg, hr⟩ := H.live id b0 hb0
      exact ⟨g, by simp only [rhoC, hid, Option.bind_some, hg], hr.ren _ hρ hD⟩
    · cases hb2
  case only =>
    intro i g hg
    obtain ⟨id, hid, hr⟩ := rhoC_some hg
    obtain ⟨b, hb⟩ := H.only id g hr
    exact ⟨b.ren (idxOf ids), by rw [List.getElem?_map, hid]; simp [keepB, hb]⟩
  case dead =>
    rintro i ⟨id, hid, hd⟩
    rw [List.getElem?_map, hid]
    simp only [Option.map_some, keepB]
    split
    · rename_i b hb
      obtain ⟨g, hg, _⟩ := H.live id b hb
      exact absurd hg (hd g)
    · rfl
  case inj =>
    intro i j g hi hj
    obtain ⟨id, h1, h2⟩ := rhoC_some hi
    obtain ⟨jd, h3, h4⟩ := rhoC_some hj
    have e := H.inj id jd g h2 h4
    subst e
    obtain ⟨hi1, hi2⟩ := List.getElem?_eq_some_iff.1 h1
    obtain ⟨hj1, hj2⟩ := List.getElem?_eq_some_iff.1 h3
    exact (List.getElem_inj hn).1 (hi2.trans hj2.symm)
  case own =>
    intro i g hg
    obtain ⟨id, h1, h2⟩ := rhoC_some hg
    exact H.own id g h2
  case z =>
    intro k hk
    refine ⟨(H.z k hk).1, fun i hg => ?_⟩
    obtain ⟨id, h1, h2⟩ := rhoC_some hg
    exact (H.z k hk).2 id h2
  case fr => exact H.fr
  case os => exact H.os
  case tape => exact H.tape
  case output => exact H.output
  case size => exact H.size
  case zg => exact H.zg
  case step =>
    have s := H.step
    have key : ∀ id, (∃ g, B.ρ id = some g) ∨ B.D id → ∃ j, ids[id]? = some j ∧ (j = id ∨ h.length ≤ j) := fun id h => hm id h
    have gone : ∀ j, h.length ≤ j → ∀ g, ρ j ≠ some g := fun j hj g hg => by
      obtain ⟨b, hb⟩ := H.only j g hg
      have := (List.getElem?_eq_some_iff.1 hb).1
      omega
    refine ⟨fun id g hg => ?_, fun id hd => ?_, s.z, s.zb, fun id g c e fr hg hg' hc => ?_⟩
    · obtain ⟨j, hid, rfl | hj⟩ := key id (.inl ⟨g, hg⟩)
      · rcases s.rho j g hg with h1 | h1
        · exact .inl (by simp only [rhoC, hid, Option.bind_some, h1])
        · refine .inr ⟨j, hid, fun g' hg' => ?_⟩
          obtain ⟨b, hb⟩ := H.only j g' hg'
          exact H.not_dead hb h1
      · exact .inr ⟨j, hid, gone j hj⟩
    · obtain ⟨j, hid, rfl | hj⟩ := key id (.inr hd)
      · refine ⟨j, hid, fun g' hg' => ?_⟩
        obtain ⟨b, hb⟩ := H.only j g' hg'
        exact H.not_dead hb (s.dead j hd)
      · exact ⟨j, hid, gone j hj⟩
    · obtain ⟨j, hid, rfl | hj⟩ := key id (.inl ⟨g, hg⟩)
      · obtain ⟨id', h1, h2⟩ := rhoC_some hg'
        rw [hid] at h1
        cases h1
        exact s.cap j g c e fr hg h2 hc
      · obtain ⟨id', h1, h2⟩ := rhoC_some hg'
        rw [hid] at h1
        cases h1
        exact absurd h2 (gone j hj g)
/-- What is begun anew. -/
theorem HR.rebase {gl : Gl w Z} {df : List Deferred} (H : HR B w ρ D Z h) : HR ⟨w, ρ, D, Z, gl, df⟩ w ρ D Z h :=
  ⟨H.live, H.only, H.dead, H.inj, fun id g hr => .inl ⟨id, hr⟩, H.z, fun _ _ _ => rfl, rfl, rfl, rfl, Nat.le_refl _, Step.refl _ _ _ _, fun k hk => .inl hk⟩
theorem HR.trans {gl : Gl w Z} {df : List Deferred} (H : HR B w ρ D Z h) (H' : HR ⟨w, ρ, D, Z, gl, df⟩ w' ρ' D' Z' h') : HR B w' ρ' D' Z' h' where
  live := H'.live
  only := H'.only
  dead := H'.dead
  inj := H'.inj
  own id g hr := by
    rcases H'.own id g hr with ⟨id0, h0⟩ | h0
    · exact H.own id0 g h0
    · have h0' : w.heap.size ≤ g := h0
      have := H.size
      exact .inr (by omega)
  z := H'.z
  fr k hk hno := by
    refine (H'.fr k (by have := H.size; show k < w.heap.size; omega) fun id hr => ?_).trans (H.fr k hk hno)
    rcases H.own id k hr with ⟨id0, h0⟩ | h0
    · exact hno id0 h0
    · omega
  os := H'.os.trans H.os
  tape := H'.tape.trans H.tape
  output := H'.output.trans H.output
  size := Nat.le_trans H.size H'.size
  zg k hk := by
    rcases H'.zg k hk with h1 | h1
    · exact H.zg k h1
    · have h1' : w.heap.size ≤ k := h1
      have := H.size
      exact .inr (by omega)
  step := by
    have s := H'.step
    have t := H.step
    refine ⟨fun id g hr => ?_, fun id hd => s.dead _ (t.dead _ hd), fun k hz => s.z _ (t.z _ hz), fun k hz => (s.zb k (t.z k hz)).trans (t.zb k hz), fun id g c e fr hr hr' hcc => ?_⟩
    · rcases t.rho id g hr with h1 | h1
      · exact s.rho id g h1
      · exact .inr (s.dead _ h1)
    · rcases t.rho id g hr with h1 | h1
      · obtain ⟨c1, e1, fr1, hc1, hl1⟩ := t.cap id g c e fr hr h1 hcc
        obtain ⟨c2, e2, fr2, hc2, hl2⟩ := s.cap id g c1 e1 fr1 h1 hr' hc1
        exact ⟨c2, e2, fr2, hc2, Nat.le_trans hl1 hl2⟩
      · obtain ⟨b, hb⟩ := H'.only id g hr'
        exact absurd (s.dead _ h1) (H'.not_dead hb)
end
end Pm
theorem wp_tri_seq {P : Program} {B : Base} {ρ : Nat → Option Nat} {D Z : Nat → Prop} {st S : St} {a : Act} {w : World} {x y : Code} {Q : Exit → Act → World → Prop} (I : Inv B ρ D Z st a w) (hx : Tri P x st fun e st' => e = .normal ∧ Weak st' S)
    (hy : ∀ ρ' D' Z' a' w', Inv B ρ' D' Z' S a' w' → y.wp P Q a' w') : (Code.seq x y).wp P Q a w := by
  refine wp_seq (wp_mono (hx B ρ D Z a w I) ?_)
  rintro e a' w' ⟨st', ρ', D', Z', ⟨rfl, hw⟩, I'⟩
  obtain ⟨ρ2, D2, Z2, I2⟩ := hw B ρ' D' Z' a' w' I'
  exact hy _ _ _ _ _ I2
end Go.Proofs.YtdgoompjoeffcaaGreat
/- A tape that describes: how long a line is. -/
set_option maxRecDepth 20000
open Go Go.Proofs
namespace Go.Proofs.YtdgoompjoeffcaaGreat
open Pm
attribute [local irreducible] Wait CallT CallW NextT Le Weak
def rnL (l : List (Nat × Int)) : List AV := l.map fun r => .agg [.v (.int .i64 (r.1 : Int)), .v (.int .i64 r.2)]
theorem rnL_len (l : List (Nat × Int)) : (rnL l).length = l.length := by simp [rnL]
theorem rnL_ren (f : Nat → Option Nat) (l : List (Nat × Int)) : AV.renL f (rnL l) = rnL l := by rw [AV.renL_eq]; simp [rnL, AV.ren, AV.renL]
theorem rnL_fy (h : List (Option Blk)) (l : List (Nat × Int)) : fyL h (rnL l) = rnL l := by rw [fyL_eq]; simp [rnL, fy_agg, fyL_cons, fyL_nil, fy_v]
theorem rnL_fz (h : List (Option Blk)) (l : List (Nat × Int)) : fzL h (rnL l) = rnL l := by rw [fzL_eq]; simp [rnL, fz_agg, fzL_cons, fzL_nil, fz_v]
theorem rnL_take (l : List (Nat × Int)) : (rnL l).take l.length = rnL l := List.take_of_length_le (by simp [rnL])
theorem rnL_app (l : List (Nat × Int)) (n : Nat) (s : Int) : rnL l ++ [.agg [.v (.int .i64 (n : Int)), .v (.int .i64 s)]] = rnL (l ++ [(n, s)]) := by simp [rnL]
theorem rnL_get (l : List (Nat × Int)) (k : Nat) (h : k < l.length) : (rnL l).getD k .junk = .agg [.v (.int .i64 ((l.getD k (0, 0)).1 : Int)), .v (.int .i64 (l.getD k (0, 0)).2)] := by simp [rnL, List.getD_eq_getElem?_getD, h]
attribute [go_sem] rnL_len rnL_ren rnL_fy rnL_fz rnL_take rnL_app
def runSum (l : List (Nat × Int)) : Nat := (l.map Prod.fst).sum
theorem runSum_take (l : List (Nat × Int)) (k : Nat) (h : k < l.length) : runSum (l.take (k + 1)) = runSum (l.take k) + (l.getD k (0, 0)).1 := by
  have : l.take (k + 1) = l.take k ++ [l.getD k (0, 0)] := by rw [List.take_add_one, List.getD_eq_getElem?_getD, List.getElem?_eq_getElem h]; rfl
  rw [this]
  unfold runSum
  rw [List.map_append, List.sum_append]
  simp
theorem runSum_le (l : List (Nat × Int)) (k : Nat) : runSum (l.take k) ≤ runSum l := by
  have h : runSum l = runSum (l.take k) + runSum (l.drop k) := by
    unfold runSum
    rw [← List.sum_append, ← List.map_append, List.take_append_drop]
  omega
theorem long_pc (l : List (Nat × Int)) (hl : l.length < 1000000000) (hs : runSum l < 1000000000000) : PCon Tryz.prog 67 [.fsl 2 (rnL l)] (· = .v (.int .i64 (runSum l : Int))) := by
  refine pcon_run 1000 Tryz.func67 rfl Tryz.results67 Tryz.ntmps67 (Nat.le_of_ble_eq_true rfl) ?_
  simp -implicitDefEqProofs only [go_sem]
  refine wait_range l.length (fun k => ⟨18, 0, [(3, .v (.int .i64 ((runSum (l.take k) : Nat) : Int))), (6, .fsl 2 (rnL l)), (7, .v (.int .i64 (l.length : Int))), (8, .v (.int .i64 (k : Int)))], []⟩) (fun _ => True) (weak_to [3, 6, 7, 8] [] ?_ (by decide) (fun i h => by cases h)) trivial ?_
  · simp -implicitDefEqProofs only [go_sem, St.keep, List.take_zero, runSum, List.map_nil, List.sum_nil, Int.natCast_zero]
  intro k hk _
  by_cases hkl : k < l.length
  · refine run_sound 1000 _ _ ?_
    have h1 : ((k : Int) < (l.length : Int)) = True := eq_true (by omega)
    have h2 : (k < l.length) = True := eq_true hkl
    have hw1 : IntKind.i64.wrap ((k : Int) + 1) = ((k + 1 : Nat) : Int) := by rw [wrapN (by omega) (by omega)]; omega
    have g := rnL_get l k hkl
    have hsum := runSum_take l k hkl
    have hle := runSum_le l (k + 1)
    have hw2 : IntKind.i64.wrap (((runSum (l.take k) : Nat) : Int) + ((l.getD k (0, 0)).1 : Int)) = ((runSum (l.take (k + 1)) : Nat) : Int) := by rw [wrapN (by omega) (by omega)]; omega
    simp -implicitDefEqProofs only [go_sem, h1, h2, g]
    (repeat' (first | exact trivial | contradiction | exact ⟨_, rfl⟩ | refine And.intro ?_ ?_ | (refine om ?_; omega)  | (refine wait_draw 1000 mixed (by decide +kernel) ?_; simp -implicitDefEqProofs only [go_sem , h1, h2, g]) | intro _))
    all_goals
      refine weak_to [3, 6, 7, 8] [] ?_ (by decide) (fun i h => by cases h)
      simp -implicitDefEqProofs only [go_sem, St.keep, hw1, hw2]
  · obtain rfl : k = l.length := by omega
    have h1 : ((l.length : Int) < (l.length : Int)) = False := eq_false (by omega)
    refine run_sound 1000 _ _ ?_
    simp -implicitDefEqProofs only [go_sem, h1, List.take_length]
end Go.Proofs.YtdgoompjoeffcaaGreat
/- A tape that describes: a command given a number of times, the program's way. -/
namespace Go.Proofs.YtdgoompjoeffcaaGreat
open Pm
attribute [local irreducible] Wait CallT CallW NextT Le Weak
theorem zl_two (l : List Int) (x y : Int) : l.map zA ++ [.v (.int .i64 x), .v (.int .i64 y)] = (l ++ [x, y]).map zA := by simp [zA]
theorem zl_three (l : List Int) (x y z : Int) : l.map zA ++ [.v (.int .i64 x), .v (.int .i64 y), .v (.int .i64 z)] = (l ++ [x, y, z]).map zA := by simp [zA]
attribute [go_sem] zl_two zl_three
def wrB (b n : Nat) : Option Blk := some (.row 55 1 [.agg [.sl b 1 0 n]])
def chunkP (T : List Int) (s : Int) : Nat → List Int
  | 0 => T
  | k + 1 => chunkP T s k ++ [23, 23, s]
theorem chunkP_len (T : List Int) (s : Int) : ∀ k, (chunkP T s k).length = T.length + 3 * k
  | 0 => rfl
  | k + 1 => by simp only [chunkP, List.length_append, chunkP_len T s k, List.length_cons, List.length_nil]; omega
def digT (n : Nat) (s : Int) : List Int := if 15 < n then [8 + ((n / 16 : Nat) : Int), 8 + ((n % 16 : Nat) : Int)] ++ [s] else if 1 < n then [8 + (n : Int)] ++ [s] else [s]
def tiN (T : List Int) (n s : Int) : St := ⟨65, 2, [(0, .ptr 0 1 0 0), (1, .v (.int .i64 n)), (2, .v (.int .i64 s))], [wrB 1 T.length, tpB T]⟩
def tiC (T : List Int) (n s : Int) : St := ⟨65, 2, [(0, .ptr 0 1 0 0), (1, .v (.int .i64 n)), (2, .v (.int .i64 s))], [wrB 2 T.length, none, tpB T]⟩
def tiS (T : List Int) (n s : Int) (k : Nat) : St := if k = 0 then tiN T n s else tiC (chunkP T s k) (n - 255 * (k : Int)) s
theorem wtimes_con (T : List Int) (n : Nat) (s : Int) (h1 : 1 ≤ n) (h2 : n < 1000000000) (hT : T.length < 1000000000) :
    Con Tryz.prog 17 [.ptr 0 1 0 0, .v (.int .i64 (n : Int)), .v (.int .i64 s)] [wrB 1 T.length, tpB T] fun r h => r = .tup [] ∧ ∃ b, h[0]? = some (wrB b (chunkP T s ((n - 1) / 255) ++ digT (n - 255 * ((n - 1) / 255)) s).length) ∧ h[b]? = some (tpB (chunkP T s ((n - 1) / 255) ++ digT (n - 255 * ((n - 1) / 255)) s)) ∧ 1 < b := by
  refine con_run 1000 Tryz.func17 rfl Tryz.results17 Tryz.ntmps17 (Nat.le_of_ble_eq_true rfl) ?_
  obtain ⟨q, hq⟩ : ∃ q, q = (n - 1) / 255 := ⟨_, rfl⟩
  rw [← hq]
  simp -implicitDefEqProofs only [go_sem, tpB, wrB]
  refine wait_range q (tiS T n s) (fun _ => True) (weak_to' [0, 1, 2] [0, 1] ?_ (by decide) (stay_of rfl)) trivial ?_
  · simp -implicitDefEqProofs only [go_sem, St.keep, tiS, tiN, tpB, wrB]
  intro k hk _
  have hlen := chunkP_len T s k
  by_cases hkq : k < q
  · refine run_sound 1000 _ _ ?_
    rw [show tiS T n s (k + 1) = tiC (chunkP T s (k + 1)) (n - 255 * ((k + 1 : Nat) : Int)) s from rfl, show chunkP T s (k + 1) = chunkP T s k ++ [23, 23, s] from rfl]
    have e2 : IntKind.i64.wrap ((n : Int) - 255 * (k : Int) - 255) = (n : Int) - 255 * ((k + 1 : Nat) : Int) := by rw [wrapN (by omega) (by omega)]; omega
    by_cases hk0 : k = 0
    · subst hk0
      have e1 : (255 < (n : Int)) = True := eq_true (by omega)
      have e3 : IntKind.i64.wrap ((n : Int) - 255) = (n : Int) - 255 * ((0 + 1 : Nat) : Int) := by rw [wrapN (by omega) (by omega)]; omega
      rw [show tiS T n s 0 = tiN T n s from rfl, show chunkP T s 0 = T from rfl]
      simp -implicitDefEqProofs only [go_sem, tiN, tpB, wrB, e1, List.length_append, List.length_cons, List.length_nil]
      (repeat' (first | exact trivial | contradiction | exact ⟨_, rfl⟩ | refine And.intro ?_ ?_ | (refine om ?_; omega)  | (refine wait_draw 1000 mixed (by decide +kernel) ?_; simp -implicitDefEqProofs only [go_sem , e1, List.length_append, List.length_cons, List.length_nil]) | intro _))
      all_goals
        refine weak_to' [0, 1, 2] [0, 100, 3] ?_ (by decide) (stay_of rfl)
        simp -implicitDefEqProofs only [go_sem, St.keep, tiC, tpB, wrB, e3, List.length_append, List.length_cons, List.length_nil]
    · rw [show tiS T n s k = tiC (chunkP T s k) (n - 255 * (k : Int)) s from if_neg hk0]
      generalize chunkP T s k = X at hlen ⊢
      have e1 : (255 < (n : Int) - 255 * (k : Int)) = True := eq_true (by omega)
      simp -implicitDefEqProofs only [go_sem, tiC, tpB, wrB, e1, e2, List.length_append, List.length_cons, List.length_nil]
      (repeat' (first | exact trivial | contradiction | exact ⟨_, rfl⟩ | refine And.intro ?_ ?_ | (refine om ?_; omega)  | (refine wait_draw 1000 mixed (by decide +kernel) ?_; simp -implicitDefEqProofs only [go_sem , e1, e2, List.length_append, List.length_cons, List.length_nil]) | intro _))
      all_goals
        refine weak_to' [0, 1, 2] [0, 1, 4] ?_ (by decide) (stay_of rfl)
        simp -implicitDefEqProofs only [go_sem, St.keep, tpB, wrB, e2, List.length_append, List.length_cons, List.length_nil]
  · obtain rfl : k = q := by omega
    obtain ⟨m, hm⟩ : ∃ m, m = n - 255 * k := ⟨_, rfl⟩
    have hm1 : 1 ≤ m ∧ m ≤ 255 := by omega
    rw [← hm]
    have e0 : ((m : Int) = 0) = False := eq_false (by omega)
    have e1 : (255 < (m : Int)) = False := eq_false (by omega)
    have d1 : (m : Int).tdiv 16 = ((m / 16 : Nat) : Int) := by rw [Int.tdiv_eq_ediv_of_nonneg (by omega)]; omega
    have d2 : (m : Int).tmod 16 = ((m % 16 : Nat) : Int) := by rw [Int.tmod_eq_emod_of_nonneg (by omega)]; omega
    have d3 : IntKind.i64.wrap ((m / 16 : Nat) : Int) = ((m / 16 : Nat) : Int) := wrapN (by omega) (by omega)
    have d4 : IntKind.i64.wrap ((m % 16 : Nat) : Int) = ((m % 16 : Nat) : Int) := wrapN (by omega) (by omega)
    have d5 : IntKind.i64.wrap (8 + ((m / 16 : Nat) : Int)) = 8 + ((m / 16 : Nat) : Int) := wrapN (by omega) (by omega)
    have d6 : IntKind.i64.wrap (8 + ((m % 16 : Nat) : Int)) = 8 + ((m % 16 : Nat) : Int) := wrapN (by omega) (by omega)
    have d7 : IntKind.i64.wrap (8 + (m : Int)) = 8 + (m : Int) := wrapN (by omega) (by omega)
    generalize hX : chunkP T s k = X at hlen ⊢
    have hS : tiS T n s k = tiN X m s ∨ tiS T n s k = tiC X m s := by
      unfold tiS
      by_cases hk0 : k = 0
      · subst hk0
        left
        rw [if_pos rfl, ← hX, show chunkP T s 0 = T from rfl, hm]
        rfl
      · right
        rw [if_neg hk0, hX, hm]
        congr 1
        omega
    unfold digT
    rcases hS with hS | hS
    all_goals
      rw [hS]
      refine run_sound 1000 _ _ ?_
      by_cases h15 : 15 < m
      · have c1 : (15 < (m : Int)) = True := eq_true (by omega)
        have c2 : (1 < (m : Int)) = True := eq_true (by omega)
        rw [if_pos h15]
        simp -implicitDefEqProofs only [go_sem, tiN, tiC, tpB, wrB, e0, e1, c1, c2, d1, d2, d3, d4, d5, d6, d7, List.length_append, List.length_cons, List.length_nil]
        (repeat' (first | exact trivial | contradiction | exact ⟨_, rfl⟩ | refine And.intro ?_ ?_ | (refine om ?_; omega)  | (refine wait_draw 1000 mixed (by decide +kernel) ?_; simp -implicitDefEqProofs only [go_sem , e0, e1, c1, c2, d1, d2, d3, d4, d5, d6, d7, List.length_append, List.length_cons, List.length_nil]) | intro _))
        all_goals
          refine ⟨_, rfl, ?_, by decide⟩
          simp [List.append_assoc]
      · have c1 : (15 < (m : Int)) = False := eq_false (by omega)
        rw [if_neg h15]
        by_cases hm2 : 1 < m
        · have c2 : (1 < (m : Int)) = True := eq_true (by omega)
          rw [if_pos hm2]
          simp -implicitDefEqProofs only [go_sem, tiN, tiC, tpB, wrB, e0, e1, c1, c2, d1, d2, d3, d4, d5, d6, d7, List.length_append, List.length_cons, List.length_nil]
          (repeat' (first | exact trivial | contradiction | exact ⟨_, rfl⟩ | refine And.intro ?_ ?_ | (refine om ?_; omega)  | (refine wait_draw 1000 mixed (by decide +kernel) ?_; simp -implicitDefEqProofs only [go_sem , e0, e1, c1, c2, d1, d2, d3, d4, d5, d6, d7, List.length_append, List.length_cons, List.length_nil]) | intro _))
          all_goals
            refine ⟨_, rfl, ?_, by decide⟩
            simp [List.append_assoc]
        · have c2 : (1 < (m : Int)) = False := eq_false (by omega)
          rw [if_neg hm2]
          simp -implicitDefEqProofs only [go_sem, tiN, tiC, tpB, wrB, e0, e1, c1, c2, d1, d2, d3, d4, d5, d6, d7, List.length_append, List.length_cons, List.length_nil]
          (repeat' (first | exact trivial | contradiction | exact ⟨_, rfl⟩ | refine And.intro ?_ ?_ | (refine om ?_; omega)  | (refine wait_draw 1000 mixed (by decide +kernel) ?_; simp -implicitDefEqProofs only [go_sem , e0, e1, c1, c2, d1, d2, d3, d4, d5, d6, d7, List.length_append, List.length_cons, List.length_nil]) | intro _))
          all_goals
            refine ⟨_, rfl, ?_, by decide⟩
            simp [List.append_assoc]
end Go.Proofs.YtdgoompjoeffcaaGreat
/- A tape that describes: the writer's times, told plainly. -/
namespace Go.Proofs.YtdgoompjoeffcaaGreat
open Pm
attribute [local irreducible] Wait CallT CallW NextT Le Weak
def timN (n : Nat) (s : Int) : List Int := if 255 < n then [23, 23, s] ++ timN (n - 255) s else if n = 0 then [] else digT n s
  termination_by n
  decreasing_by omega
theorem chunkP_front (s : Int) : ∀ (k : Nat) (T : List Int), chunkP T s (k + 1) = chunkP (T ++ [23, 23, s]) s k
  | 0, T => rfl
  | k + 1, T => by
    rw [show chunkP T s (k + 1 + 1) = chunkP T s (k + 1) ++ [23, 23, s] from rfl, chunkP_front s k T]
    rfl
theorem tim_split (s : Int) (n : Nat) : ∀ T : List Int, 1 ≤ n → chunkP T s ((n - 1) / 255) ++ digT (n - 255 * ((n - 1) / 255)) s = T ++ timN n s := by
  induction n using Nat.strongRecOn with
  | ind n ih =>
    intro T h1
    rw [timN]
    by_cases h : 255 < n
    · rw [if_pos h, show (n - 1) / 255 = (n - 255 - 1) / 255 + 1 by omega, chunkP_front, show n - 255 * ((n - 255 - 1) / 255 + 1) = (n - 255) - 255 * ((n - 255 - 1) / 255) by omega, ih (n - 255) (by omega) _ (by omega)]
      simp [List.append_assoc]
    · rw [if_neg h, if_neg (show ¬ n = 0 by omega), show (n - 1) / 255 = 0 by omega, Nat.mul_zero, Nat.sub_zero]
      rfl
theorem times_pcon (T : List Int) (n : Nat) (s : Int) (h1 : 1 ≤ n) (h2 : n < 1000000000) (hT : T.length < 1000000000) :
    Con Tryz.prog 17 [.ptr 0 1 0 0, .v (.int .i64 (n : Int)), .v (.int .i64 s)] [wrB 1 T.length, tpB T] fun r h => r = .tup [] ∧ h = [wrB 2 (T ++ timN n s).length, none, tpB (T ++ timN n s)] := by
  refine Con.move (Con.mono (wtimes_con T n s h1 h2 hT) fun r h => ?_)
  rw [tim_split s n T h1]
  generalize T ++ timN n s = X
  rintro ⟨rfl, b, ha, hb, hz⟩
  have hlt : b < h.length := (List.getElem?_eq_some_iff.1 hb).1
  have hnone : h[h.length + 1]? = none := List.getElem?_eq_none (by omega)
  have hb1 : ¬ b = 0 := by omega
  have hb2 : ¬ b = h.length + 1 := by omega
  refine ⟨[0, h.length + 1, b], by simp; omega, ?_, ?_, ?_⟩
  · simp [stayB, List.range_succ]
  · simp [AV.ren, AV.renL]
  · simp only [List.map_cons, List.map_nil, keepB, ha, hb, hnone, tpB, wrB, Blk.ren, zl_ren]
    simp [AV.renL, AV.ren, AV.renId, idxOf, hb1, hb2]
end Go.Proofs.YtdgoompjoeffcaaGreat
