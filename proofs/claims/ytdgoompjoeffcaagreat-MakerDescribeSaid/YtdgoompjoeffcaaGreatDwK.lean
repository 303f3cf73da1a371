import Derived.Test.YtdgoompjoeffcaaGreatProg
import Derived.Test.YtdgoompjoeffcaaGreatPmY
import Derived.Test.YtdgoompjoeffcaaGreatDeI
import Derived.Test.YtdgoompjoeffcaaGreatDwA
import Derived.RangeFuncNested
import Derived.RangeFuncCalls
import Derived.RangeFuncLeaves
import Derived.Shelf.Abstract
import Derived.WalkKit
import Derived.OwnWalkIn
import Derived.TacticsInMore
import Derived.LoopNIn
import Derived.LoopIn
import Derived.Test.YtdgoompjoeffcaaGreatPmZ
/- A tape that describes: the document's tape is the program's, a plain law. -/
set_option linter.unusedSimpArgs false
set_option linter.unusedVariables false
set_option maxRecDepth 20000
open Go Go.Proofs
namespace Go.Proofs.YtdgoompjoeffcaaGreat
open Pm
attribute [local irreducible] Wait CallT CallW NextT Le Weak
/-- A command given so many times, the document's way. -/
def numD (n : Nat) (s : Int) : List Int := if 255 < n then [23, 23, s] ++ numD (n - 255) s else
    (if 15 < n then [8 + ((n / 16 : Nat) : Int)] else []) ++ (if 1 < n then [8 + ((n % 16 : Nat) : Int)] else []) ++ [s]
  termination_by n
  decreasing_by omega
theorem numD_times (s : Int) (n : Nat) : 1 ≤ n → numD n s = timesP n s := by
  induction n using Nat.strongRecOn with
  | ind n ih =>
    intro h1
    rw [numD, timesP]
    by_cases h : 255 < n
    · rw [if_pos h, if_pos h, ih (n - 255) (by omega) (by omega)]
      rfl
    · rw [if_neg h, if_neg h, if_neg (show ¬ n = 0 by omega)]
      unfold digP
      by_cases h15 : 15 < n
      · rw [if_pos h15, if_pos (show 1 < n by omega), if_pos h15]
        rfl
      · rw [if_neg h15, if_neg h15]
        by_cases hn : 1 < n
        · rw [if_pos hn, if_pos hn, show n % 16 = n by omega]
          rfl
        · rw [if_neg hn, if_neg hn]
          rfl
/-- A line of states, the document's way. -/
def lineD (l : List Int) : List Int := (rle l).flatMap fun r => numD r.1 (24 + numF r.2)
theorem rle_pos : ∀ l : List Int, ∀ r ∈ rle l, 1 ≤ r.1
  | [], r, h => by cases h
  | x :: l, r, h => by
    have ih := rle_pos l
    simp only [rle] at h
    split at h
    · rename_i n y t e
      split at h
      · rcases List.mem_cons.1 h with rfl | h
        · simp only; omega
        · exact ih r (by rw [e]; simp [h])
      · rcases List.mem_cons.1 h with rfl | h
        · exact Nat.le_refl 1
        · exact ih r (by rw [e]; exact h)
    · simp only [List.mem_singleton] at h
      subst h
      exact Nat.le_refl 1
/-- A state that is written, or none. -/
def wrt (s : Int) : Prop := stN (numF s) = s
theorem wrt_zero : wrt 0 := by unfold wrt; rw [numF_zero, stN_zero]
theorem wrt_inj {a b : Int} (ha : wrt a) (hb : wrt b) (h : numF a = numF b) : a = b := by
  unfold wrt at ha hb
  rw [← ha, ← hb, h]
theorem lineD_same {W : List Int} {l : List (Nat × Int)} (hW : ∀ a ∈ W, wrt a) (hc : canon l) (h : lineN l = W.map numF) : lineD W = lineC l := by
  have h1 := rle_canon l hc
  rw [h, rle_map numF W fun a ha b hb e => wrt_inj (hW a ha) (hW b hb) e] at h1
  unfold lineD lineC
  rw [← h1, List.flatMap_map]
  have : ∀ L : List (Nat × Int), (∀ r ∈ L, 1 ≤ r.1) → L.flatMap (fun r => numD r.1 (24 + numF r.2)) = L.flatMap (fun r => timesP r.1 (24 + numF r.2)) := by
    intro L
    induction L with
    | nil => intro _; rfl
    | cons r L ih =>
      intro hL
      rw [List.flatMap_cons, List.flatMap_cons, ih fun x hx => hL x (by simp [hx]), numD_times _ _ (hL r (by simp))]
  exact this _ (rle_pos W)
/-- A row of states, the document's way: from the far ends. -/
structure Rd where
  west : List Int
  east : List Int
  mid : Int
def sideD (turn back : Int) (l : List Int) : List Int := if l = [] then [] else turn :: (numD l.length 5 ++ (lineD l ++ [back]))
def rowD (p : List Ce) (y : Int) : Rd :=
  let l := rowCells id p y
  ⟨(List.range (farW l)).map fun i : Nat => nAt l ((i : Int) - (farW l : Int)), (List.range (farW (negL l))).map fun i : Nat => nAt (negL l) ((i : Int) - (farW (negL l) : Int)), nAt l 0⟩
theorem far_map (f : Int → Int) (p : List Ce) (y : Int) : farW (rowCells f p y) = farW (rowCells id p y) ∧ farW (negL (rowCells f p y)) = farW (negL (rowCells id p y)) := by
  unfold rowCells negL
  generalize p.filter (fun c => decide (c.1.2 = y)) = l
  constructor
  · cases l <;> rfl
  · rw [← List.map_reverse, ← List.map_reverse, List.map_map, List.map_map]
    cases l.reverse <;> rfl
theorem row_at {p : List Ce} (x y : Int) : nAt (rowCells numF p y) x = numF (nAt (rowCells id p y) x) := by rw [nAt_row numF numF_zero, nAt_row id rfl]; rfl
/-- The document's row has the program's numbers. -/
theorem row_same {p : List Ce} (hp : Desc p) (y : Int) : lineN (rowP (rowCells numF p y)).west = (rowD p y).west.map numF ∧ lineN (rowP (rowCells numF p y)).east = (rowD p y).east.map numF ∧ (rowP (rowCells numF p y)).mid = numF (rowD p y).mid ∧
    canon (rowP (rowCells numF p y)).west ∧ canon (rowP (rowCells numF p y)).east ∧ (∀ a ∈ (rowD p y).west, wrt a) ∧ (∀ a ∈ (rowD p y).east, wrt a) ∧ wrt (rowD p y).mid := by
  have ha := asc_row numF hp.ord y
  have hi := asc_row id hp.ord y
  obtain ⟨w1, w2⟩ := westP_spec ha
  obtain ⟨e1, e2⟩ := westP_spec (asc_neg ha)
  obtain ⟨f1, f2⟩ := far_map numF p y
  have hn := ord_nodup hp.ord
  have hwr : ∀ x, wrt (nAt (rowCells id p y) x) := fun x => by
    rw [nAt_row id rfl]
    by_cases h0 : aget 0 (x, y) p = 0
    · rw [h0]; exact wrt_zero
    · exact written_back (hp.num _ (aget_mem hn h0 rfl))
  refine ⟨?_, ?_, row_at 0 y, w2, e2, fun a h => ?_, fun a h => ?_, hwr 0⟩
  · show lineN (westP _) = _
    rw [w1, f1]
    unfold rowD
    simp only [List.map_map]
    exact List.map_congr_left fun i _ => row_at _ y
  · show lineN (westP _) = _
    rw [e1, f2]
    unfold rowD
    simp only [List.map_map]
    exact List.map_congr_left fun i _ => by simp only [Function.comp]; rw [nAt_neg ha, nAt_neg hi, row_at]
  · obtain ⟨i, _, rfl⟩ := List.mem_map.1 h
    exact hwr _
  · obtain ⟨i, _, rfl⟩ := List.mem_map.1 h
    rw [nAt_neg hi]
    exact hwr _
theorem side_same {turn back : Int} {W : List Int} {l : List (Nat × Int)} (hW : ∀ a ∈ W, wrt a) (hc : canon l) (h : lineN l = W.map numF) : sideD turn back W = sideC turn back l := by
  have hl : W.length = lineLen l := by rw [lineLen_N, h, List.length_map]
  have h0 : W = [] ↔ l = [] := by
    constructor
    · intro e
      rw [e, List.map_nil] at h
      have := rle_canon l hc
      rw [h] at this
      exact this.symm
    · intro e
      rw [e] at h
      cases W with
      | nil => rfl
      | cons a W => cases h
  unfold sideD sideC
  by_cases e : W = []
  · rw [if_pos e, if_pos (h0.1 e)]
  · rw [if_neg e, if_neg (fun e2 => e (h0.2 e2)), lineD_same hW hc h, hl, numD_times]
    have : W.length ≠ 0 := fun e3 => e (List.length_eq_zero_iff.1 e3)
    omega
end Go.Proofs.YtdgoompjoeffcaaGreat
/- A tape that describes: the document's number, told plainly. -/
namespace Go.Proofs.YtdgoompjoeffcaaGreat
open Pm
attribute [local irreducible] Wait CallT CallW NextT Le Weak
theorem chunk_front (s : Int) : ∀ (k : Nat) (T : List Int), chunkT T s (k + 1) = chunkT (T ++ [23] ++ [23] ++ [s]) s k
  | 0, T => rfl
  | k + 1, T => by
    rw [show chunkT T s (k + 1 + 1) = chunkT T s (k + 1) ++ [23] ++ [23] ++ [s] from rfl, chunk_front s k T]
    rfl
theorem num_split (s : Int) (n : Nat) : ∀ T : List Int, 1 ≤ n → chunkT T s ((n - 1) / 255) ++ numT (n - 255 * ((n - 1) / 255)) s = T ++ numD n s := by
  induction n using Nat.strongRecOn with
  | ind n ih =>
    intro T h1
    rw [numD]
    by_cases h : 255 < n
    · rw [if_pos h, show (n - 1) / 255 = (n - 255 - 1) / 255 + 1 by omega, chunk_front, show n - 255 * ((n - 255 - 1) / 255 + 1) = (n - 255) - 255 * ((n - 255 - 1) / 255) by omega, ih (n - 255) (by omega) _ (by omega)]
      simp [List.append_assoc]
    · rw [if_neg h, show (n - 1) / 255 = 0 by omega, Nat.mul_zero, Nat.sub_zero]
      rfl
theorem number_pcon (T : List Int) (n : Nat) (s : Int) (h1 : 1 ≤ n) (h2 : n < 1000000000) (hT : T.length < 1000000000) :
    Con Tryz.prog 12 [.sl 0 1 0 T.length, .v (.int .i64 (n : Int)), .v (.int .i64 s)] [tpB T] fun r h => r = .sl 1 1 0 (T ++ numD n s).length ∧ h = [none, tpB (T ++ numD n s)] := by
  refine Con.move (Con.mono (number_con T n s h1 h2 hT) fun r h => ?_)
  rw [num_split s n T h1]
  generalize T ++ numD n s = X
  rintro ⟨b, rfl, hb, h0, hz⟩
  have hlt : b < h.length := (List.getElem?_eq_some_iff.1 hb).1
  refine ⟨[0, b], by simp; omega, by simp [stayB], ?_, ?_⟩
  · have : ¬ b = 0 := by omega
    simp [AV.ren, AV.renId, idxOf, this]
  · simp only [List.map_cons, List.map_nil, keepB, hz, hb, tpB, Blk.ren, zl_ren]
end Go.Proofs.YtdgoompjoeffcaaGreat
/- A tape that describes: a line's runs, one after the other. -/
open Go Go.Proofs Go.RowKit Go.Shelf
namespace Go.Proofs.YtdgoompjoeffcaaGreat
attribute [local go_sem] Oper.semAt_some
/-- What the rounds keep: nothing is given back, and what nobody writes lies as it lay. -/
structure KpZ (Z : Nat → Prop) (W W' : World) : Prop where
  size : W.heap.size ≤ W'.heap.size
  same : ∀ k, Z k → W'.heap[k]? = W.heap[k]?
theorem KpZ.refl (Z : Nat → Prop) (W : World) : KpZ Z W W := ⟨Nat.le_refl _, fun _ _ => rfl⟩
theorem KpZ.trans {Z : Nat → Prop} {X Y W : World} (h : KpZ Z X Y) (k : KpZ Z Y W) : KpZ Z X W := ⟨Nat.le_trans h.size k.size, fun i hi => (k.same i hi).trans (h.same i hi)⟩
theorem KpZ.cell {Z : Nat → Prop} {W W' : World} (h : KpZ Z W W') {p : Addr} (hz : Z p.block) : W'.cell? p = W.cell? p := by
  unfold World.cell?
  rw [h.same _ hz]
theorem KpZ.alloc {Z : Nat → Prop} (W : World) (o : Obj) (hZ : ∀ k, Z k → k < W.heap.size) : KpZ Z W (W.alloc o) :=
  ⟨by simp, fun k hk => by show (W.heap.push o)[k]? = _; rw [Array.getElem?_push, if_neg (by have := hZ k hk; omega)]⟩
/-- The first so many. -/
def upto {α : Type} (f : Nat → α) (k : Nat) : List α := (List.range k).map f
set_option maxRecDepth 100000 in
set_option maxHeartbeats 2000000 in
theorem runs1_in (F : Fence) (n : Nat) (h7 : F.fn 68) (hro : F.round = none) (hn : 1 ≤ n) (l : Nat) (Z : Nat → Prop) (b off len cap : Nat) (f : Nat → Nat × Int) (hreach : len * 16 ≤ 140737488351232) (hb : Z b) (J : Nat → World → Prop)
    (W : World) (hJ : ∀ k W o, J k W → J k (W.alloc o)) (hJz : ∀ k W, J k W → ∀ i, Z i → i < W.heap.size)
    (hY : ∀ k W, k < len → J k W → YieldAt F (n - 1) Tryz.prog l #[.int .i64 ((f k).1 : Int), .int .i64 (f k).2] W fun e W' => e = .returned (.bool true) ∧ J (k + 1) W' ∧ KpZ Z W W')
    (hc : ∀ j, j < len → W.cell? ⟨b, off + j * 2, none⟩ = some (.int .i64 ((f j).1 : Int)) ∧ W.cell? ⟨b, off + j * 2 + 1, none⟩ = some (.int .i64 (f j).2)) (h0 : J 0 W) :
    CallsIn F n Tryz.prog 68 #[.slice (some ⟨b, off, none⟩) len cap, .func (.yield l) #[] #[]] W fun e W' => (∃ v, e = .returned v) ∧ J len W' := by
  refine callsIn_of_wp Tryz.func68 rfl h7 ?_ hro
  simp only [Tryz.ntmps68, List.size_toArray, List.length_cons, List.length_nil, Nat.reduceAdd, Nat.reduceSub, Array.replicate_succ, Array.replicate_zero, List.push_toArray, List.append_toArray, List.nil_append, List.cons_append]
  gi_wp2
  gi_loopw [8] (fun i wr => ∃ k : Nat, k ≤ len ∧ i = .int .i64 k ∧ J k wr ∧ KpZ Z W wr)
    (fun i _ => len - (intOf i).toNat)
  case atStart => exact ⟨0, Nat.zero_le _, rfl, h0, KpZ.refl _ _⟩
  case round =>
    obtain ⟨k, hk, rfl, hJs, hnx⟩ := hrel
    have hcx : k < len → wr.cell? ⟨b, off + k * 2, none⟩ = some (.int .i64 ((f k).1 : Int)) ∧ wr.cell? ⟨b, off + k * 2 + 1, none⟩ = some (.int .i64 (f k).2) := fun h =>
      ⟨(hnx.cell (p := ⟨b, off + k * 2, none⟩) hb).trans (hc k h).1, (hnx.cell (p := ⟨b, off + k * 2 + 1, none⟩) hb).trans (hc k h).2⟩
    by_cases hlt : k < len
    · obtain ⟨hc1, hc2⟩ := hcx hlt
      obtain ⟨fn, tmps, assign, body, hy, hR⟩ := hY k (wr.alloc (Obj.cells #[Value.int IntKind.i64 ((f k).1 : Int), Value.int IntKind.i64 (f k).2] 145)) hlt (hJ k wr _ hJs)
      have hnx2 := hnx.trans (KpZ.alloc (Z := Z) wr (Obj.cells #[Value.int IntKind.i64 ((f k).1 : Int), Value.int IntKind.i64 (f k).2] 145) (hJz k wr hJs))
      gi_wp2
      refine hR.mono ?_
      rintro e W3 ⟨rfl, hJ3, hk3⟩
      gi_wp2
      go_roundw
      case rel => exact ⟨k + 1, by omega, by simp, hJ3, hnx2.trans hk3⟩
      case measure => simp [intOf]; omega
    · obtain rfl : k = len := by omega
      gi_wp2
      go_end0
      exact ⟨⟨_, rfl⟩, hJs⟩
end Go.Proofs.YtdgoompjoeffcaaGreat
/- A range over a function in a walk over abstract values: the law, for a body that goes on to the end. -/
open Go Go.Proofs Go.RowKit
namespace Go.Proofs.YtdgoompjoeffcaaGreat
open Pm
/-- An iterator: whatever the rounds keep, all N of them come. -/
def IterZ (P : Program) (gf : FuncId) (fs lb : Array Value) (enc : Nat → Array Value) (N : Nat) (Z : Nat → Prop) (w0 : World) : Prop :=
  ∀ (l : Nat) (J : Nat → World → Prop) (W : World), KpZ Z w0 W → (∀ k W o, J k W → J k (W.alloc o)) → (∀ k W, J k W → ∀ i, Z i → i < W.heap.size) →
    (∀ k W, k < N → J k W → YieldAt Fence.wide 0 P l (enc k) W fun e W' => e = .returned (.bool true) ∧ J (k + 1) W' ∧ KpZ Z W W') → J 0 W →
    CallsIn Fence.wide 1 P gf (fs ++ #[.func (.yield l) #[] #[]] ++ lb) W fun e W' => (∃ v, e = .returned v) ∧ J N W'
/-- The rest of the world lies as it lay. -/
structure Else (b : Nat) (W W' : World) : Prop where
  size : W.heap.size ≤ W'.heap.size
  os : W'.os = W.os
  tape : W'.tape = W.tape
  output : W'.output = W.output
  same : ∀ i, i < W.heap.size → i ≠ b → i ≠ b + 1 → W'.heap[i]? = W.heap[i]?
theorem Else.alloc (b : Nat) (W : World) (o : Obj) : Else b W (W.alloc o) := ⟨by simp, rfl, rfl, rfl, fun i h _ _ => by show (W.heap.push o)[i]? = _; rw [Array.getElem?_push, if_neg (by omega)]⟩
theorem Else.put (b : Nat) (W : World) (o : Obj) : Else b W (W.putObj (b + 1) o) := ⟨by simp, rfl, rfl, rfl, fun i _ _ h => World.putObj_heap_other h⟩
theorem Else.put0 (b : Nat) (W : World) (o : Obj) : Else b W (W.putObj b o) := ⟨by simp, rfl, rfl, rfl, fun i _ h _ => World.putObj_heap_other h⟩
theorem wp_rangeZ {P : Program} {g : Operand} {ps : Array Tmp} {assign body : Code} {Q : Exit → Act → World → Prop} {a : Act} {w : World} {gf : FuncId} {fs lb : Array Value} {enc : Nat → Array Value} {N : Nat} {Z : Nat → Prop}
    (hg : a.eval g = .func (.func gf) fs lb) (eg : ∀ args w, (callFunc gf args).run P w = .ok (.enter gf args) w) (hit : IterZ P gf fs lb enc N Z w) (hps : ∀ k, (enc k).size = ps.size) (hZ : ∀ i, Z i → i < w.heap.size)
    (I : Nat → World → Prop) (hI : ∀ k W W', I k W → Else w.heap.size W W' → I k W') (hIz : ∀ k W, I k W → ∀ i, Z i → i < W.heap.size) (h0 : I 0 w) (a₁ : Nat → Act)
    (hassign : ∀ (l k : Nat) (W : World) (K : Act → World → Prop), K (a₁ k) W → assign.wpIn (Fence.wide.inRound l) 0 P (Exit.then K (fun _ _ _ => False)) { tmps := (ps.zip (enc k)).foldl (fun t (p, v) => t.setIfInBounds p v) a.tmps, defers := [] } W)
    (hbody : ∀ (l k : Nat) (W : World), k < N → I k W → w.heap.size + 2 ≤ W.heap.size → body.wpIn (Fence.wide.inRound l) 0 P (fun e _ W' => e = .normal ∧ I (k + 1) W' ∧ KpZ Z W W' ∧ ∀ i, w.heap.size ≤ i → i < w.heap.size + 2 → W'.heap[i]? = W.heap[i]?) (a₁ k) W)
    (hdone : ∀ W, I N W → w.heap.size + 2 ≤ W.heap.size → W.heap[w.heap.size]? = some (.deferred (some [])) → Q .normal { a with defers := { target := .collected w.heap.size, args := #[] } :: a.defers } W) :
    (Code.rangeFunc g ps assign body).wp P Q a w := by
  refine (wpIn_wide (n := 2)).1 (wpIn_rangeFunc ?_)
  intro fn _
  obtain ⟨rec, hrec⟩ : ∃ rec : LoopState → Loop, rec = fun st => { state := st, pending := none, fn, tmps := a.tmps, params := ps, assign, body, defers := w.heap.size } := ⟨_, rfl⟩
  obtain ⟨W1, hW1⟩ : ∃ W1, (w.alloc (.deferred (some []))).alloc (.loop (rec .ready)) = W1 := ⟨_, rfl⟩
  have s1 : W1.heap.size = w.heap.size + 2 := by rw [← hW1]; simp
  have e1 : Else w.heap.size w W1 := by
    rw [← hW1]
    have x := Else.alloc w.heap.size w (.deferred (some []))
    have y := Else.alloc w.heap.size (w.alloc (.deferred (some []))) (.loop (rec .ready))
    exact ⟨by simp; omega, rfl, rfl, rfl, fun i hi a b => (y.same i (by simp; omega) a b).trans (x.same i hi a b)⟩
  have l1 : W1.heap[w.heap.size + 1]? = some (.loop (rec .ready)) := by
    rw [← hW1]
    have := World.alloc_heap_new (w.alloc (.deferred (some []))) (.loop (rec .ready))
    rwa [World.size_alloc] at this
  have d1 : W1.heap[w.heap.size]? = some (.deferred (some [])) := by
    rw [← hW1]
    refine Eq.trans ?_ (World.alloc_heap_new w _)
    show ((w.alloc (.deferred (some []))).heap.push _)[w.heap.size]? = _
    rw [Array.getElem?_push, if_neg (by simp)]
  refine ⟨w.heap.size + 1, [{ target := .collected w.heap.size, args := #[] }], W1, { target := .fn (.func gf) lb, args := fs ++ #[.func (.yield (w.heap.size + 1)) #[] #[]] }, W1, gf,
    fs ++ #[.func (.yield (w.heap.size + 1)) #[] #[]] ++ lb, W1, ?_, ?_, fun _ _ => trivial, ?_, fun _ => by decide, ?_⟩
  · rw [← hW1, hrec]
    exact run_enterLoop_outer _ _ _ _ _
  · simp only [resolve, hg]
    simp [go_sem]
  · simp [invoke, go_sem, eg]
  · refine (hit (w.heap.size + 1) (fun k W => I k W ∧ W.heap[w.heap.size + 1]? = some (.loop (rec .ready)) ∧ W.heap[w.heap.size]? = some (.deferred (some []))) W1 ⟨e1.size, fun i hi => e1.same i (hZ i hi) (by have := hZ i hi; omega) (by have := hZ i hi; omega)⟩
      ?_ (fun k W h => hIz k W h.1) ?_ ⟨hI 0 w W1 h0 e1, l1, d1⟩).mono ?_
    · rintro k W o ⟨i1, i2, i3⟩
      have x := Else.alloc w.heap.size W o
      have hlt := (Array.getElem?_eq_some_iff.1 i2).1
      refine ⟨hI k W _ i1 x, ?_, ?_⟩
      · show (W.heap.push o)[_]? = _
        rw [Array.getElem?_push, if_neg (by omega)]
        exact i2
      · show (W.heap.push o)[_]? = _
        rw [Array.getElem?_push, if_neg (by omega)]
        exact i3
    · rintro k W hk ⟨i1, i2, i3⟩
      have hlt := (Array.getElem?_eq_some_iff.1 i2).1
      have hy := run_yield (P := P) (args := enc k) i2 (by rw [hrec]; exact hps k)
      rw [hrec] at hy
      refine ⟨fn, _, assign, body, hy, roundIn_of_wpIn trivial (hassign _ k W _ ⟨_, run_beginRound i2 (by rw [hrec]), ?_⟩)⟩
      obtain ⟨W2, hW2⟩ : ∃ W2, W.putObj (w.heap.size + 1) (.loop { rec .ready with state := .busy }) = W2 := ⟨_, rfl⟩
      rw [hW2]
      have l2 : W2.heap[w.heap.size + 1]? = some (.loop { rec .ready with state := .busy }) := by rw [← hW2]; exact World.putObj_heap_same hlt
      have d2 : W2.heap[w.heap.size]? = some (.deferred (some [])) := by rw [← hW2]; exact (World.putObj_heap_other (by omega)).trans i3
      have e2 : Else w.heap.size W W2 := by rw [← hW2]; exact Else.put _ _ _
      have z2 : KpZ Z W W2 := ⟨e2.size, fun i hi => e2.same i (hIz k W i1 i hi) (by have := hZ i hi; omega) (by have := hZ i hi; omega)⟩
      refine wpIn_mono (hbody _ k W2 hk (hI k W W2 i1 e2) (by rw [← hW2]; simp; omega)) ?_
      rintro e a3 W3 ⟨rfl, j1, j2, j3⟩
      have l3 := (j3 (w.heap.size + 1) (by omega) (by omega)).trans l2
      have d3 := (j3 w.heap.size (by omega) (by omega)).trans d2
      have hend := run_endRound (P := P) none l3
      have hs : ({ ({ rec .ready with state := .busy } : Loop) with state := if (none : Option Code).isNone then .ready else .done, pending := none } : Loop) = rec .ready := by rw [hrec]; rfl
      have e4 : Else w.heap.size W3 (W3.putObj (w.heap.size + 1) (.loop (rec .ready))) := Else.put _ _ _
      have hlt3 := (Array.getElem?_eq_some_iff.1 l3).1
      rw [hs] at hend
      refine ⟨_, _, hend, rfl, ⟨hI _ _ _ j1 e4, World.putObj_heap_same hlt3, (World.putObj_heap_other (by omega)).trans d3⟩, (z2.trans j2).trans ⟨e4.size, fun i hi => e4.same i ?_ (by have := hZ i hi; omega) (by have := hZ i hi; omega)⟩⟩
      exact hIz _ _ j1 i hi
    · rintro e W ⟨⟨v, rfl⟩, i1, i2, i3⟩
      have hend := run_endLoop (P := P) i2 (by rw [hrec]; simp)
      have hp : (rec .ready).pending = none := by rw [hrec]
      rw [hp] at hend
      exact ⟨none, _, hend, hdone _ (hI _ _ _ i1 (Else.put _ _ _)) (by have := (Array.getElem?_eq_some_iff.1 i2).1; simp; omega) ((World.putObj_heap_other (by omega)).trans i3)⟩
end Go.Proofs.YtdgoompjoeffcaaGreat
