import Derived.WalkKit
import Derived.Below
import Derived.KernelRfl
import Derived.Laws.Rows
import Derived.Laws.Cells
import Derived.Laws.Tables
import Derived.MapKept
import Derived.Laws.CopyRow
/- PM, part A: abstract values for Go's values (what lies behind a pointer, a slice or a map is named by a small number, or told whole), and when a value of the machine is one of them. -/
namespace Go.Proofs.YtdgoompjoeffcaaGreat
namespace Pm

/-- Abstract values. -/
inductive AV where
  | v (x : Value)
  | agg (cs : List AV)
  | tup (vs : List AV)
  | ptr (id sz i j : Nat)
  | sl (id sz off len : Nat)
  | map (id : Nat)
  | fsl (sz : Nat) (es : List AV)
  | fptr (cs : List AV)
  | fmap (ks vs : List AV)
  | clo (fn : Fn) (first cap : List AV)
  | junk
  deriving Inhabited

/-- The cells of a value. -/
def AV.cells : AV → List AV
  | .agg cs => cs
  | a => [a]
def AV.cellAt (a : AV) (j : Nat) : AV := a.cells.getD j .junk
/-- The number that a value names, if it is one that names one. -/
def AV.idOf : AV → Option Nat
  | .ptr id _ _ _ => some id
  | .sl id _ _ _ => some id
  | .map id => some id
  | _ => none
/-- Values that fill one cell. -/
def AV.one : AV → Bool
  | .v x => x.oneCell'
  | .agg _ => false
  | .tup _ => false
  | .junk => false
  | _ => true

/-- The stamps of a map's entries. -/
def Stamps (es : Array MapEntry) (clock : Nat) : Prop := (∀ x ∈ es.toList, x.born < clock) ∧ (es.toList.map (·.born)).Nodup
/-- v is an a in the world w: the live block id is the machine's block rho id; dead ones mean nothing; Z: the blocks that nobody writes. -/
inductive RV (w : World) (ρ : Nat → Option Nat) (D Z : Nat → Prop) : AV → Value → Prop where
  | v (x : Value) : RV w ρ D Z (.v x) x
  | junk (x : Value) : RV w ρ D Z .junk x
  | dead {a : AV} {id : Nat} (x : Value) (ha : a.idOf = some id) (hd : D id) (h1 : x.oneCell' = true) : RV w ρ D Z a x
  | agg {cs : List AV} {c : Array Value} (hl : cs.length = c.size) (h : ∀ i, i < cs.length → RV w ρ D Z (cs.getD i .junk) (c.getD i undef)) : RV w ρ D Z (.agg cs) (.agg c)
  | tup {cs : List AV} {c : Array Value} (hl : cs.length = c.size) (h : ∀ i, i < cs.length → RV w ρ D Z (cs.getD i .junk) (c.getD i undef)) : RV w ρ D Z (.tup cs) (.tuple c)
  | ptr {id sz i j g : Nat} (hr : ρ id = some g) : RV w ρ D Z (.ptr id sz i j) (.pointer (some ⟨g, i * sz + j, none⟩))
  | sl {id sz off len g cap : Nat} (hr : ρ id = some g) (hc : ∃ c e fr, w.heap[g]? = some (.cells c e fr) ∧ (off + cap) * sz ≤ c.size) (hl : len ≤ cap) (hm : cap ≤ maxLen) :
      RV w ρ D Z (.sl id sz off len) (.slice (some ⟨g, off * sz, none⟩) len cap)
  | map {id g : Nat} (hr : ρ id = some g) : RV w ρ D Z (.map id) (.map (some g))
  | fsl {sz cap : Nat} {es : List AV} {A : Option Addr} (F : Nat → Nat → Value) (hl : es.length ≤ cap) (hm : cap ≤ maxLen)
      (hs : ∀ i, i < es.length → (es.getD i .junk).cells.length = sz)
      (hA : ∀ i j, i < es.length → j < sz → ∃ a, A = some a ∧ Z a.block ∧ w.cell? (a.add (i * sz + j)) = some (F i j)) (h1 : ∀ i j, i < es.length → j < sz → (F i j).oneCell' = true)
      (h : ∀ i j, i < es.length → j < sz → RV w ρ D Z ((es.getD i .junk).cellAt j) (F i j)) : RV w ρ D Z (.fsl sz es) (.slice A es.length cap)
  | fptr {cs : List AV} {a : Addr} (F : Nat → Value) (hz : Z a.block) (hA : ∀ j, j < cs.length → w.cell? (a.add j) = some (F j))
      (h : ∀ j, j < cs.length → RV w ρ D Z (cs.getD j .junk) (F j)) : RV w ρ D Z (.fptr cs) (.pointer (some a))
  | fmap {ks vs : List AV} {g clock : Nat} {ents : Array MapEntry} (hz : Z g) (hh : w.heap[g]? = some (.map ents clock)) (hs : Stamps ents clock) (hl : ents.size = ks.length) (hl2 : vs.length = ks.length)
      (hk : ∀ i, i < ks.length → RV w ρ D Z (ks.getD i .junk) (ents.getD i default).key) (hv : ∀ i, i < ks.length → RV w ρ D Z (vs.getD i .junk) (ents.getD i default).val) : RV w ρ D Z (.fmap ks vs) (.map (some g))
  | clo {fn : Fn} {fs cs : List AV} {f c : Array Value} (hf : fs.length = f.size) (h1 : ∀ i, i < fs.length → RV w ρ D Z (fs.getD i .junk) (f.getD i undef))
      (hl : cs.length = c.size) (h : ∀ i, i < cs.length → RV w ρ D Z (cs.getD i .junk) (c.getD i undef)) : RV w ρ D Z (.clo fn fs cs) (.func fn f c)

section
variable {w : World} {ρ : Nat → Option Nat} {D Z : Nat → Prop}
theorem RV.v_inv {x y : Value} (h : RV w ρ D Z (.v x) y) : y = x := by
  generalize hb : AV.v x = b at h
  cases h with
  | v => cases hb; rfl
  | dead _ ha => subst hb; simp [AV.idOf] at ha
  | _ => cases hb
theorem RV.agg_inv {cs : List AV} {y : Value} (h : RV w ρ D Z (.agg cs) y) : ∃ c, y = .agg c ∧ cs.length = c.size ∧ ∀ i, i < cs.length → RV w ρ D Z (cs.getD i .junk) (c.getD i undef) := by
  generalize hb : AV.agg cs = b at h
  cases h with
  | agg hl h => cases hb; exact ⟨_, rfl, hl, h⟩
  | dead _ ha => subst hb; simp [AV.idOf] at ha
  | _ => cases hb
theorem RV.tup_inv {cs : List AV} {y : Value} (h : RV w ρ D Z (.tup cs) y) : ∃ c, y = .tuple c ∧ cs.length = c.size ∧ ∀ i, i < cs.length → RV w ρ D Z (cs.getD i .junk) (c.getD i undef) := by
  generalize hb : AV.tup cs = b at h
  cases h with
  | tup hl h => cases hb; exact ⟨_, rfl, hl, h⟩
  | dead _ ha => subst hb; simp [AV.idOf] at ha
  | _ => cases hb
theorem RV.ptr_inv {id sz i j : Nat} {y : Value} (h : RV w ρ D Z (.ptr id sz i j) y) : D id ∨ ∃ g, ρ id = some g ∧ y = .pointer (some ⟨g, i * sz + j, none⟩) := by
  generalize hb : AV.ptr id sz i j = b at h
  cases h with
  | ptr hr => cases hb; exact .inr ⟨_, hr, rfl⟩
  | dead _ ha hd => subst hb; simp [AV.idOf] at ha; subst ha; exact .inl hd
  | _ => cases hb
theorem RV.sl_inv {id sz off len : Nat} {y : Value} (h : RV w ρ D Z (.sl id sz off len) y) : D id ∨ ∃ g cap, ρ id = some g ∧ y = .slice (some ⟨g, off * sz, none⟩) len cap ∧
    (∃ c e fr, w.heap[g]? = some (.cells c e fr) ∧ (off + cap) * sz ≤ c.size) ∧ len ≤ cap ∧ cap ≤ maxLen := by
  generalize hb : AV.sl id sz off len = b at h
  cases h with
  | sl hr hc hl hm => cases hb; exact .inr ⟨_, _, hr, rfl, hc, hl, hm⟩
  | dead _ ha hd => subst hb; simp [AV.idOf] at ha; subst ha; exact .inl hd
  | _ => cases hb
theorem RV.map_inv {id : Nat} {y : Value} (h : RV w ρ D Z (.map id) y) : D id ∨ ∃ g, ρ id = some g ∧ y = .map (some g) := by
  generalize hb : AV.map id = b at h
  cases h with
  | map hr => cases hb; exact .inr ⟨_, hr, rfl⟩
  | dead _ ha hd => subst hb; simp [AV.idOf] at ha; subst ha; exact .inl hd
  | _ => cases hb
theorem RV.fsl_inv {sz : Nat} {es : List AV} {y : Value} (h : RV w ρ D Z (.fsl sz es) y) : ∃ A cap, ∃ F : Nat → Nat → Value, y = .slice A es.length cap ∧ es.length ≤ cap ∧ cap ≤ maxLen ∧
    (∀ i, i < es.length → (es.getD i .junk).cells.length = sz) ∧
    (∀ i j, i < es.length → j < sz → ∃ a, A = some a ∧ Z a.block ∧ w.cell? (a.add (i * sz + j)) = some (F i j)) ∧ (∀ i j, i < es.length → j < sz → (F i j).oneCell' = true) ∧
    (∀ i j, i < es.length → j < sz → RV w ρ D Z ((es.getD i .junk).cellAt j) (F i j)) := by
  generalize hb : AV.fsl sz es = b at h
  cases h with
  | fsl F hl hm hs hA h1 h => cases hb; exact ⟨_, _, F, rfl, hl, hm, hs, hA, h1, h⟩
  | dead _ ha => subst hb; simp [AV.idOf] at ha
  | _ => cases hb
theorem RV.fptr_inv {cs : List AV} {y : Value} (h : RV w ρ D Z (.fptr cs) y) : ∃ a, ∃ F : Nat → Value, y = .pointer (some a) ∧ Z a.block ∧ (∀ j, j < cs.length → w.cell? (a.add j) = some (F j)) ∧
    (∀ j, j < cs.length → RV w ρ D Z (cs.getD j .junk) (F j)) := by
  generalize hb : AV.fptr cs = b at h
  cases h with
  | fptr F hz hA h => cases hb; exact ⟨_, F, rfl, hz, hA, h⟩
  | dead _ ha => subst hb; simp [AV.idOf] at ha
  | _ => cases hb
theorem RV.fmap_inv {ks vs : List AV} {y : Value} (h : RV w ρ D Z (.fmap ks vs) y) : ∃ g clock ents, y = .map (some g) ∧ Z g ∧ w.heap[g]? = some (.map ents clock) ∧ Stamps ents clock ∧ ents.size = ks.length ∧ vs.length = ks.length ∧
    (∀ i, i < ks.length → RV w ρ D Z (ks.getD i .junk) (ents.getD i default).key) ∧ (∀ i, i < ks.length → RV w ρ D Z (vs.getD i .junk) (ents.getD i default).val) := by
  generalize hb : AV.fmap ks vs = b at h
  cases h with
  | fmap hz hh hs hl hl2 hk hv => cases hb; exact ⟨_, _, _, rfl, hz, hh, hs, hl, hl2, hk, hv⟩
  | dead _ ha => subst hb; simp [AV.idOf] at ha
  | _ => cases hb
theorem RV.clo_inv {fn : Fn} {fs cs : List AV} {y : Value} (h : RV w ρ D Z (.clo fn fs cs) y) : ∃ f c, y = .func fn f c ∧ fs.length = f.size ∧ (∀ i, i < fs.length → RV w ρ D Z (fs.getD i .junk) (f.getD i undef)) ∧
    cs.length = c.size ∧ (∀ i, i < cs.length → RV w ρ D Z (cs.getD i .junk) (c.getD i undef)) := by
  generalize hb : AV.clo fn fs cs = b at h
  cases h with
  | clo hf h1 hl h => cases hb; exact ⟨_, _, rfl, hf, h1, hl, h⟩
  | dead _ ha => subst hb; simp [AV.idOf] at ha
  | _ => cases hb
/-- A value of one cell is one. -/
theorem RV.one {a : AV} {y : Value} (ha : a.one = true) (h : RV w ρ D Z a y) : y.oneCell' = true := by
  cases h <;> first | rfl | exact ha | assumption | simp [AV.one] at ha
end

/-- A step of the world that keeps what values mean. -/
structure Step (w w' : World) (ρ ρ' : Nat → Option Nat) (D D' Z Z' : Nat → Prop) : Prop where
  rho : ∀ id g, ρ id = some g → ρ' id = some g ∨ D' id
  dead : ∀ id, D id → D' id
  z : ∀ k, Z k → Z' k
  zb : ∀ k, Z k → w'.heap[k]? = w.heap[k]?
  cap : ∀ id g c e fr, ρ id = some g → ρ' id = some g → w.heap[g]? = some (.cells c e fr) → ∃ c' e' fr', w'.heap[g]? = some (.cells c' e' fr') ∧ c.size ≤ c'.size

theorem Step.refl (w : World) (ρ : Nat → Option Nat) (D Z : Nat → Prop) : Step w w ρ ρ D D Z Z :=
  ⟨fun _ _ h => .inl h, fun _ h => h, fun _ h => h, fun _ _ => rfl, fun _ _ c e fr _ _ h => ⟨c, e, fr, h, Nat.le_refl _⟩⟩

theorem Step.cells {w w' : World} {ρ ρ' : Nat → Option Nat} {D D' Z Z' : Nat → Prop} (s : Step w w' ρ ρ' D D' Z Z') {a : Addr} {v : Value} (hz : Z a.block) (n : Nat) (h : w.cell? (a.add n) = some v) : w'.cell? (a.add n) = some v := by
  rw [← h]
  refine World.cell?_of_block (w := w) ?_
  have : (a.add n).block = a.block := by unfold Addr.add; split <;> rfl
  rw [this]
  exact s.zb _ hz

theorem RV.step {w w' : World} {ρ ρ' : Nat → Option Nat} {D D' Z Z' : Nat → Prop} (s : Step w w' ρ ρ' D D' Z Z') {a : AV} {x : Value} (h : RV w ρ D Z a x) : RV w' ρ' D' Z' a x := by
  induction h with
  | v x => exact .v x
  | junk x => exact .junk x
  | dead x ha hd h1 => exact .dead x ha (s.dead _ hd) h1
  | agg hl _ ih => exact .agg hl ih
  | tup hl _ ih => exact .tup hl ih
  | ptr hr =>
    rcases s.rho _ _ hr with h | h
    · exact .ptr h
    · exact .dead _ rfl h rfl
  | sl hr hc hl hm =>
    rcases s.rho _ _ hr with h | h
    · obtain ⟨c, e, fr, h1, h2⟩ := hc
      obtain ⟨c', e', fr', h3, h4⟩ := s.cap _ _ _ _ _ hr h h1
      exact .sl h ⟨c', e', fr', h3, Nat.le_trans h2 h4⟩ hl hm
    · exact .dead _ rfl h rfl
  | map hr =>
    rcases s.rho _ _ hr with h | h
    · exact .map h
    · exact .dead _ rfl h rfl
  | fsl F hl hm hs hA h1 _ ih =>
    refine .fsl F hl hm hs (fun i j hi hj => ?_) h1 ih
    obtain ⟨a, e, hz, hc⟩ := hA i j hi hj
    exact ⟨a, e, s.z _ hz, s.cells hz _ hc⟩
  | fptr F hz hA _ ih => exact .fptr F (s.z _ hz) (fun j hj => s.cells hz _ (hA j hj)) ih
  | fmap hz hh hs hl hl2 _ _ ih1 ih2 => exact .fmap (s.z _ hz) ((s.zb _ hz).trans hh) hs hl hl2 ih1 ih2
  | clo hf _ hl _ ih1 ih => exact .clo hf ih1 hl ih

/-- Numbers changed; those without a new one mean nothing any more. -/
def AV.renId (f : Nat → Option Nat) (id : Nat) (k : Nat → AV) : AV := match f id with | some i => k i | none => .junk
mutual
def AV.ren (f : Nat → Option Nat) : AV → AV
  | .v x => .v x
  | .agg cs => .agg (AV.renL f cs)
  | .tup cs => .tup (AV.renL f cs)
  | .ptr id sz i j => AV.renId f id fun id => .ptr id sz i j
  | .sl id sz o n => AV.renId f id fun id => .sl id sz o n
  | .map id => AV.renId f id fun id => .map id
  | .fsl sz es => .fsl sz (AV.renL f es)
  | .fptr cs => .fptr (AV.renL f cs)
  | .fmap ks vs => .fmap (AV.renL f ks) (AV.renL f vs)
  | .clo fn fs cs => .clo fn (AV.renL f fs) (AV.renL f cs)
  | .junk => .junk
def AV.renL (f : Nat → Option Nat) : List AV → List AV
  | [] => []
  | a :: l => a.ren f :: AV.renL f l
end
theorem AV.renL_eq (f : Nat → Option Nat) (l : List AV) : AV.renL f l = l.map (AV.ren f) := by
  induction l with
  | nil => rfl
  | cons a l ih => simp [AV.renL, ih]
theorem AV.renL_getD (f : Nat → Option Nat) (l : List AV) (i : Nat) : (AV.renL f l).getD i .junk = (l.getD i .junk).ren f := by
  rw [AV.renL_eq, List.getD_eq_getElem?_getD, List.getD_eq_getElem?_getD, List.getElem?_map]
  cases l[i]? <;> rfl
theorem AV.renL_length (f : Nat → Option Nat) (l : List AV) : (AV.renL f l).length = l.length := by rw [AV.renL_eq]; simp
theorem AV.cells_ren (f : Nat → Option Nat) (a : AV) : (a.ren f).cells = AV.renL f a.cells := by
  cases a <;> simp only [AV.ren, AV.cells, AV.renL] <;> (unfold AV.renId; cases f _ <;> rfl)
theorem AV.cellAt_ren (f : Nat → Option Nat) (a : AV) (j : Nat) : (a.ren f).cellAt j = (a.cellAt j).ren f := by
  unfold AV.cellAt
  rw [AV.cells_ren, AV.renL_getD]

theorem RV.ren {w : World} {ρ ρ' : Nat → Option Nat} {D D' Z : Nat → Prop} (f : Nat → Option Nat)
    (hρ : ∀ id i g, f id = some i → ρ id = some g → ρ' i = some g) (hD : ∀ id i, f id = some i → D id → D' i)
    {a : AV} {x : Value} (h : RV w ρ D Z a x) : RV w ρ' D' Z (a.ren f) x := by
  induction h with
  | v x => exact .v x
  | junk x => exact .junk x
  | @dead a id x ha hd h1 =>
    cases hf : f id with
    | none =>
      cases a <;> simp only [AV.idOf, Option.some.injEq, reduceCtorEq] at ha <;> (subst ha; simp only [AV.ren, AV.renId, hf]; exact .junk x)
    | some i =>
      refine .dead (id := i) x ?_ (hD _ _ hf hd) h1
      cases a <;> simp only [AV.idOf, Option.some.injEq, reduceCtorEq] at ha <;> (subst ha; simp only [AV.ren, AV.renId, hf, AV.idOf])
  | agg hl _ ih =>
    simp only [AV.ren]
    exact .agg (by rw [AV.renL_length, hl]) (fun i hi => by rw [AV.renL_getD]; exact ih i (by rwa [AV.renL_length] at hi))
  | tup hl _ ih =>
    simp only [AV.ren]
    exact .tup (by rw [AV.renL_length, hl]) (fun i hi => by rw [AV.renL_getD]; exact ih i (by rwa [AV.renL_length] at hi))
  | @ptr id sz i j g hr =>
    simp only [AV.ren, AV.renId]
    cases hf : f id with
    | none => exact .junk _
    | some i' => exact .ptr (hρ _ _ _ hf hr)
  | @sl id sz off len g cap hr hc hl hm =>
    simp only [AV.ren, AV.renId]
    cases hf : f id with
    | none => exact .junk _
    | some i' => exact .sl (hρ _ _ _ hf hr) hc hl hm
  | @map id g hr =>
    simp only [AV.ren, AV.renId]
    cases hf : f id with
    | none => exact .junk _
    | some i' => exact .map (hρ _ _ _ hf hr)
  | @fsl sz cap es A F hl hm hs hA h1 _ ih =>
    simp only [AV.ren]
    have e : es.length = (AV.renL f es).length := (AV.renL_length f es).symm
    rw [e]
    refine .fsl F (by rw [← e]; exact hl) hm (fun i hi => ?_) (fun i j hi hj => hA i j (by rwa [← e] at hi) hj) (fun i j hi hj => h1 i j (by rwa [← e] at hi) hj) (fun i j hi hj => ?_)
    · rw [AV.renL_getD, AV.cells_ren, AV.renL_length]; exact hs i (by rwa [← e] at hi)
    · rw [AV.renL_getD, AV.cellAt_ren]; exact ih i j (by rwa [← e] at hi) hj
  | @fptr cs a F hz hA _ ih =>
    simp only [AV.ren]
    exact .fptr F hz (fun j hj => hA j (by rwa [AV.renL_length] at hj)) (fun j hj => by rw [AV.renL_getD]; exact ih j (by rwa [AV.renL_length] at hj))
  | fmap hz hh hs hl hl2 _ _ ih1 ih2 =>
    simp only [AV.ren]
    exact .fmap hz hh hs (by rw [AV.renL_length, hl]) (by rw [AV.renL_length, AV.renL_length, hl2]) (fun i hi => by rw [AV.renL_getD]; exact ih1 i (by rwa [AV.renL_length] at hi)) (fun i hi => by rw [AV.renL_getD]; exact ih2 i (by rwa [AV.renL_length] at hi))
  | clo hf _ hl _ ih1 ih =>
    simp only [AV.ren]
    exact .clo (by rw [AV.renL_length, hf]) (fun i hi => by rw [AV.renL_getD]; exact ih1 i (by rwa [AV.renL_length] at hi))
      (by rw [AV.renL_length, hl]) (fun i hi => by rw [AV.renL_getD]; exact ih i (by rwa [AV.renL_length] at hi))

/-- No numbers in it: the value says the same wherever the live blocks lie. -/
def Free (a : AV) : Prop := ∀ f, a.ren f = a
theorem RV.free {w : World} {ρ ρ' : Nat → Option Nat} {D D' Z : Nat → Prop} {a : AV} {x : Value} (hf : Free a) (h : RV w ρ D Z a x) : RV w ρ' D' Z a x := by
  have := RV.ren (ρ' := ρ') (D' := D') (fun _ => none) (fun _ _ _ h => by cases h) (fun _ _ h => by cases h) h
  rwa [hf] at this
end Pm
end Go.Proofs.YtdgoompjoeffcaaGreat
/- PM, part W: the package variables that the row lists, told whole, and those of which it is known alone that they hold an interface's value. -/
namespace Go.Proofs.YtdgoompjoeffcaaGreat
namespace Pm
/-- The cells of a package variable that nobody writes. -/
def glA (_ : Nat) : Option (List Value) := none
/-- Variables that hold an interface's value. -/
def glE (_ : Nat) : Bool := false
/-- They hold in the world. -/
structure Gl (w : World) (Z : Nat → Prop) : Prop where
  a : ∀ g cs, glA g = some cs → Z g ∧ ∃ t fr, w.heap[g]? = some (.cells cs.toArray t fr)
  e : ∀ g, glE g = true → Z g ∧ ∃ ev, w.cell? ⟨g, 0, none⟩ = some ev ∧ (ev = .nilIface ∨ ∃ t p, ev = .iface t p)
theorem add_zero_plain (g j : Nat) : (Addr.add ⟨g, 0, none⟩ j) = ⟨g, j, none⟩ := by simp [Addr.add]; exact fun h => h.symm
theorem Gl.cell {w : World} {Z : Nat → Prop} (h : Gl w Z) {g : Nat} {cs : List Value} (hg : glA g = some cs) {j : Nat} (hj : j < cs.length) : w.cell? ⟨g, j, none⟩ = some (cs.getD j undef) := by
  obtain ⟨_, t, fr, hh⟩ := h.a g cs hg
  simp [World.cell?, hh, List.getD_eq_getElem?_getD, hj]
theorem Gl.step {w w' : World} {ρ ρ' : Nat → Option Nat} {D D' Z Z' : Nat → Prop} (s : Step w w' ρ ρ' D D' Z Z') (h : Gl w Z) : Gl w' Z' where
  a g cs hg := by
    obtain ⟨h1, t, fr, h2⟩ := h.a g cs hg
    exact ⟨s.z g h1, t, fr, (s.zb g h1).trans h2⟩
  e g hg := by
    obtain ⟨h1, ev, h2, h3⟩ := h.e g hg
    refine ⟨s.z g h1, ev, ?_, h3⟩
    have := s.cells (a := ⟨g, 0, none⟩) h1 0 (v := ev) (by rw [add_zero_plain]; exact h2)
    rwa [add_zero_plain] at this
theorem Gl.weaken {w : World} {Z Z' : Nat → Prop} (h : Gl w Z) (hz : ∀ k, Z k → Z' k) : Gl w Z' where
  a g cs hg := ⟨hz g (h.a g cs hg).1, (h.a g cs hg).2⟩
  e g hg := ⟨hz g (h.e g hg).1, (h.e g hg).2⟩
theorem Gl.rv {w : World} {ρ : Nat → Option Nat} {D Z : Nat → Prop} (h : Gl w Z) {g : Nat} {cs : List Value} (hg : glA g = some cs) : RV w ρ D Z (.fptr (cs.map .v)) (.pointer (some ⟨g, 0, none⟩)) := by
  refine .fptr (fun j => cs.getD j undef) (h.a g cs hg).1 (fun j hj => ?_) (fun j hj => ?_)
  · rw [add_zero_plain]; exact h.cell hg (by simpa using hj)
  · have hj' : j < cs.length := by simpa using hj
    rw [show (cs.map AV.v).getD j .junk = .v (cs.getD j undef) by simp [List.getD_eq_getElem?_getD, hj']]
    exact .v _
end Pm
end Go.Proofs.YtdgoompjoeffcaaGreat
