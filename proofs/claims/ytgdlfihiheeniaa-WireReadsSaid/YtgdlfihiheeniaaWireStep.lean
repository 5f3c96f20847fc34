/-
  The contract of dowserlaw01.step.
-/
import Derived.Test.YtgdlfihiheeniaaWireTl
import Derived.Test.YtgdlfihiheeniaaWireRead
namespace Go.Proofs.Ytgdlfihiheeniaa
open Go.RowKit

/-- An operation that writes memory and has no value. -/
theorem opDoes_skip {P : Program} {Q : Exit → Act → World → Prop} {l : List Oper} {o : Oper} {a : Act} {w w' : World} {T : Value → World → Prop} (hg : o.guard = none) (hr : (execOp a.eval o).run P w = .ok .skip w') (h : T undef w') : opDoes P l o Q a w T :=
  opDoes_plain hg fun K hK => by
    unfold Oper.wp
    rw [hr]
    exact hK _ _ h

/-- What a reader does at one thing of a script. -/
def Wire.turn (j : Nat) (most : Int) (r : Wire.RS) : Wire.RS :=
  match j with
  | 0 => (Wire.take r).1
  | 1 => (Wire.takeInt r).1
  | 2 => (Wire.count r most).1
  | 3 => (Wire.takeText r most).1
  | 4 => (Wire.takeBool r).1
  | 5 => Wire.fin r
  | _ => Wire.fail r 8
/-- An Op, by value. -/
def opv (k m : Int) : Value := .agg #[.int .i64 k, .int .i64 m]
def Stepped (w : World) (g : Nat) (r : Wire.RS) (e : Ending) (w' : World) : Prop := e = .returned (.tuple #[rv r, .bool true]) ∧ RD w' g r ∧ w.grownBy w' (some g)

theorem grown_set {w a : World} {g : Option Nat} (h : w.grownBy a g) (p : Addr) (hp : w.heap.size ≤ p.block) (u : Value) : w.grownBy (a.setCell p u) g :=
  ⟨h.os, h.tape, h.output, by simpa using h.size, fun k hk hn => (heap_setCell_other a p k u (by omega)).trans (h.block k hk hn)⟩
theorem grown_below {w a b : World} {g : Option Nat} (h : w.grownBy a g) (hb : Below a.heap.size a b) : w.grownBy b g :=
  ⟨hb.os.trans h.os, hb.tape.trans h.tape, hb.output.trans h.output, Nat.le_trans h.size hb.size, fun k hk hn => (hb.block k (Nat.lt_of_lt_of_le hk h.size)).trans (h.block k hk hn)⟩

/-- Three new blocks of two cells each, behind a call. -/
theorem three_cells {w w1 : World} {a b c d x y : Value} {t u v : TypeId}
    (hb : Below (((w.alloc (.cells #[a, b] t)).alloc (.cells #[c, d] u)).alloc (.cells #[x, y] v)).heap.size (((w.alloc (.cells #[a, b] t)).alloc (.cells #[c, d] u)).alloc (.cells #[x, y] v)) w1) :
    w1.heap[w.heap.size]? = some (.cells #[a, b] t (0, 0)) ∧ w1.heap[w.heap.size + 1]? = some (.cells #[c, d] u (0, 0)) ∧ w1.heap[w.heap.size + 1 + 1]? = some (.cells #[x, y] v (0, 0)) ∧
    w.heap.size + 3 ≤ w1.heap.size ∧ Below w.heap.size w w1 := by
  have hs := hb.size
  have hs2 : w.heap.size + 3 ≤ w1.heap.size := by simpa using hs
  have h3 : Below w.heap.size w (((w.alloc (.cells #[a, b] t)).alloc (.cells #[c, d] u)).alloc (.cells #[x, y] v)) := (((Below.refl _ _).alloc (Nat.le_refl _) _).alloc (by simp) _).alloc (by simp; omega) _
  refine ⟨?_, ?_, ?_, hs2, h3.trans (hb.mono h3.size)⟩
  · rw [hb.block w.heap.size (by simp; omega)]
    show (((w.heap.push _).push _).push _)[w.heap.size]? = _
    rw [Array.getElem?_push_lt (by simp; omega), ← Array.getElem?_eq_getElem, Array.getElem?_push_lt (by simp), ← Array.getElem?_eq_getElem, Array.getElem?_push_size]
  · rw [hb.block (w.heap.size + 1) (by simp)]
    show (((w.heap.push _).push _).push _)[w.heap.size + 1]? = _
    rw [Array.getElem?_push_lt (by simp), ← Array.getElem?_eq_getElem, show w.heap.size + 1 = (w.heap.push (Obj.cells #[a, b] t)).size from by simp, Array.getElem?_push_size]
  · show w1.heap[w.heap.size + 2]? = _
    rw [hb.block (w.heap.size + 2) (by simp)]
    show (((w.heap.push _).push _).push _)[w.heap.size + 2]? = _
    rw [show w.heap.size + 2 = ((w.heap.push (Obj.cells #[a, b] t)).push (Obj.cells #[c, d] u)).size from by simp, Array.getElem?_push_size]

/-- A store to a block that holds a reader of the document's turns no reader. -/
theorem rd_store {w : World} {g b i : Nat} {r : Wire.RS} {s : ByteArray} {x : Int} {t : TypeId} (h : RD w g r) (hb : w.heap[b]? = some (.cells #[.string s, .int .i64 x] t (0, 0))) (hne : b ≠ g) (u : Value) : RD (w.setCell ⟨b, i, none⟩ u) g r := by
  obtain ⟨A, c, hg, hr, h1, h2⟩ := h
  refine ⟨A, c, (heap_setCell_other w ⟨b, i, none⟩ g u (fun e => hne e.symm)).trans hg, ?_, h1, h2⟩
  obtain ⟨l, e⟩ := r
  simp only at hr ⊢
  cases l with
  | nil => exact BRow.nil
  | cons y l =>
    refine hr.far (fun a ha hbb => ?_) u
    obtain ⟨b', o, e1, _, hc⟩ := hr (by simp)
    rw [ha] at e1
    obtain rfl := Option.some.inj e1
    simp only at hbb
    subst hbb
    have := hc 0 (by simp)
    rw [cell_of_row w b' (o + 0) _ t (0, 0) hb] at this
    match o, this with
    | 0, h => simp [bv] at h
    | 1, h => simp [bv] at h
    | o + 2, h => simp [bv] at h
/-- What is kept while step's region is carried out. -/
def Mid (w : World) (g a : Nat) (r : Wire.RS) (l1 : List UInt8) (e1 k m : Int) (cs : Array Value) (w' : World) : Prop :=
  w.grownBy w' (some g) ∧ RD w' g r ∧ w'.heap[w.heap.size + 1 + 1]? = some (.cells cs 55 (0, 0)) ∧ w'.heap[a]? = some (.cells #[.string ⟨l1.toArray⟩, .int .i64 e1] 55 (0, 0)) ∧
    w'.heap[w.heap.size + 1]? = some (.cells #[.int .i64 k, .int .i64 m] 57 (0, 0))
theorem step_start {w wA : World} {g : Nat} {r : Wire.RS} {l1 : List UInt8} {e1 k m : Int} {cs : Array Value} (_hgl : g < w.heap.size) (_hz : w.heap.size + 1 + 1 < wA.heap.size) (hG : w.grownBy wA (some g)) (hR : RD wA g r)
    (h1 : wA.heap[w.heap.size + 1]? = some (.cells #[.int .i64 k, .int .i64 m] 57 (0, 0))) (h2 : wA.heap[w.heap.size + 1 + 1]? = some (.cells cs 55 (0, 0))) :
    Mid w g wA.heap.size r l1 e1 k m cs (wA.alloc (.cells #[.string ⟨l1.toArray⟩, .int .i64 e1] 55)).drew := by
  have hb : Below wA.heap.size wA (wA.alloc (.cells #[.string ⟨l1.toArray⟩, .int .i64 e1] 55)).drew := ((Below.refl _ _).alloc (Nat.le_refl _) _).drew
  refine ⟨grown_below hG hb, hR.below hb, (hb.block _ (by omega)).trans h2, ?_, (hb.block _ (by omega)).trans h1⟩
  show (wA.heap.push _)[wA.heap.size]? = _
  simp
theorem step_call {w w1 w2 : World} {g a : Nat} {r r1 : Wire.RS} {l1 : List UInt8} {e1 k m : Int} {cs : Array Value} {v : Value} {e : Ending} (hgl : g < w.heap.size) (ha : w.heap.size < a) (h : Mid w g a r l1 e1 k m cs w1) (hx : Did w1 g v r1 e w2) :
    Mid w g a r1 l1 e1 k m cs w2 := by
  obtain ⟨h1, h2, h3, h4, h5⟩ := h
  have hlt : ∀ {b : Nat} {o : Obj}, w1.heap[b]? = some o → b < w1.heap.size := fun h => (Array.getElem?_eq_some_iff.1 h).1
  refine ⟨grown_trans h1 hx.2.2, hx.2.1, (hx.2.2.block _ (hlt h3) (by simp; omega)).trans h3, (hx.2.2.block _ (hlt h4) (by simp; omega)).trans h4, (hx.2.2.block _ (hlt h5) (by simp; omega)).trans h5⟩
theorem step_store {w w1 : World} {g a : Nat} {r : Wire.RS} {l1 : List UInt8} {e1 k m : Int} {s : ByteArray} {x : Int} (hgl : g < w.heap.size) (ha : w.heap.size + 1 + 1 < a) (s' : ByteArray) (x' : Int) (h : Mid w g a r l1 e1 k m #[.string s, .int .i64 x] w1) :
    Mid w g a r l1 e1 k m #[.string s', .int .i64 x'] ((w1.setCell ⟨w.heap.size + 1 + 1, 0, none⟩ (.string s')).setCell ⟨w.heap.size + 1 + 1, 1, none⟩ (.int .i64 x')) := by
  obtain ⟨h1, h2, h3, h4, h5⟩ := h
  have e1 := set_heap h3 0 (.string s')
  have e2 := set_heap e1 1 (.int .i64 x')
  have r1 := rd_store (i := 0) h2 h3 (by omega) (.string s')
  simp at e1
  have r2 := rd_store (i := 1) r1 e1 (by omega) (.int .i64 x')
  refine ⟨grown_set (grown_set h1 ⟨w.heap.size + 1 + 1, 0, none⟩ (by show w.heap.size ≤ w.heap.size + 1 + 1; omega) _) ⟨w.heap.size + 1 + 1, 1, none⟩ (by show w.heap.size ≤ w.heap.size + 1 + 1; omega) _, r2, by rw [e2]; simp, ?_, ?_⟩
  · rw [heap_setCell_other _ _ _ _ (by show a ≠ w.heap.size + 1 + 1; omega), heap_setCell_other _ _ _ _ (by show a ≠ w.heap.size + 1 + 1; omega)]
    exact h4
  · rw [heap_setCell_other _ _ _ _ (by show w.heap.size + 1 ≠ w.heap.size + 1 + 1; omega), heap_setCell_other _ _ _ _ (by show w.heap.size + 1 ≠ w.heap.size + 1 + 1; omega)]
    exact h5
end Go.Proofs.Ytgdlfihiheeniaa
