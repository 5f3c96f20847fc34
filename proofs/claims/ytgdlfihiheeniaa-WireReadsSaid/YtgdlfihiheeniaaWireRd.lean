/-
  The contracts of wire.Reader's methods, of a reader that is one.
-/
import Derived.Test.YtgdlfihiheeniaaWireNum
namespace Go.Proofs.Ytgdlfihiheeniaa
open Go.RowKit

/-- Block g is a reader: what is left and the error. -/
def RD (w : World) (g : Nat) (r : Wire.RS) : Prop :=
  ∃ A c, w.heap[g]? = some (.cells #[.slice A r.l.length c, .int .i64 r.e] 70 (0, 0)) ∧ BRow w A r.l ∧ r.l.length ≤ c ∧ c ≤ 9223372036854775807
/-- What a method of a reader does: it answers v, leaves the reader r, and turns no other block. -/
def Did (w : World) (g : Nat) (v : Value) (r : Wire.RS) (e : Ending) (w' : World) : Prop := e = .returned v ∧ RD w' g r ∧ w.grownBy w' (some g)

section
variable {w w' : World} {g : Nat} {r : Wire.RS}
theorem RD.lt (h : RD w g r) : g < w.heap.size := by
  obtain ⟨A, c, hg, _⟩ := h
  exact (Array.getElem?_eq_some_iff.1 hg).1
theorem RD.below (h : RD w g r) (hb : Below w.heap.size w w') : RD w' g r := by
  have hlt := h.lt
  obtain ⟨A, c, hg, hr, h1, h2⟩ := h
  exact ⟨A, c, (hb.block g hlt).trans hg, hr.below hb, h1, h2⟩
theorem RD.drew (h : RD w g r) : RD w.drew g r := h
/-- The bytes lie in another block than the reader. -/
theorem row_ne {A A' : Option Addr} {n c : Nat} {e : Int} {t : TypeId} {l : List UInt8} (hg : w.heap[g]? = some (.cells #[.slice A' n c, .int .i64 e] t (0, 0))) (hr : BRow w A l) (hl : 0 < l.length) : ∀ a, A = some a → a.block ≠ g := by
  intro a ha hb
  obtain ⟨b, o, e1, _, hc⟩ := hr (by simpa using hl)
  rw [ha] at e1
  obtain rfl := Option.some.inj e1
  simp only at hb
  subst hb
  have := hc 0 (by simpa using hl)
  rw [cell_of_row w b (o + 0) _ t (0, 0) hg] at this
  match o, this with
  | 0, h => simp [bv] at h
  | 1, h => simp [bv] at h
  | o + 2, h => simp [bv] at h
theorem row_far {A A' : Option Addr} {n c : Nat} {e : Int} {t : TypeId} {l : List UInt8} (hg : w.heap[g]? = some (.cells #[.slice A' n c, .int .i64 e] t (0, 0))) (hr : BRow w A l) (i : Nat) (u : Value) : BRow (w.setCell ⟨g, i, none⟩ u) A l := by
  cases l with
  | nil => exact BRow.nil
  | cons x l => exact hr.far (row_ne hg hr (by simp)) u
theorem set_heap {cs : Array Value} {t : TypeId} (hg : w.heap[g]? = some (.cells cs t (0, 0))) (i : Nat) (u : Value) : (w.setCell ⟨g, i, none⟩ u).heap[g]? = some (.cells (cs.setIfInBounds i u) t (0, 0)) := heap_setCell_same w g i cs t u hg
theorem set_grown (w : World) (g i : Nat) (u : Value) : w.grownBy (w.setCell ⟨g, i, none⟩ u) (some g) :=
  ⟨rfl, rfl, rfl, by simp, fun k _ hk => heap_setCell_other w ⟨g, i, none⟩ k u (fun e => hk (by rw [e]))⟩
/-- The error is written. -/
theorem RD.err {A : Option Addr} {c : Nat} {l : List UInt8} {e : Int} (hg : w.heap[g]? = some (.cells #[.slice A l.length c, .int .i64 e] 70 (0, 0))) (hr : BRow w A l) (h1 : l.length ≤ c) (h2 : c ≤ 9223372036854775807) (e' : Int) :
    RD (w.setCell ⟨g, 1, none⟩ (.int .i64 e')) g ⟨l, e'⟩ :=
  ⟨A, c, by rw [set_heap hg]; simp, row_far hg hr _ _, h1, h2⟩
/-- The bytes that are left are written. -/
theorem RD.rest {A A' : Option Addr} {n c c' : Nat} {l' : List UInt8} {e : Int} (hg : w.heap[g]? = some (.cells #[.slice A n c, .int .i64 e] 70 (0, 0))) (hr : BRow w A' l') (h1 : l'.length ≤ c') (h2 : c' ≤ 9223372036854775807) :
    RD (w.setCell ⟨g, 0, none⟩ (.slice A' l'.length c')) g ⟨l', e⟩ :=
  ⟨A', c', by rw [set_heap hg]; simp, row_far hg hr _ _, h1, h2⟩
/-- Both are written, the bytes first. -/
theorem RD.both {A A' : Option Addr} {n c c' : Nat} {l' : List UInt8} {e : Int} (hg : w.heap[g]? = some (.cells #[.slice A n c, .int .i64 e] 70 (0, 0))) (hr : BRow w A' l') (h1 : l'.length ≤ c') (h2 : c' ≤ 9223372036854775807) (e' : Int) :
    RD ((w.setCell ⟨g, 0, none⟩ (.slice A' l'.length c')).setCell ⟨g, 1, none⟩ (.int .i64 e')) g ⟨l', e'⟩ := by
  have hg' : (w.setCell ⟨g, 0, none⟩ (.slice A' l'.length c')).heap[g]? = some (.cells #[.slice A' l'.length c', .int .i64 e] 70 (0, 0)) := by rw [set_heap hg]; simp
  exact RD.err hg' (row_far hg hr _ _) h1 h2 e'
theorem RD.cut {A A' : Option Addr} {n c c' k : Nat} {l : List UInt8} {e : Int} (hg : w.heap[g]? = some (.cells #[.slice A n c, .int .i64 e] 70 (0, 0))) (hr : BRow w A' (l.drop k)) (h1 : l.length - k ≤ c') (h2 : c' ≤ 9223372036854775807) :
    RD (w.setCell ⟨g, 0, none⟩ (.slice A' (l.length - k) c')) g ⟨l.drop k, e⟩ := by
  have := RD.rest (l' := l.drop k) hg hr (by rw [List.length_drop]; exact h1) h2
  rwa [List.length_drop] at this
/-- Where a cut of a row lies. -/
theorem row_cut {b o k : Nat} {l : List UInt8} (h : BRow w (some ⟨b, o, none⟩) l) : BRow w (some ⟨b, o + k, none⟩) (l.drop k) := by
  have := h.drop k
  simpa [Addr.add_lit] using this
theorem row_end {A : Option Addr} {k : Nat} {l : List UInt8} (h : l.length ≤ k) : BRow w A (l.drop k) := by
  rw [List.drop_eq_nil_of_le h]; exact BRow.nil
theorem grown_trans {a b c : World} {row : Option Nat} (h : a.grownBy b row) (k : b.grownBy c row) : a.grownBy c row :=
  ⟨k.os.trans h.os, k.tape.trans h.tape, k.output.trans h.output, Nat.le_trans h.size k.size, fun i hi hn => (k.block i (Nat.lt_of_lt_of_le hi h.size) hn).trans (h.block i hi hn)⟩
theorem grown_drew {a b : World} {row : Option Nat} (h : a.grownBy b row) : a.grownBy b.drew row := ⟨h.os, h.tape, h.output, h.size, h.block⟩
end

set_option maxHeartbeats 400000 in
theorem rerr_any (w : World) (g : Nat) (r : Wire.RS) (h : RD w g r) : Calls Try.prog 28 #[.pointer (some ⟨g, 0, none⟩)] w fun e w' => e = .returned (.int .i64 r.e) ∧ w = w' := by
  obtain ⟨A, c, hg, hr, h1, h2⟩ := h
  have c1 : w.cell? ⟨g, 1, none⟩ = some (.int .i64 r.e) := by rw [cell_of_row w g 1 _ _ _ hg]; rfl
  clear hg
  go_enter Try.func28, Try.ntmps28
  go_wp2_with fail
  go_ret
  exact ⟨rfl, rfl⟩
set_option maxHeartbeats 400000 in
theorem rerr_nil (w : World) : Calls Try.prog 28 #[.pointer none] w fun e w' => e = .returned (.int .i64 1) ∧ w = w' := by
  go_enter Try.func28, Try.ntmps28
  go_wp2_with fail
  go_ret
  exact ⟨rfl, rfl⟩
set_option maxHeartbeats 400000 in
theorem rleft_any (w : World) (g : Nat) (r : Wire.RS) (h : RD w g r) : Calls Try.prog 27 #[.pointer (some ⟨g, 0, none⟩)] w fun e w' => e = .returned (.int .i64 (r.l.length : Nat)) ∧ w = w' := by
  obtain ⟨A, c, hg, hr, h1, h2⟩ := h
  have c0 : w.cell? ⟨g, 0, none⟩ = some (.slice A r.l.length c) := by rw [cell_of_row w g 0 _ _ _ hg]; rfl
  clear hg
  go_enter Try.func27, Try.ntmps27
  go_wp2_with fail
  go_ret
  exact ⟨rfl, rfl⟩
set_option maxHeartbeats 400000 in
theorem rleft_nil (w : World) : Calls Try.prog 27 #[.pointer none] w fun e w' => e = .returned (.int .i64 0) ∧ w = w' := by
  go_enter Try.func27, Try.ntmps27
  go_wp2_with fail
  go_ret
  exact ⟨rfl, rfl⟩
set_option maxHeartbeats 400000 in
theorem rfail_any (w : World) (g : Nat) (A : Option Addr) (c : Nat) (l : List UInt8) (e e' : Int) (hg : w.heap[g]? = some (.cells #[.slice A l.length c, .int .i64 e] 70 (0, 0))) (hr : BRow w A l) (h1 : l.length ≤ c) (h2 : c ≤ 9223372036854775807) :
    Calls Try.prog 41 #[.pointer (some ⟨g, 0, none⟩), .int .i64 e'] w (Did w g (.int .u64 0) ⟨l, e'⟩) := by
  have c1 : w.cell? ⟨g, 1, none⟩ = some (.int .i64 e) := by rw [cell_of_row w g 1 _ _ _ hg]; rfl
  have f1 : w.frozen? ⟨g, 1, none⟩ = false := frozen_of_row w g 1 _ _ hg
  have HG := Lib.hid hg
  clear hg
  go_enter Try.func41, Try.ntmps41
  go_wp2_with fail
  go_ret
  exact ⟨rfl, RD.err HG.out hr h1 h2 e', set_grown _ _ _ _⟩
end Go.Proofs.Ytgdlfihiheeniaa
