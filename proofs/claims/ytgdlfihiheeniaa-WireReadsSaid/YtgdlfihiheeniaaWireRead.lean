/-
  The contract of wire.Read, and those of wire.Reader's methods, of a nil reader.
-/
import Derived.Test.YtgdlfihiheeniaaWireRm
import Derived.Laws.CopyOwn
namespace Go.Proofs.Ytgdlfihiheeniaa
open Go.RowKit

/-- Block g is a reader, it and its bytes among the blocks from B on. -/
def ROwn (B : Nat) (w : World) (g : Nat) (r : Wire.RS) : Prop :=
  ∃ A c, w.heap[g]? = some (.cells #[.slice A r.l.length c, .int .i64 r.e] 70 (0, 0)) ∧ BRow w A r.l ∧ r.l.length ≤ c ∧ c ≤ 9223372036854775807 ∧ B ≤ g ∧ ∀ a, A = some a → B ≤ a.block
/-- What is answered is a new reader of the bytes. -/
def RetRd (W : World) (l : List UInt8) (e : Ending) (w' : World) : Prop :=
  ∃ g, e = .returned (.pointer (some ⟨g, 0, none⟩)) ∧ ROwn W.heap.size w' g ⟨l, 0⟩ ∧ Below W.heap.size W w'

section
variable {B : Nat} {w w' : World} {g : Nat} {r : Wire.RS}
theorem ROwn.rd (h : ROwn B w g r) : RD w g r := by
  obtain ⟨A, c, h1, h2, h3, h4, _⟩ := h
  exact ⟨A, c, h1, h2, h3, h4⟩
theorem ROwn.ge (h : ROwn B w g r) : B ≤ g := by
  obtain ⟨A, c, h1, h2, h3, h4, h5, _⟩ := h
  exact h5
/-- Blocks below B turn. -/
theorem ROwn.keep (h : ROwn B w g r) (hs : w.heap.size ≤ w'.heap.size) (hk : ∀ k, B ≤ k → k < w.heap.size → w'.heap[k]? = w.heap[k]?) : ROwn B w' g r := by
  have hlt := h.rd.lt
  obtain ⟨A, c, h1, h2, h3, h4, h5, h6⟩ := h
  refine ⟨A, c, (hk g h5 hlt).trans h1, ?_, h3, h4, h5, h6⟩
  intro hl
  obtain ⟨b, o, rfl, hb, hc⟩ := h2 hl
  exact ⟨b, o, rfl, by omega, fun j hj => (World.cell?_of_block (hk b (h6 _ rfl) hb)).trans (hc j hj)⟩
theorem ROwn.below (h : ROwn B w g r) (hb : Below w.heap.size w w') : ROwn B w' g r := h.keep hb.size fun k _ hk => hb.block k hk
theorem Did.below {v : Value} {e : Ending} (h : Did w g v r e w') {B : Nat} {w0 : World} (hb : Below B w0 w) (hB : B ≤ w.heap.size) (hg : B ≤ g) : Below B w0 w' :=
  hb.grown h.2.2 hB fun k hk => by simp at hk; omega
end

theorem did_row {w w' : World} {g : Nat} {r r' : Wire.RS} {v : Value} {e : Ending} {A : Option Addr} {l : List UInt8} (hrd : RD w g r) (hr : BRow w A l) (h : Did w g v r' e w') : BRow w' A l := by
  obtain ⟨A', c, hg, _⟩ := hrd
  exact row_grown hg hr h.2.2

theorem own_heap {w : World} {B g c : Nat} {l : List UInt8} (h : BOwn w B (some ⟨g, 0, none⟩) c l) (hc : c = l.length) : w.heap[g]? = some (.cells (l.map bv).toArray 5 (0, 0)) := by
  rcases h.2 with ⟨hv, h0⟩ | ⟨g', cap, cur, hv, hb, hg, hn, hm, hx⟩
  · simp at hv
  · simp only [Value.slice.injEq, Option.some.injEq, Addr.mk.injEq, true_and, and_true] at hv
    obtain ⟨rfl, rfl⟩ := hv
    subst hc
    rw [hg, ← hx.2, List.take_of_length_le (by simp; omega)]

theorem copy_src {w : World} {A : Option Addr} {l : List UInt8} (h : BRow w A l) (hl : 0 < (l.map bv).length) : ∃ ad, A = some ad ∧ ∀ j v, (l.map bv)[j]? = some v → w.cell? (ad.add j) = some v := by
  obtain ⟨b, o, rfl, _, hc⟩ := h hl
  refine ⟨_, rfl, fun j v hj => ?_⟩
  obtain ⟨h1, h2⟩ := List.getElem?_eq_some_iff.1 hj
  rw [Addr.add_lit, hc j h1, h2]
theorem splice_all {α : Type} (L cs : List α) (h : cs.length = L.length) : splice L 0 cs = cs := by
  simp [splice, h]

set_option maxRecDepth 20000 in
set_option maxHeartbeats 1000000 in
theorem wread_any (w : World) (A : Option Addr) (c : Nat) (l : List UInt8) (hr : BRow w A l) (hl : l.length ≤ 100000) :
    Calls Try.prog 24 #[.slice A l.length c] w (RetRd w l) := by
  obtain ⟨n, hn⟩ : ∃ n, l.length = n := ⟨_, rfl⟩
  rw [hn] at hl ⊢
  have HN := Lib.hid hn
  clear hn
  go_enter Try.func24, Try.ntmps24
  go_wp2_with (first
    | (at_make; refine wpList_make_zeros rfl (.tmp 5) (.tmp 5) rfl .i64 .i64 n n n rfl rfl rfl rfl (by omega) (Nat.le_refl _) ?_; intro w1 ho1 hb1)
    | (refine wpList_copy_splice (o := ⟨some 9, _, _, _, _, _⟩) rfl (.tmp 7) (.tmp 8) 25 25 rfl 5 Try.underlying25 (by kernel_rfl) _ _ _ _ _ _ rfl rfl w.heap.size 0 _ 5 (own_heap ho1 (by simp)) (l.map bv) (by rw [List.length_map, HN.out]; simp) (fun h => ⟨rfl, copy_src (hr.below hb1) h⟩) (by simp [HN.out]) (one_bytes l) w.heap.size w hb1 (Nat.le_refl _) ?_; intro w2 hg2 hb2))
  go_ret
  have hg := hg2.out
  rw [splice_all _ _ (by simp [HN.out])] at hg
  have hlt : w.heap.size < w2.heap.size := (Array.getElem?_eq_some_iff.1 hg).1
  have hrow : BRow w2 (some ⟨w.heap.size, 0, none⟩) l := fun _ => ⟨w.heap.size, 0, rfl, hlt, fun j hj => by
    rw [cell_of_row w2 w.heap.size (0 + j) _ _ _ hg]
    simp at hj
    simp [hj]⟩
  refine ⟨w2.heap.size, rfl, ⟨some ⟨w.heap.size, 0, none⟩, n, ?_, hrow.alloc _, by simp [HN.out], by omega, by omega, fun a ha => by cases ha; exact Nat.le_refl _⟩, hb2.alloc (by omega) _⟩
  rw [HN.out]
  show (w2.heap.push _)[w2.heap.size]? = _
  simp
set_option maxRecDepth 20000 in
set_option maxHeartbeats 400000 in
theorem rnum_nil (w : World) : Calls Try.prog 26 #[.pointer none] w fun e w' => e = .returned (.int .u64 0) ∧ w = w' := by
  go_enter Try.func26, Try.ntmps26
  go_wp2_with fail
  refine (rerr_nil w).mono ?_
  rintro e w1 ⟨rfl, rfl⟩
  go_wp2_with fail
  go_ret
  exact ⟨rfl, rfl⟩

set_option maxRecDepth 20000 in
set_option maxHeartbeats 400000 in
theorem rint_nil (w : World) : Calls Try.prog 35 #[.pointer none] w fun e w' => e = .returned (.int .i64 0) ∧ w = w' := by
  go_enter Try.func35, Try.ntmps35
  go_wp2_with fail
  refine (rnum_nil w).mono ?_
  rintro e w1 ⟨rfl, rfl⟩
  go_wp2_with fail
  go_ret
  exact ⟨rfl, rfl⟩

set_option maxRecDepth 20000 in
set_option maxHeartbeats 400000 in
theorem rcount_nil (w : World) (most : Int) : Calls Try.prog 36 #[.pointer none, .int .i64 most] w fun e w' => e = .returned (.int .i64 0) ∧ w = w' := by
  go_enter Try.func36, Try.ntmps36
  go_wp2_with fail
  refine (rerr_nil w).mono ?_
  rintro e w1 ⟨rfl, rfl⟩
  go_wp2_with fail
  go_ret
  exact ⟨rfl, rfl⟩

set_option maxRecDepth 20000 in
set_option maxHeartbeats 400000 in
theorem rtext_nil (w : World) (most : Int) : Calls Try.prog 30 #[.pointer none, .int .i64 most] w fun e w' => e = .returned (txt []) ∧ w = w' := by
  go_enter Try.func30, Try.ntmps30
  go_wp2_with fail
  refine (rerr_nil w).mono ?_
  rintro e w1 ⟨rfl, rfl⟩
  go_wp2_with fail
  go_ret
  exact ⟨rfl, rfl⟩

set_option maxRecDepth 20000 in
set_option maxHeartbeats 400000 in
theorem rbool_nil (w : World) : Calls Try.prog 37 #[.pointer none] w fun e w' => e = .returned (.bool false) ∧ w = w' := by
  go_enter Try.func37, Try.ntmps37
  go_wp2_with fail
  refine (rerr_nil w).mono ?_
  rintro e w1 ⟨rfl, rfl⟩
  go_wp2_with fail
  go_ret
  exact ⟨rfl, rfl⟩

set_option maxRecDepth 20000 in
set_option maxHeartbeats 400000 in
theorem rend_nil (w : World) : Calls Try.prog 32 #[.pointer none] w fun e w' => e = .returned (.int .i64 1) ∧ w = w' := by
  go_enter Try.func32, Try.ntmps32
  go_wp2_with fail
  refine (rerr_nil w).mono ?_
  rintro e w1 ⟨rfl, rfl⟩
  go_wp2_with fail
  refine (rerr_nil w).mono ?_
  rintro e w1 ⟨rfl, rfl⟩
  go_wp2_with fail
  go_ret
  exact ⟨rfl, rfl⟩

set_option maxRecDepth 20000 in
set_option maxHeartbeats 400000 in
theorem rFail_nil (w : World) (x : Int) : Calls Try.prog 34 #[.pointer none, .int .i64 x] w fun e w' => e = .returned (.tuple #[]) ∧ w = w' := by
  go_enter Try.func34, Try.ntmps34
  go_wp2_with fail
  go_end0
  exact ⟨rfl, rfl⟩
end Go.Proofs.Ytgdlfihiheeniaa
