/-
  A slice of Ops that came in.
-/
import Derived.Test.YtgdlfihiheeniaaWireStep3
import Derived.Deep.SlicePairs
import Derived.WalkKit
import Derived.OpenShut
namespace Go.Proofs.Ytgdlfihiheeniaa
open Go.RowKit Go.Deep Go.WideShapes Go.ChangeShapes

/-- The Ops ks lie behind the address A. -/
def ORow (w : World) (A : Option Addr) (ks : List (Int × Int)) : Prop :=
  0 < ks.length → ∃ b o, A = some ⟨b, o, none⟩ ∧ b < w.heap.size ∧ ∀ j (h : j < ks.length), w.cell? ⟨b, o + j * 2, none⟩ = some (.int .i64 ks[j].1) ∧ w.cell? ⟨b, o + (j * 2 + 1), none⟩ = some (.int .i64 ks[j].2)
def OpsIn (w : World) (v : Value) : Prop := ∃ A c ks, v = .slice A (List.length ks) c ∧ ORow w A ks ∧ (∀ k ∈ ks, k.2 ≤ 9223372036854775807) ∧ ks.length ≤ c ∧ c ≤ maxLen
theorem ORow.below {w w' : World} {A : Option Addr} {ks : List (Int × Int)} (h : ORow w A ks) (hb : Below w.heap.size w w') : ORow w' A ks := fun hl => by
  obtain ⟨b, o, e, hlt, hc⟩ := h hl
  exact ⟨b, o, e, Nat.lt_of_lt_of_le hlt hb.size, fun j hj => ⟨(hb.cell (p := ⟨b, o + j * 2, none⟩) hlt).trans (hc j hj).1, (hb.cell (p := ⟨b, o + (j * 2 + 1), none⟩) hlt).trans (hc j hj).2⟩⟩

theorem ops_in {H : Type} {enc : TypeId × Value → H} {w : World} {base : Nat} {v : Value} {d : DataW H} {p : List MemPlace}
    (hv : Value.okWide Try.prog w .any base 53 v) (h : DataW.Trod enc Try.prog w 0 (fun _ => true) true 53 v d p) : OpsIn w v := by
  obtain ⟨a0, len0, cap0, rfl⟩ := okWide_slice Try.underlying53 hv
  obtain ⟨fuel, hf⟩ := h
  rcases open_slice_pairs Try.underlying53 Try.underlying57 (by kernel_rfl) rfl rfl (by kernel_rfl) (by kernel_rfl) hf with ⟨hcs, _⟩ | ⟨a, len, cap, m, n, V0, V1, D0, D1, P0, P1, hcs, _, hl, hm, hmm, _, hr⟩
  · simp [Value.cells] at hcs
    obtain ⟨rfl, rfl, rfl⟩ := hcs
    exact ⟨none, 0, [], rfl, fun h => absurd h (by simp), by simp, by simp, Nat.zero_le _⟩
  · simp [Value.cells] at hcs
    obtain ⟨rfl, rfl, rfl⟩ := hcs
    simp only [if_true] at hmm
    subst hmm
    have each : ∀ i, i < len0 → ∃ k : Int × Int, w.cell? (a.add (i * 2)) = some (.int .i64 k.1) ∧ w.cell? (a.add (i * 2 + 1)) = some (.int .i64 k.2) ∧ k.2 ≤ 9223372036854775807 := by
      intro i hi
      obtain ⟨h1, h2, h3, h4⟩ := hr i (by omega)
      obtain ⟨x, hx, _, _⟩ := DataW.trod_int Try.underlying3 h3
      obtain ⟨y, hy, _, hw⟩ := DataW.trod_int Try.underlying3 h4
      simp only [List.cons.injEq, and_true] at hx hy
      rw [hx] at h1
      rw [hy] at h2
      refine ⟨(x, y), h1, h2, ?_⟩
      simp [Lit.wf, IntKind.min, IntKind.max, IntKind.signed, IntKind.bits] at hw
      exact hw.2
    obtain ⟨f, hfl⟩ := choose_lt each
    refine ⟨some a, m, (List.range len0).map f, by simp, fun hpos => ?_, ?_, by simpa using hl, hm⟩
    · have hpos' : 0 < len0 := by simpa using hpos
      have h0 := (hfl 0 hpos').1
      obtain ⟨b, o, sp⟩ := a
      have hsp : sp = none := by simpa [Addr.add] using World.cell?_spot h0
      subst hsp
      refine ⟨b, o, rfl, World.block_lt_of_cell? w _ h0, fun j hj => ?_⟩
      have hj' : j < len0 := by simpa using hj
      have := hfl j hj'
      rw [Addr.add_lit, Addr.add_lit] at this
      simpa using ⟨this.1, this.2.1⟩
    · intro k hk
      obtain ⟨r, hr', rfl⟩ := List.mem_map.1 hk
      exact (hfl r (List.mem_range.1 hr')).2.2
end Go.Proofs.Ytgdlfihiheeniaa
