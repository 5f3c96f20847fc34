/-
  Data that came in: rows of elements of any kind, bytes, numbers.
-/
import Derived.Test.YthbanhedjfpmaaaElems
import Derived.Deep.Slices
import Derived.Deep.SlicePairs
import Derived.OpenShut
import Derived.ChangeSlices
namespace Go.Proofs.Ythbanhedjfpmaaa
set_option linter.unusedSimpArgs false
set_option linter.unusedVariables false
open Go.RowKit Go.Deep Go.WideShapes Go.ChangeShapes

section
variable {H : Type} {enc : TypeId × Value → H} {w : World} {base : Nat} {spare : Nat → Bool} {held : Bool} {fuel : Nat} {cs : List Value} {x : DataW H × List MemPlace}
theorem open_elems {α : Type} [Inhabited α] (E : Elem α) (hce : Try.prog.cellsOf E.e = E.sz) (Deep : α → Prop)
    (hopen : ∀ fuel cs x, DataW.trod enc Try.prog w base spare held fuel E.e cs = some x → cs.length = E.sz → ∃ a, cs = E.code a ∧ Deep a)
    (h : DataW.trod enc Try.prog w base spare held fuel E.t cs = some x) : ∃ A L c, cs = [.slice A (List.length L) c] ∧ ERow E w A L ∧ (∀ a ∈ L, Deep a) ∧ L.length ≤ c ∧ c ≤ maxLen := by
  rcases open_slice E.under h with ⟨rfl, _⟩ | ⟨a, len, cap, m, n, D, Pl, rfl, _, hl, hm, hmm, _, hx⟩
  · exact ⟨none, [], 0, rfl, ERow.nil, by simp, by simp, Nat.zero_le _⟩
  · have hlm : len ≤ m := by rw [hmm]; split <;> omega
    have each : ∀ i, i < len → ∃ y : α, (∀ k, k < E.sz → w.cell? (a.add (i * E.sz + k)) = (E.code y)[k]?) ∧ Deep y := by
      intro i hi
      obtain ⟨cs', h1, h2⟩ := hx i (by omega)
      rw [hce] at h1
      obtain ⟨_, hlen, hcell⟩ := World.cells?_some h1
      obtain ⟨y, rfl, hd⟩ := hopen _ _ _ h2 hlen
      refine ⟨y, fun k hk => ?_, hd⟩
      rw [← hcell k hk, add_add]
    obtain ⟨f, hf⟩ := choose_lt each
    refine ⟨some a, (List.range len).map f, cap, by simp, fun hpos => ?_, ?_, by simpa using hl, hm⟩
    · have hpos' : 0 < len := by simpa using hpos
      have h0 := (hf 0 hpos').1 0 E.pos
      have hl0 : 0 < (E.code (f 0)).length := by rw [E.len]; exact E.pos
      rw [List.getElem?_eq_getElem hl0] at h0
      obtain ⟨b, o, sp⟩ := a
      have hsp : sp = none := by simpa [Addr.add] using World.cell?_spot h0
      subst hsp
      refine ⟨b, o, rfl, by have := World.block_lt_of_cell? w _ h0; simpa [Addr.add] using this, fun j u hu => ?_⟩
      have hj := (List.getElem?_eq_some_iff.1 hu).1
      rw [Elem.cells_length] at hj
      have hj' : j < len * E.sz := by simpa using hj
      have hd : j / E.sz < len := Nat.div_lt_of_lt_mul (by rw [Nat.mul_comm]; exact hj')
      rw [E.cells_get' _ j hj] at hu
      have h2 := (hf (j / E.sz) hd).1 (j % E.sz) (Nat.mod_lt _ E.pos)
      rw [Nat.mul_comm, Nat.div_add_mod] at h2
      rw [Addr.add_lit] at h2
      rw [h2]
      simpa using hu
    · intro y hy
      obtain ⟨r, hr, rfl⟩ := List.mem_map.1 hy
      exact (hf r (List.mem_range.1 hr)).2
theorem open_bytes (h : DataW.trod enc Try.prog w base spare held fuel 33 cs = some x) : ∃ A l c, cs = [.slice A (List.length l) c] ∧ BRow w A l ∧ l.length ≤ c ∧ c ≤ maxLen := by
  rcases open_ints Try.underlying33 Try.underlying5 (by kernel_rfl) h with ⟨rfl, _⟩ | ⟨x, l, c, zs, rfl, _, hl, hm, hz, _, hcell, hwz⟩
  · exact ⟨none, [], 0, rfl, BRow.nil, by simp, Nat.zero_le _⟩
  · obtain ⟨l', e, hr⟩ : ∃ l' : List UInt8, l'.length = l ∧ BRow w (some x) l' := by
      have hzl : l ≤ zs.length := by rw [hz]; split <;> omega
      refine ⟨(zs.take l).map fun n => UInt8.ofNat n.toNat, by simp; omega, fun h => ?_⟩
      have hpos : 0 < zs.length := by simp at h; omega
      have h0 := hcell 0 hpos
      obtain ⟨b, o, sp⟩ := x
      have hsp : sp = none := by simpa [Addr.add] using World.cell?_spot h0
      subst hsp
      refine ⟨b, o, rfl, World.block_lt_of_cell? w _ h0, fun j hj => ?_⟩
      have hj' : j < zs.length := by simp at hj; omega
      have := hcell j hj'
      rw [Addr.add_lit] at this
      rw [this]
      have hw := hwz zs[j] (List.getElem_mem hj')
      have hb : 0 ≤ zs[j] ∧ zs[j] ≤ 255 := by
        simp [Lit.wf, IntKind.min, IntKind.max, IntKind.signed, IntKind.bits] at hw
        omega
      simp [bv, hj']
      omega
    subst e
    exact ⟨some x, l', c, rfl, hr, hl, hm⟩
theorem open_i64 {t : TypeId} (ht : Try.prog.underlying t = some (.int .i64)) (h : DataW.trod enc Try.prog w base spare held fuel t cs = some x) : ∃ n : Int, cs = [.int .i64 n] ∧ -9223372036854775808 ≤ n ∧ n ≤ 9223372036854775807 := by
  obtain ⟨n, rfl, _, hw⟩ := DataW.trod_int ht h
  simp [Lit.wf, IntKind.min, IntKind.max, IntKind.signed, IntKind.bits] at hw
  exact ⟨n, rfl, hw.1, hw.2⟩
end
end Go.Proofs.Ythbanhedjfpmaaa
