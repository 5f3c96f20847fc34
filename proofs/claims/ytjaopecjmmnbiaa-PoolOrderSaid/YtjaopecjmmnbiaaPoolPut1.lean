/-
  A pool in memory whose map may be ahead of its frames; a frame's store.
-/
import Derived.Test.YtjaopecjmmnbiaaPoolPut0
namespace Go.Proofs.Ytjaopecjmmnbiaa
set_option linter.unusedSimpArgs false
set_option linter.unusedVariables false
open Go.RowKit Go.Maps

/-- As PoolAt, the map's numbers f by themselves. -/
structure PoolF (w : World) (B : Nat) (b : PB) (N c : Nat) (p : PS) (f : Int → Option Nat) : Prop where
  lp : B ≤ b.gp
  lf : B ≤ b.gf
  lm : B ≤ b.gm
  head : w.heap[b.gp]? = some (.cells #[.slice (some ⟨b.gf, 0, none⟩) p.L.length c, .int .i64 (p.hand : Nat), .map (some b.gm), .int .i64 p.hits, .int .i64 p.misses] 62 (0, 0))
  frames : FOwn w B (some ⟨b.gf, 0, none⟩) c p.L
  map : MapAt w b.gm N f
  bytes : ∀ f ∈ p.L, BRow w f.A f.s
  far : ∀ f ∈ p.L, ∀ a, f.A = some a → ¬ b.own a.block
section
variable {w w' : World} {B N c : Nat} {b : PB} {p : PS} {f : Int → Option Nat}
theorem PoolAt.toF (h : PoolAt w B b N c p) : PoolF w B b N c p (whereOf p.L) := ⟨h.lp, h.lf, h.lm, h.head, h.frames, h.map, h.bytes, h.far⟩
theorem PoolF.toAt (h : PoolF w B b N c p f) (hf : f = whereOf p.L) : PoolAt w B b N c p := ⟨h.lp, h.lf, h.lm, h.head, h.frames, hf ▸ h.map, h.bytes, h.far⟩
theorem PoolF.below (h : PoolF w B b N c p f) (hb : Below w.heap.size w w') : PoolF w' B b N c p f :=
  ⟨h.lp, h.lf, h.lm, (hb.block _ (Array.getElem?_eq_some_iff.1 h.head).1).trans h.head, h.frames.below hb, h.map.below hb, fun f hf => (h.bytes f hf).below hb, h.far⟩
theorem PoolF.ne (h : PoolF w B b N c p f) (h0 : 0 < p.L.length) : b.gp ≠ b.gf ∧ b.gp ≠ b.gm ∧ b.gf ≠ b.gm := by
  obtain ⟨cur, hf⟩ : ∃ cur, w.heap[b.gf]? = some (.cells cur 65 (0, 0)) := by
    rcases h.frames.2 with ⟨hv, hz⟩ | ⟨g, cap, cur, hv, _, hg, _⟩
    · omega
    · simp only [Value.slice.injEq, Option.some.injEq, Addr.mk.injEq] at hv
      obtain ⟨⟨rfl, _, _⟩, _⟩ := hv
      exact ⟨cur, hg⟩
  obtain ⟨D, ⟨es, clock, hm, _⟩, _⟩ := h.map
  refine ⟨fun e => ?_, fun e => ?_, fun e => ?_⟩
  · rw [← e, h.head] at hf
    simp at hf
  · rw [← e, h.head] at hm
    simp at hm
  · rw [← e, hf] at hm
    simp at hm
/-- The map turns. -/
theorem PoolF.turn (h : PoolF w B b N c p f) (h0 : 0 < p.L.length) {N' : Nat} {f' : Int → Option Nat} (hm : MapAt w' b.gm N' f') (hg : w.grownBy w' (some b.gm)) : PoolF w' B b N' c p f' := by
  have hne := h.ne h0
  refine ⟨h.lp, h.lf, h.lm, (hg.block _ (Array.getElem?_eq_some_iff.1 h.head).1 (by simpa using hne.2.1)).trans h.head, ?_, hm, fun f hf => ?_, h.far⟩
  · exact World.ownsRow.kept h.frames hg (.inr (by rw [own_block]; simpa using hne.2.2))
  · intro hl
    obtain ⟨b', o, e, hlt, hc⟩ := h.bytes f hf hl
    exact ⟨b', o, e, Nat.lt_of_lt_of_le hlt hg.size, fun j hj => (World.cell?_of_block (hg.block _ hlt (by simp; exact fun e' => h.far f hf _ e (.inr (.inr e'))))).trans (hc j hj)⟩
/-- A frame is stored. -/
theorem PoolF.store (h : PoolF w B b N c p f) {i : Nat} (hi : i < p.L.length) (fr : Fr) (hb : BRow w fr.A fr.s) (hfar : ∀ a, fr.A = some a → ¬ b.own a.block) :
    PoolF (((w.setCell ⟨b.gf, i * 3, none⟩ (.int .i64 fr.page)).setCell ⟨b.gf, i * 3 + 1, none⟩ (.bool fr.mark)).setCell ⟨b.gf, i * 3 + 2, none⟩ (.slice fr.A fr.s.length fr.c)) B b N c { p with L := p.L.set i fr } f := by
  have hne := h.ne (by omega)
  have hall : ∀ g ∈ p.L.set i fr, BRow w g.A g.s ∧ ∀ a, g.A = some a → ¬ b.own a.block := by
    intro g hg
    rcases List.mem_or_eq_of_mem_set hg with h1 | h1
    · exact ⟨h.bytes g h1, h.far g h1⟩
    · subst h1
      exact ⟨hb, hfar⟩
  refine ⟨h.lp, h.lf, h.lm, ?_, h.frames.storeAll hi fr, ?_, fun g hg => ?_, fun g hg => (hall g hg).2⟩
  · rw [heap_setCell_other _ _ _ _ hne.1, heap_setCell_other _ _ _ _ hne.1, heap_setCell_other _ _ _ _ hne.1, h.head, List.length_set]
  · exact ((h.map.set _ (fun e => hne.2.2 e.symm) _).set _ (fun e => hne.2.2 e.symm) _).set _ (fun e => hne.2.2 e.symm) _
  · have hf : ∀ a, g.A = some a → a.block ≠ b.gf := fun a ha e => (hall g hg).2 a ha (.inr (.inl e))
    exact (((hall g hg).1.far (p := ⟨b.gf, i * 3, none⟩) hf _).far (p := ⟨b.gf, i * 3 + 1, none⟩) hf _).far (p := ⟨b.gf, i * 3 + 2, none⟩) hf _
end
end Go.Proofs.Ytjaopecjmmnbiaa
