/-
  A disk that a law's walk holds: what stays true from call to call.
-/
import Derived.Test.YthbanhedjfpmaaaDiskFill
namespace Go.Proofs.Ythbanhedjfpmaaa
set_option linter.unusedSimpArgs false
set_option linter.unusedVariables false
open Go.RowKit

theorem crash_changes (d : DS) (f : DF) : (d.crash f).changes = d.changes := by unfold DS.crash; split <;> rfl
theorem crash_pending (d : DS) (f : DF) : (d.crash f).pending.length ≤ d.pending.length := by unfold DS.crash; split <;> simp
theorem strike_changes (d : DS) : d.strike.1.changes = d.changes + 1 := by
  unfold DS.strike
  split
  · exact crash_changes _ _
  · rfl
theorem strike_pending (d : DS) : d.strike.1.pending.length ≤ d.pending.length := by
  unfold DS.strike
  split
  · exact crash_pending _ _
  · exact Nat.le_refl _
theorem write_changes (d : DS) (i : Int) (l : List UInt8) : (d.write i l).1.changes ≤ d.changes + 1 := by
  unfold DS.write
  split
  · exact Nat.le_succ _
  · split
    · unfold DS.put; rw [strike_changes]; exact Nat.le_refl _
    · exact Nat.le_succ _
theorem write_pending (d : DS) (i : Int) (l : List UInt8) : (d.write i l).1.pending.length ≤ d.pending.length + 1 := by
  unfold DS.write
  split
  · exact Nat.le_succ _
  · split
    · unfold DS.put; refine Nat.le_trans (strike_pending _) ?_; simp
    · exact Nat.le_succ _
theorem flush_changes (d : DS) : d.flush.1.changes ≤ d.changes + 1 := by
  unfold DS.flush
  split
  · exact Nat.le_succ _
  · split
    · rw [strike_changes]; exact Nat.le_refl _
    · show d.strike.1.changes ≤ _; rw [strike_changes]; exact Nat.le_refl _
theorem flush_pending (d : DS) : d.flush.1.pending.length ≤ d.pending.length := by
  unfold DS.flush
  split
  · exact Nat.le_refl _
  · split
    · exact strike_pending _
    · simp [DS.settled]
theorem why_zero {d : DS} {i : Int} (h : d.why i = 0) : d.down = false ∧ 0 ≤ i ∧ i < d.blocks.length := by
  unfold DS.why at h
  cases hd : d.down with
  | true => rw [if_pos hd] at h; exact absurd h (by decide)
  | false =>
    rw [if_neg (by simp [hd])] at h
    split at h
    · exact absurd h (by decide)
    · exact ⟨rfl, by omega, by omega⟩
theorem DGood.write {d : DS} (h : DGood d) (hpl : d.pending.length < 1000000) (i : Int) (l : List UInt8) : DGood (d.write i l).1 := by
  unfold DS.write
  split
  · exact h
  · split
    · rename_i hw hl
      obtain ⟨-, h0, h1⟩ := why_zero (Classical.not_not.1 hw)
      unfold DS.put
      refine DGood.strike ⟨by simpa using h.b0, by simpa using h.b1, by simp; omega, h.f1, fun x hx => ?_, h.fk⟩
      simp only [List.length_set]
      rcases List.mem_append.1 hx with h' | h'
      · exact h.at_ x h'
      · simp only [List.mem_singleton] at h'
        subst h'
        exact ⟨by show (0 : Int) ≤ (i.toNat : Int); omega, by show ((i.toNat : Nat) : Int) < _; omega⟩
    · exact h
theorem DGood.up {d : DS} (h : DGood d) (b : Bool) : DGood { d with down := b } := ⟨h.b0, h.b1, h.p1, h.f1, h.at_, h.fk⟩
theorem DGood.plan {d : DS} (h : DGood d) (L : List DF) (hl : L.length ≤ 1000000) (hk : ∀ f ∈ L, f.keep < 18446744073709551616 ∧ (-9223372036854775808 ≤ f.torn ∧ f.torn ≤ 9223372036854775807)) : DGood { d with falls := L } := ⟨h.b0, h.b1, h.p1, hl, h.at_, hk⟩

/-- The disk d, made since w0: n changes at most were asked of it. -/
structure DL (w0 w : World) (k : KB) (d : DS) (n : Nat) : Prop where
  at_ : DiskAt w w0.heap.size k d
  good : DGood d
  ch : d.changes ≤ n
  pe : d.pending.length ≤ n
  bel : Below w0.heap.size w0 w
section
variable {w0 w w' : World} {k : KB} {d : DS} {n : Nat}
theorem DL.own_lo (h : DL w0 w k d n) : ∀ i, k.own i → w0.heap.size ≤ i := fun i hi => by
  rcases hi with rfl | rfl
  · exact h.at_.lo
  · exact h.at_.head.2.2.2
theorem DL.below (h : DL w0 w k d n) (hb : Below w.heap.size w w') : DL w0 w' k d n := ⟨h.at_.below hb, h.good, h.ch, h.pe, h.bel.trans (hb.mono h.bel.size)⟩
theorem DL.more (h : DL w0 w k d n) {m : Nat} (hm : n ≤ m) : DL w0 w k d m := ⟨h.at_, h.good, Nat.le_trans h.ch hm, Nat.le_trans h.pe hm, h.bel⟩
theorem DL.step (h : DL w0 w k d n) {e : DS} {m : Nat} (ha : DiskAt w' w0.heap.size k e) (hk : Keeps w w' k.own) (hg : DGood e) (hc : e.changes ≤ m) (hp : e.pending.length ≤ m) : DL w0 w' k e m :=
  ⟨ha, hg, hc, hp, hk.below h.bel h.bel.size h.own_lo⟩
theorem DL.write (h : DL w0 w k d n) (hn : n < 1000000) (i : Int) (A : Option Addr) (c : Nat) (l : List UInt8) (hr : BRow w A l) :
    Calls Try.prog 17 #[.pointer (some ⟨k.gd, 0, none⟩), .int .i64 i, .slice A l.length c] w fun e w' => e = .returned (.int .i64 (d.write i l).2) ∧ DL w0 w' k (d.write i l).1 (n + 1) ∧ Keeps w w' k.own := by
  have hc := h.ch
  have hp := h.pe
  refine (write_any w _ k d h.at_ h.good (by omega) (by omega) i A c l hr).mono fun e w' ⟨he, hD, hK⟩ => ⟨he, h.step hD hK (h.good.write (by omega) i l) ?_ ?_, hK⟩
  · exact Nat.le_trans (write_changes d i l) (by omega)
  · exact Nat.le_trans (write_pending d i l) (by omega)
theorem DL.flush (h : DL w0 w k d n) (hn : n < 1000000) :
    Calls Try.prog 18 #[.pointer (some ⟨k.gd, 0, none⟩)] w fun e w' => e = .returned (.int .i64 d.flush.2) ∧ DL w0 w' k d.flush.1 (n + 1) ∧ Keeps w w' k.own := by
  have hc := h.ch
  have hp := h.pe
  refine (flush_any w _ k d h.at_ h.good (by omega)).mono fun e w' ⟨he, hD, hK⟩ => ⟨he, h.step hD hK h.good.flush ?_ ?_, hK⟩
  · exact Nat.le_trans (flush_changes d) (by omega)
  · exact Nat.le_trans (flush_pending d) (by omega)
theorem DL.crash (h : DL w0 w k d n) (f : DF) (hf : f.keep < 18446744073709551616) :
    Calls Try.prog 19 #[.pointer (some ⟨k.gd, 0, none⟩), .agg #[.int .i64 f.at_, .int .u64 (f.keep : Nat), .int .i64 f.torn]] w fun e w' => e = .returned (.tuple #[]) ∧ DL w0 w' k (d.crash f) n ∧ Keeps w w' k.own := by
  refine (crash_any w _ k d h.at_ h.good f hf).mono fun e w' ⟨he, hD, hK⟩ => ⟨he, h.step hD hK (h.good.crash f) ?_ ?_, hK⟩
  · rw [crash_changes]; exact h.ch
  · exact Nat.le_trans (crash_pending d f) h.pe
theorem DL.up (h : DL w0 w k d n) :
    Calls Try.prog 20 #[.pointer (some ⟨k.gd, 0, none⟩)] w fun e w' => e = .returned (.bool d.down) ∧ DL w0 w' k { d with down := false } n ∧ Keeps w w' k.own := by
  refine (up_any w _ k d h.at_).mono fun e w' ⟨he, hD, hg⟩ => ?_
  have hK : Keeps w w' k.own := (Keeps.of_grown hg).mono fun i hi => .inl hi
  exact ⟨he, h.step hD hK (h.good.up false) h.ch h.pe, hK⟩
theorem DL.plan (h : DL w0 w k d n) (A : Option Addr) (c : Nat) (L : List DF) (hr : ERow eDF w A L) (hl : L.length ≤ 1000000) (hk : ∀ f ∈ L, f.keep < 18446744073709551616 ∧ (-9223372036854775808 ≤ f.torn ∧ f.torn ≤ 9223372036854775807)) :
    Calls Try.prog 24 #[.pointer (some ⟨k.gd, 0, none⟩), .slice A L.length c] w fun e w' => e = .returned (.tuple #[]) ∧ DL w0 w' k { d with falls := L } n ∧ Keeps w w' k.own := by
  refine (plan_any w _ k d h.at_ A c L hr hl).mono fun e w' ⟨he, hD, hg⟩ => ?_
  have hK : Keeps w w' k.own := (Keeps.of_grown hg).mono fun i hi => .inl hi
  exact ⟨he, h.step hD hK (h.good.plan L hl hk) h.ch h.pe, hK⟩
theorem DL.new (m : Nat) (h0 : 0 < m) (hm : m ≤ 4096) (hb : Below w0.heap.size w0 w) :
    Calls Try.prog 15 #[.int .i64 m] w fun e w' => ∃ k, e = .returned (.tuple #[.pointer (some ⟨k.gd, 0, none⟩), .int .i64 0]) ∧ DL w0 w' k (DS.new m) 0 ∧ Below w.heap.size w w' := by
  refine (dnew_any w m h0 hm).mono fun e w' ⟨k, he, hD, hB⟩ => ⟨k, he, ⟨?_, dgood_new m h0 hm, Nat.le_refl _, Nat.le_refl _, hb.trans (hB.mono hb.size)⟩, hB⟩
  obtain ⟨⟨cb, np, cp, nf, cf, Ap, Af, h1, h2, h3, h4, h5, h6, h7, h8, h9, h10⟩, lo⟩ := hD
  exact ⟨⟨cb, np, cp, nf, cf, Ap, Af, h1, h2, h3, h4, h5, h6, h7.mono hb.size, h8.mono hb.size, h9.mono hb.size, h10⟩, Nat.le_trans hb.size lo⟩
end
end Go.Proofs.Ythbanhedjfpmaaa
