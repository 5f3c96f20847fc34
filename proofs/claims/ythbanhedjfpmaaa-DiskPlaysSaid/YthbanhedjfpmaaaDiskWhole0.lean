/-
  DiskWhole, plain; a disk and a clone of it.
-/
import Derived.Test.YthbanhedjfpmaaaDiskSure2
namespace Go.Proofs.Ythbanhedjfpmaaa
set_option linter.unusedSimpArgs false
set_option linter.unusedVariables false
open Go.RowKit

theorem sureAll_now : ∀ (ws : List DW) (L : List DB) (i : Nat), ((sureAll ws L).getD i default).now = (L.getD i default).now
  | [], _, _ => rfl
  | x :: ws, L, i => by
    rw [sureAll, sureAll_now ws]
    by_cases h : x.at_.toNat = i
    · by_cases hl : i < L.length
      · subst h; simp [hl]
      · rw [List.set_eq_of_length_le (by omega)]
    · simp [List.getElem?_set_ne h]
/-- What is now there is what will surely be. -/
structure WholeD (d : DS) : Prop where
  calm : Calm d
  now : ∀ i, i < 8 → (d.blocks.getD i default).now.l = d.will i
theorem WholeD.write {d : DS} (h : WholeD d) {m : Nat} (hm : m < 8) {l : List UInt8} (hl : l.length = 512) : WholeD (d.write (m : Int) l).1 := by
  obtain ⟨-, h2, h3, -, -⟩ := h.calm.write hm hl
  refine ⟨h2, fun i hi => ?_⟩
  rw [h3, ← h.now i hi, write_plain h.calm.falls h.calm.down (by rw [h.calm.len]; exact hm) hl]
  have hm' : m < d.blocks.length := by rw [h.calm.len]; exact hm
  by_cases e : i = m
  · subst e; simp [hm']
  · simp [e, List.getElem?_set_ne (fun h => e h.symm)]
theorem WholeD.flush {d : DS} (h : WholeD d) : WholeD d.flush.1 ∧ ∀ i, i < 8 → (d.flush.1.blocks.getD i default).now = (d.flush.1.blocks.getD i default).sure := by
  obtain ⟨-, h2, -, h4⟩ := h.calm.flush
  have hn : ∀ i, (d.flush.1.blocks.getD i default).now = (d.blocks.getD i default).now := fun i => by
    rw [flush_plain h.calm.falls h.calm.down]
    exact sureAll_now _ _ i
  refine ⟨⟨h2, fun i hi => ?_⟩, fun i hi => B512.ext' (by rw [hn, h4, h.now i hi])⟩
  rw [hn, h.now i hi]
  rw [flush_plain h.calm.falls h.calm.down]
  rfl
theorem hitAll_all (n : Int) : ∀ (ws : List DW) (k : Nat) (L : List DB), k + ws.length ≤ 64 → hitAll ⟨0, 18446744073709551615, 0⟩ n ws k L = sureAll ws L
  | [], _, _, _ => rfl
  | x :: ws, k, L, h => by
    simp only [List.length_cons] at h
    have hk : keepB ⟨0, 18446744073709551615, 0⟩ k = true := by
      unfold keepB
      have h1 : (18446744073709551615 : Nat) = 2 ^ 64 - 1 := by decide
      simp only [h1, Nat.testBit_two_pow_sub_one]
      simp; omega
    rw [hitAll, hitAll_all n ws (k + 1) _ (by omega), sureAll]
    congr 2
    unfold DB.hit
    rw [if_pos hk]
theorem set_getD {α : Type} [Inhabited α] (L : List α) (i : Nat) : L.set i (L.getD i default) = L := by
  by_cases h : i < L.length
  · simp [h]
  · exact List.set_eq_of_length_le (by omega)
theorem hitAll_none (n : Int) : ∀ (ws : List DW) (k : Nat) (L : List DB), hitAll ⟨0, 0, 0⟩ n ws k L = L
  | [], _, _ => rfl
  | x :: ws, k, L => by
    have hk : keepB ⟨0, 0, 0⟩ k = false := by unfold keepB; simp
    have e : ∀ x' : DB, x'.hit ⟨0, 0, 0⟩ n k x = x' := by
      intro x'
      unfold DB.hit
      rw [if_neg (by simp [hk])]
      split
      · have : x.b.over x'.sure (tornN 0) = x'.sure := by
          refine B512.ext' ?_
          show List.take (tornN 0) x.b.l ++ List.drop (tornN 0) x'.sure.l = _
          rw [show tornN 0 = 0 from by decide]
          rfl
        rw [this]
      · rfl
    rw [hitAll, e, set_getD, hitAll_none]
/-- What a loss of power leaves, of a disk d whose clone is s: all, or what was sure. -/
theorem WholeD.crash {d : DS} (h : WholeD d) (hp : d.pending.length ≤ 64) (f : DF) (hf : f = ⟨0, 18446744073709551615, 0⟩) :
    (d.crash f).blocks.length = 8 ∧ (d.crash f).down = true ∧ ∀ i, i < 8 → ((d.crash f).blocks.getD i default).now = (d.blocks.getD i default).now := by
  refine ⟨by rw [crash_length, h.calm.len], by unfold DS.crash; rw [if_neg (by simp [h.calm.down])], fun i hi => B512.ext' ?_⟩
  unfold DS.crash
  rw [if_neg (by simp [h.calm.down]), hf, hitAll_all _ _ _ _ (by omega)]
  have hlen : i < (sureAll d.pending d.blocks).length := by rw [sureAll_length, h.calm.len]; exact hi
  have e : (((sureAll d.pending d.blocks).map fun x => (⟨x.sure, x.sure⟩ : DB)).getD i default).now = ((sureAll d.pending d.blocks).getD i default).sure := by simp [hlen]
  show _ = _
  rw [h.now i hi]
  exact congrArg B512.l e
theorem Calm.crash0 {d : DS} (h : Calm d) (f : DF) (hf : f = ⟨0, 0, 0⟩) :
    (d.crash f).blocks.length = 8 ∧ (d.crash f).down = true ∧ ∀ i, i < 8 → ((d.crash f).blocks.getD i default).now = (d.blocks.getD i default).sure := by
  refine ⟨by rw [crash_length, h.len], by unfold DS.crash; rw [if_neg (by simp [h.down])], fun i hi => ?_⟩
  unfold DS.crash
  rw [if_neg (by simp [h.down]), hf, hitAll_none]
  have hlen : i < d.blocks.length := by rw [h.len]; exact hi
  simp [hlen]
theorem DiskAt.keptBy {w w' : World} {B : Nat} {k : KB} {d : DS} {S : Nat → Prop} (h : DiskAt w B k d) (hK : Keeps w w' S) (hS : ∀ i, S i → i < B) : DiskAt w' B k d := by
  obtain ⟨⟨cb, np, cp, nf, cf, Ap, Af, h1, h2, h3, h4, h5, h6, h7, h8, h9, h10, h11⟩, lo⟩ := h
  refine ⟨⟨cb, np, cp, nf, cf, Ap, Af, h1, h2, h3, h4, h5, h6.kept hK (fun hs => by have := hS _ hs; omega), h7.keptK hK ?_, h8.keptK hK ?_, h9.keptK hK ?_, h10, h11⟩, lo⟩
  · exact fun a ha hs => by have := hS _ hs; have := (h7.block a ha).1; omega
  · exact fun a ha hs => by have := hS _ hs; have := (h8.block a ha).1; omega
  · exact fun a ha hs => by have := hS _ hs; have := (h9.block a ha).1; omega
/-- A disk d, and a clone s in blocks of its own. -/
structure SW (w0 w : World) (k : KB) (d : DS) (n B2 : Nat) (k2 : KB) (s : DS) : Prop where
  dl : DL w0 w k d n
  at2 : DiskAt w B2 k2 s
  ap : ∀ i, k.own i → i < B2
section
variable {w0 w w' : World} {k k2 : KB} {d d' s : DS} {n n' B2 : Nat}
theorem SW.below (h : SW w0 w k d n B2 k2 s) (hb : Below w.heap.size w w') : SW w0 w' k d n B2 k2 s := ⟨h.dl.below hb, h.at2.below hb, h.ap⟩
theorem SW.disk (h : SW w0 w k d n B2 k2 s) (hd : DL w0 w' k d' n') (hk : Keeps w w' k.own) : SW w0 w' k d' n' B2 k2 s := ⟨hd, h.at2.keptBy hk h.ap, h.ap⟩
theorem DL.clone (h : DL w0 w k d n) : Calls Try.prog 23 #[.pointer (some ⟨k.gd, 0, none⟩)] w fun e w' => ∃ k', e = .returned (.pointer (some ⟨k'.gd, 0, none⟩)) ∧ SW w0 w' k d n w.heap.size k' d ∧ Below w.heap.size w w' :=
  (dclone_any w _ k d h.at_ h.good).mono fun e w' ⟨k', he, ha, hb⟩ => ⟨k', he, ⟨h.below hb, ha, h.own_lt⟩, hb⟩
end
/-- The clone has what is sure. -/
structure PairD (d s : DS) : Prop where
  whole : WholeD d
  same : ∀ i, i < 8 → (s.blocks.getD i default).now = (d.blocks.getD i default).sure
  down : s.down = false
  len : s.blocks.length = 8
theorem PairD.write {d s : DS} (h : PairD d s) {m : Nat} (hm : m < 8) {l : List UInt8} (hl : l.length = 512) : PairD (d.write (m : Int) l).1 s :=
  ⟨h.whole.write hm hl, fun i hi => by rw [(h.whole.calm.write hm hl).2.2.2.1]; exact h.same i hi, h.down, h.len⟩
theorem PairD.flush {d s : DS} (h : PairD d s) : PairD d.flush.1 d.flush.1 :=
  ⟨h.whole.flush.1, h.whole.flush.2, h.whole.flush.1.calm.down, h.whole.flush.1.calm.len⟩
theorem PairD.new : PairD (DS.new 8) (DS.new 8) := by
  have e : ∀ i, i < 8 → (DS.new 8).blocks.getD i default = ⟨B512.zero, B512.zero⟩ := fun i hi => by
    show (List.replicate 8 (⟨B512.zero, B512.zero⟩ : DB)).getD i default = _
    rw [List.getD_eq_getElem?_getD, List.getElem?_replicate, if_pos hi]
    rfl
  refine ⟨⟨⟨rfl, rfl, rfl⟩, fun i hi => ?_⟩, fun i hi => by rw [e i hi], rfl, rfl⟩
  show ((DS.new 8).blocks.getD i default).now.l = ((DS.new 8).blocks.getD i default).sure.l
  rw [e i hi]
end Go.Proofs.Ythbanhedjfpmaaa
