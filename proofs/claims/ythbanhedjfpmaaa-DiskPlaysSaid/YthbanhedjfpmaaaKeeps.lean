/-
  Which blocks a call may turn: Keeps; rows and blocks behind such a call.
-/
import Derived.Test.YthbanhedjfpmaaaRegionBlk
import Derived.OneCell
namespace Go.Proofs.Ythbanhedjfpmaaa
set_option linter.unusedSimpArgs false
set_option linter.unusedVariables false
open Go.RowKit

/-- No block that was there turns, but those of S. -/
structure Keeps (w w' : World) (S : Nat → Prop) : Prop where
  os : w'.os = w.os
  tape : w'.tape = w.tape
  output : w'.output = w.output
  size : w.heap.size ≤ w'.heap.size
  block : ∀ k, k < w.heap.size → ¬ S k → w'.heap[k]? = w.heap[k]?
theorem Keeps.refl (w : World) (S : Nat → Prop) : Keeps w w S := ⟨rfl, rfl, rfl, Nat.le_refl _, fun _ _ _ => rfl⟩
theorem Keeps.trans {a b c : World} {S : Nat → Prop} (h : Keeps a b S) (k : Keeps b c S) : Keeps a c S :=
  ⟨k.os.trans h.os, k.tape.trans h.tape, k.output.trans h.output, Nat.le_trans h.size k.size, fun i hi hn => (k.block i (Nat.lt_of_lt_of_le hi h.size) hn).trans (h.block i hi hn)⟩
theorem Keeps.of_below {w w' : World} {S : Nat → Prop} (h : Below w.heap.size w w') : Keeps w w' S := ⟨h.os, h.tape, h.output, h.size, fun k hk _ => h.block k hk⟩
theorem Keeps.set {w w' : World} {S : Nat → Prop} (h : Keeps w w' S) (p : Addr) (hp : S p.block ∨ w.heap.size ≤ p.block) (u : Value) : Keeps w (w'.setCell p u) S :=
  ⟨h.os, h.tape, h.output, by simpa using h.size, fun k hk hn => (heap_setCell_other w' p k u (fun e => by
    rcases hp with hp | hp
    · exact hn (e ▸ hp)
    · omega)).trans (h.block k hk hn)⟩
theorem Keeps.below {B : Nat} {w0 w w' : World} {S : Nat → Prop} (h : Keeps w w' S) (hb : Below B w0 w) (hB : B ≤ w.heap.size) (hS : ∀ k, S k → B ≤ k) : Below B w0 w' :=
  hb.trans ⟨h.os, h.tape, h.output, h.size, fun k hk => h.block k (Nat.lt_of_lt_of_le hk hB) (fun hs => by have := hS k hs; omega)⟩
theorem Row.kept {w w' : World} {A : Option Addr} {xs : List Value} {S : Nat → Prop} (h : Row w A xs) (hk : Keeps w w' S) (hf : ∀ a, A = some a → ¬ S a.block) : Row w' A xs := fun hl => by
  obtain ⟨b, o, rfl, hlt, hc⟩ := h hl
  exact ⟨b, o, rfl, Nat.lt_of_lt_of_le hlt hk.size, fun j hj => (World.cell?_of_block (hk.block b hlt (hf _ rfl))).trans (hc j hj)⟩
theorem BRow.kept {w w' : World} {A : Option Addr} {l : List UInt8} {S : Nat → Prop} (h : BRow w A l) (hk : Keeps w w' S) (hf : ∀ a, A = some a → ¬ S a.block) : BRow w' A l := Row.kept h hk hf
theorem BRow.kept0 {w w' : World} {A : Option Addr} {l : List UInt8} {S : Nat → Prop} (h : BRow w A l) (hk : Keeps w w' S) (hf : l ≠ [] → ∀ a, A = some a → ¬ S a.block) : BRow w' A l := by
  cases l with
  | nil => exact BRow.nil
  | cons x l => exact h.kept hk (hf (by simp))
theorem Keeps.grown {w w' w'' : World} {S : Nat → Prop} {g : Nat} (h : Keeps w w' S) (hg : w'.grownBy w'' (some g)) (hs : S g) : Keeps w w'' S :=
  h.trans ⟨hg.os, hg.tape, hg.output, hg.size, fun k hk hn => hg.block k hk (by simp; rintro rfl; exact hn hs)⟩

theorem Blk.kept {w w' : World} {g : Nat} {T : TypeId} {cs : List Value} {S : Nat → Prop} (h : Blk w g T cs) (hk : Keeps w w' S) (hg : ¬ S g) : Blk w' g T cs := (hk.block _ h.lt hg).trans h
theorem ERow.kept {α : Type} {E : Elem α} {w w' : World} {A : Option Addr} {L : List α} {S : Nat → Prop} (h : ERow E w A L) (hk : Keeps w w' S) (hf : L ≠ [] → ∀ a, A = some a → ¬ S a.block) : ERow E w' A L := by
  cases L with
  | nil => exact ERow.nil
  | cons x L => exact h.keep hk.size (fun a ha hl => hk.block _ hl (hf (by simp) a ha))
theorem EOwn.keptK {α : Type} {E : Elem α} {w w' : World} {B c : Nat} {A : Option Addr} {L : List α} {S : Nat → Prop} (h : EOwn E w B A c L) (hk : Keeps w w' S) (hf : ∀ a, A = some a → ¬ S a.block) : EOwn E w' B A c L :=
  h.keep fun a ha => hk.block _ (h.block a ha).2 (hf a ha)
theorem Keeps.of_grown {w w' : World} {g : Nat} (h : w.grownBy w' (some g)) : Keeps w w' (fun k => k = g) := ⟨h.os, h.tape, h.output, h.size, fun k hk hn => h.block k hk (by simpa using hn)⟩
theorem Keeps.mono {w w' : World} {S T : Nat → Prop} (h : Keeps w w' S) (hS : ∀ k, S k → T k) : Keeps w w' T := ⟨h.os, h.tape, h.output, h.size, fun k hk hn => h.block k hk (fun hs => hn (hS k hs))⟩
theorem BOwn.keptK {w w' : World} {B c : Nat} {A : Option Addr} {l : List UInt8} {S : Nat → Prop} (h : BOwn w B A c l) (hk : Keeps w w' S) (hf : ∀ a, A = some a → ¬ S a.block) : BOwn w' B A c l := by
  refine ⟨h.1, ?_⟩
  rcases h.2 with h2 | ⟨g, cap, cur, hv, hb, hg, r⟩
  · exact .inl h2
  · refine .inr ⟨g, cap, cur, hv, hb, ?_, r⟩
    simp only [Value.slice.injEq] at hv
    exact (hk.block g (Array.getElem?_eq_some_iff.1 hg).1 (hf _ hv.1)).trans hg
theorem BRow.ne_blk {w : World} {A : Option Addr} {l : List UInt8} {g : Nat} {T : TypeId} {cs : List Value} (h : BRow w A l) (hl : l ≠ []) (hb : Blk w g T cs) (hc : ∀ v ∈ cs, ∀ n, v ≠ .int .u8 n) : ∀ a, A = some a → a.block ≠ g := by
  rintro a ha rfl
  obtain ⟨b, o, e, _, hcell⟩ := h (by cases l with | nil => exact absurd rfl hl | cons x l => simp)
  rw [ha] at e
  obtain rfl := Option.some.inj e
  have h0 := hcell 0 (by cases l with | nil => exact absurd rfl hl | cons x l => simp)
  rw [hb.cell] at h0
  obtain ⟨hlt, he⟩ := List.getElem?_eq_some_iff.1 h0
  rw [List.getElem_map] at he
  exact hc _ (List.getElem_mem hlt) _ he
theorem BRow.grown_blk {w w' : World} {A : Option Addr} {l : List UInt8} {g : Nat} {T : TypeId} {cs : List Value} (h : BRow w A l) (hg : w.grownBy w' (some g)) (hb : Blk w g T cs) (hc : ∀ v ∈ cs, ∀ n, v ≠ .int .u8 n) : BRow w' A l := by
  cases l with
  | nil => exact BRow.nil
  | cons y l =>
    obtain ⟨b, o, e, hlt, hcell⟩ := h (by simp)
    have hne := h.ne_blk (by simp) hb hc _ e
    exact fun _ => ⟨b, o, e, Nat.lt_of_lt_of_le hlt hg.size, fun j hj => (World.cell?_of_block (a := ⟨b, o + j, none⟩) (hg.block b hlt (by simp; exact hne))).trans (hcell j hj)⟩
theorem bump_byte (c : UInt8) : bv (UInt8.ofNat (c.toNat + 1)) = .int .u8 (((c.toNat : Int) + 1) % 256) := by
  simp [bv]
/-- An operation that writes memory and has no value. -/
theorem opDoes_skip {P : Program} {Q : Exit → Act → World → Prop} {l : List Oper} {o : Oper} {a : Act} {w w' : World} {T : Value → World → Prop} (hg : o.guard = none) (hr : (execOp a.eval o).run P w = .ok .skip w') (h : T undef w') : opDoes P l o Q a w T :=
  opDoes_plain hg fun K hK => by
    unfold Oper.wp
    rw [hr]
    exact hK _ _ h
end Go.Proofs.Ythbanhedjfpmaaa
