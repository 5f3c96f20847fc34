/-
  What a disk is: plain, and in memory.
-/
import Derived.Test.YthbanhedjfpmaaaCells
namespace Go.Proofs.Ythbanhedjfpmaaa
set_option linter.unusedSimpArgs false
set_option linter.unusedVariables false
open Go.RowKit

/-- The bytes of a block. -/
structure B512 where
  l : List UInt8
  h : l.length = 512
theorem B512.ext' {a b : B512} (h : a.l = b.l) : a = b := by
  cases a; cases b; simp only at h; subst h; rfl
def B512.zero : B512 := ⟨List.replicate 512 0, List.length_replicate⟩
instance : Inhabited B512 := ⟨B512.zero⟩
def B512.v (b : B512) : List Value := b.l.map bv
theorem B512.v_length (b : B512) : b.v.length = 512 := by simp [B512.v, b.h]
theorem B512.v_one (b : B512) : ∀ u ∈ b.v, u.oneCell' = true := one_bytes b.l
/-- A block: as it is now, as it surely is. -/
structure DB where
  now : B512
  sure : B512
instance : Inhabited DB := ⟨⟨B512.zero, B512.zero⟩⟩
/-- A write that is not sure yet. -/
structure DW where
  at_ : Int
  b : B512
instance : Inhabited DW := ⟨⟨0, B512.zero⟩⟩
/-- A fall. -/
structure DF where
  at_ : Int
  keep : Nat
  torn : Int
instance : Inhabited DF := ⟨⟨0, 0, 0⟩⟩
structure DS where
  blocks : List DB
  pending : List DW
  falls : List DF
  changes : Nat
  down : Bool

theorem bytes_one (l : List UInt8) (u : Value) (h : u ∈ l.map bv) : u.oneCell' = true := one_bytes l u h
def zBytes (n : Nat) : List Value := List.replicate n (.int .u8 0)

def eDB : Elem DB where
  e := 99
  t := 90
  sz := 1024
  bytes := 1024
  zero := .agg (zBytes 1024).toArray
  code := fun x => x.now.v ++ x.sure.v
  pos := by decide
  few := by decide
  len := fun x => by rw [List.length_append, x.now.v_length, x.sure.v_length]
  one := by
    intro x u hu
    rcases List.mem_append.1 hu with h | h
    · exact x.now.v_one u h
    · exact x.sure.v_one u h
  zsz := (List.size_toArray ..).trans List.length_replicate
  info := by kernel_rfl
  under := Try.underlying90
def eDW : Elem DW where
  e := 97
  t := 91
  sz := 513
  bytes := 520
  zero := .agg (Value.int .i64 0 :: zBytes 512).toArray
  code := fun x => .int .i64 x.at_ :: x.b.v
  pos := by decide
  few := by decide
  len := fun x => by rw [List.length_cons, x.b.v_length]
  one := by
    intro x u hu
    rcases List.mem_cons.1 hu with h | h
    · subst h; rfl
    · exact x.b.v_one u h
  zsz := (List.size_toArray ..).trans (congrArg (· + 1) List.length_replicate)
  info := by kernel_rfl
  under := Try.underlying91
def eDF : Elem DF where
  e := 25
  t := 34
  sz := 3
  bytes := 24
  zero := .agg #[.int .i64 0, .int .u64 0, .int .i64 0]
  code := fun x => [.int .i64 x.at_, .int .u64 (x.keep : Nat), .int .i64 x.torn]
  pos := by decide
  few := by decide
  len := fun _ => rfl
  one := by
    intro x u hu
    simp at hu
    rcases hu with rfl | rfl | rfl <;> rfl
  zsz := rfl
  info := by kernel_rfl
  under := Try.underlying34

theorem EOwn.keep2 {α : Type} {E : Elem α} {w w' : World} {B c : Nat} {A : Option Addr} {L : List α} (h : EOwn E w B A c L) (_hs : w.heap.size ≤ w'.heap.size) (hk : ∀ a, A = some a → a.block < w.heap.size → w'.heap[a.block]? = w.heap[a.block]?) : EOwn E w' B A c L :=
  h.keep fun a ha => hk a ha (h.block a ha).2
/-- A disk's own blocks: its struct, its blocks' row. -/
structure KB where
  gd : Nat
  gb : Nat
def KB.own (k : KB) (i : Nat) : Prop := i = k.gd ∨ i = k.gb
/-- The disk d lies in the blocks k, which are among those from B on. -/
structure DiskAt (w : World) (B : Nat) (k : KB) (d : DS) : Prop where
  ex : ∃ (cb np cp nf cf : Nat) (Ap Af : Option Addr), np = d.pending.length ∧ nf = d.falls.length ∧ d.pending.length ≤ cp ∧ cp ≤ maxLen ∧ (Ap = none → cp = 0) ∧
    Blk w k.gd 93 [.slice (some ⟨k.gb, 0, none⟩) d.blocks.length cb, .slice Ap np cp, .slice Af nf cf, .int .i64 (d.changes : Nat), .bool d.down] ∧
    EOwn eDB w B (some ⟨k.gb, 0, none⟩) cb d.blocks ∧ EOwn eDW w B Ap cp d.pending ∧ EOwn eDF w B Af cf d.falls ∧ (∀ a, Ap = some a → ¬ k.own a.block) ∧ (∀ a, Af = some a → ¬ k.own a.block)
  lo : B ≤ k.gd
theorem DiskAt.below {w w' : World} {B : Nat} {k : KB} {d : DS} (h : DiskAt w B k d) (hb : Below w.heap.size w w') : DiskAt w' B k d := by
  obtain ⟨⟨cb, np, cp, nf, cf, Ap, Af, h1, h2, h3, h4, h5, h6, h7, h8, h9, h10, h11⟩, lo⟩ := h
  exact ⟨⟨cb, np, cp, nf, cf, Ap, Af, h1, h2, h3, h4, h5, h6.below hb, h7.below hb, h8.below hb, h9.below hb, h10, h11⟩, lo⟩
/-- Its head's cells, as a walk asks them. -/
theorem DiskAt.open_ {w : World} {B : Nat} {k : KB} {d : DS} (h : DiskAt w B k d) : ∃ (cb cp cf : Nat) (Ap Af : Option Addr),
    (w.cell? ⟨k.gd, 0, none⟩ = some (.slice (some ⟨k.gb, 0, none⟩) d.blocks.length cb) ∧ w.cell? ⟨k.gd, 1, none⟩ = some (.slice Ap d.pending.length cp) ∧ w.cell? ⟨k.gd, 2, none⟩ = some (.slice Af d.falls.length cf) ∧
      w.cell? ⟨k.gd, 3, none⟩ = some (.int .i64 (d.changes : Nat)) ∧ w.cell? ⟨k.gd, 4, none⟩ = some (.bool d.down) ∧
      w.frozen? ⟨k.gd, 0, none⟩ = false ∧ w.frozen? ⟨k.gd, 1, none⟩ = false ∧ w.frozen? ⟨k.gd, 2, none⟩ = false ∧ w.frozen? ⟨k.gd, 3, none⟩ = false ∧ w.frozen? ⟨k.gd, 4, none⟩ = false ∧ k.gd < w.heap.size) := by
  obtain ⟨⟨cb, np, cp, nf, cf, Ap, Af, rfl, rfl, h3, h4, h5, h6, _⟩, lo⟩ := h
  exact ⟨cb, cp, cf, Ap, Af, h6.c5⟩

/-! The methods that only read -/
set_option maxHeartbeats 400000 in
theorem down_any (w : World) (B : Nat) (k : KB) (d : DS) (h : DiskAt w B k d) : Calls Try.prog 25 #[.pointer (some ⟨k.gd, 0, none⟩)] w fun e w' => e = .returned (.bool d.down) ∧ w = w' := by
  obtain ⟨cb, cp, cf, Ap, Af, hc⟩ := h.open_
  clear h
  go_enter Try.func25, Try.ntmps25
  go_wp2_with fail
  go_ret
  exact ⟨rfl, rfl⟩
set_option maxHeartbeats 400000 in
theorem changes_any (w : World) (B : Nat) (k : KB) (d : DS) (h : DiskAt w B k d) : Calls Try.prog 26 #[.pointer (some ⟨k.gd, 0, none⟩)] w fun e w' => e = .returned (.int .i64 (d.changes : Nat)) ∧ w = w' := by
  obtain ⟨cb, cp, cf, Ap, Af, hc⟩ := h.open_
  clear h
  go_enter Try.func26, Try.ntmps26
  go_wp2_with fail
  go_ret
  exact ⟨rfl, rfl⟩
set_option maxHeartbeats 400000 in
theorem pending_any (w : World) (B : Nat) (k : KB) (d : DS) (h : DiskAt w B k d) : Calls Try.prog 22 #[.pointer (some ⟨k.gd, 0, none⟩)] w fun e w' => e = .returned (.int .i64 (d.pending.length : Nat)) ∧ w = w' := by
  obtain ⟨cb, cp, cf, Ap, Af, hc⟩ := h.open_
  clear h
  go_enter Try.func22, Try.ntmps22
  go_wp2_with fail
  go_ret
  exact ⟨rfl, rfl⟩
set_option maxHeartbeats 400000 in
theorem blocks_any (w : World) (B : Nat) (k : KB) (d : DS) (h : DiskAt w B k d) : Calls Try.prog 27 #[.pointer (some ⟨k.gd, 0, none⟩)] w fun e w' => e = .returned (.int .i64 (d.blocks.length : Nat)) ∧ w = w' := by
  obtain ⟨cb, cp, cf, Ap, Af, hc⟩ := h.open_
  clear h
  go_enter Try.func27, Try.ntmps27
  go_wp2_with fail
  go_ret
  exact ⟨rfl, rfl⟩
/-- Why a block can't be had. -/
def DS.why (d : DS) (i : Int) : Int := if d.down then 6 else if i < 0 ∨ (d.blocks.length : Int) ≤ i then 2 else 0
set_option maxHeartbeats 1000000 in
theorem has_any (w : World) (B : Nat) (k : KB) (d : DS) (h : DiskAt w B k d) (i : Int) : Calls Try.prog 47 #[.pointer (some ⟨k.gd, 0, none⟩), .int .i64 i] w fun e w' => e = .returned (.int .i64 (d.why i)) ∧ w = w' := by
  have HD := Lib.hid (down_any w B k d h)
  obtain ⟨cb, cp, cf, Ap, Af, hc⟩ := h.open_
  clear h
  by_cases hd : d.down = true
  · have HE : Hid (d.why i = 6) := by show _ = _; unfold DS.why; rw [if_pos hd]
    rw [hd] at HD
    clear hd
    go_enter Try.func47, Try.ntmps47
    go_wp2_with fail
    refine HD.out.mono ?_
    rintro e w1 ⟨rfl, rfl⟩
    go_wp2_with fail
    go_ret
    rw [HE.out]
    exact ⟨rfl, rfl⟩
  · have hdf : d.down = false := by simpa using hd
    rw [hdf] at HD
    by_cases hi : i < 0 ∨ (d.blocks.length : Int) ≤ i
    · have HE : Hid (d.why i = 2) := by show _ = _; unfold DS.why; rw [if_neg hd, if_pos hi]
      clear hd hdf
      rcases hi with hi | hi
      · go_enter Try.func47, Try.ntmps47
        go_wp2_with fail
        refine HD.out.mono ?_
        rintro e w1 ⟨rfl, rfl⟩
        go_wp2_with fail
        go_ret
        rw [HE.out]
        exact ⟨rfl, rfl⟩
      · have h0 : ¬ i < 0 := by omega
        go_enter Try.func47, Try.ntmps47
        go_wp2_with fail
        refine HD.out.mono ?_
        rintro e w1 ⟨rfl, rfl⟩
        go_wp2_with fail
        go_ret
        rw [HE.out]
        exact ⟨rfl, rfl⟩
    · have HE : Hid (d.why i = 0) := by show _ = _; unfold DS.why; rw [if_neg hd, if_neg hi]
      have h0 : ¬ i < 0 := by omega
      have h1 : ¬ (d.blocks.length : Int) ≤ i := by omega
      clear hd hdf hi
      go_enter Try.func47, Try.ntmps47
      go_wp2_with fail
      refine HD.out.mono ?_
      rintro e w1 ⟨rfl, rfl⟩
      go_wp2_with fail
      go_ret
      rw [HE.out]
      exact ⟨rfl, rfl⟩
end Go.Proofs.Ythbanhedjfpmaaa
