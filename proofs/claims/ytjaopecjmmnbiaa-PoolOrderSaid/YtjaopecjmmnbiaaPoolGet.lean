/-
  The contract of pool's Get.
-/
import Derived.Test.YtjaopecjmmnbiaaPoolMap
namespace Go.Proofs.Ytjaopecjmmnbiaa
set_option linter.unusedSimpArgs false
set_option linter.unusedVariables false
open Go.RowKit Go.Maps

theorem zero_int (w : World) : (zeroValue 3).run Try.prog w = .ok (.int .i64 0) w := by go_simp

section
variable {w : World} {B N c : Nat} {b : PB} {p : PS}
theorem PoolAt.setMiss (h : PoolAt w B b N c p) (h0 : 0 < p.L.length) (x : Int) : PoolAt (w.setCell ⟨b.gp, 4, none⟩ (.int .i64 x)) B b N c { p with misses := x } := by
  have hne := h.ne h0
  have e := set_cells h.head 4 (.int .i64 x)
  simp at e
  refine ⟨h.lp, h.lf, h.lm, e, h.frames.set _ (fun a ha => ?_) _, h.map.set _ (fun e => hne.2.1 e.symm) _, fun f hf => (h.bytes f hf).far (fun a ha hb => h.far f hf a ha (.inl hb)) _, h.far⟩
  obtain rfl := Option.some.inj ha
  exact fun e => hne.1 e.symm
theorem PoolAt.setHit (h : PoolAt w B b N c p) (h0 : 0 < p.L.length) (x : Int) : PoolAt (w.setCell ⟨b.gp, 3, none⟩ (.int .i64 x)) B b N c { p with hits := x } := by
  have hne := h.ne h0
  have e := set_cells h.head 3 (.int .i64 x)
  simp at e
  refine ⟨h.lp, h.lf, h.lm, e, h.frames.set _ (fun a ha => ?_) _, h.map.set _ (fun e => hne.2.1 e.symm) _, fun f hf => (h.bytes f hf).far (fun a ha hb => h.far f hf a ha (.inl hb)) _, h.far⟩
  obtain rfl := Option.some.inj ha
  exact fun e => hne.1 e.symm
end

set_option maxRecDepth 20000 in
set_option maxHeartbeats 1000000 in
theorem get_miss (w : World) (B N c : Nat) (b : PB) (p : PS) (hP : PoolAt w B b N c p) (h0 : 0 < p.L.length) (k : Int) (h1 : -9223372036854775808 ≤ k) (h2 : k ≤ 9223372036854775807) (hk : whereOf p.L k = none) (hm : 0 ≤ p.misses ∧ p.misses < 1000000) :
    Calls Try.prog 11 #[.pointer (some ⟨b.gp, 0, none⟩), .int .i64 k] w fun e w' => e = .returned (.tuple #[.slice none 0 0, .bool false]) ∧ PoolAt w' B b N c { p with misses := p.misses + 1 } ∧ Keeps w w' b.own := by
  have c2 : w.cell? ⟨b.gp, 2, none⟩ = some (.map (some b.gm)) := by rw [cell_of_row w _ 2 _ _ _ hP.head]; rfl
  have c4 : w.cell? ⟨b.gp, 4, none⟩ = some (.int .i64 p.misses) := by rw [cell_of_row w _ 4 _ _ _ hP.head]; rfl
  have f4 : w.frozen? ⟨b.gp, 4, none⟩ = false := frozen_of_row w _ 4 _ _ hP.head
  have HP := Lib.hid hP
  have HK := Lib.hid hk
  clear hP hk
  go_enter Try.func11, Try.ntmps11
  go_wp2_with (at_lookup; refine wpList_pool_lookup rfl (.tmp 15) (.tmp 16) rfl rfl HP.out.map k rfl h1 h2 (zero_int w) ?_; rw [HK.out])
  go_ret2
  exact ⟨rfl, HP.out.setMiss h0 _, (Keeps.refl w _).set _ (.inl (.inl rfl)) _⟩

set_option maxRecDepth 20000 in
set_option maxHeartbeats 1000000 in
theorem get_hit (w : World) (B N c : Nat) (b : PB) (p : PS) (hP : PoolAt w B b N c p) (hL : p.L.length ≤ 64) (k : Int) (h1 : -9223372036854775808 ≤ k) (h2 : k ≤ 9223372036854775807) (i : Nat) (hi : i < p.L.length) (hk : whereOf p.L k = some i) (hm : 0 ≤ p.hits ∧ p.hits < 1000000) (hs : p.L[i].s.length ≤ 1000000) :
    Calls Try.prog 11 #[.pointer (some ⟨b.gp, 0, none⟩), .int .i64 k] w fun e w' => ∃ A' c', e = .returned (.tuple #[.slice A' p.L[i].s.length c', .bool true]) ∧ (BRow w' A' p.L[i].s ∧ ∀ a, A' = some a → w.heap.size ≤ a.block) ∧ PoolAt w' B b N c { p with hits := p.hits + 1, L := p.L.set i { p.L[i] with mark := true } } ∧ Keeps w w' b.own := by
  have c2 : w.cell? ⟨b.gp, 2, none⟩ = some (.map (some b.gm)) := by rw [cell_of_row w _ 2 _ _ _ hP.head]; rfl
  have c0 : w.cell? ⟨b.gp, 0, none⟩ = some (.slice (some ⟨b.gf, 0, none⟩) p.L.length c) := by rw [cell_of_row w _ 0 _ _ _ hP.head]; rfl
  have c3 : w.cell? ⟨b.gp, 3, none⟩ = some (.int .i64 p.hits) := by rw [cell_of_row w _ 3 _ _ _ hP.head]; rfl
  have f3 : w.frozen? ⟨b.gp, 3, none⟩ = false := frozen_of_row w _ 3 _ _ hP.head
  have hne := hP.ne (by omega)
  have hne1 : b.gf ≠ b.gp := fun e => hne.1 e.symm
  obtain ⟨d0, d1, d2⟩ := hP.frames.cell hi
  have g1 : w.frozen? ⟨b.gf, i * 3 + 1, none⟩ = false := hP.frames.free _
  have hii : (i : Int) < (p.L.length : Int) := by omega
  have HP := Lib.hid hP
  have HK := Lib.hid hk
  clear hP hk
  go_enter Try.func11, Try.ntmps11
  go_wp2_with (at_lookup; refine wpList_pool_lookup rfl (.tmp 15) (.tmp 16) rfl rfl HP.out.map k rfl h1 h2 (zero_int w) ?_; rw [HK.out]; simp only [Option.getD_some, Option.isSome_some])
  have hP2 := (HP.out.setHit (by omega) (p.hits + 1)).setMark (j := i) hi true
  have hK2 : Keeps w ((w.setCell ⟨b.gp, 3, none⟩ (.int .i64 (p.hits + 1))).setCell ⟨b.gf, i * 3 + 1, none⟩ (.bool true)) b.own := ((Keeps.refl w _).set ⟨b.gp, 3, none⟩ (.inl (.inl rfl)) _).set ⟨b.gf, i * 3 + 1, none⟩ (.inl (.inr (.inl rfl))) _
  have hbr := hP2.bytes { p.L[i] with mark := true } (List.mem_set hi _)
  refine (clone_any _ _ _ _ hbr hs).mono ?_
  rintro e w1 ⟨A1, c1, rfl, ho1, hb1⟩
  have HF := Lib.hid (And.intro (show BRow w1 A1 p.L[i].s ∧ ∀ a, A1 = some a → w.heap.size ≤ a.block from ⟨ho1.row, fun a ha => by have := (ho1.block a ha).1; simpa using this⟩) (And.intro (hP2.below hb1) (hK2.trans (Keeps.of_below hb1))))
  clear hP2 hK2 hbr ho1 hb1
  go_wp2_with fail
  go_ret2
  exact ⟨A1, c1, rfl, HF.out⟩
end Go.Proofs.Ytjaopecjmmnbiaa
