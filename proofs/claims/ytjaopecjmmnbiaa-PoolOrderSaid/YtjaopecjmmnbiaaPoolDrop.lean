/-
  The contracts of pool's Drop, Pages, Counts, and of New where a number is refused.
-/
import Derived.Test.YtjaopecjmmnbiaaPoolPut
import Derived.Test.YtjaopecjmmnbiaaElems
namespace Go.Proofs.Ytjaopecjmmnbiaa
set_option linter.unusedSimpArgs false
set_option linter.unusedVariables false
open Go.RowKit Go.Maps

set_option maxRecDepth 20000 in
set_option maxHeartbeats 1000000 in
theorem drop_miss (w : World) (B N c : Nat) (b : PB) (p : PS) (hP : PoolAt w B b N c p) (k : Int) (h1 : -9223372036854775808 ≤ k) (h2 : k ≤ 9223372036854775807) (hk : whereOf p.L k = none) :
    Calls Try.prog 14 #[.pointer (some ⟨b.gp, 0, none⟩), .int .i64 k] w fun e w' => e = .returned (.bool false) ∧ w = w' := by
  have c2 : w.cell? ⟨b.gp, 2, none⟩ = some (.map (some b.gm)) := by rw [cell_of_row w _ 2 _ _ _ hP.head]; rfl
  have HP := Lib.hid hP
  have HK := Lib.hid hk
  clear hP hk
  go_enter Try.func14, Try.ntmps14
  go_wp2_with (at_lookup; refine wpList_pool_lookup rfl (.tmp 13) (.tmp 14) rfl rfl HP.out.map k rfl h1 h2 (zero_int w) ?_; rw [HK.out]; simp only [Option.getD_none, Option.isSome_none])
  go_ret
  exact ⟨rfl, rfl⟩

set_option maxRecDepth 20000 in
set_option maxHeartbeats 1000000 in
theorem drop_hit (w : World) (B N c : Nat) (b : PB) (p : PS) (hP : PoolAt w B b N c p) (hG : Good p) (k : Int) (h1 : -9223372036854775808 ≤ k) (h2 : k ≤ 9223372036854775807) (i : Nat) (hk : whereOf p.L k = some i) :
    Calls Try.prog 14 #[.pointer (some ⟨b.gp, 0, none⟩), .int .i64 k] w fun e w' => e = .returned (.bool true) ∧ PoolAt w' B b N c { p with L := p.L.set i fr0 } ∧ Keeps w w' b.own := by
  obtain ⟨hi, hpk, hk0⟩ := where_some hk
  have hn0 := hG.n0
  have hn1 := hG.n1
  have c0 : w.cell? ⟨b.gp, 0, none⟩ = some (.slice (some ⟨b.gf, 0, none⟩) p.L.length c) := by rw [cell_of_row w _ 0 _ _ _ hP.head]; rfl
  have c2 : w.cell? ⟨b.gp, 2, none⟩ = some (.map (some b.gm)) := by rw [cell_of_row w _ 2 _ _ _ hP.head]; rfl
  have hii : (i : Int) < (p.L.length : Int) := by omega
  have hne := hP.ne hn0
  obtain ⟨d0, d1, d2⟩ := hP.frames.cell hi
  have g0 : w.frozen? ⟨b.gf, i * 3, none⟩ = false := hP.frames.free _
  have g1 : w.frozen? ⟨b.gf, i * 3 + 1, none⟩ = false := hP.frames.free _
  have g2 : w.frozen? ⟨b.gf, i * 3 + 2, none⟩ = false := hP.frames.free _
  have hS := hP.toF.store hi fr0 BRow.nil (fun a ha => by cases ha)
  have hK : Keeps w (((w.setCell ⟨b.gf, i * 3, none⟩ (.int .i64 (-1))).setCell ⟨b.gf, i * 3 + 1, none⟩ (.bool false)).setCell ⟨b.gf, i * 3 + 2, none⟩ (.slice none 0 0)) b.own :=
    (((Keeps.refl w _).set ⟨b.gf, i * 3, none⟩ (.inl (.inr (.inl rfl))) _).set ⟨b.gf, i * 3 + 1, none⟩ (.inl (.inr (.inl rfl))) _).set ⟨b.gf, i * 3 + 2, none⟩ (.inl (.inr (.inl rfl))) _
  have hnf : b.gp ≠ b.gf := hne.1
  have hm0 : 0 < (p.L.set i fr0).length := by simpa using hn0
  have HS := Lib.hid (And.intro hS hK)
  have HP := Lib.hid hP
  have HK := Lib.hid hk
  have HPK := Lib.hid hpk
  clear hP hk hS hK hpk hne
  go_enter Try.func14, Try.ntmps14
  go_wp2_with (first | (at_lookup; refine wpList_pool_lookup rfl (.tmp 13) (.tmp 14) rfl rfl HP.out.map k rfl h1 h2 (zero_int w) ?_; rw [HK.out]; simp only [Option.getD_some, Option.isSome_some]) | (at_delete; refine wpList_pool_delete rfl (.tmp 29) (.tmp 30) rfl rfl HS.out.1.map _ rfl h1 h2 ?_; intro w2 hm2 hg2))
  go_ret
  refine ⟨rfl, (HS.out.1.turn hm0 hm2 hg2).toAt ?_, HS.out.2.grown hg2 (.inr (.inr rfl))⟩
  funext j
  show _ = whereOf (p.L.set i fr0) j
  rw [where_set hG.once hi fr0 (fun h => absurd h (by simp [fr0])) j, HPK.out, if_neg (fun h : 0 ≤ j ∧ j = fr0.page => by have h1 := h.1; have h2 := h.2; simp only [fr0] at h2; omega)]

set_option maxRecDepth 20000 in
set_option maxHeartbeats 1000000 in
theorem counts_any (w : World) (B N c : Nat) (b : PB) (p : PS) (hP : PoolAt w B b N c p) :
    Calls Try.prog 19 #[.pointer (some ⟨b.gp, 0, none⟩)] w fun e w' => e = .returned (.tuple #[.int .i64 p.hits, .int .i64 p.misses]) ∧ Below w.heap.size w w' := by
  have c3 : w.cell? ⟨b.gp, 3, none⟩ = some (.int .i64 p.hits) := by rw [cell_of_row w _ 3 _ _ _ hP.head]; rfl
  have c4 : w.cell? ⟨b.gp, 4, none⟩ = some (.int .i64 p.misses) := by rw [cell_of_row w _ 4 _ _ _ hP.head]; rfl
  clear hP
  go_enter Try.func19, Try.ntmps19
  go_wp2_with fail
  go_quiet (fail)
  go_wp2_with fail
  go_ret2
  exact ⟨rfl, ⟨rfl, rfl, rfl, Nat.le_refl _, fun _ _ => rfl⟩⟩

set_option maxHeartbeats 400000 in
theorem new_refused (w : World) (n : Int) (h : n < 1 ∨ 64 < n) :
    Calls Try.prog 9 #[.int .i64 n] w fun e w' => e = .returned (.tuple #[.pointer none, .int .i64 1]) ∧ w = w' := by
  by_cases h1 : n < 1
  · go_enter Try.func9, Try.ntmps9
    go_wp2_with fail
    go_ret2
    exact ⟨rfl, rfl⟩
  · have h2 : 64 < n := by omega
    go_enter Try.func9, Try.ntmps9
    go_wp2_with fail
    go_ret2
    exact ⟨rfl, rfl⟩

theorem take_map_succ {α β : Type} {f : α → β} {L : List α} {i : Nat} (h : i < L.length) : (L.take (i + 1)).map f = (L.take i).map f ++ [f L[i]] := by
  rw [List.take_succ_eq_append_getElem h, List.map_append]; rfl

set_option maxRecDepth 20000 in
set_option maxHeartbeats 1000000 in
theorem pages_any (w : World) (B N c : Nat) (b : PB) (p : PS) (hP : PoolAt w B b N c p) (hn : p.L.length ≤ 64) :
    Calls Try.prog 12 #[.pointer (some ⟨b.gp, 0, none⟩)] w fun e w' => ∃ A' c', e = .returned (.slice A' p.L.length c') ∧ EOwn eInt w' w.heap.size A' c' (p.L.map (·.page)) ∧ Below w.heap.size w w' := by
  have c0 : w.cell? ⟨b.gp, 0, none⟩ = some (.slice (some ⟨b.gf, 0, none⟩) p.L.length c) := by rw [cell_of_row w _ 0 _ _ _ hP.head]; rfl
  have HF := Lib.hid hP.frames
  clear hP
  go_enter Try.func12, Try.ntmps12
  go_wp2_with fail
  go_loopw [3, 13] (fun ov iv wr => ∃ (i : Nat) (A1 : Option Addr) (c1 : Nat), i ≤ p.L.length ∧ iv = .int .i64 i ∧ ov = .slice A1 i c1 ∧ Hid (EOwn eInt wr w.heap.size A1 c1 ((p.L.take i).map (·.page)) ∧ Below w.heap.size w wr)) (fun _ iv _ => p.L.length - (intOf iv).toNat)
  case atStart => exact ⟨0, none, 0, by omega, rfl, rfl, EOwn.nil _ _, Below.refl _ _⟩
  case round =>
    obtain ⟨i, A1, c1, hi, rfl, rfl, HS⟩ := hrel
    by_cases hlt : i < p.L.length
    · have hlti : (i : Int) < (p.L.length : Int) := by omega
      obtain ⟨d0, d1, d2⟩ := (HF.out.below HS.out.2).cell hlt
      have hz := HS.out.2.size
      have ho := HS.out.1.alloc (.cells #[.int .i64 p.L[i].page, .bool p.L[i].mark, .slice p.L[i].A p.L[i].s.length p.L[i].c] 65)
      have ho2 := ho.alloc (.cells #[.int .i64 p.L[i].page] 3)
      have hrow := ERow.lit eInt (wr.alloc (.cells #[.int .i64 p.L[i].page, .bool p.L[i].mark, .slice p.L[i].A p.L[i].s.length p.L[i].c] 65)) p.L[i].page #[.int .i64 p.L[i].page] rfl (wr.heap.size + 1) (by simp)
      have hll : i = ((p.L.take i).map (·.page)).length := by simp; omega
      have HLL := Lib.hid hll
      have HB2 : Hid (Below w.heap.size w ((wr.alloc (.cells #[.int .i64 p.L[i].page, .bool p.L[i].mark, .slice p.L[i].A p.L[i].s.length p.L[i].c] 65)).alloc (.cells #[.int .i64 p.L[i].page] 3))) := (HS.out.2.alloc hz _).alloc (by simp; omega) _
      have HO := Lib.hid (And.intro ho2 hrow)
      clear hll ho ho2 hrow
      go_wp2_with (at_builtin; refine wpList_append_elems eInt rfl (.tmp 17) (.tmp 20) rfl _ rfl HO.out.1 HLL.out _ rfl HO.out.2 rfl (by simp; omega) (by simp; omega) ?_; intro A3 c3 w3 ho3 hb3 _ _)
      go_roundw
      case rel => exact ⟨i + 1, A3, c3, by omega, by go_num, rfl, by rw [take_map_succ hlt]; exact ho3, HB2.out.trans (hb3.mono (Nat.le_refl _))⟩
      case measure => simp [intOf]; omega
    · obtain rfl : i = p.L.length := by omega
      go_wp2_with fail
      go_ret
      exact ⟨A1, c1, rfl, by have := HS.out.1; rwa [List.take_length] at this, HS.out.2⟩
end Go.Proofs.Ytjaopecjmmnbiaa
