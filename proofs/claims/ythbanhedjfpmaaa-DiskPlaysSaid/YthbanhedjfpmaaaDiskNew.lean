/-
  The contract of disk's New.
-/
import Derived.Test.YthbanhedjfpmaaaDiskClone
namespace Go.Proofs.Ythbanhedjfpmaaa
set_option linter.unusedSimpArgs false
set_option linter.unusedVariables false
open Go.RowKit

theorem madeCells_elems {α : Type} (E : Elem α) (x : α) (hx : E.zero.cells.toList = E.code x) : ∀ n, (madeCells E.zero.cells (n * E.sz)).toList = E.cells (List.replicate n x) := by
  intro n
  have hpos := E.pos
  have hz := E.zsz
  apply List.ext_getElem?
  intro j
  by_cases hj : j < n * E.sz
  · rw [E.cells_get' _ j (by simpa using hj)]
    simp only [List.getElem_replicate]
    have hm : j % E.sz < E.sz := Nat.mod_lt _ hpos
    rw [← hx]
    have hm' : j % E.sz < E.zero.cells.size := by omega
    simp [madeCells, hj, hz]
    rw [getElem!_pos E.zero.cells (j % E.sz) hm', Array.getElem?_eq_getElem hm']
  · rw [List.getElem?_eq_none (by simp [size_madeCells]; omega), List.getElem?_eq_none (by rw [E.cells_length]; simp; omega)]
theorem wpList_make_elems {α : Type} (E : Elem α) (x0 : α) (hx0 : E.zero.cells.toList = E.code x0) {w : World} {B : Nat} {ops : Array Oper} {rest : List Oper} {o : Oper} {a : Act} {Q : Exit → Act → World → Prop} (hgd : o.guard = none) (x y : Operand) (hop : o.op = .makeSlice E.t x y)
    (kl kc : IntKind) (L C : Int) (n : Nat) (hx : a.eval x = .int kl L) (hy : a.eval y = .int kc C) (hL : L = (n : Int)) (hC : C = (n : Int)) (hb : n ≤ 1000000000) (hB : B ≤ w.heap.size)
    (h : ∀ w1, EOwn E w1 B (some ⟨w.heap.size, 0, none⟩) n (List.replicate n x0) → Below w.heap.size w w1 → wpList Try.prog ops Q rest (a.put o.dst (.slice (some ⟨w.heap.size, 0, none⟩) n n)) w1) :
    wpList Try.prog ops Q (o :: rest) a w := by
  obtain ⟨i, hi, hz, hs, hby⟩ := info_parts E.info
  have hbig : i.bytes * n ≤ 281474976710656 := by
    have h1 := Nat.mul_le_mul (show i.bytes ≤ 65536 by rw [hby]; exact E.few) hb
    omega
  refine wpList_make_full w hgd x y E.t hop B E.e i _ E.sz E.under hi hz hs kl kc L C n hx hy hL hC hbig (by simp [maxLen]; omega) hB fun w1 h1 h2 => ?_
  refine h w1 ?_ ((Below.refl _ w).grown h2 (Nat.le_refl _) (fun k hk => by cases hk))
  rw [madeCells_elems E x0 hx0] at h1
  have hl : (List.replicate n x0).length = n := List.length_replicate
  show w1.ownsRow B E.e E.sz (.slice _ (List.replicate n x0).length n) (List.replicate n x0).length _
  rw [hl]
  exact h1
def DS.new (n : Nat) : DS := { blocks := List.replicate n ⟨B512.zero, B512.zero⟩, pending := [], falls := [], changes := 0, down := false }
theorem dgood_new (n : Nat) (h0 : 0 < n) (hn : n ≤ 4096) : DGood (DS.new n) :=
  ⟨by simpa [DS.new] using h0, by simpa [DS.new] using hn, by simp [DS.new], by simp [DS.new], fun x hx => by simp [DS.new] at hx, fun x hx => by simp [DS.new] at hx⟩
theorem zeroDB : eDB.zero.cells.toList = eDB.code ⟨B512.zero, B512.zero⟩ := by
  show List.replicate 1024 (Value.int .u8 0) = (List.replicate 512 (0 : UInt8)).map bv ++ (List.replicate 512 (0 : UInt8)).map bv
  rw [List.map_replicate, List.replicate_append_replicate]
  exact congrArg (List.replicate 1024) (rfl : Value.int .u8 0 = bv 0)
set_option maxHeartbeats 400000 in
theorem dnew_refused (w : World) (n : Int) (h : n < 1 ∨ 4096 < n) :
    Calls Try.prog 15 #[.int .i64 n] w fun e w' => e = .returned (.tuple #[.pointer none, .int .i64 1]) ∧ w = w' := by
  by_cases h1 : n < 1
  · go_enter Try.func15, Try.ntmps15
    go_wp2_with fail
    go_ret2
    exact ⟨rfl, rfl⟩
  · have h2 : 4096 < n := by omega
    go_enter Try.func15, Try.ntmps15
    go_wp2_with fail
    go_ret2
    exact ⟨rfl, rfl⟩
set_option maxRecDepth 20000 in
set_option maxHeartbeats 1000000 in
theorem dnew_any (w : World) (n : Nat) (h0 : 0 < n) (hn : n ≤ 4096) :
    Calls Try.prog 15 #[.int .i64 n] w fun e w' => ∃ k, e = .returned (.tuple #[.pointer (some ⟨k.gd, 0, none⟩), .int .i64 0]) ∧ DiskAt w' w.heap.size k (DS.new n) ∧ Below w.heap.size w w' := by
  have hlo : ¬ (n : Int) < 1 := by omega
  have hhi : ¬ (4096 : Int) < (n : Int) := by omega
  go_enter Try.func15, Try.ntmps15
  go_wp2_with (refine wpList_make_elems eDB ⟨B512.zero, B512.zero⟩ zeroDB rfl (.tmp 10) (.tmp 10) rfl _ _ _ _ n rfl rfl rfl rfl (by omega) (Nat.le_refl _) ?_; intro w1 ho hb)
  go_ret2
  obtain ⟨ba, hz, hB⟩ := fresh1 (w := w1) (a := [.slice (some ⟨w.heap.size, 0, none⟩) n n, .slice none 0 0, .slice none 0 0, .int .i64 0, .bool false]) (t := 93) rfl
  have hlt := (ho.block _ rfl).2
  refine ⟨⟨w1.heap.size, w.heap.size⟩, rfl, ⟨⟨n, 0, 0, 0, 0, none, none, rfl, rfl, Nat.le_refl _, Nat.zero_le _, fun _ => rfl, ?_, ho.below hB, EOwn.nil _ _, EOwn.nil _ _, (fun a ha => by cases ha), (fun a ha => by cases ha)⟩, hb.size⟩, hb.trans (hB.mono hb.size)⟩
  show Blk _ _ _ [.slice _ (List.replicate n (_ : DB)).length _, _, _, _, _]
  rw [List.length_replicate]
  exact ba
end Go.Proofs.Ythbanhedjfpmaaa
