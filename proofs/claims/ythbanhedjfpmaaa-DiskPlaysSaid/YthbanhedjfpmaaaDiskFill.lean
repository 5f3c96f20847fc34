/-
  The contract of the law's fill.
-/
import Derived.Test.YthbanhedjfpmaaaDiskNew
import Derived.Lib.LazyBuf
namespace Go.Proofs.Ythbanhedjfpmaaa
set_option linter.unusedSimpArgs false
set_option linter.unusedVariables false
open Go.RowKit

theorem BOwn.setCells {B c g : Nat} : ∀ (m : List UInt8) {w : World} (pre l : List UInt8), BOwn w B (some ⟨g, 0, none⟩) c (pre ++ l) → m.length ≤ l.length → BOwn (w.setCells g pre.length (m.map bv)) B (some ⟨g, 0, none⟩) c (pre ++ (m ++ l.drop m.length))
  | [], w, pre, l, h, _ => by simpa [World.setCells] using h
  | x :: m, w, pre, [], h, hl => by simp at hl
  | x :: m, w, pre, y :: l, h, hl => by
    have h1 := h.store pre.length x (bv x) rfl
    have e : (pre ++ y :: l).set pre.length x = (pre ++ [x]) ++ l := by rw [List.set_append_right _ _ (Nat.le_refl _), Nat.sub_self, List.set_cons_zero, List.append_assoc]; rfl
    rw [e] at h1
    have h2 := BOwn.setCells m (pre ++ [x]) l h1 (by simpa using hl)
    rw [List.length_append, List.append_assoc] at h2
    exact h2
/-- copy(dst, s), s a string of any length. -/
theorem run_copy_text (w : World) (dT sT ty elem : TypeId) (b o dLen dCap : Nat) (s : List UInt8)
    (hu : Try.prog.underlying dT = some (.slice elem)) (hz : ∀ w, (Go.sizeOf elem).run Try.prog w = .ok 1 w)
    (hc : ∀ j, j < (s.take dLen).length → (w.cell? ⟨b, o + j, none⟩).isSome = true) (hf : ∀ j, j < (s.take dLen).length → w.frozen? ⟨b, o + j, none⟩ = false) :
    (Builtin.copy_ #[dT, sT] ty #[.slice (some ⟨b, o, none⟩) dLen dCap, txt s]).run Try.prog w = .ok (goInt (s.take dLen).length) (w.setCells b o ((s.take dLen).map bv)) := by
  have hst := run_storeCells_cells (P := Try.prog) b o ((s.take dLen).map bv) 0 w (by simpa using hc) (by simpa using hf) (by
    intro v hv
    obtain ⟨x, _, rfl⟩ := List.mem_map.1 hv
    rfl)
  have hsz : (ByteArray.mk s.toArray).size = s.length := by simp [ByteArray.size]
  have hmin : Nat.min s.length dLen = (s.take dLen).length := by rw [List.length_take, Nat.min_comm]
  have htk : List.take (s.take dLen).length (List.map (fun b : UInt8 => Value.int IntKind.u8 (b.toNat : Int)) s) = (s.take dLen).map bv := by
    show List.take _ (List.map bv s) = _
    rw [List.map_take, List.length_take, List.take_eq_take_iff]
    simp
  unfold txt
  simp [Builtin.copy_, run_underlying hu, Builtin.lenOf, Builtin.firstCells, hz, hsz]
  rw [hmin, htk, hst, List.map_take, List.length_take]
  rfl
def fillL (c : UInt8) (s : List UInt8) : List UInt8 := s.take 512 ++ (List.replicate 512 c).drop (s.take 512).length
theorem fillL_length (c : UInt8) (s : List UInt8) : (fillL c s).length = 512 := by
  unfold fillL
  rw [List.length_append, List.length_drop, List.length_replicate, List.length_take]; omega
def fillB (c : UInt8) (s : List UInt8) : B512 := ⟨fillL c s, fillL_length c s⟩
theorem fill_step (c : UInt8) (i : Nat) (hi : i < 512) : (List.replicate i c ++ List.replicate (512 - i) (0 : UInt8)).set i c = List.replicate (i + 1) c ++ List.replicate (512 - (i + 1)) 0 := by
  rw [List.set_append_right _ _ (by simp), List.length_replicate, Nat.sub_self, show 512 - i = (512 - (i + 1)) + 1 from by omega, List.replicate_succ, List.set_cons_zero, List.replicate_succ', List.append_assoc]
  rfl
set_option maxRecDepth 20000 in
set_option maxHeartbeats 1000000 in
theorem fill_any (w : World) (c : UInt8) (s : List UInt8) :
    Calls Try.prog 16 #[.int .u8 (c.toNat : Int), txt s] w fun e w' => ∃ A cap, e = .returned (.slice A 512 cap) ∧ BOwn w' w.heap.size A cap (fillL c s) ∧ Below w.heap.size w w' := by
  go_enter Try.func16, Try.ntmps16
  go_wp2_with (refine wpList_make_zeros rfl (.const (.int .i64 512)) (.const (.int .i64 512)) rfl _ _ _ _ 512 rfl rfl rfl rfl (by decide) (Nat.le_refl _) ?_; intro w1 ho hb)
  have HI : Hid (BOwn w1 w.heap.size (some ⟨w.heap.size, 0, none⟩) 512 (List.replicate 0 c ++ List.replicate (512 - 0) 0) ∧ Below w.heap.size w w1) := ⟨by simpa using ho, hb⟩
  clear ho hb
  go_loopw [10] (fun iv wr => ∃ i : Nat, i ≤ 512 ∧ iv = .int .i64 i ∧ Hid (BOwn wr w.heap.size (some ⟨w.heap.size, 0, none⟩) 512 (List.replicate i c ++ List.replicate (512 - i) 0) ∧ Below w.heap.size w wr)) (fun iv _ => 512 - (intOf iv).toNat)
  case atStart => exact ⟨0, by omega, rfl, HI.out⟩
  case round =>
    obtain ⟨i, hi, rfl, HJ⟩ := hrel
    clear HI
    by_cases hlt : i < 512
    · have hii : (i : Int) < 512 := by omega
      have hl : (List.replicate i c ++ List.replicate (512 - i) (0 : UInt8)).length = 512 := by simp; omega
      have hcell : (wr.cell? ⟨w.heap.size, i, none⟩).isSome = true := by rw [HJ.out.1.cell (by rw [hl]; exact hlt)]; rfl
      have hce := HJ.out.1.cell (j := i) (by rw [hl]; exact hlt)
      have hfr := HJ.out.1.free i
      go_wp2_with fail
      go_roundw
      case rel =>
        refine ⟨i + 1, by omega, by go_num, ?_, HJ.out.2.setCell (p := ⟨w.heap.size, i, none⟩) (Nat.le_refl _) _⟩
        rw [← fill_step c i hlt]
        exact HJ.out.1.store i c _ rfl
      case measure => simp [intOf]; omega
    · obtain rfl : i = 512 := by omega
      have HC : Hid (BOwn wr w.heap.size (some ⟨w.heap.size, 0, none⟩) 512 (List.replicate 512 c) ∧ Below w.heap.size w wr) := ⟨by simpa using HJ.out.1, HJ.out.2⟩
      clear HJ hlt
      have hl : (List.replicate 512 c).length = 512 := List.length_replicate
      have hts : (s.take 512).length ≤ 512 := by rw [List.length_take]; omega
      have hcp := run_copy_text wr 33 9 3 5 w.heap.size 0 512 512 s Try.underlying33 (fun _ => rfl) (fun j hj => by rw [Nat.zero_add, HC.out.1.cell (by rw [hl]; omega)]; rfl) (fun j hj => HC.out.1.free _)
      have HB := Lib.hid (BOwn.setCells (s.take 512) [] (List.replicate 512 c) HC.out.1 (by rw [hl]; exact hts))
      have HG := Lib.hid (HC.out.2.grown (grown_setCells wr w.heap.size 0 ((s.take 512).map bv)) HC.out.2.size (fun k hk => by simp at hk; omega))
      clear hl hts
      go_wp2_with (refine wpList_runv rfl (exec_copy (d := .tmp 18) (s := .tmp 19) rfl rfl rfl hcp) ?_)
      go_ret
      exact ⟨_, 512, rfl, by rw [← List.map_take]; exact HB.out, by rw [← List.map_take]; exact HG.out⟩
end Go.Proofs.Ythbanhedjfpmaaa
