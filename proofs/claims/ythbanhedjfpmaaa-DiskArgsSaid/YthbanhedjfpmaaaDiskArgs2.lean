/-
  The walk of DiskArgs, joined.
-/
import Derived.Test.YthbanhedjfpmaaaDiskArgs
namespace Go.Proofs.Ythbanhedjfpmaaa
set_option linter.unusedSimpArgs false
set_option linter.unusedVariables false
open Go.RowKit

theorem exec_makeSlice {P : Program} {o : Oper} {a : Act} {w w' : World} {T : TypeId} {x y : Operand} {u v r : Value} (hop : o.op = .makeSlice T x y) (hx : a.eval x = u) (hy : a.eval y = v) (hrun : (Instr.makeSlice T u v).run P w = .ok r w') : (execOp a.eval o).run P w = .ok (.value r) w' := by
  simp [execOp, hop, hx, hy, hrun, Sem.run_bind]
theorem run_make_zeros (w : World) (kl kc : IntKind) (n : Nat) (hb : n ≤ 281474976710656) :
    ∃ w1, (Instr.makeSlice 33 (.int kl (n : Int)) (.int kc (n : Int))).run Try.prog w = .ok (.slice (some ⟨w.heap.size, 0, none⟩) n n) w1 ∧ BOwn w1 w.heap.size (some ⟨w.heap.size, 0, none⟩) n (List.replicate n 0) ∧ Below w.heap.size w w1 := by
  obtain ⟨i, hi, hz, hs, hby⟩ := info_parts info8
  obtain ⟨w1, hr, h1, h2⟩ := run_make_full (P := Try.prog) w w.heap.size 33 5 i _ 1 Try.underlying33 hi hz hs kl kc n (by rw [hby]; omega) (by simp [maxLen]; omega) (Nat.le_refl _)
  refine ⟨w1, hr, ?_, (Below.refl _ w).grown h2 (Nat.le_refl _) (fun k hk => by cases hk)⟩
  have e : (madeCells (Value.int .u8 0).cells (n * 1)).toList = (List.replicate n (0 : UInt8)).map bv := by
    rw [Nat.mul_one]
    show (madeCells #[Value.int .u8 0] n).toList = _
    rw [toList_madeCells_one, List.map_replicate]
    rfl
  rw [e] at h1
  simpa [BOwn] using h1
set_option maxRecDepth 20000 in
set_option maxHeartbeats 1000000 in
theorem diskArgs_in (w : World) (n i : Nat) (h0 : 0 < n) (hn : n ≤ 4096) (hi : i < n) :
    Calls Try.prog 7 #[.int .i64 (n : Int), .int .i64 (i : Int)] w fun e w' => e = .returned (.bool true) ∧ Below w.heap.size w w' := by
  have hlo : ¬ (n : Int) < 1 := by omega
  have hhi : ¬ (4096 : Int) < (n : Int) := by omega
  have hi0 : ¬ (i : Int) < 0 := by omega
  have hi1 : ¬ (n : Int) ≤ (i : Int) := by omega
  have HI : Hid (∀ {P : Prop}, (∀ i' : Int, i' = (i : Int) → P) → P) := fun h => h _ rfl
  go_enter Try.func7, Try.ntmps7
  go_wp2_with fail
  refine (lives_any w).mono ?_
  rintro e w0 ⟨rfl, hB⟩
  have HB := Lib.hid hB
  clear hB
  go_wp2_with fail
  refine (DL.new (w0 := w) n h0 hn HB.out).mono ?_
  rintro e w1 ⟨k, rfl, hL, -⟩
  have HL := Lib.hid hL
  clear hL HB
  go_wp2_with fail
  refine (read_nil w1 i).mono ?_
  rintro e w8 ⟨rfl, rfl⟩
  go_wp2_with fail
  refine (fill_any w1 1 []).mono ?_
  rintro e w2 ⟨A, c, rfl, -, hb⟩
  have HF := Lib.hid hb
  clear hb
  go_wp2_with fail
  refine (write_nil w2 i A 512 c).mono ?_
  rintro e w8 ⟨rfl, rfl⟩
  go_wp2_with fail
  refine (flush_nil w2).mono ?_
  rintro e w8 ⟨rfl, rfl⟩
  go_wp2_with fail
  refine (up_nil w2).mono ?_
  rintro e w8 ⟨rfl, rfl⟩
  go_wp2_with fail
  refine (down_nil w2).mono ?_
  rintro e w8 ⟨rfl, rfl⟩
  go_wp2_with fail
  refine (pending_nil w2).mono ?_
  rintro e w8 ⟨rfl, rfl⟩
  go_wp2_with fail
  refine (changes_nil w2).mono ?_
  rintro e w8 ⟨rfl, rfl⟩
  go_wp2_with fail
  refine (blocks_nil w2).mono ?_
  rintro e w8 ⟨rfl, rfl⟩
  go_wp2_with fail
  refine (dclone_nil w2).mono ?_
  rintro e w8 ⟨rfl, rfl⟩
  go_wp2_with fail
  refine (plan_nil w2 none 0 0).mono ?_
  rintro e w3 ⟨rfl, hb⟩
  have HP := Lib.hid hb
  clear hb
  go_wp2_with fail
  refine (crash_nil w3 0 0 0).mono ?_
  rintro e w4 ⟨rfl, hb⟩
  have HB4 : Hid (Below (w1).heap.size w1 w4) := (HF.out.trans (HP.out.mono HF.out.size)).trans (hb.mono (Nat.le_trans HF.out.size HP.out.size))
  clear hb HF HP
  have HL4 := Lib.hid (HL.out.below HB4.out)
  clear HL HB4 HI
  have hlen : (DS.new n).blocks.length = n := by simp [DS.new]
  have hwhy : (DS.new n).why i = 0 := by
    unfold DS.why
    rw [if_neg (by simp [DS.new]), if_neg (by rw [hlen]; omega)]
  have HWHY := Lib.hid hwhy
  have HR := Lib.hid (read_ok w4 _ k (DS.new n) HL4.out.at_ i (by simp [DS.new]; exact hi) rfl)
  clear hwhy hlen
  go_wp2_with fail
  refine HR.out.mono ?_
  rintro e w9 ⟨A, c, rfl, ho, hb⟩
  have ho' : BOwn w9 w4.heap.size A c (List.replicate 512 0) := by
    have e : (DS.new n).blocks[i]'(by simp [DS.new]; exact hi) = ⟨B512.zero, B512.zero⟩ := by simp [DS.new]
    rw [e] at ho
    exact ho
  have hl : (List.replicate 512 (0 : UInt8)).length = 512 := List.length_replicate
  have hc := ho'.cap
  generalize hZ : List.replicate 512 (0 : UInt8) = Z at ho' hl hc
  rw [hl] at hc
  obtain ⟨g, rfl⟩ : ∃ g, A = some ⟨g, 0, none⟩ := by
    rcases ho'.form with ⟨_, _, h⟩ | ⟨g, h, _⟩
    · rw [h] at hl; simp at hl
    · exact ⟨g, h⟩
  have HF := Lib.hid (And.intro ho'.row (HL4.out.below hb))
  clear ho ho' hb HL4 HR
  go_wp2_with fail
  have HWL : Hid (∀ w', Below w9.heap.size w9 w' → ∀ (A : Option Addr) (c : Nat), Calls Try.prog 17 #[.pointer (some ⟨k.gd, 0, none⟩), .int .i64 i, .slice A 511 c] w' fun e w'' => e = .returned (.int .i64 1) ∧ w' = w'') := fun w' hb A c => by
    have h := write_long w' _ k (DS.new n) (HF.out.2.below hb).at_ i A c (List.replicate 511 0) HWHY.out (by rw [List.length_replicate]; decide)
    rw [List.length_replicate] at h
    exact h
  have HWN : Hid (∀ w', Below w9.heap.size w9 w' → Calls Try.prog 17 #[.pointer (some ⟨k.gd, 0, none⟩), .int .i64 i, .slice none 0 0] w' fun e w'' => e = .returned (.int .i64 1) ∧ w' = w'') := fun w' hb =>
    write_long w' _ k (DS.new n) (HF.out.2.below hb).at_ i none 0 [] HWHY.out (by decide)
  apply wp_region_many (S := fun _ _ w' => Below w9.heap.size w9 w') (R := fun j x w' => match j with
    | 0 => x = .int .i64 0
    | 3 => x = .int .i64 0
    | 7 => x = .slice (some ⟨g, 0, none⟩) 512 c
    | 8 => x = txt Z
    | 9 => ∃ A', x = .slice A' 512 512 ∧ BRow w' A' Z
    | 10 => x = txt Z
    | 14 => x = .pointer (some ⟨k.gd, 0, none⟩)
    | 15 => x = .int .i64 (i : Int)
    | 16 => x = .slice (some ⟨g, 0, none⟩) 512 c
    | 17 => x = .slice (some ⟨g, 1, none⟩) 511 (c - 1)
    | 18 => x = .int .i64 1
    | 22 => x = .pointer (some ⟨k.gd, 0, none⟩)
    | 23 => x = .int .i64 (i : Int)
    | 24 => x = .int .i64 1
    | 28 => x = .pointer (some ⟨k.gd, 0, none⟩)
    | 29 => x = .int .i64 0
    | _ => x = .bool true) (Gr := fun w1 w2 => Below w1.heap.size w1 w2)
  case hG => (intro v; simp only [regFrame, List.zipIdx_cons, List.zipIdx_nil, List.foldl_cons, List.foldl_nil, Act.put, List.setIfInBounds_toArray, List.set_cons_zero, List.set_cons_succ, Nat.reduceAdd]; rfl)
  case hm => kernel_rfl
  case honce => rfl
  case hlow => kernel_rfl
  case hR =>
    intro j x w' w'' hb h
    split at h <;> try exact h
    obtain ⟨A1, h1, h2⟩ := h
    exact ⟨A1, h1, h2.below hb⟩
  case h0 => exact fun v => below_drew w9
  case hstep =>
    refine ⟨?_, ?_, ?_, ?_, ?_, ?_, ?_, ?_, ?_, ?_, ?_, ?_, ?_, ?_, ?_, ?_, ?_, ?_, ?_, ?_, ?_, ?_, ?_, ?_, ?_, ?_, ?_, ?_, ?_, ?_, ?_, ?_, ?_, trivial⟩ <;> (intro D v w' hI hbef hd; simp only [Deps, Region.binds, ↓reduceIte, and_true] at hd; clear hbef)
    · (first | exact opDoes_move _ rfl rfl ⟨(by first | trivial | exact fun _ _ h => h | exact Below.refl _ _), rfl, by (first | exact hI | simpa using hI)⟩ | exact opDoes_gmove _ (wanted_guard rfl rfl rfl (by simp only [hd]; rfl)) rfl ⟨(by first | trivial | exact fun _ _ h => h | exact Below.refl _ _), rfl, by (first | exact hI | simpa using hI)⟩ | (refine opDoes_move _ rfl rfl ⟨(by first | trivial | exact fun _ _ h => h | exact Below.refl _ _), ?_, by (first | exact hI | simpa using hI)⟩; go_simp; done) | (refine opDoes_gmove _ (wanted_guard rfl rfl rfl (by simp only [hd]; rfl)) rfl ⟨(by first | trivial | exact fun _ _ h => h | exact Below.refl _ _), ?_, by (first | exact hI | simpa using hI)⟩; go_simp; done) | (refine opDoes_assign _ rfl rfl ⟨(by first | trivial | exact fun _ _ h => h | exact Below.refl _ _), ?_, by (first | exact hI | simpa using hI)⟩; go_simp; done))
    · (first | (refine opDoes_run (x := (.bool true)) rfl ?_ ⟨(by first | trivial | exact fun _ _ h => h | exact Below.refl _ _), rfl, by (first | exact hI | simpa using hI)⟩; go_simp; done) | (refine opDoes_grun (x := (.bool true)) (wanted_guard rfl rfl rfl (by simp only [hd]; rfl)) ?_ ⟨(by first | trivial | exact fun _ _ h => h | exact Below.refl _ _), rfl, by (first | exact hI | simpa using hI)⟩; go_simp; done))
    · (first | exact opDoes_move _ rfl rfl ⟨(by first | trivial | exact fun _ _ h => h | exact Below.refl _ _), rfl, by (first | exact hI | simpa using hI)⟩ | exact opDoes_gmove _ (wanted_guard rfl rfl rfl (by simp only [hd]; rfl)) rfl ⟨(by first | trivial | exact fun _ _ h => h | exact Below.refl _ _), rfl, by (first | exact hI | simpa using hI)⟩ | (refine opDoes_move _ rfl rfl ⟨(by first | trivial | exact fun _ _ h => h | exact Below.refl _ _), ?_, by (first | exact hI | simpa using hI)⟩; go_simp; done) | (refine opDoes_gmove _ (wanted_guard rfl rfl rfl (by simp only [hd]; rfl)) rfl ⟨(by first | trivial | exact fun _ _ h => h | exact Below.refl _ _), ?_, by (first | exact hI | simpa using hI)⟩; go_simp; done) | (refine opDoes_assign _ rfl rfl ⟨(by first | trivial | exact fun _ _ h => h | exact Below.refl _ _), ?_, by (first | exact hI | simpa using hI)⟩; go_simp; done))
    · (first | exact opDoes_move _ rfl rfl ⟨(by first | trivial | exact fun _ _ h => h | exact Below.refl _ _), rfl, by (first | exact hI | simpa using hI)⟩ | exact opDoes_gmove _ (wanted_guard rfl rfl rfl (by simp only [hd]; rfl)) rfl ⟨(by first | trivial | exact fun _ _ h => h | exact Below.refl _ _), rfl, by (first | exact hI | simpa using hI)⟩ | (refine opDoes_move _ rfl rfl ⟨(by first | trivial | exact fun _ _ h => h | exact Below.refl _ _), ?_, by (first | exact hI | simpa using hI)⟩; go_simp; done) | (refine opDoes_gmove _ (wanted_guard rfl rfl rfl (by simp only [hd]; rfl)) rfl ⟨(by first | trivial | exact fun _ _ h => h | exact Below.refl _ _), ?_, by (first | exact hI | simpa using hI)⟩; go_simp; done) | (refine opDoes_assign _ rfl rfl ⟨(by first | trivial | exact fun _ _ h => h | exact Below.refl _ _), ?_, by (first | exact hI | simpa using hI)⟩; go_simp; done))
    · (first | (refine opDoes_run (x := (.bool true)) rfl ?_ ⟨(by first | trivial | exact fun _ _ h => h | exact Below.refl _ _), rfl, by (first | exact hI | simpa using hI)⟩; go_simp; done) | (refine opDoes_grun (x := (.bool true)) (wanted_guard rfl rfl rfl (by simp only [hd]; rfl)) ?_ ⟨(by first | trivial | exact fun _ _ h => h | exact Below.refl _ _), rfl, by (first | exact hI | simpa using hI)⟩; go_simp; done))
    · (first | (refine opDoes_run (x := (.bool true)) rfl ?_ ⟨(by first | trivial | exact fun _ _ h => h | exact Below.refl _ _), rfl, by (first | exact hI | simpa using hI)⟩; go_simp; done) | (refine opDoes_grun (x := (.bool true)) (wanted_guard rfl rfl rfl (by simp only [hd]; rfl)) ?_ ⟨(by first | trivial | exact fun _ _ h => h | exact Below.refl _ _), rfl, by (first | exact hI | simpa using hI)⟩; go_simp; done))
    · (first | exact opDoes_move _ rfl rfl ⟨(by first | trivial | exact fun _ _ h => h | exact Below.refl _ _), rfl, by (first | exact hI | simpa using hI)⟩ | exact opDoes_gmove _ (wanted_guard rfl rfl rfl (by simp only [hd]; rfl)) rfl ⟨(by first | trivial | exact fun _ _ h => h | exact Below.refl _ _), rfl, by (first | exact hI | simpa using hI)⟩ | (refine opDoes_move _ rfl rfl ⟨(by first | trivial | exact fun _ _ h => h | exact Below.refl _ _), ?_, by (first | exact hI | simpa using hI)⟩; go_simp; done) | (refine opDoes_gmove _ (wanted_guard rfl rfl rfl (by simp only [hd]; rfl)) rfl ⟨(by first | trivial | exact fun _ _ h => h | exact Below.refl _ _), ?_, by (first | exact hI | simpa using hI)⟩; go_simp; done) | (refine opDoes_assign _ rfl rfl ⟨(by first | trivial | exact fun _ _ h => h | exact Below.refl _ _), ?_, by (first | exact hI | simpa using hI)⟩; go_simp; done))
    · (first | exact opDoes_move _ rfl rfl ⟨(by first | trivial | exact fun _ _ h => h | exact Below.refl _ _), rfl, by (first | exact hI | simpa using hI)⟩ | exact opDoes_gmove _ (wanted_guard rfl rfl rfl (by simp only [hd]; rfl)) rfl ⟨(by first | trivial | exact fun _ _ h => h | exact Below.refl _ _), rfl, by (first | exact hI | simpa using hI)⟩ | (refine opDoes_move _ rfl rfl ⟨(by first | trivial | exact fun _ _ h => h | exact Below.refl _ _), ?_, by (first | exact hI | simpa using hI)⟩; go_simp; done) | (refine opDoes_gmove _ (wanted_guard rfl rfl rfl (by simp only [hd]; rfl)) rfl ⟨(by first | trivial | exact fun _ _ h => h | exact Below.refl _ _), ?_, by (first | exact hI | simpa using hI)⟩; go_simp; done) | (refine opDoes_assign _ rfl rfl ⟨(by first | trivial | exact fun _ _ h => h | exact Below.refl _ _), ?_, by (first | exact hI | simpa using hI)⟩; go_simp; done))
    · have hcv := run_string_bytes w' c (HF.out.1.below hI)
      rw [hl] at hcv
      (first | (refine opDoes_run (x := (txt Z)) rfl ?_ ⟨(by first | trivial | exact fun _ _ h => h | exact Below.refl _ _), rfl, by (first | exact hI | simpa using hI)⟩; go_simp; done) | (refine opDoes_grun (x := (txt Z)) (wanted_guard rfl rfl rfl (by simp only [hd]; rfl)) ?_ ⟨(by first | trivial | exact fun _ _ h => h | exact Below.refl _ _), rfl, by (first | exact hI | simpa using hI)⟩; go_simp; done))
    · obtain ⟨W1, hrun, ho1, hb1⟩ := run_make_zeros w' .i64 .i64 512 (by decide)
      rw [hZ] at ho1
      exact opDoes_grun (wanted_guard rfl rfl rfl (by simp only [hd]; rfl)) (exec_makeSlice rfl rfl rfl hrun) ⟨hb1, ⟨_, rfl, ho1.row⟩, hI.trans (hb1.mono hI.size)⟩
    · obtain ⟨⟨-, A1, h9, hr9⟩, h6⟩ := hd
      have hd := And.intro h9 h6
      have hcv := run_string_bytes w' 512 hr9
      rw [hl] at hcv
      clear hr9
      (first | (refine opDoes_run (x := (txt Z)) rfl ?_ ⟨(by first | trivial | exact fun _ _ h => h | exact Below.refl _ _), rfl, by (first | exact hI | simpa using hI)⟩; go_simp; done) | (refine opDoes_grun (x := (txt Z)) (wanted_guard rfl rfl rfl (by simp only [hd]; rfl)) ?_ ⟨(by first | trivial | exact fun _ _ h => h | exact Below.refl _ _), rfl, by (first | exact hI | simpa using hI)⟩; go_simp; done))
    · unfold txt at hd
      (first | (refine opDoes_run (x := (.bool true)) rfl ?_ ⟨(by first | trivial | exact fun _ _ h => h | exact Below.refl _ _), rfl, by (first | exact hI | simpa using hI)⟩; go_simp; done) | (refine opDoes_grun (x := (.bool true)) (wanted_guard rfl rfl rfl (by simp only [hd]; rfl)) ?_ ⟨(by first | trivial | exact fun _ _ h => h | exact Below.refl _ _), rfl, by (first | exact hI | simpa using hI)⟩; go_simp; done))
    · (first | (refine opDoes_run (x := (.bool true)) rfl ?_ ⟨(by first | trivial | exact fun _ _ h => h | exact Below.refl _ _), rfl, by (first | exact hI | simpa using hI)⟩; go_simp; done) | (refine opDoes_grun (x := (.bool true)) (wanted_guard rfl rfl rfl (by simp only [hd]; rfl)) ?_ ⟨(by first | trivial | exact fun _ _ h => h | exact Below.refl _ _), rfl, by (first | exact hI | simpa using hI)⟩; go_simp; done))
    · (first | exact opDoes_move _ rfl rfl ⟨(by first | trivial | exact fun _ _ h => h | exact Below.refl _ _), rfl, by (first | exact hI | simpa using hI)⟩ | exact opDoes_gmove _ (wanted_guard rfl rfl rfl (by simp only [hd]; rfl)) rfl ⟨(by first | trivial | exact fun _ _ h => h | exact Below.refl _ _), rfl, by (first | exact hI | simpa using hI)⟩ | (refine opDoes_move _ rfl rfl ⟨(by first | trivial | exact fun _ _ h => h | exact Below.refl _ _), ?_, by (first | exact hI | simpa using hI)⟩; go_simp; done) | (refine opDoes_gmove _ (wanted_guard rfl rfl rfl (by simp only [hd]; rfl)) rfl ⟨(by first | trivial | exact fun _ _ h => h | exact Below.refl _ _), ?_, by (first | exact hI | simpa using hI)⟩; go_simp; done) | (refine opDoes_assign _ rfl rfl ⟨(by first | trivial | exact fun _ _ h => h | exact Below.refl _ _), ?_, by (first | exact hI | simpa using hI)⟩; go_simp; done))
    · (first | exact opDoes_move _ rfl rfl ⟨(by first | trivial | exact fun _ _ h => h | exact Below.refl _ _), rfl, by (first | exact hI | simpa using hI)⟩ | exact opDoes_gmove _ (wanted_guard rfl rfl rfl (by simp only [hd]; rfl)) rfl ⟨(by first | trivial | exact fun _ _ h => h | exact Below.refl _ _), rfl, by (first | exact hI | simpa using hI)⟩ | (refine opDoes_move _ rfl rfl ⟨(by first | trivial | exact fun _ _ h => h | exact Below.refl _ _), ?_, by (first | exact hI | simpa using hI)⟩; go_simp; done) | (refine opDoes_gmove _ (wanted_guard rfl rfl rfl (by simp only [hd]; rfl)) rfl ⟨(by first | trivial | exact fun _ _ h => h | exact Below.refl _ _), ?_, by (first | exact hI | simpa using hI)⟩; go_simp; done) | (refine opDoes_assign _ rfl rfl ⟨(by first | trivial | exact fun _ _ h => h | exact Below.refl _ _), ?_, by (first | exact hI | simpa using hI)⟩; go_simp; done))
    · (first | exact opDoes_move _ rfl rfl ⟨(by first | trivial | exact fun _ _ h => h | exact Below.refl _ _), rfl, by (first | exact hI | simpa using hI)⟩ | exact opDoes_gmove _ (wanted_guard rfl rfl rfl (by simp only [hd]; rfl)) rfl ⟨(by first | trivial | exact fun _ _ h => h | exact Below.refl _ _), rfl, by (first | exact hI | simpa using hI)⟩ | (refine opDoes_move _ rfl rfl ⟨(by first | trivial | exact fun _ _ h => h | exact Below.refl _ _), ?_, by (first | exact hI | simpa using hI)⟩; go_simp; done) | (refine opDoes_gmove _ (wanted_guard rfl rfl rfl (by simp only [hd]; rfl)) rfl ⟨(by first | trivial | exact fun _ _ h => h | exact Below.refl _ _), ?_, by (first | exact hI | simpa using hI)⟩; go_simp; done) | (refine opDoes_assign _ rfl rfl ⟨(by first | trivial | exact fun _ _ h => h | exact Below.refl _ _), ?_, by (first | exact hI | simpa using hI)⟩; go_simp; done))
    · (first | exact opDoes_move _ rfl rfl ⟨(by first | trivial | exact fun _ _ h => h | exact Below.refl _ _), rfl, by (first | exact hI | simpa using hI)⟩ | exact opDoes_gmove _ (wanted_guard rfl rfl rfl (by simp only [hd]; rfl)) rfl ⟨(by first | trivial | exact fun _ _ h => h | exact Below.refl _ _), rfl, by (first | exact hI | simpa using hI)⟩ | (refine opDoes_move _ rfl rfl ⟨(by first | trivial | exact fun _ _ h => h | exact Below.refl _ _), ?_, by (first | exact hI | simpa using hI)⟩; go_simp; done) | (refine opDoes_gmove _ (wanted_guard rfl rfl rfl (by simp only [hd]; rfl)) rfl ⟨(by first | trivial | exact fun _ _ h => h | exact Below.refl _ _), ?_, by (first | exact hI | simpa using hI)⟩; go_simp; done) | (refine opDoes_assign _ rfl rfl ⟨(by first | trivial | exact fun _ _ h => h | exact Below.refl _ _), ?_, by (first | exact hI | simpa using hI)⟩; go_simp; done))
    · refine opDoes_grun (x := .slice (some ⟨g, 1, none⟩) 511 (c - 1)) (wanted_guard rfl rfl rfl (by simp only [hd]; rfl)) ?_ ⟨Below.refl _ _, rfl, hI⟩
      clear hI
      go_simp
      omega
    · refine opDoes_gcall _ _ _ #[.pointer (some ⟨k.gd, 0, none⟩), .int .i64 i, .slice (some ⟨g, 1, none⟩) 511 (c - 1)] (wanted_guard rfl rfl rfl (by simp only [hd]; rfl)) rfl (by go_simp) (Try.call17 _ _) ?_
      exact (HWL.out w' hI _ _).mono fun e w'' ⟨he, hw⟩ => ⟨_, he, hw ▸ Below.refl _ _, rfl, hw ▸ hI⟩
    · (first | (refine opDoes_run (x := (.bool true)) rfl ?_ ⟨(by first | trivial | exact fun _ _ h => h | exact Below.refl _ _), rfl, by (first | exact hI | simpa using hI)⟩; go_simp; done) | (refine opDoes_grun (x := (.bool true)) (wanted_guard rfl rfl rfl (by simp only [hd]; rfl)) ?_ ⟨(by first | trivial | exact fun _ _ h => h | exact Below.refl _ _), rfl, by (first | exact hI | simpa using hI)⟩; go_simp; done))
    · (first | (refine opDoes_run (x := (.bool true)) rfl ?_ ⟨(by first | trivial | exact fun _ _ h => h | exact Below.refl _ _), rfl, by (first | exact hI | simpa using hI)⟩; go_simp; done) | (refine opDoes_grun (x := (.bool true)) (wanted_guard rfl rfl rfl (by simp only [hd]; rfl)) ?_ ⟨(by first | trivial | exact fun _ _ h => h | exact Below.refl _ _), rfl, by (first | exact hI | simpa using hI)⟩; go_simp; done))
    · (first | exact opDoes_move _ rfl rfl ⟨(by first | trivial | exact fun _ _ h => h | exact Below.refl _ _), rfl, by (first | exact hI | simpa using hI)⟩ | exact opDoes_gmove _ (wanted_guard rfl rfl rfl (by simp only [hd]; rfl)) rfl ⟨(by first | trivial | exact fun _ _ h => h | exact Below.refl _ _), rfl, by (first | exact hI | simpa using hI)⟩ | (refine opDoes_move _ rfl rfl ⟨(by first | trivial | exact fun _ _ h => h | exact Below.refl _ _), ?_, by (first | exact hI | simpa using hI)⟩; go_simp; done) | (refine opDoes_gmove _ (wanted_guard rfl rfl rfl (by simp only [hd]; rfl)) rfl ⟨(by first | trivial | exact fun _ _ h => h | exact Below.refl _ _), ?_, by (first | exact hI | simpa using hI)⟩; go_simp; done) | (refine opDoes_assign _ rfl rfl ⟨(by first | trivial | exact fun _ _ h => h | exact Below.refl _ _), ?_, by (first | exact hI | simpa using hI)⟩; go_simp; done))
    · (first | exact opDoes_move _ rfl rfl ⟨(by first | trivial | exact fun _ _ h => h | exact Below.refl _ _), rfl, by (first | exact hI | simpa using hI)⟩ | exact opDoes_gmove _ (wanted_guard rfl rfl rfl (by simp only [hd]; rfl)) rfl ⟨(by first | trivial | exact fun _ _ h => h | exact Below.refl _ _), rfl, by (first | exact hI | simpa using hI)⟩ | (refine opDoes_move _ rfl rfl ⟨(by first | trivial | exact fun _ _ h => h | exact Below.refl _ _), ?_, by (first | exact hI | simpa using hI)⟩; go_simp; done) | (refine opDoes_gmove _ (wanted_guard rfl rfl rfl (by simp only [hd]; rfl)) rfl ⟨(by first | trivial | exact fun _ _ h => h | exact Below.refl _ _), ?_, by (first | exact hI | simpa using hI)⟩; go_simp; done) | (refine opDoes_assign _ rfl rfl ⟨(by first | trivial | exact fun _ _ h => h | exact Below.refl _ _), ?_, by (first | exact hI | simpa using hI)⟩; go_simp; done))
    · (first | exact opDoes_move _ rfl rfl ⟨(by first | trivial | exact fun _ _ h => h | exact Below.refl _ _), rfl, by (first | exact hI | simpa using hI)⟩ | exact opDoes_gmove _ (wanted_guard rfl rfl rfl (by simp only [hd]; rfl)) rfl ⟨(by first | trivial | exact fun _ _ h => h | exact Below.refl _ _), rfl, by (first | exact hI | simpa using hI)⟩ | (refine opDoes_move _ rfl rfl ⟨(by first | trivial | exact fun _ _ h => h | exact Below.refl _ _), ?_, by (first | exact hI | simpa using hI)⟩; go_simp; done) | (refine opDoes_gmove _ (wanted_guard rfl rfl rfl (by simp only [hd]; rfl)) rfl ⟨(by first | trivial | exact fun _ _ h => h | exact Below.refl _ _), ?_, by (first | exact hI | simpa using hI)⟩; go_simp; done) | (refine opDoes_assign _ rfl rfl ⟨(by first | trivial | exact fun _ _ h => h | exact Below.refl _ _), ?_, by (first | exact hI | simpa using hI)⟩; go_simp; done))
    · refine opDoes_gcall _ _ _ #[.pointer (some ⟨k.gd, 0, none⟩), .int .i64 i, .slice none 0 0] (wanted_guard rfl rfl rfl (by simp only [hd]; rfl)) rfl (by go_simp) (Try.call17 _ _) ?_
      exact (HWN.out w' hI).mono fun e w'' ⟨he, hw⟩ => ⟨_, he, hw ▸ Below.refl _ _, rfl, hw ▸ hI⟩
    · (first | (refine opDoes_run (x := (.bool true)) rfl ?_ ⟨(by first | trivial | exact fun _ _ h => h | exact Below.refl _ _), rfl, by (first | exact hI | simpa using hI)⟩; go_simp; done) | (refine opDoes_grun (x := (.bool true)) (wanted_guard rfl rfl rfl (by simp only [hd]; rfl)) ?_ ⟨(by first | trivial | exact fun _ _ h => h | exact Below.refl _ _), rfl, by (first | exact hI | simpa using hI)⟩; go_simp; done))
    · (first | (refine opDoes_run (x := (.bool true)) rfl ?_ ⟨(by first | trivial | exact fun _ _ h => h | exact Below.refl _ _), rfl, by (first | exact hI | simpa using hI)⟩; go_simp; done) | (refine opDoes_grun (x := (.bool true)) (wanted_guard rfl rfl rfl (by simp only [hd]; rfl)) ?_ ⟨(by first | trivial | exact fun _ _ h => h | exact Below.refl _ _), rfl, by (first | exact hI | simpa using hI)⟩; go_simp; done))
    · (first | exact opDoes_move _ rfl rfl ⟨(by first | trivial | exact fun _ _ h => h | exact Below.refl _ _), rfl, by (first | exact hI | simpa using hI)⟩ | exact opDoes_gmove _ (wanted_guard rfl rfl rfl (by simp only [hd]; rfl)) rfl ⟨(by first | trivial | exact fun _ _ h => h | exact Below.refl _ _), rfl, by (first | exact hI | simpa using hI)⟩ | (refine opDoes_move _ rfl rfl ⟨(by first | trivial | exact fun _ _ h => h | exact Below.refl _ _), ?_, by (first | exact hI | simpa using hI)⟩; go_simp; done) | (refine opDoes_gmove _ (wanted_guard rfl rfl rfl (by simp only [hd]; rfl)) rfl ⟨(by first | trivial | exact fun _ _ h => h | exact Below.refl _ _), ?_, by (first | exact hI | simpa using hI)⟩; go_simp; done) | (refine opDoes_assign _ rfl rfl ⟨(by first | trivial | exact fun _ _ h => h | exact Below.refl _ _), ?_, by (first | exact hI | simpa using hI)⟩; go_simp; done))
    · (first | exact opDoes_move _ rfl rfl ⟨(by first | trivial | exact fun _ _ h => h | exact Below.refl _ _), rfl, by (first | exact hI | simpa using hI)⟩ | exact opDoes_gmove _ (wanted_guard rfl rfl rfl (by simp only [hd]; rfl)) rfl ⟨(by first | trivial | exact fun _ _ h => h | exact Below.refl _ _), rfl, by (first | exact hI | simpa using hI)⟩ | (refine opDoes_move _ rfl rfl ⟨(by first | trivial | exact fun _ _ h => h | exact Below.refl _ _), ?_, by (first | exact hI | simpa using hI)⟩; go_simp; done) | (refine opDoes_gmove _ (wanted_guard rfl rfl rfl (by simp only [hd]; rfl)) rfl ⟨(by first | trivial | exact fun _ _ h => h | exact Below.refl _ _), ?_, by (first | exact hI | simpa using hI)⟩; go_simp; done) | (refine opDoes_assign _ rfl rfl ⟨(by first | trivial | exact fun _ _ h => h | exact Below.refl _ _), ?_, by (first | exact hI | simpa using hI)⟩; go_simp; done))
    · refine opDoes_gcall _ _ _ #[.pointer (some ⟨k.gd, 0, none⟩)] (wanted_guard rfl rfl rfl (by simp only [hd]; rfl)) rfl (by go_simp) (Try.call26 _ _) ?_
      exact (changes_any w' _ k _ (HF.out.2.below hI).at_).mono fun e w'' ⟨he, hw⟩ => ⟨_, he, hw ▸ Below.refl _ _, rfl, hw ▸ hI⟩
    · (first | (refine opDoes_run (x := (.bool true)) rfl ?_ ⟨(by first | trivial | exact fun _ _ h => h | exact Below.refl _ _), rfl, by (first | exact hI | simpa using hI)⟩; go_simp; done) | (refine opDoes_grun (x := (.bool true)) (wanted_guard rfl rfl rfl (by simp only [hd]; rfl)) ?_ ⟨(by first | trivial | exact fun _ _ h => h | exact Below.refl _ _), rfl, by (first | exact hI | simpa using hI)⟩; go_simp; done))
    · (first | (refine opDoes_run (x := (.bool true)) rfl ?_ ⟨(by first | trivial | exact fun _ _ h => h | exact Below.refl _ _), rfl, by (first | exact hI | simpa using hI)⟩; go_simp; done) | (refine opDoes_grun (x := (.bool true)) (wanted_guard rfl rfl rfl (by simp only [hd]; rfl)) ?_ ⟨(by first | trivial | exact fun _ _ h => h | exact Below.refl _ _), rfl, by (first | exact hI | simpa using hI)⟩; go_simp; done))
    · (first | exact opDoes_move _ rfl rfl ⟨(by first | trivial | exact fun _ _ h => h | exact Below.refl _ _), rfl, by (first | exact hI | simpa using hI)⟩ | exact opDoes_gmove _ (wanted_guard rfl rfl rfl (by simp only [hd]; rfl)) rfl ⟨(by first | trivial | exact fun _ _ h => h | exact Below.refl _ _), rfl, by (first | exact hI | simpa using hI)⟩ | (refine opDoes_move _ rfl rfl ⟨(by first | trivial | exact fun _ _ h => h | exact Below.refl _ _), ?_, by (first | exact hI | simpa using hI)⟩; go_simp; done) | (refine opDoes_gmove _ (wanted_guard rfl rfl rfl (by simp only [hd]; rfl)) rfl ⟨(by first | trivial | exact fun _ _ h => h | exact Below.refl _ _), ?_, by (first | exact hI | simpa using hI)⟩; go_simp; done) | (refine opDoes_assign _ rfl rfl ⟨(by first | trivial | exact fun _ _ h => h | exact Below.refl _ _), ?_, by (first | exact hI | simpa using hI)⟩; go_simp; done))
  case hend =>
    intro D v w' hS hD h
    simp only [AllOps, Nat.zero_add, Nat.reduceAdd, and_true] at h
    have h32 := h.2.2.2.2.2.2.2.2.2.2.2.2.2.2.2.2.2.2.2.2.2.2.2.2.2.2.2.2.2.2.2.2
    have HZ := Lib.hid ((HF.out.2.below hS).bel)
    clear h hS hD
    go_wp2_with fail
    go_ret
    rw [h32]
    exact ⟨rfl, HZ.out⟩
theorem diskArgs_walk (w : World) (n : Int) (_wn : (Lit.int .i64 n).wf = true) (i : Int) (_wi : (Lit.int .i64 i).wf = true) :
    Calls Try.prog 7 #[.int .i64 n, .int .i64 i] w fun e w' => e = .returned (.bool true) ∧ Below w.heap.size w w' := by
  by_cases h : n < 1 ∨ 4096 < n
  · exact diskArgs_refused w n i h
  · obtain ⟨m, rfl⟩ : ∃ m : Nat, n = (m : Int) := ⟨n.toNat, by omega⟩
    by_cases hi : i < 0 ∨ (m : Int) ≤ i
    · exact diskArgs_out w m i (by omega) (by omega) hi
    · obtain ⟨j, rfl⟩ : ∃ j : Nat, i = (j : Int) := ⟨i.toNat, by omega⟩
      exact diskArgs_in w m j (by omega) (by omega) (by omega)
end Go.Proofs.Ythbanhedjfpmaaa
