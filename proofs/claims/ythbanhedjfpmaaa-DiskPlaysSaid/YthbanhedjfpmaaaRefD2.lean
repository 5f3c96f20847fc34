/-
  The document's disk: Crash.
-/
import Derived.Test.YthbanhedjfpmaaaRefD1
namespace Go.Proofs.Ythbanhedjfpmaaa
set_option linter.unusedSimpArgs false
set_option linter.unusedVariables false
open Go.RowKit

theorem keep_mod (f : DF) (hf : f.keep < 18446744073709551616) (k : Nat) : f.keep / 2 ^ k % 2 = if keepB f k = true then 1 else 0 := by
  unfold keepB
  by_cases h : k < 64
  · rw [decide_eq_true h, Bool.true_and, Nat.testBit_eq_decide_div_mod_eq]
    by_cases hb : f.keep / 2 ^ k % 2 = 1
    · rw [hb]; simp
    · have h0 : f.keep / 2 ^ k % 2 = 0 := by omega
      rw [h0]; simp
  · rw [decide_eq_false h, Bool.false_and]
    have h2 : (2 : Nat) ^ 64 ≤ 2 ^ k := Nat.pow_le_pow_right (by decide) (by omega)
    have : f.keep / 2 ^ k = 0 := Nat.div_eq_of_lt (Nat.lt_of_lt_of_le (by simpa using hf) h2)
    rw [this]; rfl
/-- How many bytes of write k stay. -/
def keptN (f : DF) (m : Int) (k : Nat) : Nat := if keepB f k = true then 512 else if (k : Int) = m then tornN f.torn else 0
theorem keptN_le (f : DF) (m : Int) (k : Nat) : keptN f m k ≤ 512 := by
  unfold keptN
  have := tornN_le f.torn
  split
  · omega
  · split <;> omega
theorem hit_sure (x : DB) (f : DF) (m : Int) (k : Nat) (w : DW) : (x.hit f m k w).sure.l = w.b.l.take (keptN f m k) ++ x.sure.l.drop (keptN f m k) := by
  unfold DB.hit keptN
  split
  · rw [List.take_of_length_le (by rw [w.b.h]; exact Nat.le_refl _), List.drop_eq_nil_of_le (by rw [x.sure.h]; exact Nat.le_refl _), List.append_nil]
  · split
    · rfl
    · simp
/-- The sure texts while the writes are gone through. -/
def sureOf (L : List DB) : List (List UInt8) := L.map (·.sure.l)
theorem sureOf_set (L : List DB) (m : Nat) (x : DB) : sureOf (L.set m x) = (sureOf L).set m x.sure.l := List.map_set
set_option maxRecDepth 20000 in
set_option maxHeartbeats 2000000 in
theorem refcrash_any (S : Nat → Prop) (w : World) (hS : ∀ i, S i → i < w.heap.size) (d : DS) (c : List Value) (h : RefX S w c d.rx) (hG : DGood d) (f : DF) (hfk : f.keep < 18446744073709551616) :
    Calls Try.prog 56 #[.agg c.toArray, .agg #[.int .i64 f.at_, .int .u64 (f.keep : Nat), .int .i64 f.torn]] w (RetX S w (d.crash f).rx) := by
  obtain ⟨As, cs, Ap, cp, Af, cf, rfl, h1, h2, h3⟩ := h
  simp only [DS.rx, List.length_map] at h1 h2 h3 ⊢
  have hp1 := hG.p1
  have hb1 := hG.b1
  have HR := Lib.hid (And.intro h1 (And.intro h2 h3))
  clear h1 h2 h3
  cases hd : d.down with
  | true =>
    have HE : Hid (d.crash f = d) := by show _ = _; unfold DS.crash; rw [if_pos hd]
    have HD := Lib.hid hd
    clear hd
    go_enter Try.func56, Try.ntmps56
    go_upto_region 1 with (fail)
    generalize hW0 : (((World.alloc w (.cells _ _)).alloc (.cells _ _)).alloc (.cells _ _)) = W
    obtain ⟨ba0, bb0, bc0, hz0, hB0⟩ := fresh3 hW0
    clear hW0
    have HB := Lib.hid (And.intro ba0 (And.intro bb0 (And.intro bc0 hB0)))
    have hcc := And.intro ba0.c5 bc0.c5
    clear ba0 bb0 bc0 hB0
    go_wp2_with fail
    refine ret_set5 HB.out.2.2.1 rfl rfl rfl rfl (fun W hW => load_rx hW) fun W2 hW hg => ?_
    rw [HE.out]
    exact ⟨_, rfl, ⟨As, cs, Ap, cp, Af, cf, by simp [DS.rx, HD.out], HR.out.1.keptG HB.out.2.2.2 hg (by omega), HR.out.2.1.keptG HB.out.2.2.2 hg (by omega), HR.out.2.2.keptG HB.out.2.2.2 hg (by omega)⟩, below_of_grown HB.out.2.2.2 hg (by omega) (by omega)⟩
  | false =>
    go_enter Try.func56, Try.ntmps56
    go_upto_region 1 with (fail)
    generalize hW0 : (((World.alloc w (.cells _ _)).alloc (.cells _ _)).alloc (.cells _ _)) = W
    obtain ⟨ba0, bb0, bc0, hz0, hB0⟩ := fresh3 hW0
    clear hW0
    have HI : Hid (Below w.heap.size w W ∧ Blk W w.heap.size 54 [.slice As d.blocks.length cs, .slice Ap d.pending.length cp, .slice Af d.falls.length cf, .int .i64 (d.changes : Nat), .bool false] ∧ Blk W (w.heap.size + 1) 25 [.int .i64 f.at_, .int .u64 (f.keep : Nat), .int .i64 f.torn] ∧
        Blk W (w.heap.size + 1 + 1) 54 [.slice none 0 0, .slice none 0 0, .slice none 0 0, .int .i64 0, .bool false] ∧ RowX S eStr W As (sureOf d.blocks) ∧ ∀ a, As = some a → a.block ≠ w.heap.size + 1 + 1) := ⟨hB0, ba0, bb0, bc0, HR.out.1.below hB0, fun a ha => by
      obtain ⟨b, o, e, hb, _⟩ := str_at HR.out.1.1 (i := 0) (by simpa using hG.b0)
      rw [ha] at e
      obtain rfl := Option.some.inj e
      simp only; omega⟩
    have hcc := And.intro ba0.c5 bb0.c3
    clear ba0 bb0 bc0 hB0
    go_wp2_with fail
    clear hcc
    go_loopw [5, 6] (fun kv iv wr => ∃ i : Nat, i ≤ d.pending.length ∧ iv = .int .i64 i ∧ kv = .int .u64 ((f.keep / 2 ^ i : Nat) : Int) ∧ ∃ As cs, Hid (Below w.heap.size w wr ∧ Blk wr w.heap.size 54 [.slice As d.blocks.length cs, .slice Ap d.pending.length cp, .slice Af d.falls.length cf, .int .i64 (d.changes : Nat), .bool false] ∧ Blk wr (w.heap.size + 1) 25 [.int .i64 f.at_, .int .u64 (f.keep : Nat), .int .i64 f.torn] ∧
        Blk wr (w.heap.size + 1 + 1) 54 [.slice none 0 0, .slice none 0 0, .slice none 0 0, .int .i64 0, .bool false] ∧ RowX S eStr wr As (sureOf (hitAll f ((d.pending.length : Int) - 1) (d.pending.take i) 0 d.blocks)) ∧ ∀ a, As = some a → a.block ≠ w.heap.size + 1 + 1)) (fun _ iv _ => d.pending.length - (intOf iv).toNat)
    case atStart => exact ⟨0, by omega, rfl, by simp, As, cs, HI.out⟩
    case round =>
      obtain ⟨i, hi, rfl, rfl, As, cs, HJ⟩ := hrel
      clear HI
      obtain ⟨j1, j2, j3, j4, j5, j6⟩ := HJ.out
      have hcc := And.intro j2.c5 j3.c3
      have hz := j4.lt
      clear j1 j2 j3 j4 j5 j6
      by_cases hlt : i < d.pending.length
      · have hii : (i : Int) < (d.pending.length : Int) := by omega
        obtain ⟨bp, op, rfl, hbp, hc1, hc2⟩ := rw_at (HR.out.2.1.below HJ.out.1).1 (i := i) (by simpa using hlt)
        simp only [List.getElem_map] at hc1 hc2
        have hat := hG.at_ d.pending[i] (List.getElem_mem hlt)
        have HTK := Lib.hid (hitAll_take f ((d.pending.length : Int) - 1) d.pending i d.blocks hlt)
        have hLlen : (hitAll f ((d.pending.length : Int) - 1) (d.pending.take i) 0 d.blocks).length = d.blocks.length := hitAll_length ..
        generalize d.pending[i] = p at hc1 hc2 hat HTK
        obtain ⟨pat, pb⟩ := p
        simp only at hat hc1 hc2
        obtain ⟨m, rfl⟩ : ∃ m : Nat, pat = (m : Int) := ⟨pat.toNat, by omega⟩
        have hn5 := keptN_le f ((d.pending.length : Int) - 1) i
        generalize hLi : hitAll f ((d.pending.length : Int) - 1) (d.pending.take i) 0 d.blocks = Li at HJ HTK hLlen
        clear hLi
        have hmL : m < Li.length := by omega
        have HTK2 : Hid (sureOf (hitAll f ((d.pending.length : Int) - 1) (d.pending.take (i + 1)) 0 d.blocks) = (sureOf Li).set m (pb.l.take (keptN f ((d.pending.length : Int) - 1) i) ++ Li[m].sure.l.drop (keptN f ((d.pending.length : Int) - 1) i))) := by
          show _ = _
          rw [HTK.out, Int.toNat_natCast, sureOf_set, show Li.getD m default = Li[m] from by simp [hmL], hit_sure]
        clear HTK
        have hkm := keep_mod f hfk i
        have HQ2 : Hid (f.keep / 2 ^ (i + 1) = f.keep / 2 ^ i / 2) := by show _ = _; rw [Nat.pow_succ, Nat.div_div_eq_div_mul]
        generalize hqd : f.keep / 2 ^ i = q at hkm HQ2
        have hqlt : q < 18446744073709551616 := by rw [← hqd]; exact Nat.lt_of_le_of_lt (Nat.div_le_self _ _) hfk
        have HWQ : Hid (IntKind.u64.wrap ((q : Int) / 2) = ((f.keep / 2 ^ (i + 1) : Nat) : Int)) := by
          show _ = _
          rw [HQ2.out]
          simp [IntKind.wrap, IntKind.signed, IntKind.bits]
          omega
        clear HQ2 hqlt hqd
        by_cases hkb : keepB f i = true
        · rw [if_pos hkb] at hkm
          have hkq : ((q : Int) % 2 == 1) = true := by simp; omega
          have hkn : keptN f ((d.pending.length : Int) - 1) i = 512 := by unfold keptN; rw [if_pos hkb]
          have HKN := Lib.hid hkn
          clear hkb hkm hkn
          go_upto_region 13 with (fail)
          rw [show (512 : Int) = ((512 : Nat) : Int) from rfl, ← HKN.out]
          clear HKN
          generalize keptN f ((d.pending.length : Int) - 1) i = n at HTK2 hn5
          go_upto_region 14 with (fail)
          obtain ⟨bs, os, rfl, hbs, hcs⟩ := str_at HJ.out.2.2.2.2.1.1 (i := m) (by unfold sureOf; simpa using hmL)
          simp only [sureOf, List.getElem_map] at hcs
          have hpl := pb.h
          have hsl := Li[m].sure.h
          generalize Li[m].sure.l = sl at hcs HTK2 hsl
          generalize pb.l = pl at HTK2 hpl hc2
          generalize hW6 : World.alloc wr (.cells _ _) = W6
          obtain ⟨ba6, hz6, hB6⟩ := fresh1 hW6
          clear hW6
          have hcs6 := (hB6.cell (p := ⟨bs, os + m, none⟩) hbs).trans hcs
          have hcc6 := And.intro (HJ.out.2.1.below hB6).c5 ba6.c2
          have H6 : Hid (Below w.heap.size w W6 ∧ Blk W6 w.heap.size 54 [.slice (some ⟨bs, os, none⟩) d.blocks.length cs, .slice (some ⟨bp, op, none⟩) d.pending.length cp, .slice Af d.falls.length cf, .int .i64 (d.changes : Nat), .bool false] ∧ Blk W6 (w.heap.size + 1) 25 [.int .i64 f.at_, .int .u64 (f.keep : Nat), .int .i64 f.torn] ∧
              Blk W6 (w.heap.size + 1 + 1) 54 [.slice none 0 0, .slice none 0 0, .slice none 0 0, .int .i64 0, .bool false] ∧ RowX S eStr W6 (some ⟨bs, os, none⟩) (sureOf Li)) := ⟨HJ.out.1.trans (hB6.mono HJ.out.1.size), HJ.out.2.1.below hB6, HJ.out.2.2.1.below hB6, HJ.out.2.2.2.1.below hB6, HJ.out.2.2.2.2.1.below hB6⟩
          have hx1 : (ByteArray.mk pl.toArray).extract 0 n = ⟨(pl.take n).toArray⟩ := cut_head pl n
          have hx2 : (ByteArray.mk sl.toArray).extract n sl.length = ⟨(sl.drop n).toArray⟩ := cut_end sl n
          have hx3 := cut_join (pl.take n) (sl.drop n)
          have hmi : (m : Int) < (d.blocks.length : Int) := hat.2
          have hnp : (n : Int) ≤ (pl.length : Int) := by omega
          have hns : (n : Int) ≤ (sl.length : Int) := by omega
          have hsum : ¬ 9223372036854775807 < min n pl.length + (sl.length - n) := by omega
          have HH := Lib.hid (And.intro hpl hsl)
          clear hB6 ba6 hcs hc1 hc2 hcc HJ hpl hsl
          have hlen : (sureOf Li).length = d.blocks.length := by unfold sureOf; rw [List.length_map, hLlen]
          have hcw := with_any W6.drew (some ⟨bs, os, none⟩) cs (sureOf Li) (m : Int) (pl.take n ++ sl.drop n) (H6.out.2.2.2.2.below (below_drew _)).1 (by omega) (by omega) (by omega)
          rw [hlen] at hcw
          have HCW := Lib.hid hcw
          have HLN := Lib.hid hlen
          clear hcw hlen
          refine wp_region_plan (.take 0 (.take 1 (.take 2 (.take 3 (.take 4 (.take 5 (.take 6 (.take 7 (.take 8 (.take 9 (.take 10 (.take 11 (.take 12 (.take 13 (.take 14 (.take 15 (.take 16 (.run 17 [] (.take 18 (.run 19 [] .fin)))))))))))))))))))) (by kernel_rfl) (by kernel_rfl) (by kernel_rfl) (by kernel_rfl) ?_
          simp only [walk, again, sel, List.getElem?_toArray, List.getElem?_cons_zero, List.getElem?_cons_succ]
          repeat (intro Z hZ; go_wp2_with (fail))
          refine HCW.out.mono ?_
          rintro e w7 ⟨A7, c7, rfl, ho7, hb7⟩
          rw [List.length_set, HLN.out]
          have H7 : Hid (Below w.heap.size w w7 ∧ Blk w7 w.heap.size 54 [.slice (some ⟨bs, os, none⟩) d.blocks.length cs, .slice (some ⟨bp, op, none⟩) d.pending.length cp, .slice Af d.falls.length cf, .int .i64 (d.changes : Nat), .bool false] ∧ Blk w7 (w.heap.size + 1) 25 [.int .i64 f.at_, .int .u64 (f.keep : Nat), .int .i64 f.torn] ∧
              Blk w7 (w.heap.size + 1 + 1) 54 [.slice none 0 0, .slice none 0 0, .slice none 0 0, .int .i64 0, .bool false] ∧ EOwn eStr w7 W6.heap.size A7 c7 ((sureOf Li).set m (pl.take n ++ sl.drop n))) := ⟨H6.out.1.trans (((below_drew W6).trans hb7).mono H6.out.1.size), H6.out.2.1.drew.below hb7, H6.out.2.2.1.drew.below hb7, H6.out.2.2.2.1.drew.below hb7, ho7⟩
          have hcc7 := H7.out.2.1.c5
          clear hcc6 hcs6 ho7 hb7 hx1 hx2 hx3 HCW
          go_wp2_with fail
          repeat (intro Z hZ; go_wp2_with (fail))
          go_roundw
          case rel =>
            obtain ⟨g1, g2, g3, g4, g5⟩ := H7.out
            refine ⟨i + 1, by omega, by go_num, by rw [HWQ.out], A7, c7, g1.setCell (p := ⟨w.heap.size, 0, none⟩) (Nat.le_refl _) _, g2.set0, g3.other ⟨w.heap.size, 0, none⟩ (by simp) _, g4.other ⟨w.heap.size, 0, none⟩ (by simp; omega) _, ?_⟩
            rw [HTK2.out]
            exact ⟨RowX.own (g5.set ⟨w.heap.size, 0, none⟩ (fun a ha => by have := (g5.block a ha).1; simp only; omega) _) (fun j hj => by have := hS j hj; omega), fun a ha => by have := (g5.block a ha).1; omega⟩
          case measure => simp [intOf]; omega
        · rw [if_neg hkb] at hkm
          have hkq : ((q : Int) % 2 == 1) = false := by simp; omega
          by_cases hil : (i : Int) = (d.pending.length : Int) - 1
          · have hib : ((i : Int) == (d.pending.length : Int) - 1) = true := by simpa using hil
            have hkn : keptN f ((d.pending.length : Int) - 1) i = tornN f.torn := by unfold keptN; rw [if_neg hkb, if_pos hil]
            have htn : (if 0 < if 512 < f.torn then 512 else f.torn then if 512 < f.torn then 512 else f.torn else 0) = (tornN f.torn : Int) := by
              unfold tornN
              split <;> split at * <;> omega
            have HKN := Lib.hid (And.intro hkn htn)
            clear hkb hkm hkn htn hil
            go_upto_region 13 with (fail)
            generalize (if 512 < f.torn then (512 : Int) else f.torn) = mn at HKN ⊢
            rw [HKN.out.2, ← HKN.out.1]
            clear HKN
            generalize keptN f ((d.pending.length : Int) - 1) i = n at HTK2 hn5
            go_upto_region 14 with (fail)
            obtain ⟨bs, os, rfl, hbs, hcs⟩ := str_at HJ.out.2.2.2.2.1.1 (i := m) (by unfold sureOf; simpa using hmL)
            simp only [sureOf, List.getElem_map] at hcs
            have hpl := pb.h
            have hsl := Li[m].sure.h
            generalize Li[m].sure.l = sl at hcs HTK2 hsl
            generalize pb.l = pl at HTK2 hpl hc2
            generalize hW6 : World.alloc wr (.cells _ _) = W6
            obtain ⟨ba6, hz6, hB6⟩ := fresh1 hW6
            clear hW6
            have hcs6 := (hB6.cell (p := ⟨bs, os + m, none⟩) hbs).trans hcs
            have hcc6 := And.intro (HJ.out.2.1.below hB6).c5 ba6.c2
            have H6 : Hid (Below w.heap.size w W6 ∧ Blk W6 w.heap.size 54 [.slice (some ⟨bs, os, none⟩) d.blocks.length cs, .slice (some ⟨bp, op, none⟩) d.pending.length cp, .slice Af d.falls.length cf, .int .i64 (d.changes : Nat), .bool false] ∧ Blk W6 (w.heap.size + 1) 25 [.int .i64 f.at_, .int .u64 (f.keep : Nat), .int .i64 f.torn] ∧
                Blk W6 (w.heap.size + 1 + 1) 54 [.slice none 0 0, .slice none 0 0, .slice none 0 0, .int .i64 0, .bool false] ∧ RowX S eStr W6 (some ⟨bs, os, none⟩) (sureOf Li)) := ⟨HJ.out.1.trans (hB6.mono HJ.out.1.size), HJ.out.2.1.below hB6, HJ.out.2.2.1.below hB6, HJ.out.2.2.2.1.below hB6, HJ.out.2.2.2.2.1.below hB6⟩
            have hx1 : (ByteArray.mk pl.toArray).extract 0 n = ⟨(pl.take n).toArray⟩ := cut_head pl n
            have hx2 : (ByteArray.mk sl.toArray).extract n sl.length = ⟨(sl.drop n).toArray⟩ := cut_end sl n
            have hx3 := cut_join (pl.take n) (sl.drop n)
            have hmi : (m : Int) < (d.blocks.length : Int) := hat.2
            have hnp : (n : Int) ≤ (pl.length : Int) := by omega
            have hns : (n : Int) ≤ (sl.length : Int) := by omega
            have hsum : ¬ 9223372036854775807 < min n pl.length + (sl.length - n) := by omega
            have HH := Lib.hid (And.intro hpl hsl)
            clear hB6 ba6 hcs hc1 hc2 hcc HJ hpl hsl
            have hlen : (sureOf Li).length = d.blocks.length := by unfold sureOf; rw [List.length_map, hLlen]
            have hcw := with_any W6.drew (some ⟨bs, os, none⟩) cs (sureOf Li) (m : Int) (pl.take n ++ sl.drop n) (H6.out.2.2.2.2.below (below_drew _)).1 (by omega) (by omega) (by omega)
            rw [hlen] at hcw
            have HCW := Lib.hid hcw
            have HLN := Lib.hid hlen
            clear hcw hlen
            refine wp_region_plan (.take 0 (.take 1 (.take 2 (.take 3 (.take 4 (.take 5 (.take 6 (.take 7 (.take 8 (.take 9 (.take 10 (.take 11 (.take 12 (.take 13 (.take 14 (.take 15 (.take 16 (.run 17 [] (.take 18 (.run 19 [] .fin)))))))))))))))))))) (by kernel_rfl) (by kernel_rfl) (by kernel_rfl) (by kernel_rfl) ?_
            simp only [walk, again, sel, List.getElem?_toArray, List.getElem?_cons_zero, List.getElem?_cons_succ]
            repeat (intro Z hZ; go_wp2_with (fail))
            refine HCW.out.mono ?_
            rintro e w7 ⟨A7, c7, rfl, ho7, hb7⟩
            rw [List.length_set, HLN.out]
            have H7 : Hid (Below w.heap.size w w7 ∧ Blk w7 w.heap.size 54 [.slice (some ⟨bs, os, none⟩) d.blocks.length cs, .slice (some ⟨bp, op, none⟩) d.pending.length cp, .slice Af d.falls.length cf, .int .i64 (d.changes : Nat), .bool false] ∧ Blk w7 (w.heap.size + 1) 25 [.int .i64 f.at_, .int .u64 (f.keep : Nat), .int .i64 f.torn] ∧
                Blk w7 (w.heap.size + 1 + 1) 54 [.slice none 0 0, .slice none 0 0, .slice none 0 0, .int .i64 0, .bool false] ∧ EOwn eStr w7 W6.heap.size A7 c7 ((sureOf Li).set m (pl.take n ++ sl.drop n))) := ⟨H6.out.1.trans (((below_drew W6).trans hb7).mono H6.out.1.size), H6.out.2.1.drew.below hb7, H6.out.2.2.1.drew.below hb7, H6.out.2.2.2.1.drew.below hb7, ho7⟩
            have hcc7 := H7.out.2.1.c5
            clear hcc6 hcs6 ho7 hb7 hx1 hx2 hx3 HCW
            go_wp2_with fail
            repeat (intro Z hZ; go_wp2_with (fail))
            go_roundw
            case rel =>
              obtain ⟨g1, g2, g3, g4, g5⟩ := H7.out
              refine ⟨i + 1, by omega, by go_num, by rw [HWQ.out], A7, c7, g1.setCell (p := ⟨w.heap.size, 0, none⟩) (Nat.le_refl _) _, g2.set0, g3.other ⟨w.heap.size, 0, none⟩ (by simp) _, g4.other ⟨w.heap.size, 0, none⟩ (by simp; omega) _, ?_⟩
              rw [HTK2.out]
              exact ⟨RowX.own (g5.set ⟨w.heap.size, 0, none⟩ (fun a ha => by have := (g5.block a ha).1; simp only; omega) _) (fun j hj => by have := hS j hj; omega), fun a ha => by have := (g5.block a ha).1; omega⟩
            case measure => simp [intOf]; omega
          · have hib : ((i : Int) == (d.pending.length : Int) - 1) = false := by simpa using hil
            have hkn : keptN f ((d.pending.length : Int) - 1) i = 0 := by unfold keptN; rw [if_neg hkb, if_neg hil]
            have HKN := Lib.hid hkn
            clear hkb hkm hkn hil
            go_upto_region 13 with (fail)
            rw [show Value.int IntKind.i64 0 = Value.int IntKind.i64 ((keptN f ((d.pending.length : Int) - 1) i : Nat) : Int) from by rw [HKN.out]; rfl]
            clear HKN
            generalize keptN f ((d.pending.length : Int) - 1) i = n at HTK2 hn5
            go_upto_region 14 with (fail)
            obtain ⟨bs, os, rfl, hbs, hcs⟩ := str_at HJ.out.2.2.2.2.1.1 (i := m) (by unfold sureOf; simpa using hmL)
            simp only [sureOf, List.getElem_map] at hcs
            have hpl := pb.h
            have hsl := Li[m].sure.h
            generalize Li[m].sure.l = sl at hcs HTK2 hsl
            generalize pb.l = pl at HTK2 hpl hc2
            generalize hW6 : World.alloc wr (.cells _ _) = W6
            obtain ⟨ba6, hz6, hB6⟩ := fresh1 hW6
            clear hW6
            have hcs6 := (hB6.cell (p := ⟨bs, os + m, none⟩) hbs).trans hcs
            have hcc6 := And.intro (HJ.out.2.1.below hB6).c5 ba6.c2
            have H6 : Hid (Below w.heap.size w W6 ∧ Blk W6 w.heap.size 54 [.slice (some ⟨bs, os, none⟩) d.blocks.length cs, .slice (some ⟨bp, op, none⟩) d.pending.length cp, .slice Af d.falls.length cf, .int .i64 (d.changes : Nat), .bool false] ∧ Blk W6 (w.heap.size + 1) 25 [.int .i64 f.at_, .int .u64 (f.keep : Nat), .int .i64 f.torn] ∧
                Blk W6 (w.heap.size + 1 + 1) 54 [.slice none 0 0, .slice none 0 0, .slice none 0 0, .int .i64 0, .bool false] ∧ RowX S eStr W6 (some ⟨bs, os, none⟩) (sureOf Li)) := ⟨HJ.out.1.trans (hB6.mono HJ.out.1.size), HJ.out.2.1.below hB6, HJ.out.2.2.1.below hB6, HJ.out.2.2.2.1.below hB6, HJ.out.2.2.2.2.1.below hB6⟩
            have hx1 : (ByteArray.mk pl.toArray).extract 0 n = ⟨(pl.take n).toArray⟩ := cut_head pl n
            have hx2 : (ByteArray.mk sl.toArray).extract n sl.length = ⟨(sl.drop n).toArray⟩ := cut_end sl n
            have hx3 := cut_join (pl.take n) (sl.drop n)
            have hmi : (m : Int) < (d.blocks.length : Int) := hat.2
            have hnp : (n : Int) ≤ (pl.length : Int) := by omega
            have hns : (n : Int) ≤ (sl.length : Int) := by omega
            have hsum : ¬ 9223372036854775807 < min n pl.length + (sl.length - n) := by omega
            have HH := Lib.hid (And.intro hpl hsl)
            clear hB6 ba6 hcs hc1 hc2 hcc HJ hpl hsl
            have hlen : (sureOf Li).length = d.blocks.length := by unfold sureOf; rw [List.length_map, hLlen]
            have hcw := with_any W6.drew (some ⟨bs, os, none⟩) cs (sureOf Li) (m : Int) (pl.take n ++ sl.drop n) (H6.out.2.2.2.2.below (below_drew _)).1 (by omega) (by omega) (by omega)
            rw [hlen] at hcw
            have HCW := Lib.hid hcw
            have HLN := Lib.hid hlen
            clear hcw hlen
            refine wp_region_plan (.take 0 (.take 1 (.take 2 (.take 3 (.take 4 (.take 5 (.take 6 (.take 7 (.take 8 (.take 9 (.take 10 (.take 11 (.take 12 (.take 13 (.take 14 (.take 15 (.take 16 (.run 17 [] (.take 18 (.run 19 [] .fin)))))))))))))))))))) (by kernel_rfl) (by kernel_rfl) (by kernel_rfl) (by kernel_rfl) ?_
            simp only [walk, again, sel, List.getElem?_toArray, List.getElem?_cons_zero, List.getElem?_cons_succ]
            repeat (intro Z hZ; go_wp2_with (fail))
            refine HCW.out.mono ?_
            rintro e w7 ⟨A7, c7, rfl, ho7, hb7⟩
            rw [List.length_set, HLN.out]
            have H7 : Hid (Below w.heap.size w w7 ∧ Blk w7 w.heap.size 54 [.slice (some ⟨bs, os, none⟩) d.blocks.length cs, .slice (some ⟨bp, op, none⟩) d.pending.length cp, .slice Af d.falls.length cf, .int .i64 (d.changes : Nat), .bool false] ∧ Blk w7 (w.heap.size + 1) 25 [.int .i64 f.at_, .int .u64 (f.keep : Nat), .int .i64 f.torn] ∧
                Blk w7 (w.heap.size + 1 + 1) 54 [.slice none 0 0, .slice none 0 0, .slice none 0 0, .int .i64 0, .bool false] ∧ EOwn eStr w7 W6.heap.size A7 c7 ((sureOf Li).set m (pl.take n ++ sl.drop n))) := ⟨H6.out.1.trans (((below_drew W6).trans hb7).mono H6.out.1.size), H6.out.2.1.drew.below hb7, H6.out.2.2.1.drew.below hb7, H6.out.2.2.2.1.drew.below hb7, ho7⟩
            have hcc7 := H7.out.2.1.c5
            clear hcc6 hcs6 ho7 hb7 hx1 hx2 hx3 HCW
            go_wp2_with fail
            repeat (intro Z hZ; go_wp2_with (fail))
            go_roundw
            case rel =>
              obtain ⟨g1, g2, g3, g4, g5⟩ := H7.out
              refine ⟨i + 1, by omega, by go_num, by rw [HWQ.out], A7, c7, g1.setCell (p := ⟨w.heap.size, 0, none⟩) (Nat.le_refl _) _, g2.set0, g3.other ⟨w.heap.size, 0, none⟩ (by simp) _, g4.other ⟨w.heap.size, 0, none⟩ (by simp; omega) _, ?_⟩
              rw [HTK2.out]
              exact ⟨RowX.own (g5.set ⟨w.heap.size, 0, none⟩ (fun a ha => by have := (g5.block a ha).1; simp only; omega) _) (fun j hj => by have := hS j hj; omega), fun a ha => by have := (g5.block a ha).1; omega⟩
            case measure => simp [intOf]; omega
      · obtain rfl : i = d.pending.length := by omega
        have hii : ¬ (d.pending.length : Int) < (d.pending.length : Int) := by omega
        have hcc4 := HJ.out.2.2.2.1.c5
        go_wp2_with fail
        refine ret_set5 HJ.out.2.2.2.1 rfl rfl rfl rfl (fun W hW => load_rx hW) fun W2 hW hg => ?_
        have HS : (d.crash f).rx = ⟨sureOf (hitAll f ((d.pending.length : Int) - 1) d.pending 0 d.blocks), [], d.falls, d.changes, true⟩ := by
          unfold DS.crash
          rw [if_neg (by simp [hd])]
          simp [DS.rx, sureOf, List.map_map, Function.comp_def]
        show RetX S w (d.crash f).rx _ _
        rw [HS]
        have hb := HJ.out.1
        have hr := HJ.out.2.2.2.2.1
        rw [List.take_length] at hr
        have hr2 : RowX S eStr W2 As (sureOf (hitAll f ((d.pending.length : Int) - 1) d.pending 0 d.blocks)) := ⟨hr.1.keep hg.size fun a ha hlt' => hg.block _ hlt' (by simpa using HJ.out.2.2.2.2.2 a ha), hr.2⟩
        exact ⟨_, rfl, ⟨As, cs, none, 0, Af, cf, by simp [sureOf, hitAll_length], hr2, RowX.nil, HR.out.2.2.keptG hb hg (by omega)⟩, below_of_grown hb hg (by omega) (by omega)⟩
end Go.Proofs.Ythbanhedjfpmaaa
