/-
  The contract of disk's Crash.
-/
import Derived.Test.YthbanhedjfpmaaaDiskCrash0
import Derived.Deep.LoopGhost
namespace Go.Proofs.Ythbanhedjfpmaaa
set_option linter.unusedSimpArgs false
set_option linter.unusedVariables false
open Go.RowKit

/-- A disk as it may be. -/
structure DGood (d : DS) : Prop where
  b0 : 0 < d.blocks.length
  b1 : d.blocks.length ≤ 4096
  p1 : d.pending.length ≤ 1000000
  f1 : d.falls.length ≤ 1000000
  at_ : ∀ w ∈ d.pending, 0 ≤ w.at_ ∧ w.at_ < d.blocks.length
  fk : ∀ f ∈ d.falls, f.keep < 18446744073709551616 ∧ (-9223372036854775808 ≤ f.torn ∧ f.torn ≤ 9223372036854775807)
theorem zeroDW (w : World) : (zeroValue 97).run Try.prog w = .ok eDW.zero w := (zero_of_info (P := Try.prog) (t := 97) (v := eDW.zero) (n := 513) (by kernel_rfl)).1 w
theorem infoDW : (Try.prog.info? 97).map (·.size) = some 513 := by kernel_rfl
theorem infoArr : (Try.prog.info? 95).map (·.size) = some 512 := by kernel_rfl
theorem crash_down (w : World) (B : Nat) (k : KB) (d : DS) (h : DiskAt w B k d) (f : DF) (hd : d.down = true) :
    Calls Try.prog 19 #[.pointer (some ⟨k.gd, 0, none⟩), .agg #[.int .i64 f.at_, .int .u64 (f.keep : Nat), .int .i64 f.torn]] w fun e w' => e = .returned (.tuple #[]) ∧ Below w.heap.size w w' := by
  have HD := Lib.hid (fun w' hb => down_any w' B k d (h.below hb))
  rw [hd] at HD
  clear h hd
  go_enter Try.func19, Try.ntmps19
  go_wp2_with fail
  refine (HD.out _ ((Below.refl _ _).alloc (Nat.le_refl _) _)).mono ?_
  rintro e w1 ⟨rfl, rfl⟩
  go_wp2_with fail
  exact bodyPost_ret (v := .tuple #[]) (results_none rfl _ _ _) rfl ⟨rfl, (Below.refl _ _).alloc (Nat.le_refl _) _⟩

/-- What holds while the writes are gone through. -/
def Crashing (w : World) (B : Nat) (k : KB) (f : DF) (cb : Nat) (L : List DB) (wr : World) : Prop :=
  w.grownBy wr (some k.gb) ∧ EOwn eDB wr B (some ⟨k.gb, 0, none⟩) cb L ∧ Blk wr w.heap.size 25 [.int .i64 f.at_, .int .u64 (f.keep : Nat), .int .i64 f.torn]
set_option maxRecDepth 20000 in
set_option maxHeartbeats 2000000 in
theorem crash_up (w : World) (B : Nat) (k : KB) (d : DS) (h : DiskAt w B k d) (hG : DGood d) (f : DF) (hfk : f.keep < 18446744073709551616) (hd : d.down = false) :
    Calls Try.prog 19 #[.pointer (some ⟨k.gd, 0, none⟩), .agg #[.int .i64 f.at_, .int .u64 (f.keep : Nat), .int .i64 f.torn]] w fun e w' => e = .returned (.tuple #[]) ∧ DiskAt w' B k (d.crash f) ∧ Keeps w w' k.own := by
  have HD := Lib.hid (fun w' hb => down_any w' B k d (h.below hb))
  rw [hd] at HD
  have hp1 := hG.p1
  have hb1 := hG.b1
  obtain ⟨hne, hlt, hlt2, hBk⟩ := h.head
  obtain ⟨⟨cb, np, cp, nf, cf, Ap, Af, rfl, rfl, h3, h4, h5, h6, h7, h8, h9, h10, h11⟩, lo⟩ := h
  rw [hd] at h6
  have HDN := Lib.hid hd
  have HAP := Lib.hid (And.intro h10 h11)
  have HW0 := Lib.hid (And.intro h6 (And.intro h8 h9))
  clear hd h10 h11
  go_enter Try.func19, Try.ntmps19
  go_upto_region 1 with (fail)
  generalize hW0 : World.alloc w (.cells _ _) = W
  obtain ⟨ba0, hz0, hB0⟩ := fresh1 hW0
  clear hW0
  have HS := Lib.hid (And.intro (h6.below hB0) (And.intro (h7.below hB0) (And.intro (h8.below hB0) (And.intro (h9.below hB0) (And.intro ba0 hB0)))))
  have hcc := (h6.below hB0).c5
  clear h6 h7 h8 h9 ba0
  go_wp2_with fail
  refine (HD.out _ hB0).mono ?_
  rintro e w1 ⟨rfl, rfl⟩
  clear hB0
  go_wp2_with fail
  clear hcc
  obtain ⟨s1, s2, s3, s4, s5, s6⟩ := HS.out
  have HI : Hid (Crashing w B k f cb d.blocks W) := ⟨grown_of_below s6 _, s2, s5⟩
  clear s1 s2 s3 s4 s5 s6
  go_loopw [22] (fun iv wr => ∃ i : Nat, i ≤ d.pending.length ∧ iv = .int .i64 i ∧ Hid (Crashing w B k f cb (hitAll f ((d.pending.length : Int) - 1) (d.pending.take i) 0 d.blocks) wr)) (fun iv _ => d.pending.length - (intOf iv).toNat)
  case atStart => exact ⟨0, by omega, rfl, HI.out⟩
  case round =>
    obtain ⟨i, hi, rfl, HJ⟩ := hrel
    clear HI
    obtain ⟨c1, c2, c3⟩ := HJ.out
    have hcc := (HW0.out.1.grown c1 (by simp; exact hne)).c5
    by_cases hlt : i < d.pending.length
    · have hii : (i : Int) < (d.pending.length : Int) := by omega
      obtain ⟨bp, op, rfl, hbp, hrg⟩ := (HW0.out.2.1.keep2 c1.size (fun a ha _ => c1.block _ (by assumption) (by simp; exact fun e => HAP.out.1 a ha (.inr e)))).row.range hlt
      have hat := hG.at_ d.pending[i] (List.getElem_mem hlt)
      have HTK := Lib.hid (hitAll_take f ((d.pending.length : Int) - 1) d.pending i d.blocks hlt)
      have hLlen : (hitAll f ((d.pending.length : Int) - 1) (d.pending.take i) 0 d.blocks).length = d.blocks.length := hitAll_length ..
      generalize d.pending[i] = p at hrg hat HTK
      obtain ⟨pat, pb⟩ := p
      simp only at hat
      obtain ⟨m, rfl⟩ : ∃ m : Nat, pat = (m : Int) := ⟨pat.toNat, by omega⟩
      have hr0 : wr.rangeAt bp (op + i * 513) (Value.int .i64 (m : Int) :: pb.v) := hrg
      have HC := Lib.hid (And.intro c1 (And.intro c2 c3))
      have HR := Lib.hid hr0
      clear hrg hr0 c1 c2 c3
      go_upto_region 6 with (first | (refine wpList_load_mid rfl 97 (.tmp 25) rfl bp (op + i * 513) rfl _ _ HR.out Try.underlying97 rfl (infoDW.trans (by rw [List.length_cons, pb.v_length])) ?_) | (refine wpList_alloc_z rfl 97 rfl (zeroDW _) ?_; intro W6 hW6; obtain ⟨ba6, hz6, hB6⟩ := fresh1 (a := Value.int .i64 0 :: zBytes 512) hW6; clear hW6) | (refine wpList_store_blk rfl rfl 97 (.tmp 6) (.tmp 26) rfl wr.heap.size rfl _ rfl ba6 (by simp [B512.v_length, zBytes]) (infoDW.trans (by simp [zBytes])) (eDW.one ⟨(m : Int), pb⟩) ?_; intro W7 hb7 hg7))
      have hc7 := And.intro (hb7.cell 0) (hb7.lt)
      simp only [List.getElem?_cons_zero] at hc7
      obtain ⟨c1, c2, c3⟩ := HC.out
      have g17 : wr.grownBy W7 (some wr.heap.size) := (grown_of_below hB6 _).trans' hg7
      have hz7 : wr.heap.size < W7.heap.size := hb7.lt
      have hgw : w.grownBy W7 (some k.gb) := grown_then c1 ⟨g17.os, g17.tape, g17.output, g17.size, fun i hi _ => g17.block i hi (by simp; omega)⟩
      have hlt3 : k.gb < wr.heap.size := Nat.lt_of_lt_of_le hlt2 c1.size
      have ho7 := c2.keep (fun a ha => by obtain rfl := Option.some.inj ha; exact g17.block _ hlt3 (by simp; omega))
      have hbx7 := c3.grown g17 (by have := c3.lt; simp; omega)
      have hcc7 := And.intro (HW0.out.1.grown hgw (by simp; exact hne)).c5 (And.intro hc7 hbx7.c3)
      have HS7 := Lib.hid (And.intro hgw (And.intro ho7 (And.intro hbx7 hb7)))
      clear hcc hc7 c1 c2 c3 ba6 hB6 hg7 g17 hgw ho7 hbx7 hb7
      have hmi : (m : Int) < (d.blocks.length : Int) := hat.2
      apply wp_region_read (R := fun j x => match j with
        | 0 => x = .pointer (some ⟨k.gd, 0, none⟩)
        | 1 => x = .pointer (some ⟨k.gd, 0, none⟩)
        | 2 => x = .pointer (some ⟨k.gd, 0, none⟩)
        | 3 => x = .slice (some ⟨k.gb, 0, none⟩) d.blocks.length cb
        | 4 => x = .pointer (some ⟨wr.heap.size, 0, none⟩)
        | 5 => x = .int .i64 (m : Int)
        | 6 => x = .pointer (some ⟨k.gb, m * 1024, none⟩)
        | 7 => x = .pointer (some ⟨k.gb, m * 1024 + 512, none⟩)
        | 8 => x = .pointer (some ⟨k.gb, m * 1024 + 512, none⟩)
        | _ => True)
      case hG => (intro v; simp only [regFrame, List.zipIdx_cons, List.zipIdx_nil, List.foldl_cons, List.foldl_nil, Act.put, List.setIfInBounds_toArray, List.set_cons_zero, List.set_cons_succ, Nat.reduceAdd]; rfl)
      case hm => kernel_rfl
      case honce => rfl
      case hlow => kernel_rfl
      case hstep =>
        refine ⟨?_, ?_, ?_, ?_, ?_, ?_, ?_, ?_, ?_, trivial⟩ <;> (intro v hd; simp only [Deps, Region.binds, ↓reduceIte, and_true] at hd) <;> (try (first | exact opDoes_move _ rfl rfl ⟨rfl, rfl⟩ | exact opDoes_assign _ rfl rfl ⟨rfl, rfl⟩ | (refine opDoes_run rfl ?_ ⟨rfl, rfl⟩; go_simp; done) | exact opDoes_gmove _ (wanted_guard rfl rfl rfl (by simp only [hd]; rfl)) rfl ⟨rfl, rfl⟩ | (refine opDoes_grun (wanted_guard rfl rfl rfl (by simp only [hd]; rfl)) ?_ ⟨rfl, rfl⟩; go_simp; done) | exact opDoes_skipped rfl rfl rfl (by simp only [hd]; rfl) ⟨rfl, trivial⟩ | (refine opDoes_assign _ rfl rfl ⟨rfl, ?_⟩; go_simp; done)))
      case hend =>
        intro v h
        simp only [AllOps, Nat.zero_add, Nat.reduceAdd, and_true] at h
        rw [h.2.2.2.2.2.2.2.2]
        clear h
        have HS8 : Hid (w.grownBy W7.drew (some k.gb) ∧ EOwn eDB W7.drew B (some ⟨k.gb, 0, none⟩) cb (hitAll f ((d.pending.length : Int) - 1) (d.pending.take i) 0 d.blocks) ∧ Blk W7.drew w.heap.size 25 [.int .i64 f.at_, .int .u64 (f.keep : Nat), .int .i64 f.torn] ∧ Blk W7.drew wr.heap.size 97 (.int .i64 (m : Int) :: pb.v)) := ⟨⟨HS7.out.1.os, HS7.out.1.tape, HS7.out.1.output, HS7.out.1.size, HS7.out.1.block⟩, HS7.out.2⟩
        generalize W7.drew = W8 at HS8 ⊢
        have hcc8 := HS8.out.2.2.1.c3
        have hz8 : wr.heap.size < W8.heap.size := HS8.out.2.2.2.lt
        clear hcc7 HS7
        have hmL : m < (hitAll f ((d.pending.length : Int) - 1) (d.pending.take i) 0 d.blocks).length := by rw [hLlen]; omega
        have hgetD : (hitAll f ((d.pending.length : Int) - 1) (d.pending.take i) 0 d.blocks).getD m default = (hitAll f ((d.pending.length : Int) - 1) (d.pending.take i) 0 d.blocks)[m] := by simp [hmL]
        have HTK2 : Hid (hitAll f ((d.pending.length : Int) - 1) (d.pending.take (i + 1)) 0 d.blocks = (hitAll f ((d.pending.length : Int) - 1) (d.pending.take i) 0 d.blocks).set m ((hitAll f ((d.pending.length : Int) - 1) (d.pending.take i) 0 d.blocks)[m].hit f ((d.pending.length : Int) - 1) i ⟨(m : Int), pb⟩)) := by
          have := HTK.out
          simp only [Int.toNat_natCast] at this
          rw [hgetD] at this
          exact this
        clear hgetD HTK hLlen
        generalize hLi : hitAll f ((d.pending.length : Int) - 1) (d.pending.take i) 0 d.blocks = Li at HS8 hmL HTK2
        clear hLi
        by_cases hkb : keepB f i = true
        · have h64i : (i : Int) < 64 := by unfold keepB at hkb; simp at hkb; omega
          have hbit : (bits BinOp.and IntKind.u64 ((f.keep : Int) / 2 ^ i) 1 == 1) = true := by
            rw [keep_bit _ _ hfk]; unfold keepB at hkb; simp at hkb; exact hkb.2
          have HX : Hid (Li[m].hit f ((d.pending.length : Int) - 1) i ⟨(m : Int), pb⟩ = { Li[m] with sure := pb }) := by show _ = _; unfold DB.hit; rw [if_pos hkb]
          clear hkb
          go_wp2_with (first | (refine wpList_load_mid rfl 95 (.tmp 47) rfl wr.heap.size 1 rfl pb.v _ (HS8.out.2.2.2.range 1 pb.v (fun j hj => by rw [Nat.add_comm]; rfl)) Try.underlying95 rfl (infoArr.trans (by rw [pb.v_length])) ?_) | (refine wpList_store_part eDB rfl rfl 95 (.tmp 49) (.tmp 48) rfl k.gb m 512 (m * 1024 + 512) rfl rfl pb.v rfl HS8.out.2.1 hmL { Li[m] with sure := pb } (by rw [pb.v_length]; decide) (code_sure _ _) (infoArr.trans (by rw [pb.v_length])) pb.v_one ?_; intro W9 ho9 hg9; have HS9 : Hid (Crashing w B k f cb (Li.set m { Li[m] with sure := pb }) W9) := ⟨HS8.out.1.trans' hg9, ho9, HS8.out.2.2.1.grown hg9 (by simp; omega)⟩; clear ho9 hg9))
          go_roundw
          case rel => exact ⟨i + 1, by omega, by go_num, by rw [HTK2.out, HX.out]; exact HS9.out⟩
          case measure => simp [intOf]; omega
        · have HKB := Lib.hid hkb
          by_cases h64 : i < 64
          · have h64i : (i : Int) < 64 := by omega
            have hbit : (bits BinOp.and IntKind.u64 ((f.keep : Int) / 2 ^ i) 1 == 1) = false := by
              rw [keep_bit _ _ hfk]; unfold keepB at hkb; simpa [h64] using hkb
            clear hkb h64
            by_cases hil : (i : Int) = (d.pending.length : Int) - 1
            · have hilb : ((i : Int) == (d.pending.length : Int) - 1) = true := by simpa using hil
              have HX : Hid (Li[m].hit f ((d.pending.length : Int) - 1) i ⟨(m : Int), pb⟩ = { Li[m] with sure := pb.over Li[m].sure (tornN f.torn) }) := by show _ = _; unfold DB.hit; rw [if_neg HKB.out, if_pos hil]
              clear hil
              have hn5 := tornN_le f.torn
              obtain ⟨n5, hn5e⟩ : ∃ n5, tornN f.torn = n5 := ⟨_, rfl⟩
              obtain ⟨mn, hmin⟩ : ∃ mn : Int, (if 512 < f.torn then 512 else f.torn) = mn := ⟨_, rfl⟩
              have hmax : (if 0 < mn then mn else 0) = (n5 : Int) := by
                rw [← hn5e]; unfold tornN
                split at hmin <;> split <;> omega
              rw [hn5e] at hn5 HX
              clear hn5e
              have hn5i2 : (n5 : Int) ≤ 512 := by omega
              go_wp2_with fail
              apply wp_region_lastv (n := 9) (R := fun j x w' => match j with
                | 0 => x = .pointer (some ⟨k.gb, m * 1024 + 512, none⟩)
                | 1 => x = .pointer (some ⟨k.gb, m * 1024 + 512, none⟩)
                | 2 => x = .pointer (some ⟨w.heap.size, 2, none⟩)
                | 3 => x = .int .i64 f.torn
                | 4 => x = .int .i64 mn
                | 5 => x = .int .i64 (n5 : Int)
                | 6 => x = .slice (some ⟨k.gb, m * 1024 + 512, none⟩) n5 512
                | 7 => x = .pointer (some ⟨wr.heap.size, 1, none⟩)
                | 8 => x = .slice (some ⟨wr.heap.size, 1, none⟩) 512 512
                | _ => True) (W := fun w' => w' = W8.drew) (Gr := fun w1 w2 => w2 = w1)
              case hG => (intro v; simp only [regFrame, List.zipIdx_cons, List.zipIdx_nil, List.foldl_cons, List.foldl_nil, Act.put, List.setIfInBounds_toArray, List.set_cons_zero, List.set_cons_succ, Nat.reduceAdd]; rfl)
              case hm => kernel_rfl
              case honce => rfl
              case hlow => kernel_rfl
              case hall => kernel_rfl
              case hn => rfl
              case ho => rfl
              case hog => rfl
              case hR =>
                intro j x w' w'' hb h
                exact h
              case hW => exact fun w w' h hb => hb.trans h
              case h0 => rfl
              case hstep =>
                refine ⟨?_, ?_, ?_, ?_, ?_, ?_, ?_, ?_, ?_, trivial⟩ <;> (intro v w' hw' hd; subst hw'; simp only [Deps, Region.binds, ↓reduceIte, and_true] at hd) <;> (try (first | exact opDoes_move _ rfl rfl ⟨rfl, rfl⟩ | (refine opDoes_run rfl ?_ ⟨rfl, rfl⟩; go_simp; done)))
              case hend =>
                intro v w' hw' h
                subst hw'
                simp only [List.take, AllOps, Nat.zero_add, Nat.reduceAdd, and_true] at h
                obtain ⟨-, -, -, -, -, -, h6, -, h8⟩ := h
                have hcp := run_copy_cells (P := Try.prog) W8.drew 33 33 3 5 k.gb (m * 1024 + 512) n5 512 ⟨wr.heap.size, 1, none⟩ 512 512 (pb.v.take n5) Try.underlying33 (by kernel_rfl) (by rw [List.length_take, pb.v_length]; exact (Nat.min_comm ..)) (fun j u hu => by
                  rw [Addr.add_mid]
                  refine (HS8.out.2.2.2.range 1 pb.v (fun j hj => by rw [Nat.add_comm]; rfl)) j u ?_
                  rw [List.getElem?_take] at hu
                  split at hu
                  · exact hu
                  · cases hu) (fun j hj => (HS8.out.2.1.there hmL 512 512 (by decide) j (by rw [List.length_take] at hj; omega)).1) (fun j hj => (HS8.out.2.1.there hmL 512 512 (by decide) j (by rw [List.length_take] at hj; omega)).2) (fun u hu => pb.v_one u (List.mem_of_mem_take hu))
                have HS9 : Hid (Crashing w B k f cb (Li.set m { Li[m] with sure := pb.over Li[m].sure n5 }) (W8.drew.setCells k.gb (m * 1024 + 512) (pb.v.take n5))) := by
                  have hg9 := grown_setCells W8.drew k.gb (m * 1024 + 512) (pb.v.take n5)
                  have ho9 := EOwn.storePart (w := W8.drew) (show EOwn eDB W8.drew B (some ⟨k.gb, 0, none⟩) cb Li from HS8.out.2.1) hmL { Li[m] with sure := pb.over Li[m].sure n5 } 512 (pb.v.take n5) (by rw [List.length_take, pb.v_length]; show 512 + min n5 512 ≤ 1024; omega) (code_torn _ _ _ hn5)
                  exact ⟨(⟨HS8.out.1.os, HS8.out.1.tape, HS8.out.1.output, HS8.out.1.size, HS8.out.1.block⟩ : w.grownBy W8.drew (some k.gb)).trans' hg9, ho9, Blk.grown (w := W8.drew) HS8.out.2.2.1 hg9 (by simp; omega)⟩
                refine ⟨goInt (pb.v.take n5).length, W8.drew.setCells k.gb (m * 1024 + 512) (pb.v.take n5), ?_, ?_⟩
                · exact exec_copy rfl h6 h8 hcp
                · clear hcp h6 h8 hcc8
                  generalize (World.setCells W8.drew _ _ _) = W9 at HS9 ⊢
                  go_wp2_with fail
                  go_roundw
                  case rel => exact ⟨i + 1, by omega, by go_num, by rw [HTK2.out, HX.out]; exact HS9.out⟩
                  case measure => simp [intOf]; omega
            · have hilb : ((i : Int) == (d.pending.length : Int) - 1) = false := by simpa using hil
              have HX : Hid (Li[m].hit f ((d.pending.length : Int) - 1) i ⟨(m : Int), pb⟩ = Li[m]) := by show _ = _; unfold DB.hit; rw [if_neg HKB.out, if_neg hil]
              clear hil
              go_wp2_with fail
              go_roundw
              case rel => exact ⟨i + 1, by omega, by go_num, by rw [HTK2.out, HX.out, List.set_getElem_self]; exact ⟨HS8.out.1, HS8.out.2.1, HS8.out.2.2.1⟩⟩
              case measure => simp [intOf]; omega
          · have h64i : ¬ (i : Int) < 64 := by omega
            clear hkb h64
            by_cases hil : (i : Int) = (d.pending.length : Int) - 1
            · have hilb : ((i : Int) == (d.pending.length : Int) - 1) = true := by simpa using hil
              have HX : Hid (Li[m].hit f ((d.pending.length : Int) - 1) i ⟨(m : Int), pb⟩ = { Li[m] with sure := pb.over Li[m].sure (tornN f.torn) }) := by show _ = _; unfold DB.hit; rw [if_neg HKB.out, if_pos hil]
              clear hil
              have hn5 := tornN_le f.torn
              obtain ⟨n5, hn5e⟩ : ∃ n5, tornN f.torn = n5 := ⟨_, rfl⟩
              obtain ⟨mn, hmin⟩ : ∃ mn : Int, (if 512 < f.torn then 512 else f.torn) = mn := ⟨_, rfl⟩
              have hmax : (if 0 < mn then mn else 0) = (n5 : Int) := by
                rw [← hn5e]; unfold tornN
                split at hmin <;> split <;> omega
              rw [hn5e] at hn5 HX
              clear hn5e
              have hn5i2 : (n5 : Int) ≤ 512 := by omega
              go_wp2_with fail
              apply wp_region_lastv (n := 9) (R := fun j x w' => match j with
                | 0 => x = .pointer (some ⟨k.gb, m * 1024 + 512, none⟩)
                | 1 => x = .pointer (some ⟨k.gb, m * 1024 + 512, none⟩)
                | 2 => x = .pointer (some ⟨w.heap.size, 2, none⟩)
                | 3 => x = .int .i64 f.torn
                | 4 => x = .int .i64 mn
                | 5 => x = .int .i64 (n5 : Int)
                | 6 => x = .slice (some ⟨k.gb, m * 1024 + 512, none⟩) n5 512
                | 7 => x = .pointer (some ⟨wr.heap.size, 1, none⟩)
                | 8 => x = .slice (some ⟨wr.heap.size, 1, none⟩) 512 512
                | _ => True) (W := fun w' => w' = W8.drew) (Gr := fun w1 w2 => w2 = w1)
              case hG => (intro v; simp only [regFrame, List.zipIdx_cons, List.zipIdx_nil, List.foldl_cons, List.foldl_nil, Act.put, List.setIfInBounds_toArray, List.set_cons_zero, List.set_cons_succ, Nat.reduceAdd]; rfl)
              case hm => kernel_rfl
              case honce => rfl
              case hlow => kernel_rfl
              case hall => kernel_rfl
              case hn => rfl
              case ho => rfl
              case hog => rfl
              case hR =>
                intro j x w' w'' hb h
                exact h
              case hW => exact fun w w' h hb => hb.trans h
              case h0 => rfl
              case hstep =>
                refine ⟨?_, ?_, ?_, ?_, ?_, ?_, ?_, ?_, ?_, trivial⟩ <;> (intro v w' hw' hd; subst hw'; simp only [Deps, Region.binds, ↓reduceIte, and_true] at hd) <;> (try (first | exact opDoes_move _ rfl rfl ⟨rfl, rfl⟩ | (refine opDoes_run rfl ?_ ⟨rfl, rfl⟩; go_simp; done)))
              case hend =>
                intro v w' hw' h
                subst hw'
                simp only [List.take, AllOps, Nat.zero_add, Nat.reduceAdd, and_true] at h
                obtain ⟨-, -, -, -, -, -, h6, -, h8⟩ := h
                have hcp := run_copy_cells (P := Try.prog) W8.drew 33 33 3 5 k.gb (m * 1024 + 512) n5 512 ⟨wr.heap.size, 1, none⟩ 512 512 (pb.v.take n5) Try.underlying33 (by kernel_rfl) (by rw [List.length_take, pb.v_length]; exact (Nat.min_comm ..)) (fun j u hu => by
                  rw [Addr.add_mid]
                  refine (HS8.out.2.2.2.range 1 pb.v (fun j hj => by rw [Nat.add_comm]; rfl)) j u ?_
                  rw [List.getElem?_take] at hu
                  split at hu
                  · exact hu
                  · cases hu) (fun j hj => (HS8.out.2.1.there hmL 512 512 (by decide) j (by rw [List.length_take] at hj; omega)).1) (fun j hj => (HS8.out.2.1.there hmL 512 512 (by decide) j (by rw [List.length_take] at hj; omega)).2) (fun u hu => pb.v_one u (List.mem_of_mem_take hu))
                have HS9 : Hid (Crashing w B k f cb (Li.set m { Li[m] with sure := pb.over Li[m].sure n5 }) (W8.drew.setCells k.gb (m * 1024 + 512) (pb.v.take n5))) := by
                  have hg9 := grown_setCells W8.drew k.gb (m * 1024 + 512) (pb.v.take n5)
                  have ho9 := EOwn.storePart (w := W8.drew) (show EOwn eDB W8.drew B (some ⟨k.gb, 0, none⟩) cb Li from HS8.out.2.1) hmL { Li[m] with sure := pb.over Li[m].sure n5 } 512 (pb.v.take n5) (by rw [List.length_take, pb.v_length]; show 512 + min n5 512 ≤ 1024; omega) (code_torn _ _ _ hn5)
                  exact ⟨(⟨HS8.out.1.os, HS8.out.1.tape, HS8.out.1.output, HS8.out.1.size, HS8.out.1.block⟩ : w.grownBy W8.drew (some k.gb)).trans' hg9, ho9, Blk.grown (w := W8.drew) HS8.out.2.2.1 hg9 (by simp; omega)⟩
                refine ⟨goInt (pb.v.take n5).length, W8.drew.setCells k.gb (m * 1024 + 512) (pb.v.take n5), ?_, ?_⟩
                · exact exec_copy rfl h6 h8 hcp
                · clear hcp h6 h8 hcc8
                  generalize (World.setCells W8.drew _ _ _) = W9 at HS9 ⊢
                  go_wp2_with fail
                  go_roundw
                  case rel => exact ⟨i + 1, by omega, by go_num, by rw [HTK2.out, HX.out]; exact HS9.out⟩
                  case measure => simp [intOf]; omega
            · have hilb : ((i : Int) == (d.pending.length : Int) - 1) = false := by simpa using hil
              have HX : Hid (Li[m].hit f ((d.pending.length : Int) - 1) i ⟨(m : Int), pb⟩ = Li[m]) := by show _ = _; unfold DB.hit; rw [if_neg HKB.out, if_neg hil]
              clear hil
              go_wp2_with fail
              go_roundw
              case rel => exact ⟨i + 1, by omega, by go_num, by rw [HTK2.out, HX.out, List.set_getElem_self]; exact ⟨HS8.out.1, HS8.out.2.1, HS8.out.2.2.1⟩⟩
              case measure => simp [intOf]; omega
    · obtain rfl : i = d.pending.length := by omega
      have hii : ¬ (d.pending.length : Int) < (d.pending.length : Int) := by omega
      rw [List.take_length] at c2
      have hLlen : (hitAll f ((d.pending.length : Int) - 1) d.pending 0 d.blocks).length = d.blocks.length := hitAll_length ..
      have HE : Hid ((d.crash f).blocks = (hitAll f ((d.pending.length : Int) - 1) d.pending 0 d.blocks).map (fun x => ⟨x.sure, x.sure⟩) ∧ d.crash f = { d with blocks := (hitAll f ((d.pending.length : Int) - 1) d.pending 0 d.blocks).map (fun x => ⟨x.sure, x.sure⟩), pending := [], down := true }) := by
        constructor <;> (unfold DS.crash; rw [if_neg (by rw [HDN.out]; decide)])
      generalize hitAll f ((d.pending.length : Int) - 1) d.pending 0 d.blocks = L at c2 hLlen HE
      have HC : Hid (w.grownBy wr (some k.gb) ∧ EOwn eDB wr B (some ⟨k.gb, 0, none⟩) cb L) := ⟨c1, c2⟩
      clear c1 c2 c3 HJ
      go_wp2_with fail
      go_loopw [70] (fun iv wr => ∃ i : Nat, i ≤ d.blocks.length ∧ iv = .int .i64 i ∧ Hid (w.grownBy wr (some k.gb) ∧ EOwn eDB wr B (some ⟨k.gb, 0, none⟩) cb (settle L i))) (fun iv _ => d.blocks.length - (intOf iv).toNat)
      case atStart => exact ⟨0, by omega, rfl, HC.out⟩
      case round =>
        obtain ⟨i, hi, rfl, HJ⟩ := hrel
        clear HC hcc
        have hcc := (HW0.out.1.grown HJ.out.1 (by simp; exact hne)).c5
        by_cases hlt : i < d.blocks.length
        · have hii2 : (i : Int) < (d.blocks.length : Int) := by omega
          have hiL : i < L.length := by omega
          have hiS : i < (settle L i).length := by rw [settle_length]; exact hiL
          have hget := settle_get L i hiL
          rw [List.getElem?_eq_getElem hiS] at hget
          have HGET := Lib.hid (Option.some.inj hget)
          have HSUC := Lib.hid (settle_succ L i hiL)
          clear hget
          go_wp2_with fail
          apply wp_region_last (n := 15) (R := fun j x w' => match j with
            | 0 => x = .pointer (some ⟨k.gd, 0, none⟩)
            | 1 => x = .pointer (some ⟨k.gd, 0, none⟩)
            | 2 => x = .pointer (some ⟨k.gd, 0, none⟩)
            | 3 => x = .slice (some ⟨k.gb, 0, none⟩) d.blocks.length cb
            | 4 => x = .int .i64 (i : Nat)
            | 5 => x = .pointer (some ⟨k.gd, 0, none⟩)
            | 6 => x = .pointer (some ⟨k.gd, 0, none⟩)
            | 7 => x = .pointer (some ⟨k.gd, 0, none⟩)
            | 8 => x = .slice (some ⟨k.gb, 0, none⟩) d.blocks.length cb
            | 9 => x = .int .i64 (i : Nat)
            | 10 => x = .pointer (some ⟨k.gb, i * 1024, none⟩)
            | 11 => x = .pointer (some ⟨k.gb, i * 1024 + 512, none⟩)
            | 12 => x = .agg L[i].sure.v.toArray
            | 13 => x = .pointer (some ⟨k.gb, i * 1024, none⟩)
            | 14 => x = .pointer (some ⟨k.gb, i * 1024, none⟩)
            | _ => True) (W := fun w' => w' = wr.drew) (Gr := fun w1 w2 => w2 = w1)
          case hG => (intro v; simp only [regFrame, List.zipIdx_cons, List.zipIdx_nil, List.foldl_cons, List.foldl_nil, Act.put, List.setIfInBounds_toArray, List.set_cons_zero, List.set_cons_succ, Nat.reduceAdd]; rfl)
          case hm => kernel_rfl
          case honce => rfl
          case hlow => kernel_rfl
          case hall => kernel_rfl
          case hn => rfl
          case ho => rfl
          case hog => rfl
          case hod => rfl
          case hR =>
            intro j x w' w'' hb h
            exact h
          case hW => exact fun w w' h hb => hb.trans h
          case h0 => rfl
          case hstep =>
            have hld := run_loadAt_mid (P := Try.prog) wr.drew k.gb (i * 1024 + 512) 95 L[i].sure.v _ (EOwn.range (w := wr.drew) (show EOwn eDB wr.drew B (some ⟨k.gb, 0, none⟩) cb (settle L i) from HJ.out.2) hiS 512 L[i].sure.v (fun j hj => by
              rw [HGET.out]
              show (L[i].now.v ++ L[i].sure.v)[512 + j]? = _
              rw [List.getElem?_append_right (by rw [L[i].now.v_length]; omega), L[i].now.v_length, show 512 + j - 512 = j from by omega])) Try.underlying95 rfl (infoArr.trans (by rw [L[i].sure.v_length]))
            refine ⟨?_, ?_, ?_, ?_, ?_, ?_, ?_, ?_, ?_, ?_, ?_, ?_, ?_, ?_, ?_, trivial⟩ <;> (intro v w' hw' hd; subst hw'; simp only [Deps, Region.binds, ↓reduceIte, and_true] at hd) <;> (try (first | exact opDoes_move _ rfl rfl ⟨rfl, rfl⟩ | (refine opDoes_run rfl ?_ ⟨rfl, rfl⟩; go_simp; done)))
            exact opDoes_run rfl (exec_load rfl hd hld) ⟨rfl, rfl⟩
          case hend =>
            intro v w' hw' h
            subst hw'
            simp only [List.take, AllOps, Nat.zero_add, Nat.reduceAdd, and_true] at h
            obtain ⟨-, -, -, -, -, -, -, -, -, -, -, -, h12, -, h14⟩ := h
            have ho' : EOwn eDB wr.drew B (some ⟨k.gb, 0, none⟩) cb (settle L i) := HJ.out.2
            have hst := run_store_part (P := Try.prog) 95 k.gb i 0 L[i].sure.v ho' hiS (by rw [L[i].sure.v_length]; decide) (infoArr.trans (by rw [L[i].sure.v_length])) L[i].sure.v_one
            have ho9 := ho'.storePart hiS { L[i] with now := L[i].sure } 0 L[i].sure.v (by rw [L[i].sure.v_length]; decide) (by rw [HGET.out]; exact code_now _ _)
            have HS9 : Hid (w.grownBy (wr.drew.setCells k.gb (i * 1024 + 0) L[i].sure.v) (some k.gb) ∧ EOwn eDB (wr.drew.setCells k.gb (i * 1024 + 0) L[i].sure.v) B (some ⟨k.gb, 0, none⟩) cb (settle L (i + 1))) :=
              ⟨(⟨HJ.out.1.os, HJ.out.1.tape, HJ.out.1.output, HJ.out.1.size, HJ.out.1.block⟩ : w.grownBy wr.drew (some k.gb)).trans' (grown_setCells _ _ _ _), by rw [HSUC.out]; exact ho9⟩
            refine ⟨wr.drew.setCells k.gb (i * 1024 + 0) L[i].sure.v, exec_store rfl h14 h12 hst, ?_⟩
            clear hst ho9 h12 h14 ho'
            generalize (World.setCells wr.drew _ _ _) = W9 at HS9 ⊢
            go_wp2_with fail
            go_roundw
            case rel => exact ⟨i + 1, by omega, by go_num, HS9.out⟩
            case measure => simp [intOf]; omega
        · obtain rfl : i = d.blocks.length := by omega
          have hii2 : ¬ (d.blocks.length : Int) < (d.blocks.length : Int) := by omega
          have hset : settle L d.blocks.length = L.map (fun x => ⟨x.sure, x.sure⟩) := by
            unfold settle
            rw [← hLlen, List.take_length, List.drop_length, List.append_nil]
          have HF : Hid (w.grownBy wr (some k.gb) ∧ EOwn eDB wr B (some ⟨k.gb, 0, none⟩) cb (L.map (fun x => ⟨x.sure, x.sure⟩))) := by rw [← hset]; exact HJ.out
          clear hset
          go_wp2_with fail
          go_end0
          obtain ⟨hg, ho⟩ := HF.out
          have hlen2 : (L.map (fun x => (⟨x.sure, x.sure⟩ : DB))).length = d.blocks.length := by rw [List.length_map]; exact hLlen
          have b1 := (((HW0.out.1.grown hg (by simp; exact hne)).set1 (u := .slice none 0 0)).set 4 (.bool true))
          have hne' : ∀ a : Addr, some (⟨k.gb, 0, none⟩ : Addr) = some a → a.block ≠ k.gd := fun a ha => by obtain rfl := Option.some.inj ha; exact fun e => hne e.symm
          have o1 := (ho.set ⟨k.gd, 1, none⟩ hne' (.slice none 0 0)).set ⟨k.gd, 4, none⟩ hne' (.bool true)
          have r1 := (HW0.out.2.2.keep2 hg.size (fun a ha _ => hg.block _ (by assumption) (by simp; exact fun e => HAP.out.2 a ha (.inr e))))
          have r2 := (r1.keep2 (w' := wr.setCell ⟨k.gd, 1, none⟩ (.slice none 0 0)) (by simp) (fun a ha _ => heap_setCell_other wr ⟨k.gd, 1, none⟩ _ _ (fun e => HAP.out.2 a ha (.inl e)))).keep2 (w' := (wr.setCell ⟨k.gd, 1, none⟩ (.slice none 0 0)).setCell ⟨k.gd, 4, none⟩ (.bool true)) (by simp) (fun a ha _ => heap_setCell_other _ ⟨k.gd, 4, none⟩ _ _ (fun e => HAP.out.2 a ha (.inl e)))
          refine ⟨rfl, ?_, (((Keeps.of_grown hg).mono (fun k' e => .inr e)).set ⟨k.gd, 1, none⟩ (.inl (.inl rfl)) _).set ⟨k.gd, 4, none⟩ (.inl (.inl rfl)) _⟩
          rw [HE.out.2]
          exact ⟨⟨cb, 0, 0, _, cf, none, Af, rfl, rfl, Nat.le_refl _, Nat.zero_le _, fun _ => rfl, by simpa [hlen2] using b1, o1, EOwn.nil _ _, r2, (fun a ha => by cases ha), HAP.out.2⟩, lo⟩
/-- A loss of power, of any disk. -/
theorem crash_any (w : World) (B : Nat) (k : KB) (d : DS) (h : DiskAt w B k d) (hG : DGood d) (f : DF) (hfk : f.keep < 18446744073709551616) :
    Calls Try.prog 19 #[.pointer (some ⟨k.gd, 0, none⟩), .agg #[.int .i64 f.at_, .int .u64 (f.keep : Nat), .int .i64 f.torn]] w fun e w' => e = .returned (.tuple #[]) ∧ DiskAt w' B k (d.crash f) ∧ Keeps w w' k.own := by
  cases hd : d.down with
  | false => exact crash_up w B k d h hG f hfk hd
  | true =>
    refine (crash_down w B k d h f hd).mono fun e w' ⟨he, hb⟩ => ⟨he, ?_, Keeps.of_below hb⟩
    have e : d.crash f = d := by unfold DS.crash; rw [if_pos hd]
    rw [e]; exact h.below hb
end Go.Proofs.Ythbanhedjfpmaaa
