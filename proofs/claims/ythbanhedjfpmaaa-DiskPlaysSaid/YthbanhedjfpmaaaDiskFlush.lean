/-
  The contract of disk's Flush.
-/
import Derived.Test.YthbanhedjfpmaaaDiskWrite
namespace Go.Proofs.Ythbanhedjfpmaaa
set_option linter.unusedSimpArgs false
set_option linter.unusedVariables false
open Go.RowKit

theorem DGood.crash {d : DS} (h : DGood d) (f : DF) : DGood (d.crash f) := by
  unfold DS.crash
  split
  · exact h
  · exact ⟨by simpa [hitAll_length] using h.b0, by simpa [hitAll_length] using h.b1, by simp, h.f1, fun x hx => by simp at hx, h.fk⟩
theorem DGood.strike {d : DS} (h : DGood d) : DGood d.strike.1 := by
  have h1 : DGood { d with changes := d.changes + 1 } := ⟨h.b0, h.b1, h.p1, h.f1, h.at_, h.fk⟩
  unfold DS.strike
  split
  · exact h1.crash _
  · exact h1
/-- All writes are sure. -/
def sureAll : List DW → List DB → List DB
  | [], L => L
  | w :: ws, L => sureAll ws (L.set w.at_.toNat { (L.getD w.at_.toNat default) with sure := w.b })
theorem sureAll_length : ∀ (ws : List DW) (L : List DB), (sureAll ws L).length = L.length
  | [], _ => rfl
  | w :: ws, L => by rw [sureAll, sureAll_length ws]; simp
theorem sureAll_snoc : ∀ (ws : List DW) (w : DW) (L : List DB), sureAll (ws ++ [w]) L = (sureAll ws L).set w.at_.toNat { ((sureAll ws L).getD w.at_.toNat default) with sure := w.b }
  | [], _, _ => rfl
  | x :: ws, w, L => by rw [List.cons_append, sureAll, sureAll_snoc ws, sureAll]
theorem sureAll_take (ws : List DW) (i : Nat) (L : List DB) (hi : i < ws.length) : sureAll (ws.take (i + 1)) L = (sureAll (ws.take i) L).set ws[i].at_.toNat { ((sureAll (ws.take i) L).getD ws[i].at_.toNat default) with sure := ws[i].b } := by
  rw [List.take_succ_eq_append_getElem hi, sureAll_snoc]
def DS.settled (d : DS) : DS := { d with blocks := sureAll d.pending d.blocks, pending := [] }
def DS.flush (d : DS) : DS × Int := if d.down = true then (d, 6) else if d.strike.2 ≠ 0 then d.strike else (d.strike.1.settled, 0)
theorem DGood.settled {d : DS} (h : DGood d) : DGood d.settled :=
  ⟨by simpa [DS.settled, sureAll_length] using h.b0, by simpa [DS.settled, sureAll_length] using h.b1, by simp [DS.settled], h.f1, fun x hx => by simp [DS.settled] at hx, h.fk⟩
theorem DGood.flush {d : DS} (h : DGood d) : DGood d.flush.1 := by
  unfold DS.flush
  split
  · exact h
  · split
    · exact h.strike
    · exact h.strike.settled
set_option maxHeartbeats 400000 in
theorem flush_down (w : World) (B : Nat) (k : KB) (d : DS) (h : DiskAt w B k d) (hd : d.down = true) :
    Calls Try.prog 18 #[.pointer (some ⟨k.gd, 0, none⟩)] w fun e w' => e = .returned (.int .i64 6) ∧ w = w' := by
  have HD := Lib.hid (down_any w B k d h)
  rw [hd] at HD
  clear h hd
  go_enter Try.func18, Try.ntmps18
  go_wp2_with fail
  refine HD.out.mono ?_
  rintro e w1 ⟨rfl, rfl⟩
  go_wp2_with fail
  go_ret
  exact ⟨rfl, rfl⟩
/-- What holds while the writes are gone through. -/
def Flushing (w : World) (B : Nat) (k : KB) (cb : Nat) (L : List DB) (wr : World) : Prop :=
  w.grownBy wr (some k.gb) ∧ EOwn eDB wr B (some ⟨k.gb, 0, none⟩) cb L
set_option maxRecDepth 20000 in
set_option maxHeartbeats 2000000 in
theorem flush_up (w : World) (B : Nat) (k : KB) (d : DS) (h : DiskAt w B k d) (hG : DGood d) (hch : d.changes < 1000000000) (hd : d.down = false) :
    Calls Try.prog 18 #[.pointer (some ⟨k.gd, 0, none⟩)] w fun e w' => e = .returned (.int .i64 d.flush.2) ∧ DiskAt w' B k d.flush.1 ∧ Keeps w w' k.own := by
  have HD := Lib.hid (down_any w B k d h)
  rw [hd] at HD
  have HST := Lib.hid (strike_any w B k d h hG hch)
  have hGs := hG.strike
  have HF : Hid (d.flush = if d.strike.2 ≠ 0 then d.strike else (d.strike.1.settled, 0)) := by show _ = _; unfold DS.flush; rw [if_neg (by simp [hd])]
  generalize d.flush = fl at HF ⊢
  generalize d.strike = s at HST HF hGs
  obtain ⟨s, e⟩ := s
  simp only at HST HF hGs
  clear h hd hG hch
  by_cases he : e = 0
  · subst he
    have HF2 : Hid (fl = (s.settled, 0)) := by show _ = _; rw [HF.out, if_neg (by simp)]
    clear HF
    go_enter Try.func18, Try.ntmps18
    go_wp2_with fail
    refine HD.out.mono ?_
    rintro e w1 ⟨rfl, rfl⟩
    go_wp2_with fail
    refine HST.out.mono ?_
    rintro e w1 ⟨rfl, hD1, hK1⟩
    have hp1 := hGs.p1
    have hb1 := hGs.b1
    obtain ⟨hne, hlt, hlt2, hBk⟩ := hD1.head
    obtain ⟨⟨cb, np, cp, nf, cf, Ap, Af, rfl, rfl, h3, h4, h5, h6, h7, h8, h9, h10, h11⟩, lo⟩ := hD1
    have HAP := Lib.hid (And.intro h10 (And.intro h11 hK1))
    have HW0 := Lib.hid (And.intro h6 (And.intro h8 h9))
    have HI : Hid (Flushing w1 B k cb s.blocks w1) := ⟨World.grownBy.refl _ _, h7⟩
    have hcc := h6.c5
    clear h6 h7 h8 h9 h10 h11 hK1 HST HD
    go_wp2_with fail
    go_loopw [18] (fun iv wr => ∃ i : Nat, i ≤ s.pending.length ∧ iv = .int .i64 i ∧ Hid (Flushing w1 B k cb (sureAll (s.pending.take i) s.blocks) wr)) (fun iv _ => s.pending.length - (intOf iv).toNat)
    case atStart => exact ⟨0, by omega, rfl, HI.out⟩
    case round =>
      obtain ⟨i, hi, rfl, HJ⟩ := hrel
      clear HI hcc
      obtain ⟨c1, c2⟩ := HJ.out
      have hcc := (HW0.out.1.grown c1 (by simp; exact hne)).c5
      by_cases hlt : i < s.pending.length
      · have hii : (i : Int) < (s.pending.length : Int) := by omega
        obtain ⟨bp, op, rfl, hbp, hrg⟩ := (HW0.out.2.1.keep2 c1.size (fun a ha _ => c1.block _ (by assumption) (by simp; exact fun e => HAP.out.1 a ha (.inr e)))).row.range hlt
        have hat := hGs.at_ s.pending[i] (List.getElem_mem hlt)
        have HTK := Lib.hid (sureAll_take s.pending i s.blocks hlt)
        have hLlen : (sureAll (s.pending.take i) s.blocks).length = s.blocks.length := sureAll_length ..
        generalize s.pending[i] = p at hrg hat HTK
        obtain ⟨pat, pb⟩ := p
        simp only at hat
        obtain ⟨m, rfl⟩ : ∃ m : Nat, pat = (m : Int) := ⟨pat.toNat, by omega⟩
        have hr0 : wr.rangeAt bp (op + i * 513) (Value.int .i64 (m : Int) :: pb.v) := hrg
        have HC := Lib.hid (And.intro c1 c2)
        have HR := Lib.hid hr0
        clear hrg hr0 c1 c2
        go_upto_region 9 with (first | (refine wpList_load_mid rfl 97 (.tmp 20) rfl bp (op + i * 513) rfl _ _ HR.out Try.underlying97 rfl (infoDW.trans (by rw [List.length_cons, pb.v_length])) ?_) | (refine wpList_alloc_z rfl 97 rfl (zeroDW _) ?_; intro W6 hW6; obtain ⟨ba6, hz6, hB6⟩ := fresh1 (a := Value.int .i64 0 :: zBytes 512) hW6; clear hW6) | (refine wpList_store_blk rfl rfl 97 (.tmp 5) (.tmp 21) rfl wr.heap.size rfl _ rfl ba6 (by simp [B512.v_length, zBytes]) (infoDW.trans (by simp [zBytes])) (eDW.one ⟨(m : Int), pb⟩) ?_; intro W7 hb7 hg7))
        have hc7 := And.intro (hb7.cell 0) (hb7.lt)
        simp only [List.getElem?_cons_zero] at hc7
        obtain ⟨c1, c2⟩ := HC.out
        have g17 : wr.grownBy W7 (some wr.heap.size) := (grown_of_below hB6 _).trans' hg7
        have hz7 : wr.heap.size < W7.heap.size := hb7.lt
        have hgw : w1.grownBy W7 (some k.gb) := grown_then c1 ⟨g17.os, g17.tape, g17.output, g17.size, fun i hi _ => g17.block i hi (by simp; omega)⟩
        have hlt3 : k.gb < wr.heap.size := Nat.lt_of_lt_of_le hlt2 c1.size
        have ho7 := c2.keep (fun a ha => by obtain rfl := Option.some.inj ha; exact g17.block _ hlt3 (by simp; omega))
        have hcc7 := And.intro (HW0.out.1.grown hgw (by simp; exact hne)).c5 hc7
        have HS7 := Lib.hid (And.intro hgw (And.intro ho7 hb7))
        clear hcc hc7 c1 c2 ba6 hB6 hg7 g17 hgw ho7 hb7
        have hmi : (m : Int) < (s.blocks.length : Int) := hat.2
        apply wp_region_last (n := 10) (R := fun j x w' => match j with
          | 0 => x = .pointer (some ⟨k.gd, 0, none⟩)
          | 1 => x = .pointer (some ⟨k.gd, 0, none⟩)
          | 2 => x = .pointer (some ⟨k.gd, 0, none⟩)
          | 3 => x = .slice (some ⟨k.gb, 0, none⟩) s.blocks.length cb
          | 4 => x = .pointer (some ⟨wr.heap.size, 0, none⟩)
          | 5 => x = .int .i64 (m : Int)
          | 6 => x = .pointer (some ⟨wr.heap.size, 1, none⟩)
          | 7 => x = .agg pb.v.toArray
          | 8 => x = .pointer (some ⟨k.gb, m * 1024, none⟩)
          | 9 => x = .pointer (some ⟨k.gb, m * 1024 + 512, none⟩)
          | _ => True) (W := fun w' => w' = W7.drew) (Gr := fun w1 w2 => w2 = w1)
        case hG => (intro v; simp only [regFrame, List.zipIdx_cons, List.zipIdx_nil, List.foldl_cons, List.foldl_nil, Act.put, List.setIfInBounds_toArray, List.set_cons_zero, List.set_cons_succ, Nat.reduceAdd]; rfl)
        case hm => kernel_rfl
        case honce => rfl
        case hlow => kernel_rfl
        case hall => kernel_rfl
        case hn => rfl
        case ho => rfl
        case hog => rfl
        case hod => rfl
        case hR =>
          intro j x w' w'' hb h
          exact h
        case hW => exact fun w w' h hb => hb.trans h
        case h0 => rfl
        case hstep =>
          have hld := run_loadAt_mid (P := Try.prog) W7.drew wr.heap.size 1 95 pb.v _ (Blk.range (w := W7.drew) HS7.out.2.2 1 pb.v (fun j hj => by rw [Nat.add_comm]; rfl)) Try.underlying95 rfl (infoArr.trans (by rw [pb.v_length]))
          refine ⟨?_, ?_, ?_, ?_, ?_, ?_, ?_, ?_, ?_, ?_, trivial⟩ <;> (intro v w' hw' hd; subst hw'; simp only [Deps, Region.binds, ↓reduceIte, and_true] at hd) <;> (try (first | exact opDoes_move _ rfl rfl ⟨rfl, rfl⟩ | (refine opDoes_run rfl ?_ ⟨rfl, rfl⟩; go_simp; done)))
          exact opDoes_run rfl (exec_load rfl hd hld) ⟨rfl, rfl⟩
        case hend =>
          intro v w' hw' h
          subst hw'
          simp only [List.take, AllOps, Nat.zero_add, Nat.reduceAdd, and_true] at h
          obtain ⟨-, -, -, -, -, -, -, h7, -, h9⟩ := h
          have HS8 : Hid (w1.grownBy W7.drew (some k.gb) ∧ EOwn eDB W7.drew B (some ⟨k.gb, 0, none⟩) cb (sureAll (s.pending.take i) s.blocks)) := ⟨⟨HS7.out.1.os, HS7.out.1.tape, HS7.out.1.output, HS7.out.1.size, HS7.out.1.block⟩, HS7.out.2.1⟩
          have hmL : m < (sureAll (s.pending.take i) s.blocks).length := by rw [hLlen]; omega
          have hgetD : (sureAll (s.pending.take i) s.blocks).getD m default = (sureAll (s.pending.take i) s.blocks)[m] := by simp [hmL]
          have HTK2 : Hid (sureAll (s.pending.take (i + 1)) s.blocks = (sureAll (s.pending.take i) s.blocks).set m { (sureAll (s.pending.take i) s.blocks)[m] with sure := pb }) := by
            have := HTK.out
            simp only [Int.toNat_natCast] at this
            rw [hgetD] at this
            exact this
          clear hgetD HTK hLlen
          generalize hLi : sureAll (s.pending.take i) s.blocks = Li at HS8 hmL HTK2
          clear hLi
          have hst := run_store_part (P := Try.prog) 95 k.gb m 512 pb.v HS8.out.2 hmL (by rw [pb.v_length]; decide) (infoArr.trans (by rw [pb.v_length])) pb.v_one
          have ho9 := EOwn.storePart HS8.out.2 hmL { Li[m] with sure := pb } 512 pb.v (by rw [pb.v_length]; decide) (code_sure _ _)
          have HS9 : Hid (Flushing w1 B k cb (Li.set m { Li[m] with sure := pb }) (W7.drew.setCells k.gb (m * 1024 + 512) pb.v)) := ⟨HS8.out.1.trans' (grown_setCells _ _ _ _), ho9⟩
          refine ⟨W7.drew.setCells k.gb (m * 1024 + 512) pb.v, exec_store rfl h9 h7 hst, ?_⟩
          clear hst ho9 h7 h9 hcc7
          generalize (World.setCells W7.drew _ _ _) = W9 at HS9 ⊢
          go_wp2_with fail
          go_roundw
          case rel => exact ⟨i + 1, by omega, by go_num, by rw [HTK2.out]; exact HS9.out⟩
          case measure => simp [intOf]; omega
      · obtain rfl : i = s.pending.length := by omega
        have hii : ¬ (s.pending.length : Int) < (s.pending.length : Int) := by omega
        rw [List.take_length] at c2
        have HC : Hid (w1.grownBy wr (some k.gb) ∧ EOwn eDB wr B (some ⟨k.gb, 0, none⟩) cb (sureAll s.pending s.blocks)) := ⟨c1, c2⟩
        clear c1 c2 HJ
        go_wp2_with fail
        go_ret
        rw [HF2.out]
        obtain ⟨hg, ho⟩ := HC.out
        have hlen2 : (sureAll s.pending s.blocks).length = s.blocks.length := sureAll_length ..
        have b1 := (HW0.out.1.grown hg (by simp; exact hne)).set1 (u := .slice none 0 0)
        have hne' : ∀ a : Addr, some (⟨k.gb, 0, none⟩ : Addr) = some a → a.block ≠ k.gd := fun a ha => by obtain rfl := Option.some.inj ha; exact fun e => hne e.symm
        have o1 := ho.set ⟨k.gd, 1, none⟩ hne' (.slice none 0 0)
        have r1 := (HW0.out.2.2.keep2 hg.size (fun a ha _ => hg.block _ (by assumption) (by simp; exact fun e => HAP.out.2.1 a ha (.inr e))))
        have r2 := r1.keep2 (w' := wr.setCell ⟨k.gd, 1, none⟩ (.slice none 0 0)) (by simp) (fun a ha _ => heap_setCell_other wr ⟨k.gd, 1, none⟩ _ _ (fun e => HAP.out.2.1 a ha (.inl e)))
        refine ⟨rfl, ?_, (HAP.out.2.2.trans ((Keeps.of_grown hg).mono (fun k' e => .inr e))).set ⟨k.gd, 1, none⟩ (.inl (.inl rfl)) _⟩
        exact ⟨⟨cb, 0, 0, _, cf, none, Af, rfl, rfl, Nat.le_refl _, Nat.zero_le _, fun _ => rfl, by show Blk _ _ _ [.slice _ (sureAll s.pending s.blocks).length _, _, _, _, _]; rw [hlen2]; exact b1, o1, EOwn.nil _ _, r2, (fun a ha => by cases ha), HAP.out.2.1⟩, lo⟩
  · have HF2 : Hid (fl = (s, e)) := by show _ = _; rw [HF.out, if_pos he]
    have hb : (e != 0) = true := by simpa using he
    clear HF he
    go_enter Try.func18, Try.ntmps18
    go_wp2_with fail
    refine HD.out.mono ?_
    rintro e w1 ⟨rfl, rfl⟩
    go_wp2_with fail
    refine HST.out.mono ?_
    rintro e w1 ⟨rfl, hD1, hK1⟩
    have HX := Lib.hid (And.intro hD1 hK1)
    clear hD1 hK1
    go_wp2_with fail
    go_ret
    rw [HF2.out]
    exact ⟨rfl, HX.out⟩
theorem flush_any (w : World) (B : Nat) (k : KB) (d : DS) (h : DiskAt w B k d) (hG : DGood d) (hch : d.changes < 1000000000) :
    Calls Try.prog 18 #[.pointer (some ⟨k.gd, 0, none⟩)] w fun e w' => e = .returned (.int .i64 d.flush.2) ∧ DiskAt w' B k d.flush.1 ∧ Keeps w w' k.own := by
  cases hd : d.down with
  | false => exact flush_up w B k d h hG hch hd
  | true =>
    refine (flush_down w B k d h hd).mono fun e w' ⟨he, hb⟩ => ?_
    have e1 : d.flush = (d, 6) := by unfold DS.flush; rw [if_pos hd]
    subst hb
    rw [e1]; exact ⟨he, h, Keeps.refl _ _⟩
/-- A write, whatever is written. -/
theorem write_any (w : World) (B : Nat) (k : KB) (d : DS) (h : DiskAt w B k d) (hG : DGood d) (hch : d.changes < 1000000000) (hpl : d.pending.length < 1000000) (i : Int) (A : Option Addr) (c : Nat) (l : List UInt8) (hr : BRow w A l) :
    Calls Try.prog 17 #[.pointer (some ⟨k.gd, 0, none⟩), .int .i64 i, .slice A l.length c] w fun e w' => e = .returned (.int .i64 (d.write i l).2) ∧ DiskAt w' B k (d.write i l).1 ∧ Keeps w w' k.own := by
  by_cases hw : d.why i = 0
  · by_cases hl : l.length = 512
    · have hdn : d.down = false := by
        cases hd : d.down with
        | false => rfl
        | true => unfold DS.why at hw; rw [if_pos hd] at hw; exact absurd hw (by decide)
      have hir : 0 ≤ i ∧ i < d.blocks.length := by
        unfold DS.why at hw
        rw [if_neg (by simp [hdn])] at hw
        split at hw
        · exact absurd hw (by decide)
        · omega
      obtain ⟨m, rfl⟩ : ∃ m : Nat, i = (m : Int) := ⟨i.toNat, by omega⟩
      have e : d.write (m : Int) l = d.put m ⟨l, hl⟩ := by unfold DS.write; rw [if_neg (by simp [hw]), dif_pos hl, Int.toNat_natCast]
      rw [e, hl]
      exact write_ok w B k d h hG hch hpl m (by omega) hdn A c ⟨l, hl⟩ hr
    · refine (write_long w B k d h i A c l hw hl).mono fun e w' ⟨he, hb⟩ => ?_
      have e1 : d.write i l = (d, 1) := by unfold DS.write; rw [if_neg (by simp [hw]), dif_neg hl]
      subst hb
      rw [e1]; exact ⟨he, h, Keeps.refl _ _⟩
  · refine (write_bad w B k d h i A c l hw).mono fun e w' ⟨he, hb⟩ => ?_
    have e1 : d.write i l = (d, d.why i) := by unfold DS.write; rw [if_pos hw]
    subst hb
    rw [e1]; exact ⟨he, h, Keeps.refl _ _⟩
end Go.Proofs.Ythbanhedjfpmaaa
