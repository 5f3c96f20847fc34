/-
  Texts of a proof, one behind the other (each with its own head).
-/
import Derived.Test.YthbanhedjfpmaaaPartDdhkegfel
section
/-
  The walk of WalAtomic.
-/
namespace Go.Proofs.Ythbanhedjfpmaaa
set_option linter.unusedSimpArgs false
set_option linter.unusedVariables false
open Go.RowKit Go.WideShapes Go.ChangeShapes Go.Deep

theorem DiskAt.grownLow {w w' : World} {B B0 : Nat} {k : KB} {d : DS} {gf : Nat} (h : DiskAt w B k d) (hg : w.grownBy w' (some gf)) (h1 : gf < B) (h0 : B0 ≤ B) : DiskAt w' B0 k d := by
  have hh := h.head
  obtain ⟨⟨cb, np, cp, nf, cf, Ap, Af, e1, e2, e3, e4, e5, e6, e7, e8, e9, e10⟩, lo⟩ := h
  have hk : ∀ i, B ≤ i → i < w.heap.size → w'.heap[i]? = w.heap[i]? := fun i hi hs => hg.block i hs (by simp; omega)
  exact ⟨⟨cb, np, cp, nf, cf, Ap, Af, e1, e2, e3, e4, e5, (hk _ lo e6.lt).trans e6, (e7.keep2 hg.size fun a ha hs => hk _ (e7.block a ha).1 hs).mono h0, (e8.keep2 hg.size fun a ha hs => hk _ (e8.block a ha).1 hs).mono h0, (e9.keep2 hg.size fun a ha hs => hk _ (e9.block a ha).1 hs).mono h0, e10⟩, by omega⟩
theorem WL.low {w0 w1 w w' : World} {k : KB} {g n gf : Nat} {d : DS} {l : LS} {cs : List Value} (h : WL w1 w k g d l n) (h01 : Below w0.heap.size w0 w1) (hb : Blk w gf 25 cs) (hg : w.grownBy w' (some gf)) (h1 : gf < w1.heap.size) (h0 : w0.heap.size ≤ gf) : WL w0 w' k g d l n := by
  obtain ⟨⟨A, c, b1, b2, b3⟩, lo, own, gd⟩ := h.log
  have hlog : LogAt w' w0.heap.size k g l := ⟨⟨A, c, (hg.block _ b1.lt (by simp; omega)).trans b1, b2.blk hb (by decide) hg, b3⟩, by omega, own, gd⟩
  exact ⟨⟨h.dl.at_.grownLow hg h1 (by omega), h.dl.good, h.dl.ch, h.dl.pe, (h01.trans (h.dl.bel.mono h01.size)).grown hg (Nat.le_trans h01.size h.dl.bel.size) (fun k hk => by obtain rfl := Option.some.inj hk; exact h0)⟩, hlog⟩
theorem op_lit2 {w : World} (A A' : Option Addr) (c c' : Nat) (ps qs : List Part) (g : Nat) (hg : g = w.heap.size) :
    ERow eOpW (w.alloc (.cells #[.int .i64 0, .slice A ps.length c, .int .i64 0, .int .u64 0, .int .i64 0, .int .i64 0, .slice A' qs.length c', .int .i64 0, .int .u64 0, .int .i64 0] eOpW.e)) (some ⟨g, 0, none⟩) [⟨0, A, c, ps, ⟨0, 0, 0⟩⟩, ⟨0, A', c', qs, ⟨0, 0, 0⟩⟩] := by
  subst hg
  exact (EOwn.new (E := eOpW) (B := 0) w [⟨0, A, c, ps, ⟨0, 0, 0⟩⟩, ⟨0, A', c', qs, ⟨0, 0, 0⟩⟩] (by simp [maxLen]) (Nat.zero_le _) _ rfl).row
/-- The change at which the power is to fail. -/
def fallAt (f : DF) (n : Nat) : DF := ⟨(n : Int) + IntKind.u64.wrap f.at_ % 45, f.keep, f.torn⟩
set_option maxRecDepth 20000 in
set_option maxHeartbeats 2000000 in
theorem walAtomic_fit (w : World) (A : Option Addr) (c : Nat) (ps : List Part) (hp : PartsIn w A c ps) (A' : Option Addr) (c' : Nat) (qs : List Part) (hq : PartsIn w A' c' qs) (f : DF) (hf : f.Fine ∧ i64B f.at_)
    (h6 : ps.length ≤ 6) (hs : ∀ p ∈ ps, p.l.length ≤ 3000) (h6' : qs.length ≤ 6) (hs' : ∀ p ∈ qs, p.l.length ≤ 3000) (h : fitsW 3 [⟨0, A, c, ps, ⟨0, 0, 0⟩⟩, ⟨0, A', c', qs, ⟨0, 0, 0⟩⟩] = true) :
    Calls Try.prog 9 #[.slice A ps.length c, .slice A' qs.length c', .agg #[.int .i64 f.at_, .int .u64 (f.keep : Nat), .int .i64 f.torn]] w (args_ok w) := by
  have HP := Lib.hid (And.intro hp hs)
  have HQ := Lib.hid (And.intro hq hs')
  have HF := Lib.hid h
  have HFF := Lib.hid hf
  obtain ⟨ho, hj, -⟩ := open_new (n := 40) (at_ := 0) (room := 19456) (by decide) (by decide) (by decide)
  have hn1 := (NowAt.fresh 40).head 0 1 0
  generalize ((DS.new 40).head 0 1 0).1 = d1 at ho hj hn1
  have HO := Lib.hid (And.intro ho (And.intro hj hn1))
  clear hp hs h ho hj hq hs' hf hn1
  go_enter Try.func9, Try.ntmps9
  go_upto_region 1 with (fail)
  generalize hW1 : World.alloc w (.cells _ _) = W1
  obtain ⟨ba1, hz1, hB1⟩ := fresh1 hW1
  clear hW1
  obtain ⟨gf, hgf⟩ : ∃ gf, gf = w.heap.size := ⟨_, rfl⟩
  rw [← hgf] at ba1 ⊢
  have H1 : Hid (Blk W1 gf 25 [.int .i64 f.at_, .int .u64 (f.keep : Nat), .int .i64 f.torn] ∧ Below w.heap.size w W1 ∧ gf < W1.heap.size ∧ gf = w.heap.size) := ⟨ba1, hB1, ba1.lt, hgf⟩
  clear ba1 hB1 hz1 hgf
  go_wp2_with fail
  refine (wlives_any W1).mono ?_
  rintro e w2 ⟨rfl, hB⟩
  have HB2 := Lib.hid hB
  clear hB
  go_wp2_with fail
  have hb3 := Below.alloc1 w2 (.cells #[.int .i64 0, .slice A ps.length c, .int .i64 0, .int .u64 0, .int .i64 0, .int .i64 0, .slice A' qs.length c', .int .i64 0, .int .u64 0, .int .i64 0] eOpW.e)
  have hft := wfits_any _ 3 _ 2 _ (op_lit2 (w := w2) A A' c c' ps qs _ rfl) (by
    intro o ho
    simp at ho
    rcases ho with rfl | rfl
    · exact ((HP.out.1.below H1.out.2.1).below HB2.out).below hb3
    · exact ((HQ.out.1.below H1.out.2.1).below HB2.out).below hb3)
  rw [HF.out] at hft
  refine hft.mono ?_
  rintro e w4 ⟨rfl, hB⟩
  have HB4 := Lib.hid ((HB2.out.then hb3).then hB)
  clear hB hft hb3 HB2
  go_wp2_with fail
  refine (DL.new (w0 := W1) 40 (by omega) (by omega) HB4.out).mono ?_
  rintro e w5 ⟨k, rfl, hL, hb5⟩
  have HL := Lib.hid hL
  clear hL hb5 HB4
  go_wp2_with fail
  have hop := open_any W1 w5 k (DS.new 40) 0 HL.out (by decide) 0 40 (by decide) (by omega) (by simp [DS.new])
  rw [show (40 - 2) * 512 = 19456 from rfl, HO.out.1] at hop
  refine hop.mono ?_
  rintro e w6 ⟨h0, -⟩
  obtain ⟨g, A6, c6, ps6, rfl, hg, hw, ho3, hp5, hk⟩ := h0 rfl
  have HW : Hid (WL W1 w6 k g d1 ⟨0, 19456, 1, [], 0, false⟩ 2) := hw
  clear hop h0 hw ho3 hp5 hk HL hg
  go_wp2_with fail
  have hPX := (HP.out.1.below H1.out.2.1).below HW.out.dl.bel
  have hadd := wadd_any W1 w6 k g _ d1 _ HW.out (by decide) A c ps hPX.row hPX.ok (by omega)
  have HNE : Hid (∀ i, ownL k g i → i ≠ gf) := fun i hi => by
    have h1 := H1.out.2.2.1
    rcases hi with hi | hi
    · have := HW.out.dl.own_lo i hi; omega
    · have := HW.out.log.lo; omega
  have hlim : ∀ s ∈ ps.map (·.l), s.length < 18446744073709551616 := fun s hs => by
    obtain ⟨p, hp, rfl⟩ := List.mem_map.1 hs
    have := HP.out.2 p hp
    omega
  have hlim' : ∀ s ∈ qs.map (·.l), s.length < 18446744073709551616 := fun s hs => by
    obtain ⟨p, hp, rfl⟩ := List.mem_map.1 hs
    have := HQ.out.2 p hp
    omega
  have hpm : (ps.map (·.l)).length = ps.length := List.length_map ..
  have hfmany := frames_many (ps.map (·.l))
  rcases Nat.lt_or_ge 19456 (Wal.frames (ps.map (·.l))).length with hbig | hfit
  · -- they have no room
    have hne : ps.map (·.l) ≠ [] := fun e => by rw [e] at hbig; simp [Wal.frames] at hbig
    rw [HO.out.2.1.full hne (by simpa using hbig)] at hadd
    refine hadd.mono ?_
    rintro e w7 ⟨rfl, hw7, -⟩
    have HW7 := Lib.hid hw7
    have HRM := Lib.hid (wroom_any w7 _ k g _ HW7.out.log)
    simp only [List.length_nil] at HRM
    clear hadd hw7 hbig hfmany hlim hlim' hpm hPX hne
    go_wp2_with fail
    refine HRM.out.mono ?_
    rintro e w8 ⟨rfl, rfl⟩
    go_wp2_with fail
    go_ret
    exact ⟨rfl, (H1.out.2.1.then HW7.out.dl.bel).drewR⟩
  · have hx : ∃ d2 l2, d1.add ⟨0, 19456, 1, [], 0, false⟩ (ps.map (·.l)) = ⟨d2, l2, 0⟩ ∧ JOk d2 l2 (ps.map (·.l)) 40 ∧ NowAt d2 ∧ l2.seq ≤ 2 ∧ l2.room = 19456 ∧ l2.at_ = 0 := by
      have hna := HO.out.2.2.add ⟨0, 19456, 1, [], 0, false⟩ (ps.map (·.l))
      by_cases hne : ps.map (·.l) = []
      · rw [hne]
        rw [hne, HO.out.2.1.none] at hna
        exact ⟨d1, _, HO.out.2.1.none, HO.out.2.1, hna, by show 1 ≤ 2; decide, rfl, rfl⟩
      · obtain ⟨d2, ha, hj⟩ := HO.out.2.1.add hne (show 1 < Wal.last62 by decide) (by simpa using hfit) hlim (by simp only [List.nil_append]; omega)
        rw [ha] at hna
        rw [List.nil_append] at hj
        exact ⟨d2, _, ha, hj, hna, by show 1 + 1 ≤ 2; decide, rfl, rfl⟩
    obtain ⟨d2, l2, ha, hj2, hn2, hsq, hrm, hat⟩ := hx
    rw [ha] at hadd
    have HX := Lib.hid (And.intro hj2 (And.intro hn2 (And.intro hsq (And.intro hrm hat))))
    have HA := Lib.hid hadd
    have HLI := Lib.hid hlim'
    have HLP := Lib.hid hlim
    clear hadd ha hj2 hn2 hsq hrm hat hfit hfmany hlim hlim' hpm hPX HO
    refine HA.out.mono ?_
    rintro e w7 ⟨rfl, hw7, hk7⟩
    have hsub := H1.out.1.below HW.out.dl.bel
    have HW7 : Hid (WL W1 w7 k g d2 l2 (2 + 1010) ∧ Blk w7 gf 25 [.int .i64 f.at_, .int .u64 (f.keep : Nat), .int .i64 f.torn]) := ⟨hw7, hsub.kept hk7 (fun h => HNE.out gf h rfl)⟩
    clear hw7 hk7 hsub HA HW
    have HCH := Lib.hid (changes_any w7.drew _ k _ (HW7.out.1.dl.at_.below (Below.refl _ _).drewR))
    have hc0 := HW7.out.2.cell 0
    have hfz := HW7.out.2.free 0
    have hlt := HW7.out.2.lt
    have hc1 := HW7.out.2.cell 1
    have hc2 := HW7.out.2.cell 2
    simp only [List.getElem?_cons_zero, List.getElem?_cons_succ] at hc0 hc1 hc2
    have hch := HW7.out.1.dl.ch
    have hw0 : 0 ≤ IntKind.u64.wrap f.at_ := by simp [IntKind.wrap, IntKind.signed, IntKind.bits]; omega
    have h45 : (IntKind.u64.wrap f.at_).tmod 45 = IntKind.u64.wrap f.at_ % 45 := Int.tmod_eq_emod_of_nonneg hw0
    obtain ⟨m, hm⟩ : ∃ m : Int, m = (IntKind.u64.wrap f.at_).tmod 45 := ⟨_, rfl⟩
    have hm0 : 0 ≤ m ∧ m < 45 := by rw [hm, h45]; omega
    go_wp2_with fail
    refine wp_region_plan (.take 0 (.take 2 (.take 3 (.take 4 (.take 5 (.take 6 (.run 1 [2, 3, 4, 5, 6] (.take 7 (.take 8 (.run 9 [] .fin)))))))))) (by kernel_rfl) (by kernel_rfl) (by kernel_rfl) (by kernel_rfl) ?_
    simp only [walk, again, sel, List.getElem?_toArray, List.getElem?_cons_zero, List.getElem?_cons_succ]
    repeat ((with_reducible intro Z hZ); go_wp2_with (fail))
    refine HCH.out.mono ?_
    rintro e w8 ⟨rfl, rfl⟩
    go_wp2_with fail
    repeat ((with_reducible intro Z hZ); go_wp2_with (fail))
    have H8 : Hid (WL w ((w7.setCell ⟨gf, 0, none⟩ (.int .i64 ((d2.changes : Int) + IntKind.u64.wrap f.at_ % 45))).alloc (.cells #[.int .i64 ((d2.changes : Int) + IntKind.u64.wrap f.at_ % 45), .int .u64 (f.keep : Nat), .int .i64 f.torn] 25)).drew k g d2 l2 (2 + 1010) ∧
        Blk ((w7.setCell ⟨gf, 0, none⟩ (.int .i64 ((d2.changes : Int) + IntKind.u64.wrap f.at_ % 45))).alloc (.cells #[.int .i64 ((d2.changes : Int) + IntKind.u64.wrap f.at_ % 45), .int .u64 (f.keep : Nat), .int .i64 f.torn] 25)).drew gf 25 [.int .i64 (fallAt f d2.changes).at_, .int .u64 ((fallAt f d2.changes).keep : Nat), .int .i64 (fallAt f d2.changes).torn] ∧
        ERow eDF ((w7.setCell ⟨gf, 0, none⟩ (.int .i64 ((d2.changes : Int) + IntKind.u64.wrap f.at_ % 45))).alloc (.cells #[.int .i64 ((d2.changes : Int) + IntKind.u64.wrap f.at_ % 45), .int .u64 (f.keep : Nat), .int .i64 f.torn] 25)).drew (some ⟨w7.heap.size, 0, none⟩) [fallAt f d2.changes]) := by
      have hgs := grown_store w7 gf 0 (.int .i64 ((d2.changes : Int) + IntKind.u64.wrap f.at_ % 45))
      have hb : ∀ W : World, Below W.heap.size W (W.alloc (.cells #[.int .i64 ((d2.changes : Int) + IntKind.u64.wrap f.at_ % 45), .int .u64 (f.keep : Nat), .int .i64 f.torn] 25)).drew := fun W => (Below.alloc1 W _).drewR
      refine ⟨(HW7.out.1.low H1.out.2.1 HW7.out.2 hgs H1.out.2.2.1 (by rw [H1.out.2.2.2]; exact Nat.le_refl _)).below (hb _), (HW7.out.2.set 0 _).below (hb _), ?_⟩
      exact (ERow.lit eDF _ (fallAt f d2.changes) #[.int .i64 ((d2.changes : Int) + IntKind.u64.wrap f.at_ % 45), .int .u64 (f.keep : Nat), .int .i64 f.torn] rfl _ (by simp)).below (Below.refl _ _).drewR
    clear hc0 hc1 hc2 hlt hfz hw0 h45 hm hm0 HCH HW7
    generalize ((w7.setCell _ _).alloc _).drew = w8 at H8 ⊢
    generalize hfa : fallAt f d2.changes = f' at H8
    have HFK : Hid (f'.keep < 18446744073709551616 ∧ (-9223372036854775808 ≤ f'.torn ∧ f'.torn ≤ 9223372036854775807)) := by rw [← hfa]; exact ⟨HFF.out.1.1, HFF.out.1.2⟩
    clear hfa HFF HF
    refine (H8.out.1.dl.plan (some ⟨w7.heap.size, 0, none⟩) 1 [f'] H8.out.2.2 (by simp) (by intro x hx; simp at hx; subst hx; exact HFK.out)).mono ?_
    rintro e w9 ⟨rfl, hL9, hK9⟩
    have H9 : Hid (WL w w9 k g { d2 with falls := [f'] } l2 (2 + 1010) ∧ Blk w9 gf 25 [.int .i64 f'.at_, .int .u64 (f'.keep : Nat), .int .i64 f'.torn]) := ⟨H8.out.1.disk hL9 hK9, H8.out.2.1.kept hK9 (fun h => HNE.out gf (.inl h) rfl)⟩
    clear hL9 hK9 H8
    go_wp2_with fail
    have hQX := HQ.out.1.below H9.out.1.dl.bel
    have hadd := wadd_any w w9 k g _ { d2 with falls := [f'] } l2 H9.out.1 (by decide) A' c' qs hQX.row hQX.ok (by omega)
    have hat := add_atomic HX.out.1 HX.out.2.1.now f' HX.out.1.still.falls (by have := HX.out.2.2.1; show l2.seq < 4611686018427387904; omega) HLI.out
    have hlen : (({ d2 with falls := [f'] } : DS).add l2 (qs.map (·.l))).d.blocks.length = 40 := by rw [add_length]; exact HX.out.1.still.len
    simp only at hat
    generalize ({ d2 with falls := [f'] } : DS).add l2 (qs.map (·.l)) = r at hadd hat hlen
    obtain ⟨d5, l5, er⟩ := r
    simp only at hat hlen
    have HA := Lib.hid hadd
    have HAT := Lib.hid hat
    have HLN := Lib.hid hlen
    clear hadd hat hlen hQX
    refine HA.out.mono ?_
    rintro e w10 ⟨rfl, hw10, hk10⟩
    have H10 : Hid (WL w w10 k g d5 l5 (2 + 1010 + 1010) ∧ Blk w10 gf 25 [.int .i64 f'.at_, .int .u64 (f'.keep : Nat), .int .i64 f'.torn]) := ⟨hw10, H9.out.2.kept hk10 (fun h => HNE.out gf h rfl)⟩
    clear hw10 hk10 H9 HA
    rcases Classical.em (er = 40) with he | he
    · subst he
      clear HAT
      go_wp2_with fail
      go_ret
      exact ⟨rfl, H10.out.1.dl.bel⟩
    · have he40 : (er == 40) = false := by simpa using he
      have hf2 : ∃ X, Finds { d5.crash f' with down := false } l2.at_ l2.room (Wal.frames X) ∧ (∀ s ∈ X, s.length < 18446744073709551616) ∧ (X = ps.map (·.l) ++ qs.map (·.l) ∨ er = 6 ∧ X = ps.map (·.l)) := by
        have hall : ∀ s ∈ ps.map (·.l) ++ qs.map (·.l), s.length < 18446744073709551616 := fun s hs => by
          rcases List.mem_append.1 hs with h | h
          · exact HLP.out s h
          · exact HLI.out s h
        rcases HAT.out with h | ⟨-, h⟩ | ⟨h6, h | h⟩
        · exact absurd h he
        · exact ⟨_, h, hall, .inl rfl⟩
        · exact ⟨_, h, hall, .inl rfl⟩
        · exact ⟨_, h, HLP.out, .inr ⟨h6, rfl⟩⟩
      obtain ⟨X, hfi, hXs, hXe⟩ := hf2
      have HXE := Lib.hid hXe
      have hopn := hfi.open_ hXs
      rw [HX.out.2.2.2.2, HX.out.2.2.2.1] at hopn
      have HOP := Lib.hid hopn
      clear hfi hXs hXe hopn he HAT
      have hk0 := H10.out.2.cell 0
      have hk1 := H10.out.2.cell 1
      have hk2 := H10.out.2.cell 2
      have hlt := H10.out.2.lt
      simp only [List.getElem?_cons_zero, List.getElem?_cons_succ] at hk0 hk1 hk2
      go_wp2_with fail
      refine (H10.out.1.dl.crash f' HFK.out.1).mono ?_
      rintro e w11 ⟨rfl, hL11, -⟩
      have HL11 := Lib.hid hL11
      clear hL11 H10 hk0 hk1 hk2 hlt
      go_wp2_with fail
      refine HL11.out.up.mono ?_
      rintro e w12 ⟨rfl, hL12, -⟩
      have HL12 := Lib.hid hL12
      clear hL12 HL11
      go_wp2_with fail
      have hop := open_any w w12 k _ _ HL12.out (by decide) 0 40 (by decide) (by omega) (by have h1 := crash_length d5 f'; have h2 := HLN.out; show 0 + 40 ≤ (d5.crash f').blocks.length; omega)
      rw [show (40 - 2) * 512 = 19456 from rfl] at hop
      refine hop.mono ?_
      rintro e w13 ⟨h0, -⟩
      obtain ⟨g13, A13, c13, ps13, rfl, hg13, hw13, ho13, hp13, hk13⟩ := h0 HOP.out.1
      rw [HOP.out.2] at hp13
      have H13 : Hid (Below w.heap.size w w13 ∧ ERow ePart w13 A13 ps13 ∧ (∀ p ∈ ps13, p.ok w13) ∧ ps13.map (·.l) = X) := ⟨hw13.dl.bel, ho13.row, fun p hp => (hp13.2 p hp).1, hp13.1⟩
      clear hop h0 hw13 ho13 hp13 hk13 hg13 HL12 HOP
      go_wp2_with fail
      have hPX := HP.out.1.below H13.out.1
      refine (texts_any w13 A c ps hPX.row hPX.ok (by omega)).mono ?_
      rintro e w14 ⟨A14, c14, rfl, ho14, hb14⟩
      have H14 : Hid (Below w13.heap.size w13 w14 ∧ EOwn eStr w14 w13.heap.size A14 c14 (ps.map (·.l))) := ⟨hb14, ho14⟩
      clear ho14 hb14 hPX
      go_wp2_with fail
      have hQX := HQ.out.1.below (H13.out.1.then H14.out.1)
      refine (texts_any w14 A' c' qs hQX.row hQX.ok (by omega)).mono ?_
      rintro e w15 ⟨A15, c15, rfl, ho15, hb15⟩
      have H15 : Hid (Below w13.heap.size w13 w15 ∧ EOwn eStr w15 w13.heap.size A14 c14 (ps.map (·.l)) ∧ ERow eStr w15 A15 (qs.map (·.l))) := ⟨H14.out.1.then hb15, H14.out.2.below hb15, ho15.row⟩
      clear ho15 hb15 hQX H14
      have hl1 : (ps.map (·.l)).length = ps.length := List.length_map ..
      have hl2 : (qs.map (·.l)).length = qs.length := List.length_map ..
      have HL := Lib.hid (And.intro hl1 hl2)
      clear hl1 hl2
      go_wp2_with (at_builtin; refine wpList_append_elems eStr rfl (.tmp 77) (.tmp 79) rfl ps.length rfl H15.out.2.1 HL.out.1.symm qs.length rfl H15.out.2.2 HL.out.2.symm (by rw [HL.out.1, HL.out.2]; omega) H15.out.1.size ?_; intro A16 c16 w16 ho16 hb16 _ _; rw [HL.out.1, HL.out.2])
      have HB16 := Lib.hid (H15.out.1.trans hb16)
      have H16 : Hid (Below w.heap.size w w16 ∧ ERow ePart w16 A13 ps13 ∧ (∀ p ∈ ps13, p.ok w16) ∧ ERow eStr w16 A16 (ps.map (·.l) ++ qs.map (·.l))) := ⟨H13.out.1.then HB16.out, H13.out.2.1.below HB16.out, fun p hp => ⟨(H13.out.2.2.1 p hp).1.below HB16.out, (H13.out.2.2.1 p hp).2⟩, ho16.row⟩
      have hX13 : ps13.map (·.l) = X := H13.out.2.2.2
      have HX13 := Lib.hid hX13
      clear ho16 hb16 H15 hX13
      have hsm := same_any w16 A13 c13 ps13 H16.out.2.1 H16.out.2.2.1 A16 c16 (ps.map (·.l) ++ qs.map (·.l)) H16.out.2.2.2 (by rw [List.length_append, HL.out.1, HL.out.2]; omega)
      rw [List.length_append, HL.out.1, HL.out.2, HX13.out] at hsm
      have HSM := Lib.hid hsm
      clear hsm
      refine HSM.out.mono ?_
      rintro e w17 ⟨rfl, rfl⟩
      rcases Classical.em (X = ps.map (·.l) ++ qs.map (·.l)) with hxa | hxa
      · have hdt : decide (X = ps.map (·.l) ++ qs.map (·.l)) = true := by simpa using hxa
        rw [hdt]
        clear hdt hxa
        go_wp2_with fail
        go_ret
        exact ⟨rfl, H16.out.1⟩
      · have hdt : decide (X = ps.map (·.l) ++ qs.map (·.l)) = false := by simpa using hxa
        rw [hdt]
        have hb : er = 6 ∧ X = ps.map (·.l) := by
          rcases HXE.out with h | h
          · exact absurd h hxa
          · exact h
        obtain ⟨rfl, hxp⟩ := hb
        have HXP := Lib.hid hxp
        clear hdt hxa hxp he40
        go_wp2_with fail
        have hPX := HP.out.1.below H16.out.1
        refine (texts_any w16 A c ps hPX.row hPX.ok (by omega)).mono ?_
        rintro e w18 ⟨A18, c18, rfl, ho18, hb18⟩
        have H18 : Hid (Below w.heap.size w w18 ∧ ERow ePart w18 A13 ps13 ∧ (∀ p ∈ ps13, p.ok w18) ∧ ERow eStr w18 A18 (ps.map (·.l))) := ⟨H16.out.1.then hb18, H16.out.2.1.below hb18, fun p hp => ⟨(H16.out.2.2.1 p hp).1.below hb18, (H16.out.2.2.1 p hp).2⟩, ho18.row⟩
        clear ho18 hb18 hPX H16
        go_wp2_with fail
        have hsm := same_any w18 A13 c13 ps13 H18.out.2.1 H18.out.2.2.1 A18 c18 (ps.map (·.l)) H18.out.2.2.2 (by rw [HL.out.1]; omega)
        rw [HL.out.1, HX13.out, HXP.out] at hsm
        refine hsm.mono ?_
        rintro e w19 ⟨rfl, rfl⟩
        have hdt : decide (ps.map (·.l) = ps.map (·.l)) = true := by simp
        rw [hdt]
        clear hdt hsm
        go_wp2_with fail
        go_ret
        exact ⟨rfl, H18.out.1⟩
set_option maxRecDepth 20000 in
set_option maxHeartbeats 1000000 in
theorem walAtomic_no (w : World) (A : Option Addr) (c : Nat) (ps : List Part) (hp : PartsIn w A c ps) (A' : Option Addr) (c' : Nat) (qs : List Part) (hq : PartsIn w A' c' qs) (f : DF)
    (h : fitsW 3 [⟨0, A, c, ps, ⟨0, 0, 0⟩⟩, ⟨0, A', c', qs, ⟨0, 0, 0⟩⟩] = false) :
    Calls Try.prog 9 #[.slice A ps.length c, .slice A' qs.length c', .agg #[.int .i64 f.at_, .int .u64 (f.keep : Nat), .int .i64 f.torn]] w (args_ok w) := by
  have HP := Lib.hid hp
  have HQ := Lib.hid hq
  have HF := Lib.hid h
  clear hp h hq
  go_enter Try.func9, Try.ntmps9
  go_upto_region 1 with (fail)
  generalize hW1 : World.alloc w (.cells _ _) = W1
  obtain ⟨ba1, hz1, hB1⟩ := fresh1 hW1
  clear hW1
  have H1 := Lib.hid hB1
  clear ba1 hB1 hz1
  go_wp2_with fail
  refine (wlives_any W1).mono ?_
  rintro e w2 ⟨rfl, hB⟩
  have HB2 := Lib.hid (H1.out.then hB)
  clear hB
  go_wp2_with fail
  have hb3 := Below.alloc1 w2 (.cells #[.int .i64 0, .slice A ps.length c, .int .i64 0, .int .u64 0, .int .i64 0, .int .i64 0, .slice A' qs.length c', .int .i64 0, .int .u64 0, .int .i64 0] eOpW.e)
  have hft := wfits_any _ 3 _ 2 _ (op_lit2 (w := w2) A A' c c' ps qs _ rfl) (by
    intro o ho
    simp at ho
    rcases ho with rfl | rfl
    · exact (HP.out.below HB2.out).below hb3
    · exact (HQ.out.below HB2.out).below hb3)
  rw [HF.out] at hft
  refine hft.mono ?_
  rintro e w4 ⟨rfl, hB⟩
  have HB4 := Lib.hid ((HB2.out.then hb3).then hB)
  clear hB hft hb3 HB2
  go_wp2_with fail
  refine (wlives_any w4).mono ?_
  rintro e w5 ⟨rfl, hB⟩
  have HB5 := Lib.hid (HB4.out.then hB)
  clear hB
  go_wp2_with fail
  go_ret
  exact ⟨rfl, HB5.out⟩
set_option maxRecDepth 20000 in
theorem fallw_in {H : Type} {enc : TypeId × Value → H} {w : World} {base : Nat} {v : Value} {d : DataW H} {p : List MemPlace}
    (hv : Value.okWide Try.prog w .any base 25 v) (h : DataW.Trod enc Try.prog w 0 (fun _ => true) true 25 v d p) : FallW v := by
  obtain ⟨cs, rfl, hlen⟩ := okWide_struct Try.underlying25 hv
  obtain ⟨fuel, hf⟩ := h
  have h3 : Try.prog.cellsOf 25 = 3 := by kernel_rfl
  obtain ⟨f, hc, hF⟩ := open_fallB hf (by simpa [Value.cells, h3] using hlen)
  refine ⟨f, ?_, hF⟩
  have : cs.toList = eDF.code f := hc
  rw [← this]
set_option maxRecDepth 20000 in
theorem walAtomic_walk (w : World) (v : Value) (hv : PartsW w v) (v' : Value) (hv' : PartsW w v') (u : Value) (hu : FallW u) :
    Calls Try.prog 9 #[v, v', u] w fun e w' => e = .returned (.bool true) ∧ Below w.heap.size w w' := by
  obtain ⟨A, c, ps, rfl, hp⟩ := hv
  obtain ⟨A', c', qs, rfl, hq⟩ := hv'
  obtain ⟨f, rfl, hf⟩ := hu
  cases h : fitsW 3 [⟨0, A, c, ps, ⟨0, 0, 0⟩⟩, ⟨0, A', c', qs, ⟨0, 0, 0⟩⟩] with
  | false => exact walAtomic_no w A c ps hp A' c' qs hq f h
  | true =>
    have h' := h
    unfold fitsW OpW.fit at h'
    simp only [Bool.and_eq_true, decide_eq_true_eq, List.all_cons, List.all_nil, Bool.and_true, List.length_cons, List.length_nil] at h'
    exact walAtomic_fit w A c ps hp A' c' qs hq f hf h'.2.1.1 (all_short h'.2.1.2) h'.2.2.1 (all_short h'.2.2.2) h
end Go.Proofs.Ythbanhedjfpmaaa
end

