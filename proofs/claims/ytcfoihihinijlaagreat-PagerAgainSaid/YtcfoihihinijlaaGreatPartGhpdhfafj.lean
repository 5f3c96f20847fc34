/-
  Texts of a proof, one behind the other (each with its own head).
-/
import Derived.Test.YtcfoihihinijlaaGreatPartFkhokeidp
section
namespace Go.Proofs.YtcfoihihinijlaaGreat
set_option linter.unusedSimpArgs false
set_option linter.unusedVariables false
open Go.RowKit Go.Maps
theorem Blk.c3m {w : World} {g : Nat} {t : TypeId} {a b c : Value} (h : Blk w g t [a, b, c]) : w.cell? ⟨g, 0, none⟩ = some a ∧ w.cell? ⟨g, 1, none⟩ = some b ∧ w.cell? ⟨g, 2, none⟩ = some c := ⟨h.cell 0, h.cell 1, h.cell 2⟩
theorem mod_wordA (x : Int) (c m : Int) (hm : 0 < m) (hm2 : m ≤ 1000) (hc0 : 0 ≤ c) (hc : c ≤ 100000000) : ∃ l : Nat, wrap64 (c + wrap64 ((IntKind.u64.wrap x).tmod m)) = (l : Int) := by
  have h0 : 0 ≤ IntKind.u64.wrap x := by simp [IntKind.wrap, IntKind.signed, IntKind.bits]; omega
  rw [Int.tmod_eq_emod_of_nonneg h0]
  have h1 := Int.emod_nonneg (IntKind.u64.wrap x) (by omega : m ≠ 0)
  have h2 := Int.emod_lt_of_pos (IntKind.u64.wrap x) hm
  generalize IntKind.u64.wrap x % m = r at *
  refine ⟨(c + r).toNat, ?_⟩
  have e1 : wrap64 r = r := by unfold wrap64; omega
  have e2 : wrap64 (c + r) = c + r := by unfold wrap64; omega
  rw [e1, e2]
  omega
structure AgS (W : World) (gb gw gz gd gp : Nat) (A4 : Option Addr) (c4 : Nat) (L : List PgE) (rt : List UInt8) : Prop where
  both : ∃ r, Blk W gb 41 (.int .i64 14 :: .int .i64 12 :: .int .i64 3 :: .pointer (some ⟨gd, 0, none⟩) :: .pointer (some ⟨gp, 0, none⟩) :: r)
  want : Blk W gw 36 [.slice A4 L.length c4, txt rt]
  size : Blk W gz 25 [.int .i64 14, .int .i64 12, .int .i64 3]
  row : EOwn ePgE W 0 A4 c4 L
section
variable {W W' : World} {gb gw gz gd gp : Nat} {A4 : Option Addr} {c4 : Nat} {L : List PgE} {rt : List UInt8} {S : Nat → Prop}
theorem AgS.below (h : AgS W gb gw gz gd gp A4 c4 L rt) (hb : Below W.heap.size W W') : AgS W' gb gw gz gd gp A4 c4 L rt := by
  obtain ⟨r, h1⟩ := h.both
  exact ⟨⟨r, h1.below hb⟩, h.want.below hb, h.size.below hb, h.row.below hb⟩
theorem AgS.offK (h : AgS W gb gw gz gd gp A4 c4 L rt) (hk : Keeps W W' S) (o : ∀ T, (T = 41 ∨ T = 36 ∨ T = 25 ∨ T = 132) → Off W S T) : AgS W' gb gw gz gd gp A4 c4 L rt := by
  obtain ⟨r, h1⟩ := h.both
  exact ⟨⟨r, h1.offK hk (o _ (.inl rfl))⟩, h.want.offK hk (o _ (.inr (.inl rfl))), h.size.offK hk (o _ (.inr (.inr (.inl rfl)))), h.row.offK hk (o _ (.inr (.inr (.inr rfl))))⟩
theorem AgS.disk {w0 : World} {k : KB} {d : DS} {n : Nat} (h : AgS W gb gw gz gd gp A4 c4 L rt) (hd : DL w0 W k d n) (hk : Keeps W W' k.own) : AgS W' gb gw gz gd gp A4 c4 L rt :=
  h.offK hk fun T hT => by rcases hT with rfl | rfl | rfl | rfl <;> exact hd.at_.off (by decide) (by decide)
theorem AgS.pag {w0 : World} {G : GB} {g : Pag.PG} {n : Nat} (h : AgS W gb gw gz gd gp A4 c4 L rt) (hp : PagAt w0 W G n g) (hk : Keeps W W' G.own) : AgS W' gb gw gz gd gp A4 c4 L rt :=
  h.offK hk fun T hT => by rcases hT with rfl | rfl | rfl | rfl <;> exact hp.offOwn (by decide) (by decide) (by decide) (by decide) (by decide) (by decide) (by decide) (by decide)
end
theorem falls_store {w : World} {B cf : Nat} {Af : Option Addr} {L : List DF} (h : EOwn eDF w B Af cf L) (gf : Nat) (v : Int) (hk : ∀ f ∈ L, f.keep < 18446744073709551616 ∧ (-9223372036854775808 ≤ f.torn ∧ f.torn ≤ 9223372036854775807)) :
    ∃ L', L'.length = L.length ∧ EOwn eDF (w.setCell ⟨gf, 0, none⟩ (.int .i64 v)) B Af cf L' ∧ ∀ f ∈ L', f.keep < 18446744073709551616 ∧ (-9223372036854775808 ≤ f.torn ∧ f.torn ≤ 9223372036854775807) := by
  by_cases hg : ∃ a, Af = some a ∧ a.block = gf
  · obtain ⟨a, rfl, ha⟩ := hg
    rcases h.form with ⟨e, -⟩ | ⟨g, e, -⟩
    · cases e
    · obtain rfl : a = ⟨g, 0, none⟩ := Option.some.inj e
      obtain rfl : g = gf := ha
      cases L with
      | nil =>
        have hs := (World.ownsRow.stored h 0 (.int .i64 v)).1
        exact ⟨[], rfl, hs, fun f hf => by cases hf⟩
      | cons f0 r =>
        refine ⟨(f0 :: r).set 0 { f0 with at_ := v }, List.length_set, h.store (j := 0) (k := 0) (by simp) (by decide) _ _ rfl, fun f hf => ?_⟩
        simp only [List.set_cons_zero] at hf
        rcases List.mem_cons.1 hf with rfl | hf
        · exact hk f0 (List.mem_cons_self ..)
        · exact hk f (List.mem_cons_of_mem _ hf)
  · exact ⟨L, rfl, h.set _ (fun a ha hb => hg ⟨a, ha, hb⟩) _, hk⟩
theorem DL.fallCell {w0 w : World} {k : KB} {d : DS} {n gf : Nat} {cs : List Value} (h : DL w0 w k d n) (hb : Blk w gf 47 cs) (hlo : w0.heap.size ≤ gf) (v : Int) : ∃ L', DL w0 (w.setCell ⟨gf, 0, none⟩ (.int .i64 v)) k { d with falls := L' } n := by
  obtain ⟨⟨cb, np, cp, nf, cf, Ap, Af, e1, e2, e3, e4, e5, e6, e7, e8, e9, e10, e11⟩, lo⟩ := h.at_
  have hk := Keeps.of_grown (grown_store w gf 0 (.int .i64 v))
  have ht : ∀ i, i = gf → tagOf w i = some 47 := fun i hi => by rw [hi]; exact hb.tag
  obtain ⟨L', hl, hL, hfk⟩ := falls_store e9 gf v h.good.fk
  refine ⟨L', ⟨⟨cb, np, cp, nf, cf, Ap, Af, e1, by rw [e2]; exact hl.symm, e3, e4, e5, e6.offK hk (off_row ht (by decide)), e7.offK hk (off_row (U := eDB.e) ht (by decide)), e8.offK hk (off_row (U := eDW.e) ht (by decide)), hL, e10, e11⟩, lo⟩, ?_, h.ch, h.pe, hk.below h.bel h.bel.size (fun i hi => by rw [hi]; exact hlo)⟩
  obtain ⟨q1, q2, q3, q4, q5, q6⟩ := h.good
  exact ⟨q1, q2, q3, by show L'.length ≤ _; rw [hl]; exact q4, q5, hfk⟩
theorem AgS.fall {W : World} {gb gw gz gd gp gf : Nat} {A4 : Option Addr} {c4 : Nat} {L : List PgE} {rt : List UInt8} {cs : List Value} (h : AgS W gb gw gz gd gp A4 c4 L rt) (hb : Blk W gf 47 cs) (v : Value) : AgS (W.setCell ⟨gf, 0, none⟩ v) gb gw gz gd gp A4 c4 L rt := by
  have ht : ∀ i, i = gf → tagOf W i = some 47 := fun i hi => by rw [hi]; exact hb.tag
  exact h.offK (Keeps.of_grown (grown_store W gf 0 v)) fun T hT => by rcases hT with rfl | rfl | rfl | rfl <;> exact off_row ht (by decide)
set_option maxRecDepth 20000 in
set_option maxHeartbeats 2000000 in
theorem pagerAgain_no (w : World) (A : Option Addr) (c : Nat) (L : List OpP) (hr : ERow eOpP w A L) (A' : Option Addr) (c' : Nat) (F : List DF) (hn : ¬ (fitsP L = true ∧ L.length ≤ 9 ∧ F.length ≤ 12)) :
    Calls Tryz.prog 3 #[.slice A L.length c, .slice A' F.length c'] w fun e w' => e = .returned (.bool true) ∧ Below w.heap.size w w' := by
  have HR := Lib.hid hr
  clear hr
  have hcas : fitsP L = false ∨ (fitsP L = true ∧ (9 : Int) < (L.length : Int)) ∨ (fitsP L = true ∧ ¬ (9 : Int) < (L.length : Int) ∧ (12 : Int) < (F.length : Int)) := by
    cases h : fitsP L with
    | false => exact .inl rfl
    | true =>
      rw [h] at hn
      by_cases h9 : L.length ≤ 9
      · exact .inr (.inr ⟨rfl, by omega, by have : ¬ F.length ≤ 12 := fun h12 => hn ⟨rfl, h9, h12⟩; omega⟩)
      · exact .inr (.inl ⟨rfl, by omega⟩)
  clear hn
  go_enter Tryz.func3, Tryz.ntmps3
  go_upto_region 2 with fail
  generalize hW1 : World.alloc w (.cells _ _) = W1
  obtain ⟨ba1, hz1, hB1⟩ := fresh1 hW1
  clear hW1
  have hbz : Blk W1 w.heap.size 25 [.int .i64 14, .int .i64 12, .int .i64 3] := ba1
  have HB1 := Lib.hid (And.intro hB1 hbz)
  clear ba1 hz1 hB1 hbz
  go_wp2_with fail
  refine (pglives_any W1).mono ?_
  rintro e w1 ⟨rfl, hb1⟩
  have hz := Blk.c3m (HB1.out.2.below hb1)
  have HB2 := Lib.hid (HB1.out.1.then hb1)
  have HFI := Lib.hid (pgfits_any w1 14 12 3 (by decide) (by decide) (by decide) (by decide) (by decide) (by decide) A c L (HR.out.below HB2.out))
  clear hb1 HB1
  go_wp2_with fail
  refine HFI.out.mono ?_
  rintro e w2 ⟨rfl, hb2⟩
  have HB3 := Lib.hid (HB2.out.then hb2)
  clear hb2 HB2 HFI hz
  rcases hcas with hf | ⟨hf, h9⟩ | ⟨hf, h9, h12⟩ <;>
  · rw [hf]
    clear hf
    go_wp2_with fail
    refine (pglives_any w2).mono ?_
    rintro e w3 ⟨rfl, hb3⟩
    have HB4 := Lib.hid (HB3.out.then hb3)
    clear hb3
    go_wp2_with fail
    go_ret
    exact ⟨rfl, HB4.out⟩
theorem fall6_at {w : World} {A : Option Addr} {L : List DF} (h : ERow eDF w A L) {i : Nat} (hi : i < L.length) : ∃ b o, A = some ⟨b, o, none⟩ ∧ b < w.heap.size ∧ w.cell? ⟨b, o + i * 3, none⟩ = some (.int .i64 L[i].at_) ∧
    w.cell? ⟨b, o + i * 3 + 1, none⟩ = some (.int .u64 (L[i].keep : Nat)) ∧ w.cell? ⟨b, o + i * 3 + 2, none⟩ = some (.int .i64 L[i].torn) := by
  obtain ⟨b, o, e, hb, hc⟩ := h.at_ hi
  exact ⟨b, o, e, hb, hc 0 _ rfl, hc 1 _ rfl, hc 2 _ rfl⟩
theorem both_c {w : World} {g : Nat} {t : TypeId} {a b c d p : Value} {r : List Value} (h : Blk w g t (a :: b :: c :: d :: p :: r)) : w.cell? ⟨g, 3, none⟩ = some d ∧ w.cell? ⟨g, 4, none⟩ = some p ∧ g < w.heap.size := ⟨h.cell 3, h.cell 4, h.lt⟩
set_option maxRecDepth 20000 in
set_option maxHeartbeats 8000000 in
theorem pagerAgain_fit (w : World) (A : Option Addr) (c : Nat) (L : List OpP) (hr : ERow eOpP w A L) (A' : Option Addr) (c' : Nat) (F : List DF) (hrF : ERow eDF w A' F) (hF : ∀ f ∈ F, DF.Fine6 f) (hf : fitsP L = true) (h9 : L.length ≤ 9) (h12 : F.length ≤ 12) :
    Calls Tryz.prog 3 #[.slice A L.length c, .slice A' F.length c'] w fun e w' => e = .returned (.bool true) ∧ Below w.heap.size w w' := by
  have HR := Lib.hid hr
  have HRF := Lib.hid (And.intro hrF hF)
  clear hr hrF hF
  have h9i : ¬ (9 : Int) < (L.length : Int) := by omega
  have h12i : ¬ (12 : Int) < (F.length : Int) := by omega
  go_enter Tryz.func3, Tryz.ntmps3
  go_upto_region 2 with fail
  generalize hW1 : World.alloc w (.cells _ _) = W1
  obtain ⟨ba1, hz1, hB1⟩ := fresh1 hW1
  clear hW1
  have hbz : Blk W1 w.heap.size 25 [.int .i64 14, .int .i64 12, .int .i64 3] := ba1
  have HB1 := Lib.hid (And.intro hB1 hbz)
  clear ba1 hz1 hB1 hbz
  go_wp2_with fail
  refine (pglives_any W1).mono ?_
  rintro e w1 ⟨rfl, hb1⟩
  have hz := Blk.c3m (HB1.out.2.below hb1)
  have HB2 := Lib.hid (And.intro (HB1.out.1.then hb1) (HB1.out.2.below hb1))
  have HFI := Lib.hid (pgfits_any w1 14 12 3 (by decide) (by decide) (by decide) (by decide) (by decide) (by decide) A c L (HR.out.below HB2.out.1))
  clear hb1 HB1
  go_wp2_with fail
  refine HFI.out.mono ?_
  rintro e w2 ⟨rfl, hb2⟩
  have hz := Blk.c3m (HB2.out.2.below hb2)
  have HB3 := Lib.hid (And.intro (HB2.out.1.then hb2) (HB2.out.2.below hb2))
  rw [hf]
  clear hb2 HB2 HFI hf
  have HBE := Lib.hid (pgbegin_any w w2 HB3.out.1 14 12 3 (by decide) (by decide) (by decide) (by decide) (by decide) (by decide))
  go_wp2_with fail
  refine HBE.out.mono ?_
  rintro e w3 ⟨gb, G, g, rfl, hbb, hgb, hp, hi, hnow, hsu, htx, -, hbl, hpg, hsq, hown, hb3⟩
  have hcb := both_c hbb
  have hwc := Pag.work_commit hi hnow ⟨by rw [hsu]; exact Pag.U0.free_ _, fun t ht => by rw [htx] at ht; cases ht⟩ htx (by rw [hsq]; decide) hbl hpg L
  rw [hsq] at hwc
  have HWC := Lib.hid hwc
  have HWK := Lib.hid (pgwork_any w w3 G 20 g [] (14 + 12 + 2) (Pag.empty 12) hp hi A c L HR.out (by omega))
  have H3 := Lib.hid (And.intro hbb (And.intro hp (And.intro (HB3.out.1.then hb3) (HB3.out.2.below hb3))))
  clear hz hbb hgb hp hi hnow hsu htx hbl hpg hsq hown hb3 hwc HBE HB3
  go_wp2_with fail
  refine HWK.out.mono ?_
  rintro e w4 ⟨G4, rfl, e1, e2, hp4, ho4, hk4⟩
  have offG : ∀ T, (T = 41 ∨ T = 25) → Off w3 G.own T := fun T hT => by
    rcases hT with rfl | rfl <;> exact H3.out.2.1.offOwn (by decide) (by decide) (by decide) (by decide) (by decide) (by decide) (by decide) (by decide)
  have hbb4 := H3.out.1.offK hk4 (offG _ (.inl rfl))
  have hbz4 := H3.out.2.2.2.offK hk4 (offG _ (.inr rfl))
  have hcb := both_c hbb4
  have hcm := pcommit_any w w4 G4 20 (Pag.workP g L) hp4 (by decide)
  rw [e1] at hcm
  have HCM := Lib.hid hcm
  have H4 := Lib.hid (And.intro hbb4 (And.intro hbz4 (And.intro hp4 (And.intro e1 e2))))
  clear e1 e2 hp4 ho4 hk4 offG hbb4 hbz4 hcm H3 HWK
  rcases HWC.out with ⟨hc40, hpos⟩ | ⟨g5, R5, C5, hc0, hok, hnow5, htx5, hu5, hbl5, hpg5, hsq5⟩
  · have HCM2 : Hid (∃ g', Calls Tryz.prog 14 #[.pointer (some ⟨G.gp, 0, none⟩)] w4 (RetPg w w4 G4 (20 + 5000) g' 40)) := ⟨_, hc40 ▸ HCM.out⟩
    have hposi : (0 : Int) < (L.length : Int) := by omega
    obtain ⟨g', hcm⟩ := HCM2.out
    have HCM3 := Lib.hid hcm
    have HPOS := Lib.hid hpos
    clear hc40 hpos HCM HCM2 hcm HWC
    go_wp2_with fail
    refine HCM3.out.mono ?_
    rintro e w5 ⟨G5, rfl, -, -, hp5, -, -⟩
    have HB := Lib.hid hp5.wl.dl.bel
    clear hp5 HCM3
    go_wp2_with fail
    go_ret
    exact ⟨by simp [HPOS.out], HB.out⟩
  · rw [hc0] at HCM
    have HS := Lib.hid (And.intro hok (And.intro hnow5 (And.intro htx5 (And.intro hu5 (And.intro hbl5 (And.intro hpg5 hsq5))))))
    clear hc0 hok hnow5 htx5 hu5 hbl5 hpg5 hsq5 HWC
    go_wp2_with fail
    refine HCM.out.mono ?_
    rintro e w5 ⟨G5, rfl, f1, f2, hp5, ho5, hk5⟩
    have offG : ∀ T, (T = 41 ∨ T = 25) → Off w4 G4.own T := fun T hT => by
      rcases hT with rfl | rfl <;> exact H4.out.2.2.1.offOwn (by decide) (by decide) (by decide) (by decide) (by decide) (by decide) (by decide) (by decide)
    have hbb5 := H4.out.1.offK hk5 (offG _ (.inl rfl))
    have hbz5 := H4.out.2.1.offK hk5 (offG _ (.inr rfl))
    have hcb := both_c hbb5
    have hin5 : Pag.Inv g5 R5 (14 + 12 + 2) C5 := ⟨HS.out.1, fun t ht => by rw [HS.out.2.2.1] at ht; cases ht⟩
    have hst := pgstate_any w w5 G5 (20 + 5000) g5 R5 (14 + 12 + 2) C5 hp5 hin5.lk HS.out.2.2.2.1 (by rw [HS.out.2.2.2.2.2.1]; decide) (by decide)
    rw [f1.trans H4.out.2.2.2.1] at hst
    have HST := Lib.hid hst
    have H5 := Lib.hid (And.intro hbb5 (And.intro hbz5 (And.intro hp5 (f2.trans H4.out.2.2.2.2))))
    clear f1 f2 hp5 ho5 hk5 offG hbb5 hbz5 hin5 hst HCM H4
    go_wp2_with fail
    refine HST.out.mono ?_
    rintro e w6 ⟨G6, q6, A6, c6, rfl, ho6, f1, f2, hp6, hlk6, hown6, hk6⟩
    have offG : ∀ T, (T = 41 ∨ T = 25) → Off w5 G5.own T := fun T hT => by
      rcases hT with rfl | rfl <;> exact H5.out.2.2.1.offOwn (by decide) (by decide) (by decide) (by decide) (by decide) (by decide) (by decide) (by decide)
    have hbb6 := H5.out.1.offK hk6 (offG _ (.inl rfl))
    have hbz6 := H5.out.2.1.offK hk6 (offG _ (.inr rfl))
    have hbr : g5.broken = false := HS.out.1.whole
    have hlst := Pag.lst_of hbr HS.out.2.2.1 C5
    have hroot := Pag.root_of hbr HS.out.2.2.1
    rw [hlst] at ho6 ⊢
    rw [hroot]
    rw [HS.out.2.2.2.2.2.1] at ho6 ⊢
    obtain ⟨S, hS⟩ : ∃ S, g5.sure = S := ⟨_, rfl⟩
    rw [hS] at ho6 ⊢
    obtain ⟨t, ht⟩ : ∃ t, txt S.root = .string t := ⟨_, rfl⟩
    have HT := Lib.hid ht
    rw [ht]
    obtain ⟨d5, hd5⟩ : ∃ d, g5.d = d := ⟨_, rfl⟩
    have hkept : Pag.Kept d5 S 14 12 28 C5 3 := by
      have h := (Pag.Has.of HS.out.1 HS.out.2.1 HS.out.2.2.1).kept
      rw [HS.out.2.2.2.2.1, HS.out.2.2.2.2.2.1, hS, hd5] at h
      obtain ⟨g0, R0, k1, k2, k3, k4, k5, k6⟩ := h
      exact ⟨g0, R0, k1, k2, k3, k4, k5, Nat.le_trans k6 HS.out.2.2.2.2.2.2⟩
    have hu0 : S.used.getD 0 false = false := by rw [← hS]; exact HS.out.2.2.2.1.sure
    obtain ⟨k, hk⟩ : ∃ k, G.k = k := ⟨_, rfl⟩
    have hdl6 : DL w w6 k d5 (20 + 5000 + 40) := by
      have h := hp6.wl.dl
      rw [f2, H5.out.2.2.2, hk] at h
      rw [← hd5]
      exact h
    obtain ⟨Ls, hLs⟩ : ∃ Ls, Pag.lstS S 12 C5 = Ls := ⟨_, rfl⟩
    rw [hLs] at ho6 ⊢
    have HLS := Lib.hid hLs
    have hzz : EOwn ePgE w6 0 A6 c6 Ls := ho6.mono (Nat.zero_le _)
    have HK := Lib.hid (And.intro hkept hu0)
    have H6 := Lib.hid (And.intro hbb6 (And.intro hbz6 (And.intro hdl6 hzz)))
    clear hlst hroot hS ht hd5 hkept hu0 hdl6 hzz f1 f2 hp6 hlk6 hown6 hk6 ho6 hbb6 hbz6 hbr offG HS HST H5 hLs hcb
    go_upto_region 9 with fail
    generalize hW7 : World.alloc w6 (.cells _ _) = W7
    obtain ⟨ba7, hz7, hB7⟩ := fresh1 hW7
    clear hW7
    have hbw : Blk W7 w6.heap.size 36 [.slice A6 Ls.length c6, txt S.root] := by rw [HT.out]; exact ba7
    obtain ⟨gw, hgw⟩ : ∃ gw, w6.heap.size = gw := ⟨_, rfl⟩
    obtain ⟨gz, hgz⟩ : ∃ gz, w.heap.size = gz := ⟨_, rfl⟩
    have H7 : Hid (DL w W7 k d5 (20 + 5000 + 40) ∧ AgS W7 gb gw gz k.gd G.gp A6 c6 Ls S.root) := by
      obtain ⟨h1, h2, h3, h4⟩ := H6.out
      rw [hk] at h1
      rw [hgw] at hbw
      rw [hgz] at h2
      exact ⟨h3.below hB7, ⟨_, h1.below hB7⟩, hbw, h2.below hB7, h4.below hB7⟩
    have HGZ := Lib.hid hgz
    rw [hgw] at ⊢
    simp only [hgz]
    clear ba7 hz7 hB7 hbw hgw H6 hk hgz
    go_wp2_with fail
    go_loopw [62] (fun iv wr => ∃ i : Nat, i ≤ F.length ∧ iv = .int .i64 (i : Int) ∧ Hid (∃ d n, n ≤ 5060 + 2100 * i ∧ DL w wr k d n ∧ Pag.Kept d S 14 12 28 C5 (3 + i) ∧ AgS wr gb gw gz k.gd G.gp A6 c6 Ls S.root)) (fun iv _ => F.length - (intOf iv).toNat)
    case atStart => exact ⟨0, Nat.zero_le _, by go_num, d5, _, by decide, H7.out.1, HK.out.1, H7.out.2⟩
    case round =>
      obtain ⟨i, hi, rfl, HS⟩ := hrel
      by_cases hlt : i < F.length
      · have hlti : (i : Int) < (F.length : Int) := by omega
        obtain ⟨d, n, hn, hdl, hkp, hag⟩ := HS.out
        obtain ⟨b, o, rfl, hb, hc0, hc1, hc2⟩ := fall6_at (HRF.out.1.below hdl.bel) hlt
        have hff : DF.Fine6 F[i] := HRF.out.2 _ (List.getElem_mem hlt)
        obtain ⟨f, hfe⟩ : ∃ f, F[i] = f := ⟨_, rfl⟩
        rw [hfe] at hc0 hc1 hc2 hff
        have HFF := Lib.hid hff
        have HJ := Lib.hid (And.intro hn (And.intro hdl (And.intro hkp hag)))
        clear hff hn hdl hkp hag hfe HS
        go_upto_region 12 with fail
        generalize hW8 : World.alloc wr (.cells _ _) = W8
        obtain ⟨ba8, hz8, hB8⟩ := fresh1 hW8
        clear hW8
        obtain ⟨gf, hgf⟩ : ∃ gf, wr.heap.size = gf := ⟨_, rfl⟩
        have H8 : Hid (DL w W8.drew k d n ∧ AgS W8.drew gb gw gz k.gd G.gp A6 c6 Ls S.root ∧ Blk W8.drew gf 47 [.int .i64 f.at_, .int .u64 (f.keep : Nat), .int .i64 f.torn]) := by
          obtain ⟨-, h1, -, h2⟩ := HJ.out
          rw [hgf] at ba8
          exact ⟨(h1.below hB8).below (Below.refl _ _).drew, (h2.below hB8).below (Below.refl _ _).drew, ba8.drew⟩
        have HGF : Hid (w.heap.size ≤ gf) := by show _ ≤ _; rw [← hgf]; exact HJ.out.2.1.bel.size
        rw [hgf]
        have hcb := both_c (H8.out.2.1.both.choose_spec)
        have hc3 := Blk.c3 H8.out.2.2
        clear ba8 hz8 hB8 hgf hc0 hc1 hc2
        refine wp_region_plan (.take 0 (.take 1 (.take 2 (.take 3 (.take 4 (.run 5 [] .fin)))))) (by kernel_rfl) (by kernel_rfl) (by kernel_rfl) (by kernel_rfl) ?_
        repeat' (first | (refine hZ _ _ ?_; clear hZ) | (refine hZ _ ?_; clear hZ) | (refine hZ ?_; clear hZ) | rw [again_nil] | rw [walk_fin] | ((first | rw [walk_take] | rw [walk_run] | rw [again_cons]); intro Z hZ; simp only [sel, List.getElem?_toArray, List.getElem?_cons_zero, List.getElem?_cons_succ]; go_wp2_with (fail)))
        refine (H8.out.1.crash f HFF.out.1).mono ?_
        rintro e w9 ⟨rfl, hd9, hk9⟩
        have H9 : Hid (DL w w9 k (d.crash f) n ∧ AgS w9 gb gw gz k.gd G.gp A6 c6 Ls S.root ∧ Blk w9 gf 47 [.int .i64 f.at_, .int .u64 (f.keep : Nat), .int .i64 f.torn]) := ⟨hd9, H8.out.2.1.disk H8.out.1 hk9, H8.out.2.2.offK hk9 (H8.out.1.at_.off (by decide) (by decide))⟩
        have hcb := both_c (H9.out.2.1.both.choose_spec)
        clear hd9 hk9 H8
        go_wp2_with fail
        repeat' (first | (refine hZ _ _ ?_; clear hZ) | (refine hZ _ ?_; clear hZ) | (refine hZ ?_; clear hZ) | rw [again_nil] | rw [walk_fin] | ((first | rw [walk_take] | rw [walk_run] | rw [again_cons]); intro Z hZ; simp only [sel, List.getElem?_toArray, List.getElem?_cons_zero, List.getElem?_cons_succ]; go_wp2_with (fail)))
        go_wp2_with fail
        refine H9.out.1.up.mono ?_
        rintro e w10 ⟨rfl, hd10, hk10⟩
        obtain ⟨d2, hd2⟩ : ∃ d2, ({ d.crash f with down := false } : DS) = d2 := ⟨_, rfl⟩
        have hkp2 : Pag.Kept d2 S 14 12 28 C5 (3 + i) := hd2 ▸ (HJ.out.2.2.1.crash f).up false
        have hdn2 : d2.down = false := by rw [← hd2]
        rw [hd2] at hd10
        have H10 : Hid (DL w w10.drew k d2 n ∧ AgS w10.drew gb gw gz k.gd G.gp A6 c6 Ls S.root ∧ Blk w10.drew gf 47 [.int .i64 f.at_, .int .u64 (f.keep : Nat), .int .i64 f.torn] ∧ Pag.Kept d2 S 14 12 28 C5 (3 + i) ∧ d2.down = false) := ⟨hd10.below (Below.refl _ _).drew, (H9.out.2.1.disk H9.out.1 hk10).below (Below.refl _ _).drew, (H9.out.2.2.offK hk10 (H9.out.1.at_.off (by decide) (by decide))).drew, hkp2, hdn2⟩
        have hcb := both_c (H10.out.2.1.both.choose_spec)
        have hc3 := Blk.c3 H10.out.2.2.1
        have HN := Lib.hid HJ.out.1
        have HCH := Lib.hid (changes_any w10.drew _ k d2 H10.out.1.at_)
        obtain ⟨l, hle⟩ := mod_wordA f.at_ (d2.changes : Int) 4 (by decide) (by decide) (by omega) (by have h1 := H10.out.1.ch; have h2 := HN.out; omega)
        have HLE := Lib.hid hle
        clear hd10 hk10 H9 hd2 hkp2 hdn2 HJ hle
        go_upto_region 14 with fail
        refine wp_region_plan (.take 0 (.take 1 (.take 2 (.take 3 (.take 5 (.take 6 (.take 7 (.take 8 (.take 9 (.run 4 [5, 6, 7, 8, 9] (.take 10 (.take 11 (.run 12 [] .fin))))))))))))) (by kernel_rfl) (by kernel_rfl) (by kernel_rfl) (by kernel_rfl) ?_
        repeat' (first | (refine hZ _ _ ?_; clear hZ) | (refine hZ _ ?_; clear hZ) | (refine hZ ?_; clear hZ) | rw [again_nil] | rw [walk_fin] | ((first | rw [walk_take] | rw [walk_run] | rw [again_cons]); intro Z hZ; simp only [sel, List.getElem?_toArray, List.getElem?_cons_zero, List.getElem?_cons_succ]; go_wp2_with (fail)))
        refine HCH.out.mono ?_
        rintro e w11 ⟨rfl, rfl⟩
        go_wp2_with fail
        repeat' (first | (refine hZ _ _ ?_; clear hZ) | (refine hZ _ ?_; clear hZ) | (refine hZ ?_; clear hZ) | rw [again_nil] | rw [walk_fin] | ((first | rw [walk_take] | rw [walk_run] | rw [again_cons]); intro Z hZ; simp only [sel, List.getElem?_toArray, List.getElem?_cons_zero, List.getElem?_cons_succ]; go_wp2_with (fail)))
        rw [HLE.out]
        have hgf : w.heap.size ≤ gf := HGF.out
        obtain ⟨Lf, hd11⟩ := H10.out.1.fallCell H10.out.2.2.1 hgf l
        have H11 : Hid (DL w (w10.setCell ⟨gf, 0, none⟩ (.int .i64 (l : Int))).drew k { d2 with falls := Lf } n ∧ AgS (w10.setCell ⟨gf, 0, none⟩ (.int .i64 (l : Int))).drew gb gw gz k.gd G.gp A6 c6 Ls S.root ∧ Blk (w10.setCell ⟨gf, 0, none⟩ (.int .i64 (l : Int))).drew gf 47 [.int .i64 (l : Int), .int .u64 (f.keep : Nat), .int .i64 f.torn] ∧ Pag.Kept d2 S 14 12 28 C5 (3 + i) ∧ d2.down = false) :=
          ⟨hd11, H10.out.2.1.fall H10.out.2.2.1 _, H10.out.2.2.1.set0, H10.out.2.2.2⟩
        clear hgf hd11 H10 HCH HLE hcb hc3
        generalize (w10.setCell ⟨gf, 0, none⟩ (.int .i64 (l : Int))).drew = w11 at H11 ⊢
        have hcb := both_c (H11.out.2.1.both.choose_spec)
        have hc3 := Blk.c3 H11.out.2.2.1
        go_upto_region 15 with fail
        refine wp_region_plan (.take 0 (.take 1 (.take 2 (.take 3 (.take 4 (.run 5 [0, 1, 2, 3] (.run 6 [] .fin))))))) (by kernel_rfl) (by kernel_rfl) (by kernel_rfl) (by kernel_rfl) ?_
        repeat' (first | (refine hZ _ _ ?_; clear hZ) | (refine hZ _ ?_; clear hZ) | (refine hZ ?_; clear hZ) | rw [again_nil] | rw [walk_fin] | ((first | rw [walk_take] | rw [walk_run] | rw [again_cons]); intro Z hZ; simp only [sel, List.getElem?_toArray, List.getElem?_cons_zero, List.getElem?_cons_succ]; go_wp2_with (fail)))
        have hb12 : Below w11.heap.size w11 (w11.alloc (.cells #[.int .i64 (l : Int), .int .u64 (f.keep : Nat), .int .i64 f.torn] 47)).drew := (Below.alloc1 _ _).drewR
        have H12 : Hid (DL w (w11.alloc (.cells #[.int .i64 (l : Int), .int .u64 (f.keep : Nat), .int .i64 f.torn] 47)).drew k { d2 with falls := Lf } n ∧ AgS (w11.alloc (.cells #[.int .i64 (l : Int), .int .u64 (f.keep : Nat), .int .i64 f.torn] 47)).drew gb gw gz k.gd G.gp A6 c6 Ls S.root ∧ ERow eDF (w11.alloc (.cells #[.int .i64 (l : Int), .int .u64 (f.keep : Nat), .int .i64 f.torn] 47)).drew (some ⟨w11.heap.size, 0, none⟩) [⟨(l : Int), f.keep, f.torn⟩] ∧ Pag.Kept d2 S 14 12 28 C5 (3 + i) ∧ d2.down = false) :=
          ⟨H11.out.1.below hb12, H11.out.2.1.below hb12, (ERow.lit eDF w11 ⟨(l : Int), f.keep, f.torn⟩ #[.int .i64 (l : Int), .int .u64 (f.keep : Nat), .int .i64 f.torn] rfl _ rfl).below (Below.refl _ _).drewR, H11.out.2.2.2⟩
        clear hb12 hc3 hcb H11
        generalize hgs : w11.heap.size = gs at H12 ⊢
        clear hgs
        generalize (w11.alloc (.cells #[.int .i64 (l : Int), .int .u64 (f.keep : Nat), .int .i64 f.torn] 47)).drew = w12 at H12 ⊢
        obtain ⟨f', hf'⟩ : ∃ f' : DF, (⟨(l : Int), f.keep, f.torn⟩ : DF) = f' := ⟨_, rfl⟩
        have hfk : f'.keep < 18446744073709551616 ∧ (-9223372036854775808 ≤ f'.torn ∧ f'.torn ≤ 9223372036854775807) := by rw [← hf']; exact ⟨HFF.out.1, HFF.out.2.1⟩
        rw [hf'] at H12
        clear hf'
        refine (H12.out.1.plan (some ⟨gs, 0, none⟩) 1 [f'] H12.out.2.2.1 (by simp) (by intro x hx; simp at hx; subst hx; exact hfk)).mono ?_
        rintro e w13 ⟨rfl, hd13, hk13⟩
        obtain ⟨d3, hd3⟩ : ∃ d3, ({ d2 with falls := [f'] } : DS) = d3 := ⟨_, rfl⟩
        have H13 : Hid (DL w w13.drew k d3 n ∧ AgS w13.drew gb gw gz k.gd G.gp A6 c6 Ls S.root ∧ Pag.Kept d3 S 14 12 28 C5 (3 + i) ∧ d3.down = false ∧ d3.falls = [f']) := by
          subst hd3
          exact ⟨hd13.below (Below.refl _ _).drew, (H12.out.2.1.disk H12.out.1 hk13).below (Below.refl _ _).drew, H12.out.2.2.2.1.plan _, H12.out.2.2.2.2, rfl⟩
        clear hd3 hd13 hk13 H12 hfk
        have hcb := both_c (H13.out.2.1.both.choose_spec)
        have hcz := Blk.c3m H13.out.2.1.size
        obtain ⟨g1, hopn, hhas, hgd⟩ := H13.out.2.2.1.open_ H13.out.2.2.2.1 (by decide) (frames := 3) (by decide) (by decide)
        have hop := popen_any w w13.drew k d3 n 14 12 3 H13.out.1 (by have := HN.out; omega) H13.out.2.2.1.len (by decide) (by decide) (by decide) (by decide) (by decide) (by decide)
        rw [hopn] at hop
        have HOP := Lib.hid hop
        have HHAS := Lib.hid (And.intro hhas hgd)
        clear hopn hhas hgd hop
        go_wp2_with fail
        repeat' (first | (refine hZ _ _ ?_; clear hZ) | (refine hZ _ ?_; clear hZ) | (refine hZ ?_; clear hZ) | rw [again_nil] | rw [walk_fin] | ((first | rw [walk_take] | rw [walk_run] | rw [again_cons]); intro Z hZ; simp only [sel, List.getElem?_toArray, List.getElem?_cons_zero, List.getElem?_cons_succ]; go_wp2_with (fail)))
        go_wp2_with fail
        go_upto_region 16 with fail
        refine wp_region_plan (.take 0 (.take 1 (.take 2 (.take 3 (.take 4 (.take 5 (.take 6 (.take 7 (.run 8 [] (.take 9 (.take 10 (.take 11 (.take 12 (.take 13 .fin)))))))))))))) (by kernel_rfl) (by kernel_rfl) (by kernel_rfl) (by kernel_rfl) ?_
        repeat' (first | (refine hZ _ _ ?_; clear hZ) | (refine hZ _ ?_; clear hZ) | (refine hZ ?_; clear hZ) | rw [again_nil] | rw [walk_fin] | ((first | rw [walk_take] | rw [walk_run] | rw [again_cons]); intro Z hZ; simp only [sel, List.getElem?_toArray, List.getElem?_cons_zero, List.getElem?_cons_succ]; go_wp2_with (fail)))
        refine HOP.out.mono ?_
        rintro e w14 ⟨h0, -⟩
        obtain ⟨G1, rfl, gk, -, hp14, -, hk14⟩ := h0 g1 rfl
        have H14 := Lib.hid (And.intro hp14 (And.intro gk (H13.out.2.1.disk H13.out.1 hk14)))
        have hck := pcheckpoint_any w w14 G1 (n + 20) g1 hp14 (by have := HN.out; omega)
        have HCK := Lib.hid hck
        clear h0 hp14 gk hk14 hck HOP hcb hcz
        go_wp2_with fail
        repeat' (first | (refine hZ _ _ ?_; clear hZ) | (refine hZ _ ?_; clear hZ) | (refine hZ ?_; clear hZ) | rw [again_nil] | rw [walk_fin] | ((first | rw [walk_take] | rw [walk_run] | rw [again_cons]); intro Z hZ; simp only [sel, List.getElem?_toArray, List.getElem?_cons_zero, List.getElem?_cons_succ]; go_wp2_with (fail)))
        go_wp2_with fail
        have hsq : 3 + i < Wal.last62 := by
          have : (1000 : Nat) < Wal.last62 := by decide
          omega
        rcases HHAS.out.1.checkpoint (f := f') (by rw [HHAS.out.2]; exact H13.out.2.2.2.2) (by rw [HHAS.out.2]; exact H13.out.2.2.2.1) hsq with ⟨g2, hck, hhas2, hdn⟩ | ⟨g2, hck, hkp2⟩
        · rw [hck] at HCK
          obtain ⟨R2, hlk⟩ := hhas2.lk hdn
          have HL2 := Lib.hid (And.intro hlk (And.intro (hhas2.u0 HK.out.2) hhas2))
          clear hck hhas2 hdn hlk HHAS H13
          refine HCK.out.mono ?_
          rintro e w15 ⟨G2, rfl, f1, f2, hp15, -, hk15⟩
          have hag15 := H14.out.2.2.pag H14.out.1 hk15
          have hcw := hag15.want.c2
          have hlike := pglike_any w w15 G2 (n + 20 + 2000) g2 R2 28 C5 hp15 HL2.out.1 HL2.out.2.1 (by rw [HL2.out.2.2.pages]; decide) (by have := HN.out; omega) A6 c6 Ls S.root hag15.row (by rw [← HLS.out]; exact Pag.lstS_in (by decide))
          rw [decide_eq_true (show g2.lst C5 = Ls ∧ g2.root = S.root from ⟨by rw [HL2.out.2.2.lst, HLS.out], HL2.out.2.2.root⟩), f1, HT.out] at hlike
          rw [HT.out] at hcw
          have HLK := Lib.hid hlike
          have H15 := Lib.hid (And.intro hag15 (And.intro hp15 (And.intro (f2.trans H14.out.2.1) (And.intro f1 HL2.out.2.2.kept))))
          clear f1 f2 hp15 hk15 hag15 hlike HCK HL2 H14
          go_wp2_with fail
          refine HLK.out.mono ?_
          rintro e w16 ⟨G3, q3, rfl, f1, f2, hp16, -, -, hk16⟩
          have H16 : Hid (∃ d n', n' ≤ 5060 + 2100 * (i + 1) ∧ DL w w16 k d n' ∧ Pag.Kept d S 14 12 28 C5 (3 + (i + 1)) ∧ AgS w16 gb gw gz k.gd G.gp A6 c6 Ls S.root) := by
            have h := hp16.wl.dl
            rw [f2, H15.out.2.2.1] at h
            exact ⟨g2.d, _, by have := HN.out; omega, h, H15.out.2.2.2.2, H15.out.1.pag H15.out.2.1 hk16⟩
          clear f1 f2 hp16 hk16 HLK H15 hcw
          go_wp2_with fail
          go_roundw
          case rel => exact ⟨i + 1, hlt, by go_num, H16.out⟩
          case measure => simp [intOf]; omega
        · rw [hck] at HCK
          have HKP := Lib.hid hkp2
          clear hck hkp2 HHAS H13
          refine HCK.out.mono ?_
          rintro e w15 ⟨G2, rfl, f1, f2, hp15, -, hk15⟩
          have H16 : Hid (∃ d n', n' ≤ 5060 + 2100 * (i + 1) ∧ DL w w15 k d n' ∧ Pag.Kept d S 14 12 28 C5 (3 + (i + 1)) ∧ AgS w15 gb gw gz k.gd G.gp A6 c6 Ls S.root) := by
            have h := hp15.wl.dl
            rw [f2, H14.out.2.1] at h
            exact ⟨g2.d, _, by have := HN.out; omega, h, HKP.out, H14.out.2.2.pag H14.out.1 hk15⟩
          clear f1 f2 hp15 hk15 HCK H14
          go_wp2_with fail
          go_roundw
          case rel => exact ⟨i + 1, hlt, by go_num, H16.out⟩
          case measure => simp [intOf]; omega
      · have hlti : ¬ (i : Int) < (F.length : Int) := by omega
        obtain ⟨d, n, hn, hdl, hkp, hag⟩ := HS.out
        have hcb := both_c (hag.both.choose_spec)
        have HN := Lib.hid (Nat.le_trans hn (show 5060 + 2100 * i ≤ 5060 + 2100 * 12 by omega))
        have H8 := Lib.hid (And.intro hdl (And.intro hag hkp))
        clear hn hdl hkp hag HS H7
        go_wp2_with fail
        refine (H8.out.1.plan none 0 [] ERow.nil (by simp) (by intro x hx; cases hx)).mono ?_
        rintro e w9 ⟨rfl, hd9, hk9⟩
        have H9 := Lib.hid (And.intro hd9 (And.intro (H8.out.2.1.disk H8.out.1 hk9) (H8.out.2.2.plan [])))
        have hcb := both_c (H9.out.2.1.both.choose_spec)
        clear hd9 hk9 H8
        go_wp2_with fail
        refine H9.out.1.up.mono ?_
        rintro e w10 ⟨rfl, hd10, hk10⟩
        obtain ⟨d3, hd3⟩ : ∃ d3, ({ ({ d with falls := [] } : DS) with down := false } : DS) = d3 := ⟨_, rfl⟩
        have H13 : Hid (DL w w10.drew k d3 n ∧ AgS w10.drew gb gw gz k.gd G.gp A6 c6 Ls S.root ∧ Pag.Kept d3 S 14 12 28 C5 (3 + i) ∧ d3.down = false) := by
          subst hd3
          exact ⟨hd10.below (Below.refl _ _).drew, (H9.out.2.1.disk H9.out.1 hk10).below (Below.refl _ _).drew, H9.out.2.2.up false, rfl⟩
        clear hd3 hd10 hk10 H9
        have hcb := both_c (H13.out.2.1.both.choose_spec)
        have hcz := Blk.c3m H13.out.2.1.size
        obtain ⟨g1, hopn, hhas, hgd⟩ := H13.out.2.2.1.open_ H13.out.2.2.2 (by decide) (frames := 3) (by decide) (by decide)
        have hop := popen_any w w10.drew k d3 n 14 12 3 H13.out.1 (by have := HN.out; omega) H13.out.2.2.1.len (by decide) (by decide) (by decide) (by decide) (by decide) (by decide)
        rw [hopn] at hop
        obtain ⟨R2, hlk⟩ := hhas.lk (by rw [hgd]; exact H13.out.2.2.2)
        have HOP := Lib.hid hop
        have HL2 := Lib.hid (And.intro hlk (And.intro (hhas.u0 HK.out.2) hhas))
        clear hopn hhas hgd hop hlk
        go_upto_region 23 with fail
        refine wp_region_plan (.take 0 (.take 1 (.take 2 (.take 3 (.take 4 (.take 5 (.take 6 (.take 7 (.run 8 [] (.take 9 (.take 10 (.take 11 (.take 12 (.take 13 .fin)))))))))))))) (by kernel_rfl) (by kernel_rfl) (by kernel_rfl) (by kernel_rfl) ?_
        repeat' (first | (refine hZ _ _ ?_; clear hZ) | (refine hZ _ ?_; clear hZ) | (refine hZ ?_; clear hZ) | rw [again_nil] | rw [walk_fin] | ((first | rw [walk_take] | rw [walk_run] | rw [again_cons]); intro Z hZ; simp only [sel, List.getElem?_toArray, List.getElem?_cons_zero, List.getElem?_cons_succ]; go_wp2_with (fail)))
        refine HOP.out.mono ?_
        rintro e w14 ⟨h0, -⟩
        obtain ⟨G1, rfl, gk, -, hp14, -, hk14⟩ := h0 g1 rfl
        have hag14 := H13.out.2.1.disk H13.out.1 hk14
        have hcw := hag14.want.c2
        have hlike := pglike_any w w14 G1 (n + 20) g1 R2 28 C5 hp14 HL2.out.1 HL2.out.2.1 (by rw [HL2.out.2.2.pages]; decide) (by have := HN.out; omega) A6 c6 Ls S.root hag14.row (by rw [← HLS.out]; exact Pag.lstS_in (by decide))
        rw [decide_eq_true (show g1.lst C5 = Ls ∧ g1.root = S.root from ⟨by rw [HL2.out.2.2.lst, HLS.out], HL2.out.2.2.root⟩), HT.out] at hlike
        rw [HT.out] at hcw
        have HLK := Lib.hid hlike
        clear h0 gk hk14 hag14 hlike HL2 HOP hcb hcz H13 hp14
        go_wp2_with fail
        repeat' (first | (refine hZ _ _ ?_; clear hZ) | (refine hZ _ ?_; clear hZ) | (refine hZ ?_; clear hZ) | rw [again_nil] | rw [walk_fin] | ((first | rw [walk_take] | rw [walk_run] | rw [again_cons]); intro Z hZ; simp only [sel, List.getElem?_toArray, List.getElem?_cons_zero, List.getElem?_cons_succ]; go_wp2_with (fail)))
        go_wp2_with fail
        refine HLK.out.mono ?_
        rintro e w16 ⟨G3, q3, rfl, -, -, hp16, -, -, -⟩
        have HB := Lib.hid hp16.wl.dl.bel
        clear hp16 HLK hcw
        go_wp2_with fail
        go_ret
        exact ⟨rfl, HB.out⟩
theorem pagerAgain_walk (w : World) (v : Value) (hv : ScriptP w v) (v' : Value) (hv' : FallsP w v') :
    Calls Tryz.prog 3 #[v, v'] w fun e w' => e = .returned (.bool true) ∧ Below w.heap.size w w' := by
  obtain ⟨A, c, L, rfl, hr, hL, hlc, hcm⟩ := hv
  obtain ⟨A', c', F, rfl, hr', hF, hlc', hcm'⟩ := hv'
  by_cases h : fitsP L = true ∧ L.length ≤ 9 ∧ F.length ≤ 12
  · exact pagerAgain_fit w A c L hr A' c' F hr' hF h.1 h.2.1 h.2.2
  · exact pagerAgain_no w A c L hr A' c' F h
end Go.Proofs.YtcfoihihinijlaaGreat
end

