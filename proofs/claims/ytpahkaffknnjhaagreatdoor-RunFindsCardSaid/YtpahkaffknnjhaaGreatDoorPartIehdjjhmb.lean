/-
  Texts of a proof, one behind the other (each with its own head).
-/
import Derived.Test.YtpahkaffknnjhaaGreatDoorPartHoelpdobd
section
namespace Go.Proofs.YtpahkaffknnjhaaGreatDoor
set_option linter.unusedSimpArgs false
set_option linter.unusedVariables false
open Go.RowKit
theorem good_gv {x : Pn.PX} {d : Nat} {P : Pl} {m : Nat} (h : Pn.Good x d P m) : ∀ l : Pm, l.e = P → GvOk x l := by
  induction h with
  | seq h1 h2 h3 h4 => intro l e; exact .seq (by rw [← l.e_op, e]; exact h1)
  | @range d P h1 h2 hu =>
    intro l e
    have ho : l.op = 2 := by rw [← l.e_op, e]; exact h1
    have hf : l.fr = P.fr := by rw [← l.e_fr, e]
    have hi : l.ix = P.ix := by rw [← l.e_ix, e]
    have hq : l.eq = P.eq := by rw [← l.e_eql, e]
    refine .range (by omega) (by omega) (by omega) (by omega) ?_ ?_ ?_ ?_ ?_
    · rw [hi]; exact hu.i0
    · rw [hi]; exact hu.i1
    · rw [hf]; exact hu.f0
    · rw [hf]; exact hu.f1
    · rw [hi, hq]; exact hu.len
  | loop h1 h2 h3 h4 h5 i3 i4 =>
    intro l e
    obtain ⟨a, b, hk, ea, eb⟩ := kids_two e h2
    exact .kid (.inl (by rw [← l.e_op, e]; exact h1)) hk (i3 a ea)
  | lookup h1 h2 h3 h4 hu i3 =>
    intro l e
    obtain ⟨a, hk, ea⟩ := kids_one e h2
    exact .kid (.inr (by rw [← l.e_op, e]; exact h1)) hk (i3 a ea)
  | sort h1 h2 h3 i3 => intro l e; exact .sort (by rw [← l.e_op, e]; exact h1)
set_option maxRecDepth 20000 in
set_option maxHeartbeats 8000000 in
theorem plright_any (w : World) (p : Qp) (hp : QpIn w p) (hmay : Pn.may p.x = true) (da : Option Addr) (dc : Nat) (hd : DfsIn w da p.x.defs) (l : Pm) (hl : PmRd w l) (hg : Pn.Good p.x 24 l.e (2 ^ p.x.T.length - 1)) (hgv : Pn.orders p.x = true → Pn.gives p.x l.e = true) :
    Calls Tryz.prog 70 #[p.v, .slice da p.x.defs.length dc, l.v] w (RetBo w true) := by
  have hs := Pn.sh_of_may hmay
  have HMAY := Lib.hid hmay
  have HP := Lib.hid hp
  have HS := Lib.hid hs
  have HCV := Lib.hid (plcov_any w p hp hs da dc hd hg (Nat.le_refl _) l hl rfl)
  have HGV := Lib.hid (plgivesr_any w p hp hs da dc hd l hl (good_gv hg l rfl))
  have HG := Lib.hid hgv
  have hol := hp.ol
  have hall := all8 hs.t1 hs.t4
  have ht4 := hs.t4
  clear hp hd hl hg hgv hs hmay
  go_enter Tryz.func70, Tryz.ntmps70
  go_upto_region 1 with (first | (refine wpList_box_qp rfl (.tmp 0) rfl p rfl ?_; intro W1 hb1 hz1 hB1) | (refine wpList_box_pm rfl (.tmp 2) rfl l rfl ?_; intro W2 hb2 hz2 hB2))
  have HB2 := Lib.hid (hB1.then hB2)
  have hq2 := hb1.below hB2
  have hl2 := hb2
  obtain ⟨g3, hg3⟩ : ∃ g, w.heap.size = g := ⟨_, rfl⟩
  rw [hg3] at hq2 ⊢
  generalize W1.heap.size = g5 at hl2 ⊢
  clear hb1 hB1 hB2 hz1 hz2 hb2 hg3
  go_wp2_with (refine wpList_load_qp0 rfl (.tmp 3) rfl g3 rfl hq2 ?_)
  refine (plmay_any W2 p (HP.out.below HB2.out)).mono ?_
  rw [HMAY.out]
  rintro e W3 ⟨rfl, hB3⟩
  have hq3 := hq2.below hB3
  have hl3 := hl2.below hB3
  have HB3 := Lib.hid (HB2.out.then hB3)
  clear hB3 hq2 hl2
  go_wp2_with (first | (refine wpList_load_qp0 rfl (.tmp 3) rfl g3 rfl hq3 ?_) | (refine wpList_load_pm rfl (.tmp 5) rfl g5 rfl hl3 ?_))
  refine (show Calls _ _ _ _ _ from HCV.out W3 HB3.out).mono ?_
  rintro e W4 ⟨rfl, hB4⟩
  have hq4 := hq3.below hB4
  have hl4 := hl3.below hB4
  have HB4 := Lib.hid (HB3.out.then hB4)
  clear hB4 hq3 hl3
  obtain ⟨c0, -⟩ := Blk.qp hq4
  go_wp2_with (refine wpList_load_qp0 rfl (.tmp 3) rfl g3 rfl hq4 ?_)
  refine (plorders_any W4 p hol).mono ?_
  rintro e W5 ⟨rfl, hB5⟩
  have hq5 := hq4.below hB5
  have hl5 := hl4.below hB5
  have HB5 := Lib.hid (HB4.out.then hB5)
  obtain ⟨od, hod⟩ : ∃ od, Pn.orders p.x = od := ⟨_, rfl⟩
  rw [hod] at HG ⊢
  clear hB5 hq4 hl4 c0 hod
  cases od with
  | false =>
    go_wp2_with fail
    go_ret
    exact ⟨rfl, HB5.out⟩
  | true =>
    obtain ⟨p0, p1, p2, p3, p4, p5, p6, p7, p8⟩ := Blk.pm hl5
    obtain ⟨q0, q1, q2, q3, q4, q5, q6, q7, q8⟩ := Blk.qp9 (Blk.qp90 hq5)
    go_wp2_with fail
    refine (show Calls _ _ #[p.v, _, l.v] _ _ from HGV.out W5 HB5.out).mono ?_
    rw [HG.out trivial]
    rintro e W6 ⟨rfl, hB6⟩
    have HB6 := Lib.hid (HB5.out.then hB6)
    clear hB6 p0 p1 p2 p3 p4 p5 p6 p7 p8 q0 q1 q2 q3 q4 q5 q6 q7 q8
    go_wp2_with fail
    go_ret
    exact ⟨rfl, HB6.out⟩
end Go.Proofs.YtpahkaffknnjhaaGreatDoor
end

section
namespace Go.Proofs.YtpahkaffknnjhaaGreatDoor
set_option linter.unusedSimpArgs false
set_option linter.unusedVariables false
open Go.RowKit
def RetKeep (W : World) (gR : Nat) (r : Rw) (e : Ending) (w' : World) : Prop :=
  e = .returned (.bool true) ∧ W.grownBy w' (some gR) ∧ ∃ A c, Blk w' gR 43 [.slice A 1 c] ∧ EOwn eRw w' W.heap.size A c [r]
set_option maxRecDepth 100000 in
set_option maxHeartbeats 4000000 in
theorem rkeep_any (W : World) (gR gq : Nat) (hR : Blk W gR 43 [.slice none 0 0]) (Tq : TypeId) (qc : List Value) (hq : Blk W gq Tq qc) (h5 : qc[5]? = some (.bool false)) (h8 : qc[8]? = some (.int .i64 (-1))) (hne : gq ≠ gR) (r : Rw) :
    Calls Tryz.prog 38 #[r.v, .pointer (some ⟨gR, 0, none⟩), .pointer (some ⟨gq, 0, none⟩)] W (RetKeep W gR r) := by
  have HR := Lib.hid hR
  have HQ := Lib.hid hq
  have H5 := Lib.hid (And.intro h5 h8)
  obtain ⟨c0, f0, hlt⟩ := Blk.c1 hR
  clear hR hq h5 h8
  unfold Rw.v
  obtain ⟨n, hn⟩ : ∃ n, r.l.length = n := ⟨_, rfl⟩
  have HN := Lib.hid hn
  rw [hn]
  clear hn
  have hoA : EOwn eRw (W.alloc (.cells #[.slice r.a n r.c] 37)) W.heap.size (some ⟨W.heap.size, 0, none⟩) 1 [r] := EOwn.new (E := eRw) W [r] (by simp [maxLen]) (Nat.le_refl _) #[.slice r.a n r.c] (by show [Value.slice r.a n r.c] = [Value.slice r.a r.l.length r.c]; rw [HN.out])
  have hbA : Below W.heap.size W (W.alloc (.cells #[.slice r.a n r.c] 37)) := (Below.refl _ _).alloc (Nat.le_refl _) _
  go_enter Tryz.func38, Tryz.ntmps38
  go_upto_region 2 with (at_builtin; refine wpList_append_elems eRw rfl (.tmp 5) (.tmp 7) rfl 0 rfl (EOwn.nil _ W.heap.size) rfl 1 rfl hoA.row rfl (by simp) hbA.size ?_; intro A5 c5 W5 ho5 hb5 hg5 _; have HO5 := Lib.hid ho5; have HB5 : Hid (Below W.heap.size W W5) := (hbA.trans hb5); have e0 := (HR.out.below HB5.out).cell 0; have g0 := (HR.out.below HB5.out).free 0; clear ho5 hb5 hg5)
  have HE : Hid (RetKeep W gR r (.returned (.bool true)) (W5.setCell ⟨gR, 0, none⟩ (.slice A5 1 c5))) := by
    refine ⟨rfl, grown_set (grown_belowR (grown_refl W (some gR)) HB5.out) 0 _, A5, c5, (HR.out.below HB5.out).set0, ?_⟩
    have h := HO5.out
    rw [List.nil_append] at h
    exact h.set ⟨gR, 0, none⟩ (fun a ha => by have := (h.block a ha).1; show a.block ≠ gR; omega) _
  have hq6 : Blk (W5.setCell ⟨gR, 0, none⟩ (.slice A5 1 c5)) gq Tq qc := (HQ.out.below HB5.out).other ⟨gR, 0, none⟩ hne _
  have q5 := hq6.cell 5
  have q8 := hq6.cell 8
  rw [H5.out.1] at q5
  rw [H5.out.2] at q8
  clear hq6 HR HQ H5 c0 f0 hlt hoA hbA HO5 HB5 e0 g0
  generalize World.setCell _ _ _ = W6 at HE q5 q8 ⊢
  go_wp2_with fail
  go_ret
  exact HE.out
structure LvPre (W : World) (x : Lv) : Prop where
  t : Blk W x.t 3 [.int .i64 0]
  b : Blk W x.b 3 [.int .i64 0]
  n : Blk W x.n 66 (R18.na.cells ++ R18.nb.cells)
  w : Blk W x.w 66 (R18.nn x.n).cells
  i : Blk W x.i 66 R18.na.cells
  D : Blk W x.D 46 [.int .i64 0, .slice (some ⟨x.d, 0, none⟩) 1 1, .bool false]
  d : Blk W x.d 3 [.int .i64 0]
  m : MemAt W x.m x.G x.K
  g : x.G.map Run.rowsG = [[[R18.v1], [R18.v2]]]
  k : x.K.map Run.keysG = [[R18.k1, R18.k2]]
theorem LvPre.below {w W : World} {x : Lv} (h : LvPre w x) (hB : Below w.heap.size w W) : LvPre W x :=
  ⟨h.t.below hB, h.b.below hB, h.n.below hB, h.w.below hB, h.i.below hB, h.D.below hB, h.d.below hB, h.m.below hB, h.g, h.k⟩
theorem LvPre.wd {W : World} {x : Lv} (h : LvPre W x) (g : Nat) (hb : Blk W g 117 x.wdc) : LvIn W { x with wd := g } :=
  ⟨hb, h.t, h.b, h.n, h.w, h.i, h.D, h.d, h.m, h.g, h.k⟩
def Lv.qp (x : Lv) : Qp := R18.qp x.n x.d x.t x.b x.w x.i
theorem LvPre.ints {W : World} {x : Lv} (h : LvPre W x) : ERow eInt W (some ⟨x.t, 0, none⟩) [0] ∧ ERow eInt W (some ⟨x.b, 0, none⟩) [0] ∧ ERow eInt W (some ⟨x.d, 0, none⟩) [0] :=
  ⟨h.t.row eInt [0] rfl (by simp [maxLen]), h.b.row eInt [0] rfl (by simp [maxLen]), h.d.row eInt [0] rfl (by simp [maxLen])⟩
theorem LvPre.nodes {W : World} {x : Lv} (h : LvPre W x) : ERow eNd W (some ⟨x.w, 0, none⟩) [R18.nn x.n] ∧ NodeIn W (R18.nn x.n) := by
  refine ⟨h.w.row eNd [R18.nn x.n] rfl (by simp [maxLen]), ?_⟩
  have ha : NodeIn W R18.na := .mk ERow.nil (by intro m hm; cases hm) Ev.nul_ok (Nat.zero_le _) ⟨by decide, by decide⟩ ⟨by decide, by decide⟩ (Nat.le_refl 0) (Nat.zero_le _)
  have hb : NodeIn W R18.nb := .mk ERow.nil (by intro m hm; cases hm) ⟨by decide, by decide, by decide, by decide, by decide⟩ (Nat.zero_le _) ⟨by decide, by decide⟩ ⟨by decide, by decide⟩ (Nat.le_refl 0) (Nat.zero_le _)
  refine .mk (h.n.row eNd [R18.na, R18.nb] rfl (by simp [maxLen])) ?_ Ev.nul_ok (Nat.zero_le _) ⟨show (-9223372036854775808 : Int) ≤ 7 by decide, show (7 : Int) ≤ 9223372036854775807 by decide⟩ ⟨show (-9223372036854775808 : Int) ≤ 0 by decide, show (0 : Int) ≤ 9223372036854775807 by decide⟩ (Nat.le_refl 2) (by show 2 ≤ maxLen; decide)
  intro m hm
  rcases List.mem_cons.1 hm with rfl | hm
  · exact ha
  · rw [List.mem_singleton.1 hm]; exact hb
theorem in0 : ∀ n ∈ [(0 : Int)], Ev.inB n := by
  intro n hn
  rw [List.mem_singleton.1 hn]
  exact ⟨by decide, by decide⟩
theorem LvPre.qpIn {W : World} {x : Lv} (h : LvPre W x) : QpIn W x.qp := by
  obtain ⟨h1, h2, h3⟩ := h.ints
  obtain ⟨h4, h5⟩ := h.nodes
  refine ⟨h1, in0, ?_, h2, in0, ?_, ⟨by show (-9223372036854775808 : Int) ≤ 1; decide, by show (1 : Int) ≤ _; decide⟩, h4, ?_, ?_, ERow.nil, ?_, ?_⟩
  · show 1 ≤ 1000000; decide
  · show 1 ≤ 1000000; decide
  · intro n hn; rw [List.mem_singleton.1 hn]; exact h5
  · show 1 ≤ 1000000; decide
  · intro s hs; cases hs
  · show 0 ≤ 1000000; decide
theorem LvPre.dfs {W : World} {x : Lv} (h : LvPre W x) : DfsIn W (some ⟨x.D, 0, none⟩) x.qp.x.defs := by
  obtain ⟨h1, h2, h3⟩ := h.ints
  refine ⟨h.D.row eDf [⟨0, some ⟨x.d, 0, none⟩, [0], 1, false⟩] rfl (by simp [maxLen]), ?_, ?_, ?_, ?_, ?_⟩
  all_goals try (intro d hd; rw [List.mem_singleton.1 hd])
  · exact h3
  · show 1 ≤ 1000; decide
  · exact in0
  · exact ⟨Nat.le_refl 1, by show 1 ≤ maxLen; decide⟩
  · show 1 ≤ 1000; decide
theorem lv_may (x : Lv) : Pn.may x.qp.x = true := by rfl
theorem lv_good (x : Lv) : Pn.Good x.qp.x 24 R18.pm.e (2 ^ x.qp.x.T.length - 1) := by
  have h : Pn.Good x.qp.x 24 R18.pm.e (2 ^ (R18.pm.e).fr.toNat) := by
    refine .range rfl rfl ⟨by decide, by show (0 : Int) < 1; decide, by decide, by show (0 : Int) < 1; decide, ?_, ?_, ?_, ?_, ?_, ?_⟩
    · rfl
    · show 0 ≤ 1; decide
    · intro h; exact absurd (show (2 : Int) = 4 from h) (by decide)
    · intro i k hk; cases hk
    · exact .inr ⟨by show (0 : Int) ≤ 0; decide, by show (0 : Int) < 1; decide, by show 0 < 1; decide, by kernel_rfl⟩
    · exact .inl (by show (-1 : Int) < 0; decide)
  exact h
end Go.Proofs.YtpahkaffknnjhaaGreatDoor
end

section
namespace Go.Proofs.YtpahkaffknnjhaaGreatDoor
set_option linter.unusedSimpArgs false
set_option linter.unusedVariables false
open Go.RowKit
def RetRowsL (wa : World) (gR gq : Nat) (x : Lv) (e : Ending) (w' : World) : Prop :=
  e = .returned (.int .i64 0) ∧ Below wa.heap.size wa w' ∧ ∃ A c g, Blk w' gR 43 [.slice A 1 c] ∧ EOwn eRw w' 0 A c [⟨some ⟨g, 0, none⟩, [R18.v2], 1⟩] ∧ Blk w' g 64 R18.v2.cells ∧ Blk w' gq 26 x.qp.cells
theorem seek_1 {x : Lv} {W : World} (h : LvPre W x) : Run.seekOf (x.K.map Run.keysG) 0 (Key.part R18.v1) = some R18.k1 := by rw [h.k]; decide +kernel
theorem seek_2 {x : Lv} {W : World} (h : LvPre W x) : Run.seekOf (x.K.map Run.keysG) 0 (R18.k1 ++ [0]) = some R18.k2 := by rw [h.k]; decide +kernel
theorem seek_3 {x : Lv} {W : World} (h : LvPre W x) : Run.seekOf (x.K.map Run.keysG) 0 (R18.k2 ++ [0]) = none := by rw [h.k]; decide +kernel
theorem rowOf_1 {x : Lv} {W : World} (h : LvPre W x) : Run.rowOf (x.G.map Run.rowsG) 0 (((1 : Nat) : Int) - 1) = some [R18.v1] := by rw [h.g]; rfl
theorem rowOf_2 {x : Lv} {W : World} (h : LvPre W x) : Run.rowOf (x.G.map Run.rowsG) 0 (((2 : Nat) : Int) - 1) = some [R18.v2] := by rw [h.g]; rfl
theorem k1_len : R18.k1.length = 17 := by decide +kernel
theorem k2_len : R18.k2.length = 17 := by decide +kernel
theorem clean_v2 : Key.clean R18.v2 = R18.v2 := by rfl
theorem v1_ok : R18.v1.ok := ⟨by decide, by decide, by decide, by decide, by decide⟩
theorem v2_ok : R18.v2.ok := ⟨by decide, by decide, by decide, by decide, by decide⟩
theorem holds_1 (g : Nat) : Ev.holds [R18.v1] [R18.nn g] = false := by kernel_rfl
theorem holds_2 (g : Nat) : Ev.holds [R18.v2] [R18.nn g] = true := by kernel_rfl
theorem lv_nogv (x : Lv) : Pn.orders x.qp.x = true → Pn.gives x.qp.x R18.pm.e = true := fun h => absurd h (by show ¬ false = true; decide)
theorem pm_rd (w : World) : PmRd w R18.pm := .mk ERow.nil ERow.nil (by intro k hk; cases hk) (Nat.zero_le _) (Nat.zero_le _)
def Ph (w0 : World) (gs : Nat) (kk : List UInt8) (v : Va) (g : Nat) (wr : World) : Prop := Below w0.heap.size w0 wr ∧ Blk wr g 64 v.cells ∧ ∃ A c, Blk wr gs 159 (R18.stc (.slice A (kk ++ [0]).length c) false (-1)) ∧ BRow wr A (kk ++ [0])
def phN (wr : World) (v : Value) : Nat := match v with
  | .slice (some a) _ _ => (match wr.cell? ⟨a.block, 1, none⟩ with | some (.int _ n) => 3 - n.toNat | _ => 0)
  | _ => 0
theorem Ph.n {w0 : World} {gs : Nat} {kk : List UInt8} {v : Va} {g : Nat} {wr : World} (h : Ph w0 gs kk v g wr) (n c : Nat) : phN wr (.slice (some ⟨g, 0, none⟩) n c) = 3 - v.n.toNat := by
  have := h.2.1.cell 1
  unfold phN
  show (match wr.cell? ⟨g, 1, none⟩ with | some (.int _ n) => 3 - n.toNat | _ => 0) = _
  rw [this]
  rfl
theorem qp_list (x : Lv) : x.qp.cells = [.slice (some ⟨x.t, 0, none⟩) 1 1, .slice (some ⟨x.b, 0, none⟩) 1 1, .int .i64 1, .slice (some ⟨x.w, 0, none⟩) 1 1, .slice none 0 0, .bool false, .slice (some ⟨x.i, 0, none⟩) 1 1, .slice none 0 0, .int .i64 (-1)] := rfl
theorem pm_list : R18.pm.cells = [.int .i64 2, .int .i64 0, .int .i64 0, .slice none 0 0, .int .i64 0, .int .i64 (-1), .int .i64 0, .int .i64 0, .slice none 0 0] := rfl
set_option maxRecDepth 100000 in
set_option maxHeartbeats 8000000 in
theorem rrows_any (wa : World) (x : Lv) (h : LvPre wa x) (W : World) (hB : Below wa.heap.size wa W) (gR gq : Nat) (hgR : wa.heap.size ≤ gR) (hR : Blk W gR 43 [.slice none 0 0]) (hq : Blk W gq 26 x.qp.cells) :
    Calls Tryz.prog 37 #[x.qp.v, .slice (some ⟨x.D, 0, none⟩) 1 1, R18.pm.v, .iface 35 (.pointer (some ⟨x.m, 0, none⟩)), .func (.func 38) #[] #[.pointer (some ⟨gR, 0, none⟩), .pointer (some ⟨gq, 0, none⟩)]] W (RetRowsL wa gR gq x) := by
  have HP := Lib.hid h
  have HW : Hid (Below wa.heap.size wa W ∧ Blk W gR 43 [.slice none 0 0] ∧ Blk W gq 26 x.qp.cells) := ⟨hB, hR, hq⟩
  have hgl := hR.lt
  have hql := hq.lt
  clear h hB hR hq
  go_enter Tryz.func37, Tryz.ntmps37
  go_upto_region 1 with (first | (refine wpList_box_qp rfl (.tmp 0) rfl x.qp rfl ?_; intro W1 hb1 hz1 hB1) | (refine wpList_box_pm rfl (.tmp 2) rfl R18.pm rfl ?_; intro W2 hb2 hz2 hB2))
  have HW2 : Hid (Below wa.heap.size wa W2 ∧ Blk W2 gR 43 [.slice none 0 0] ∧ Blk W2 gq 26 x.qp.cells ∧ Blk W2 W.heap.size 26 x.qp.cells ∧ Blk W2 W1.heap.size 71 R18.pm.cells) :=
    ⟨(HW.out.1.then hB1).then hB2, (HW.out.2.1.below hB1).below hB2, (HW.out.2.2.below hB1).below hB2, hb1.below hB2, hb2⟩
  have hq5 := hb1.below hB2
  clear hb1 hz1 hB1 hz2 hB2 HW
  obtain ⟨g5, hg5⟩ : ∃ g, W.heap.size = g := ⟨_, rfl⟩
  obtain ⟨g7, hg7⟩ : ∃ g, W1.heap.size = g := ⟨_, rfl⟩
  rw [hg5] at HW2 hq5 ⊢
  rw [hg7] at HW2 hb2 ⊢
  clear hg5 hg7
  rw [qp_list] at hq5
  rw [pm_list] at hb2
  obtain ⟨c0, c1, c2, c3, c4, c5, c6, c7, c8⟩ := Blk.n9 hq5
  obtain ⟨d0, d1, d2, d3, d4, d5, d6, d7, d8⟩ := Blk.n9 hb2
  go_wp2_with fail
  have hp2 := HP.out.below HW2.out.1
  refine (show Calls _ _ #[x.qp.v, .slice (some ⟨x.D, 0, none⟩) x.qp.x.defs.length 1, R18.pm.v] _ _ from plright_any W2 x.qp hp2.qpIn (lv_may x) _ 1 hp2.dfs R18.pm (pm_rd W2) (lv_good x) (lv_nogv x)).mono ?_
  rintro e W3 ⟨rfl, hB3⟩
  have HW3 : Hid (Below wa.heap.size wa W3 ∧ Blk W3 gR 43 [.slice none 0 0] ∧ Blk W3 gq 26 x.qp.cells ∧ Blk W3 g5 26 x.qp.cells ∧ Blk W3 g7 71 R18.pm.cells) :=
    ⟨HW2.out.1.then hB3, HW2.out.2.1.below hB3, HW2.out.2.2.1.below hB3, HW2.out.2.2.2.1.below hB3, HW2.out.2.2.2.2.below hB3⟩
  have hq3 := hq5.below hB3
  clear c0 c1 c2 c3 c4 c5 c6 c7 c8 d0 d1 d2 d3 d4 d5 d6 d7 d8 hB3 hq5 hb2 HW2 hp2
  obtain ⟨c0, c1, c2, c3, c4, c5, c6, c7, c8⟩ := Blk.n9 hq3
  go_upto_region 4 with fail
  generalize hW4 : World.alloc W3 _ = W4
  obtain ⟨hwd, hz4, hB4⟩ := fresh1 (a := Lv.wdc x) hW4
  have HW4 : Hid (Below wa.heap.size wa W4 ∧ Blk W4 gR 43 [.slice none 0 0] ∧ Blk W4 gq 26 x.qp.cells ∧ Blk W4 g5 26 x.qp.cells ∧ Blk W4 g7 71 R18.pm.cells ∧ Blk W4 W3.heap.size 117 x.wdc) :=
    ⟨HW3.out.1.then hB4, HW3.out.2.1.below hB4, HW3.out.2.2.1.below hB4, HW3.out.2.2.2.1.below hB4, HW3.out.2.2.2.2.below hB4, hwd⟩
  have hp4 := HW4.out.2.2.2.2.1
  rw [pm_list] at hp4
  clear c0 c1 c2 c3 c4 c5 c6 c7 c8 hq3 HW3 hW4 hwd hz4 hB4
  generalize W3.heap.size = gw at HW4 ⊢
  obtain ⟨d0, d1, d2, d3, d4, d5, d6, d7, d8⟩ := Blk.n9 hp4
  have HL : Hid (LvIn W4 { x with wd := gw }) := (HP.out.below HW4.out.1).wd gw HW4.out.2.2.2.2.2
  go_wp2_with fail
  refine (show Calls _ _ #[R18.pm.v] _ _ from rbegin_any W4).mono ?_
  clear d0 d1 d2 d3 d4 d5 d6 d7 d8 hp4
  rintro e W5 ⟨gs, rfl, hs5, hgs, hB5⟩
  go_wp2_with fail
  refine (ropen_any W4 { x with wd := gw } HL.out W5 hB5 gs hgs hs5).mono ?_
  rintro e W6 ⟨rfl, A6, c6, hs6, hr6, hc6, hB6⟩
  clear hs5 hB5
  go_wp2_with fail
  refine (rnext_some W4 { x with wd := gw } HL.out W6 hB6 gs hgs A6 c6 _ R18.k1 (Run.parts [0] [R18.v1]) 1 R18.v1 hs6 hr6 (show Run.seekOf (x.K.map Run.keysG) 0 _ = _ from seek_1 HP.out) rfl (by rw [k1_len]; decide) (by decide) (show Run.rowOf (x.G.map Run.rowsG) 0 (((1 : Nat) : Int) - 1) = some [R18.v1] from rowOf_1 HP.out) v1_ok).mono ?_
  rw [clean_v1]
  clear hs6 hr6 hc6 hB6
  rintro e W7 ⟨g8, A7, c7, rfl, hv7, hs7, hr7, hc7, hg8, hB7⟩
  have H0 : Hid (Below W4.heap.size W4 W7 ∧ Blk W7 g8 64 R18.v1.cells ∧ Blk W7 gs 159 (R18.stc (.slice A7 (R18.k1 ++ [0]).length c7) false (-1)) ∧ BRow W7 A7 (R18.k1 ++ [0])) := ⟨hB7, hv7, hs7, hr7⟩
  clear hv7 hs7 hr7 hc7 hg8 hB7
  have HH0 : Hid (Ph W4 gs R18.k1 R18.v1 g8 W7) := ⟨H0.out.1, H0.out.2.1, A7, c7, H0.out.2.2.1, H0.out.2.2.2⟩
  clear H0
  go_wp2_with fail
  go_loopw [13, 14] (fun rv kv wr =>
    (∃ g, rv = .slice (some ⟨g, 0, none⟩) 1 1 ∧ kv = .bool true ∧ Hid (Ph W4 gs R18.k1 R18.v1 g wr)) ∨
    (∃ g, rv = .slice (some ⟨g, 0, none⟩) 1 1 ∧ kv = .bool true ∧ Hid (Ph W4 gs R18.k2 R18.v2 g wr)) ∨
    (kv = .bool false ∧ Hid (RetRowsL wa gR gq x (.returned (.int .i64 0)) wr ∧ wr.cell? ⟨gw, 11, none⟩ = some (.int .i64 0)))) (fun rv kv wr => okOf kv (phN wr rv))
  case atStart => exact .inl ⟨g8, rfl, rfl, HH0.out⟩
  case round =>
    clear HH0
    rcases hrel with ⟨g, rfl, rfl, HJ⟩ | ⟨g, rfl, rfl, HJ⟩ | ⟨rfl, HJ⟩
    · have hme := HJ.out.n 1 1
      have hB := HJ.out.1
      have c3 := (HW4.out.2.2.2.1.below hB).cell 3
      rw [qp_list] at c3
      simp only [List.getElem?_cons_zero, List.getElem?_cons_succ] at c3
      have hp := (HP.out.below HW4.out.1).below hB
      have hho := pholds_any wr (some ⟨x.w, 0, none⟩) (some ⟨g, 0, none⟩) 1 1 [R18.nn x.n] [R18.v1] hp.nodes.1 (by intro n hn; rw [List.mem_singleton.1 hn]; exact hp.nodes.2) (by simp) ⟨HJ.out.2.1.row eVa [R18.v1] rfl (by simp [maxLen]), (by intro u hu; rw [List.mem_singleton.1 hu]; exact v1_ok), (by simp)⟩
      rw [holds_1] at hho
      have HHO := Lib.hid hho
      clear hB hp hho
      go_wp2_with fail
      refine HHO.out.mono ?_
      rintro e W8 ⟨rfl, hB8⟩
      have HJ8 : Hid (Ph W4 gs R18.k1 R18.v1 g W8) := by
        obtain ⟨h1, h2, A, c, h3, h4⟩ := HJ.out
        exact ⟨h1.then hB8, h2.below hB8, A, c, h3.below hB8, h4.below hB8⟩
      clear hB8 HJ HHO c3
      go_wp2_with fail
      obtain ⟨h1, h2, A, c, h3, h4⟩ := HJ8.out
      have hne := rnext_some W4 { x with wd := gw } HL.out W8 h1 gs hgs A c _ R18.k2 (Run.parts [0] [R18.v2]) 2 R18.v2 h3 h4 (show Run.seekOf (x.K.map Run.keysG) 0 _ = _ from seek_2 HP.out) rfl (by rw [k2_len]; decide) (by decide) (show Run.rowOf (x.G.map Run.rowsG) 0 (((2 : Nat) : Int) - 1) = some [R18.v2] from rowOf_2 HP.out) v2_ok
      rw [clean_v2] at hne
      clear h1 h2 h3 h4 HJ8
      refine hne.mono ?_
      clear hne
      rintro e W9 ⟨g9, A9, c9, rfl, hv9, hs9, hr9, hc9, hg9, hB9⟩
      have HJ9 : Hid (Ph W4 gs R18.k2 R18.v2 g9 W9) := ⟨hB9, hv9, A9, c9, hs9, hr9⟩
      clear hv9 hs9 hr9 hc9 hg9 hB9
      have hm9 := HJ9.out.n 1 1
      go_wp2_with fail
      go_roundw
      case rel => exact .inr (.inl ⟨g9, rfl, rfl, HJ9.out⟩)
      case measure =>
        show okOf (.bool true) (phN W9 _) < okOf (.bool true) (phN wr _)
        rw [hme, hm9]
        decide
    · have hme := HJ.out.n 1 1
      have hB := HJ.out.1
      have c3 := (HW4.out.2.2.2.1.below hB).cell 3
      rw [qp_list] at c3
      simp only [List.getElem?_cons_zero, List.getElem?_cons_succ] at c3
      have hp := (HP.out.below HW4.out.1).below hB
      have hho := pholds_any wr (some ⟨x.w, 0, none⟩) (some ⟨g, 0, none⟩) 1 1 [R18.nn x.n] [R18.v2] hp.nodes.1 (by intro n hn; rw [List.mem_singleton.1 hn]; exact hp.nodes.2) (by simp) ⟨HJ.out.2.1.row eVa [R18.v2] rfl (by simp [maxLen]), (by intro u hu; rw [List.mem_singleton.1 hu]; exact v2_ok), (by simp)⟩
      rw [holds_2] at hho
      have HHO := Lib.hid hho
      clear hB hp hho
      go_wp2_with fail
      refine HHO.out.mono ?_
      rintro e W8 ⟨rfl, hB8⟩
      have HJ8 : Hid (Ph W4 gs R18.k2 R18.v2 g W8) := by
        obtain ⟨h1, h2, A, c, h3, h4⟩ := HJ.out
        exact ⟨h1.then hB8, h2.below hB8, A, c, h3.below hB8, h4.below hB8⟩
      clear hB8 HJ HHO c3
      have HC8 : Hid (Blk W8 gR 43 [.slice none 0 0] ∧ Blk W8 gq 26 x.qp.cells ∧ Blk W8 gw 117 x.wdc) := ⟨HW4.out.2.1.below HJ8.out.1, HW4.out.2.2.1.below HJ8.out.1, HW4.out.2.2.2.2.2.below HJ8.out.1⟩
      have hqR : gq ≠ gR := by
        rintro rfl
        exact absurd (HC8.out.1.kind.one HC8.out.2.1.kind) (by decide)
      go_wp2_with fail
      refine (show Calls _ _ #[(⟨some ⟨g, 0, none⟩, [R18.v2], 1⟩ : Rw).v, _, _] _ _ from rkeep_any W8 gR gq HC8.out.1 _ _ HC8.out.2.1 rfl rfl hqR ⟨some ⟨g, 0, none⟩, [R18.v2], 1⟩).mono ?_
      rintro e W9 ⟨rfl, hgr, A9, c9, hb9, ho9⟩
      have hgRk : ∀ y, some gR = some y → isK W8 43 y := fun y hy => by cases hy; exact HC8.out.1.kind
      have HB8 : Hid (Below wa.heap.size wa W8) := HW4.out.1.then HJ8.out.1
      have HB9 : Hid (Below wa.heap.size wa W9) := HB8.out.grown hgr HB8.out.size fun k hk => by cases hk; exact hgR
      have HL9 : Hid (LvIn W9 { x with wd := gw }) := (HP.out.below HB9.out).wd gw (HC8.out.2.2.apart hgr hgRk (by decide))
      obtain ⟨h1, h2, A, c, h3, h4⟩ := HJ8.out
      have h39 := h3.apart hgr hgRk (by decide)
      have h49 : BRow W9 A (R18.k2 ++ [0]) := h4.grown_blk hgr HC8.out.1 (by intro v hv n; rw [List.mem_singleton.1 hv]; simp)
      have h29 := h2.apart hgr hgRk (by decide)
      have HK9 : Hid (Blk W9 gR 43 [.slice A9 1 c9] ∧ EOwn eRw W9 0 A9 c9 [⟨some ⟨g, 0, none⟩, [R18.v2], 1⟩] ∧ Blk W9 g 64 R18.v2.cells ∧ Blk W9 gq 26 x.qp.cells) := ⟨hb9, ho9.mono (Nat.zero_le _), h29, HC8.out.2.1.apart hgr hgRk (by decide)⟩
      have HNE := Lib.hid (rnext_none { x with wd := gw } W9 HL9.out gs A c _ h39 h49 (show Run.seekOf (x.K.map Run.keysG) 0 _ = _ from seek_3 HP.out))
      have HSK := Lib.hid h39.kind
      clear hgr hb9 ho9 hgRk h1 h2 h3 h4 h39 h49 h29 HJ8 HC8 hqR
      go_wp2_with fail
      refine HNE.out.mono ?_
      rintro e W10 ⟨rfl, -, hgr⟩
      have hgs0 : wa.heap.size ≤ gs := Nat.le_trans HW4.out.1.size hgs
      have hsk : ∀ y, some gs = some y → isK W9 159 y := fun y hy => by cases hy; exact HSK.out
      have HF : Hid (RetRowsL wa gR gq x (.returned (.int .i64 0)) W10 ∧ W10.cell? ⟨gw, 11, none⟩ = some (.int .i64 0)) := by
        refine ⟨⟨rfl, HB9.out.grown hgr HB9.out.size fun k hk => by cases hk; exact hgs0, A9, c9, g, HK9.out.1.apart hgr hsk (by decide), HK9.out.2.1.apart hgr hsk (by decide), HK9.out.2.2.1.apart hgr hsk (by decide), HK9.out.2.2.2.apart hgr hsk (by decide)⟩, ?_⟩
        exact (HL9.out.wd.apart hgr hsk (by decide)).cell 11
      clear hgr hsk hgs0 HB9 HL9 HK9 HNE HSK HB8
      go_wp2_with fail
      go_roundw
      case rel => exact .inr (.inr ⟨rfl, HF.out⟩)
      case measure =>
        show okOf (.bool false) _ < okOf (.bool true) (phN wr _)
        rw [hme]
        show 0 < okOf (.bool true) (3 - R18.v2.n.toNat)
        decide
    · obtain ⟨he, hc⟩ := HJ.out
      have HE := Lib.hid he
      clear he HJ
      go_wp2_with fail
      go_ret
      exact HE.out
end Go.Proofs.YtpahkaffknnjhaaGreatDoor
end

section
namespace Go.Proofs.YtpahkaffknnjhaaGreatDoor
set_option linter.unusedSimpArgs false
set_option linter.unusedVariables false
open Go.RowKit
def Lv.qr (x : Lv) : Qr := ⟨.slice (some ⟨x.t, 0, none⟩) 1 1, .slice (some ⟨x.b, 0, none⟩) 1 1, 1, some ⟨x.w, 0, none⟩, [R18.nn x.n], 1, none, [], 0, false, some ⟨x.i, 0, none⟩, [R18.na], 1, none, [], 0, -1⟩
theorem lv_qrIn {W : World} {x : Lv} (h : LvPre W x) : QrIn W x.qr := by
  refine ⟨ERow.nil, ?_, ?_, h.i.row eNd [R18.na] rfl (by simp [maxLen]), ?_, ?_, ERow.nil, ?_, ?_, ⟨by show (-9223372036854775808 : Int) ≤ -1; decide, by show (-1 : Int) ≤ 9223372036854775807; decide⟩⟩
  · intro n hn; cases hn
  · show 0 ≤ 1000000; decide
  · intro n hn
    rw [List.mem_singleton.1 hn]
    exact h.nodes.2.kids R18.na (by simp [R18.nn, Nd.args])
  · show 1 ≤ 1000000; decide
  · intro n hn; cases hn
  · show 0 ≤ 1000000; decide
theorem ans_l (g : Nat) : Ev.answerV false [] [R18.na] [] (-1) [(⟨some ⟨g, 0, none⟩, [R18.v2], 1⟩ : Rw)] = [[R18.v2]] := by kernel_rfl
def RetAnsL (wa : World) (e : Ending) (w' : World) : Prop :=
  ∃ b o c b2 o2 c2, e = .returned (.tuple #[.slice (some ⟨b, o, none⟩) 1 c, .int .i64 0]) ∧ w'.cell? ⟨b, o, none⟩ = some (.slice (some ⟨b2, o2, none⟩) 1 c2) ∧ w'.cell? ⟨b2, o2 + 1, none⟩ = some (.int .i64 2) ∧ Below wa.heap.size wa w'
set_option maxRecDepth 100000 in
set_option maxHeartbeats 8000000 in
theorem ransw_any (wa : World) (x : Lv) (h : LvPre wa x) :
    Calls Tryz.prog 20 #[x.qp.v, .slice (some ⟨x.D, 0, none⟩) 1 1, R18.pm.v, .iface 35 (.pointer (some ⟨x.m, 0, none⟩))] wa (RetAnsL wa) := by
  have HP := Lib.hid h
  clear h
  go_enter Tryz.func20, Tryz.ntmps20
  go_upto_region 1 with (first | (refine wpList_box_qp rfl (.tmp 0) rfl x.qp rfl ?_; intro W1 hb1 hz1 hB1) | (refine wpList_box_pm rfl (.tmp 2) rfl R18.pm rfl ?_; intro W2 hb2 hz2 hB2))
  have HW2 : Hid (Below wa.heap.size wa W2 ∧ Blk W2 wa.heap.size 26 x.qp.cells ∧ Blk W2 W1.heap.size 71 R18.pm.cells ∧ wa.heap.size ≤ W2.heap.size) := ⟨hB1.then hB2, hb1.below hB2, hb2, by omega⟩
  clear hb1 hz1 hB1 hb2 hz2 hB2
  obtain ⟨g4, hg4⟩ : ∃ g, wa.heap.size = g := ⟨_, rfl⟩
  obtain ⟨g6, hg6⟩ : ∃ g, W1.heap.size = g := ⟨_, rfl⟩
  have HG4 : Hid (wa.heap.size ≤ g4) := by show _ ≤ _; omega
  obtain ⟨hw1, hw2, hw3, hw4⟩ := HW2.out
  rw [hg4] at hw2
  rw [hg6] at hw3
  rw [hg4, hg6]
  clear hg4 hg6 HW2
  go_upto_region 2 with fail
  generalize hW3 : World.alloc W2 _ = W3
  obtain ⟨hb3, hz3, hB3⟩ := fresh1 (a := [.slice none 0 0]) hW3
  have HW3 : Hid (Below wa.heap.size wa W3 ∧ Blk W3 g4 26 x.qp.cells ∧ Blk W3 g6 71 R18.pm.cells ∧ Blk W3 W2.heap.size 43 [.slice none 0 0]) := ⟨hw1.then hB3, hw2.below hB3, hw3.below hB3, hb3⟩
  have hq3 := hw2.below hB3
  have hp3 := hw3.below hB3
  clear hW3 hb3 hz3 hB3 hw1 hw2 hw3
  generalize W2.heap.size = gR at HW3 hw4 ⊢
  go_wp2_with (first | (refine wpList_load_qp0 rfl (.tmp 4) rfl g4 rfl hq3 ?_) | (refine wpList_load_pm rfl (.tmp 6) rfl g6 rfl hp3 ?_))
  refine (rrows_any wa x HP.out W3 HW3.out.1 gR g4 hw4 HW3.out.2.2.2 HW3.out.2.1).mono ?_
  clear hq3 hp3
  rintro e W4 ⟨rfl, hB4, A4, c4, g8, hb4, ho4, hv4, hq4⟩
  have HW4 : Hid (Below wa.heap.size wa W4 ∧ EOwn eRw W4 0 A4 c4 [⟨some ⟨g8, 0, none⟩, [R18.v2], 1⟩] ∧ Blk W4 g8 64 R18.v2.cells ∧ Blk W4 g4 26 x.qp.cells ∧ Blk W4 gR 43 [.slice A4 1 c4]) := ⟨hB4, ho4, hv4, hq4, hb4⟩
  rw [qp_list] at hq4
  obtain ⟨c0, c1, c2, c3, c4', c5, c6, c7, c8⟩ := Blk.n9 hq4
  have f7 := hq4.free 7
  clear hB4 ho4 hv4 hq4 hb4 HW3
  go_upto_region 7 with fail
  have HW5 : Hid (Below wa.heap.size wa (W4.setCell ⟨g4, 7, none⟩ (.slice none 0 0)) ∧ EOwn eRw (W4.setCell ⟨g4, 7, none⟩ (.slice none 0 0)) 0 A4 c4 [⟨some ⟨g8, 0, none⟩, [R18.v2], 1⟩] ∧ Blk (W4.setCell ⟨g4, 7, none⟩ (.slice none 0 0)) g8 64 R18.v2.cells ∧ Blk (W4.setCell ⟨g4, 7, none⟩ (.slice none 0 0)) g4 26 x.qp.cells ∧ Blk (W4.setCell ⟨g4, 7, none⟩ (.slice none 0 0)) gR 43 [.slice A4 1 c4]) := by
    obtain ⟨h1, h2, h3, h4, h5⟩ := HW4.out
    have hk : ∀ y, some g4 = some y → isK W4 26 y := fun y hy => by cases hy; exact h4.kind
    exact ⟨h1.grown (grown_setb 7 _) h1.size fun k hk => by cases hk; exact HG4.out, h2.apart (grown_setb 7 _) hk (by decide), h3.apart (grown_setb 7 _) hk (by decide), h4.set 7 _, h5.apart (grown_setb 7 _) hk (by decide)⟩
  clear c0 c1 c2 c3 c4' c5 c6 c7 c8 f7 HW4
  generalize World.setCell _ _ _ = W5 at HW5 ⊢
  have hq5 := HW5.out.2.2.2.1
  have r0 := HW5.out.2.2.2.2.cell 0
  simp only [List.getElem?_cons_zero] at r0
  go_wp2_with (first | (refine wpList_load_qp0 rfl (.tmp 4) rfl g4 rfl hq5 ?_))
  have hro : RowsOk W5 A4 [⟨some ⟨g8, 0, none⟩, [R18.v2], 1⟩] := ⟨HW5.out.2.1.row, by
    intro r hr
    rw [List.mem_singleton.1 hr]
    exact ⟨HW5.out.2.2.1.row eVa [R18.v2] rfl (by simp [maxLen]), (by intro u hu; rw [List.mem_singleton.1 hu]; exact v2_ok), (by simp)⟩, by simp⟩
  have hne : A4 ≠ none := by
    intro e
    rcases HW5.out.2.1.form with ⟨-, -, hx⟩ | ⟨g, hg, -⟩
    · cases hx
    · rw [e] at hg; cases hg
  refine (show Calls _ _ #[x.qr.v, .slice A4 [(⟨some ⟨g8, 0, none⟩, [R18.v2], 1⟩ : Rw)].length c4] _ _ from answer_any W5 x.qr A4 c4 _ (lv_qrIn (HP.out.below HW5.out.1)) hro HW5.out.2.1.cap HW5.out.2.1.capMax (fun e => absurd e hne)).mono ?_
  rintro e W6 ⟨A6, c6, R, rfl, hrl, hR, hB6⟩
  have HE : Hid (RetAnsL wa (.returned (.tuple #[.slice A6 R.length c6, .int .i64 0])) W6) := by
    have hR2 : R.map Rw.l = [[R18.v2]] := hR.trans (ans_l g8)
    obtain ⟨r, rfl⟩ : ∃ r, R = [r] := by
      cases R with
      | nil => cases hR2
      | cons r l => cases l with
        | nil => exact ⟨r, rfl⟩
        | cons s l => simp at hR2
    have hrv : r.l = [R18.v2] := by simpa using hR2
    obtain ⟨b, o, rfl, -, hc⟩ := rw_at hrl.own.row (j := 0) (by simp)
    have hrr := hrl.rows r (by simp)
    rw [hrv] at hrr
    obtain ⟨b2, o2, hra, -, hc2⟩ := hrr.at_ (j := 0) (by simp)
    refine ⟨b, o, c6, b2, o2, r.c, rfl, ?_, ?_, HW5.out.1.then hB6⟩
    · have h := hc
      simp only [List.getElem_cons_zero, Nat.add_zero] at h
      rw [h]
      unfold Rw.v
      rw [hra, hrv]
      rfl
    · have h := hc2 1 (.int .i64 2) rfl
      simpa using h
  clear hrl hR hB6 hro hne HW5 hq5 r0
  go_wp2_with fail
  go_ret2
  exact HE.out
end Go.Proofs.YtpahkaffknnjhaaGreatDoor
end

section
namespace Go.Proofs.YtpahkaffknnjhaaGreatDoor
set_option linter.unusedSimpArgs false
set_option linter.unusedVariables false
open Go.RowKit
theorem keys_12 (d : Df) (h : d.cols = [0]) (ht : d.t = 0) : Run.keysD [[[R18.v1], [R18.v2]]] d = [R18.k1, R18.k2] := by
  unfold Run.keysD
  rw [h, ht]
  decide +kernel
theorem strict_12 : Run.Strict [R18.k1, R18.k2] := by
  refine List.pairwise_cons.2 ⟨fun y hy => ?_, List.pairwise_cons.2 ⟨(fun y hy => by cases hy), List.Pairwise.nil⟩⟩
  rw [List.mem_singleton.1 hy]
  decide +kernel
theorem right_12 : decide (Run.keysAt [[R18.k1, R18.k2]] 0 = Run.keys [0] (Run.rowsAt [[[R18.v1], [R18.v2]]] 0)) = true := by decide +kernel
set_option maxRecDepth 100000 in
set_option maxHeartbeats 8000000 in
theorem rlives_any (w : World) : Calls Tryz.prog 6 #[] w fun e w' => e = .returned (.bool true) ∧ Below w.heap.size w w' := by
  go_enter Tryz.func6, Tryz.ntmps6
  go_upto_region 2 with (first | (refine wpList_alloc_nd rfl rfl ?_; intro W1 hb1 hz1 hB1) | (refine wpList_store_nd rfl rfl (.tmp 1) (.tmp 6) rfl w.heap.size rfl R18.na rfl hb1 ?_; intro W2 hb2 hg2))
  have HB2 := Lib.hid (below_of_grown hB1 hg2 (Nat.le_refl _) hB1.size)
  clear hb1 hz1 hB1 hg2
  have hgs : w.heap.size ≤ W2.heap.size := HB2.out.size
  generalize w.heap.size = g1 at hb2 ⊢
  have hb2' : Blk W2 g1 66 [.int .i64 2, .string ⟨#[]⟩, .int .i64 0, .int .i64 0, .float .f64 0, .string ⟨#[]⟩, .int .i64 0, .bool false, .int .i64 1, .slice none 0 0] := hb2
  obtain ⟨c0, c1, c2, c3, c4, c5, c6, c7, c8, c9, clt⟩ := Blk.c10 hb2'
  go_upto_region 3 with (first
    | (generalize hWb : (((World.alloc W2 (.cells _ _)).alloc (.cells _ _)).alloc (.cells _ _)) = W4; obtain ⟨ba4, bb4, bc4, hz4, hB4⟩ := fresh3 hWb; clear hWb; obtain ⟨d0, d1, d2, d3, d4, d5, d6, d7, d8, d9, dlt⟩ := Blk.c10 (hb2'.below hB4); clear c0 c1 c2 c3 c4 c5 c6 c7 c8 c9 clt)
    | (generalize hWc : ((World.alloc W4 (.cells _ _)).alloc (.cells _ _)) = W5; obtain ⟨ba5, bb5, hz5, hB5⟩ := fresh2 hWc; clear hWc; refine wpList_alloc_qp rfl rfl ?_; intro W6 hb6 hz6 hB6)
    | (refine wpList_store_qp rfl rfl (.tmp 2) (.tmp 17) rfl _ rfl (R18.qp W4.heap.size 0 W2.heap.size (W2.heap.size + 1) (W4.heap.size + 1) (W2.heap.size + 2)) rfl hb6 ?_; intro W7 hb7 hg7))
  have z2 : W2.heap.size + 3 ≤ W4.heap.size := hz4
  have HT7 : Hid (Blk W7 W2.heap.size 3 [.int .i64 0] ∧ Blk W7 (W2.heap.size + 1) 3 [.int .i64 0] ∧ Blk W7 (W2.heap.size + 2) 66 R18.na.cells ∧ Blk W7 W4.heap.size 66 (R18.na.cells ++ R18.nb.cells) ∧ Blk W7 (W4.heap.size + 1) 66 (R18.nn W4.heap.size).cells) := by
    refine ⟨((ba4.below hB5).below hB6).grown hg7 ?_, ((bb4.below hB5).below hB6).grown hg7 ?_, ((bc4.below hB5).below hB6).grown hg7 ?_, (ba5.below hB6).grown hg7 ?_, (bb5.below hB6).grown hg7 ?_⟩ <;> (simp only [ne_eq, Option.some.injEq]; omega)
  have HB7 : Hid (Below w.heap.size w W7) := below_of_grown (((HB2.out.then hB4).then hB5).then hB6) hg7 (by omega) (by omega)
  have HQ7 := Lib.hid hb7
  clear d0 d1 d2 d3 d4 d5 d6 d7 d8 d9 dlt ba4 bb4 bc4 hz4 hB4 ba5 bb5 hz5 hB5 hb6 hz6 hB6 hg7 hb7 hb2 hb2' HB2 hgs z2
  obtain ⟨gt, hgt⟩ : ∃ g, W2.heap.size = g := ⟨_, rfl⟩
  obtain ⟨gn, hgn⟩ : ∃ g, W4.heap.size = g := ⟨_, rfl⟩
  obtain ⟨gq, hgq⟩ : ∃ g, W5.heap.size = g := ⟨_, rfl⟩
  rw [hgt, hgn] at HT7
  rw [hgt, hgn, hgq] at HQ7
  rw [hgt, hgn, hgq]
  clear hgt hgn hgq
  go_wp2_with fail
  generalize hA : (((World.alloc W7 (.cells _ _)).alloc (.cells _ _)).alloc (.cells _ _)) = W8
  have hs8 : W8.heap.size = W7.heap.size + 3 := by
    rw [← hA]
    show (((W7.heap.push _).push _).push _).size = _
    rw [Array.size_push, Array.size_push, Array.size_push]
  obtain ⟨ba8, bb8, bc8, hz8, hB8⟩ := fresh3 hA
  clear hA
  generalize hA : (((World.alloc W8 (.cells _ _)).alloc (.cells _ _)).alloc (.cells _ _)) = W9
  obtain ⟨ba9, bb9, bc9, hz9, hB9⟩ := fresh3 hA
  clear hA
  rw [hs8] at ba9 bb9 bc9
  have hgd : R18.na.v = R18.na.v := rfl
  have HN : Hid (Calls Tryz.prog 8 #[.slice (some ⟨W7.heap.size + 3, 0, none⟩) 1 1, .slice (some ⟨W7.heap.size + 5, 0, none⟩) 1 1] W9 (RetMem W9 [[[R18.v1], [R18.v2]]] [[R18.k1, R18.k2]])) := by
    have hT : TbIn W9 (some ⟨W7.heap.size + 3, 0, none⟩) [⟨some ⟨W7.heap.size + 2, 0, none⟩, [⟨some ⟨W7.heap.size, 0, none⟩, [R18.v1], 1⟩, ⟨some ⟨W7.heap.size + 1, 0, none⟩, [R18.v2], 1⟩], 2⟩] := by
      refine ⟨ba9.row eT3 _ rfl (by simp [maxLen]), ?_, by simp, ?_, ?_, ?_⟩
      · intro g hg
        rw [List.mem_singleton.1 hg]
        refine ⟨(bc8.below hB9).row eRw [⟨some ⟨W7.heap.size, 0, none⟩, [R18.v1], 1⟩, ⟨some ⟨W7.heap.size + 1, 0, none⟩, [R18.v2], 1⟩] rfl (by simp [maxLen]), ?_, by simp⟩
        intro r hr
        rcases List.mem_cons.1 hr with rfl | hr
        · exact ⟨(ba8.below hB9).row eVa [R18.v1] rfl (by simp [maxLen]), (by intro u hu; rw [List.mem_singleton.1 hu]; exact v1_ok), by simp⟩
        · rw [List.mem_singleton.1 hr]
          exact ⟨(bb8.below hB9).row eVa [R18.v2] rfl (by simp [maxLen]), (by intro u hu; rw [List.mem_singleton.1 hu]; exact v2_ok), by simp⟩
      · intro g hg; rw [List.mem_singleton.1 hg]; simp
      · intro g hg r hr
        rw [List.mem_singleton.1 hg] at hr
        rcases List.mem_cons.1 hr with rfl | hr
        · simp
        · rw [List.mem_singleton.1 hr]; simp
      · intro g hg r hr v hv
        rw [List.mem_singleton.1 hg] at hr
        rcases List.mem_cons.1 hr with rfl | hr
        · rw [List.mem_singleton.1 hv]; exact Nat.zero_le _
        · rw [List.mem_singleton.1 hr] at hv
          rw [List.mem_singleton.1 hv]; exact Nat.zero_le _
    have hD : DfsIn W9 (some ⟨W7.heap.size + 5, 0, none⟩) [⟨0, some ⟨W7.heap.size + 4, 0, none⟩, [0], 1, false⟩] := by
      refine ⟨bc9.row eDf _ rfl (by simp [maxLen]), ?_, ?_, ?_, ?_, ?_⟩
      all_goals try (intro d hd; rw [List.mem_singleton.1 hd])
      · exact bb9.row eInt [0] rfl (by simp [maxLen])
      · show 1 ≤ 1000; decide
      · exact in0
      · exact ⟨Nat.le_refl 1, by show 1 ≤ maxLen; decide⟩
      · show 1 ≤ 1000; decide
    have h := newmem_any W9 _ 1 _ hT _ 1 _ hD (by simp) (by intro d hd; rw [List.mem_singleton.1 hd]; show 1 ≤ 90; decide)
    have hk : ([⟨0, some ⟨W7.heap.size + 4, 0, none⟩, [0], 1, false⟩] : List Df).map (Run.keysD [[[R18.v1], [R18.v2]]]) = [[R18.k1, R18.k2]] := by
      show [Run.keysD _ _] = _
      rw [keys_12 _ rfl rfl]
    rw [← hk]
    exact h
  have HT9 : Hid (Blk W9 gt 3 [.int .i64 0] ∧ Blk W9 (gt + 1) 3 [.int .i64 0] ∧ Blk W9 (gt + 2) 66 R18.na.cells ∧ Blk W9 gn 66 (R18.na.cells ++ R18.nb.cells) ∧ Blk W9 (gn + 1) 66 (R18.nn gn).cells ∧ Blk W9 gq 26 (R18.qp gn 0 gt (gt + 1) (gn + 1) (gt + 2)).cells ∧ Below w.heap.size w W9) := by
    have hB := hB8.then hB9
    obtain ⟨h1, h2, h3, h4, h5⟩ := HT7.out
    exact ⟨h1.below hB, h2.below hB, h3.below hB, h4.below hB, h5.below hB, HQ7.out.below hB, HB7.out.then hB⟩
  clear ba8 bb8 bc8 hz8 hB8 ba9 bb9 bc9 hz9 hB9 hs8 HT7 HQ7 HB7 hgd
  refine HN.out.mono ?_
  clear HN
  rintro e W10 ⟨gm, G', K, rfl, hm, hgr, hkr, hB10⟩
  have HT10 : Hid (Blk W10 gt 3 [.int .i64 0] ∧ Blk W10 (gt + 1) 3 [.int .i64 0] ∧ Blk W10 (gt + 2) 66 R18.na.cells ∧ Blk W10 gn 66 (R18.na.cells ++ R18.nb.cells) ∧ Blk W10 (gn + 1) 66 (R18.nn gn).cells ∧ Below w.heap.size w W10 ∧ MemAt W10 gm G' K ∧ G'.map Run.rowsG = [[[R18.v1], [R18.v2]]] ∧ K.map Run.keysG = [[R18.k1, R18.k2]]) := by
    obtain ⟨h1, h2, h3, h4, h5, h6, h7⟩ := HT9.out
    exact ⟨h1.below hB10, h2.below hB10, h3.below hB10, h4.below hB10, h5.below hB10, h7.then hB10, hm, hgr, hkr⟩
  have hq10 := HT9.out.2.2.2.2.2.1.below hB10
  clear hm hgr hkr hB10 HT9
  go_wp2_with (refine wpList_load_qp0 rfl (.tmp 2) rfl gq rfl hq10 ?_)
  generalize hA : ((World.alloc W10 (.cells _ _)).alloc (.cells _ _)) = W11
  obtain ⟨ba11, bb11, hz11, hB11⟩ := fresh2 hA
  clear hA
  have HPR : Hid (LvPre W11 ⟨0, gn, W10.heap.size, gt, gt + 1, gn + 1, gt + 2, gm, W10.heap.size + 1, G', K⟩) := by
    obtain ⟨h1, h2, h3, h4, h5, h6, h7, h8, h9⟩ := HT10.out
    exact ⟨h1.below hB11, h2.below hB11, h4.below hB11, h5.below hB11, h3.below hB11, bb11, ba11, h7.below hB11, h8, h9⟩
  have HB11 := Lib.hid (HT10.out.2.2.2.2.2.1.then hB11)
  have hAN := ransw_any W11 _ HPR.out
  refine (show Calls _ _ #[(R18.qp gn 0 gt (gt + 1) (gn + 1) (gt + 2)).v, .slice (some ⟨W10.heap.size + 1, 0, none⟩) 1 1, R18.pm.v, .iface 35 (.pointer (some ⟨gm, 0, none⟩))] _ _ from hAN).mono ?_
  clear hAN
  rintro e W12 ⟨b, o, c, b2, o2, c2, rfl, hc1, hc2, hB12⟩
  have HM12 : Hid (MemAt W12 gm G' K ∧ Below w.heap.size w W12) := ⟨HPR.out.m.below hB12, HB11.out.then hB12⟩
  have HGK : Hid (G'.map Run.rowsG = [[[R18.v1], [R18.v2]]] ∧ K.map Run.keysG = [[R18.k1, R18.k2]]) := ⟨HPR.out.g, HPR.out.k⟩
  clear hB12 hB11 ba11 bb11 hz11 HT10 hq10 HPR HB11
  have HRT : Hid (Calls Tryz.prog 16 #[.int .i64 0, .int .i64 0, .slice (some ⟨W12.heap.size, 0, none⟩) 1 1, .iface 35 (.pointer (some ⟨gm, 0, none⟩))] (W12.alloc (.cells #[.int .i64 0] 3)) (RetBn (W12.alloc (.cells #[.int .i64 0] 3)) true)) := by
    have hbA : Below W12.heap.size W12 (W12.alloc (.cells #[.int .i64 0] 3)) := (Below.refl _ _).alloc (Nat.le_refl _) _
    have hrow : ERow eInt (W12.alloc (.cells #[.int .i64 0] 3)) (some ⟨W12.heap.size, 0, none⟩) [0] := (Blk.new W12 #[.int .i64 0] 3).row eInt [0] rfl (by simp [maxLen])
    have hst : ∀ k ∈ K, Run.Strict (Run.keysG k) := by
      intro k hk
      have hmm : Run.keysG k ∈ K.map Run.keysG := List.mem_map.2 ⟨k, hk, rfl⟩
      rw [HGK.out.2, List.mem_singleton] at hmm
      rw [hmm]
      exact strict_12
    have h := right_any (W12.alloc (.cells #[.int .i64 0] 3)) gm G' K (HM12.out.1.below hbA) hst 0 0 _ 1 [0] hrow in0 (by simp)
    rw [HGK.out.1, HGK.out.2, right_12] at h
    exact h
  go_wp2_with fail
  refine HRT.out.mono ?_
  rintro e W13 ⟨rfl, hB13⟩
  have HB13 : Hid (Below w.heap.size w W13) := (HM12.out.2.then ((Below.refl _ _).alloc (Nat.le_refl _) _)).then hB13
  clear hB13 HRT HM12 HGK hc1 hc2
  go_wp2_with fail
  go_ret
  exact ⟨rfl, HB13.out⟩
end Go.Proofs.YtpahkaffknnjhaaGreatDoor
end

section
namespace Go.Proofs.YtpahkaffknnjhaaGreatDoor
set_option linter.unusedSimpArgs false
set_option linter.unusedVariables false
open Go.RowKit
def RetSm (w : World) (P : Prop) (e : Ending) (w' : World) : Prop := ∃ b : Bool, e = .returned (.bool b) ∧ (b = true → P) ∧ Below w.heap.size w w'
def SmallR (r : Rw) : Prop := r.l.length ≤ 12 ∧ ∀ v ∈ r.l, v.s.length ≤ 50
def SmallRs (L : List Rw) (most : Int) : Prop := (L.length : Int) ≤ most ∧ ∀ r ∈ L, SmallR r
set_option maxRecDepth 20000 in
set_option maxHeartbeats 4000000 in
theorem rows18_any (w : World) (A : Option Addr) (c : Nat) (L : List Rw) (hr : ERow eRw w A L) (hi : ∀ r ∈ L, RowIn w r) (hl : L.length ≤ 9223372036854775807) (most : Int) :
    Calls Tryz.prog 17 #[.slice A L.length c, .int .i64 most] w (RetSm w (SmallRs L most)) := by
  have HR := Lib.hid hr
  have HIN := Lib.hid hi
  clear hr hi
  go_enter Tryz.func17, Tryz.ntmps17
  by_cases hm : most < (L.length : Int)
  · go_wp2_with fail
    go_ret
    exact ⟨false, rfl, by simp, (Below.refl _ _)⟩
  have HM : Hid ((L.length : Int) ≤ most) := by show _ ≤ _; omega
  go_wp2_with fail
  clear hm
  go_loopw [15] (fun iv wr => ∃ k : Nat, k ≤ L.length ∧ iv = .int .i64 (k : Int) ∧ Hid ((∀ r ∈ L.take k, SmallR r) ∧ Below w.heap.size w wr)) (fun iv _ => L.length - (intOf iv).toNat)
  case atStart => exact ⟨0, Nat.zero_le _, by go_num, by simp, Below.refl _ _⟩
  case round =>
    obtain ⟨k, hk, rfl, HJ⟩ := hrel
    by_cases hlt : k < L.length
    · have hii : (k : Int) < (L.length : Int) := by omega
      obtain ⟨b, o, rfl, -, hcell⟩ := rw_at (HR.out.below HJ.out.2) hlt
      have HTK : Hid (L.take (k + 1) = L.take k ++ [L[k]]) := List.take_succ_eq_append_getElem hlt
      have HRI := Lib.hid (HIN.out _ (List.getElem_mem hlt))
      generalize L[k] = r at hcell HTK HRI
      have hrl : r.l.length ≤ 9223372036854775807 := by have := HRI.out.len; have := HRI.out.cap; unfold maxLen at this; omega
      unfold Rw.v at hcell
      by_cases h12 : 12 < r.l.length
      · have h12i : (12 : Int) < (r.l.length : Int) := by omega
        go_wp2_with fail
        go_ret
        exact ⟨false, rfl, by simp, HJ.out.2⟩
      have h12i : ¬ (12 : Int) < (r.l.length : Int) := by omega
      have H12 : Hid (r.l.length ≤ 12) := by show _ ≤ _; omega
      go_upto_region 9 with fail
      go_loopw [24] (fun jv wq => ∃ j : Nat, j ≤ r.l.length ∧ jv = .int .i64 (j : Int) ∧ Hid ((∀ v ∈ r.l.take j, v.s.length ≤ 50) ∧ Below w.heap.size w wq)) (fun jv _ => r.l.length - (intOf jv).toNat)
      case atStart => exact ⟨0, Nat.zero_le _, by go_num, by simp, HJ.out.2⟩
      case round =>
        obtain ⟨j, hj, rfl, HK⟩ := hrel
        by_cases hjt : j < r.l.length
        · have hji : (j : Int) < (r.l.length : Int) := by omega
          obtain ⟨b2, o2, ha, -, -⟩ := HRI.out.row.at_ hjt
          have HRW : Hid (ERow eVa wr (some ⟨b2, o2, none⟩) r.l) := by show ERow _ _ _ _; rw [← ha]; exact HRI.out.row.below HK.out.2
          have HTJ : Hid (r.l.take (j + 1) = r.l.take j ++ [r.l[j]]) := List.take_succ_eq_append_getElem hjt
          have hmx : r.l[j].s.length ≤ 9223372036854775807 := (HRI.out.ok _ (List.getElem_mem hjt)).len
          have hsz := slen_size r.l[j].s
          rw [ha]
          clear ha
          go_upto_region 11 with (first | (refine wpList_load_va_at rfl (.tmp 26) rfl HRW.out hjt rfl ?_) | (refine wpList_alloc_va rfl rfl ?_; intro W2 hb2 hz2 hB2) | (refine wpList_store_va rfl rfl (.tmp 8) (.tmp 27) rfl wr.heap.size rfl r.l[j] rfl hb2 ?_; intro W3 hb3 hg3))
          have HB3 : Hid (Below w.heap.size w W3) := HK.out.2.trans ((below_of_grown hB2 hg3 (Nat.le_refl _) (by omega)).mono HK.out.2.size)
          obtain ⟨-, -, -, c3, -⟩ := Blk.c4 hb3
          have c3' : W3.cell? ⟨wr.heap.size, 3, none⟩ = some (.string ⟨r.l[j].s.toArray⟩) := c3
          clear c3 hb3 hb2 hB2 hg3 hz2
          by_cases h6 : 50 < r.l[j].s.length
          · have h6i : (50 : Int) < (r.l[j].s.length : Int) := by omega
            go_wp2_with fail
            go_ret
            exact ⟨false, rfl, by simp, HB3.out⟩
          · have h6i : ¬ (50 : Int) < (r.l[j].s.length : Int) := by omega
            have H6 : Hid (r.l[j].s.length ≤ 50) := by show _ ≤ _; omega
            clear h6
            go_wp2_with fail
            go_roundw
            case rel =>
              refine ⟨j + 1, by omega, by go_num, ?_, HB3.out⟩
              intro v hv
              rw [HTJ.out] at hv
              rcases List.mem_append.1 hv with hv | hv
              · exact HK.out.1 v hv
              · obtain rfl := List.mem_singleton.1 hv; exact H6.out
            case measure => simp [intOf]; omega
        · obtain rfl : j = r.l.length := by omega
          have HS : Hid (SmallR r) := by
            have := HK.out.1
            rw [List.take_length] at this
            exact ⟨H12.out, this⟩
          go_wp2_with fail
          go_roundw
          case rel =>
            refine ⟨k + 1, by omega, by go_num, ?_, HK.out.2⟩
            intro x hx
            rw [HTK.out] at hx
            rcases List.mem_append.1 hx with hx | hx
            · exact HJ.out.1 x hx
            · obtain rfl := List.mem_singleton.1 hx; exact HS.out
          case measure => simp [intOf]; omega
    · obtain rfl : k = L.length := by omega
      have HS : Hid (SmallRs L most) := by
        have := HJ.out.1
        rw [List.take_length] at this
        exact ⟨HM.out, this⟩
      go_wp2_with fail
      go_ret
      exact ⟨true, rfl, fun _ => HS.out, HJ.out.2⟩
end Go.Proofs.YtpahkaffknnjhaaGreatDoor
end

section
namespace Go.Proofs.YtpahkaffknnjhaaGreatDoor
set_option linter.unusedSimpArgs false
set_option linter.unusedVariables false
open Go.RowKit Go.Deep Go.WideShapes Go.ChangeShapes
structure Cse where
  p : Qp
  ta : Option Addr
  G : List Gr
  tc : Nat
  da : Option Addr
  D : List Df
  dc : Nat
def Cse.cells (x : Cse) : List Value := x.p.cells ++ [.slice x.ta x.G.length x.tc, .slice x.da x.D.length x.dc]
def Cse.v (x : Cse) : Value := .agg x.cells.toArray
def GrRaw (w : World) (g : Gr) : Prop := ERow eRw w g.a g.l ∧ (∀ r ∈ g.l, RowIn w r) ∧ g.l.length ≤ g.c ∧ g.c ≤ maxLen
structure CseRaw (w : World) (x : Cse) : Prop where
  q : QpRaw w x.p
  i : ERow eNd w x.p.ia x.p.items
  iin : ∀ n ∈ x.p.items, NodeIn w n
  il : x.p.items.length ≤ x.p.ic ∧ x.p.ic ≤ maxLen
  gl : x.p.group.length ≤ x.p.gc ∧ x.p.gc ≤ maxLen
  t : ERow eT3 w x.ta x.G
  tin : ∀ g ∈ x.G, GrRaw w g
  tl : x.G.length ≤ x.tc ∧ x.tc ≤ maxLen
  d : ERow eDf w x.da x.D
  din : ∀ d ∈ x.D, DfRaw w d
  dl : x.D.length ≤ x.dc ∧ x.dc ≤ maxLen
theorem rowIn_below {w W : World} {r : Rw} (h : RowIn w r) (hB : Below w.heap.size w W) : RowIn W r := ⟨h.row.below hB, h.ok, h.len, h.cap⟩
theorem GrRaw.below {w W : World} {g : Gr} (h : GrRaw w g) (hB : Below w.heap.size w W) : GrRaw W g := ⟨h.1.below hB, fun r hr => rowIn_below (h.2.1 r hr) hB, h.2.2⟩
theorem CseRaw.below {w W : World} {x : Cse} (h : CseRaw w x) (hB : Below w.heap.size w W) : CseRaw W x :=
  ⟨h.q.below hB, h.i.below hB, fun n hn => nd_below15 (h.iin n hn) hB, h.il, h.gl, h.t.below hB, fun g hg => (h.tin g hg).below hB, h.tl, h.d.below hB, fun d hd => (h.din d hd).below hB, h.dl⟩
def CseW (w : World) (v : Value) : Prop := ∃ x : Cse, v = x.v ∧ CseRaw w x
section
variable {H : Type} {enc : TypeId × Value → H} {w : World} {base : Nat} {spare : Nat → Bool} {held : Bool} {fuel : Nat} {cs : List Value} {x : DataW H × List MemPlace}
set_option maxRecDepth 20000 in
theorem open_qp18 (h : DataW.trod enc Tryz.prog w base spare held fuel 26 cs = some x) (hlen : cs.length = 9) : ∃ p : Qp, cs = p.cells ∧ QpRaw w p ∧ (ERow eNd w p.ia p.items ∧ (∀ n ∈ p.items, NodeIn w n) ∧ p.items.length ≤ p.ic ∧ p.ic ≤ maxLen) ∧ p.group.length ≤ p.gc ∧ p.gc ≤ maxLen := by
  obtain ⟨xs, k, hk, rfl, _, hxl, hfs⟩ := DataW.trod_struct Tryz.underlying26 h
  match xs, hxl, cs, hlen with
  | [y0, y1, y2, y3, y4, y5, y6, y7, y8], _, [v0, v1, v2, v3, v4, v5, v6, v7, v8], _ =>
    have g0 := hfs 0 _ rfl
    have g1 := hfs 1 _ rfl
    have g2 := hfs 2 _ rfl
    have g3 := hfs 3 _ rfl
    have g4 := hfs 4 _ rfl
    have g5 := hfs 5 _ rfl
    have g6 := hfs 6 _ rfl
    have g7 := hfs 7 _ rfl
    have g8 := hfs 8 _ rfl
    have q0 : Tryz.prog.cellsOf 3 = 1 := by kernel_rfl
    have q1 : Tryz.prog.cellsOf 22 = 1 := by kernel_rfl
    have q2 : Tryz.prog.cellsOf 24 = 1 := by kernel_rfl
    have q3 : Tryz.prog.cellsOf 4 = 1 := by kernel_rfl
    have q4 : Tryz.prog.cellsOf 23 = 1 := by kernel_rfl
    simp [q0, q1, q2, q3, q4] at g0 g1 g2 g3 g4 g5 g6 g7 g8
    obtain ⟨ta, tr, tc, e0, r0, i0, l0, m0⟩ := open_intlist g0
    obtain ⟨ba, br, bc, e1, r1, i1, l1, m1⟩ := open_intlist g1
    obtain ⟨n2, e2, b2⟩ := open_i64 Tryz.underlying3 g2
    obtain ⟨wa, wh, wc, e3, r3, i3, l3, m3⟩ := open_nodes g3
    obtain ⟨ga, gr, gc, e4, r4, i4, l4, m4⟩ := open_intlist g4
    obtain ⟨n5, e5, _⟩ := DataW.trod_bool Tryz.underlying4 g5
    obtain ⟨ia, it, ic, e6, r6, i6, l6, m6⟩ := open_nodes g6
    obtain ⟨oa, od, oc, e7, r7, i7, l7, m7⟩ := open_sorts g7
    obtain ⟨n8, e8, b8⟩ := open_i64 Tryz.underlying3 g8
    have e0' : v0 = .slice ta tr.length tc := by simpa using e0
    have e1' : v1 = .slice ba br.length bc := by simpa using e1
    have e2' : v2 = .int .i64 n2 := by simpa using e2
    have e3' : v3 = .slice wa wh.length wc := by simpa using e3
    have e4' : v4 = .slice ga gr.length gc := by simpa using e4
    have e5' : v5 = .bool n5 := by simpa using e5
    have e6' : v6 = .slice ia it.length ic := by simpa using e6
    have e7' : v7 = .slice oa od.length oc := by simpa using e7
    have e8' : v8 = .int .i64 n8 := by simpa using e8
    subst e0' e1' e2' e3' e4' e5' e6' e7' e8'
    exact ⟨⟨⟨tr, br, n2, wh, n5, od, [], [], []⟩, ta, tc, ba, bc, wa, wc, ga, gr, gc, ia, it, ic, oa, oc, n8⟩, rfl, ⟨r0, i0, l0, m0, r1, i1, l1, m1, b2, r3, i3, l3, m3, r7, i7, l7, m7⟩, ⟨r6, i6, l6, m6⟩, l4, m4⟩
theorem open_tables (h : DataW.trod enc Tryz.prog w base spare held fuel 27 cs = some x) : ∃ A L c, cs = [.slice A (List.length L) c] ∧ ERow eT3 w A L ∧ (∀ g ∈ L, GrRaw w g) ∧ L.length ≤ c ∧ c ≤ maxLen :=
  open_elems eT3 (by kernel_rfl) (GrRaw w) (fun fuel cs x h _ => by
    obtain ⟨A, L, c, rfl, h2, h3, h4, h5⟩ := open_rows h
    exact ⟨⟨A, L, c⟩, rfl, h2, h3, h4, h5⟩) h
theorem open_defs18 (h : DataW.trod enc Tryz.prog w base spare held fuel 28 cs = some x) : ∃ A L c, cs = [.slice A (List.length L) c] ∧ ERow eDf w A L ∧ (∀ d ∈ L, DfRaw w d) ∧ L.length ≤ c ∧ c ≤ maxLen :=
  open_elems eDf (by kernel_rfl) (DfRaw w) (fun fuel cs x h hlen => open_df h hlen) h
set_option maxRecDepth 20000 in
theorem open_case (h : DataW.trod enc Tryz.prog w base spare held fuel 30 cs = some x) (hlen : cs.length = 11) : ∃ c : Cse, cs = c.cells ∧ CseRaw w c := by
  obtain ⟨xs, k, hk, rfl, _, hxl, hfs⟩ := DataW.trod_struct Tryz.underlying30 h
  match xs, hxl, cs, hlen with
  | [y0, y1, y2], _, [v0, v1, v2, v3, v4, v5, v6, v7, v8, v9, v10], _ =>
    have g0 := hfs 0 _ rfl
    have g1 := hfs 1 _ rfl
    have g2 := hfs 2 _ rfl
    have q0 : Tryz.prog.cellsOf 26 = 9 := by kernel_rfl
    have q1 : Tryz.prog.cellsOf 27 = 1 := by kernel_rfl
    have q2 : Tryz.prog.cellsOf 28 = 1 := by kernel_rfl
    simp [q0, q1, q2] at g0 g1 g2
    obtain ⟨p, e0, hq, hi, hg⟩ := open_qp18 g0 rfl
    obtain ⟨ta, G, tc, e1, r1, i1, l1, m1⟩ := open_tables g1
    obtain ⟨da, D, dc, e2, r2, i2, l2, m2⟩ := open_defs18 g2
    have e1' : v9 = .slice ta G.length tc := by simpa using e1
    have e2' : v10 = .slice da D.length dc := by simpa using e2
    subst e1' e2'
    refine ⟨⟨p, ta, G, tc, da, D, dc⟩, ?_, hq, hi.1, hi.2.1, hi.2.2, hg, r1, i1, ⟨l1, m1⟩, r2, i2, l2, m2⟩
    show _ = p.cells ++ _
    rw [← e0]
    rfl
end
set_option maxRecDepth 20000 in
theorem case_in {H : Type} {enc : TypeId × Value → H} {w : World} {base : Nat} {v : Value} {d : DataW H} {p : List MemPlace}
    (hv : Value.okWide Tryz.prog w .any base 30 v) (h : DataW.Trod enc Tryz.prog w 0 (fun _ => true) true 30 v d p) : CseW w v := by
  have hag : ∃ cs : Array Value, v = .agg cs := by
    simp only [Value.okWide, Tryz.underlying30] at hv
    obtain ⟨cs, h1, _⟩ := hv
    exact ⟨cs, h1⟩
  obtain ⟨cs, rfl⟩ := hag
  obtain ⟨fuel, hf⟩ := h
  have h9 : Tryz.prog.cellsOf 30 = 11 := by kernel_rfl
  have hlen : cs.toList.length = 11 := by
    obtain ⟨xs, k, hk, -, hcl, hxl, hfs⟩ := DataW.trod_struct Tryz.underlying30 hf
    rw [h9] at hcl
    simpa [Value.cells] using hcl
  obtain ⟨q, e, hq⟩ := open_case hf hlen
  refine ⟨q, ?_, hq⟩
  show Value.agg cs = .agg q.cells.toArray
  rw [← e]
  rfl
end Go.Proofs.YtpahkaffknnjhaaGreatDoor
end

section
namespace Go.Proofs.YtpahkaffknnjhaaGreatDoor
set_option linter.unusedSimpArgs false
set_option linter.unusedVariables false
open Go.RowKit
def RetNum18 (w : World) (e : Ending) (w' : World) : Prop := ∃ r : Int, e = .returned (.int .i64 r) ∧ Below w.heap.size w w'
def SizesTo18 (w : World) (n : Nd) : Prop := ∀ W, Below w.heap.size w W → ∀ m : Int, Calls Tryz.prog 21 #[n.v, .int .i64 m] W (RetNum18 W)
set_option maxRecDepth 20000 in
set_option maxHeartbeats 4000000 in
theorem size18_any (w : World) (n : Nd) (hn : NodeIn w n) : SizesTo18 w n := by
  induction hn with
  | @mk n hr hin hlit hls hk hat hc hm ih =>
  have HR := Lib.hid hr
  have HI := Lib.hid ih
  have hcm : n.args.length ≤ 9223372036854775807 := by unfold maxLen at hm; omega
  have hmx : n.lit.s.length ≤ 9223372036854775807 := hls
  clear hr hin hlit hls hk hat hc hm ih
  intro W hB m
  have HB := Lib.hid hB
  clear hB
  go_enter Tryz.func21, Tryz.ntmps21
  go_upto_region 1 with (refine wpList_box_nd rfl (.tmp 0) rfl n rfl ?_; intro W1 hb1 hz1 hB1)
  have HB1 := Lib.hid hB1
  obtain ⟨-, -, -, -, -, c5, -, -, -, c9, -⟩ := Blk.c10 hb1
  have c5' : W1.cell? ⟨W.heap.size, 5, none⟩ = some (.string ⟨n.lit.s.toArray⟩) := c5
  have hsz := slen_size n.lit.s
  clear hB1 hb1 hz1 c5
  generalize W.heap.size = g2 at c9 c5' ⊢
  go_wp2_with fail
  clear c9 c5' hsz
  go_loopw [5, 16] (fun v5 iv wr => ∃ (r : Int) (i : Nat), v5 = .int .i64 r ∧ i ≤ n.args.length ∧ iv = .int .i64 (i : Int) ∧ Hid (Below W.heap.size W wr)) (fun _ iv _ => n.args.length - (intOf iv).toNat)
  case atStart => exact ⟨_, 0, rfl, Nat.zero_le _, by go_num, HB1.out⟩
  case round =>
    obtain ⟨r, i, rfl, hi, rfl, HJ⟩ := hrel
    by_cases hlt : i < n.args.length
    · have hii : (i : Int) < (n.args.length : Int) := by omega
      obtain ⟨bb, oo, ha, -, -⟩ := HR.out.at_ hlt
      have HIW : Hid (ERow eNd wr (some ⟨bb, oo, none⟩) n.args) := by show ERow _ _ _ _; rw [← ha]; exact HR.out.below (HB.out.then HJ.out)
      rw [ha]
      clear ha
      go_upto_region 5 with (first | (refine wpList_load_nd_at rfl (.tmp 18) rfl HIW.out hlt rfl ?_) | (refine wpList_alloc_nd rfl rfl ?_; intro W6 hb6 hz6 hB6) | (refine wpList_store_nd rfl rfl (.tmp 7) (.tmp 19) rfl wr.heap.size rfl n.args[i] rfl hb6 ?_; intro W7 hb7 hg7))
      have HB7 := Lib.hid (below_of_grown (HJ.out.then hB6) hg7 HJ.out.size (Nat.le_trans HJ.out.size hB6.size))
      clear hb6 hz6 hB6 hg7 HIW
      generalize wr.heap.size = g7 at hb7 ⊢
      by_cases hrm : m < r
      · go_wp2_with fail
        go_ret
        exact ⟨r, rfl, HB7.out⟩
      · go_wp2_with (refine wpList_load_nd rfl (.tmp 7) rfl g7 rfl hb7 ?_)
        refine (HI.out _ (List.getElem_mem hlt) W7 (HB.out.then HB7.out) _).mono ?_
        rintro e W8 ⟨r2, rfl, hB8⟩
        have HB8 := Lib.hid (HB7.out.then hB8)
        clear hB8 hb7
        go_wp2_with fail
        go_roundw
        case rel => exact ⟨_, i + 1, rfl, by omega, by go_num, HB8.out⟩
        case measure => simp [intOf]; omega
    · have hii : ¬ (i : Int) < (n.args.length : Int) := by omega
      go_wp2_with fail
      go_ret
      exact ⟨r, rfl, HJ.out⟩
structure SmallC (x : Cse) : Prop where
  t : x.G.length ≤ 8
  tr : ∀ g ∈ x.G, SmallRs g.l 60
  d : x.D.length ≤ 12
  dc : ∀ d ∈ x.D, d.cols.length ≤ 6
  wh : x.p.x.wh.length ≤ 10
theorem wpList_box_cse {w : World} {ops : Array Oper} {rest : List Oper} {o : Oper} {a : Act} {Q : Exit → Act → World → Prop} (hgd : o.guard = none) (x : Operand) (hop : o.op = .box 30 x) (b : Cse) (hx : a.eval x = b.v)
    (h : ∀ W, Blk W w.heap.size 30 b.cells → w.heap.size + 1 ≤ W.heap.size → Below w.heap.size w W → wpList Tryz.prog ops Q rest (a.put o.dst (.pointer (some ⟨w.heap.size, 0, none⟩))) W) : wpList Tryz.prog ops Q (o :: rest) a w :=
  wpList_plain hgd fun _ hK => by
    unfold Oper.wp execOp
    have e : (Instr.box 30 b.v).run Tryz.prog w = .ok (.pointer (some ⟨w.heap.size, 0, none⟩)) (w.alloc (.cells b.cells.toArray 30)) := by
      simp [Instr.box, Sem.run_bind, newVar, newRow]
      rfl
    simp only [hop, hx, Sem.run_bind, e, Result.andThen_ok, Sem.run_pure]
    obtain ⟨h1, h2, h3⟩ := fresh1 (w := w) (a := b.cells) (t := 30) rfl
    exact hK _ _ (h _ h1 h2 h3)
theorem Blk.cse {w : World} {g : Nat} {t : TypeId} {x : Cse} (h : Blk w g t x.cells) :
    w.cell? ⟨g, 0, none⟩ = some (.slice x.p.ta x.p.x.T.length x.p.tc) ∧ w.cell? ⟨g, 1, none⟩ = some (.slice x.p.ba x.p.x.B.length x.p.bc) ∧ w.cell? ⟨g, 3, none⟩ = some (.slice x.p.wa x.p.x.wh.length x.p.wc) ∧ w.cell? ⟨g, 4, none⟩ = some (.slice x.p.ga x.p.group.length x.p.gc) ∧
    w.cell? ⟨g, 6, none⟩ = some (.slice x.p.ia x.p.items.length x.p.ic) ∧ w.cell? ⟨g, 7, none⟩ = some (.slice x.p.oa x.p.x.ord.length x.p.oc) ∧ w.cell? ⟨g, 9, none⟩ = some (.slice x.ta x.G.length x.tc) ∧ w.cell? ⟨g, 10, none⟩ = some (.slice x.da x.D.length x.dc) ∧ g < w.heap.size :=
  ⟨h.cell 0, h.cell 1, h.cell 3, h.cell 4, h.cell 6, h.cell 7, h.cell 9, h.cell 10, h.lt⟩
theorem run_nil_nd (w : World) : (Instr.buildSlice 23 0 #[]).run Tryz.prog w = .ok (.slice (some ⟨w.heap.size, 0, none⟩) 0 0) (w.alloc (.cells #[] 66)) := by
  go_simp
theorem wpList_nil_nd {w : World} {ops : Array Oper} {rest : List Oper} {o : Oper} {a : Act} {Q : Exit → Act → World → Prop} (hgd : o.guard = none) (hop : o.op = .buildSlice 23 0 #[])
    (h : ∀ W, EOwn eNd W w.heap.size (some ⟨w.heap.size, 0, none⟩) 0 [] → w.heap.size < W.heap.size → Below w.heap.size w W → wpList Tryz.prog ops Q rest (a.put o.dst (.slice (some ⟨w.heap.size, 0, none⟩) 0 0)) W) : wpList Tryz.prog ops Q (o :: rest) a w := by
  refine wpList_plain hgd fun K' hK' => ?_
  have e := run_nil_nd w
  unfold Oper.wp
  simp [execOp, hop, e, Result.andThen]
  refine hK' _ _ (h _ ?_ (by simp) (Below.alloc1 _ _))
  exact Blk.own eNd (Blk.new w #[] 66) [] rfl (by simp [maxLen]) (Nat.le_refl _)
set_option maxRecDepth 100000 in
set_option maxHeartbeats 8000000 in
theorem small18_any (w : World) (x : Cse) (hx : CseRaw w x) : Calls Tryz.prog 7 #[x.v] w (RetSm w (SmallC x)) := by
  have HX := Lib.hid hx
  have l1 : x.G.length ≤ 9223372036854775807 := by have := hx.tl; unfold maxLen at this; omega
  have l2 : x.D.length ≤ 9223372036854775807 := by have := hx.dl; unfold maxLen at this; omega
  have l3 : x.p.x.T.length ≤ 9223372036854775807 := by have := hx.q.tl; have := hx.q.tm; unfold maxLen at this; omega
  have l4 : x.p.x.B.length ≤ 9223372036854775807 := by have := hx.q.bl; have := hx.q.bm; unfold maxLen at this; omega
  have l5 : x.p.x.wh.length ≤ 9223372036854775807 := by have := hx.q.wl; have := hx.q.wm; unfold maxLen at this; omega
  have l6 : x.p.items.length ≤ 9223372036854775807 := by have := hx.il; unfold maxLen at this; omega
  have l7 : x.p.group.length ≤ 9223372036854775807 := by have := hx.gl; unfold maxLen at this; omega
  have l8 : x.p.x.ord.length ≤ 9223372036854775807 := by have := hx.q.ol; have := hx.q.om; unfold maxLen at this; omega
  clear hx
  go_enter Tryz.func7, Tryz.ntmps7
  go_upto_region 1 with (refine wpList_box_cse rfl (.tmp 0) rfl x rfl ?_; intro W1 hb1 hz1 hB1)
  obtain ⟨g3, hg3⟩ : ∃ g, w.heap.size = g := ⟨_, rfl⟩
  have HB1 := Lib.hid hB1
  rw [hg3] at hb1 ⊢
  have HQ := Lib.hid hb1
  obtain ⟨c0, c1, c3, c4, c6, c7, c9, c10, clt⟩ := Blk.cse hb1
  clear hz1 hB1 hb1 hg3
  by_cases k1 : 8 < x.G.length
  · have i1 : (8 : Int) < (x.G.length : Int) := by omega
    go_wp2_with fail
    go_ret
    exact ⟨false, rfl, by simp, HB1.out⟩
  have i1 : ¬ (8 : Int) < (x.G.length : Int) := by omega
  by_cases k2 : 12 < x.D.length
  · have i2 : (12 : Int) < (x.D.length : Int) := by omega
    go_wp2_with fail
    go_ret
    exact ⟨false, rfl, by simp, HB1.out⟩
  have i2 : ¬ (12 : Int) < (x.D.length : Int) := by omega
  by_cases k3 : 6 < x.p.x.T.length
  · have i3 : (6 : Int) < (x.p.x.T.length : Int) := by omega
    go_wp2_with fail
    go_ret
    exact ⟨false, rfl, by simp, HB1.out⟩
  have i3 : ¬ (6 : Int) < (x.p.x.T.length : Int) := by omega
  by_cases k4 : 6 < x.p.x.B.length
  · have i4 : (6 : Int) < (x.p.x.B.length : Int) := by omega
    go_wp2_with fail
    go_ret
    exact ⟨false, rfl, by simp, HB1.out⟩
  have i4 : ¬ (6 : Int) < (x.p.x.B.length : Int) := by omega
  by_cases k5 : 10 < x.p.x.wh.length
  · have i5 : (10 : Int) < (x.p.x.wh.length : Int) := by omega
    go_wp2_with fail
    go_ret
    exact ⟨false, rfl, by simp, HB1.out⟩
  have i5 : ¬ (10 : Int) < (x.p.x.wh.length : Int) := by omega
  by_cases k6 : 10 < x.p.items.length
  · have i6 : (10 : Int) < (x.p.items.length : Int) := by omega
    go_wp2_with fail
    go_ret
    exact ⟨false, rfl, by simp, HB1.out⟩
  have i6 : ¬ (10 : Int) < (x.p.items.length : Int) := by omega
  by_cases k7 : 6 < x.p.group.length
  · have i7 : (6 : Int) < (x.p.group.length : Int) := by omega
    go_wp2_with fail
    go_ret
    exact ⟨false, rfl, by simp, HB1.out⟩
  have i7 : ¬ (6 : Int) < (x.p.group.length : Int) := by omega
  by_cases k8 : 6 < x.p.x.ord.length
  · have i8 : (6 : Int) < (x.p.x.ord.length : Int) := by omega
    go_wp2_with fail
    go_ret
    exact ⟨false, rfl, by simp, HB1.out⟩
  have i8 : ¬ (6 : Int) < (x.p.x.ord.length : Int) := by omega
  go_upto_region 3 with fail
  go_wp2_with fail
  clear c0 c1 c3 c4 c6 c7 c9 c10 clt
  go_loopw [67] (fun iv wr => ∃ i : Nat, i ≤ x.G.length ∧ iv = .int .i64 (i : Int) ∧ Hid ((∀ g ∈ x.G.take i, SmallRs g.l 60) ∧ Below w.heap.size w wr ∧ Blk wr g3 30 x.cells)) (fun iv _ => x.G.length - (intOf iv).toNat)
  case atStart => exact ⟨0, Nat.zero_le _, by go_num, by simp, HB1.out, HQ.out⟩
  case round =>
    obtain ⟨i, hi, rfl, HJ⟩ := hrel
    by_cases hlt : i < x.G.length
    · have hii : (i : Int) < (x.G.length : Int) := by omega
      obtain ⟨b, o, ha, -, hc⟩ := T3_at (HX.out.t.below HJ.out.2.1) hlt
      have HGI := Lib.hid ((HX.out.tin _ (List.getElem_mem hlt)).below HJ.out.2.1)
      have HTK : Hid (x.G.take (i + 1) = x.G.take i ++ [x.G[i]]) := List.take_succ_eq_append_getElem hlt
      rw [ha]
      clear ha
      generalize x.G[i] = g at hc HGI HTK
      unfold Gr.h at hc
      have HRO := Lib.hid (rows18_any wr g.a g.c g.l HGI.out.1 HGI.out.2.1 (by have := HGI.out.2.2; unfold maxLen at this; omega) 60)
      go_wp2_with fail
      refine HRO.out.mono ?_
      rintro e W8 ⟨bb, rfl, hsm, hB8⟩
      have HB8 : Hid (Below w.heap.size w W8 ∧ Blk W8 g3 30 x.cells) := ⟨HJ.out.2.1.then hB8, HJ.out.2.2.below hB8⟩
      have HSM := Lib.hid hsm
      clear hB8 hsm HRO hc HGI
      cases bb with
      | false =>
        go_wp2_with fail
        go_ret
        exact ⟨false, rfl, by simp, HB8.out.1⟩
      | true =>
        go_wp2_with fail
        go_roundw
        case rel =>
          refine ⟨i + 1, by omega, by go_num, ?_, HB8.out⟩
          intro y hy
          rw [HTK.out] at hy
          rcases List.mem_append.1 hy with hy | hy
          · exact HJ.out.1 y hy
          · rw [List.mem_singleton.1 hy]; exact HSM.out (by simp)
        case measure => simp [intOf]; omega
    · have HST : Hid (∀ g ∈ x.G, SmallRs g.l 60) := by
        have h := HJ.out.1
        rwa [List.take_of_length_le (by omega)] at h
      obtain ⟨-, -, -, -, -, -, c9, c10, clt⟩ := Blk.cse HJ.out.2.2
      have HDB := Lib.hid HJ.out.2
      clear HJ
      go_upto_region 10 with fail
      clear c9 c10 clt
      go_loopw [78] (fun iv wr => ∃ i : Nat, i ≤ x.D.length ∧ iv = .int .i64 (i : Int) ∧ Hid ((∀ d ∈ x.D.take i, d.cols.length ≤ 6) ∧ Below w.heap.size w wr ∧ Blk wr g3 30 x.cells)) (fun iv _ => x.D.length - (intOf iv).toNat)
      case atStart => exact ⟨0, Nat.zero_le _, by go_num, by simp, HDB.out⟩
      case round =>
        obtain ⟨i, hi, rfl, HJ⟩ := hrel
        by_cases hlt : i < x.D.length
        · have hii : (i : Int) < (x.D.length : Int) := by omega
          obtain ⟨bb, oo, ha, -, -⟩ := df_at HX.out.d hlt
          have HIW : Hid (ERow eDf wr (some ⟨bb, oo, none⟩) x.D) := by show ERow _ _ _ _; rw [← ha]; exact HX.out.d.below HJ.out.2.1
          have HDI := Lib.hid (HX.out.din _ (List.getElem_mem hlt))
          have HTK : Hid (x.D.take (i + 1) = x.D.take i ++ [x.D[i]]) := List.take_succ_eq_append_getElem hlt
          rw [ha]
          clear ha
          obtain ⟨d, hd⟩ : ∃ d, x.D[i] = d := ⟨_, rfl⟩
          have HD := Lib.hid hd
          rw [hd] at HDI HTK
          clear hd
          have dl : d.cols.length ≤ 9223372036854775807 := by have := HDI.out.2.2.1; have := HDI.out.2.2.2; unfold maxLen at this; omega
          go_upto_region 12 with (first | (refine wpList_load_df_at rfl (.tmp 80) rfl HIW.out hlt d HD.out rfl ?_) | (refine wpList_alloc_df rfl rfl ?_; intro W6 hb6 hz6 hB6) | (refine wpList_store_df rfl rfl (.tmp 6) (.tmp 81) rfl wr.heap.size rfl d rfl hb6 ?_; intro W7 hb7 hg7))
          have HB7 : Hid (Below w.heap.size w W7 ∧ Blk W7 g3 30 x.cells) := ⟨below_of_grown (HJ.out.2.1.then hB6) hg7 HJ.out.2.1.size (Nat.le_trans HJ.out.2.1.size hB6.size), (HJ.out.2.2.below hB6).grown hg7 (by have := HJ.out.2.2.lt; simp; omega)⟩
          clear hb6 hz6 hB6 hg7 HIW
          generalize wr.heap.size = g7 at hb7 ⊢
          have d1 := hb7.cell 1
          simp only [Df.cells, List.getElem?_cons_zero, List.getElem?_cons_succ] at d1
          by_cases h6 : 6 < d.cols.length
          · have i6 : (6 : Int) < (d.cols.length : Int) := by omega
            go_wp2_with fail
            go_ret
            exact ⟨false, rfl, by simp, (Lib.hid HB7.out.1).out⟩
          · have i6 : ¬ (6 : Int) < (d.cols.length : Int) := by omega
            go_wp2_with fail
            go_roundw
            case rel =>
              refine ⟨i + 1, by omega, by go_num, ?_, HB7.out⟩
              intro y hy
              rw [HTK.out] at hy
              rcases List.mem_append.1 hy with hy | hy
              · exact HJ.out.1 y hy
              · rw [List.mem_singleton.1 hy]; omega
            case measure => simp [intOf]; omega
        · have HSD : Hid (∀ d ∈ x.D, d.cols.length ≤ 6) := by
            have h := HJ.out.1
            rwa [List.take_of_length_le (by omega)] at h
          have HDB := Lib.hid HJ.out.2
          have HWN : Hid (ERow eNd wr.drew x.p.wa x.p.x.wh) := HX.out.q.wn.below (HDB.out.1.then (Below.refl wr.heap.size wr).drewR)
          have HIN : Hid (ERow eNd wr.drew x.p.ia x.p.items) := HX.out.i.below (HDB.out.1.then (Below.refl wr.heap.size wr).drewR)
          obtain ⟨c0, c1, c3, c4, c6, c7, c9, c10, clt⟩ := Blk.cse HJ.out.2.2
          clear HJ
          have hm1 : ([] : List Nd).length + x.p.x.wh.length ≤ 1073741824 := by simp; omega
          have hm2 : (([] : List Nd) ++ x.p.x.wh).length + x.p.items.length ≤ 1073741824 := by simp; omega
          have HL1 := Lib.hid hm1
          have HL2 := Lib.hid hm2
          clear hm1 hm2
          go_upto_region 15 with fail
          have HC6 : Hid (wr.drew.cell? ⟨g3, 6, none⟩ = some (.slice x.p.ia x.p.items.length x.p.ic)) := c6
          refine wp_region_plan (.take 1 (.take 2 (.take 3 (.take 5 (.take 6 (.take 7 (.take 10 (.run 0 [1, 2, 3, 5, 6, 7, 10] (.run 4 [5, 6, 7, 10] (.run 8 [10] (.take 9 .fin))))))))))) (by kernel_rfl) (by kernel_rfl) (by kernel_rfl) (by kernel_rfl) ?_
          repeat' (first | (refine hZ _ _ ?_; clear hZ) | (refine hZ _ ?_; clear hZ) | (refine hZ ?_; clear hZ) | rw [again_nil] | rw [walk_fin] | ((first | rw [walk_take] | rw [walk_run] | rw [again_cons]); intro Z hZ; simp only [sel, List.getElem?_toArray, List.getElem?_cons_zero, List.getElem?_cons_succ]; go_wp2_with (first | (refine wpList_nil_nd rfl rfl ?_; intro Wn hO hlt hbn; have c3 := cell_later hbn c3; have c6 := cell_later hbn c6) | (at_builtin; refine wpList_append_elems eNd rfl (.tmp 87) (.tmp 90) rfl 0 rfl hO rfl _ rfl (HWN.out.below hbn) rfl HL1.out (by omega) ?_; intro A3 c3' w3 ho3 hb3 hg3 _; have hB3 := hbn.trans hb3; have c6 := cell_later hB3 HC6.out) | (at_builtin; refine wpList_append_elems eNd rfl (.tmp 91) (.tmp 94) rfl _ rfl ho3 (by simp) _ rfl (HIN.out.below hB3) rfl HL2.out hB3.size ?_; intro A4 c4' w4 ho4 hb4 hg4 _))))
          have HB9 : Hid (Below w.heap.size w w4 ∧ Blk w4 g3 30 x.cells ∧ ERow eNd w4 A4 (x.p.x.wh ++ x.p.items)) := by
            have hbb : Below wr.drew.heap.size wr.drew w4 := hB3.trans hb4
            exact ⟨(HDB.out.1.then (Below.refl wr.heap.size wr).drewR).then hbb, HDB.out.2.drew.below hbb, ho4.row⟩
          clear c0 c1 c3 c4 c6 c7 c9 c10 clt HC6 HL1 HL2 hO hlt hbn ho3 hb3 hg3 hB3 ho4 hb4 hg4 HDB HWN HIN
          have HNL : Hid (∀ n ∈ x.p.x.wh ++ x.p.items, NodeIn w n) := fun n hn => (List.mem_append.1 hn).elim (HX.out.q.nin n) (HX.out.iin n)
          obtain ⟨L, hL⟩ : ∃ L, x.p.x.wh ++ x.p.items = L := ⟨_, rfl⟩
          have hLL : x.p.x.wh.length + x.p.items.length = L.length := by rw [← hL, List.length_append]
          have lL : L.length ≤ 20 := by omega
          rw [hL] at HB9 HNL
          have hLI : (x.p.x.wh.length : Int) + (x.p.items.length : Int) = (L.length : Int) := by omega
          simp only [List.length_nil, Nat.zero_add, List.nil_append, hLL, hLI]
          clear hL hLL hLI
          go_wp2_with fail
          go_loopw [97] (fun iv wr => ∃ i : Nat, i ≤ L.length ∧ iv = .int .i64 (i : Int) ∧ Hid (Below w.heap.size w wr ∧ Blk wr g3 30 x.cells ∧ ERow eNd wr A4 L)) (fun iv _ => L.length - (intOf iv).toNat)
          case atStart => exact ⟨0, Nat.zero_le _, by go_num, HB9.out⟩
          case round =>
            obtain ⟨i, hi, rfl, HJ⟩ := hrel
            by_cases hlt : i < L.length
            · have hii : (i : Int) < (L.length : Int) := by omega
              obtain ⟨bb, oo, ha, -, -⟩ := HJ.out.2.2.at_ hlt
              have HIW : Hid (ERow eNd wr (some ⟨bb, oo, none⟩) L) := by show ERow _ _ _ _; rw [← ha]; exact HJ.out.2.2
              have HNI := Lib.hid (HNL.out _ (List.getElem_mem hlt))
              have HAR : Hid (∀ W : World, ERow eNd W A4 L → ERow eNd W (some ⟨bb, oo, none⟩) L) := fun W h => by rw [← ha]; exact h
              have HRA : Hid (∀ W : World, ERow eNd W (some ⟨bb, oo, none⟩) L → ERow eNd W A4 L) := fun W h => by rw [ha]; exact h
              rw [ha]
              clear ha
              go_upto_region 18 with (first | (refine wpList_load_nd_at rfl (.tmp 99) rfl HIW.out hlt rfl ?_) | (refine wpList_alloc_nd rfl rfl ?_; intro W6 hb6 hz6 hB6) | (refine wpList_store_nd rfl rfl (.tmp 8) (.tmp 100) rfl wr.heap.size rfl L[i] rfl hb6 ?_; intro W7 hb7 hg7))
              have HBW := Lib.hid (below_of_grown hB6 hg7 (Nat.le_refl _) hB6.size)
              have HB7 : Hid (Below w.heap.size w W7 ∧ Blk W7 g3 30 x.cells ∧ ERow eNd W7 A4 L) := ⟨HJ.out.1.then HBW.out, HJ.out.2.1.below HBW.out, HRA.out _ (HIW.out.below HBW.out)⟩
              clear hb6 hz6 hB6 hg7 HIW HBW
              generalize wr.heap.size = g7 at hb7 ⊢
              generalize L[i] = n at hb7 HNI
              go_wp2_with (refine wpList_load_nd rfl (.tmp 8) rfl g7 rfl hb7 ?_)
              refine (show Calls _ _ #[n.v, .int .i64 150] _ _ from size18_any w n HNI.out W7 HB7.out.1 150).mono ?_
              rintro e W8 ⟨r, rfl, hB8⟩
              have HB8 : Hid (Below w.heap.size w W8 ∧ Blk W8 g3 30 x.cells ∧ ERow eNd W8 A4 L) := ⟨HB7.out.1.then hB8, HB7.out.2.1.below hB8, HB7.out.2.2.below hB8⟩
              clear hB8 hb7 HB7
              by_cases hr : 150 < r
              · go_wp2_with fail
                go_ret
                exact ⟨false, rfl, by simp, (Lib.hid HB8.out.1).out⟩
              · go_wp2_with fail
                go_roundw
                case rel => exact ⟨i + 1, by omega, by go_num, HB8.out.1, HB8.out.2.1, HAR.out _ HB8.out.2.2⟩
                case measure => simp [intOf]; omega
            · have HDB : Hid (Below w.heap.size w wr ∧ Blk wr g3 30 x.cells) := ⟨HJ.out.1, HJ.out.2.1⟩
              clear HB9 HNL
              obtain ⟨c0, c1, c3, c4, c6, c7, c9, c10, clt⟩ := Blk.cse HJ.out.2.1
              clear HJ
              have hii : ¬ (i : Int) < (L.length : Int) := by omega
              go_upto_region 22 with fail
              go_wp2_with fail
              clear c0 c1 c3 c4 c6 c7 c9 c10 clt
              go_loopw [9, 109] (fun v9 iv wr => ∃ (r : Int) (i : Nat), v9 = .int .i64 r ∧ i ≤ x.p.x.T.length ∧ iv = .int .i64 (i : Int) ∧ Hid (Below w.heap.size w wr ∧ Blk wr g3 30 x.cells)) (fun _ iv _ => x.p.x.T.length - (intOf iv).toNat)
              case atStart => exact ⟨_, 0, rfl, Nat.zero_le _, by go_num, HDB.out⟩
              case round =>
                obtain ⟨r, i, rfl, hi, rfl, HJ⟩ := hrel
                have HDONE := Lib.hid (SmallC.mk (by omega) HST.out (by omega) HSD.out (by omega) : SmallC x)
                by_cases hlt : i < x.p.x.T.length
                · have hii : (i : Int) < (x.p.x.T.length : Int) := by omega
                  obtain ⟨bb, oo, ha, hbl, hc⟩ := int_at (HX.out.q.t.below HJ.out.1) hlt
                  rw [ha]
                  clear ha
                  generalize x.p.x.T[i] = t at hc
                  obtain ⟨c0, c1, c3, c4, c6, c7, c9, c10, clt⟩ := Blk.cse HJ.out.2
                  by_cases ht0 : 0 ≤ t
                  · obtain ⟨k, rfl⟩ := Int.eq_ofNat_of_zero_le ht0
                    by_cases htl : k < x.G.length
                    · have ht1 : (k : Int) < (x.G.length : Int) := by omega
                      obtain ⟨b2, o2, ha2, -, hc2⟩ := T3_at (HX.out.t.below HJ.out.1) htl
                      have HGI := Lib.hid (HX.out.tin _ (List.getElem_mem htl))
                      have gl : x.G[k].l.length ≤ 9223372036854775807 := by have := HGI.out.2.2; unfold maxLen at this; omega
                      rw [ha2] at c9
                      generalize x.G[k] = g at hc2 gl HGI
                      unfold Gr.h at hc2
                      go_upto_region 27 with fail
                      generalize wrap64 _ = r2
                      by_cases h3 : 3000 < r2
                      · go_wp2_with fail
                        go_ret
                        exact ⟨false, rfl, by simp, (Lib.hid HJ.out.1).out⟩
                      · go_wp2_with fail
                        go_roundw
                        case rel => exact ⟨_, i + 1, rfl, by omega, by go_num, HJ.out⟩
                        case measure => simp [intOf]; omega
                    · have ht1 : ¬ (k : Int) < (x.G.length : Int) := by omega
                      by_cases h3 : 3000 < r
                      · go_wp2_with fail
                        go_ret
                        exact ⟨false, rfl, by simp, (Lib.hid HJ.out.1).out⟩
                      · go_wp2_with fail
                        go_roundw
                        case rel => exact ⟨_, i + 1, rfl, by omega, by go_num, HJ.out⟩
                        case measure => simp [intOf]; omega
                  · have ht1 : t < 0 := by omega
                    by_cases h3 : 3000 < r
                    · go_wp2_with fail
                      go_ret
                      exact ⟨false, rfl, by simp, (Lib.hid HJ.out.1).out⟩
                    · go_wp2_with fail
                      go_roundw
                      case rel => exact ⟨_, i + 1, rfl, by omega, by go_num, HJ.out⟩
                      case measure => simp [intOf]; omega
                · have hii : ¬ (i : Int) < (x.p.x.T.length : Int) := by omega
                  go_wp2_with fail
                  go_ret
                  exact ⟨true, rfl, fun _ => HDONE.out, HJ.out.1⟩
end Go.Proofs.YtpahkaffknnjhaaGreatDoor
end

section
namespace Go.Proofs.YtpahkaffknnjhaaGreatDoor
set_option linter.unusedSimpArgs false
set_option linter.unusedVariables false
open Go.RowKit Go.Op
def eS18 : Elem (List UInt8) where
  e := 9
  t := 49
  sz := 1
  bytes := 16
  zero := .string ByteArray.empty
  code := fun n => [txt n]
  pos := by decide
  few := by decide
  len := fun _ => rfl
  one := by
    intro x u hu
    simp at hu
    subst hu
    rfl
  zsz := rfl
  info := by kernel_rfl
  under := Tryz.underlying49
theorem s18_at {w : World} {A : Option Addr} {L : List (List UInt8)} (h : ERow eS18 w A L) {i : Nat} (hi : i < L.length) : ∃ b o, A = some ⟨b, o, none⟩ ∧ b < w.heap.size ∧ w.cell? ⟨b, o + i, none⟩ = some (txt L[i]) := by
  obtain ⟨b, o, e, hb, hc⟩ := h.at_ hi
  have := hc 0 _ rfl
  simp only [eS18, Nat.mul_one, Nat.add_zero] at this
  exact ⟨b, o, e, hb, this⟩
def RetKs (w : World) (M : List (List UInt8)) (e : Ending) (w' : World) : Prop := ∃ A c, e = .returned (.slice A M.length c) ∧ ERow eS18 w' A M ∧ Below w.heap.size w w'
namespace Run
theorem keys_take (cols : List Int) (l : List (List Va)) (i : Nat) (hi : i < l.length) : keys cols (l.take (i + 1)) = Srt.mg cmp (keys cols (l.take i)) [key cols l[i] (i + 1 : Nat)] := by
  unfold keys
  rw [keysU_take _ _ _ hi, Srt.ssort_snoc]
theorem keys_sorted (cols : List Int) (l : List (List Va)) : Srt.Sorted cmp (keys cols l) := Srt.ssort_sorted cmp_ord _
end Run
theorem own_kept18 {α : Type} {E : Elem α} {w0 W w' : World} {B c g : Nat} {A : Option Addr} {L : List α} (h0 : EOwn E w0 B A c L) (h : EOwn E W B A c L) (hg : W.grownBy w' (some g)) (hge : w0.heap.size ≤ g) : EOwn E w' B A c L :=
  h.kept hg (by
    cases hA : A with
    | none => exact .inl rfl
    | some a => exact .inr (fun e => by
        have := (h0.block a hA).2
        have e : a.block = g := Option.some.inj e
        omega))
set_option maxRecDepth 100000 in
set_option maxHeartbeats 8000000 in
theorem dkeys_any (w : World) (ca : Option Addr) (cc : Nat) (cols : List Int) (hc : ERow eInt w ca cols) (hcl : cols.length ≤ 1000) (ga : Option Addr) (gc : Nat) (R : List Rw) (hr : ERow eRw w ga R) (hin : ∀ r ∈ R, RowOk w r.a r.l ∧ ∀ v ∈ r.l, v.s.length ≤ 1000) (hl : R.length ≤ 1000) :
    Calls Tryz.prog 13 #[.slice ca cols.length cc, .slice ga R.length gc] w (RetKs w (Run.keys cols (R.map Rw.l))) := by
  have HC := Lib.hid hc
  have HR := Lib.hid hr
  have HI := Lib.hid hin
  have klt := run_str_lt
  clear hc hr hin
  go_enter Tryz.func13, Tryz.ntmps13
  go_wp2_with fail
  go_loopw [5, 6] (fun v5 iv wr => ∃ (i : Nat) (A : Option Addr) (c : Nat) (K : List (List UInt8)), v5 = .slice A K.length c ∧ i ≤ R.length ∧ iv = .int .i64 (i : Int) ∧ K.length = i ∧ Hid (EOwn eS18 wr w.heap.size A c K ∧ K = Run.keys cols ((R.map Rw.l).take i) ∧ Below w.heap.size w wr)) (fun _ iv _ => R.length - (intOf iv).toNat)
  case atStart => exact ⟨0, none, 0, [], rfl, Nat.zero_le _, by go_num, rfl, EOwn.nil _ _, rfl, Below.refl _ _⟩
  case round =>
    obtain ⟨i, A, c, K, rfl, hi, rfl, hKl, HJ⟩ := hrel
    have HKL := Lib.hid hKl
    have hkm : K.length ≤ 1000 := by omega
    have hcap := HJ.out.1.cap
    have hcmx := HJ.out.1.capMax
    clear hKl
    by_cases hlt : i < R.length
    · have hii : (i : Int) < (R.length : Int) := by omega
      obtain ⟨bb, oo, rfl, -, q0⟩ := rw_at (HR.out.below HJ.out.2.2) hlt
      obtain ⟨r, hre⟩ : ∃ r, R[i] = r := ⟨_, rfl⟩
      have HRM : Hid (RowOk w r.a r.l ∧ ∀ v ∈ r.l, v.s.length ≤ 1000) := by rw [← hre]; exact HI.out _ (List.getElem_mem hlt)
      have HRE := Lib.hid hre
      rw [hre] at q0
      clear hre
      unfold Rw.v at q0
      have hnum : (i : Int) + 1 ≤ 9223372036854775807 := by omega
      go_wp2_with fail
      refine (refrkey_any wr ca cc cols (HC.out.below HJ.out.2.2) hcl r.a r.c r.l (HRM.out.1.below HJ.out.2.2) HRM.out.2 ((i : Int) + 1) (by omega) (by omega)).mono ?_
      rintro e W3 ⟨rfl, hB3⟩
      obtain ⟨kk, hkk⟩ : ∃ kk, Run.key cols r.l ((i : Int) + 1) = kk := ⟨_, rfl⟩
      have HKE : Hid (kk = Run.key cols r.l ((i + 1 : Nat) : Int)) := by rw [← hkk]; rfl
      rw [hkk]
      have HB3 := Lib.hid (HJ.out.2.2.then hB3)
      have HK3 := Lib.hid (HJ.out.1.below hB3)
      have HSO : Hid (Srt.Sorted Run.cmp K) := by show Srt.Sorted _ _; rw [HJ.out.2.1]; exact Run.keys_sorted _ _
      clear hB3 hkk q0 hnum
      go_wp2_with fail
      go_loopw [8] (fun jv wq => ∃ j : Nat, j ≤ K.length ∧ jv = .int .i64 (j : Int) ∧ W3 = wq ∧ Hid (∀ t (h : t < K.length), j ≤ t → Run.cmp kk K[t] < 0)) (fun jv _ => (intOf jv).toNat)
      case atStart => exact ⟨K.length, Nat.le_refl _, by go_num, by simp, fun t h1 h2 => by omega⟩
      case round =>
        obtain ⟨j, hj, rfl, rfl, HHI⟩ := hrel
        rcases Nat.eq_zero_or_pos j with h0 | h0
        · have hki : ((0 : Int) < (j : Int)) = False := eq_false (by omega)
          have hkn : (0 < j) = False := eq_false (by omega)
          have HLO : Hid (∀ t (h : t < K.length), t < j → ¬ Run.cmp kk K[t] < 0) := fun t _ h => by omega
          clear h0
          go_upto_region 9 with fail
          clear hki hkn
          have HMG : Hid (Run.keys cols ((R.map Rw.l).take (i + 1)) = K.take j ++ kk :: K.drop j) := by
            show _ = _
            rw [Run.keys_take cols _ i (by rw [List.length_map]; exact hlt)]
            rw [show (R.map Rw.l)[i]'(by rw [List.length_map]; exact hlt) = r.l by rw [List.getElem_map, HRE.out], ← HKE.out, ← HJ.out.2.1]
            conv => lhs; rw [← List.take_append_drop j K]
            refine Srt.mg_one _ _ kk (fun s hs => ?_) (fun s hs => ?_)
            · obtain ⟨t, ht, rfl⟩ := List.getElem_of_mem hs
              rw [List.getElem_take]
              rw [List.length_take] at ht
              exact HLO.out t (by omega) (by omega)
            · obtain ⟨t, ht, rfl⟩ := List.getElem_of_mem hs
              rw [List.getElem_drop]
              rw [List.length_drop] at ht
              exact HHI.out (j + t) (by omega) (by omega)
          have hoA : EOwn eS18 (W3.alloc (.cells #[txt kk] 9)) w.heap.size (some ⟨W3.heap.size, 0, none⟩) 1 [kk] := EOwn.new W3 [kk] (by simp [maxLen]) HB3.out.size #[txt kk] rfl
          have hbA : Below W3.heap.size W3 (W3.alloc (.cells #[txt kk] 9)) := (Below.refl _ _).alloc (Nat.le_refl _) _
          have HBA := Lib.hid (HB3.out.then hbA)
          have HK := Lib.hid (HK3.out.below hbA)
          have hsd : (K.drop j).length = K.length - j := List.length_drop
          clear hbA
          unfold txt at hoA HBA HK ⊢
          by_cases hck : c = j
          · have hkk : K.drop j = [] := List.drop_of_length_le (by omega)
            have hrA := HK.out.row.take 0
            rw [List.take_zero, ← hkk] at hrA
            go_upto_region 10 with (at_builtin; refine wpList_append_elems eS18 rfl (.tmp 40) (.tmp 43) rfl 1 rfl hoA rfl (K.length - j) rfl hrA hsd.symm (by simp; omega) HBA.out.size ?_; intro A4 c4 w4 ho4 hb4 hg4 ha4)
            have HO4 := Lib.hid ho4
            have HK4 := Lib.hid (own_kept18 HK3.out HK.out hg4 (Nat.le_refl _))
            have HB4 := Lib.hid (HBA.out.trans hb4)
            clear ho4 hb4 hg4 ha4 hoA hrA HK
            have hoE : EOwn eS18 (w4.alloc (.cells #[] 9)) w.heap.size (some ⟨w4.heap.size, 0, none⟩) 0 [] := EOwn.new w4 [] (by simp [maxLen]) HB4.out.size #[] rfl
            have HBE : Hid (Below w.heap.size w (w4.alloc (.cells #[] 9))) := HB4.out.then ((Below.refl w4.heap.size w4).alloc (Nat.le_refl _) _)
            have hrE : ERow eS18 (w4.alloc (.cells #[] 9)) A (K.take j) := (HK4.out.alloc (.cells #[] 9)).row.take j
            have htk : (K.take j).length = j := by rw [List.length_take]; omega
            have HTK := Lib.hid htk
            have hb1 : ([] : List (List UInt8)).length + (K.take j).length ≤ 1073741824 := by rw [htk]; simp; omega
            have hb2 : ([] ++ K.take j).length + ([kk] ++ K.drop j).length ≤ 1073741824 := by simp; omega
            have HB1 := Lib.hid hb1
            have HB2 := Lib.hid hb2
            have hl2 : ([kk] ++ K.drop j).length = 1 + (K.length - j) := by simp; omega
            have HL2 := Lib.hid hl2
            clear hb1 hb2 hl2
            go_wp2_with (first | (at_builtin; refine wpList_append_elems eS18 rfl (.tmp 45) (.tmp 48) rfl 0 rfl hoE rfl j rfl hrE HTK.out.symm HB1.out HBE.out.size ?_; intro A5 c5 w5 ho5 hb5 hg5 ha5; have HO5 := Lib.hid (own_kept18 HO4.out (HO4.out.alloc (.cells #[] 9)) hg5 (Nat.le_refl _)); have HB5 := Lib.hid (HBE.out.trans hb5)) | (at_builtin; refine wpList_append_elems eS18 rfl (.tmp 49) (.tmp 50) rfl j rfl ho5 (by rw [List.nil_append]; exact HTK.out.symm) 1 rfl HO5.out.row (by rw [hkk]; rfl) HB2.out HB5.out.size ?_; intro A6 c6 w6 ho6 hb6 hg6 ha6))
            have HO6 : Hid (EOwn eS18 w6 w.heap.size A6 c6 (K.take j ++ kk :: K.drop j)) := ho6
            have HB6 := Lib.hid (HB5.out.trans hb6)
            have HML : Hid ((K.take j ++ kk :: K.drop j).length = i + 1) := by show _ = _; rw [List.length_append, HTK.out, List.length_cons, List.length_drop, HKL.out]; have := HKL.out; omega
            clear ho5 hb5 hg5 ha5 ho6 hb6 hg6 ha6 hrE hoE htk hsd
            go_roundw
            case rel =>
              refine ⟨i + 1, A6, c6, K.take j ++ kk :: K.drop j, ?_, by omega, by go_num, HML.out, HO6.out, HMG.out.symm, HB6.out⟩
              rw [HML.out]
              have := HKL.out
              congr 1
              (try simp)
              omega
            case measure => simp [intOf]; omega
          · have hckf : (c = j) = False := by simp [hck]
            have hrA := HK.out.row.drop j
            rw [show j * eS18.sz = j from Nat.mul_one j] at hrA
            go_upto_region 10 with (at_builtin; refine wpList_append_elems eS18 rfl (.tmp 40) (.tmp 43) rfl 1 rfl hoA rfl (K.length - j) rfl hrA hsd.symm (by simp; omega) HBA.out.size ?_; intro A4 c4 w4 ho4 hb4 hg4 ha4)
            have HO4 := Lib.hid ho4
            have HK4 := Lib.hid (own_kept18 HK3.out HK.out hg4 (Nat.le_refl _))
            have HB4 := Lib.hid (HBA.out.trans hb4)
            clear ho4 hb4 hg4 ha4 hoA hrA HK
            have hoE : EOwn eS18 (w4.alloc (.cells #[] 9)) w.heap.size (some ⟨w4.heap.size, 0, none⟩) 0 [] := EOwn.new w4 [] (by simp [maxLen]) HB4.out.size #[] rfl
            have HBE : Hid (Below w.heap.size w (w4.alloc (.cells #[] 9))) := HB4.out.then ((Below.refl w4.heap.size w4).alloc (Nat.le_refl _) _)
            have hrE : ERow eS18 (w4.alloc (.cells #[] 9)) A (K.take j) := (HK4.out.alloc (.cells #[] 9)).row.take j
            have htk : (K.take j).length = j := by rw [List.length_take]; omega
            have HTK := Lib.hid htk
            have hb1 : ([] : List (List UInt8)).length + (K.take j).length ≤ 1073741824 := by rw [htk]; simp; omega
            have hb2 : ([] ++ K.take j).length + ([kk] ++ K.drop j).length ≤ 1073741824 := by simp; omega
            have HB1 := Lib.hid hb1
            have HB2 := Lib.hid hb2
            have hl2 : ([kk] ++ K.drop j).length = 1 + (K.length - j) := by simp; omega
            have HL2 := Lib.hid hl2
            clear hb1 hb2 hl2
            go_wp2_with (first | (at_builtin; refine wpList_append_elems eS18 rfl (.tmp 45) (.tmp 48) rfl 0 rfl hoE rfl j rfl hrE HTK.out.symm HB1.out HBE.out.size ?_; intro A5 c5 w5 ho5 hb5 hg5 ha5; have HO5 := Lib.hid (own_kept18 HO4.out (HO4.out.alloc (.cells #[] 9)) hg5 (Nat.le_refl _)); have HB5 := Lib.hid (HBE.out.trans hb5)) | (at_builtin; refine wpList_append_elems eS18 rfl (.tmp 49) (.tmp 50) rfl j rfl ho5 (by rw [List.nil_append]; exact HTK.out.symm) (1 + (K.length - j)) rfl HO5.out.row HL2.out.symm HB2.out HB5.out.size ?_; intro A6 c6 w6 ho6 hb6 hg6 ha6))
            have HO6 : Hid (EOwn eS18 w6 w.heap.size A6 c6 (K.take j ++ kk :: K.drop j)) := ho6
            have HB6 := Lib.hid (HB5.out.trans hb6)
            have HML : Hid ((K.take j ++ kk :: K.drop j).length = i + 1) := by show _ = _; rw [List.length_append, HTK.out, List.length_cons, List.length_drop, HKL.out]; have := HKL.out; omega
            clear ho5 hb5 hg5 ha5 ho6 hb6 hg6 ha6 hrE hoE htk hsd
            go_roundw
            case rel =>
              refine ⟨i + 1, A6, c6, K.take j ++ kk :: K.drop j, ?_, by omega, by go_num, HML.out, HO6.out, HMG.out.symm, HB6.out⟩
              rw [HML.out]
              have := HKL.out
              congr 1
              (try simp)
              omega
            case measure => simp [intOf]; omega
        · obtain ⟨m, hmj⟩ : ∃ m, j = m + 1 := ⟨j - 1, by omega⟩
          have hki : (0 : Int) < (j : Int) := by omega
          have hmK : m < K.length := by omega
          have HMJ := Lib.hid hmj
          obtain ⟨gb, go, hA, -, q0⟩ := s18_at HK3.out.row hmK
          have hji : (j : Int) - 1 = (m : Int) := by omega
          clear hmj h0
          by_cases hb : bytesLess kk K[m] = true
          · have HNX : Hid (∀ t (h : t < K.length), m ≤ t → Run.cmp kk K[t] < 0) := fun t h h2 => by
              by_cases htm : t = m
              · subst htm; exact Run.cmp_lt.2 hb
              · exact HHI.out t h (by have := HMJ.out; omega)
            rw [hA]
            go_wp2_with fail
            go_roundw
            case rel => exact ⟨m, by have := HMJ.out; omega, by go_num, by simp, HNX.out⟩
            case measure => have := HMJ.out; simp [intOf]; omega
          · have HLO : Hid (∀ t (h : t < K.length), t < j → ¬ Run.cmp kk K[t] < 0) := fun t h h2 hc => by
              have h3 : ¬ Run.cmp kk K[m] < 0 := fun h4 => hb (Run.cmp_lt.1 h4)
              have h1 := Srt.sorted_le Run.cmp_ord HSO.out (i := t) (j := m) (by have := HMJ.out; omega) hmK
              exact Run.cmp_ord.le_trans (x := K[t]) (y := K[m]) (z := kk) h1 h3 hc
            have hbf : bytesLess kk K[m] = false := by simpa using hb
            rw [hA]
            go_upto_region 9 with fail
            clear hki hji hbf q0
            generalize (some (⟨gb, go, none⟩ : Addr)) = A' at hA ⊢
            subst hA
            have HMG : Hid (Run.keys cols ((R.map Rw.l).take (i + 1)) = K.take j ++ kk :: K.drop j) := by
              show _ = _
              rw [Run.keys_take cols _ i (by rw [List.length_map]; exact hlt)]
              rw [show (R.map Rw.l)[i]'(by rw [List.length_map]; exact hlt) = r.l by rw [List.getElem_map, HRE.out], ← HKE.out, ← HJ.out.2.1]
              conv => lhs; rw [← List.take_append_drop j K]
              refine Srt.mg_one _ _ kk (fun s hs => ?_) (fun s hs => ?_)
              · obtain ⟨t, ht, rfl⟩ := List.getElem_of_mem hs
                rw [List.getElem_take]
                rw [List.length_take] at ht
                exact HLO.out t (by omega) (by omega)
              · obtain ⟨t, ht, rfl⟩ := List.getElem_of_mem hs
                rw [List.getElem_drop]
                rw [List.length_drop] at ht
                exact HHI.out (j + t) (by omega) (by omega)
            have hoA : EOwn eS18 (W3.alloc (.cells #[txt kk] 9)) w.heap.size (some ⟨W3.heap.size, 0, none⟩) 1 [kk] := EOwn.new W3 [kk] (by simp [maxLen]) HB3.out.size #[txt kk] rfl
            have hbA : Below W3.heap.size W3 (W3.alloc (.cells #[txt kk] 9)) := (Below.refl _ _).alloc (Nat.le_refl _) _
            have HBA := Lib.hid (HB3.out.then hbA)
            have HK := Lib.hid (HK3.out.below hbA)
            have hsd : (K.drop j).length = K.length - j := List.length_drop
            clear hbA
            unfold txt at hoA HBA HK ⊢
            by_cases hck : c = j
            · have hkk : K.drop j = [] := List.drop_of_length_le (by omega)
              have hrA := HK.out.row.take 0
              rw [List.take_zero, ← hkk] at hrA
              go_upto_region 10 with (at_builtin; refine wpList_append_elems eS18 rfl (.tmp 40) (.tmp 43) rfl 1 rfl hoA rfl (K.length - j) rfl hrA hsd.symm (by simp; omega) HBA.out.size ?_; intro A4 c4 w4 ho4 hb4 hg4 ha4)
              have HO4 := Lib.hid ho4
              have HK4 := Lib.hid (own_kept18 HK3.out HK.out hg4 (Nat.le_refl _))
              have HB4 := Lib.hid (HBA.out.trans hb4)
              clear ho4 hb4 hg4 ha4 hoA hrA HK
              have hoE : EOwn eS18 (w4.alloc (.cells #[] 9)) w.heap.size (some ⟨w4.heap.size, 0, none⟩) 0 [] := EOwn.new w4 [] (by simp [maxLen]) HB4.out.size #[] rfl
              have HBE : Hid (Below w.heap.size w (w4.alloc (.cells #[] 9))) := HB4.out.then ((Below.refl w4.heap.size w4).alloc (Nat.le_refl _) _)
              have hrE : ERow eS18 (w4.alloc (.cells #[] 9)) A (K.take j) := (HK4.out.alloc (.cells #[] 9)).row.take j
              have htk : (K.take j).length = j := by rw [List.length_take]; omega
              have HTK := Lib.hid htk
              have hb1 : ([] : List (List UInt8)).length + (K.take j).length ≤ 1073741824 := by rw [htk]; simp; omega
              have hb2 : ([] ++ K.take j).length + ([kk] ++ K.drop j).length ≤ 1073741824 := by simp; omega
              have HB1 := Lib.hid hb1
              have HB2 := Lib.hid hb2
              have hl2 : ([kk] ++ K.drop j).length = 1 + (K.length - j) := by simp; omega
              have HL2 := Lib.hid hl2
              clear hb1 hb2 hl2
              go_wp2_with (first | (at_builtin; refine wpList_append_elems eS18 rfl (.tmp 45) (.tmp 48) rfl 0 rfl hoE rfl j rfl hrE HTK.out.symm HB1.out HBE.out.size ?_; intro A5 c5 w5 ho5 hb5 hg5 ha5; have HO5 := Lib.hid (own_kept18 HO4.out (HO4.out.alloc (.cells #[] 9)) hg5 (Nat.le_refl _)); have HB5 := Lib.hid (HBE.out.trans hb5)) | (at_builtin; refine wpList_append_elems eS18 rfl (.tmp 49) (.tmp 50) rfl j rfl ho5 (by rw [List.nil_append]; exact HTK.out.symm) 1 rfl HO5.out.row (by rw [hkk]; rfl) HB2.out HB5.out.size ?_; intro A6 c6 w6 ho6 hb6 hg6 ha6))
              have HO6 : Hid (EOwn eS18 w6 w.heap.size A6 c6 (K.take j ++ kk :: K.drop j)) := ho6
              have HB6 := Lib.hid (HB5.out.trans hb6)
              have HML : Hid ((K.take j ++ kk :: K.drop j).length = i + 1) := by show _ = _; rw [List.length_append, HTK.out, List.length_cons, List.length_drop, HKL.out]; have := HKL.out; omega
              clear ho5 hb5 hg5 ha5 ho6 hb6 hg6 ha6 hrE hoE htk hsd
              go_roundw
              case rel =>
                refine ⟨i + 1, A6, c6, K.take j ++ kk :: K.drop j, ?_, by omega, by go_num, HML.out, HO6.out, HMG.out.symm, HB6.out⟩
                rw [HML.out]
                have := HKL.out
                congr 1
                (try simp)
                omega
              case measure => simp [intOf]; omega
            · have hckf : (c = j) = False := by simp [hck]
              have hrA := HK.out.row.drop j
              rw [show j * eS18.sz = j from Nat.mul_one j] at hrA
              go_upto_region 10 with (at_builtin; refine wpList_append_elems eS18 rfl (.tmp 40) (.tmp 43) rfl 1 rfl hoA rfl (K.length - j) rfl hrA hsd.symm (by simp; omega) HBA.out.size ?_; intro A4 c4 w4 ho4 hb4 hg4 ha4)
              have HO4 := Lib.hid ho4
              have HK4 := Lib.hid (own_kept18 HK3.out HK.out hg4 (Nat.le_refl _))
              have HB4 := Lib.hid (HBA.out.trans hb4)
              clear ho4 hb4 hg4 ha4 hoA hrA HK
              have hoE : EOwn eS18 (w4.alloc (.cells #[] 9)) w.heap.size (some ⟨w4.heap.size, 0, none⟩) 0 [] := EOwn.new w4 [] (by simp [maxLen]) HB4.out.size #[] rfl
              have HBE : Hid (Below w.heap.size w (w4.alloc (.cells #[] 9))) := HB4.out.then ((Below.refl w4.heap.size w4).alloc (Nat.le_refl _) _)
              have hrE : ERow eS18 (w4.alloc (.cells #[] 9)) A (K.take j) := (HK4.out.alloc (.cells #[] 9)).row.take j
              have htk : (K.take j).length = j := by rw [List.length_take]; omega
              have HTK := Lib.hid htk
              have hb1 : ([] : List (List UInt8)).length + (K.take j).length ≤ 1073741824 := by rw [htk]; simp; omega
              have hb2 : ([] ++ K.take j).length + ([kk] ++ K.drop j).length ≤ 1073741824 := by simp; omega
              have HB1 := Lib.hid hb1
              have HB2 := Lib.hid hb2
              have hl2 : ([kk] ++ K.drop j).length = 1 + (K.length - j) := by simp; omega
              have HL2 := Lib.hid hl2
              clear hb1 hb2 hl2
              go_wp2_with (first | (at_builtin; refine wpList_append_elems eS18 rfl (.tmp 45) (.tmp 48) rfl 0 rfl hoE rfl j rfl hrE HTK.out.symm HB1.out HBE.out.size ?_; intro A5 c5 w5 ho5 hb5 hg5 ha5; have HO5 := Lib.hid (own_kept18 HO4.out (HO4.out.alloc (.cells #[] 9)) hg5 (Nat.le_refl _)); have HB5 := Lib.hid (HBE.out.trans hb5)) | (at_builtin; refine wpList_append_elems eS18 rfl (.tmp 49) (.tmp 50) rfl j rfl ho5 (by rw [List.nil_append]; exact HTK.out.symm) (1 + (K.length - j)) rfl HO5.out.row HL2.out.symm HB2.out HB5.out.size ?_; intro A6 c6 w6 ho6 hb6 hg6 ha6))
              have HO6 : Hid (EOwn eS18 w6 w.heap.size A6 c6 (K.take j ++ kk :: K.drop j)) := ho6
              have HB6 := Lib.hid (HB5.out.trans hb6)
              have HML : Hid ((K.take j ++ kk :: K.drop j).length = i + 1) := by show _ = _; rw [List.length_append, HTK.out, List.length_cons, List.length_drop, HKL.out]; have := HKL.out; omega
              clear ho5 hb5 hg5 ha5 ho6 hb6 hg6 ha6 hrE hoE htk hsd
              go_roundw
              case rel =>
                refine ⟨i + 1, A6, c6, K.take j ++ kk :: K.drop j, ?_, by omega, by go_num, HML.out, HO6.out, HMG.out.symm, HB6.out⟩
                rw [HML.out]
                have := HKL.out
                congr 1
                (try simp)
                omega
              case measure => simp [intOf]; omega
    · have hii : ¬ (i : Int) < (R.length : Int) := by omega
      have HF : Hid (RetKs w (Run.keys cols (R.map Rw.l)) (.returned (.slice A K.length c)) wr) := by
        have h := HJ.out.2.1
        rw [List.take_of_length_le (by rw [List.length_map]; omega)] at h
        rw [← h]
        exact ⟨A, c, rfl, HJ.out.1.row, HJ.out.2.2⟩
      go_wp2_with fail
      go_ret
      exact HF.out
end Go.Proofs.YtpahkaffknnjhaaGreatDoor
end

section
namespace Go.Proofs.YtpahkaffknnjhaaGreatDoor
set_option linter.unusedSimpArgs false
set_option linter.unusedVariables false
open Go.RowKit
theorem vord_self18 (v : Va) : Key.vord v v = 0 := by
  have := Key.vord_ord.anti v v
  omega
def RetYes (w : World) (e : Ending) (w' : World) : Prop := e = .returned (.bool true) ∧ Below w.heap.size w w'
set_option maxRecDepth 20000 in
set_option maxHeartbeats 1000000 in
theorem self18_any (w : World) (u : Va) (hu : u.ok) : Calls Tryz.prog 25 #[u.v, u.v] w (RetYes w) := by
  have HO := Lib.hid hu
  clear hu
  go_enter Tryz.func25, Tryz.ntmps25
  go_upto_region 1 with (first | (refine wpList_box_va rfl (.tmp 0) rfl u rfl ?_; intro W1 hb1 hz1 hB1) | (refine wpList_box_va rfl (.tmp 1) rfl u rfl ?_; intro W2 hb2 hz2 hB2))
  have h12 := hb1.below hB2
  have HB := Lib.hid (hB1.trans (hB2.mono hB1.size))
  clear hb1 hB1 hB2 hz1 hz2
  go_wp2_with (first | (refine wpList_load_va rfl (.tmp 2) rfl w.heap.size rfl h12 ?_) | (refine wpList_load_va rfl (.tmp 3) rfl W1.heap.size rfl hb2 ?_))
  refine (vorder_any _ u u HO.out HO.out).mono ?_
  rintro e W3 ⟨rfl, hB3⟩
  rw [vord_self18]
  have HB3 := Lib.hid (HB.out.then hB3)
  clear h12 hb2 hB3
  go_wp2_with fail
  go_ret
  exact ⟨rfl, HB3.out⟩
set_option maxRecDepth 20000 in
set_option maxHeartbeats 4000000 in
theorem sameself_any (w : World) (A B : Option Addr) (c d : Nat) (V : List Va) (hA : ERow eVa w A V) (hB : ERow eVa w B V) (hok : ∀ v ∈ V, v.ok) (hl : V.length ≤ 1000000) :
    Calls Tryz.prog 11 #[.slice A V.length c, .slice B V.length d] w (RetYes w) := by
  have HA := Lib.hid hA
  have HB := Lib.hid hB
  have HOK := Lib.hid hok
  clear hA hB hok
  go_enter Tryz.func11, Tryz.ntmps11
  go_wp2_with fail
  have HST : Hid (Below w.heap.size w w) := Below.refl _ _
  go_loopw [5] (fun iv wr => ∃ i : Nat, i ≤ V.length ∧ iv = .int .i64 (i : Int) ∧ Hid (Below w.heap.size w wr)) (fun iv _ => V.length - (intOf iv).toNat)
  case atStart => exact ⟨0, Nat.zero_le _, by go_num, HST.out⟩
  case round =>
    obtain ⟨i, hi, rfl, HJ⟩ := hrel
    clear HST
    by_cases hlt : i < V.length
    · have hii : (i : Int) < (V.length : Int) := by omega
      have HXR : Hid (ERow eVa wr.drew A V) := HA.out.below HJ.out.drewR
      have HYR : Hid (ERow eVa wr.drew B V) := HB.out.below HJ.out.drewR
      obtain ⟨xb, xo, hxa, -, -⟩ := HXR.out.at_ hlt
      obtain ⟨yb, yo, hya, -, -⟩ := HYR.out.at_ hlt
      have HS := Lib.hid (self18_any wr.drew V[i] (HOK.out _ (List.getElem_mem hlt)))
      subst hxa hya
      go_upto_region 6 with fail
      refine wp_region_plan (.take 0 (.take 1 (.take 2 (.take 3 (.take 4 (.take 5 (.take 6 (.take 7 (.run 8 [] (.take 9 .fin)))))))))) (by kernel_rfl) (by kernel_rfl) (by kernel_rfl) (by kernel_rfl) ?_
      repeat' (first | (refine hZ _ _ ?_; clear hZ) | (refine hZ _ ?_; clear hZ) | (refine hZ ?_; clear hZ) | rw [again_nil] | rw [walk_fin] | ((first | rw [walk_take] | rw [walk_run] | rw [again_cons]); intro Z hZ; simp only [sel, List.getElem?_toArray, List.getElem?_cons_zero, List.getElem?_cons_succ]; go_wp2_with (first | (refine wpList_load_va_at rfl (.tmp 19) rfl HXR.out hlt rfl ?_) | (refine wpList_load_va_at rfl (.tmp 23) rfl HYR.out hlt rfl ?_))))
      refine (show Calls _ _ _ _ _ from HS.out).mono ?_
      rintro e W4 ⟨rfl, hb4⟩
      have HB4 := Lib.hid (HJ.out.drewR.trans (hb4.mono HJ.out.size))
      clear hb4 HS
      go_wp2_with fail
      repeat' (first | (refine hZ _ _ ?_; clear hZ) | (refine hZ _ ?_; clear hZ) | (refine hZ ?_; clear hZ) | rw [again_nil] | rw [walk_fin] | ((first | rw [walk_take] | rw [walk_run] | rw [again_cons]); intro Z hZ; simp only [sel, List.getElem?_toArray, List.getElem?_cons_zero, List.getElem?_cons_succ]; go_wp2_with (fail)))
      go_wp2_with fail
      go_roundw
      case rel => exact ⟨i + 1, by omega, by go_num, HB4.out⟩
      case measure => simp [intOf]; omega
    · have hii : ¬ (i : Int) < (V.length : Int) := by omega
      go_wp2_with fail
      go_ret
      exact ⟨rfl, HJ.out⟩
end Go.Proofs.YtpahkaffknnjhaaGreatDoor
end

section
namespace Go.Proofs.YtpahkaffknnjhaaGreatDoor
set_option linter.unusedSimpArgs false
set_option linter.unusedVariables false
open Go.RowKit Go.Deep Go.WideShapes Go.ChangeShapes
set_option maxRecDepth 20000 in
set_option maxHeartbeats 4000000 in
theorem GrRaw.small {w : World} {g : Gr} (h : GrRaw w g) {n : Int} (hs : SmallRs g.l n) (hn : n ≤ 1000) : RowsOk w g.a g.l ∧ g.l.length ≤ 1000 ∧ (∀ r ∈ g.l, r.l.length ≤ 1000) ∧ ∀ r ∈ g.l, ∀ v ∈ r.l, v.s.length ≤ 1000 := by
  have hl : g.l.length ≤ 1000 := by have := hs.1; omega
  refine ⟨⟨h.1, fun r hr => ⟨(h.2.1 r hr).row, fun v hv => ((h.2.1 r hr).ok v hv).ok, ?_⟩, by omega⟩, hl, fun r hr => ?_, fun r hr v hv => ?_⟩
  · have := (hs.2 r hr).1; omega
  · have := (hs.2 r hr).1; omega
  · have := (hs.2 r hr).2 v hv; omega
theorem CseRaw.tb {w : World} {x : Cse} (h : CseRaw w x) (hs : SmallC x) : TbIn w x.ta x.G :=
  ⟨h.t, fun g hg => ((h.tin g hg).small (hs.tr g hg) (by decide)).1, by have := hs.t; omega, fun g hg => ((h.tin g hg).small (hs.tr g hg) (by decide)).2.1, fun g hg => ((h.tin g hg).small (hs.tr g hg) (by decide)).2.2.1, fun g hg => ((h.tin g hg).small (hs.tr g hg) (by decide)).2.2.2⟩
theorem CseRaw.df {w : World} {x : Cse} (h : CseRaw w x) (hs : SmallC x) : DfsIn w x.da x.D :=
  ⟨h.d, fun d hd => (h.din d hd).1, fun d hd => by have := hs.dc d hd; omega, fun d hd => (h.din d hd).2.1, fun d hd => (h.din d hd).2.2, by have := hs.d; omega⟩
def TabAt (w : World) (T : List (List (List Va))) (t : Int) (g : Gr) : Prop := RowsOk w g.a g.l ∧ g.l.length ≤ 60 ∧ (∀ r ∈ g.l, r.l.length ≤ 12) ∧ (∀ r ∈ g.l, ∀ v ∈ r.l, v.s.length ≤ 1000) ∧ Run.rowsG g = Run.rowsAt T t
theorem TabAt.below {w W : World} {T : List (List (List Va))} {t : Int} {g : Gr} (h : TabAt w T t g) (hB : Below w.heap.size w W) : TabAt W T t g := ⟨h.1.below hB, h.2⟩
theorem TabAt.nil {w : World} {T : List (List (List Va))} {t : Int} (h : ¬ (0 ≤ t ∧ t < (T.length : Int))) : TabAt w T t ⟨none, [], 0⟩ :=
  ⟨⟨ERow.nil, (by intro x hx; cases hx), Nat.zero_le _⟩, Nat.zero_le _, (by intro r hr; cases hr), (by intro r hr; cases hr), by unfold Run.rowsAt; rw [if_neg h]; rfl⟩
theorem CseRaw.tab {w : World} {x : Cse} (h : CseRaw w x) (hs : SmallC x) {n : Nat} (hn : n < x.G.length) : TabAt w (x.G.map Run.rowsG) n x.G[n] := by
  have hm := List.getElem_mem hn
  have h1 := (h.tin _ hm).small (hs.tr _ hm) (by decide)
  refine ⟨h1.1, by have := (hs.tr _ hm).1; omega, fun r hr => ((hs.tr _ hm).2 r hr).1, h1.2.2.2, ?_⟩
  unfold Run.rowsAt
  rw [if_pos ⟨by omega, by simpa using hn⟩]
  simp [List.getD, hn]
theorem TabAt.row {w : World} {T : List (List (List Va))} {t : Int} {g : Gr} (h : TabAt w T t g) (i : Int) : Run.rowOf T t i = if 0 ≤ i then (g.l[i.toNat]?).map Rw.l else none := by
  have e := h.2.2.2.2
  unfold Run.rowsAt Run.rowsG at e
  unfold Run.rowOf
  by_cases ht : 0 ≤ t ∧ t < (T.length : Int)
  · rw [if_pos ht] at e
    rw [← e]
    by_cases h0 : 0 ≤ i
    · rw [if_pos h0]
      by_cases h1 : i.toNat < g.l.length
      · rw [if_pos ⟨ht.1, ht.2, h0, by simp; omega⟩]
        simp [List.getD, h1]
      · rw [if_neg (by rintro ⟨-, -, -, h4⟩; simp at h4; omega), List.getElem?_eq_none (by omega)]
        rfl
    · rw [if_neg h0, if_neg (by rintro ⟨-, -, h4, -⟩; exact h0 h4)]
  · rw [if_neg ht] at e
    rw [if_neg (by rintro ⟨h1, h2, -⟩; exact ht ⟨h1, h2⟩)]
    have : g.l = [] := by simpa using e
    rw [this]
    split <;> rfl
end Go.Proofs.YtpahkaffknnjhaaGreatDoor
end

section
namespace Go.Proofs.YtpahkaffknnjhaaGreatDoor
set_option linter.unusedSimpArgs false
set_option linter.unusedVariables false
open Go.RowKit Go.Op
namespace Run
theorem allFrom_append (L : List Nd) : ∀ (a b : List (List Va)) (i : Nat), allFrom L i (a ++ b) = allFrom L i a ++ allFrom L (i + a.length) b
  | [], b, i => by simp [allFrom]
  | x :: a, b, i => by
    have ih := allFrom_append L a b (i + 1)
    rw [show i + 1 + a.length = i + (x :: a).length by simp; omega] at ih
    show (if Ev.holds x L then (i + 1, x) :: allFrom L (i + 1) (a ++ b) else allFrom L (i + 1) (a ++ b)) = (if Ev.holds x L then (i + 1, x) :: allFrom L (i + 1) a else allFrom L (i + 1) a) ++ _
    rw [ih]
    split <;> rfl
theorem finds_at (L : List Nd) (l : List (List Va)) (i : Nat) (hi : i < l.length) (h : Ev.holds l[i] L = true) : (allFrom L 0 l)[(allFrom L 0 (l.take i)).length]? = some (i + 1, l[i]) := by
  have e : allFrom L 0 l = allFrom L 0 (l.take (i + 1)) ++ allFrom L (0 + (l.take (i + 1)).length) (l.drop (i + 1)) := by
    rw [← allFrom_append, List.take_append_drop]
  rw [e, allFrom_take L l i hi, if_pos h, List.append_assoc, List.getElem?_append_right (Nat.le_refl _), Nat.sub_self]
  rfl
theorem finds_next (L : List Nd) (l : List (List Va)) (i : Nat) (hi : i < l.length) : (allFrom L 0 (l.take (i + 1))).length = (allFrom L 0 (l.take i)).length + if Ev.holds l[i] L then 1 else 0 := by
  rw [allFrom_take L l i hi, List.length_append]
  split <;> rfl
def SameTo (M N : List Bs) (k : Nat) (s : Bool) : Prop := (s = true → M.length = N.length ∧ M.take k = N.take k) ∧ (s = false → M ≠ N)
theorem SameTo.start (M N : List Bs) : SameTo M N 0 (decide (M.length = N.length)) := ⟨fun h => ⟨of_decide_eq_true h, rfl⟩, fun h e => of_decide_eq_false h (by rw [e])⟩
theorem SameTo.next {M N : List Bs} {k : Nat} (h : SameTo M N k true) (hM : k < M.length) (hN : k < N.length) : SameTo M N (k + 1) (M[k] == N[k]) := by
  refine ⟨fun e => ⟨(h.1 rfl).1, ?_⟩, fun e hmn => ?_⟩
  · rw [List.take_succ_eq_append_getElem hM, List.take_succ_eq_append_getElem hN, (h.1 rfl).2, eq_of_beq e]
  · subst hmn
    simp at e
theorem SameTo.done {M N : List Bs} {k : Nat} {s : Bool} (h : SameTo M N k s) (hk : s = true → ¬ k < M.length) : s = decide (M = N) := by
  cases s with
  | false => rw [decide_eq_false (h.2 rfl)]
  | true =>
    have h1 := h.1 rfl
    have h2 := hk rfl
    rw [List.take_of_length_le (by omega), List.take_of_length_le (by omega)] at h1
    rw [decide_eq_true h1.2]
end Run
theorem Blk.cse11 {w : World} {g : Nat} {t : TypeId} {x : Cse} (h : Blk w g t x.cells) :
    w.cell? ⟨g, 0, none⟩ = some (.slice x.p.ta x.p.x.T.length x.p.tc) ∧ w.cell? ⟨g, 1, none⟩ = some (.slice x.p.ba x.p.x.B.length x.p.bc) ∧ w.cell? ⟨g, 2, none⟩ = some (.int .i64 x.p.x.W) ∧ w.cell? ⟨g, 3, none⟩ = some (.slice x.p.wa x.p.x.wh.length x.p.wc) ∧ w.cell? ⟨g, 4, none⟩ = some (.slice x.p.ga x.p.group.length x.p.gc) ∧
    w.cell? ⟨g, 5, none⟩ = some (.bool x.p.x.gr) ∧ w.cell? ⟨g, 6, none⟩ = some (.slice x.p.ia x.p.items.length x.p.ic) ∧ w.cell? ⟨g, 7, none⟩ = some (.slice x.p.oa x.p.x.ord.length x.p.oc) ∧ w.cell? ⟨g, 8, none⟩ = some (.int .i64 x.p.lim) ∧ w.cell? ⟨g, 9, none⟩ = some (.slice x.ta x.G.length x.tc) ∧ w.cell? ⟨g, 10, none⟩ = some (.slice x.da x.D.length x.dc) ∧ g < w.heap.size :=
  ⟨h.cell 0, h.cell 1, h.cell 2, h.cell 3, h.cell 4, h.cell 5, h.cell 6, h.cell 7, h.cell 8, h.cell 9, h.cell 10, h.lt⟩
theorem below_drewN18 {B : Nat} {a w : World} (h : Below B a w) (n : Nat) : Below B a (w.drewN n) := ⟨h.os, h.tape, h.output, h.size, h.block⟩
def FSt (w W : World) (g3 : Nat) (x : Cse) (gm : Nat) (G' : List Gr) (K : List Ks) (A1 : Option Addr) (X : List (Nat × List Va)) (A2 : Option Addr) (R : List Rw) (T : List (List (List Va))) (t : Int) (sa : Option Addr) (S : List Rw) (sc : Nat) : Prop :=
  Below w.heap.size w W ∧ Blk W g3 30 x.cells ∧ MemAt W gm G' K ∧ TabAt W T t ⟨sa, S, sc⟩ ∧ ERow eI64 W A1 (X.map fun p => (p.1 : Int)) ∧ ERow eRw W A2 R ∧ ∀ r ∈ R, ERow eVa W r.a r.l
theorem FSt.below {w W W' : World} {g3 : Nat} {x : Cse} {gm : Nat} {G' : List Gr} {K : List Ks} {A1 : Option Addr} {X : List (Nat × List Va)} {A2 : Option Addr} {R : List Rw} {T : List (List (List Va))} {t : Int} {sa : Option Addr} {S : List Rw} {sc : Nat} (h : FSt w W g3 x gm G' K A1 X A2 R T t sa S sc) (hB : Below W.heap.size W W') : FSt w W' g3 x gm G' K A1 X A2 R T t sa S sc :=
  ⟨h.1.then hB, h.2.1.below hB, h.2.2.1.below hB, h.2.2.2.1.below hB, h.2.2.2.2.1.below hB, h.2.2.2.2.2.1.below hB, fun r hr => (h.2.2.2.2.2.2 r hr).below hB⟩
theorem FSt.bel {w W : World} {g3 : Nat} {x : Cse} {gm : Nat} {G' : List Gr} {K : List Ks} {A1 : Option Addr} {X : List (Nat × List Va)} {A2 : Option Addr} {R : List Rw} {T : List (List (List Va))} {t : Int} {sa : Option Addr} {S : List Rw} {sc : Nat} (h : FSt w W g3 x gm G' K A1 X A2 R T t sa S sc) : Below w.heap.size w W := h.1
theorem FSt.blk {w W : World} {g3 : Nat} {x : Cse} {gm : Nat} {G' : List Gr} {K : List Ks} {A1 : Option Addr} {X : List (Nat × List Va)} {A2 : Option Addr} {R : List Rw} {T : List (List (List Va))} {t : Int} {sa : Option Addr} {S : List Rw} {sc : Nat} (h : FSt w W g3 x gm G' K A1 X A2 R T t sa S sc) : Blk W g3 30 x.cells := h.2.1
theorem FSt.mem {w W : World} {g3 : Nat} {x : Cse} {gm : Nat} {G' : List Gr} {K : List Ks} {A1 : Option Addr} {X : List (Nat × List Va)} {A2 : Option Addr} {R : List Rw} {T : List (List (List Va))} {t : Int} {sa : Option Addr} {S : List Rw} {sc : Nat} (h : FSt w W g3 x gm G' K A1 X A2 R T t sa S sc) : MemAt W gm G' K := h.2.2.1
theorem FSt.tab {w W : World} {g3 : Nat} {x : Cse} {gm : Nat} {G' : List Gr} {K : List Ks} {A1 : Option Addr} {X : List (Nat × List Va)} {A2 : Option Addr} {R : List Rw} {T : List (List (List Va))} {t : Int} {sa : Option Addr} {S : List Rw} {sc : Nat} (h : FSt w W g3 x gm G' K A1 X A2 R T t sa S sc) : TabAt W T t ⟨sa, S, sc⟩ := h.2.2.2.1
theorem FSt.ids {w W : World} {g3 : Nat} {x : Cse} {gm : Nat} {G' : List Gr} {K : List Ks} {A1 : Option Addr} {X : List (Nat × List Va)} {A2 : Option Addr} {R : List Rw} {T : List (List (List Va))} {t : Int} {sa : Option Addr} {S : List Rw} {sc : Nat} (h : FSt w W g3 x gm G' K A1 X A2 R T t sa S sc) : ERow eI64 W A1 (X.map fun p => (p.1 : Int)) := h.2.2.2.2.1
theorem FSt.rws {w W : World} {g3 : Nat} {x : Cse} {gm : Nat} {G' : List Gr} {K : List Ks} {A1 : Option Addr} {X : List (Nat × List Va)} {A2 : Option Addr} {R : List Rw} {T : List (List (List Va))} {t : Int} {sa : Option Addr} {S : List Rw} {sc : Nat} (h : FSt w W g3 x gm G' K A1 X A2 R T t sa S sc) : ERow eRw W A2 R := h.2.2.2.2.2.1
theorem FSt.all {w W : World} {g3 : Nat} {x : Cse} {gm : Nat} {G' : List Gr} {K : List Ks} {A1 : Option Addr} {X : List (Nat × List Va)} {A2 : Option Addr} {R : List Rw} {T : List (List (List Va))} {t : Int} {sa : Option Addr} {S : List Rw} {sc : Nat} (h : FSt w W g3 x gm G' K A1 X A2 R T t sa S sc) : ∀ r ∈ R, ERow eVa W r.a r.l := h.2.2.2.2.2.2
set_option maxRecDepth 100000 in
set_option maxHeartbeats 8000000 in
theorem runFinds_walk (w : World) (v0 : Value) (h0 : CseW w v0) (t : Int) (wf : (Lit.int .i64 t).wf = true) (v2 : Value) (h2 : IntsIn w v2) :
    Calls Tryz.prog 4 #[v0, .int .i64 t, v2] w fun e w' => e = .returned (.bool true) ∧ Below w.heap.size w w' := by
  obtain ⟨x, rfl, hx⟩ := h0
  obtain ⟨ca, cc, cols, rfl, hc, hci, hcl, hcm⟩ := h2
  simp [Lit.wf, IntKind.min, IntKind.max, IntKind.signed, IntKind.bits] at wf
  have HX := Lib.hid hx
  have HTI := Lib.hid wf
  have HC : Hid (ERow eInt w ca cols ∧ ∀ c ∈ cols, Ev.inB c) := ⟨hc, hci⟩
  have hcll : cols.length ≤ 9223372036854775807 := by unfold maxLen at hcm; omega
  have hgl : x.G.length ≤ 9223372036854775807 := by have := hx.tl; unfold maxLen at this; omega
  have hdl : x.D.length ≤ 9223372036854775807 := by have := hx.dl; unfold maxLen at this; omega
  clear hx hc hci hcl hcm wf
  go_enter Tryz.func4, Tryz.ntmps4
  go_upto_region 1 with (refine wpList_box_cse rfl (.tmp 0) rfl x rfl ?_; intro W1 hb1 hz1 hB1)
  obtain ⟨g3, hg3⟩ : ∃ g, w.heap.size = g := ⟨_, rfl⟩
  have HS3 : Hid (Below w.heap.size w W1 ∧ Blk W1 g3 30 x.cells) := by
    rw [hg3] at hb1 hB1 ⊢
    exact ⟨hB1, hb1⟩
  rw [hg3]
  clear hb1 hz1 hB1 hg3
  go_wp2_with fail
  refine (rlives_any W1).mono ?_
  rintro e W4 ⟨rfl, hB⟩
  have HS4 : Hid (Below w.heap.size w W4 ∧ Blk W4 g3 30 x.cells) := ⟨HS3.out.1.then hB, HS3.out.2.below hB⟩
  clear hB HS3
  obtain ⟨c0, c1, c2, c3, c4, c5, c6, c7, c8, c9, c10, clt⟩ := Blk.cse11 HS4.out.2
  go_wp2_with fail
  clear c0 c1 c2 c3 c4 c5 c6 c7 c8 c9 c10 clt
  refine (show Calls _ _ #[x.v] _ _ from small18_any W4 x (HX.out.below HS4.out.1)).mono ?_
  rintro e W5 ⟨sm, rfl, hsm, hB⟩
  have HS5 : Hid (Below w.heap.size w W5 ∧ Blk W5 g3 30 x.cells) := ⟨HS4.out.1.then hB, HS4.out.2.below hB⟩
  have HSM := Lib.hid hsm
  clear hB hsm HS4
  cases sm with
  | false =>
    go_wp2_with fail
    refine (rlives_any W5).mono ?_
    rintro e W9 ⟨rfl, hB⟩
    have HB9 := Lib.hid (HS5.out.1.then hB)
    clear hB
    go_wp2_with fail
    go_ret
    exact ⟨rfl, HB9.out⟩
  | true =>
    have HSC : Hid (SmallC x) := HSM.out (by simp)
    clear HSM
    by_cases hk100 : 6 < cols.length
    · have hki : (6 : Int) < (cols.length : Int) := by omega
      go_wp2_with fail
      refine (rlives_any W5).mono ?_
      rintro e W9 ⟨rfl, hB⟩
      have HB9 := Lib.hid (HS5.out.1.then hB)
      clear hB
      go_wp2_with fail
      go_ret
      exact ⟨rfl, HB9.out⟩
    have hki : ¬ (6 : Int) < (cols.length : Int) := by omega
    go_upto_region 3 with fail
    obtain ⟨-, -, -, -, -, -, c9, c10, clt⟩ := Blk.cse HS5.out.2
    go_wp2_with fail
    clear c9 c10 clt
    have HTB : Hid (TbIn w x.ta x.G) := HX.out.tb HSC.out
    have HDF : Hid (DfsIn w x.da x.D) := HX.out.df HSC.out
    refine (newmem_any W5 x.ta x.tc x.G (HTB.out.below HS5.out.1) x.da x.dc x.D (HDF.out.below HS5.out.1) (by have := HSC.out.d; show x.D.length ≤ 100; exact Nat.le_trans this (by decide)) (fun d hd => Nat.le_trans (HSC.out.dc d hd) (by decide))).mono ?_
    rintro e W6 ⟨gm, G', K, rfl, hM, hG', hKG, hB⟩
    have HS6 : Hid (Below w.heap.size w W6 ∧ Blk W6 g3 30 x.cells ∧ MemAt W6 gm G' K) := ⟨HS5.out.1.then hB, HS5.out.2.below hB, hM⟩
    obtain ⟨T, hT⟩ : ∃ T, x.G.map Run.rowsG = T := ⟨_, rfl⟩
    have HG' : Hid (G'.map Run.rowsG = T) := by rw [← hT]; exact hG'
    have HT := Lib.hid hT
    have HKG : Hid (K.map Run.keysG = x.D.map (Run.keysD T)) := by rw [← hT]; exact hKG
    have HSO : Hid (∀ k ∈ K, Run.Strict (Run.keysG k)) := fun k hk => by
      have : Run.keysG k ∈ K.map Run.keysG := List.mem_map.2 ⟨k, hk, rfl⟩
      rw [HKG.out] at this
      obtain ⟨d, -, hd⟩ := List.mem_map.1 this
      rw [← hd]
      refine Run.keys_strict _ _ ?_
      unfold Run.rowsAt
      split
      · next h =>
        rw [← HT.out] at h ⊢
        rw [List.length_map] at h
        have hn : d.t.toNat < x.G.length := by omega
        have := HTB.out.gl _ (List.getElem_mem hn)
        simp [List.getD, hn, Run.rowsG]
        omega
      · exact Nat.zero_le _
    clear hB hM hG' hKG hT HS5
    obtain ⟨-, -, c3, -, -, -, -, -, clt⟩ := Blk.cse HS6.out.2.1
    go_wp2_with fail
    clear c3 clt
    have h := all_any W6 gm G' K HS6.out.2.2 t x.p.wa x.p.wc x.p.x.wh (HX.out.q.wn.below HS6.out.1) (fun n hn => nd_below15 (HX.out.q.nin n hn) HS6.out.1) (Nat.le_trans HSC.out.wh (by decide))
    rw [HG'.out] at h
    refine h.mono ?_
    clear h
    rintro e W7 ⟨A1, c1, A2, c2, R, rfl, ho1, ho2, hRX, hB⟩
    obtain ⟨X, hX⟩ : ∃ X, Run.allFrom x.p.x.wh 0 (Run.rowsAt T t) = X := ⟨_, rfl⟩
    rw [hX] at ho1 hRX
    have HXX := Lib.hid hX
    have HRX := Lib.hid hRX
    have HS7 : Hid (Below w.heap.size w W7 ∧ Blk W7 g3 30 x.cells ∧ MemAt W7 gm G' K ∧ ERow eI64 W7 A1 (X.map fun p => (p.1 : Int)) ∧ ERow eRw W7 A2 R ∧ ∀ r ∈ R, ERow eVa W7 r.a r.l) := ⟨HS6.out.1.then hB, HS6.out.2.1.below hB, HS6.out.2.2.below hB, ho1.row, ho2.own.row, fun r hr => (ho2.rows r hr).row⟩
    clear hB hX hRX ho1 ho2 HS6
    go_upto_region 6 with fail
    go_cut [62] from 54 to 62 (fun v wx => Hid (v = .bool (decide (0 ≤ t ∧ t < (x.G.length : Int))) ∧ W7 = wx))
    case first =>
      obtain ⟨-, -, -, -, -, -, c9, c10, clt⟩ := Blk.cse HS7.out.2.1
      by_cases ha0 : 0 ≤ t
      · by_cases hn : t < (x.G.length : Int)
        · have hd : Hid (decide (0 ≤ t ∧ t < (x.G.length : Int)) = true) := by show _ = _; simp [ha0, hn]
          go_wp2_with fail
          go_meet
          case rel => exact ⟨by rw [hd.out], rfl⟩
        · have hd : Hid (decide (0 ≤ t ∧ t < (x.G.length : Int)) = false) := by show _ = _; simp; omega
          go_wp2_with fail
          go_meet
          case rel => exact ⟨by rw [hd.out], rfl⟩
      · have hai : t < 0 := by omega
        have hd : Hid (decide (0 ≤ t ∧ t < (x.G.length : Int)) = false) := by show _ = _; simp; omega
        go_wp2_with fail
        go_meet
        case rel => exact ⟨by rw [hd.out], rfl⟩
    case rest =>
      obtain ⟨rfl, rfl⟩ := hcut.out
      clear hcut
      go_upto_if 62 with fail
      go_cut [11] from 62 to 67 (fun v11 wx => ∃ (ga : Option Addr) (S : List Rw) (gc : Nat), v11 = .slice ga S.length gc ∧ Hid (W7 = wx ∧ TabAt W7 T t ⟨ga, S, gc⟩))
      case first =>
        obtain ⟨-, -, -, -, -, -, c9, c10, clt⟩ := Blk.cse HS7.out.2.1
        by_cases hd : 0 ≤ t ∧ t < (x.G.length : Int)
        · rw [decide_eq_true hd]
          obtain ⟨n, rfl⟩ := Int.eq_ofNat_of_zero_le hd.1
          have hn : n < x.G.length := by omega
          have hni : (n : Int) < (x.G.length : Int) := by omega
          have HTA : Hid (TabAt W7 T n x.G[n]) := by rw [← HT.out]; exact (HX.out.tab HSC.out hn).below HS7.out.1
          obtain ⟨bb, oo, ha2, -, q0⟩ := T3_at (HX.out.t.below HS7.out.1) hn
          rw [ha2] at c9
          generalize x.G[n] = g at HTA q0
          unfold Gr.h at q0
          clear hd
          go_wp2_with fail
          go_meet
          case rel => exact ⟨g.a, g.l, g.c, rfl, rfl, HTA.out⟩
        · rw [decide_eq_false hd]
          have HTA : Hid (TabAt W7 T t ⟨none, [], 0⟩) := TabAt.nil (by rw [← HT.out, List.length_map]; omega)
          clear hd
          go_wp2_with fail
          go_meet
          case rel => exact ⟨none, [], 0, rfl, rfl, HTA.out⟩
      case rest =>
        obtain ⟨sa, S, sc, rfl, hh⟩ := hcut
        obtain ⟨rfl, hta⟩ := hh.out
        have HTA := Lib.hid hta
        clear hh hta
        have hsl : S.length ≤ 60 := HTA.out.2.1
        have HRA : Hid (Run.rowsAt T t = S.map Rw.l) := HTA.out.2.2.2.2.symm
        go_upto_region 10 with fail
        have HF7 : Hid (FSt w W7 g3 x gm G' K A1 X A2 R T t sa S sc) := ⟨HS7.out.1, HS7.out.2.1, HS7.out.2.2.1, HTA.out, HS7.out.2.2.2⟩
        have HXS : Hid (Run.allFrom x.p.x.wh 0 (S.map Rw.l) = X) := by show _ = _; rw [← HRA.out]; exact HXX.out
        have HRL : Hid (R.length = X.length) := by show _ = _; have := congrArg List.length HRX.out; simpa using this
        have hxl : R.length ≤ 60 := by
          have := Run.allFrom_len x.p.x.wh (S.map Rw.l) 0
          rw [HXS.out, List.length_map] at this
          have := HRL.out
          omega
        clear HTA HS7 HXX
        go_loopw [12, 70] (fun v12 iv wr => ∃ i n : Nat, v12 = .int .i64 (n : Int) ∧ iv = .int .i64 (i : Int) ∧ i ≤ S.length ∧ n ≤ 60 ∧ Hid (n = (Run.allFrom x.p.x.wh 0 ((S.map Rw.l).take i)).length ∧ FSt w wr g3 x gm G' K A1 X A2 R T t sa S sc)) (fun _ iv _ => S.length - (intOf iv).toNat)
        case atStart => exact ⟨0, 0, rfl, rfl, Nat.zero_le _, Nat.zero_le _, rfl, HF7.out⟩
        case round =>
          obtain ⟨i, n, rfl, rfl, hi, hn60, HJ⟩ := hrel
          clear HF7
          by_cases hlt : i < S.length
          · have hii : (i : Int) < (S.length : Int) := by omega
            obtain ⟨bs, os, rfl, -, q0⟩ := rw_at HJ.out.2.tab.1.r hlt
            have hlm : i < (S.map Rw.l).length := by rw [List.length_map]; exact hlt
            obtain ⟨r, hr⟩ : ∃ r, S[i] = r := ⟨_, rfl⟩
            have HRW : Hid (RowOk wr r.a r.l ∧ r.l.length ≤ 12) := by
              rw [← hr]
              exact ⟨HJ.out.2.tab.1.in_ _ (List.getElem_mem hlt), HJ.out.2.tab.2.2.1 _ (List.getElem_mem hlt)⟩
            have hrl : (S.map Rw.l)[i] = r.l := by rw [List.getElem_map, hr]
            have HFA : Hid (Ev.holds r.l x.p.x.wh = true → X[n]? = some (i + 1, r.l)) := fun h => by
              have := Run.finds_at x.p.x.wh (S.map Rw.l) i hlm (by rw [hrl]; exact h)
              rwa [HXS.out, ← HJ.out.1, hrl] at this
            have HFN : Hid ((Run.allFrom x.p.x.wh 0 ((S.map Rw.l).take (i + 1))).length = n + if Ev.holds r.l x.p.x.wh then 1 else 0) := by
              have := Run.finds_next x.p.x.wh (S.map Rw.l) i hlm
              rwa [← HJ.out.1, hrl] at this
            rw [hr] at q0
            clear hr hrl hlm
            unfold Rw.v at q0
            obtain ⟨-, -, c3, -, -, -, -, -, clt⟩ := Blk.cse HJ.out.2.blk
            go_wp2_with fail
            clear c3 clt
            refine (rholds_any wr x.p.wa r.a x.p.wc r.c x.p.x.wh r.l (HX.out.q.wn.below HJ.out.2.bel) (fun n hn => nd_below15 (HX.out.q.nin n hn) HJ.out.2.bel) (by have := HSC.out.wh; omega) HRW.out.1).mono ?_
            rintro e Wa ⟨rfl, hB⟩
            have HFW : Hid (FSt w Wa g3 x gm G' K A1 X A2 R T t (some ⟨bs, os, none⟩) S sc) := HJ.out.2.below hB
            have HRA2 : Hid (ERow eVa Wa r.a r.l ∧ (∀ v ∈ r.l, v.ok)) := ⟨HRW.out.1.r.below hB, HRW.out.1.ok⟩
            have HR12 := Lib.hid HRW.out.2
            clear hB HRW q0
            cases hh : Ev.holds r.l x.p.x.wh with
            | false =>
              have HN : Hid (n = (Run.allFrom x.p.x.wh 0 ((S.map Rw.l).take (i + 1))).length) := by show _ = _; rw [HFN.out, hh]; rfl
              clear hh HFA HFN
              go_wp2_with fail
              go_roundw
              case rel => exact ⟨i + 1, n, rfl, by go_num, by omega, hn60, HN.out, HFW.out⟩
              case measure => simp [intOf]; omega
            | true =>
              have HXN := Lib.hid (HFA.out hh)
              have HN : Hid (n + 1 = (Run.allFrom x.p.x.wh 0 ((S.map Rw.l).take (i + 1))).length) := by show _ = _; rw [HFN.out, hh]; rfl
              clear hh HFA HFN
              obtain ⟨hnX, hxe⟩ := List.getElem?_eq_some_iff.1 HXN.out
              have hnR : n < R.length := by rw [HRL.out]; exact hnX
              have hnI : n < (X.map fun p => (p.1 : Int)).length := by rw [List.length_map]; exact hnX
              obtain ⟨b1, o1, rfl, -, q1⟩ := i64_at HFW.out.ids hnI
              rw [List.getElem_map, hxe] at q1
              obtain ⟨b2, o2, rfl, -, q2⟩ := rw_at HFW.out.rws hnR
              obtain ⟨r2, hr2⟩ : ∃ r, R[n] = r := ⟨_, rfl⟩
              have HR2 : Hid (ERow eVa Wa r2.a r.l ∧ r2.l = r.l) := by
                have h1 : (R.map Rw.l)[n]? = (X.map (·.2))[n]? := by rw [HRX.out]
                rw [List.getElem?_map, List.getElem?_map, HXN.out, List.getElem?_eq_getElem hnR, hr2] at h1
                have h2 : r2.l = r.l := Option.some.inj h1
                have h3 := HFW.out.all r2 (by rw [← hr2]; exact List.getElem_mem hnR)
                rw [h2] at h3
                exact ⟨h3, h2⟩
              rw [hr2] at q2
              have q1' : Wa.cell? ⟨b1, o1 + n, none⟩ = some (.int .i64 ((i : Int) + 1)) := by rw [q1]; simp
              have hni : (n : Int) < (R.length : Int) := by omega
              unfold Rw.v at q2
              clear q1 hxe hr2 hnI hnX
              go_wp2_with fail
              refine (show Calls _ _ #[.slice r2.a r2.l.length r2.c, .slice r.a r.l.length r.c] _ _ from by rw [HR2.out.2]; exact sameself_any Wa r2.a r.a r2.c r.c r.l HR2.out.1 HRA2.out.1 HRA2.out.2 (by have := HR12.out; omega)).mono ?_
              rintro e Wb ⟨rfl, hB⟩
              have HFB := Lib.hid (HFW.out.below hB)
              clear hB q1' q2 HFW
              go_wp2_with fail
              go_roundw
              case rel => exact ⟨i + 1, n + 1, rfl, by go_num, by omega, by omega, HN.out, HFB.out⟩
              case measure => simp [intOf]; omega
          · have hii : ¬ (i : Int) < (S.length : Int) := by omega
            have hnR : n = R.length := by
              rw [HJ.out.1, List.take_of_length_le (by rw [List.length_map]; omega), HXS.out, HRL.out]
            subst hnR
            have HF := Lib.hid HJ.out.2
            clear HJ hlt hi
            go_wp2_with fail
            refine (all_nil wr t (.slice none 0 0)).mono ?_
            rintro e Wa ⟨rfl, rfl⟩
            go_wp2_with fail
            refine (right_nil Wa t 0 (.slice ca cols.length cc)).mono ?_
            rintro e Wb ⟨rfl, hB⟩
            have HFB := Lib.hid (HF.out.below hB)
            clear hB HF
            obtain ⟨-, -, -, -, -, -, c9, c10, clt⟩ := Blk.cse HFB.out.blk
            go_upto_region 21 with fail
            clear c9 c10 clt hii
            go_loopw [144] (fun iv wr => ∃ j : Nat, j ≤ x.D.length ∧ iv = .int .i64 (j : Int) ∧ Hid (FSt w wr g3 x gm G' K A1 X A2 R T t sa S sc)) (fun iv _ => x.D.length - (intOf iv).toNat)
            case atStart => exact ⟨0, Nat.zero_le _, by go_num, HFB.out⟩
            case round =>
              obtain ⟨j, hj, rfl, HJ⟩ := hrel
              clear HFB
              by_cases hlt : j < x.D.length
              · have hii : (j : Int) < (x.D.length : Int) := by omega
                obtain ⟨bb, oo, hda, -, -⟩ := df_at HX.out.d hlt
                have HIW : Hid (ERow eDf wr (some ⟨bb, oo, none⟩) x.D) := by show ERow _ _ _ _; rw [← hda]; exact HX.out.d.below HJ.out.bel
                have HDI := Lib.hid (HX.out.din _ (List.getElem_mem hlt))
                have HDL := Lib.hid (HSC.out.dc _ (List.getElem_mem hlt))
                obtain ⟨d, hd⟩ : ∃ d, x.D[j] = d := ⟨_, rfl⟩
                have HD := Lib.hid hd
                have HDL : Hid (d.cols.length ≤ 6) := by rw [← hd]; exact HDL.out
                rw [hd] at HDI
                have HKI : Hid (Run.keysAt (K.map Run.keysG) j = Run.keysD T d) := by
                  show _ = _
                  rw [HKG.out]
                  unfold Run.keysAt
                  rw [if_pos ⟨by omega, by simpa using hlt⟩, List.getD_eq_getElem?_getD]
                  simp [hlt, hd]
                clear hd
                rw [hda]
                go_upto_region 23 with (first | (refine wpList_load_df_at rfl (.tmp 147) rfl HIW.out hlt d HD.out rfl ?_) | (refine wpList_alloc_df rfl rfl ?_; intro W6 hb6 hz6 hB6) | (refine wpList_store_df rfl rfl (.tmp 19) (.tmp 148) rfl wr.heap.size rfl d rfl hb6 ?_; intro Wa hb7 hg7))
                have HBW := Lib.hid (below_of_grown hB6 hg7 (Nat.le_refl _) hB6.size)
                have HFA := Lib.hid (HJ.out.below HBW.out)
                clear hb6 hz6 hB6 hg7 HIW HBW HJ HD
                generalize wr.heap.size = g7 at hb7 ⊢
                have HB7 := Lib.hid hb7
                clear hb7
                go_upto_region 24 with fail
                obtain ⟨u, hu⟩ : ∃ u, d.t = u := ⟨_, rfl⟩
                have HDT := Lib.hid hu
                clear hu
                go_cut [159] from 149 to 159 (fun v wx => Hid (v = .bool (decide (0 ≤ u ∧ u < (x.G.length : Int))) ∧ Wa = wx))
                case first =>
                  obtain ⟨-, -, -, -, -, -, c9, c10, clt⟩ := Blk.cse HFA.out.blk
                  have d0 := HB7.out.cell 0
                  simp only [Df.cells, List.getElem?_cons_zero] at d0
                  rw [HDT.out] at d0
                  clear HDT
                  by_cases ha0 : 0 ≤ u
                  · by_cases hn : u < (x.G.length : Int)
                    · have hd : Hid (decide (0 ≤ u ∧ u < (x.G.length : Int)) = true) := by show _ = _; simp [ha0, hn]
                      go_wp2_with fail
                      go_meet
                      case rel => exact ⟨by rw [hd.out], rfl⟩
                    · have hd : Hid (decide (0 ≤ u ∧ u < (x.G.length : Int)) = false) := by show _ = _; simp; omega
                      go_wp2_with fail
                      go_meet
                      case rel => exact ⟨by rw [hd.out], rfl⟩
                  · have hai : u < 0 := by omega
                    have hd : Hid (decide (0 ≤ u ∧ u < (x.G.length : Int)) = false) := by show _ = _; simp; omega
                    go_wp2_with fail
                    go_meet
                    case rel => exact ⟨by rw [hd.out], rfl⟩
                case rest =>
                  obtain ⟨rfl, rfl⟩ := hcut.out
                  clear hcut
                  go_upto_if 159 with fail
                  go_cut [20] from 159 to 165 (fun v wx => ∃ (ta : Option Addr) (U : List Rw) (tc : Nat), v = .slice ta U.length tc ∧ Hid (Wa = wx ∧ TabAt Wa T u ⟨ta, U, tc⟩))
                  case first =>
                    obtain ⟨-, -, -, -, -, -, c9, c10, clt⟩ := Blk.cse HFA.out.blk
                    have d0 := HB7.out.cell 0
                    simp only [Df.cells, List.getElem?_cons_zero] at d0
                    rw [HDT.out] at d0
                    clear HDT
                    by_cases hd : 0 ≤ u ∧ u < (x.G.length : Int)
                    · rw [decide_eq_true hd]
                      obtain ⟨n, rfl⟩ := Int.eq_ofNat_of_zero_le hd.1
                      have hn : n < x.G.length := by omega
                      have hni : (n : Int) < (x.G.length : Int) := by omega
                      have HTA : Hid (TabAt Wa T n x.G[n]) := by rw [← HT.out]; exact (HX.out.tab HSC.out hn).below HFA.out.bel
                      obtain ⟨bb, oo, ha2, -, q0⟩ := T3_at (HX.out.t.below HFA.out.bel) hn
                      rw [ha2] at c9
                      generalize x.G[n] = g at HTA q0
                      unfold Gr.h at q0
                      clear hd
                      go_wp2_with fail
                      go_meet
                      case rel => exact ⟨g.a, g.l, g.c, rfl, rfl, HTA.out⟩
                    · rw [decide_eq_false hd]
                      have HTA : Hid (TabAt Wa T u ⟨none, [], 0⟩) := TabAt.nil (by rw [← HT.out, List.length_map]; omega)
                      clear hd
                      go_wp2_with fail
                      go_meet
                      case rel => exact ⟨none, [], 0, rfl, rfl, HTA.out⟩
                  case rest =>
                    obtain ⟨ta, U, tc, rfl, hh⟩ := hcut
                    obtain ⟨rfl, hta⟩ := hh.out
                    have HTA := Lib.hid hta
                    clear hh hta
                    have hul : U.length ≤ 60 := HTA.out.2.1
                    have d1 := HB7.out.cell 1
                    simp only [Df.cells, List.getElem?_cons_zero, List.getElem?_cons_succ] at d1
                    obtain ⟨M, hMD⟩ : ∃ M, Run.keysD T d = M := ⟨_, rfl⟩
                    have HKM : Hid (Run.keys d.cols (U.map Rw.l) = M) := by
                      show _ = _
                      rw [← hMD]
                      unfold Run.keysD
                      rw [HDT.out, ← HTA.out.2.2.2.2]
                    rw [hMD] at HKI
                    clear hMD
                    have HML : Hid (M.length = U.length) := by show _ = _; rw [← HKM.out, Run.keys_length, List.length_map]
                    go_wp2_with fail
                    have h := dkeys_any Wa d.a d.c d.cols (HDI.out.1.below HFA.out.bel) (by have := HDL.out; omega) ta tc U HTA.out.1.r (fun r hr => ⟨HTA.out.1.in_ r hr, HTA.out.2.2.2.1 r hr⟩) (by omega)
                    rw [HKM.out] at h
                    refine h.mono ?_
                    clear h d1
                    rintro e Wb ⟨A6, c6, rfl, hr6, hB⟩
                    have HFB := Lib.hid (HFA.out.below hB)
                    have HR6 := Lib.hid hr6
                    have hml : M.length ≤ 60 := by have := HML.out; omega
                    clear hr6 hB HFA HTA HB7 HDI HDL HKM HML HDT hul
                    go_wp2_with fail
                    obtain ⟨N, hN⟩ : ∃ N, Run.keys cols (S.map Rw.l) = N := ⟨_, rfl⟩
                    have HN := Lib.hid hN
                    have hnl : N.length ≤ 60 := by rw [← hN, Run.keys_length, List.length_map]; exact hsl
                    have h := dkeys_any Wb ca cc cols (HC.out.1.below HFB.out.bel) (by omega) sa sc S HFB.out.tab.1.r (fun r hr => ⟨HFB.out.tab.1.in_ r hr, HFB.out.tab.2.2.2.1 r hr⟩) (by omega)
                    rw [hN] at h
                    clear hN
                    refine h.mono ?_
                    clear h
                    rintro e Wc ⟨A7, c7, rfl, hr7, hB⟩
                    have HFC : Hid (FSt w Wc g3 x gm G' K A1 X A2 R T t sa S sc ∧ ERow eS18 Wc A6 M ∧ ERow eS18 Wc A7 N) := ⟨HFB.out.below hB, HR6.out.below hB, hr7⟩
                    clear hr7 hB HFB HR6
                    go_upto_region 29 with fail
                    have HS0 : Hid (Run.SameTo M N 0 ((M.length : Int) == (N.length : Int))) := by
                      rw [show ((M.length : Int) == (N.length : Int)) = decide (M.length = N.length) by rw [Bool.eq_iff_iff]; simp; omega]
                      exact Run.SameTo.start M N
                    go_loopw [23, 24] (fun sv kv wq => ∃ (s : Bool) (k : Nat), sv = .bool s ∧ kv = .int .i64 (k : Int) ∧ k ≤ M.length ∧ Hid (Run.SameTo M N k s ∧ FSt w wq g3 x gm G' K A1 X A2 R T t sa S sc ∧ ERow eS18 wq A6 M ∧ ERow eS18 wq A7 N)) (fun _ kv _ => M.length - (intOf kv).toNat)
                    case atStart => exact ⟨_, 0, rfl, by go_num, Nat.zero_le _, HS0.out, HFC.out⟩
                    case round =>
                      obtain ⟨s, k, rfl, rfl, hk, HJ⟩ := hrel
                      clear HS0 HFC
                      by_cases hsk : s = true ∧ k < M.length
                      · obtain ⟨rfl, hkM⟩ := hsk
                        have hki : (k : Int) < (M.length : Int) := by omega
                        have hkN : k < N.length := by have := (HJ.out.1.1 rfl).1; omega
                        obtain ⟨b6, o6, rfl, -, q6⟩ := s18_at HJ.out.2.2.1 hkM
                        obtain ⟨b7, o7, rfl, -, q7⟩ := s18_at HJ.out.2.2.2 hkN
                        have HN2 := Lib.hid (HJ.out.1.next hkM hkN)
                        have HR2 := Lib.hid HJ.out.2
                        generalize M[k] = mk at q6 HN2
                        generalize N[k] = nk at q7 HN2
                        have keq := run_str_eq
                        have geq := eqg_eq
                        clear HJ
                        go_upto_region 31 with fail
                        go_upto_region 30 with (go_quiet (fail))
                        have HR3 : Hid (FSt w (wr.drewN nq) g3 x gm G' K A1 X A2 R T t sa S sc ∧ ERow eS18 (wr.drewN nq) (some ⟨b6, o6, none⟩) M ∧ ERow eS18 (wr.drewN nq) (some ⟨b7, o7, none⟩) N) := by
                          have hB : Below wr.heap.size wr (wr.drewN nq) := below_drewN18 (Below.refl _ _) _
                          exact ⟨HR2.out.1.below hB, HR2.out.2.1.below hB, HR2.out.2.2.below hB⟩
                        clear q6 q7 HR2
                        go_wp2_with fail
                        go_roundw
                        case rel => exact ⟨_, k + 1, rfl, by go_num, by omega, HN2.out, HR3.out⟩
                        case measure => simp [intOf]; omega
                      · have HD : Hid (s = decide (M = N)) := HJ.out.1.done fun h hkk => hsk ⟨h, hkk⟩
                        have HF := Lib.hid HJ.out.2.1
                        cases s with
                        | false =>
                          clear HJ hsk
                          go_wp2_with fail
                          have h := right_any wr gm G' K HF.out.mem HSO.out t (j : Int) ca cc cols (HC.out.1.below HF.out.bel) HC.out.2 (by omega)
                          rw [HKI.out, HG'.out, HRA.out, HN.out, ← HD.out] at h
                          refine h.mono ?_
                          clear h
                          rintro e Wd ⟨rfl, hB⟩
                          have HFD := Lib.hid (HF.out.below hB)
                          clear hB HF
                          go_wp2_with fail
                          go_roundw
                          case rel => exact ⟨j + 1, by omega, by go_num, HFD.out⟩
                          case measure => simp [intOf]; omega
                        | true =>
                          have hki : ¬ (k : Int) < (M.length : Int) := fun h => hsk ⟨rfl, by omega⟩
                          clear HJ hsk
                          go_wp2_with fail
                          have h := right_any wr gm G' K HF.out.mem HSO.out t (j : Int) ca cc cols (HC.out.1.below HF.out.bel) HC.out.2 (by omega)
                          rw [HKI.out, HG'.out, HRA.out, HN.out, ← HD.out] at h
                          refine h.mono ?_
                          clear h
                          rintro e Wd ⟨rfl, hB⟩
                          have HFD := Lib.hid (HF.out.below hB)
                          clear hB HF
                          go_wp2_with fail
                          go_roundw
                          case rel => exact ⟨j + 1, by omega, by go_num, HFD.out⟩
                          case measure => simp [intOf]; omega
              · have hii : ¬ (j : Int) < (x.D.length : Int) := by omega
                go_wp2_with fail
                go_ret
                exact ⟨rfl, HJ.out.bel⟩
end Go.Proofs.YtpahkaffknnjhaaGreatDoor
end

