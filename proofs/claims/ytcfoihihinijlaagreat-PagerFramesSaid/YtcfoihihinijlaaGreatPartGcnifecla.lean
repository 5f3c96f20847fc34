/-
  Texts of a proof, one behind the other (each with its own head).
-/
import Derived.Test.YtcfoihihinijlaaGreatPartFcnlfpabh
section
namespace Go.Proofs.YtcfoihihinijlaaGreat
set_option linter.unusedSimpArgs false
set_option linter.unusedVariables false
open Go.RowKit Go.Maps
set_option maxRecDepth 20000 in
set_option maxHeartbeats 4000000 in
theorem rfree_any (w : World) (s : Pag.Sto) (a : SA) (hr : StoR w s a) (n : Int) (h1 : s.now.1.length ≤ 1000) (h2 : s.put.length ≤ 1000) : Calls Tryz.prog 78 #[stoV s a, .int .i64 n] w (RetSto w (s.free n).1 (s.free n).2) := by
  obtain ⟨pages, most, ⟨L1, r1⟩, ⟨L2, r2⟩, b, pl, own⟩ := s
  obtain ⟨a1, c1, a2, c2, a3, c3⟩ := a
  have HR := Lib.hid hr
  clear hr
  unfold stoV
  obtain ⟨t1, ht1⟩ : ∃ t1, txt r1 = .string t1 := ⟨_, rfl⟩
  obtain ⟨t2, ht2⟩ : ∃ t2, txt r2 = .string t2 := ⟨_, rfl⟩
  have HT := Lib.hid (And.intro ht1 ht2)
  simp only [ht1, ht2]
  clear ht1 ht2
  go_enter Tryz.func78, Tryz.ntmps78
  go_upto_region 1 with fail
  have h1 : L2.length ≤ 1000 := h1
  have h2 : pl.length ≤ 1000 := h2
  have HLE := Lib.hid (And.intro h1 h2)
  clear h1 h2
  generalize hW1 : ((World.alloc w (.cells _ _)).alloc (.cells _ _)) = W1
  obtain ⟨ba1, bb1, hz1, hB1⟩ := fresh2 hW1
  clear hW1
  have hx := Blk.c9 ba1
  have hy := Blk.c9 bb1
  have hat := rat_any W1 a2 c2 L2 r2 n (HR.out.now.below hB1)
  rw [HT.out.2] at hat
  have HAT := Lib.hid hat
  have H1 := Lib.hid (And.intro (R2.new bb1 hB1) (And.intro ba1 bb1))
  clear ba1 bb1 hz1 hB1 hat
  go_wp2_with fail
  refine HAT.out.mono ?_
  rintro e w2 ⟨rfl, hb2⟩
  have H2 := Lib.hid (And.intro (H1.out.1.below hb2) (And.intro (H1.out.2.1.below hb2) (H1.out.2.2.below hb2)))
  have hx := Blk.c9 H2.out.2.1
  have hy := Blk.c9 H2.out.2.2
  clear hb2 HAT H1
  cases b with
  | false =>
    have HE : Hid (Pag.Sto.free ⟨pages, most, ⟨L1, r1⟩, ⟨L2, r2⟩, false, pl, own⟩ n = (⟨pages, most, ⟨L1, r1⟩, ⟨L2, r2⟩, false, pl, own⟩, 3)) := rfl
    go_wp2_with fail
    rw [HE.out]
    simp only [← HT.out.1, ← HT.out.2]
    refine R2.ret (by repeat (first | exact H2.out.1 | refine R2.set ?_ _ _)) ⟨pages, most, ⟨L1, r1⟩, ⟨L2, r2⟩, false, pl, own⟩ ⟨a1, c1, a2, c2, a3, c3⟩ (fun W' hB _ _ => ?_) rfl rfl rfl rfl
    exact HR.out.below hB
  | true =>
    cases hb : Pag.atB L2 n with
    | false =>
      have HE : Hid (Pag.Sto.free ⟨pages, most, ⟨L1, r1⟩, ⟨L2, r2⟩, true, pl, own⟩ n = (⟨pages, most, ⟨L1, r1⟩, ⟨L2, r2⟩, true, pl, own⟩, 2)) := by show _ = _; unfold Pag.Sto.free; rw [if_neg (by simp), if_pos hb]
      clear hb
      go_wp2_with fail
      rw [HE.out]
      simp only [← HT.out.1, ← HT.out.2]
      refine R2.ret (by repeat (first | exact H2.out.1 | refine R2.set ?_ _ _)) ⟨pages, most, ⟨L1, r1⟩, ⟨L2, r2⟩, true, pl, own⟩ ⟨a1, c1, a2, c2, a3, c3⟩ (fun W' hB _ _ => ?_) rfl rfl rfl rfl
      exact HR.out.below hB
    | true =>
      have hlt := Pag.atB_lt hb
      have HE : Hid (Pag.Sto.free ⟨pages, most, ⟨L1, r1⟩, ⟨L2, r2⟩, true, pl, own⟩ n = (⟨pages, most, ⟨L1, r1⟩, ⟨L2.take (Pag.atI L2 n) ++ L2.drop (Pag.atI L2 n + 1), r2⟩, true, Pag.withoutL pl n, true⟩, 0)) := by show _ = _; unfold Pag.Sto.free; rw [if_neg (by simp), if_neg (by rw [hb]; simp)]
      obtain ⟨i, hi⟩ : ∃ i, Pag.atI L2 n = i := ⟨_, rfl⟩
      rw [hi] at hlt HE ⊢
      have hnow := HR.out.now
      have hcap : L2.length ≤ c2 := hnow.cap
      have hrw2 : ERow ePgE w2 a2 L2 := hnow.row.below H2.out.1.bel
      obtain ⟨As, cs, hs3, hrow3, -, -⟩ := cutE_l ePgE hrw2 c2 ((i : Int) + 1) (i + 1) (by omega) (by omega) hcap
      have hs3 : ∀ w, (Instr.slice 34 (.slice a2 L2.length c2) (some (.int .i64 ((i : Int) + 1))) none none).run Tryz.prog w = .ok (.slice As (L2.length - (i + 1)) cs) w := hs3
      have hs2 : ∀ w, (Instr.slice 34 (.slice a2 L2.length c2) none (some (.int .i64 (i : Int))) none).run Tryz.prog w = .ok (.slice a2 i c2) w := cutE_h ePgE a2 L2.length c2 (i : Int) i rfl (by omega)
      have hi1000 : i ≤ 1000 := by have := HLE.out.1; omega
      obtain ⟨T, hT⟩ : ∃ T, L2.take i = T := ⟨_, rfl⟩
      obtain ⟨K, hK⟩ : ∃ K, L2.drop (i + 1) = K := ⟨_, rfl⟩
      have hli : i = T.length := by rw [← hT, List.length_take]; omega
      have hkl : L2.length - (i + 1) = K.length := by rw [← hK, List.length_drop]
      have hkl2 : K.length ≤ 1000 := by have := HLE.out.1; omega
      have htr := hrw2.take i
      rw [hT] at htr HE
      rw [hK] at hrow3 HE
      have HTR := Lib.hid (And.intro htr hrow3)
      have HKL := Lib.hid hkl
      have hiw : (i : Int) + 1 ≤ 9223372036854775807 := by omega
      subst hli
      have hb3 : Below w2.heap.size w2 (w2.alloc (.cells #[] 132)) := Below.alloc1 _ _
      have H3 := Lib.hid (And.intro (EOwn.lit0 ePgE (w := w2) (Nat.le_refl _)) (And.intro (HTR.out.1.below hb3) hb3))
      clear hb3 hb hi hnow hrw2 hrow3 hT hK htr hkl
      go_upto_region 7 with (at_builtin; refine wpList_append_elems ePgE rfl (.tmp 25) (.tmp 30) rfl _ rfl H3.out.1 rfl _ rfl H3.out.2.1 rfl (by simp; omega) H3.out.2.2.size ?_; intro A5 c5 w5 ho5 hb5 hg5 _)
      have hb52 : Below w2.heap.size w2 w5.drew := (H3.out.2.2.trans hb5).drewR
      have ho5' : EOwn ePgE w5 w2.heap.size A5 c5 T := by simpa using ho5
      have HLN : Hid (T.length + K.length ≤ 1073741824) := by show _ ≤ _; omega
      have H5 : Hid (EOwn ePgE w5.drew w2.heap.size A5 c5 T ∧ ERow ePgE w5.drew As K ∧ w2.heap.size ≤ w5.drew.heap.size ∧ Below w2.heap.size w2 w5.drew) := ⟨ho5', HTR.out.2.below hb52, hb52.size, hb52⟩
      have hx := Blk.c9 (H2.out.2.1.below hb52)
      have hy := Blk.c9 (H2.out.2.2.below hb52)
      clear ho5 ho5' hb5 hg5 hb52 H3
      refine wp_region_plan (.take 0 (.take 1 (.take 2 (.take 3 (.take 4 (.take 5 (.take 6 (.take 8 (.take 9 (.take 10 (.run 7 [8, 9, 10] (.take 11 (.take 12 (.run 13 [] .fin)))))))))))))) (by kernel_rfl) (by kernel_rfl) (by kernel_rfl) (by kernel_rfl) ?_
      repeat' (first | (refine hZ _ _ ?_; clear hZ) | (refine hZ _ ?_; clear hZ) | (refine hZ ?_; clear hZ) | rw [again_nil] | rw [walk_fin] | ((first | rw [walk_take] | rw [walk_run] | rw [again_cons]); intro Z hZ; simp only [sel, List.getElem?_toArray, List.getElem?_cons_zero, List.getElem?_cons_succ]; go_wp2_with (at_builtin; refine wpList_append_elems ePgE rfl (.tmp 32) (.tmp 38) rfl _ rfl H5.out.1 rfl _ rfl H5.out.2.1 HKL.out HLN.out H5.out.2.2.1 ?_; intro A9 c9 w9 HO9 HB9 HG9 _; have hx := Blk.c9 (H2.out.2.1.below (H5.out.2.2.2.trans HB9)); have hy := Blk.c9 (H2.out.2.2.below (H5.out.2.2.2.trans HB9)))))
      have hb9 : Below w2.heap.size w2 w9 := H5.out.2.2.2.trans HB9
      have hlo : w.heap.size + 1 < w2.heap.size := H2.out.2.2.lt
      have H9 : Hid (R2 w ((w9.setCell ⟨w.heap.size, 4, none⟩ (.slice A9 (T.length + K.length) c9)).setCell ⟨w.heap.size, 5, none⟩ (.string t2)) ∧
          Blk ((w9.setCell ⟨w.heap.size, 4, none⟩ (.slice A9 (T.length + K.length) c9)).setCell ⟨w.heap.size, 5, none⟩ (.string t2)) w.heap.size 39 [.int .i64 pages, .int .i64 most, .slice a1 L1.length c1, .string t1, .slice A9 (T.length + K.length) c9, .string t2, .bool true, .slice a3 pl.length c3, .bool own] ∧
          Blk ((w9.setCell ⟨w.heap.size, 4, none⟩ (.slice A9 (T.length + K.length) c9)).setCell ⟨w.heap.size, 5, none⟩ (.string t2)) (w.heap.size + 1) 39 [.int .i64 0, .int .i64 0, .slice none 0 0, .string ⟨#[]⟩, .slice none 0 0, .string ⟨#[]⟩, .bool false, .slice none 0 0, .bool false] ∧
          EOwn ePgE ((w9.setCell ⟨w.heap.size, 4, none⟩ (.slice A9 (T.length + K.length) c9)).setCell ⟨w.heap.size, 5, none⟩ (.string t2)) w2.heap.size A9 c9 (T ++ K) ∧ w.heap.size + 1 < w2.heap.size) :=
        ⟨((H2.out.1.below hb9).set _ _).set _ _, ((H2.out.2.1.below hb9).set 4 _).set 5 _, ((H2.out.2.2.below hb9).other _ (by show w.heap.size + 1 ≠ w.heap.size; omega) _).other _ (by show w.heap.size + 1 ≠ w.heap.size; omega) _, (HO9.low (by omega) _).low (by omega) _, hlo⟩
      clear hb9 hlo HB9 HG9 HO9 H5 hx hy hs2 hs3 HKL HLN
      generalize ((w9.setCell ⟨w.heap.size, 4, none⟩ (.slice A9 (T.length + K.length) c9)).setCell ⟨w.heap.size, 5, none⟩ (.string t2)) = w10 at H9 ⊢
      have hx := Blk.c9 H9.out.2.1
      have hy := Blk.c9 H9.out.2.2.1
      have hwo := rwithout_any w10 a3 c3 pl n (HR.out.put.row.below H9.out.1.bel) HLE.out.2
      have HWO := Lib.hid hwo
      clear hwo H2
      go_wp2_with fail
      refine HWO.out.mono ?_
      rintro e w11 ⟨A4, c4, rfl, ho4, hb4⟩
      have hlo4 : w.heap.size + 1 < w10.heap.size := H9.out.2.2.1.lt
      have H11 := Lib.hid (And.intro (H9.out.1.below hb4) (And.intro (H9.out.2.1.below hb4) (And.intro (H9.out.2.2.1.below hb4) (And.intro (H9.out.2.2.2.1.below hb4) (And.intro ho4 (And.intro H9.out.2.2.2.2 hlo4))))))
      have hx := Blk.c9 H11.out.2.1
      have hy := Blk.c9 H11.out.2.2.1
      clear ho4 hb4 hlo4 HWO H9
      go_wp2_with fail
      rw [HE.out]
      simp only [← HT.out.1, ← HT.out.2]
      have hlen : (T ++ K).length = T.length + K.length := List.length_append
      rw [← hlen]
      refine R2.ret (by repeat (first | exact H11.out.1 | refine R2.set ?_ _ _)) ⟨pages, most, ⟨L1, r1⟩, ⟨T ++ K, r2⟩, true, Pag.withoutL pl n, true⟩ ⟨a1, c1, A9, c9, A4, c4⟩ (fun W' hB hk _ => ?_) rfl rfl rfl rfl
      obtain ⟨-, -, -, h3, h4, h5, h6⟩ := H11.out
      exact ⟨HR.out.sure.below hB, EOwn.last ((h3.low (by omega) _).low (by omega) _) h5 hk, EOwn.last ((h4.low (by omega) _).low (by omega) _) h6 hk⟩
end Go.Proofs.YtcfoihihinijlaaGreat
end

section
namespace Go.Proofs.YtcfoihihinijlaaGreat
set_option linter.unusedSimpArgs false
set_option linter.unusedVariables false
open Go.RowKit Go.Maps
theorem freeN_more {L : List PgE} {n : Int} {k : Nat} (h : Pag.atB L n = true) : Pag.Sto.freeN L n (k + 1) = Pag.Sto.freeN L (n + 1) k := if_neg (by rw [h]; simp)
theorem freeN_here {L : List PgE} {n : Int} {k : Nat} (h : Pag.atB L n = false) : Pag.Sto.freeN L n (k + 1) = some n := if_pos h
def RetStoN (w : World) (r : Pag.Sto × Int × Int) (e : Ending) (w' : World) : Prop := ∃ a, e = .returned (.tuple #[stoV r.1 a, .int .i64 r.2.1, .int .i64 r.2.2]) ∧ StoR w' r.1 a ∧ Below w.heap.size w w'
theorem R2.retN {fn : Func} {a : Act} {w W : World} {p u u' : Tmp} {r : Pag.Sto × Int × Int} (h : R2 w W) (s : Pag.Sto) (A : SA) (m c : Int) (hr : r = (s, m, c)) (hs : ∀ W', Below w.heap.size w W' → (∀ i < W.heap.size, i ≠ w.heap.size + 1 → W'.heap[i]? = W.heap[i]?) → W.heap.size ≤ W'.heap.size → StoR W' s A) (hf : fn.results = #[.cell p 39, .tmp u, .tmp u']) (hd : a.defers = [])
    (hp : a.tmps.getD p undef = .pointer (some ⟨w.heap.size + 1, 0, none⟩)) (hu : a.tmps.getD u undef = .int .i64 m) (hu' : a.tmps.getD u' undef = .int .i64 c) :
    bodyPost Tryz.prog fn (RetStoN w r) .ret a (((((((((W.setCell ⟨w.heap.size + 1, 0, none⟩ (.int .i64 s.pages)).setCell ⟨w.heap.size + 1, 1, none⟩ (.int .i64 s.most)).setCell ⟨w.heap.size + 1, 2, none⟩ (.slice A.a1 s.sure.1.length A.c1)).setCell ⟨w.heap.size + 1, 3, none⟩ (txt s.sure.2)).setCell ⟨w.heap.size + 1, 4, none⟩ (.slice A.a2 s.now.1.length A.c2)).setCell ⟨w.heap.size + 1, 5, none⟩ (txt s.now.2)).setCell ⟨w.heap.size + 1, 6, none⟩ (.bool s.in_)).setCell ⟨w.heap.size + 1, 7, none⟩ (.slice A.a3 s.put.length A.c3)).setCell ⟨w.heap.size + 1, 8, none⟩ (.bool s.own)) := by
  subst hr
  obtain ⟨hb, hB⟩ := h.set9 s A
  refine ret_mem3 hf hd hp hu hu' (sto_mem hb) ⟨A, rfl, hs _ hB (fun i _ hi => ?_) ?_, hB⟩
  · simp only [heap_setCell_other _ ⟨w.heap.size + 1, _, none⟩ i _ hi]
  · simp
set_option maxRecDepth 20000 in
set_option maxHeartbeats 4000000 in
theorem ralloc_any (w : World) (s : Pag.Sto) (a : SA) (hr : StoR w s a) (P : Nat) (hP : s.pages = (P : Int)) (hP2 : P ≤ 1000) (h1 : s.now.1.length ≤ 1000) (h2 : s.put.length ≤ 1000) : Calls Tryz.prog 76 #[stoV s a] w (RetStoN w s.alloc) := by
  obtain ⟨pages, most, ⟨L1, r1⟩, ⟨L2, r2⟩, b, pl, own⟩ := s
  obtain ⟨a1, c1, a2, c2, a3, c3⟩ := a
  have HR := Lib.hid hr
  clear hr
  unfold stoV
  obtain ⟨t1, ht1⟩ : ∃ t1, txt r1 = .string t1 := ⟨_, rfl⟩
  obtain ⟨t2, ht2⟩ : ∃ t2, txt r2 = .string t2 := ⟨_, rfl⟩
  have HT := Lib.hid (And.intro ht1 ht2)
  simp only [ht1, ht2]
  clear ht1 ht2
  go_enter Tryz.func76, Tryz.ntmps76
  go_upto_region 1 with fail
  have h1 : L2.length ≤ 1000 := h1
  have h2 : pl.length ≤ 1000 := h2
  have hP : pages = (P : Int) := hP
  subst hP
  have HLE := Lib.hid (And.intro h1 h2)
  have HP := Lib.hid hP2
  clear h1 h2
  generalize hW1 : ((World.alloc w (.cells _ _)).alloc (.cells _ _)) = W1
  obtain ⟨ba1, bb1, hz1, hB1⟩ := fresh2 hW1
  clear hW1
  have hx := Blk.c9 ba1
  have hy := Blk.c9 bb1
  have HW := Lib.hid (And.intro (R2.new bb1 hB1) (And.intro ba1 bb1))
  clear ba1 bb1 hz1 hB1
  cases b with
  | false =>
    go_wp2_with fail
    simp only [← HT.out.1, ← HT.out.2]
    refine R2.retN (by repeat (first | exact HW.out.1 | refine R2.set ?_ _ _)) ⟨(P : Int), most, ⟨L1, r1⟩, ⟨L2, r2⟩, false, pl, own⟩ ⟨a1, c1, a2, c2, a3, c3⟩ 0 3 rfl (fun W' hB _ _ => ?_) rfl rfl rfl rfl rfl
    exact HR.out.below hB
  | true =>
    have HA : Hid (Pag.Sto.alloc ⟨(P : Int), most, ⟨L1, r1⟩, ⟨L2, r2⟩, true, pl, own⟩ = match Pag.Sto.freeN L2 1 P with
      | some n => (⟨(P : Int), most, ⟨L1, r1⟩, ⟨Pag.layL L2 n (List.replicate 512 0), r2⟩, true, Pag.putL pl n, true⟩, n, 0)
      | none => (⟨(P : Int), most, ⟨L1, r1⟩, ⟨L2, r2⟩, true, pl, own⟩, 0, 5)) := rfl
    go_wp2_with fail
    go_loopw [5] (fun iv wr => ∃ i : Nat, 1 ≤ i ∧ i ≤ P + 1 ∧ iv = .int .i64 (i : Int) ∧ Hid (Pag.Sto.freeN L2 1 P = Pag.Sto.freeN L2 (i : Int) (P + 1 - i) ∧ R2 w wr ∧ Blk wr w.heap.size 39 [.int .i64 (P : Int), .int .i64 most, .slice a1 L1.length c1, .string t1, .slice a2 L2.length c2, .string t2, .bool true, .slice a3 pl.length c3, .bool own] ∧
      Blk wr (w.heap.size + 1) 39 [.int .i64 0, .int .i64 0, .slice none 0 0, .string ⟨#[]⟩, .slice none 0 0, .string ⟨#[]⟩, .bool false, .slice none 0 0, .bool false])) (fun iv _ => P + 1 - (intOf iv).toNat)
    case atStart => exact ⟨1, Nat.le_refl _, by omega, by go_num, by rw [Nat.add_sub_cancel]; rfl, HW.out⟩
    case round =>
      obtain ⟨i, hi1, hi2, rfl, HS⟩ := hrel
      have hx := Blk.c9 HS.out.2.2.1
      have hy := Blk.c9 HS.out.2.2.2
      by_cases hlt : i ≤ P
      · have hlti : (i : Int) ≤ (P : Int) := by omega
        have hat := rat_any wr a2 c2 L2 r2 (i : Int) (HR.out.now.below HS.out.2.1.bel)
        rw [HT.out.2] at hat
        have HAT := Lib.hid hat
        clear hat
        go_wp2_with fail
        refine HAT.out.mono ?_
        rintro e w2 ⟨rfl, hb2⟩
        have HF := Lib.hid HS.out.1
        have H2 := Lib.hid (And.intro (HS.out.2.1.below hb2) (And.intro (HS.out.2.2.1.below hb2) (HS.out.2.2.2.below hb2)))
        have hx := Blk.c9 H2.out.2.1
        have hy := Blk.c9 H2.out.2.2
        have hk : P + 1 - i = (P + 1 - (i + 1)) + 1 := by omega
        clear hb2 HAT HS
        cases hb : Pag.atB L2 (i : Int) with
        | true =>
          have HF2 : Hid (Pag.Sto.freeN L2 1 P = Pag.Sto.freeN L2 ((i + 1 : Nat) : Int) (P + 1 - (i + 1))) := by
            show _ = _
            rw [HF.out, hk, freeN_more hb]
            rfl
          clear hb hk HF
          go_wp2_with fail
          go_roundw
          case rel => exact ⟨i + 1, by omega, by omega, by go_num, HF2.out, H2.out⟩
          case measure => simp [intOf]; omega
        | false =>
          have HE : Hid (Pag.Sto.alloc ⟨(P : Int), most, ⟨L1, r1⟩, ⟨L2, r2⟩, true, pl, own⟩ = (⟨(P : Int), most, ⟨L1, r1⟩, ⟨Pag.layL L2 (i : Int) (List.replicate 512 0), r2⟩, true, Pag.putL pl (i : Int), true⟩, (i : Int), 0)) := by
            show _ = _
            rw [HA.out, HF.out, hk, freeN_here hb]
          clear hb hk HF HA
          obtain ⟨ZZ, hZ⟩ : ∃ ZZ, List.replicate 512 (0 : UInt8) = ZZ := ⟨_, rfl⟩
          have HZL : Hid (512 = ZZ.length) := by show _ = _; rw [← hZ]; simp
          rw [hZ] at HE
          have HZ := Lib.hid hZ
          clear hZ
          go_upto_region 8 with fail
          refine wp_region_plan (.take 0 (.take 1 (.take 2 (.take 6 (.take 7 (.take 8 (.run 3 [0, 1, 2, 6, 7, 8] (.take 4 (.run 5 [6, 7, 8] (.take 10 (.run 9 [10] (.run 11 [] (.take 12 (.run 13 [] (.take 14 (.run 15 [] .fin)))))))))))))))) (by kernel_rfl) (by kernel_rfl) (by kernel_rfl) (by kernel_rfl) ?_
          repeat' (first | (refine hZ _ _ ?_; clear hZ) | (refine hZ _ ?_; clear hZ) | (refine hZ ?_; clear hZ) | rw [again_nil] | rw [walk_fin] | ((first | rw [walk_take] | rw [walk_run] | rw [again_cons]); intro Z hZ; simp only [sel, List.getElem?_toArray, List.getElem?_cons_zero, List.getElem?_cons_succ]; go_wp2_with (first | (refine wpList_make_zeros (B := 0) rfl _ _ rfl _ _ _ _ 512 rfl rfl rfl rfl (by decide) (Nat.zero_le _) ?_; intro W3 HO3 hb3; rw [HZ.out] at HO3; have HB3 : Hid (Below w2.heap.size w2 W3) := ((Below.refl _ _).drew.trans hb3); have hx := Blk.c9 (H2.out.2.1.below HB3.out); have hy := Blk.c9 (H2.out.2.2.below HB3.out); clear hb3) | (refine wpList_str_of rfl (.tmp 30) rfl rfl HZL.out HO3.row ?_))))
          have hlay := rlay_any W3 a2 c2 L2 r2 (i : Int) ZZ (HR.out.now.below (H2.out.1.bel.then HB3.out)) HLE.out.1
          rw [HT.out.2] at hlay
          have H3a := Lib.hid (And.intro (H2.out.1.below HB3.out) (And.intro (H2.out.2.1.below HB3.out) (H2.out.2.2.below HB3.out)))
          clear HO3 HB3 H2
          refine hlay.mono ?_
          rintro e w3 ⟨A3, c3', rfl, ho3, hb3⟩
          have hput := rput_any w3 a3 c3 pl (i : Int) (HR.out.put.row.below ((H3a.out.1.bel.then hb3))) HLE.out.2
          have HPUT := Lib.hid hput
          have hlo : w.heap.size + 1 < W3.heap.size := H3a.out.2.2.lt
          have H3 := Lib.hid (And.intro (H3a.out.1.below hb3) (And.intro (H3a.out.2.1.below hb3) (And.intro (H3a.out.2.2.below hb3) (And.intro ho3 hlo))))
          have hx := Blk.c9 H3.out.2.1
          have hy := Blk.c9 H3.out.2.2.1
          rw [HT.out.2]
          clear hput hlo hb3 ho3 hlay H3a
          go_wp2_with fail
          repeat' (first | (refine hZ _ _ ?_; clear hZ) | (refine hZ _ ?_; clear hZ) | (refine hZ ?_; clear hZ) | rw [again_nil] | rw [walk_fin] | ((first | rw [walk_take] | rw [walk_run] | rw [again_cons]); intro Z hZ; simp only [sel, List.getElem?_toArray, List.getElem?_cons_zero, List.getElem?_cons_succ]; go_wp2_with (fail)))
          refine HPUT.out.mono ?_
          rintro e w4 ⟨A4, c4, rfl, ho4, hb4⟩
          have hlo4 : w.heap.size + 1 < w3.heap.size := H3.out.2.2.1.lt
          have H4 := Lib.hid (And.intro (H3.out.1.below hb4) (And.intro (H3.out.2.1.below hb4) (And.intro (H3.out.2.2.1.below hb4) (And.intro (H3.out.2.2.2.1.below hb4) (And.intro ho4 (And.intro H3.out.2.2.2.2 hlo4))))))
          have hx := Blk.c9 H4.out.2.1
          have hy := Blk.c9 H4.out.2.2.1
          clear ho4 hb4 hlo4 HPUT H3
          go_wp2_with fail
          repeat' (first | (refine hZ _ _ ?_; clear hZ) | (refine hZ _ ?_; clear hZ) | (refine hZ ?_; clear hZ) | rw [again_nil] | rw [walk_fin] | ((first | rw [walk_take] | rw [walk_run] | rw [again_cons]); intro Z hZ; simp only [sel, List.getElem?_toArray, List.getElem?_cons_zero, List.getElem?_cons_succ]; go_wp2_with (fail)))
          go_wp2_with fail
          simp only [← HT.out.1, ← HT.out.2]
          refine R2.retN (by repeat (first | exact H4.out.1 | refine R2.set ?_ _ _)) ⟨(P : Int), most, ⟨L1, r1⟩, ⟨Pag.layL L2 (i : Int) ZZ, r2⟩, true, Pag.putL pl (i : Int), true⟩ ⟨a1, c1, A3, c3', A4, c4⟩ (i : Int) 0 HE.out (fun W' hB hk _ => ?_) rfl rfl rfl rfl rfl
          obtain ⟨-, -, -, h3, h4, h5, h6⟩ := H4.out
          exact ⟨HR.out.sure.below hB, EOwn.last ((((h3.low (by omega) _).low (by omega) _).low (by omega) _).low (by omega) _) h5 hk, EOwn.last ((((h4.low (by omega) _).low (by omega) _).low (by omega) _).low (by omega) _) h6 hk⟩
      · have HE : Hid (Pag.Sto.alloc ⟨(P : Int), most, ⟨L1, r1⟩, ⟨L2, r2⟩, true, pl, own⟩ = (⟨(P : Int), most, ⟨L1, r1⟩, ⟨L2, r2⟩, true, pl, own⟩, 0, 5)) := by
          show _ = _
          rw [HA.out, HS.out.1, show P + 1 - i = 0 by omega]
          rfl
        have hlti : ¬ (i : Int) ≤ (P : Int) := by omega
        go_wp2_with fail
        simp only [← HT.out.1, ← HT.out.2]
        refine R2.retN (by repeat (first | exact HS.out.2.1 | refine R2.set ?_ _ _)) ⟨(P : Int), most, ⟨L1, r1⟩, ⟨L2, r2⟩, true, pl, own⟩ ⟨a1, c1, a2, c2, a3, c3⟩ 0 5 HE.out (fun W' hB _ _ => ?_) rfl rfl rfl rfl rfl
        exact HR.out.below hB
end Go.Proofs.YtcfoihihinijlaaGreat
end

section
namespace Go.Proofs.YtcfoihihinijlaaGreat
set_option linter.unusedSimpArgs false
set_option linter.unusedVariables false
open Go.RowKit Go.Maps
def bothL (fr gd gp : Nat) (s : Pag.Sto) (a : SA) (x y : Value) : List Value :=
  [.int .i64 10, .int .i64 9, .int .i64 (fr : Nat), .pointer (some ⟨gd, 0, none⟩), .pointer (some ⟨gp, 0, none⟩), .int .i64 s.pages, .int .i64 s.most, .slice a.a1 s.sure.1.length a.c1, txt s.sure.2, .slice a.a2 s.now.1.length a.c2, txt s.now.2, .bool s.in_, .slice a.a3 s.put.length a.c3, .bool s.own, x, y]
theorem Blk.c16 {w : World} {g : Nat} {t : TypeId} {a b c d e f x y z u v q r s o p : Value} (h : Blk w g t [a, b, c, d, e, f, x, y, z, u, v, q, r, s, o, p]) :
    (w.cell? ⟨g, 0, none⟩ = some a ∧ w.cell? ⟨g, 1, none⟩ = some b ∧ w.cell? ⟨g, 2, none⟩ = some c ∧ w.cell? ⟨g, 3, none⟩ = some d ∧ w.cell? ⟨g, 4, none⟩ = some e ∧ w.cell? ⟨g, 5, none⟩ = some f ∧ w.cell? ⟨g, 6, none⟩ = some x ∧ w.cell? ⟨g, 7, none⟩ = some y ∧ w.cell? ⟨g, 8, none⟩ = some z) ∧
    (w.cell? ⟨g, 9, none⟩ = some u ∧ w.cell? ⟨g, 10, none⟩ = some v ∧ w.cell? ⟨g, 11, none⟩ = some q ∧ w.cell? ⟨g, 12, none⟩ = some r ∧ w.cell? ⟨g, 13, none⟩ = some s ∧ w.cell? ⟨g, 14, none⟩ = some o ∧ w.cell? ⟨g, 15, none⟩ = some p) ∧ g < w.heap.size :=
  ⟨⟨h.cell 0, h.cell 1, h.cell 2, h.cell 3, h.cell 4, h.cell 5, h.cell 6, h.cell 7, h.cell 8⟩, ⟨h.cell 9, h.cell 10, h.cell 11, h.cell 12, h.cell 13, h.cell 14, h.cell 15⟩, h.lt⟩
theorem pg_str_eqR (l m : List UInt8) (w : World) : (binOp .eql 9 (txt l) (txt m)).run Tryz.prog w = .ok (.bool (l == m)) w := by
  unfold txt
  rw [binOp_string_eql, pg_txt_list, pg_txt_list]
  rfl
theorem pg_eqgR (t : TypeId) (x y : Operand) (l m : List UInt8) : eqGuard .eql t x y (txt l) (txt m) = pure () := rfl
namespace Pag
def PG.pageB (g : PG) (C : Nat → List UInt8) (n : Int) : List UInt8 := if g.has n ≠ 0 then [] else g.cont C n.toNat
def askB (g : PG) (C : Nat → List UInt8) (s : Sto) (m : Int) : Bool := (g.pageB C m == (s.read m).1) && (g.has m == (s.read m).2) && decide (g.lst C = s.now.1 ∧ g.root = s.now.2)
end Pag
set_option maxRecDepth 20000 in
set_option maxHeartbeats 4000000 in
theorem pgasked_any (w0 w : World) (G : GB) (n : Nat) (g : Pag.PG) (R : List (List UInt8)) (N : Nat) (C : Nat → List UInt8) (h : PagAt w0 w G n g) (hi : Pag.Lk g R N C) (h0 : Pag.U0 g) (hp : g.pages = 9) (hbr : g.broken = false) (hn : n + 42 < 1000000)
    (gb fr : Nat) (s : Pag.Sto) (a : SA) (v14 v15 : Value) (hb : Blk w gb 41 (bothL fr G.k.gd G.gp s a v14 v15)) (hr : StoR w s a) (m : Int) (hm : i6B m) (hL : ∀ q ∈ s.now.1, i6B q.1) :
    Calls Tryz.prog 77 #[.pointer (some ⟨gb, 0, none⟩), .int .i64 m] w (RetLk w0 w G (n + 42) g R N C (Pag.askB g C s m)) := by
  obtain ⟨pages, most, ⟨L1, r1⟩, ⟨L2, r2⟩, b, pl, own⟩ := s
  obtain ⟨a1, c1, a2, c2, a3, c3⟩ := a
  unfold bothL at hb
  obtain ⟨t1, ht1⟩ : ∃ t1, txt r1 = .string t1 := ⟨_, rfl⟩
  obtain ⟨t2, ht2⟩ : ∃ t2, txt r2 = .string t2 := ⟨_, rfl⟩
  have HT := Lib.hid (And.intro ht1 ht2)
  simp only [ht1, ht2] at hb
  clear ht1 ht2
  have HBR := Lib.hid hbr
  have HPG := Lib.hid hp
  have HN := Lib.hid hn
  have H0 := Lib.hid (And.intro h (And.intro hi (And.intro h0 (And.intro hb (And.intro hr hL)))))
  obtain ⟨q, hpe, hlk⟩ := hi.page m
  have hpa := ppage_any w0 w G n g h (by omega) hi.ul m hm.1 hm.2
  rw [hpe] at hpa
  obtain ⟨X, hX⟩ : ∃ X, (if g.has m ≠ 0 then [] else g.cont C m.toNat) = X := ⟨_, rfl⟩
  obtain ⟨e1, he1⟩ : ∃ e, g.has m = e := ⟨_, rfl⟩
  obtain ⟨⟨Y, f1⟩, hY⟩ : ∃ r, Pag.Sto.read ⟨pages, most, ⟨L1, r1⟩, ⟨L2, r2⟩, b, pl, own⟩ m = r := ⟨_, rfl⟩
  have hask : Pag.askB g C ⟨pages, most, ⟨L1, r1⟩, ⟨L2, r2⟩, b, pl, own⟩ m = ((X == Y) && (e1 == f1) && decide (g.lst C = L2 ∧ g.root = r2)) := by
    unfold Pag.askB Pag.PG.pageB
    rw [hX, he1, hY]
  rw [hX, he1] at hpa
  have HPA := Lib.hid hpa
  have HY := Lib.hid hY
  obtain ⟨ans, hans⟩ : ∃ ans, Pag.askB g C ⟨pages, most, ⟨L1, r1⟩, ⟨L2, r2⟩, b, pl, own⟩ m = ans := ⟨_, rfl⟩
  rw [hans] at hask ⊢
  have HASK := Lib.hid hask
  have HLK := Lib.hid hlk
  have hx := Blk.c16 hb
  clear h hi h0 hp hbr hn hb hr hm hL hpe hlk hpa hX he1 hY hans hask
  go_enter Tryz.func77, Tryz.ntmps77
  go_wp2_with fail
  refine HPA.out.mono ?_
  rintro e w1 ⟨G1, A1, d1, rfl, hrow1, hd1, -, g1, g2, hp1, ho1, hk1⟩
  dsimp only at hrow1 hd1 hp1 ⊢
  have off : ∀ T, (T = 41 ∨ T = 132 ∨ T = 3) → Off w G.own T := fun T hT => by
    rcases hT with rfl | rfl | rfl <;> exact H0.out.1.offOwn (by decide) (by decide) (by decide) (by decide) (by decide) (by decide) (by decide) (by decide)
  have hb1 := H0.out.2.2.2.1.offK hk1 (off _ (.inl rfl))
  have hr0 := H0.out.2.2.2.2.1
  have hr1 : StoR w1 ⟨pages, most, ⟨L1, r1⟩, ⟨L2, r2⟩, b, pl, own⟩ ⟨a1, c1, a2, c2, a3, c3⟩ := ⟨hr0.sure.offK hk1 (off _ (.inr (.inl rfl))), hr0.now.offK hk1 (off _ (.inr (.inl rfl))), hr0.put.offK hk1 (off _ (.inr (.inr rfl)))⟩
  have hrd := rread_any w1 _ _ hr1 m
  rw [HY.out] at hrd
  unfold stoV at hrd
  simp only [HT.out.1, HT.out.2] at hrd
  have HRD := Lib.hid hrd
  have H1 := Lib.hid (And.intro hb1 (And.intro hr1 (And.intro hrow1 (And.intro g1 (And.intro g2 (And.intro hp1 (And.intro ho1 hk1)))))))
  have hx := Blk.c16 hb1
  clear hrow1 hd1 g1 g2 hp1 ho1 hk1 off hb1 hr0 hr1 hrd HPA
  go_wp2_with fail
  refine HRD.out.mono ?_
  rintro e w2 ⟨rfl, hb2⟩
  have hbd : Below w1.heap.size w1 w2.drew := hb2.then (Below.refl _ _).drew
  obtain ⟨h1, h2, h3, h4, h5, h6, h7, h8⟩ := H1.out
  have H2 := Lib.hid (And.intro (h1.below hbd) (And.intro (h2.below hbd) (And.intro (h3.below hbd) (And.intro h4 (And.intro h5 (And.intro (h6.below hbd) (And.intro h7 (h8.then hbd))))))))
  have hx := Blk.c16 H2.out.1
  clear h1 h2 h3 h4 h5 h6 h7 h8 hbd hb2 HRD H1
  obtain ⟨bb, hbb⟩ : ∃ b, (X == Y) = b := ⟨_, rfl⟩
  have heq := fun w => pg_str_eqR X Y w
  have heg := fun t x y => pg_eqgR t x y X Y
  rw [hbb] at heq
  have HBB := Lib.hid hbb
  obtain ⟨be, hbe⟩ : ∃ b, (e1 == f1) = b := ⟨_, rfl⟩
  have HBE := Lib.hid hbe
  clear hbb
  cases bb with
  | false =>
    have HF : Hid (ans = false) := by show _ = _; rw [HASK.out, HBB.out]; rfl
    clear hbe
    go_upto_region 3 with fail
    refine wp_region_plan (.take 0 (.take 1 (.take 2 (.take 3 (.take 4 (.take 5 (.take 6 (.take 7 (.take 8 (.take 9 (.take 10 (.take 11 (.take 12 (.take 13 (.take 14 (.take 15 (.take 16 (.take 17 (.take 18 (.run 19 [] (.take 20 (.take 21 (.take 22 (.take 23 (.take 24 (.take 25 (.take 27 (.take 28 (.take 29 (.take 30 (.take 31 (.run 26 [27, 28, 29, 30, 31] (.take 32 (.take 33 (.take 34 (.take 35 (.take 36 (.take 37 (.take 38 (.run 39 [] (.take 40 (.take 41 (.take 42 .fin))))))))))))))))))))))))))))))))))))))))))) (by kernel_rfl) (by kernel_rfl) (by kernel_rfl) (by kernel_rfl) ?_
    repeat' (first | (refine hZ _ _ ?_; clear hZ) | (refine hZ _ ?_; clear hZ) | (refine hZ ?_; clear hZ) | rw [again_nil] | rw [walk_fin] | ((first | rw [walk_take] | rw [walk_run] | rw [again_cons]); intro Z hZ; simp only [sel, List.getElem?_toArray, List.getElem?_cons_zero, List.getElem?_cons_succ]; go_wp2_with (first | (refine wpList_str_of rfl (.tmp 27) rfl rfl rfl H2.out.2.2.1 ?_))))
    go_wp2_with fail
    go_ret
    rw [HF.out]
    obtain ⟨h1, h2, h3, h4, h5, h6, h7, h8⟩ := H2.out
    exact ⟨G1, q, rfl, h4, h5, h6.more (by omega), HLK.out, h7, h8⟩
  | true =>
    cases be with
    | false =>
      have HF : Hid (ans = false) := by show _ = _; rw [HASK.out, HBB.out, HBE.out]; rfl
      go_upto_region 3 with fail
      refine wp_region_plan (.take 0 (.take 1 (.take 2 (.take 3 (.take 4 (.take 5 (.take 6 (.take 7 (.take 8 (.take 9 (.take 10 (.take 11 (.take 12 (.take 13 (.take 14 (.take 15 (.take 16 (.take 17 (.take 18 (.run 19 [] (.take 20 (.take 21 (.take 22 (.take 23 (.take 24 (.take 25 (.take 27 (.take 28 (.take 29 (.take 30 (.take 31 (.run 26 [27, 28, 29, 30, 31] (.take 32 (.take 33 (.take 34 (.take 35 (.take 36 (.take 37 (.take 38 (.run 39 [] (.take 40 (.take 41 (.take 42 .fin))))))))))))))))))))))))))))))))))))))))))) (by kernel_rfl) (by kernel_rfl) (by kernel_rfl) (by kernel_rfl) ?_
      repeat' (first | (refine hZ _ _ ?_; clear hZ) | (refine hZ _ ?_; clear hZ) | (refine hZ ?_; clear hZ) | rw [again_nil] | rw [walk_fin] | ((first | rw [walk_take] | rw [walk_run] | rw [again_cons]); intro Z hZ; simp only [sel, List.getElem?_toArray, List.getElem?_cons_zero, List.getElem?_cons_succ]; go_wp2_with (first | (refine wpList_str_of rfl (.tmp 27) rfl rfl rfl H2.out.2.2.1 ?_))))
      go_wp2_with fail
      go_ret
      rw [HF.out]
      obtain ⟨h1, h2, h3, h4, h5, h6, h7, h8⟩ := H2.out
      exact ⟨G1, q, rfl, h4, h5, h6.more (by omega), HLK.out, h7, h8⟩
    | true =>
      have hlike := pglike_any w0 w2.drew G1 (n + 2) { g with q := q } R N C H2.out.2.2.2.2.2.1 HLK.out (H0.out.2.2.1.same rfl rfl) (by show g.pages ≤ 16; rw [HPG.out]; decide) (by have := HN.out; omega) a2 c2 L2 r2 H2.out.2.1.now H0.out.2.2.2.2.2
      obtain ⟨b3, hb3⟩ : ∃ b3, decide (g.lst C = L2 ∧ g.root = r2) = b3 := ⟨_, rfl⟩
      rw [show decide (({ g with q := q } : Pag.PG).lst C = L2 ∧ ({ g with q := q } : Pag.PG).root = r2) = b3 from hb3, H2.out.2.2.2.1, HT.out.2] at hlike
      have HA3 : Hid (ans = b3) := by show _ = _; rw [HASK.out, HBB.out, HBE.out, hb3]; rfl
      have HLIKE := Lib.hid hlike
      clear hlike hb3
      go_upto_region 3 with fail
      refine wp_region_plan (.take 0 (.take 1 (.take 2 (.take 3 (.take 4 (.take 5 (.take 6 (.take 7 (.take 8 (.take 9 (.take 10 (.take 11 (.take 12 (.take 13 (.take 14 (.take 15 (.take 16 (.take 17 (.take 18 (.run 19 [] (.take 20 (.take 21 (.take 22 (.take 23 (.take 24 (.take 25 (.take 27 (.take 28 (.take 29 (.take 30 (.take 31 (.run 26 [27, 28, 29, 30, 31] (.take 32 (.take 33 (.take 34 (.take 35 (.take 36 (.take 37 (.take 38 (.run 39 [] (.take 40 (.take 41 (.take 42 .fin))))))))))))))))))))))))))))))))))))))))))) (by kernel_rfl) (by kernel_rfl) (by kernel_rfl) (by kernel_rfl) ?_
      repeat' (first | (refine hZ _ _ ?_; clear hZ) | (refine hZ _ ?_; clear hZ) | (refine hZ ?_; clear hZ) | rw [again_nil] | rw [walk_fin] | ((first | rw [walk_take] | rw [walk_run] | rw [again_cons]); intro Z hZ; simp only [sel, List.getElem?_toArray, List.getElem?_cons_zero, List.getElem?_cons_succ]; go_wp2_with (first | (refine wpList_str_of rfl (.tmp 27) rfl rfl rfl H2.out.2.2.1 ?_))))
      refine HLIKE.out.mono ?_
      rintro e w3 ⟨G3, q3, rfl, f1', f2', hp3, hlk3, ho3, hk3⟩
      have hb3 := H2.out.1.offK hk3 (H2.out.2.2.2.2.2.1.offOwn (by decide) (by decide) (by decide) (by decide) (by decide) (by decide) (by decide) (by decide))
      have hx := Blk.c16 hb3
      have hpp := ppages_any w0 w3 G3 _ _ hp3
      have hpb := pbroken_any w0 w3 G3 _ _ hp3
      rw [show ({ ({ g with q := q } : Pag.PG) with q := q3 } : Pag.PG).pages = 9 from HPG.out, f1', H2.out.2.2.2.1] at hpp
      rw [show ({ ({ g with q := q } : Pag.PG) with q := q3 } : Pag.PG).broken = false from HBR.out, f1', H2.out.2.2.2.1] at hpb
      have HPP := Lib.hid hpp
      have HPB := Lib.hid hpb
      have H3 : Hid (RetLk w0 w G (n + 42) g R N C ans (.returned (.bool ans)) w3) := by
        obtain ⟨h1, h2, h3, h4, h5, h6, h7, h8⟩ := H2.out
        exact ⟨G3, q3, rfl, f1'.trans h4, f2'.trans h5, hp3, hlk3, own_chain h7 h8.size ho3, keeps_chain h8 h7 hk3⟩
      clear f1' f2' hp3 hlk3 ho3 hk3 hb3 hpp hpb HLIKE H2
      cases b3 with
      | false =>
        go_wp2_with fail
        repeat' (first | (refine hZ _ _ ?_; clear hZ) | (refine hZ _ ?_; clear hZ) | (refine hZ ?_; clear hZ) | rw [again_nil] | rw [walk_fin] | ((first | rw [walk_take] | rw [walk_run] | rw [again_cons]); intro Z hZ; simp only [sel, List.getElem?_toArray, List.getElem?_cons_zero, List.getElem?_cons_succ]; go_wp2_with (fail)))
        go_wp2_with fail
        go_ret
        rw [HA3.out] at H3 ⊢
        exact H3.out
      | true =>
        go_wp2_with fail
        repeat' (first | (refine hZ _ _ ?_; clear hZ) | (refine hZ _ ?_; clear hZ) | (refine hZ ?_; clear hZ) | rw [again_nil] | rw [walk_fin] | ((first | rw [walk_take] | rw [walk_run] | rw [again_cons]); intro Z hZ; simp only [sel, List.getElem?_toArray, List.getElem?_cons_zero, List.getElem?_cons_succ]; go_wp2_with (fail)))
        refine HPP.out.mono ?_
        rintro e w4 ⟨rfl, rfl⟩
        go_wp2_with fail
        repeat' (first | (refine hZ _ _ ?_; clear hZ) | (refine hZ _ ?_; clear hZ) | (refine hZ ?_; clear hZ) | rw [again_nil] | rw [walk_fin] | ((first | rw [walk_take] | rw [walk_run] | rw [again_cons]); intro Z hZ; simp only [sel, List.getElem?_toArray, List.getElem?_cons_zero, List.getElem?_cons_succ]; go_wp2_with (fail)))
        refine HPB.out.mono ?_
        rintro e w4 ⟨rfl, rfl⟩
        go_wp2_with fail
        repeat' (first | (refine hZ _ _ ?_; clear hZ) | (refine hZ _ ?_; clear hZ) | (refine hZ ?_; clear hZ) | rw [again_nil] | rw [walk_fin] | ((first | rw [walk_take] | rw [walk_run] | rw [again_cons]); intro Z hZ; simp only [sel, List.getElem?_toArray, List.getElem?_cons_zero, List.getElem?_cons_succ]; go_wp2_with (fail)))
        go_wp2_with fail
        go_ret
        rw [HA3.out] at H3 ⊢
        exact H3.out
end Go.Proofs.YtcfoihihinijlaaGreat
end

section
namespace Go.Proofs.YtcfoihihinijlaaGreat
set_option linter.unusedSimpArgs false
set_option linter.unusedVariables false
open Go.RowKit Go.Maps
section
variable {w0 w w' : World} {S : Nat → Prop} {G : GB} {n : Nat} {g : Pag.PG}
theorem EOwn.aside {α : Type} {E : Elem α} {B c : Nat} {A : Option Addr} {L : List α} (h : EOwn E w B A c L) (hk : Keeps w w' S) (hn : ∀ a, A = some a → ¬ S a.block) : EOwn E w' B A c L :=
  h.keep fun a ha => hk.block _ (h.block a ha).2 (hn a ha)
theorem DL.apart {k : KB} {d : DS} (h : DL w0 w k d n) (hk : Keeps w w' S) (hn : ∀ i, k.own i → ¬ S i) (hw : Off w S eDW.e) (hf : Off w S eDF.e) (hlo : ∀ i, S i → w0.heap.size ≤ i) : DL w0 w' k d n := by
  obtain ⟨⟨cb, np, cp, nf, cf, Ap, Af, e1, e2, e3, e4, e5, e6, e7, e8, e9, e10, e11⟩, lo⟩ := h.at_
  exact ⟨⟨⟨cb, np, cp, nf, cf, Ap, Af, e1, e2, e3, e4, e5, e6.kept hk (hn _ (.inl rfl)), e7.aside hk (fun a ha => by cases ha; exact hn _ (.inr rfl)), e8.offK hk hw, e9.offK hk hf, e10, e11⟩, lo⟩, h.good, h.ch, h.pe, hk.below h.bel h.bel.size hlo⟩
theorem LogAt.apart {B : Nat} {k : KB} {gl : Nat} {l : LS} (h : LogAt w B k gl l) (hk : Keeps w w' S) (hn : ¬ S gl) (h2 : Off w S 5) : LogAt w' B k gl l := by
  obtain ⟨⟨A, c, e1, e2, e3⟩, lo, own, gd⟩ := h
  refine ⟨⟨A, c, e1.kept hk hn, ?_, e3⟩, lo, own, gd⟩
  have := BRowU.offK ⟨e2.row, fun hl a ha => (e2.off hl a ha).2⟩ hk h2
  exact ⟨this.row, fun hl a ha => ⟨(e2.off hl a ha).1, this.u8 hl a ha⟩⟩
theorem PoolX.apart {X : Nat → Prop} {B N : Nat} {b : PB} {q : PS} (h : PoolX X w B b N q) (hk : Keeps w w' S) (hn : ∀ i, b.own i → ¬ S i) (hu : Off w S 5) : PoolX X w' B b N q := by
  obtain ⟨p, c, a1, a2, a3, a4, a5⟩ := h
  exact ⟨p, c, a1, a2.kept' a3.n0 hk (fun i hi hs => hn i hi hs) fun f hf => (a2.bytes f hf).offK hk hu, a3, a4, a5⟩
theorem TxAt.apart {B lim : Nat} {T : TB} {t : Pag.TX} (h : TxAt w B lim T t) (hk : Keeps w w' S) (hn : ∀ i, T.own i → ¬ S i) (hu : Off w S 5) : TxAt w' B lim T t :=
  ⟨h.blk.kept hk (hn _ (.inl rfl)), h.used.aside hk (fun a ha => hn _ (.inr (.inr ⟨a, ha, rfl⟩))), h.ul, h.root.offK hk hu, h.rl, h.map.offK hk (hn _ (.inr (.inl rfl))) hu, h.lo, h.mlo⟩
theorem RestAt.apart {B : Nat} (h : RestAt w B G g) (hk : Keeps w w' S) (hn : ∀ i, G.own i → ¬ S i) (hu : Off w S 5) : RestAt w' B G g := by
  refine ⟨h.used.aside hk (fun a ha => hn _ (.inr (.inr (.inr (.inr (.inr ⟨a, ha, rfl⟩)))))), h.ul, h.root.offK hk hu, h.rl, h.map.offK hk (hn _ (.inr (.inr (.inr (.inl rfl))))) hu, h.mlo, h.glo, h.m1, ?_, h.pages, h.blocks⟩
  have := h.tx
  cases hT : G.tx with
  | none =>
    cases hg : g.tx with
    | none => trivial
    | some t => rw [hT, hg] at this; exact this.elim
  | some T =>
    cases hg : g.tx with
    | none => rw [hT, hg] at this; exact this.elim
    | some t =>
      rw [hT, hg] at this
      exact ⟨this.1.apart hk (fun i hi => hn _ (.inr (.inr (.inr (.inr (.inl ⟨T, hT, hi⟩)))))) hu, this.2⟩
theorem PagAt.apart (h : PagAt w0 w G n g) (hk : Keeps w w' S) (hn : ∀ i, G.own i → ¬ S i) (hu : Off w S 5) (hw : Off w S eDW.e) (hf : Off w S eDF.e) (hlo : ∀ i, S i → w0.heap.size ≤ i) : PagAt w0 w' G n g :=
  ⟨h.blk.kept hk (hn _ (.inr (.inr (.inl rfl)))), ⟨h.wl.dl.apart hk (fun i hi => hn i (.inl (.inl hi))) hw hf hlo, h.wl.log.apart hk (hn _ (.inl (.inr rfl))) hu⟩, h.pool.apart hk (fun i hi => hn i (.inr (.inl hi))) hu, h.rest.apart hk hn hu⟩
theorem PagAt.own_lt (h : PagAt w0 w G n g) : ∀ i, G.own i → i < w.heap.size := by
  intro i hi
  rcases hi with (hi | rfl) | hi | rfl | rfl | ⟨T, hT, hi⟩ | ⟨a, ha, rfl⟩
  · exact h.wl.dl.own_lt i hi
  · obtain ⟨cs, hb⟩ := h.wl.log.blk
    exact hb.lt
  · exact (h.pool.toOf.lt i hi).2
  · exact h.blk.lt
  · exact h.rest.map.map.lt
  · rcases h.split with ⟨q1, -⟩ | ⟨U', t, q1, q2, hta, -⟩
    · rw [hT] at q1; cases q1
    · rw [hT] at q1
      cases q1
      rcases hi with rfl | rfl | ⟨a, ha, rfl⟩
      · exact hta.blk.lt
      · exact hta.map.map.lt
      · exact (hta.used.block a ha).2
  · exact (h.rest.used.block a ha).2
theorem PagAt.beside {G2 G2' : GB} {m : Nat} {g2 : Pag.PG} (h : PagAt w0 w G n g) (h2 : PagAt w0 w G2 m g2) (hd : ∀ i, G.own i → ¬ G2.own i) (hl : ∀ i, G2.own i → w0.heap.size ≤ i) (hk : Keeps w w' G2.own) (ho : ∀ i, G2'.own i → G2.own i ∨ w.heap.size ≤ i) :
    PagAt w0 w' G n g ∧ ∀ i, G.own i → ¬ G2'.own i := by
  have off : ∀ T, (T = 5 ∨ T = eDW.e ∨ T = eDF.e) → Off w G2.own T := fun T hT => by
    rcases hT with rfl | rfl | rfl <;> exact h2.offOwn (by decide) (by decide) (by decide) (by decide) (by decide) (by decide) (by decide) (by decide)
  refine ⟨h.apart hk hd (off _ (.inl rfl)) (off _ (.inr (.inl rfl))) (off _ (.inr (.inr rfl))) hl, fun i hi hi2 => ?_⟩
  rcases ho i hi2 with h3 | h3
  · exact hd i hi h3
  · have := h.own_lt i hi
    omega
end
end Go.Proofs.YtcfoihihinijlaaGreat
end

section
namespace Go.Proofs.YtcfoihihinijlaaGreat
set_option linter.unusedSimpArgs false
set_option linter.unusedVariables false
open Go.RowKit Go.Maps
theorem Blk.c8 {w : World} {g : Nat} {t : TypeId} {a b c d e f x y : Value} (h : Blk w g t [a, b, c, d, e, f, x, y]) :
    w.cell? ⟨g, 0, none⟩ = some a ∧ w.cell? ⟨g, 1, none⟩ = some b ∧ w.cell? ⟨g, 2, none⟩ = some c ∧ w.cell? ⟨g, 3, none⟩ = some d ∧ w.cell? ⟨g, 4, none⟩ = some e ∧ w.cell? ⟨g, 5, none⟩ = some f ∧ w.cell? ⟨g, 6, none⟩ = some x ∧ w.cell? ⟨g, 7, none⟩ = some y ∧ g < w.heap.size :=
  ⟨h.cell 0, h.cell 1, h.cell 2, h.cell 3, h.cell 4, h.cell 5, h.cell 6, h.cell 7, h.lt⟩
theorem Blk.z16 {w : World} {g : Nat} {t : TypeId} {cs : List Value} (h : Blk w g t cs) :
    w.frozen? ⟨g, 5, none⟩ = false ∧ w.frozen? ⟨g, 6, none⟩ = false ∧ w.frozen? ⟨g, 7, none⟩ = false ∧ w.frozen? ⟨g, 8, none⟩ = false ∧ w.frozen? ⟨g, 9, none⟩ = false ∧ w.frozen? ⟨g, 10, none⟩ = false ∧ w.frozen? ⟨g, 11, none⟩ = false ∧ w.frozen? ⟨g, 12, none⟩ = false ∧ w.frozen? ⟨g, 13, none⟩ = false ∧ w.frozen? ⟨g, 14, none⟩ = false ∧ w.frozen? ⟨g, 15, none⟩ = false :=
  ⟨h.free 5, h.free 6, h.free 7, h.free 8, h.free 9, h.free 10, h.free 11, h.free 12, h.free 13, h.free 14, h.free 15⟩
def opL (o : OpP) : List Value := [.int .i64 o.k, .int .i64 o.n, .int .u8 (o.c.toNat : Nat), .bool o.odd, .slice o.A o.root.length o.cap, .int .i64 o.f.at_, .int .u64 (o.f.keep : Nat), .int .i64 o.f.torn]
def opV (o : OpP) : Value := .agg #[.int .i64 o.k, .int .i64 o.n, .int .u8 (o.c.toNat : Nat), .bool o.odd, .slice o.A o.root.length o.cap, .int .i64 o.f.at_, .int .u64 (o.f.keep : Nat), .int .i64 o.f.torn]
structure SpL (w0 w W : World) (gb fr : Nat) (o : OpP) (G G1 : GB) (n : Nat) (g : Pag.PG) (s : Pag.Sto) (a : SA) (x y : Value) : Prop where
  op : Blk W w.heap.size 58 (opL o)
  both : Blk W gb 41 (bothL fr G.k.gd G.gp s a x y)
  rows : StoR W s a
  pag : PagAt w0 W G1 n g
  gp : G1.gp = G.gp
  k : G1.k = G.k
  own : ∀ i, G1.own i → G.own i ∨ w.heap.size ≤ i
  kp : Keeps w W (fun i => G.own i ∨ i = gb)
section
variable {w0 w W W' : World} {gb fr n n' : Nat} {o : OpP} {G G1 G2 : GB} {g g' : Pag.PG} {s s' : Pag.Sto} {a a' : SA} {x y : Value}
theorem Keeps.more {w w' : World} {S S' : Nat → Prop} (h : Keeps w w' S) (hs : ∀ i, S i → S' i) : Keeps w w' S' := h.mono hs
theorem SpL.below (h : SpL w0 w W gb fr o G G1 n g s a x y) (hb : Below W.heap.size W W') : SpL w0 w W' gb fr o G G1 n g s a x y :=
  ⟨h.op.below hb, h.both.below hb, h.rows.below hb, h.pag.below hb, h.gp, h.k, h.own, h.kp.then hb⟩
theorem SpL.call (h : SpL w0 w W gb fr o G G1 n g s a x y) (hp : PagAt w0 W' G2 n' g') (e1 : G2.gp = G1.gp) (e2 : G2.k = G1.k) (ho : ∀ i, G2.own i → G1.own i ∨ W.heap.size ≤ i) (hk : Keeps W W' G1.own) : SpL w0 w W' gb fr o G G2 n' g' s a x y := by
  have off : ∀ T, (T = 41 ∨ T = 58 ∨ T = 132 ∨ T = 3 ) → Off W G1.own T := fun T hT => by
    rcases hT with rfl | rfl | rfl | rfl <;> exact h.pag.offOwn (by decide) (by decide) (by decide) (by decide) (by decide) (by decide) (by decide) (by decide)
  refine ⟨h.op.offK hk (off _ (.inr (.inl rfl))), h.both.offK hk (off _ (.inl rfl)), ⟨h.rows.sure.offK hk (off _ (.inr (.inr (.inl rfl)))), h.rows.now.offK hk (off _ (.inr (.inr (.inl rfl)))), h.rows.put.offK hk (off _ (.inr (.inr (.inr rfl))))⟩, hp, e1.trans h.gp, e2.trans h.k, own_chain h.own h.kp.size ho, ?_⟩
  refine ⟨hk.os.trans h.kp.os, hk.tape.trans h.kp.tape, hk.output.trans h.kp.output, Nat.le_trans h.kp.size hk.size, fun i hi hs => (hk.block i (Nat.lt_of_lt_of_le hi h.kp.size) (fun h1 => ?_)).trans (h.kp.block i hi hs)⟩
  rcases h.own i h1 with h2 | h2
  · exact hs (.inl h2)
  · omega
theorem SpL.turn (h : SpL w0 w W gb fr o G G1 n g s a x y) (hw : w0.heap.size ≤ gb) {x' y' : Value} (hb : Blk W' gb 41 (bothL fr G.k.gd G.gp s' a' x' y')) (hr : StoR W s' a') (hg : W.grownBy W' (some gb)) : SpL w0 w W' gb fr o G G1 n g s' a' x' y' := by
  have hk := Keeps.of_grown hg
  have ht : ∀ i, i = gb → tagOf W i = some 41 := fun i hi => by rw [hi]; exact h.both.tag
  refine ⟨h.op.offK hk (off_row ht (by decide)), hb, ⟨hr.sure.offK hk (off_row (U := 132) ht (by decide)), hr.now.offK hk (off_row (U := 132) ht (by decide)), hr.put.offK hk (off_row (U := 3) ht (by decide))⟩, h.pag.offOther hk ht (by decide) (by decide) (fun i hi => by rw [hi]; exact hw), h.gp, h.k, h.own, ?_⟩
  exact ⟨hk.os.trans h.kp.os, hk.tape.trans h.kp.tape, hk.output.trans h.kp.output, Nat.le_trans h.kp.size hk.size, fun i hi hs => (hk.block i (Nat.lt_of_lt_of_le hi h.kp.size) (fun h1 => hs (.inr h1))).trans (h.kp.block i hi hs)⟩
end
def RetStp (w0 w : World) (gb fr : Nat) (G : GB) (n : Nat) (g : Pag.PG) (R : List (List UInt8)) (N : Nat) (C : Nat → List UInt8) (s : Pag.Sto) (b : Bool) (e : Ending) (w' : World) : Prop :=
  ∃ G' q a x y, e = .returned (.bool b) ∧ G'.gp = G.gp ∧ G'.k = G.k ∧ PagAt w0 w' G' n { g with q := q } ∧ Pag.Lk { g with q := q } R N C ∧ Blk w' gb 41 (bothL fr G.k.gd G.gp s a x y) ∧ StoR w' s a ∧ (∀ i, G'.own i → G.own i ∨ w.heap.size ≤ i) ∧ Keeps w w' (fun i => G.own i ∨ i = gb)
structure SpC (g : Pag.PG) (R : List (List UInt8)) (N : Nat) (C : Nat → List UInt8) (s : Pag.Sto) : Prop where
  lk : Pag.Lk g R N C
  u0 : Pag.U0 g
  pages : g.pages = 9
  broken : g.broken = false
  nums : ∀ q ∈ s.now.1, i6B q.1
section
variable {w0 w W W' : World} {gb fr n n' : Nat} {o : OpP} {G G1 G2 : GB} {g g' : Pag.PG} {s s' : Pag.Sto} {a a' : SA} {x y : Value} {R : List (List UInt8)} {N : Nat} {C : Nat → List UInt8}
theorem SpL.store9 (h : SpL w0 w W gb fr o G G1 n g s a x y) (hw : w0.heap.size ≤ gb) (hr : StoR W s' a') :
    SpL w0 w (((((((((W.setCell ⟨gb, 5, none⟩ (.int .i64 s'.pages)).setCell ⟨gb, 6, none⟩ (.int .i64 s'.most)).setCell ⟨gb, 7, none⟩ (.slice a'.a1 s'.sure.1.length a'.c1)).setCell ⟨gb, 8, none⟩ (txt s'.sure.2)).setCell ⟨gb, 9, none⟩ (.slice a'.a2 s'.now.1.length a'.c2)).setCell ⟨gb, 10, none⟩ (txt s'.now.2)).setCell ⟨gb, 11, none⟩ (.bool s'.in_)).setCell ⟨gb, 12, none⟩ (.slice a'.a3 s'.put.length a'.c3)).setCell ⟨gb, 13, none⟩ (.bool s'.own)) gb fr o G G1 n g s' a' x y := by
  refine h.turn hw (s' := s') (a' := a') (x' := x) (y' := y) ?_ hr ?_
  · exact ((((((((h.both.set 5 _).set 6 _).set 7 _).set 8 _).set 9 _).set 10 _).set 11 _).set 12 _).set 13 _
  · exact ((((((((grown_store W gb 5 _).set_ ⟨gb, 6, none⟩ rfl _).set_ ⟨gb, 7, none⟩ rfl _).set_ ⟨gb, 8, none⟩ rfl _).set_ ⟨gb, 9, none⟩ rfl _).set_ ⟨gb, 10, none⟩ rfl _).set_ ⟨gb, 11, none⟩ rfl _).set_ ⟨gb, 12, none⟩ rfl _).set_ ⟨gb, 13, none⟩ rfl _
theorem SpL.then2 (h : SpL w0 w W gb fr o G G1 n g s a x y) (hw : w0.heap.size ≤ gb) (x' y' : Value) : SpL w0 w ((W.setCell ⟨gb, 14, none⟩ x').setCell ⟨gb, 15, none⟩ y') gb fr o G G1 n g s a x' y' :=
  h.turn hw ((h.both.set 14 _).set 15 _) h.rows ((grown_store W gb 14 _).set_ ⟨gb, 15, none⟩ rfl _)
theorem SpL.done (h : SpL w0 w W gb fr o G G1 n g s a x y) (hc : Pag.Lk g R N C) (hn : n ≤ n') (b : Bool) : RetStp w0 w gb fr G n' g R N C s b (.returned (.bool b)) W :=
  ⟨G1, g.q, a, x, y, rfl, h.gp, h.k, h.pag.more hn, hc, h.both, h.rows, h.own, h.kp⟩
theorem SpL.ask (h : SpL w0 w W gb fr o G G1 n g s a x y) (hc : SpC g R N C s) (hn : n + 42 < 1000000) (hm : i6B o.n) :
    Calls Tryz.prog 77 #[.pointer (some ⟨gb, 0, none⟩), .int .i64 o.n] W fun e w' => e = .returned (.bool (Pag.askB g C s o.n)) ∧ RetStp w0 w gb fr G (n + 42) g R N C s (Pag.askB g C s o.n) e w' := by
  have hb := h.both
  rw [← h.gp, ← h.k] at hb
  refine (pgasked_any w0 W G1 n g R N C h.pag hc.lk hc.u0 hc.pages hc.broken hn gb fr s a x y hb h.rows o.n hm hc.nums).mono fun e w' hr => ?_
  obtain ⟨G', q, rfl, e1, e2, hp, hlk, ho, hk⟩ := hr
  have h2 := h.call hp e1 e2 ho hk
  exact ⟨rfl, G', q, a, x, y, rfl, h2.gp, h2.k, h2.pag, hlk, h2.both, h2.rows, h2.own, h2.kp⟩
end
set_option maxRecDepth 20000 in
set_option maxHeartbeats 8000000 in
theorem stp_begin (w0 w : World) (gb fr : Nat) (o : OpP) (hf : o.Fine w0) (G : GB) (n : Nat) (g g1 : Pag.PG) (e1' : Int) (R : List (List UInt8)) (N : Nat) (C : Nat → List UInt8) (s s1 : Pag.Sto) (f1' : Int) (a : SA) (x y : Value) (hp : PagAt w0 w G n g) (hb : Blk w gb 41 (bothL fr G.k.gd G.gp s a x y)) (hr : StoR w s a) (hw : w0.heap.size ≤ gb) (hn : n + 42 < 1000000)
    (hg1 : g.begin = (g1, e1')) (hs1 : s.begin = (s1, f1')) (hc : SpC g1 R N C s1) (hke : (IntKind.u64.wrap o.k).tmod 10 = 0) :
    Calls Tryz.prog 23 #[.pointer (some ⟨gb, 0, none⟩), opV o] w (RetStp w0 w gb fr G (n + 42) g1 R N C s1 ((e1' == f1') && Pag.askB g1 C s1 o.n)) := by
  have HF := Lib.hid hf
  have HW := Lib.hid hw
  have HE := Lib.hid (And.intro hg1 hs1)
  unfold opV
  go_enter Tryz.func23, Tryz.ntmps23
  obtain ⟨pages, most, ⟨L1, r1⟩, ⟨L2, r2⟩, bi, pl, own⟩ := s
  obtain ⟨a1, c1, a2, c2, a3, c3⟩ := a
  obtain ⟨t1, ht1⟩ : ∃ t1, txt r1 = .string t1 := ⟨_, rfl⟩
  obtain ⟨t2, ht2⟩ : ∃ t2, txt r2 = .string t2 := ⟨_, rfl⟩
  have HT := Lib.hid (And.intro ht1 ht2)
  have HB0 := Lib.hid hb
  unfold bothL at hb
  simp only [ht1, ht2] at hb
  have hx := Blk.c16 hb
  clear ht1 ht2 hb hg1 hs1
  go_upto_region 3 with fail
  generalize hW1 : ((World.alloc w (.cells _ _)).alloc (.cells _ _)) = W1
  obtain ⟨ba1, bb1, hz1, hB1⟩ := fresh2 hW1
  clear hW1
  have H1 : Hid (SpL w0 w W1 gb fr o G G n g ⟨pages, most, ⟨L1, r1⟩, ⟨L2, r2⟩, bi, pl, own⟩ ⟨a1, c1, a2, c2, a3, c3⟩ x y) := ⟨ba1, HB0.out.below hB1, hr.below hB1, hp.below hB1, rfl, rfl, fun i hi => .inl hi, Keeps.of_below hB1⟩
  have hop := Blk.c8 ba1
  have hx := Blk.c16 (by have h := H1.out.both; unfold bothL at h; simp only [HT.out.1, HT.out.2] at h; exact h)
  have HC := Lib.hid hc
  have HN := Lib.hid hn
  clear ba1 bb1 hz1 hB1 hr hp hc hn HB0 hf hw
  have hbg := pbegin_any w0 W1 G n g H1.out.pag
  rw [HE.out.1] at hbg
  have HBG := Lib.hid hbg
  clear hbg
  go_wp2_with fail
  refine HBG.out.mono ?_
  rintro e w2 ⟨G2, rfl, e1, e2, hp2, ho2, hk2⟩
  clear HBG
  have H2 := Lib.hid (H1.out.call hp2 e1 e2 ho2 hk2)
  clear e1 e2 hp2 ho2 hk2 H1
  have hop := Blk.c8 H2.out.op
  have hx := Blk.c16 (by have h := H2.out.both; unfold bothL at h; simp only [HT.out.1, HT.out.2] at h; exact h)
  have hrb := rbegin_any w2 _ _ H2.out.rows
  rw [HE.out.2] at hrb
  unfold stoV at hrb
  simp only [HT.out.1, HT.out.2] at hrb
  have HRB := Lib.hid hrb
  clear hrb
  go_wp2_with fail
  refine HRB.out.mono ?_
  rintro e w3 ⟨a', rfl, hr3, hb3⟩
  have H3 := Lib.hid (And.intro (H2.out.below hb3) hr3)
  have hop := Blk.c8 H3.out.1.op
  have hx := Blk.c16 (by have h := H3.out.1.both; unfold bothL at h; simp only [HT.out.1, HT.out.2] at h; exact h)
  have hz := Blk.z16 H3.out.1.both
  clear hr3 hb3 H2 HRB HE
  obtain ⟨p', m', ⟨L1', r1'⟩, ⟨L2', r2'⟩, bi', pl', own'⟩ := s1
  obtain ⟨a1', c1', a2', c2', a3', c3'⟩ := a'
  obtain ⟨t1', ht1'⟩ : ∃ t, txt r1' = .string t := ⟨_, rfl⟩
  obtain ⟨t2', ht2'⟩ : ∃ t, txt r2' = .string t := ⟨_, rfl⟩
  have HT' := Lib.hid (And.intro ht1' ht2')
  unfold stoV
  simp only [ht1', ht2']
  clear ht1' ht2'
  obtain ⟨be, hbe⟩ : ∃ b, (e1' == f1') = b := ⟨_, rfl⟩
  have HBE := Lib.hid hbe
  cases be with
  | true =>
    cases bi' with
    | true =>
      go_wp2_with fail
      simp only [← HT'.out.1, ← HT'.out.2]
      refine ((H3.out.1.store9 HW.out H3.out.2).ask HC.out HN.out HF.out.n).mono ?_
      rintro e w5 ⟨rfl, hret⟩
      have HRET := Lib.hid hret
      clear hret
      go_wp2_with fail
      go_ret
      rw [HBE.out, Bool.true_and]
      exact HRET.out
    | false =>
      go_wp2_with fail
      simp only [← HT'.out.1, ← HT'.out.2]
      refine (((H3.out.1.store9 HW.out H3.out.2).then2 HW.out _ _).ask HC.out HN.out HF.out.n).mono ?_
      rintro e w5 ⟨rfl, hret⟩
      have HRET := Lib.hid hret
      clear hret
      go_wp2_with fail
      go_ret
      rw [HBE.out, Bool.true_and]
      exact HRET.out
  | false =>
    cases bi' with
    | true =>
      go_wp2_with fail
      simp only [← HT'.out.1, ← HT'.out.2]
      go_ret
      rw [HBE.out, Bool.false_and]
      exact (H3.out.1.store9 HW.out H3.out.2).done HC.out.lk (by omega) false
    | false =>
      go_wp2_with fail
      simp only [← HT'.out.1, ← HT'.out.2]
      go_ret
      rw [HBE.out, Bool.false_and]
      exact ((H3.out.1.store9 HW.out H3.out.2).then2 HW.out _ _).done HC.out.lk (by omega) false
end Go.Proofs.YtcfoihihinijlaaGreat
end

section
namespace Go.Proofs.YtcfoihihinijlaaGreat
set_option linter.unusedSimpArgs false
set_option linter.unusedVariables false
open Go.RowKit Go.Maps
def PagFree (w0 w : World) (G : GB) (n : Nat) (g : Pag.PG) (x : Nat) : Prop := ∀ W, Keeps w W (fun i => i = x) → PagAt w0 W G n g
def RetPgF (w0 w : World) (G : GB) (n : Nat) (g' : Pag.PG) (c : Int) (x : Nat) (e : Ending) (w' : World) : Prop :=
  ∃ G', e = .returned (.int .i64 c) ∧ G'.gp = G.gp ∧ G'.k = G.k ∧ PagAt w0 w' G' n g' ∧ (∀ i, G'.own i → G.own i ∨ w.heap.size ≤ i) ∧ Keeps w w' G.own ∧ PagFree w0 w' G' n g' x
section
variable {w0 w w' : World} {G : GB} {n : Nat} {g : Pag.PG} {T : TB} {t : Pag.TX} {x : Nat}
theorem PagFree.below (h : PagFree w0 w G n g x) (hb : Below w.heap.size w w') : PagFree w0 w' G n g x := fun W hk => h W ((Keeps.of_below hb).trans hk)
theorem PagFree.new (h : PagAt w0 w G n g) (hb : Below w.heap.size w w') (hx : w.heap.size ≤ x) : PagFree w0 w' G n g x := fun W hk =>
  h.below ⟨hk.os.trans hb.os, hk.tape.trans hb.tape, hk.output.trans hb.output, Nat.le_trans hb.size hk.size, fun i hi => (hk.block i (Nat.lt_of_lt_of_le hi hb.size) (by omega)).trans (hb.block i hi)⟩
theorem PagFree.putMap {w3 : World} {B : Nat} {A : Option Addr} {c k : Nat} {l : List UInt8} (h : PagFree w0 w G n g x) (hT : G.tx = some T) (hg : g.tx = some t) (hx : x < w.heap.size) (hxm : x ≠ T.gm) (ho : BOwn w B A c l) (hB : x < B) (hl : l.length = 512)
    (hm : NMap w3 T.gm (g.pages + 1) (fun j => if j = k then some (Bp.mk A c l).v else (T.F j).map Bp.v)) (hgr : w.grownBy w3 (some T.gm)) :
    PagFree w0 w3 { G with tx := some { T with F := fun j => if j = k then some ⟨A, c, l⟩ else T.F j } } n { g with tx := some { t with pages := Pag.put t.pages k l } } x := fun W hk => by
  obtain ⟨ob, hob⟩ : ∃ ob, W.heap[x]? = some ob := ⟨W.heap[x]'(Nat.lt_of_lt_of_le hx (Nat.le_trans hgr.size hk.size)), Array.getElem?_eq_getElem _⟩
  obtain ⟨V, hV⟩ : ∃ V : World, V = { w with heap := w.heap.setIfInBounds x ob } := ⟨_, rfl⟩
  have hVs : V.heap.size = w.heap.size := by rw [hV]; simp
  have hVx : V.heap[x]? = some ob := by rw [hV]; simp [hx]
  have hVn : ∀ i, i ≠ x → V.heap[i]? = w.heap[i]? := fun i hi => by rw [hV]; simp [Array.getElem?_setIfInBounds, Ne.symm hi]
  have hkV : Keeps w V (fun i => i = x) := ⟨by rw [hV], by rw [hV], by rw [hV], by rw [hVs]; exact Nat.le_refl _, fun i _ hi => hVn i hi⟩
  have hp := h V hkV
  have hgV : V.grownBy W (some T.gm) := by
    refine ⟨by rw [hk.os, hgr.os, hV], by rw [hk.tape, hgr.tape, hV], by rw [hk.output, hgr.output, hV], by rw [hVs]; exact Nat.le_trans hgr.size hk.size, fun i hi hne => ?_⟩
    rw [hVs] at hi
    by_cases e : i = x
    · rw [e, hob, hVx]
    · rw [hVn i e, hk.block i (Nat.lt_of_lt_of_le hi hgr.size) e]
      exact hgr.block i hi hne
  have hoV : BOwn V B A c l := ho.kept (row := some x) ⟨hkV.os, hkV.tape, hkV.output, hkV.size, fun i hi hne => hVn i (fun e => hne (by rw [e]))⟩ (by
    right
    cases A with
    | none => simp
    | some a =>
      have := (ho.block a rfl).1
      simp only [Option.map_some, ne_eq, Option.some.injEq]
      omega)
  have hmW : NMap W T.gm (g.pages + 1) (fun j => if j = k then some (Bp.mk A c l).v else (T.F j).map Bp.v) := hm.block (hk.block _ hm.lt (fun e => hxm e.symm))
  exact hp.txMap hT hg ((hp.txAt hT hg).map.put (p := ⟨A, c, l⟩) hmW hgV (BRowU.own hoV) hl) hgV
end
set_option maxRecDepth 20000 in
set_option maxHeartbeats 4000000 in
theorem pputF_any (w0 w : World) (G : GB) (n : Nat) (g : Pag.PG) (h : PagAt w0 w G n g) (hu : g.now.used.length = g.pages + 1) (k : Int) (h1 : -9223372036854775808 ≤ k) (h2 : k ≤ 9223372036854775807) (A : Option Addr) (c : Nat) (l : List UInt8) (hr : BRow w A l) (hl : l.length ≤ 1000000) (x : Nat) (hx : PagFree w0 w G n g x) (hxl : x < w.heap.size) (hxo : ¬ G.own x) :
    Calls Tryz.prog 37 #[.pointer (some ⟨G.gp, 0, none⟩), .int .i64 k, .slice A l.length c] w (RetPgF w0 w G n (g.put k l).1 (g.put k l).2 x) := by
  have HB := Lib.hid (pbroken_any w0 w G n g h)
  have HH := Lib.hid (phas_any w0 w G n g h hu k h1 h2)
  have H0 := Lib.hid h
  have HX := Lib.hid (And.intro hx (And.intro hxl hxo))
  clear hx hxl hxo
  cases hb : g.broken with
  | true =>
    have HR : Hid (g.put k l = (g, 3)) := by show _ = _; unfold Pag.PG.put; cases g.tx <;> simp [hb]
    rw [hb] at HB
    clear h hb
    go_enter Tryz.func37, Tryz.ntmps37
    go_wp2_with fail
    refine HB.out.mono ?_
    rintro e w1 ⟨rfl, rfl⟩
    go_wp2_with fail
    go_ret
    rw [HR.out]
    exact ⟨G, rfl, rfl, rfl, H0.out, fun i hi => .inl hi, Keeps.refl _ _, HX.out.1⟩
  | false =>
    rw [hb] at HB
    rcases h.split with ⟨hT, hg⟩ | ⟨T, t, hT, hg, ht, m1, m2, m3⟩
    · have HR : Hid (g.put k l = (g, 3)) := by show _ = _; unfold Pag.PG.put; rw [hg]
      have hc := h.cellsN hT
      clear h hb hT hg
      go_enter Tryz.func37, Tryz.ntmps37
      go_wp2_with fail
      refine HB.out.mono ?_
      rintro e w1 ⟨rfl, rfl⟩
      go_wp2_with fail
      go_ret
      rw [HR.out]
      exact ⟨G, rfl, rfl, rfl, H0.out, fun i hi => .inl hi, Keeps.refl _ _, HX.out.1⟩
    · have hc := h.cellsS hT
      have HT := Lib.hid hT
      have HTA := Lib.hid ht
      by_cases hz : g.has k = 0
      · obtain ⟨-, k1, k2⟩ := has_zero hz
        obtain ⟨j, rfl⟩ : ∃ j : Nat, k = (j : Int) := ⟨k.toNat, by omega⟩
        by_cases h5 : l.length = 512
        · have HR : Hid (g.put (j : Int) l = ({ g with tx := some { t with pages := Pag.put t.pages j l } }, 0)) := by
            show _ = _
            unfold Pag.PG.put
            rw [hg]
            simp [hb, hz, h5]
          have HG := Lib.hid hg
          rw [hz] at HH
          have HJ : Hid (j < g.pages + 1) := by show j < _; omega
          have HP : Hid (g.pages + 1 < 100000000) := by show _ < _; have := h.rest.pages; omega
          have H5 := Lib.hid h5
          have hct := ht.blk.c4
          clear h hb hT hg ht m1 m2 m3 hz k1 k2
          rw [h5]
          clear h5
          go_enter Tryz.func37, Tryz.ntmps37
          go_wp2_with fail
          refine HB.out.mono ?_
          rintro e w1 ⟨rfl, rfl⟩
          go_wp2_with fail
          refine HH.out.mono ?_
          rintro e w1 ⟨rfl, hb1⟩
          have h1 := H0.out.below hb1
          have hc := h1.cellsS HT.out
          have hct := (HTA.out.blk.below hb1).c4
          have H1 := Lib.hid (And.intro h1 hb1)
          have HC := Lib.hid (clone_any w1.drew A c l (hr.below (hb1.trans ((Below.refl _ _).drew.mono hb1.size))) (by have := H5.out; omega))
          rw [H5.out] at HC
          clear h1 hb1
          go_wp2_with fail
          refine wp_region_plan (.take 0 (.take 1 (.take 2 (.take 3 (.take 4 (.take 5 (.take 6 (.take 7 (.take 8 (.run 9 [0, 1, 2, 3, 4, 5, 6, 7] (.run 10 [] .fin))))))))))) (by kernel_rfl) (by kernel_rfl) (by kernel_rfl) (by kernel_rfl) ?_
          repeat' (first | (refine hZ _ _ ?_; clear hZ) | (refine hZ _ ?_; clear hZ) | (refine hZ ?_; clear hZ) | rw [again_nil] | rw [walk_fin] | ((first | rw [walk_take] | rw [walk_run] | rw [again_cons]); intro Z hZ; simp only [sel, List.getElem?_toArray, List.getElem?_cons_zero, List.getElem?_cons_succ]; go_wp2_with (fail)))
          refine HC.out.mono ?_
          rintro e w2 ⟨A2, c2, rfl, ho2, hb2⟩
          obtain ⟨h1, hb1⟩ := H1.out
          have hbd : Below w1.heap.size w1 w2 := (Below.refl _ _).drew.trans hb2
          have h2 := h1.below hbd
          have hc := h2.cellsS HT.out
          have hct := ((HTA.out.blk.below hb1).below hbd).c4
          have HM := Lib.hid ((HTA.out.map.below hb1).below hbd)
          have H2 := Lib.hid (And.intro h2 (And.intro ho2 (And.intro hbd hb1)))
          clear h1 hb1 h2 ho2 hb2 hbd
          go_wp2_with fail
          repeat' (first | (refine hZ _ _ ?_; clear hZ) | (refine hZ _ ?_; clear hZ) | (refine hZ ?_; clear hZ) | rw [again_nil] | rw [walk_fin] | ((first | rw [walk_take] | rw [walk_run] | rw [again_cons]); intro Z hZ; simp only [sel, List.getElem?_toArray, List.getElem?_cons_zero, List.getElem?_cons_succ]; go_wp2_with (refine wpList_pg_update rfl rfl _ _ _ rfl rfl HM.out.map j rfl HJ.out HP.out _ rfl ?_; intro w3 hm3 hg3; have H3 := Lib.hid (And.intro hm3 hg3); clear hm3 hg3)))
          go_wp2_with fail
          go_ret
          obtain ⟨hm3, hg3⟩ := H3.out
          obtain ⟨h2, ho2, hbd, hb1⟩ := H2.out
          have hpm := HM.out.put (p := ⟨A2, c2, l⟩) hm3 hg3 (BRowU.own ho2) H5.out
          rw [HR.out]
          have hfin := h2.txMap HT.out HG.out hpm hg3
          refine ⟨{ G with tx := some { T with F := fun i => if i = j then some ⟨A2, c2, l⟩ else T.F i } }, rfl, rfl, rfl, hfin, fun i hi => ?_, ((Keeps.of_below hb1).then hbd).trans ((Keeps.of_grown hg3).mono fun i hi => ?_), ?_⟩
          · rcases G.own_withTx _ hi with hi | hi
            · exact .inl hi
            · refine .inl (.inr (.inr (.inr (.inr (.inl ⟨T, HT.out, ?_⟩)))))
              exact hi
          · exact .inr (.inr (.inr (.inr (.inl ⟨T, HT.out, .inr (.inl hi)⟩))))
          · exact ((HX.out.1.below hb1).below hbd).putMap HT.out HG.out (Nat.lt_of_lt_of_le HX.out.2.1 (Nat.le_trans hb1.size hbd.size)) (fun e => HX.out.2.2 (e ▸ .inr (.inr (.inr (.inr (.inl ⟨T, HT.out, .inr (.inl rfl)⟩)))))) ho2 (Nat.lt_of_lt_of_le HX.out.2.1 hb1.size) H5.out hm3 hg3
        · have HR : Hid (g.put (j : Int) l = (g, 1)) := by
            show _ = _
            unfold Pag.PG.put
            rw [hg]
            simp [hb, hz, h5]
          rw [hz] at HH
          have h5' := neq512 h5
          clear h hb hT hg ht m1 m2 m3 hz k1 k2 h5
          go_enter Tryz.func37, Tryz.ntmps37
          go_wp2_with fail
          refine HB.out.mono ?_
          rintro e w1 ⟨rfl, rfl⟩
          go_wp2_with fail
          refine HH.out.mono ?_
          rintro e w1 ⟨rfl, hb1⟩
          have H1 := Lib.hid hb1
          clear hb1
          go_wp2_with fail
          go_ret
          rw [HR.out]
          exact ⟨G, rfl, rfl, rfl, H0.out.below H1.out, fun i hi => .inl hi, Keeps.of_below H1.out, HX.out.1.below H1.out⟩
      · have HR : Hid (g.put k l = (g, g.has k)) := by
          show _ = _
          unfold Pag.PG.put
          rw [hg]
          simp [hb, hz]
        have hz2 : (g.has k != 0) = true := by simpa using hz
        generalize g.has k = e0 at *
        clear h hb hT hg ht m1 m2 m3 hz
        go_enter Tryz.func37, Tryz.ntmps37
        go_wp2_with fail
        refine HB.out.mono ?_
        rintro e w1 ⟨rfl, rfl⟩
        go_wp2_with fail
        refine HH.out.mono ?_
        rintro e w1 ⟨rfl, hb1⟩
        have H1 := Lib.hid hb1
        clear hb1
        go_wp2_with fail
        go_ret
        rw [HR.out]
        exact ⟨G, rfl, rfl, rfl, H0.out.below H1.out, fun i hi => .inl hi, Keeps.of_below H1.out, HX.out.1.below H1.out⟩
end Go.Proofs.YtcfoihihinijlaaGreat
end

section
namespace Go.Proofs.YtcfoihihinijlaaGreat
set_option linter.unusedSimpArgs false
set_option linter.unusedVariables false
open Go.RowKit Go.Maps
def putBytes (o : OpP) : List UInt8 := if o.odd = true then (List.replicate 512 o.c).drop 1 else List.replicate 512 o.c
section
variable {w0 w W W' : World} {gb fr n n' gx : Nat} {o : OpP} {G G1 : GB} {g : Pag.PG} {s : Pag.Sto} {a : SA} {x y : Value}
theorem SpL.bytes (h : SpL w0 w W gb fr o G G1 n g s a x y) (hf : PagFree w0 W G1 n g gx) (hk : Keeps W W' (fun i => i = gx)) (ht : tagOf W gx = some 5) (hx : w.heap.size ≤ gx) : SpL w0 w W' gb fr o G G1 n g s a x y := by
  have ht : ∀ i, i = gx → tagOf W i = some 5 := fun i hi => by rw [hi]; exact ht
  exact ⟨h.op.offK hk (off_row ht (by decide)), h.both.offK hk (off_row ht (by decide)), ⟨h.rows.sure.offK hk (off_row (U := 132) ht (by decide)), h.rows.now.offK hk (off_row (U := 132) ht (by decide)), h.rows.put.offK hk (off_row (U := 3) ht (by decide))⟩, hf _ hk, h.gp, h.k, h.own,
    ⟨hk.os.trans h.kp.os, hk.tape.trans h.kp.tape, hk.output.trans h.kp.output, Nat.le_trans h.kp.size hk.size, fun i hi hs => (hk.block i (Nat.lt_of_lt_of_le hi h.kp.size) (by omega)).trans (h.kp.block i hi hs)⟩⟩
theorem PagFree.other {T : TypeId} {z : Nat} (h : PagFree w0 W G1 n g gx) (hx : gx < W.heap.size) (hk : Keeps W W' (fun i => i = z)) (ht : tagOf W z = some T) (hz : z ≠ gx) (hT : T = 41) (hlo : w0.heap.size ≤ z) : PagFree w0 W' G1 n g gx := fun U hU => by
  obtain ⟨ob, hob⟩ : ∃ ob, U.heap[gx]? = some ob := ⟨U.heap[gx]'(Nat.lt_of_lt_of_le hx (Nat.le_trans hk.size hU.size)), Array.getElem?_eq_getElem _⟩
  obtain ⟨V, hV⟩ : ∃ V : World, V = { W with heap := W.heap.setIfInBounds gx ob } := ⟨_, rfl⟩
  have hVs : V.heap.size = W.heap.size := by rw [hV]; simp
  have hVx : V.heap[gx]? = some ob := by rw [hV]; simp [hx]
  have hVn : ∀ i, i ≠ gx → V.heap[i]? = W.heap[i]? := fun i hi => by rw [hV]; simp [Array.getElem?_setIfInBounds, Ne.symm hi]
  have hkV : Keeps W V (fun i => i = gx) := ⟨by rw [hV], by rw [hV], by rw [hV], by rw [hVs]; exact Nat.le_refl _, fun i _ hi => hVn i hi⟩
  have hp := h V hkV
  have hkU : Keeps V U (fun i => i = z) := by
    refine ⟨by rw [hU.os, hk.os, hV], by rw [hU.tape, hk.tape, hV], by rw [hU.output, hk.output, hV], by rw [hVs]; exact Nat.le_trans hk.size hU.size, fun i hi hne => ?_⟩
    rw [hVs] at hi
    by_cases e : i = gx
    · rw [e, hob, hVx]
    · rw [hVn i e, hU.block i (Nat.lt_of_lt_of_le hi hk.size) e]
      exact hk.block i hi hne
  have ht2 : ∀ i, i = z → tagOf V i = some T := fun i hi => by
    rw [hi]
    unfold tagOf at ht ⊢
    rw [hVn z hz]
    exact ht
  subst hT
  exact hp.offOther hkU ht2 (by decide) (by decide) (fun i hi => by rw [hi]; exact hlo)
theorem SpL.free9 (h : SpL w0 w W gb fr o G G1 n g s a x y) (hf : PagFree w0 W G1 n g gx) (hx : gx < W.heap.size) (hne : gb ≠ gx) (hw : w0.heap.size ≤ gb) (v5 v6 v7 v8 v9 v10 v11 v12 v13 : Value) :
    PagFree w0 (((((((((W.setCell ⟨gb, 5, none⟩ v5).setCell ⟨gb, 6, none⟩ v6).setCell ⟨gb, 7, none⟩ v7).setCell ⟨gb, 8, none⟩ v8).setCell ⟨gb, 9, none⟩ v9).setCell ⟨gb, 10, none⟩ v10).setCell ⟨gb, 11, none⟩ v11).setCell ⟨gb, 12, none⟩ v12).setCell ⟨gb, 13, none⟩ v13) G1 n g gx :=
  hf.other hx (Keeps.of_grown (((((((((grown_store W gb 5 _).set_ ⟨gb, 6, none⟩ rfl _).set_ ⟨gb, 7, none⟩ rfl _).set_ ⟨gb, 8, none⟩ rfl _).set_ ⟨gb, 9, none⟩ rfl _).set_ ⟨gb, 10, none⟩ rfl _).set_ ⟨gb, 11, none⟩ rfl _).set_ ⟨gb, 12, none⟩ rfl _).set_ ⟨gb, 13, none⟩ rfl _)) h.both.tag hne rfl hw
theorem bytes9 {B c : Nat} {A : Option Addr} {l : List UInt8} (h : BOwn W B A c l) (hne : ∀ a, A = some a → a.block ≠ gb) (v5 v6 v7 v8 v9 v10 v11 v12 v13 : Value) :
    BOwn (((((((((W.setCell ⟨gb, 5, none⟩ v5).setCell ⟨gb, 6, none⟩ v6).setCell ⟨gb, 7, none⟩ v7).setCell ⟨gb, 8, none⟩ v8).setCell ⟨gb, 9, none⟩ v9).setCell ⟨gb, 10, none⟩ v10).setCell ⟨gb, 11, none⟩ v11).setCell ⟨gb, 12, none⟩ v12).setCell ⟨gb, 13, none⟩ v13) B A c l :=
  h.keptK (Keeps.of_grown (((((((((grown_store W gb 5 _).set_ ⟨gb, 6, none⟩ rfl _).set_ ⟨gb, 7, none⟩ rfl _).set_ ⟨gb, 8, none⟩ rfl _).set_ ⟨gb, 9, none⟩ rfl _).set_ ⟨gb, 10, none⟩ rfl _).set_ ⟨gb, 11, none⟩ rfl _).set_ ⟨gb, 12, none⟩ rfl _).set_ ⟨gb, 13, none⟩ rfl _)) hne
theorem byte_up (x : UInt8) (v : Int) (hv : v = ((x.toNat : Int) + 1) % 256) : bv (x + 1) = .int .u8 v := by
  subst hv
  unfold bv
  rw [UInt8.toNat_add]
  congr 1
end
set_option maxRecDepth 20000 in
set_option maxHeartbeats 8000000 in
theorem stp_put (w0 w : World) (gb fr : Nat) (o : OpP) (hf : o.Fine w0) (G : GB) (n : Nat) (g g1 : Pag.PG) (e1' : Int) (R : List (List UInt8)) (N : Nat) (C : Nat → List UInt8) (s s1 : Pag.Sto) (f1' : Int) (a : SA) (x y : Value) (hp : PagAt w0 w G n g) (hb : Blk w gb 41 (bothL fr G.k.gd G.gp s a x y)) (hr : StoR w s a) (hw : w0.heap.size ≤ gb) (hn : n + 42 < 1000000)
    (hg1 : g.put o.n (putBytes o) = (g1, e1')) (hs1 : s.puts o.n (putBytes o) = (s1, f1')) (hul : g.now.used.length = g.pages + 1) (hpl : s.put.length ≤ 1000) (hnl : s.now.1.length ≤ 1000) (hc : SpC g1 R N C s1) (hke : (IntKind.u64.wrap o.k).tmod 10 = 1) :
    Calls Tryz.prog 23 #[.pointer (some ⟨gb, 0, none⟩), opV o] w (RetStp w0 w gb fr G (n + 42) g1 R N C s1 ((e1' == f1') && Pag.askB g1 C s1 o.n)) := by
  have HPL := Lib.hid (And.intro hpl (And.intro hnl hul))
  clear hpl hnl hul
  have HF := Lib.hid hf
  have HW := Lib.hid hw
  have HE := Lib.hid (And.intro hg1 hs1)
  unfold opV
  go_enter Tryz.func23, Tryz.ntmps23
  obtain ⟨pages, most, ⟨L1, r1⟩, ⟨L2, r2⟩, bi, pl, own⟩ := s
  obtain ⟨a1, c1, a2, c2, a3, c3⟩ := a
  obtain ⟨t1, ht1⟩ : ∃ t1, txt r1 = .string t1 := ⟨_, rfl⟩
  obtain ⟨t2, ht2⟩ : ∃ t2, txt r2 = .string t2 := ⟨_, rfl⟩
  have HT := Lib.hid (And.intro ht1 ht2)
  have HB0 := Lib.hid hb
  unfold bothL at hb
  simp only [ht1, ht2] at hb
  have hx := Blk.c16 hb
  clear ht1 ht2 hb hg1 hs1
  go_upto_region 3 with fail
  generalize hW1 : ((World.alloc w (.cells _ _)).alloc (.cells _ _)) = W1
  obtain ⟨ba1, bb1, hz1, hB1⟩ := fresh2 hW1
  clear hW1
  have H1 : Hid (SpL w0 w W1 gb fr o G G n g ⟨pages, most, ⟨L1, r1⟩, ⟨L2, r2⟩, bi, pl, own⟩ ⟨a1, c1, a2, c2, a3, c3⟩ x y) := ⟨ba1, HB0.out.below hB1, hr.below hB1, hp.below hB1, rfl, rfl, fun i hi => .inl hi, Keeps.of_below hB1⟩
  have hop := Blk.c8 ba1
  have hx := Blk.c16 (by have h := H1.out.both; unfold bothL at h; simp only [HT.out.1, HT.out.2] at h; exact h)
  have HC := Lib.hid hc
  have HN := Lib.hid hn
  clear ba1 bb1 hz1 hB1 hr hp hc hn HB0 hf hw
  go_wp2_with fail
  refine (page512_any W1 o.c).mono ?_
  rintro e w2 ⟨A2, d2, rfl, ho2, hb2⟩
  obtain ⟨gx, rfl, hgx1, hgx2, hcap⟩ : ∃ gx, A2 = some ⟨gx, 0, none⟩ ∧ W1.heap.size ≤ gx ∧ gx < w2.heap.size ∧ 512 ≤ d2 := by
    rcases ho2.form with ⟨-, -, e⟩ | ⟨gx, e, h1, h2, h3, -⟩
    · simp at e
    · exact ⟨gx, e, h1, h2, by simpa using h3⟩
  have hcap1 : ¬ d2 = 1 := by omega
  have HF2 : Hid (PagFree w0 w2.drew G n g gx) := PagFree.new H1.out.pag (hb2.then (Below.refl _ _).drew) hgx1
  have HGX : Hid (gb ≠ gx) := by
    have h := H1.out.both.lt
    show gb ≠ gx
    omega
  have HWX : Hid (w.heap.size ≤ gx) := Nat.le_trans H1.out.kp.size hgx1
  have HXO : Hid (¬ G.own gx) := fun hi => by
    have := H1.out.pag.own_lt gx hi
    omega
  have HO2 := Lib.hid (And.intro ho2.drew (And.intro hgx2 (And.intro hgx1 hcap)))
  have H2w := Lib.hid (H1.out.below hb2)
  have H2 := Lib.hid (H2w.out.below (Below.refl _ _).drew)
  clear ho2 hb2 hgx1 hgx2 H1
  have hop := Blk.c8 H2w.out.op
  have hx := Blk.c16 (by have h := H2w.out.both; unfold bothL at h; simp only [HT.out.1, HT.out.2] at h; exact h)
  cases hodd : o.odd with
  | true =>
    rw [hodd] at hop
    have hpb : putBytes o = (List.replicate 512 o.c).drop 1 := by unfold putBytes; rw [hodd, if_pos rfl]
    have hlen : (putBytes o).length = 511 := by rw [hpb]; simp
    have hrow : BRow w2.drew (some ⟨gx, 1, none⟩) (putBytes o) := by
      rw [hpb]
      have h := HO2.out.1.row.drop 1
      simpa [Addr.add_lit] using h
    have hbg := pputF_any w0 w2.drew G n g H2.out.pag HPL.out.2.2 o.n HF.out.n.1 HF.out.n.2 (some ⟨gx, 1, none⟩) (d2 - 1) (putBytes o) hrow (by omega) gx HF2.out HO2.out.2.1 HXO.out
    rw [HE.out.1, hlen] at hbg
    have HBG := Lib.hid hbg
    have HLN := Lib.hid (And.intro hlen hrow)
    clear hbg hlen hrow hpb hcap
    go_upto_region 14 with fail
    refine wp_region_plan (.take 0 (.take 1 (.take 2 (.take 3 (.take 4 (.take 5 (.take 6 (.run 7 [] (.take 8 .fin))))))))) (by kernel_rfl) (by kernel_rfl) (by kernel_rfl) (by kernel_rfl) ?_
    repeat' (first | (refine hZ _ _ ?_; clear hZ) | (refine hZ _ ?_; clear hZ) | (refine hZ ?_; clear hZ) | rw [again_nil] | rw [walk_fin] | ((first | rw [walk_take] | rw [walk_run] | rw [again_cons]); intro Z hZ; simp only [sel, List.getElem?_toArray, List.getElem?_cons_zero, List.getElem?_cons_succ]; go_wp2_with (fail)))
    refine HBG.out.mono ?_
    rintro e w3 ⟨G2, rfl, e1, e2, hp2, ho2, hk2, hf2⟩
    have offU : Off w2.drew G.own 5 := H2.out.pag.offOwn (by decide) (by decide) (by decide) (by decide) (by decide) (by decide) (by decide) (by decide)
    have HO3 : Hid (BOwn w3.drew W1.heap.size (some ⟨gx, 0, none⟩) d2 (List.replicate 512 o.c) ∧ BRow w3.drew (some ⟨gx, 1, none⟩) (putBytes o) ∧ gx < w3.drew.heap.size ∧ W1.heap.size ≤ gx) :=
      ⟨(HO2.out.1.keptK hk2 (fun a ha => by cases ha; exact HXO.out)).drew, ((BRowU.offK ⟨HLN.out.2, fun _ a ha => by cases ha; exact HO2.out.1.u8 ⟨gx, 0, none⟩ rfl⟩ hk2 offU).row : BRow w3 _ _), Nat.lt_of_lt_of_le HO2.out.2.1 hk2.size, HO2.out.2.2.1⟩
    have H3 := Lib.hid (And.intro ((H2.out.call hp2 e1 e2 ho2 hk2).below (Below.refl _ _).drew) (hf2.below (Below.refl _ _).drew))
    clear e1 e2 hp2 ho2 hk2 hf2 offU HBG H2 H2w HF2 HO2
    have hop := Blk.c8 H3.out.1.op
    have hx := Blk.c16 (by have h := H3.out.1.both; unfold bothL at h; simp only [HT.out.1, HT.out.2] at h; exact h)
    rw [hodd] at hop
    have hrb := rputs_any w3.drew _ _ H3.out.1.rows o.n (putBytes o) HPL.out.2.1 HPL.out.1
    rw [HE.out.2] at hrb
    unfold stoV at hrb
    simp only [HT.out.1, HT.out.2] at hrb
    have HRB := Lib.hid hrb
    clear hrb
    go_wp2_with fail
    repeat' (first | (refine hZ _ _ ?_; clear hZ) | (refine hZ _ ?_; clear hZ) | (refine hZ ?_; clear hZ) | rw [again_nil] | rw [walk_fin] | ((first | rw [walk_take] | rw [walk_run] | rw [again_cons]); intro Z hZ; simp only [sel, List.getElem?_toArray, List.getElem?_cons_zero, List.getElem?_cons_succ]; go_wp2_with (fail)))
    go_upto_region 15 with fail
    refine wp_region_plan (.take 0 (.take 1 (.take 2 (.take 3 (.take 4 (.take 5 (.take 6 (.take 7 (.take 8 (.run 9 [0] (.take 10 (.take 11 (.take 12 (.take 13 (.take 14 (.run 15 [12] (.take 16 .fin))))))))))))))))) (by kernel_rfl) (by kernel_rfl) (by kernel_rfl) (by kernel_rfl) ?_
    repeat' (first | (refine hZ _ _ ?_; clear hZ) | (refine hZ _ ?_; clear hZ) | (refine hZ ?_; clear hZ) | rw [again_nil] | rw [walk_fin] | ((first | rw [walk_take] | rw [walk_run] | rw [again_cons]); intro Z hZ; simp only [sel, List.getElem?_toArray, List.getElem?_cons_zero, List.getElem?_cons_succ]; go_wp2_with (refine wpList_str_of rfl (.tmp 88) rfl rfl HLN.out.1.symm HO3.out.2.1 ?_)))
    refine HRB.out.mono ?_
    rintro e w4 ⟨a', rfl, hr4, hb4⟩
    have H4 := Lib.hid (And.intro (H3.out.1.below hb4) (And.intro hr4 (And.intro (H3.out.2.below hb4) (And.intro (HO3.out.1.below hb4) (And.intro (Nat.lt_of_lt_of_le HO3.out.2.2.1 hb4.size) HO3.out.2.2.2)))))
    have hop := Blk.c8 H4.out.1.op
    have hx := Blk.c16 (by have h := H4.out.1.both; unfold bothL at h; simp only [HT.out.1, HT.out.2] at h; exact h)
    have hz := Blk.z16 H4.out.1.both
    rw [hodd] at hop
    clear hr4 hb4 H3 HRB HE HO3
    obtain ⟨p', m', ⟨L1', r1'⟩, ⟨L2', r2'⟩, bi', pl', own'⟩ := s1
    obtain ⟨a1', c1', a2', c2', a3', c3'⟩ := a'
    obtain ⟨t1', ht1'⟩ : ∃ t, txt r1' = .string t := ⟨_, rfl⟩
    obtain ⟨t2', ht2'⟩ : ∃ t, txt r2' = .string t := ⟨_, rfl⟩
    have HT' := Lib.hid (And.intro ht1' ht2')
    unfold stoV
    simp only [ht1', ht2']
    clear ht1' ht2'
    go_wp2_with fail
    repeat' (first | (refine hZ _ _ ?_; clear hZ) | (refine hZ _ ?_; clear hZ) | (refine hZ ?_; clear hZ) | rw [again_nil] | rw [walk_fin] | ((first | rw [walk_take] | rw [walk_run] | rw [again_cons]); intro Z hZ; simp only [sel, List.getElem?_toArray, List.getElem?_cons_zero, List.getElem?_cons_succ]; go_wp2_with (fail)))
    go_upto_region 17 with fail
    have h9 := H4.out.1.store9 HW.out H4.out.2.1
    simp only [HT'.out.1, HT'.out.2] at h9
    have f9 := H4.out.1.free9 H4.out.2.2.1 H4.out.2.2.2.2.1 HGX.out HW.out (.int .i64 p') (.int .i64 m') (.slice a1' L1'.length c1') (.string t1') (.slice a2' L2'.length c2') (.string t2') (.bool bi') (.slice a3' pl'.length c3') (.bool own')
    have b9 := bytes9 (gb := gb) H4.out.2.2.2.1 (fun a ha => by cases ha; exact fun e => HGX.out e.symm) (.int .i64 p') (.int .i64 m') (.slice a1' L1'.length c1') (.string t1') (.slice a2' L2'.length c2') (.string t2') (.bool bi') (.slice a3' pl'.length c3') (.bool own')
    have HLO := Lib.hid H4.out.2.2.2.2.2
    clear hop hx hz H4
    generalize ((((((((w4.setCell ⟨gb, 5, none⟩ (.int .i64 p')).setCell ⟨gb, 6, none⟩ (.int .i64 m')).setCell ⟨gb, 7, none⟩ (.slice a1' L1'.length c1')).setCell ⟨gb, 8, none⟩ (.string t1')).setCell ⟨gb, 9, none⟩ (.slice a2' L2'.length c2')).setCell ⟨gb, 10, none⟩ (.string t2')).setCell ⟨gb, 11, none⟩ (.bool bi')).setCell ⟨gb, 12, none⟩ (.slice a3' pl'.length c3')).setCell ⟨gb, 13, none⟩ (.bool own') = W5 at h9 f9 b9 ⊢
    have H5 := Lib.hid (And.intro h9 (And.intro f9 b9))
    clear h9 f9 b9
    go_loopw [97] (fun iv wr => ∃ i : Nat, i ≤ 511 ∧ iv = .int .i64 (i : Int) ∧ Hid (Keeps W5 wr (fun i => i = gx) ∧ ∃ l', BOwn wr W1.heap.size (some ⟨gx, 0, none⟩) d2 l' ∧ l'.length = 512)) (fun iv _ => 511 - (intOf iv).toNat)
    case atStart => exact ⟨0, by decide, by go_num, Keeps.refl _ _, _, H5.out.2.2, by simp⟩
    case round =>
      obtain ⟨i, hi, rfl, HS⟩ := hrel
      by_cases hlt : i < 511
      · have hlti : (i : Int) < 511 := by omega
        obtain ⟨hk, l', hl, hll⟩ := HS.out
        have hce := hl.cell (j := 1 + i) (by omega)
        have hfr := hl.free (1 + i)
        obtain ⟨z, hz⟩ : ∃ z : UInt8, l'[1 + i] = z := ⟨_, rfl⟩
        rw [hz] at hce
        have hzb := z.toNat_lt
        have H6 := Lib.hid (And.intro hk (And.intro hl hll))
        clear hk hl hll hz HS
        try simp only [Nat.zero_add] at hce hfr
        go_wp2_with fail
        go_roundw
        case rel => exact ⟨i + 1, by omega, by go_num, H6.out.1.set _ (.inl rfl) _, _, H6.out.2.1.store _ (z + 1) _ (byte_up z _ rfl), by rw [List.length_set]; exact H6.out.2.2⟩
        case measure => simp [intOf]; omega
      · have hlti : ¬ (i : Int) < 511 := by omega
        have H6 := Lib.hid (H5.out.1.bytes H5.out.2.1 HS.out.1 (H5.out.2.2.u8 ⟨gx, 0, none⟩ rfl).tag HWX.out)
        have hop := Blk.c8 H6.out.op
        have hx := Blk.c16 (by have h := H6.out.both; unfold bothL at h; simp only [HT'.out.1, HT'.out.2] at h; exact h)
        have hz := Blk.z16 H6.out.both
        clear HS H5
        obtain ⟨be, hbe⟩ : ∃ b, (e1' == f1') = b := ⟨_, rfl⟩
        have HBE := Lib.hid hbe
        cases be with
        | true =>
          cases bi' with
          | true =>
            go_wp2_with fail
            refine (H6.out.ask HC.out HN.out HF.out.n).mono ?_
            rintro e w5 ⟨rfl, hret⟩
            have HRET := Lib.hid hret
            clear hret
            go_wp2_with fail
            go_ret
            try simp only [HBE.out, Bool.true_and]
            exact HRET.out
          | false =>
            go_wp2_with fail
            refine ((H6.out.then2 HW.out _ _).ask HC.out HN.out HF.out.n).mono ?_
            rintro e w5 ⟨rfl, hret⟩
            have HRET := Lib.hid hret
            clear hret
            go_wp2_with fail
            go_ret
            try simp only [HBE.out, Bool.true_and]
            exact HRET.out
        | false =>
          cases bi' with
          | true =>
            go_wp2_with fail
            go_ret
            try simp only [HBE.out, Bool.false_and]
            exact H6.out.done HC.out.lk (Nat.le_add_right _ _) false
          | false =>
            go_wp2_with fail
            go_ret
            try simp only [HBE.out, Bool.false_and]
            exact (H6.out.then2 HW.out _ _).done HC.out.lk (Nat.le_add_right _ _) false
  | false =>
    rw [hodd] at hop
    have hpb : putBytes o = List.replicate 512 o.c := by unfold putBytes; rw [hodd, if_neg (by simp)]
    have hlen : (putBytes o).length = 512 := by rw [hpb]; simp
    have hrow : BRow w2.drew (some ⟨gx, 0, none⟩) (putBytes o) := by
      rw [hpb]
      exact HO2.out.1.row
    have hbg := pputF_any w0 w2.drew G n g H2.out.pag HPL.out.2.2 o.n HF.out.n.1 HF.out.n.2 (some ⟨gx, 0, none⟩) d2 (putBytes o) hrow (by omega) gx HF2.out HO2.out.2.1 HXO.out
    rw [HE.out.1, hlen] at hbg
    have HBG := Lib.hid hbg
    have HLN := Lib.hid (And.intro hlen hrow)
    clear hbg hlen hrow hpb hcap
    go_upto_region 14 with fail
    refine wp_region_plan (.take 0 (.take 1 (.take 2 (.take 3 (.take 4 (.take 5 (.take 6 (.run 7 [] (.take 8 .fin))))))))) (by kernel_rfl) (by kernel_rfl) (by kernel_rfl) (by kernel_rfl) ?_
    repeat' (first | (refine hZ _ _ ?_; clear hZ) | (refine hZ _ ?_; clear hZ) | (refine hZ ?_; clear hZ) | rw [again_nil] | rw [walk_fin] | ((first | rw [walk_take] | rw [walk_run] | rw [again_cons]); intro Z hZ; simp only [sel, List.getElem?_toArray, List.getElem?_cons_zero, List.getElem?_cons_succ]; go_wp2_with (fail)))
    refine HBG.out.mono ?_
    rintro e w3 ⟨G2, rfl, e1, e2, hp2, ho2, hk2, hf2⟩
    have offU : Off w2.drew G.own 5 := H2.out.pag.offOwn (by decide) (by decide) (by decide) (by decide) (by decide) (by decide) (by decide) (by decide)
    have HO3 : Hid (BOwn w3.drew W1.heap.size (some ⟨gx, 0, none⟩) d2 (List.replicate 512 o.c) ∧ BRow w3.drew (some ⟨gx, 0, none⟩) (putBytes o) ∧ gx < w3.drew.heap.size ∧ W1.heap.size ≤ gx) :=
      ⟨(HO2.out.1.keptK hk2 (fun a ha => by cases ha; exact HXO.out)).drew, ((BRowU.offK ⟨HLN.out.2, fun _ a ha => by cases ha; exact HO2.out.1.u8 ⟨gx, 0, none⟩ rfl⟩ hk2 offU).row : BRow w3 _ _), Nat.lt_of_lt_of_le HO2.out.2.1 hk2.size, HO2.out.2.2.1⟩
    have H3 := Lib.hid (And.intro ((H2.out.call hp2 e1 e2 ho2 hk2).below (Below.refl _ _).drew) (hf2.below (Below.refl _ _).drew))
    clear e1 e2 hp2 ho2 hk2 hf2 offU HBG H2 H2w HF2 HO2
    have hop := Blk.c8 H3.out.1.op
    have hx := Blk.c16 (by have h := H3.out.1.both; unfold bothL at h; simp only [HT.out.1, HT.out.2] at h; exact h)
    rw [hodd] at hop
    have hrb := rputs_any w3.drew _ _ H3.out.1.rows o.n (putBytes o) HPL.out.2.1 HPL.out.1
    rw [HE.out.2] at hrb
    unfold stoV at hrb
    simp only [HT.out.1, HT.out.2] at hrb
    have HRB := Lib.hid hrb
    clear hrb
    go_wp2_with fail
    repeat' (first | (refine hZ _ _ ?_; clear hZ) | (refine hZ _ ?_; clear hZ) | (refine hZ ?_; clear hZ) | rw [again_nil] | rw [walk_fin] | ((first | rw [walk_take] | rw [walk_run] | rw [again_cons]); intro Z hZ; simp only [sel, List.getElem?_toArray, List.getElem?_cons_zero, List.getElem?_cons_succ]; go_wp2_with (fail)))
    go_upto_region 15 with fail
    refine wp_region_plan (.take 0 (.take 1 (.take 2 (.take 3 (.take 4 (.take 5 (.take 6 (.take 7 (.take 8 (.run 9 [0] (.take 10 (.take 11 (.take 12 (.take 13 (.take 14 (.run 15 [12] (.take 16 .fin))))))))))))))))) (by kernel_rfl) (by kernel_rfl) (by kernel_rfl) (by kernel_rfl) ?_
    repeat' (first | (refine hZ _ _ ?_; clear hZ) | (refine hZ _ ?_; clear hZ) | (refine hZ ?_; clear hZ) | rw [again_nil] | rw [walk_fin] | ((first | rw [walk_take] | rw [walk_run] | rw [again_cons]); intro Z hZ; simp only [sel, List.getElem?_toArray, List.getElem?_cons_zero, List.getElem?_cons_succ]; go_wp2_with (refine wpList_str_of rfl (.tmp 88) rfl rfl HLN.out.1.symm HO3.out.2.1 ?_)))
    refine HRB.out.mono ?_
    rintro e w4 ⟨a', rfl, hr4, hb4⟩
    have H4 := Lib.hid (And.intro (H3.out.1.below hb4) (And.intro hr4 (And.intro (H3.out.2.below hb4) (And.intro (HO3.out.1.below hb4) (And.intro (Nat.lt_of_lt_of_le HO3.out.2.2.1 hb4.size) HO3.out.2.2.2)))))
    have hop := Blk.c8 H4.out.1.op
    have hx := Blk.c16 (by have h := H4.out.1.both; unfold bothL at h; simp only [HT.out.1, HT.out.2] at h; exact h)
    have hz := Blk.z16 H4.out.1.both
    rw [hodd] at hop
    clear hr4 hb4 H3 HRB HE HO3
    obtain ⟨p', m', ⟨L1', r1'⟩, ⟨L2', r2'⟩, bi', pl', own'⟩ := s1
    obtain ⟨a1', c1', a2', c2', a3', c3'⟩ := a'
    obtain ⟨t1', ht1'⟩ : ∃ t, txt r1' = .string t := ⟨_, rfl⟩
    obtain ⟨t2', ht2'⟩ : ∃ t, txt r2' = .string t := ⟨_, rfl⟩
    have HT' := Lib.hid (And.intro ht1' ht2')
    unfold stoV
    simp only [ht1', ht2']
    clear ht1' ht2'
    go_wp2_with fail
    repeat' (first | (refine hZ _ _ ?_; clear hZ) | (refine hZ _ ?_; clear hZ) | (refine hZ ?_; clear hZ) | rw [again_nil] | rw [walk_fin] | ((first | rw [walk_take] | rw [walk_run] | rw [again_cons]); intro Z hZ; simp only [sel, List.getElem?_toArray, List.getElem?_cons_zero, List.getElem?_cons_succ]; go_wp2_with (fail)))
    go_upto_region 17 with fail
    have h9 := H4.out.1.store9 HW.out H4.out.2.1
    simp only [HT'.out.1, HT'.out.2] at h9
    have f9 := H4.out.1.free9 H4.out.2.2.1 H4.out.2.2.2.2.1 HGX.out HW.out (.int .i64 p') (.int .i64 m') (.slice a1' L1'.length c1') (.string t1') (.slice a2' L2'.length c2') (.string t2') (.bool bi') (.slice a3' pl'.length c3') (.bool own')
    have b9 := bytes9 (gb := gb) H4.out.2.2.2.1 (fun a ha => by cases ha; exact fun e => HGX.out e.symm) (.int .i64 p') (.int .i64 m') (.slice a1' L1'.length c1') (.string t1') (.slice a2' L2'.length c2') (.string t2') (.bool bi') (.slice a3' pl'.length c3') (.bool own')
    have HLO := Lib.hid H4.out.2.2.2.2.2
    clear hop hx hz H4
    generalize ((((((((w4.setCell ⟨gb, 5, none⟩ (.int .i64 p')).setCell ⟨gb, 6, none⟩ (.int .i64 m')).setCell ⟨gb, 7, none⟩ (.slice a1' L1'.length c1')).setCell ⟨gb, 8, none⟩ (.string t1')).setCell ⟨gb, 9, none⟩ (.slice a2' L2'.length c2')).setCell ⟨gb, 10, none⟩ (.string t2')).setCell ⟨gb, 11, none⟩ (.bool bi')).setCell ⟨gb, 12, none⟩ (.slice a3' pl'.length c3')).setCell ⟨gb, 13, none⟩ (.bool own') = W5 at h9 f9 b9 ⊢
    have H5 := Lib.hid (And.intro h9 (And.intro f9 b9))
    clear h9 f9 b9
    go_loopw [97] (fun iv wr => ∃ i : Nat, i ≤ 512 ∧ iv = .int .i64 (i : Int) ∧ Hid (Keeps W5 wr (fun i => i = gx) ∧ ∃ l', BOwn wr W1.heap.size (some ⟨gx, 0, none⟩) d2 l' ∧ l'.length = 512)) (fun iv _ => 512 - (intOf iv).toNat)
    case atStart => exact ⟨0, by decide, by go_num, Keeps.refl _ _, _, H5.out.2.2, by simp⟩
    case round =>
      obtain ⟨i, hi, rfl, HS⟩ := hrel
      by_cases hlt : i < 512
      · have hlti : (i : Int) < 512 := by omega
        obtain ⟨hk, l', hl, hll⟩ := HS.out
        have hce := hl.cell (j := 0 + i) (by omega)
        have hfr := hl.free (0 + i)
        obtain ⟨z, hz⟩ : ∃ z : UInt8, l'[0 + i] = z := ⟨_, rfl⟩
        rw [hz] at hce
        have hzb := z.toNat_lt
        have H6 := Lib.hid (And.intro hk (And.intro hl hll))
        clear hk hl hll hz HS
        try simp only [Nat.zero_add] at hce hfr
        go_wp2_with fail
        go_roundw
        case rel => exact ⟨i + 1, by omega, by go_num, H6.out.1.set _ (.inl rfl) _, _, H6.out.2.1.store _ (z + 1) _ (byte_up z _ rfl), by rw [List.length_set]; exact H6.out.2.2⟩
        case measure => simp [intOf]; omega
      · have hlti : ¬ (i : Int) < 512 := by omega
        have H6 := Lib.hid (H5.out.1.bytes H5.out.2.1 HS.out.1 (H5.out.2.2.u8 ⟨gx, 0, none⟩ rfl).tag HWX.out)
        have hop := Blk.c8 H6.out.op
        have hx := Blk.c16 (by have h := H6.out.both; unfold bothL at h; simp only [HT'.out.1, HT'.out.2] at h; exact h)
        have hz := Blk.z16 H6.out.both
        clear HS H5
        obtain ⟨be, hbe⟩ : ∃ b, (e1' == f1') = b := ⟨_, rfl⟩
        have HBE := Lib.hid hbe
        cases be with
        | true =>
          cases bi' with
          | true =>
            go_wp2_with fail
            refine (H6.out.ask HC.out HN.out HF.out.n).mono ?_
            rintro e w5 ⟨rfl, hret⟩
            have HRET := Lib.hid hret
            clear hret
            go_wp2_with fail
            go_ret
            try simp only [HBE.out, Bool.true_and]
            exact HRET.out
          | false =>
            go_wp2_with fail
            refine ((H6.out.then2 HW.out _ _).ask HC.out HN.out HF.out.n).mono ?_
            rintro e w5 ⟨rfl, hret⟩
            have HRET := Lib.hid hret
            clear hret
            go_wp2_with fail
            go_ret
            try simp only [HBE.out, Bool.true_and]
            exact HRET.out
        | false =>
          cases bi' with
          | true =>
            go_wp2_with fail
            go_ret
            try simp only [HBE.out, Bool.false_and]
            exact H6.out.done HC.out.lk (Nat.le_add_right _ _) false
          | false =>
            go_wp2_with fail
            go_ret
            try simp only [HBE.out, Bool.false_and]
            exact (H6.out.then2 HW.out _ _).done HC.out.lk (Nat.le_add_right _ _) false
end Go.Proofs.YtcfoihihinijlaaGreat
end

section
namespace Go.Proofs.YtcfoihihinijlaaGreat
set_option linter.unusedSimpArgs false
set_option linter.unusedVariables false
namespace Pag
def QEq (a b : PG) : Prop := ∃ q, b = { a with q := q }
theorem QEq.refl (a : PG) : QEq a a := ⟨a.q, rfl⟩
theorem QEq.begin {a b : PG} (h : QEq a b) : QEq a.begin.1 b.begin.1 ∧ b.begin.2 = a.begin.2 := by
  obtain ⟨q, rfl⟩ := h
  unfold PG.begin
  dsimp only
  by_cases h : a.broken = true ∨ a.tx.isSome = true
  · rw [if_pos h, if_pos h]; exact ⟨⟨q, rfl⟩, rfl⟩
  · rw [if_neg h, if_neg h]; exact ⟨⟨q, rfl⟩, rfl⟩
theorem QEq.rollback {a b : PG} (h : QEq a b) : QEq a.rollback.1 b.rollback.1 ∧ b.rollback.2 = a.rollback.2 := by
  obtain ⟨q, rfl⟩ := h
  unfold PG.rollback
  dsimp only
  by_cases h : a.broken = true ∨ a.tx.isNone = true
  · rw [if_pos h, if_pos h]; exact ⟨⟨q, rfl⟩, rfl⟩
  · rw [if_neg h, if_neg h]; exact ⟨⟨q, rfl⟩, rfl⟩
theorem QEq.put {a b : PG} (h : QEq a b) (n : Int) (x : List UInt8) : QEq (a.put n x).1 (b.put n x).1 ∧ (b.put n x).2 = (a.put n x).2 := by
  obtain ⟨q, rfl⟩ := h
  obtain ⟨d, l, q0, bl, pg, su, ov, tx, br⟩ := a
  have hh : (⟨d, l, q, bl, pg, su, ov, tx, br⟩ : PG).has n = (⟨d, l, q0, bl, pg, su, ov, tx, br⟩ : PG).has n := rfl
  cases tx with
  | none => exact ⟨⟨q, rfl⟩, rfl⟩
  | some t =>
    unfold PG.put
    dsimp only
    rw [hh]
    generalize (⟨d, l, q0, bl, pg, su, ov, some t, br⟩ : PG).has n = e
    by_cases h1 : br = true
    · rw [if_pos h1, if_pos h1]; exact ⟨⟨q, rfl⟩, rfl⟩
    · rw [if_neg h1, if_neg h1]
      by_cases h2 : e ≠ 0
      · rw [if_pos h2, if_pos h2]; exact ⟨⟨q, rfl⟩, rfl⟩
      · rw [if_neg h2, if_neg h2]
        by_cases h3 : x.length ≠ 512
        · rw [if_pos h3, if_pos h3]; exact ⟨⟨q, rfl⟩, rfl⟩
        · rw [if_neg h3, if_neg h3]; exact ⟨⟨q, rfl⟩, rfl⟩
theorem QEq.free {a b : PG} (h : QEq a b) (n : Int) : QEq (a.free n).1 (b.free n).1 ∧ (b.free n).2 = (a.free n).2 := by
  obtain ⟨q, rfl⟩ := h
  obtain ⟨d, l, q0, bl, pg, su, ov, tx, br⟩ := a
  have hh : (⟨d, l, q, bl, pg, su, ov, tx, br⟩ : PG).has n = (⟨d, l, q0, bl, pg, su, ov, tx, br⟩ : PG).has n := rfl
  cases tx with
  | none => exact ⟨⟨q, rfl⟩, rfl⟩
  | some t =>
    unfold PG.free
    dsimp only
    rw [hh]
    generalize (⟨d, l, q0, bl, pg, su, ov, some t, br⟩ : PG).has n = e
    by_cases h1 : br = true
    · rw [if_pos h1, if_pos h1]; exact ⟨⟨q, rfl⟩, rfl⟩
    · rw [if_neg h1, if_neg h1]
      by_cases h2 : e ≠ 0
      · rw [if_pos h2, if_pos h2]; exact ⟨⟨q, rfl⟩, rfl⟩
      · rw [if_neg h2, if_neg h2]; exact ⟨⟨q, rfl⟩, rfl⟩
theorem QEq.setRoot {a b : PG} (h : QEq a b) (x : List UInt8) : QEq (a.setRoot x).1 (b.setRoot x).1 ∧ (b.setRoot x).2 = (a.setRoot x).2 := by
  obtain ⟨q, rfl⟩ := h
  obtain ⟨d, l, q0, bl, pg, su, ov, tx, br⟩ := a
  cases tx with
  | none => exact ⟨⟨q, rfl⟩, rfl⟩
  | some t =>
    unfold PG.setRoot
    dsimp only
    by_cases h1 : br = true
    · rw [if_pos h1, if_pos h1]; exact ⟨⟨q, rfl⟩, rfl⟩
    · rw [if_neg h1, if_neg h1]
      by_cases h3 : 64 < x.length
      · rw [if_pos h3, if_pos h3]; exact ⟨⟨q, rfl⟩, rfl⟩
      · rw [if_neg h3, if_neg h3]; exact ⟨⟨q, rfl⟩, rfl⟩
theorem QEq.alloc {a b : PG} (h : QEq a b) : QEq a.alloc.1 b.alloc.1 ∧ b.alloc.2 = a.alloc.2 := by
  obtain ⟨q, rfl⟩ := h
  obtain ⟨d, l, q0, bl, pg, su, ov, tx, br⟩ := a
  cases tx with
  | none => exact ⟨⟨q, rfl⟩, rfl⟩
  | some t =>
    unfold PG.alloc
    dsimp only
    by_cases h1 : br = true
    · rw [if_pos h1, if_pos h1]; exact ⟨⟨q, rfl⟩, rfl⟩
    · rw [if_neg h1, if_neg h1]
      cases freeF t.m.used 1 pg with
      | none => exact ⟨⟨q, rfl⟩, rfl⟩
      | some n => exact ⟨⟨q, rfl⟩, rfl⟩
theorem settle_q (a : PG) (q : PS) : ({ a with q := q } : PG).settle = ({ a.settle.1 with q := q }, a.settle.2) := by
  unfold PG.settle
  dsimp only
  split
  · rfl
  · split
    · rfl
    · split <;> rfl
theorem QEq.settle {a b : PG} (h : QEq a b) : QEq a.settle.1 b.settle.1 ∧ b.settle.2 = a.settle.2 := by
  obtain ⟨q, rfl⟩ := h
  have e := settle_q a q
  exact ⟨⟨q, congrArg (fun r : PG × Int => r.1) e⟩, (congrArg (fun r : PG × Int => r.2) e :)⟩
theorem QEq.checkpoint {a b : PG} (h : QEq a b) : QEq a.checkpoint.1 b.checkpoint.1 ∧ b.checkpoint.2 = a.checkpoint.2 := by
  have hs := h.settle
  obtain ⟨q, rfl⟩ := h
  unfold PG.checkpoint
  dsimp only
  by_cases h : a.broken = true ∨ a.tx.isSome = true
  · rw [if_pos h, if_pos h]; exact ⟨⟨q, rfl⟩, rfl⟩
  · rw [if_neg h, if_neg h]; exact hs
theorem QEq.keep {a b : PG} (h : QEq a b) (t : TX) (L : List Nat) : QEq (a.keep t L).1 (b.keep t L).1 ∧ (b.keep t L).2 = (a.keep t L).2 := by
  obtain ⟨q, rfl⟩ := h
  unfold PG.keep
  dsimp only
  split
  · exact ⟨⟨q, rfl⟩, rfl⟩
  · exact ⟨⟨_, rfl⟩, rfl⟩
theorem QEq.commit {a b : PG} (h : QEq a b) : QEq a.commit.1 b.commit.1 ∧ b.commit.2 = a.commit.2 := by
  have hs := h.settle
  have hk := fun t L => h.keep t L
  have hsk := fun t L => hs.1.keep t L
  obtain ⟨q, rfl⟩ := h
  obtain ⟨d, l, q0, bl, pg, su, ov, tx, br⟩ := a
  cases tx with
  | none => exact ⟨⟨q, rfl⟩, rfl⟩
  | some t =>
    unfold PG.commit
    dsimp only at hs hk hsk ⊢
    by_cases h1 : br = true
    · rw [if_pos h1, if_pos h1]; exact ⟨⟨q, rfl⟩, rfl⟩
    · rw [if_neg h1, if_neg h1]
      by_cases h2 : keys t.all (pg + 1) = []
      · rw [if_pos h2, if_pos h2]; exact ⟨⟨q, rfl⟩, rfl⟩
      · rw [if_neg h2, if_neg h2]
        by_cases h3 : most bl < ((keys t.all (pg + 1)).length : Int)
        · rw [if_pos h3, if_pos h3]; exact ⟨⟨q, rfl⟩, rfl⟩
        · rw [if_neg h3, if_neg h3]
          by_cases h4 : (l.room - l.data.length : Int) < ((record t.all (keys t.all (pg + 1))).length : Int) + 16
          · rw [if_pos h4, if_pos h4, hs.2]
            by_cases h5 : (⟨d, l, q0, bl, pg, su, ov, some t, br⟩ : PG).settle.2 ≠ 0
            · rw [if_pos h5, if_pos h5]; exact ⟨hs.1, hs.2⟩
            · rw [if_neg h5, if_neg h5]; exact hsk _ _
          · rw [if_neg h4, if_neg h4]; exact hk _ _
theorem QEq.ask {a b : PG} (h : QEq a b) (C : Nat → List UInt8) (s : Sto) (n : Int) : askB b C s n = askB a C s n := by
  obtain ⟨q, rfl⟩ := h
  rfl
theorem QEq.lst {a b : PG} (h : QEq a b) (C : Nat → List UInt8) : b.lst C = a.lst C := by
  obtain ⟨q, rfl⟩ := h
  rfl
theorem QEq.root {a b : PG} (h : QEq a b) : b.root = a.root := by
  obtain ⟨q, rfl⟩ := h
  rfl
def PG.cC (g : PG) (C : Nat → List UInt8) : Nat → List UInt8 := match g.tx with
  | none => C
  | some t => if most g.blocks < ((keys t.all (g.pages + 1)).length : Int) then C else fun i => (t.all i).getD (C i)
theorem QEq.cC {a b : PG} (h : QEq a b) (C : Nat → List UInt8) : b.cC C = a.cC C := by
  obtain ⟨q, rfl⟩ := h
  rfl
structure SI (g : PG) (R : List (List UInt8)) (N : Nat) (C : Nat → List UInt8) (k : Nat) : Prop where
  inv : Inv g R N C
  u0 : U0 g
  now : NowAt g.d
  blocks : g.blocks = 10
  pages : g.pages = 9
  seq : g.l.seq ≤ 1 + 2 * k
section
variable {g : PG} {R : List (List UInt8)} {N k : Nat} {C : Nat → List UInt8}
theorem SI.tx (h : SI g R N C k) {g' : PG} (hi : Inv g' R N C) (hu : U0 g') (ho : TxOnly g g') : SI g' R N C (k + 1) := by
  obtain ⟨t, rfl, -⟩ := ho
  exact ⟨hi, hu, h.now, h.blocks, h.pages, by have := h.seq; show g.l.seq ≤ _; omega⟩
theorem txOnly_rollback (g : PG) : ∃ t, g.rollback.1 = { g with tx := t } := by
  unfold PG.rollback
  split
  · exact ⟨g.tx, rfl⟩
  · exact ⟨_, rfl⟩
theorem SI.rollback (h : SI g R N C k) : SI g.rollback.1 R N C (k + 1) := by
  have hi := h.inv.rollback
  have hu := h.u0.rollback
  obtain ⟨t, e⟩ := txOnly_rollback g
  rw [e] at hi hu ⊢
  exact ⟨hi, hu, h.now, h.blocks, h.pages, by have := h.seq; show g.l.seq ≤ _; omega⟩
theorem SI.commit (h : SI g R N C k) (hk : k ≤ 60) : (∃ R', SI g.commit.1 R' N (g.cC C) (k + 1)) ∧ g.commit.2 ≠ 6 := by
  have hu := h.u0.commit
  have hn := now_commit h.now
  have hs := h.seq
  have hlast : (1000 : Nat) < Wal.last62 := by decide
  cases ht : g.tx with
  | none =>
    have e : g.commit = (g, 3) := by unfold PG.commit; rw [ht]
    have ec : g.cC C = C := by unfold PG.cC; rw [ht]
    rw [e, ec]
    exact ⟨⟨R, h.inv, h.u0, h.now, h.blocks, h.pages, by show g.l.seq ≤ _; omega⟩, by show (3 : Int) ≠ 6; decide⟩
  | some t =>
    have hc := h.inv.pg.commit ht (h.inv.tx t ht) (by omega)
    by_cases hm : most g.blocks < ((keys t.all (g.pages + 1)).length : Int)
    · rw [if_pos hm] at hc
      have ec : g.cC C = C := by unfold PG.cC; rw [ht]; exact if_pos hm
      rw [hc] at hu hn
      rw [hc, ec]
      exact ⟨⟨R, Inv.noTx h.inv.pg, hu, hn, h.blocks, h.pages, by show g.l.seq ≤ _; omega⟩, by show (40 : Int) ≠ 6; decide⟩
    · rw [if_neg hm] at hc
      obtain ⟨g', R', e, hg, s1, s2, s3, s4, s5⟩ := hc
      have ec : g.cC C = fun i => (t.all i).getD (C i) := by unfold PG.cC; rw [ht]; exact if_neg hm
      rw [e] at hu hn
      rw [e, ec]
      exact ⟨⟨R', ⟨hg, fun t' e' => by rw [s2] at e'; cases e'⟩, hu, hn, by rw [s3]; exact h.blocks, by rw [s4]; exact h.pages, by show g'.l.seq ≤ _; omega⟩, by show (0 : Int) ≠ 6; decide⟩
theorem SI.checkpoint (h : SI g R N C k) (hk : k ≤ 60) : (∃ R', SI g.checkpoint.1 R' N C (k + 1)) ∧ g.checkpoint.2 ≠ 6 := by
  have hu := h.u0.checkpoint
  have hs := h.seq
  have hlast : (1000 : Nat) < Wal.last62 := by decide
  by_cases hb : g.broken = true ∨ g.tx.isSome = true
  · have e : g.checkpoint = (g, 3) := by unfold PG.checkpoint; rw [if_pos hb]
    rw [e]
    exact ⟨⟨R, h.inv, h.u0, h.now, h.blocks, h.pages, by show g.l.seq ≤ _; omega⟩, by show (3 : Int) ≠ 6; decide⟩
  · have e : g.checkpoint = g.settle := by unfold PG.checkpoint; rw [if_neg hb]
    obtain ⟨g', es, hg, s1, s2, s3, s4, s5, -, -⟩ := h.inv.pg.settle (by omega)
    have hn := now_settle h.now
    rw [e, es] at hu ⊢
    rw [es] at hn
    have htn : g.tx = none := by
      cases ht : g.tx with
      | none => rfl
      | some t => exact absurd (.inr (by rw [ht]; rfl)) hb
    exact ⟨⟨[], ⟨hg, fun t' e' => by rw [s2, htn] at e'; cases e'⟩, hu, hn, by rw [s3]; exact h.blocks, by rw [s4]; exact h.pages, by show g'.l.seq ≤ _; omega⟩, by show (0 : Int) ≠ 6; decide⟩
end
structure SS (s : Sto) (k : Nat) : Prop where
  pages : s.pages = ((9 : Nat) : Int)
  sureL : s.sure.1.length ≤ k
  nowL : s.now.1.length ≤ k
  putL : s.put.length ≤ k
  sureN : ∀ q ∈ s.sure.1, -9223372036854775808 ≤ q.1 ∧ q.1 ≤ 9223372036854775807
  nowN : ∀ q ∈ s.now.1, -9223372036854775808 ≤ q.1 ∧ q.1 ≤ 9223372036854775807
section
variable {s : Sto} {k : Nat}
theorem SS.more (h : SS s k) : SS s (k + 1) := ⟨h.pages, by have := h.sureL; omega, by have := h.nowL; omega, by have := h.putL; omega, h.sureN, h.nowN⟩
theorem layL_in {L : List PgE} {n : Int} {b : List UInt8} (h : ∀ q ∈ L, -9223372036854775808 ≤ q.1 ∧ q.1 ≤ 9223372036854775807) (hn : -9223372036854775808 ≤ n ∧ n ≤ 9223372036854775807) : ∀ q ∈ layL L n b, -9223372036854775808 ≤ q.1 ∧ q.1 ≤ 9223372036854775807 := by
  intro q hq
  unfold layL restL at hq
  rcases List.mem_append.1 hq with hq | hq
  · rcases List.mem_append.1 hq with hq | hq
    · exact h q (List.mem_of_mem_take hq)
    · rw [List.mem_singleton.1 hq]
      exact hn
  · split at hq
    · exact h q (List.mem_of_mem_drop hq)
    · exact h q (List.mem_of_mem_drop hq)
theorem SS.begin (h : SS s k) : SS s.begin.1 (k + 1) := by
  unfold Sto.begin
  split
  · exact h.more
  · exact ⟨h.pages, by have := h.sureL; show s.sure.1.length ≤ _; omega, by have := h.sureL; show s.sure.1.length ≤ _; omega, Nat.zero_le _, h.sureN, h.sureN⟩
theorem SS.rollback (h : SS s k) : SS s.rollback.1 (k + 1) := by
  unfold Sto.rollback
  split
  · exact h.more
  · exact ⟨h.pages, by have := h.sureL; show s.sure.1.length ≤ _; omega, by have := h.sureL; show s.sure.1.length ≤ _; omega, by have := h.putL; show s.put.length ≤ _; omega, h.sureN, h.sureN⟩
theorem SS.commit (h : SS s k) : SS s.commit.1 (k + 1) := by
  have h1 := h.sureL
  have h2 := h.nowL
  have h3 := h.putL
  unfold Sto.commit
  by_cases hi : s.in_ = false
  · rw [if_pos hi]
    exact h.more
  · rw [if_neg hi]
    by_cases hm : s.most < (if s.own = true then (s.put.length : Int) + 1 else (s.put.length : Int))
    · rw [if_pos hm]
      exact ⟨h.pages, by show s.sure.1.length ≤ _; omega, by show s.sure.1.length ≤ _; omega, by show s.put.length ≤ _; omega, h.sureN, h.sureN⟩
    · rw [if_neg hm]
      exact ⟨h.pages, by show s.now.1.length ≤ _; omega, by show s.now.1.length ≤ _; omega, by show s.put.length ≤ _; omega, h.nowN, h.nowN⟩
theorem SS.setRoot (h : SS s k) (b : List UInt8) : SS (s.setRoot b).1 (k + 1) := by
  have h1 := h.sureL
  have h2 := h.nowL
  have h3 := h.putL
  unfold Sto.setRoot
  split
  · exact h.more
  · split
    · exact h.more
    · exact ⟨h.pages, by show s.sure.1.length ≤ _; omega, by show s.now.1.length ≤ _; omega, by show s.put.length ≤ _; omega, h.sureN, h.nowN⟩
theorem SS.puts (h : SS s k) (n : Int) (b : List UInt8) (hn : -9223372036854775808 ≤ n ∧ n ≤ 9223372036854775807) : SS (s.puts n b).1 (k + 1) := by
  have h1 := h.sureL
  have h2 := h.nowL
  have h3 := h.putL
  have h4 := layL_length s.now.1 n b
  have h5 := putL_length s.put n
  unfold Sto.puts
  split
  · exact h.more
  · split
    · exact h.more
    · split
      · exact h.more
      · exact ⟨h.pages, by show s.sure.1.length ≤ _; omega, by show (layL s.now.1 n b).length ≤ _; omega, by show (Pag.putL s.put n).length ≤ _; omega, h.sureN, layL_in h.nowN hn⟩
theorem SS.free (h : SS s k) (n : Int) : SS (s.free n).1 (k + 1) := by
  have h1 := h.sureL
  have h2 := h.nowL
  have h3 := h.putL
  have h5 := withoutL_length s.put n
  unfold Sto.free
  split
  · exact h.more
  · split
    · exact h.more
    · refine ⟨h.pages, by show s.sure.1.length ≤ _; omega, ?_, by show (withoutL s.put n).length ≤ _; omega, h.sureN, fun q hq => ?_⟩
      · show (s.now.1.take _ ++ s.now.1.drop _).length ≤ _
        rw [List.length_append, List.length_take, List.length_drop]
        omega
      · rcases List.mem_append.1 hq with hq | hq
        · exact h.nowN q (List.mem_of_mem_take hq)
        · exact h.nowN q (List.mem_of_mem_drop hq)
theorem freeN_in {L : List PgE} : ∀ (k : Nat) (n m : Int), Sto.freeN L n k = some m → n ≤ m ∧ m < n + k
  | 0, n, m, h => by cases h
  | k + 1, n, m, h => by
    unfold Sto.freeN at h
    split at h
    · cases h
      omega
    · have := freeN_in k (n + 1) m h
      omega
theorem SS.alloc (h : SS s k) : SS s.alloc.1 (k + 1) := by
  have h1 := h.sureL
  have h2 := h.nowL
  have h3 := h.putL
  unfold Sto.alloc
  split
  · exact h.more
  · split
    · next n hn =>
      have hin := freeN_in _ _ _ hn
      rw [h.pages] at hin
      have h4 := layL_length s.now.1 n (List.replicate 512 0)
      have h5 := putL_length s.put n
      exact ⟨h.pages, by show s.sure.1.length ≤ _; omega, by show (layL s.now.1 n _).length ≤ _; omega, by show (Pag.putL s.put n).length ≤ _; omega, h.sureN, layL_in h.nowN (by omega)⟩
    · exact h.more
end
end Pag
end Go.Proofs.YtcfoihihinijlaaGreat
end

section
namespace Go.Proofs.YtcfoihihinijlaaGreat
set_option linter.unusedSimpArgs false
set_option linter.unusedVariables false
open Go.RowKit Go.Maps
set_option maxRecDepth 20000 in
set_option maxHeartbeats 8000000 in
theorem stp_rollback (w0 w : World) (gb fr : Nat) (o : OpP) (hf : o.Fine w0) (G : GB) (n : Nat) (g g1 : Pag.PG) (e1' : Int) (R : List (List UInt8)) (N : Nat) (C : Nat → List UInt8) (s s1 : Pag.Sto) (f1' : Int) (a : SA) (x y : Value) (hp : PagAt w0 w G n g) (hb : Blk w gb 41 (bothL fr G.k.gd G.gp s a x y)) (hr : StoR w s a) (hw : w0.heap.size ≤ gb) (hn : n + 42 < 1000000)
    (hg1 : g.rollback = (g1, e1')) (hs1 : s.rollback = (s1, f1')) (hc : SpC g1 R N C s1) (hke : (IntKind.u64.wrap o.k).tmod 10 = 6) :
    Calls Tryz.prog 23 #[.pointer (some ⟨gb, 0, none⟩), opV o] w (RetStp w0 w gb fr G (n + 42) g1 R N C s1 ((e1' == f1') && Pag.askB g1 C s1 o.n)) := by
  have HF := Lib.hid hf
  have HW := Lib.hid hw
  have HE := Lib.hid (And.intro hg1 hs1)
  unfold opV
  go_enter Tryz.func23, Tryz.ntmps23
  obtain ⟨pages, most, ⟨L1, r1⟩, ⟨L2, r2⟩, bi, pl, own⟩ := s
  obtain ⟨a1, c1, a2, c2, a3, c3⟩ := a
  obtain ⟨t1, ht1⟩ : ∃ t1, txt r1 = .string t1 := ⟨_, rfl⟩
  obtain ⟨t2, ht2⟩ : ∃ t2, txt r2 = .string t2 := ⟨_, rfl⟩
  have HT := Lib.hid (And.intro ht1 ht2)
  have HB0 := Lib.hid hb
  unfold bothL at hb
  simp only [ht1, ht2] at hb
  have hx := Blk.c16 hb
  clear ht1 ht2 hb hg1 hs1
  go_upto_region 3 with fail
  generalize hW1 : ((World.alloc w (.cells _ _)).alloc (.cells _ _)) = W1
  obtain ⟨ba1, bb1, hz1, hB1⟩ := fresh2 hW1
  clear hW1
  have H1 : Hid (SpL w0 w W1 gb fr o G G n g ⟨pages, most, ⟨L1, r1⟩, ⟨L2, r2⟩, bi, pl, own⟩ ⟨a1, c1, a2, c2, a3, c3⟩ x y) := ⟨ba1, HB0.out.below hB1, hr.below hB1, hp.below hB1, rfl, rfl, fun i hi => .inl hi, Keeps.of_below hB1⟩
  have hop := Blk.c8 ba1
  have hx := Blk.c16 (by have h := H1.out.both; unfold bothL at h; simp only [HT.out.1, HT.out.2] at h; exact h)
  have HC := Lib.hid hc
  have HN := Lib.hid hn
  clear ba1 bb1 hz1 hB1 hr hp hc hn HB0 hf hw
  have hbg := prollback_any w0 W1 G n g H1.out.pag
  rw [HE.out.1] at hbg
  have HBG := Lib.hid hbg
  clear hbg
  go_wp2_with fail
  refine HBG.out.mono ?_
  rintro e w2 ⟨G2, rfl, e1, e2, hp2, ho2, hk2⟩
  clear HBG
  have H2 := Lib.hid (H1.out.call hp2 e1 e2 ho2 hk2)
  clear e1 e2 hp2 ho2 hk2 H1
  have hop := Blk.c8 H2.out.op
  have hx := Blk.c16 (by have h := H2.out.both; unfold bothL at h; simp only [HT.out.1, HT.out.2] at h; exact h)
  have hrb := rrollback_any w2 _ _ H2.out.rows
  rw [HE.out.2] at hrb
  unfold stoV at hrb
  simp only [HT.out.1, HT.out.2] at hrb
  have HRB := Lib.hid hrb
  clear hrb
  go_wp2_with fail
  refine HRB.out.mono ?_
  rintro e w3 ⟨a', rfl, hr3, hb3⟩
  have H3 := Lib.hid (And.intro (H2.out.below hb3) hr3)
  have hop := Blk.c8 H3.out.1.op
  have hx := Blk.c16 (by have h := H3.out.1.both; unfold bothL at h; simp only [HT.out.1, HT.out.2] at h; exact h)
  have hz := Blk.z16 H3.out.1.both
  clear hr3 hb3 H2 HRB HE
  obtain ⟨p', m', ⟨L1', r1'⟩, ⟨L2', r2'⟩, bi', pl', own'⟩ := s1
  obtain ⟨a1', c1', a2', c2', a3', c3'⟩ := a'
  obtain ⟨t1', ht1'⟩ : ∃ t, txt r1' = .string t := ⟨_, rfl⟩
  obtain ⟨t2', ht2'⟩ : ∃ t, txt r2' = .string t := ⟨_, rfl⟩
  have HT' := Lib.hid (And.intro ht1' ht2')
  unfold stoV
  simp only [ht1', ht2']
  clear ht1' ht2'
  obtain ⟨be, hbe⟩ : ∃ b, (e1' == f1') = b := ⟨_, rfl⟩
  have HBE := Lib.hid hbe
  cases be with
  | true =>
    cases bi' with
    | true =>
      go_wp2_with fail
      simp only [← HT'.out.1, ← HT'.out.2]
      refine ((H3.out.1.store9 HW.out H3.out.2).ask HC.out HN.out HF.out.n).mono ?_
      rintro e w5 ⟨rfl, hret⟩
      have HRET := Lib.hid hret
      clear hret
      go_wp2_with fail
      go_ret
      rw [HBE.out, Bool.true_and]
      exact HRET.out
    | false =>
      go_wp2_with fail
      simp only [← HT'.out.1, ← HT'.out.2]
      refine (((H3.out.1.store9 HW.out H3.out.2).then2 HW.out _ _).ask HC.out HN.out HF.out.n).mono ?_
      rintro e w5 ⟨rfl, hret⟩
      have HRET := Lib.hid hret
      clear hret
      go_wp2_with fail
      go_ret
      rw [HBE.out, Bool.true_and]
      exact HRET.out
  | false =>
    cases bi' with
    | true =>
      go_wp2_with fail
      simp only [← HT'.out.1, ← HT'.out.2]
      go_ret
      rw [HBE.out, Bool.false_and]
      exact (H3.out.1.store9 HW.out H3.out.2).done HC.out.lk (by omega) false
    | false =>
      go_wp2_with fail
      simp only [← HT'.out.1, ← HT'.out.2]
      go_ret
      rw [HBE.out, Bool.false_and]
      exact ((H3.out.1.store9 HW.out H3.out.2).then2 HW.out _ _).done HC.out.lk (by omega) false
set_option maxRecDepth 20000 in
set_option maxHeartbeats 8000000 in
theorem stp_commit (w0 w : World) (gb fr : Nat) (o : OpP) (hf : o.Fine w0) (G : GB) (n : Nat) (g g1 : Pag.PG) (e1' : Int) (R : List (List UInt8)) (N : Nat) (C : Nat → List UInt8) (s s1 : Pag.Sto) (f1' : Int) (a : SA) (x y : Value) (hp : PagAt w0 w G n g) (hb : Blk w gb 41 (bothL fr G.k.gd G.gp s a x y)) (hr : StoR w s a) (hw : w0.heap.size ≤ gb) (hn : n + 5000 + 42 < 1000000)
    (hg1 : g.commit = (g1, e1')) (hs1 : s.commit = (s1, f1')) (he6 : e1' ≠ 6) (hpl : s.put.length ≤ 1000) (hc : SpC g1 R N C s1) (hke : (IntKind.u64.wrap o.k).tmod 10 = 5) :
    Calls Tryz.prog 23 #[.pointer (some ⟨gb, 0, none⟩), opV o] w (RetStp w0 w gb fr G (n + 5000 + 42) g1 R N C s1 ((e1' == f1') && Pag.askB g1 C s1 o.n)) := by
  have he6 : (e1' == 6) = false := by simpa using he6
  have HPL := Lib.hid hpl
  clear hpl
  have HF := Lib.hid hf
  have HW := Lib.hid hw
  have HE := Lib.hid (And.intro hg1 hs1)
  unfold opV
  go_enter Tryz.func23, Tryz.ntmps23
  obtain ⟨pages, most, ⟨L1, r1⟩, ⟨L2, r2⟩, bi, pl, own⟩ := s
  obtain ⟨a1, c1, a2, c2, a3, c3⟩ := a
  obtain ⟨t1, ht1⟩ : ∃ t1, txt r1 = .string t1 := ⟨_, rfl⟩
  obtain ⟨t2, ht2⟩ : ∃ t2, txt r2 = .string t2 := ⟨_, rfl⟩
  have HT := Lib.hid (And.intro ht1 ht2)
  have HB0 := Lib.hid hb
  unfold bothL at hb
  simp only [ht1, ht2] at hb
  have hx := Blk.c16 hb
  clear ht1 ht2 hb hg1 hs1
  go_upto_region 3 with fail
  generalize hW1 : ((World.alloc w (.cells _ _)).alloc (.cells _ _)) = W1
  obtain ⟨ba1, bb1, hz1, hB1⟩ := fresh2 hW1
  clear hW1
  have H1 : Hid (SpL w0 w W1 gb fr o G G n g ⟨pages, most, ⟨L1, r1⟩, ⟨L2, r2⟩, bi, pl, own⟩ ⟨a1, c1, a2, c2, a3, c3⟩ x y) := ⟨ba1, HB0.out.below hB1, hr.below hB1, hp.below hB1, rfl, rfl, fun i hi => .inl hi, Keeps.of_below hB1⟩
  have hop := Blk.c8 ba1
  have hx := Blk.c16 (by have h := H1.out.both; unfold bothL at h; simp only [HT.out.1, HT.out.2] at h; exact h)
  have HC := Lib.hid hc
  have HN := Lib.hid hn
  clear ba1 bb1 hz1 hB1 hr hp hc hn HB0 hf hw
  have hbg := pcommit_any w0 W1 G n g H1.out.pag (by have := HN.out; omega)
  rw [HE.out.1] at hbg
  have HBG := Lib.hid hbg
  clear hbg
  go_wp2_with fail
  refine HBG.out.mono ?_
  rintro e w2 ⟨G2, rfl, e1, e2, hp2, ho2, hk2⟩
  clear HBG
  have H2 := Lib.hid (H1.out.call hp2 e1 e2 ho2 hk2)
  clear e1 e2 hp2 ho2 hk2 H1
  have hop := Blk.c8 H2.out.op
  have hx := Blk.c16 (by have h := H2.out.both; unfold bothL at h; simp only [HT.out.1, HT.out.2] at h; exact h)
  have hrb := rcommit_any w2 _ _ H2.out.rows HPL.out
  rw [HE.out.2] at hrb
  unfold stoV at hrb
  simp only [HT.out.1, HT.out.2] at hrb
  have HRB := Lib.hid hrb
  clear hrb
  go_wp2_with fail
  refine HRB.out.mono ?_
  rintro e w3 ⟨a', rfl, hr3, hb3⟩
  have H3 := Lib.hid (And.intro (H2.out.below hb3) hr3)
  have hop := Blk.c8 H3.out.1.op
  have hx := Blk.c16 (by have h := H3.out.1.both; unfold bothL at h; simp only [HT.out.1, HT.out.2] at h; exact h)
  have hz := Blk.z16 H3.out.1.both
  clear hr3 hb3 H2 HRB HE
  obtain ⟨p', m', ⟨L1', r1'⟩, ⟨L2', r2'⟩, bi', pl', own'⟩ := s1
  obtain ⟨a1', c1', a2', c2', a3', c3'⟩ := a'
  obtain ⟨t1', ht1'⟩ : ∃ t, txt r1' = .string t := ⟨_, rfl⟩
  obtain ⟨t2', ht2'⟩ : ∃ t, txt r2' = .string t := ⟨_, rfl⟩
  have HT' := Lib.hid (And.intro ht1' ht2')
  unfold stoV
  simp only [ht1', ht2']
  clear ht1' ht2'
  obtain ⟨be, hbe⟩ : ∃ b, (e1' == f1') = b := ⟨_, rfl⟩
  have HBE := Lib.hid hbe
  cases be with
  | true =>
    cases bi' with
    | true =>
      go_wp2_with fail
      simp only [← HT'.out.1, ← HT'.out.2]
      refine ((H3.out.1.store9 HW.out H3.out.2).ask HC.out HN.out HF.out.n).mono ?_
      rintro e w5 ⟨rfl, hret⟩
      have HRET := Lib.hid hret
      clear hret
      go_wp2_with fail
      go_ret
      rw [HBE.out, Bool.true_and]
      exact HRET.out
    | false =>
      go_wp2_with fail
      simp only [← HT'.out.1, ← HT'.out.2]
      refine (((H3.out.1.store9 HW.out H3.out.2).then2 HW.out _ _).ask HC.out HN.out HF.out.n).mono ?_
      rintro e w5 ⟨rfl, hret⟩
      have HRET := Lib.hid hret
      clear hret
      go_wp2_with fail
      go_ret
      rw [HBE.out, Bool.true_and]
      exact HRET.out
  | false =>
    cases bi' with
    | true =>
      go_wp2_with fail
      simp only [← HT'.out.1, ← HT'.out.2]
      go_ret
      rw [HBE.out, Bool.false_and]
      exact (H3.out.1.store9 HW.out H3.out.2).done HC.out.lk (by omega) false
    | false =>
      go_wp2_with fail
      simp only [← HT'.out.1, ← HT'.out.2]
      go_ret
      rw [HBE.out, Bool.false_and]
      exact ((H3.out.1.store9 HW.out H3.out.2).then2 HW.out _ _).done HC.out.lk (by omega) false
end Go.Proofs.YtcfoihihinijlaaGreat
end

section
namespace Go.Proofs.YtcfoihihinijlaaGreat
set_option linter.unusedSimpArgs false
set_option linter.unusedVariables false
open Go.RowKit Go.Maps
set_option maxRecDepth 20000 in
set_option maxHeartbeats 8000000 in
theorem stp_free (w0 w : World) (gb fr : Nat) (o : OpP) (hf : o.Fine w0) (G : GB) (n : Nat) (g g1 : Pag.PG) (e1' : Int) (R : List (List UInt8)) (N : Nat) (C : Nat → List UInt8) (s s1 : Pag.Sto) (f1' : Int) (a : SA) (x y : Value) (hp : PagAt w0 w G n g) (hb : Blk w gb 41 (bothL fr G.k.gd G.gp s a x y)) (hr : StoR w s a) (hw : w0.heap.size ≤ gb) (hn : n + 42 < 1000000)
    (hg1 : g.free o.n = (g1, e1')) (hs1 : s.free o.n = (s1, f1')) (hul : g.now.used.length = g.pages + 1) (hpl : s.put.length ≤ 1000) (hnl : s.now.1.length ≤ 1000) (hc : SpC g1 R N C s1) (hke : (IntKind.u64.wrap o.k).tmod 10 = 3) :
    Calls Tryz.prog 23 #[.pointer (some ⟨gb, 0, none⟩), opV o] w (RetStp w0 w gb fr G (n + 42) g1 R N C s1 ((e1' == f1') && Pag.askB g1 C s1 o.n)) := by
  have HPL := Lib.hid (And.intro hpl (And.intro hnl hul))
  clear hpl hnl hul
  have HF := Lib.hid hf
  have HW := Lib.hid hw
  have HE := Lib.hid (And.intro hg1 hs1)
  unfold opV
  go_enter Tryz.func23, Tryz.ntmps23
  obtain ⟨pages, most, ⟨L1, r1⟩, ⟨L2, r2⟩, bi, pl, own⟩ := s
  obtain ⟨a1, c1, a2, c2, a3, c3⟩ := a
  obtain ⟨t1, ht1⟩ : ∃ t1, txt r1 = .string t1 := ⟨_, rfl⟩
  obtain ⟨t2, ht2⟩ : ∃ t2, txt r2 = .string t2 := ⟨_, rfl⟩
  have HT := Lib.hid (And.intro ht1 ht2)
  have HB0 := Lib.hid hb
  unfold bothL at hb
  simp only [ht1, ht2] at hb
  have hx := Blk.c16 hb
  clear ht1 ht2 hb hg1 hs1
  go_upto_region 3 with fail
  generalize hW1 : ((World.alloc w (.cells _ _)).alloc (.cells _ _)) = W1
  obtain ⟨ba1, bb1, hz1, hB1⟩ := fresh2 hW1
  clear hW1
  have H1 : Hid (SpL w0 w W1 gb fr o G G n g ⟨pages, most, ⟨L1, r1⟩, ⟨L2, r2⟩, bi, pl, own⟩ ⟨a1, c1, a2, c2, a3, c3⟩ x y) := ⟨ba1, HB0.out.below hB1, hr.below hB1, hp.below hB1, rfl, rfl, fun i hi => .inl hi, Keeps.of_below hB1⟩
  have hop := Blk.c8 ba1
  have hx := Blk.c16 (by have h := H1.out.both; unfold bothL at h; simp only [HT.out.1, HT.out.2] at h; exact h)
  have HC := Lib.hid hc
  have HN := Lib.hid hn
  clear ba1 bb1 hz1 hB1 hr hp hc hn HB0 hf hw
  have hbg := pfree_any w0 W1.drew G n g (H1.out.pag.below (Below.refl _ _).drew) HPL.out.2.2 o.n HF.out.n.1 HF.out.n.2
  rw [HE.out.1] at hbg
  have HBG := Lib.hid hbg
  clear hbg
  have H1 := Lib.hid (H1.out.below (Below.refl _ _).drew)
  have hop := Blk.c8 H1.out.op
  have hx := Blk.c16 (by have h := H1.out.both; unfold bothL at h; simp only [HT.out.1, HT.out.2] at h; exact h)
  go_upto_region 27 with fail
  refine wp_region_plan (.take 0 (.take 1 (.take 2 (.take 3 (.take 4 (.take 5 (.run 6 [] (.take 7 .fin)))))))) (by kernel_rfl) (by kernel_rfl) (by kernel_rfl) (by kernel_rfl) ?_
  repeat' (first | (refine hZ _ _ ?_; clear hZ) | (refine hZ _ ?_; clear hZ) | (refine hZ ?_; clear hZ) | rw [again_nil] | rw [walk_fin] | ((first | rw [walk_take] | rw [walk_run] | rw [again_cons]); intro Z hZ; simp only [sel, List.getElem?_toArray, List.getElem?_cons_zero, List.getElem?_cons_succ]; go_wp2_with (fail)))
  refine HBG.out.mono ?_
  rintro e w2 ⟨G2, rfl, e1, e2, hp2, ho2, hk2⟩
  clear HBG
  have H2 := Lib.hid (H1.out.call hp2 e1 e2 ho2 hk2)
  clear e1 e2 hp2 ho2 hk2 H1
  have hop := Blk.c8 H2.out.op
  have hx := Blk.c16 (by have h := H2.out.both; unfold bothL at h; simp only [HT.out.1, HT.out.2] at h; exact h)
  have H2 := Lib.hid (H2.out.below (Below.refl _ _).drew)
  have hop := Blk.c8 H2.out.op
  have hx := Blk.c16 (by have h := H2.out.both; unfold bothL at h; simp only [HT.out.1, HT.out.2] at h; exact h)
  have hrb := rfree_any w2.drew _ _ H2.out.rows o.n HPL.out.2.1 HPL.out.1
  rw [HE.out.2] at hrb
  unfold stoV at hrb
  simp only [HT.out.1, HT.out.2] at hrb
  have HRB := Lib.hid hrb
  clear hrb
  go_wp2_with fail
  repeat' (first | (refine hZ _ _ ?_; clear hZ) | (refine hZ _ ?_; clear hZ) | (refine hZ ?_; clear hZ) | rw [again_nil] | rw [walk_fin] | ((first | rw [walk_take] | rw [walk_run] | rw [again_cons]); intro Z hZ; simp only [sel, List.getElem?_toArray, List.getElem?_cons_zero, List.getElem?_cons_succ]; go_wp2_with (fail)))
  go_upto_region 28 with fail
  refine wp_region_plan (.take 0 (.take 1 (.take 2 (.take 3 (.take 4 (.take 5 (.take 6 (.run 7 [0] (.take 8 (.take 9 (.take 10 (.take 11 (.take 12 (.run 13 [10] (.take 14 .fin))))))))))))))) (by kernel_rfl) (by kernel_rfl) (by kernel_rfl) (by kernel_rfl) ?_
  repeat' (first | (refine hZ _ _ ?_; clear hZ) | (refine hZ _ ?_; clear hZ) | (refine hZ ?_; clear hZ) | rw [again_nil] | rw [walk_fin] | ((first | rw [walk_take] | rw [walk_run] | rw [again_cons]); intro Z hZ; simp only [sel, List.getElem?_toArray, List.getElem?_cons_zero, List.getElem?_cons_succ]; go_wp2_with (fail)))
  refine HRB.out.mono ?_
  rintro e w3 ⟨a', rfl, hr3, hb3⟩
  have H3 := Lib.hid (And.intro (H2.out.below hb3) hr3)
  have hop := Blk.c8 H3.out.1.op
  have hx := Blk.c16 (by have h := H3.out.1.both; unfold bothL at h; simp only [HT.out.1, HT.out.2] at h; exact h)
  have hz := Blk.z16 H3.out.1.both
  clear hr3 hb3 H2 HRB HE
  obtain ⟨p', m', ⟨L1', r1'⟩, ⟨L2', r2'⟩, bi', pl', own'⟩ := s1
  obtain ⟨a1', c1', a2', c2', a3', c3'⟩ := a'
  obtain ⟨t1', ht1'⟩ : ∃ t, txt r1' = .string t := ⟨_, rfl⟩
  obtain ⟨t2', ht2'⟩ : ∃ t, txt r2' = .string t := ⟨_, rfl⟩
  have HT' := Lib.hid (And.intro ht1' ht2')
  unfold stoV
  simp only [ht1', ht2']
  clear ht1' ht2'
  obtain ⟨be, hbe⟩ : ∃ b, (e1' == f1') = b := ⟨_, rfl⟩
  have HBE := Lib.hid hbe
  cases be with
  | true =>
    cases bi' with
    | true =>
      go_wp2_with fail
      repeat' (first | (refine hZ _ _ ?_; clear hZ) | (refine hZ _ ?_; clear hZ) | (refine hZ ?_; clear hZ) | rw [again_nil] | rw [walk_fin] | ((first | rw [walk_take] | rw [walk_run] | rw [again_cons]); intro Z hZ; simp only [sel, List.getElem?_toArray, List.getElem?_cons_zero, List.getElem?_cons_succ]; go_wp2_with (fail)))
      go_wp2_with fail
      simp only [← HT'.out.1, ← HT'.out.2]
      refine ((H3.out.1.store9 HW.out H3.out.2).ask HC.out HN.out HF.out.n).mono ?_
      rintro e w5 ⟨rfl, hret⟩
      have HRET := Lib.hid hret
      clear hret
      go_wp2_with fail
      go_ret
      rw [HBE.out, Bool.true_and]
      exact HRET.out
    | false =>
      go_wp2_with fail
      repeat' (first | (refine hZ _ _ ?_; clear hZ) | (refine hZ _ ?_; clear hZ) | (refine hZ ?_; clear hZ) | rw [again_nil] | rw [walk_fin] | ((first | rw [walk_take] | rw [walk_run] | rw [again_cons]); intro Z hZ; simp only [sel, List.getElem?_toArray, List.getElem?_cons_zero, List.getElem?_cons_succ]; go_wp2_with (fail)))
      go_wp2_with fail
      simp only [← HT'.out.1, ← HT'.out.2]
      refine (((H3.out.1.store9 HW.out H3.out.2).then2 HW.out _ _).ask HC.out HN.out HF.out.n).mono ?_
      rintro e w5 ⟨rfl, hret⟩
      have HRET := Lib.hid hret
      clear hret
      go_wp2_with fail
      go_ret
      rw [HBE.out, Bool.true_and]
      exact HRET.out
  | false =>
    cases bi' with
    | true =>
      go_wp2_with fail
      repeat' (first | (refine hZ _ _ ?_; clear hZ) | (refine hZ _ ?_; clear hZ) | (refine hZ ?_; clear hZ) | rw [again_nil] | rw [walk_fin] | ((first | rw [walk_take] | rw [walk_run] | rw [again_cons]); intro Z hZ; simp only [sel, List.getElem?_toArray, List.getElem?_cons_zero, List.getElem?_cons_succ]; go_wp2_with (fail)))
      go_wp2_with fail
      simp only [← HT'.out.1, ← HT'.out.2]
      go_ret
      rw [HBE.out, Bool.false_and]
      exact (H3.out.1.store9 HW.out H3.out.2).done HC.out.lk (by omega) false
    | false =>
      go_wp2_with fail
      repeat' (first | (refine hZ _ _ ?_; clear hZ) | (refine hZ _ ?_; clear hZ) | (refine hZ ?_; clear hZ) | rw [again_nil] | rw [walk_fin] | ((first | rw [walk_take] | rw [walk_run] | rw [again_cons]); intro Z hZ; simp only [sel, List.getElem?_toArray, List.getElem?_cons_zero, List.getElem?_cons_succ]; go_wp2_with (fail)))
      go_wp2_with fail
      simp only [← HT'.out.1, ← HT'.out.2]
      go_ret
      rw [HBE.out, Bool.false_and]
      exact ((H3.out.1.store9 HW.out H3.out.2).then2 HW.out _ _).done HC.out.lk (by omega) false
end Go.Proofs.YtcfoihihinijlaaGreat
end

section
namespace Go.Proofs.YtcfoihihinijlaaGreat
set_option linter.unusedSimpArgs false
set_option linter.unusedVariables false
open Go.RowKit Go.Maps
set_option maxRecDepth 20000 in
set_option maxHeartbeats 8000000 in
theorem stp_setRoot (w0 w : World) (gb fr : Nat) (o : OpP) (hf : o.Fine w0) (G : GB) (n : Nat) (g g1 : Pag.PG) (e1' : Int) (R : List (List UInt8)) (N : Nat) (C : Nat → List UInt8) (s s1 : Pag.Sto) (f1' : Int) (a : SA) (x y : Value) (hp : PagAt w0 w G n g) (hb : Blk w gb 41 (bothL fr G.k.gd G.gp s a x y)) (hr : StoR w s a) (hw : w0.heap.size ≤ gb) (hn : n + 42 < 1000000)
    (hg1 : g.setRoot o.root = (g1, e1')) (hs1 : s.setRoot o.root = (s1, f1')) (hrl : o.root.length ≤ 100) (hc : SpC g1 R N C s1) (hke : (IntKind.u64.wrap o.k).tmod 10 = 4) :
    Calls Tryz.prog 23 #[.pointer (some ⟨gb, 0, none⟩), opV o] w (RetStp w0 w gb fr G (n + 42) g1 R N C s1 ((e1' == f1') && Pag.askB g1 C s1 o.n)) := by
  have HRL := Lib.hid hrl
  clear hrl
  have HF := Lib.hid hf
  have HW := Lib.hid hw
  have HE := Lib.hid (And.intro hg1 hs1)
  unfold opV
  go_enter Tryz.func23, Tryz.ntmps23
  obtain ⟨pages, most, ⟨L1, r1⟩, ⟨L2, r2⟩, bi, pl, own⟩ := s
  obtain ⟨a1, c1, a2, c2, a3, c3⟩ := a
  obtain ⟨t1, ht1⟩ : ∃ t1, txt r1 = .string t1 := ⟨_, rfl⟩
  obtain ⟨t2, ht2⟩ : ∃ t2, txt r2 = .string t2 := ⟨_, rfl⟩
  have HT := Lib.hid (And.intro ht1 ht2)
  have HB0 := Lib.hid hb
  unfold bothL at hb
  simp only [ht1, ht2] at hb
  have hx := Blk.c16 hb
  clear ht1 ht2 hb hg1 hs1
  go_upto_region 3 with fail
  generalize hW1 : ((World.alloc w (.cells _ _)).alloc (.cells _ _)) = W1
  obtain ⟨ba1, bb1, hz1, hB1⟩ := fresh2 hW1
  clear hW1
  have H1 : Hid (SpL w0 w W1 gb fr o G G n g ⟨pages, most, ⟨L1, r1⟩, ⟨L2, r2⟩, bi, pl, own⟩ ⟨a1, c1, a2, c2, a3, c3⟩ x y) := ⟨ba1, HB0.out.below hB1, hr.below hB1, hp.below hB1, rfl, rfl, fun i hi => .inl hi, Keeps.of_below hB1⟩
  have hop := Blk.c8 ba1
  have hx := Blk.c16 (by have h := H1.out.both; unfold bothL at h; simp only [HT.out.1, HT.out.2] at h; exact h)
  have HC := Lib.hid hc
  have HN := Lib.hid hn
  clear ba1 bb1 hz1 hB1 hr hp hc hn HB0 hf hw
  have hbg := psetRoot_any w0 W1.drew G n g (H1.out.pag.below (Below.refl _ _).drew) o.A o.cap o.root (HF.out.below (H1.out.below (Below.refl _ _).drew).pag.wl.dl.bel).row (by have := HRL.out; omega)
  rw [HE.out.1] at hbg
  have HBG := Lib.hid hbg
  clear hbg
  have H1 := Lib.hid (H1.out.below (Below.refl _ _).drew)
  have hop := Blk.c8 H1.out.op
  have hx := Blk.c16 (by have h := H1.out.both; unfold bothL at h; simp only [HT.out.1, HT.out.2] at h; exact h)
  go_upto_region 30 with fail
  refine wp_region_plan (.take 0 (.take 1 (.take 2 (.take 3 (.take 4 (.take 5 (.run 6 [] (.take 7 .fin)))))))) (by kernel_rfl) (by kernel_rfl) (by kernel_rfl) (by kernel_rfl) ?_
  repeat' (first | (refine hZ _ _ ?_; clear hZ) | (refine hZ _ ?_; clear hZ) | (refine hZ ?_; clear hZ) | rw [again_nil] | rw [walk_fin] | ((first | rw [walk_take] | rw [walk_run] | rw [again_cons]); intro Z hZ; simp only [sel, List.getElem?_toArray, List.getElem?_cons_zero, List.getElem?_cons_succ]; go_wp2_with (fail)))
  refine HBG.out.mono ?_
  rintro e w2 ⟨G2, rfl, e1, e2, hp2, ho2, hk2⟩
  clear HBG
  have H2 := Lib.hid (H1.out.call hp2 e1 e2 ho2 hk2)
  clear e1 e2 hp2 ho2 hk2 H1
  have hop := Blk.c8 H2.out.op
  have hx := Blk.c16 (by have h := H2.out.both; unfold bothL at h; simp only [HT.out.1, HT.out.2] at h; exact h)
  have H2 := Lib.hid (H2.out.below (Below.refl _ _).drew)
  have hop := Blk.c8 H2.out.op
  have hx := Blk.c16 (by have h := H2.out.both; unfold bothL at h; simp only [HT.out.1, HT.out.2] at h; exact h)
  have hrb := rsetRoot_any w2.drew _ _ H2.out.rows o.root
  rw [HE.out.2] at hrb
  unfold stoV at hrb
  simp only [HT.out.1, HT.out.2] at hrb
  have HRB := Lib.hid hrb
  clear hrb
  go_wp2_with fail
  repeat' (first | (refine hZ _ _ ?_; clear hZ) | (refine hZ _ ?_; clear hZ) | (refine hZ ?_; clear hZ) | rw [again_nil] | rw [walk_fin] | ((first | rw [walk_take] | rw [walk_run] | rw [again_cons]); intro Z hZ; simp only [sel, List.getElem?_toArray, List.getElem?_cons_zero, List.getElem?_cons_succ]; go_wp2_with (fail)))
  have hrow2 := (HF.out.below H2.out.pag.wl.dl.bel).row
  have HROW := Lib.hid hrow2
  clear hrow2
  go_upto_region 31 with fail
  refine wp_region_plan (.take 0 (.take 1 (.take 2 (.take 3 (.take 4 (.take 5 (.take 6 (.take 7 (.run 8 [0] (.take 9 (.take 10 (.take 11 (.take 12 (.take 13 (.run 14 [11] (.take 15 .fin)))))))))))))))) (by kernel_rfl) (by kernel_rfl) (by kernel_rfl) (by kernel_rfl) ?_
  repeat' (first | (refine hZ _ _ ?_; clear hZ) | (refine hZ _ ?_; clear hZ) | (refine hZ ?_; clear hZ) | rw [again_nil] | rw [walk_fin] | ((first | rw [walk_take] | rw [walk_run] | rw [again_cons]); intro Z hZ; simp only [sel, List.getElem?_toArray, List.getElem?_cons_zero, List.getElem?_cons_succ]; go_wp2_with (refine wpList_str_of rfl (.tmp 182) rfl rfl rfl HROW.out ?_)))
  refine HRB.out.mono ?_
  rintro e w3 ⟨a', rfl, hr3, hb3⟩
  have H3 := Lib.hid (And.intro (H2.out.below hb3) hr3)
  have hop := Blk.c8 H3.out.1.op
  have hx := Blk.c16 (by have h := H3.out.1.both; unfold bothL at h; simp only [HT.out.1, HT.out.2] at h; exact h)
  have hz := Blk.z16 H3.out.1.both
  clear hr3 hb3 H2 HRB HE
  obtain ⟨p', m', ⟨L1', r1'⟩, ⟨L2', r2'⟩, bi', pl', own'⟩ := s1
  obtain ⟨a1', c1', a2', c2', a3', c3'⟩ := a'
  obtain ⟨t1', ht1'⟩ : ∃ t, txt r1' = .string t := ⟨_, rfl⟩
  obtain ⟨t2', ht2'⟩ : ∃ t, txt r2' = .string t := ⟨_, rfl⟩
  have HT' := Lib.hid (And.intro ht1' ht2')
  unfold stoV
  simp only [ht1', ht2']
  clear ht1' ht2'
  obtain ⟨be, hbe⟩ : ∃ b, (e1' == f1') = b := ⟨_, rfl⟩
  have HBE := Lib.hid hbe
  cases be with
  | true =>
    cases bi' with
    | true =>
      go_wp2_with fail
      repeat' (first | (refine hZ _ _ ?_; clear hZ) | (refine hZ _ ?_; clear hZ) | (refine hZ ?_; clear hZ) | rw [again_nil] | rw [walk_fin] | ((first | rw [walk_take] | rw [walk_run] | rw [again_cons]); intro Z hZ; simp only [sel, List.getElem?_toArray, List.getElem?_cons_zero, List.getElem?_cons_succ]; go_wp2_with (fail)))
      go_wp2_with fail
      simp only [← HT'.out.1, ← HT'.out.2]
      refine ((H3.out.1.store9 HW.out H3.out.2).ask HC.out HN.out HF.out.n).mono ?_
      rintro e w5 ⟨rfl, hret⟩
      have HRET := Lib.hid hret
      clear hret
      go_wp2_with fail
      go_ret
      rw [HBE.out, Bool.true_and]
      exact HRET.out
    | false =>
      go_wp2_with fail
      repeat' (first | (refine hZ _ _ ?_; clear hZ) | (refine hZ _ ?_; clear hZ) | (refine hZ ?_; clear hZ) | rw [again_nil] | rw [walk_fin] | ((first | rw [walk_take] | rw [walk_run] | rw [again_cons]); intro Z hZ; simp only [sel, List.getElem?_toArray, List.getElem?_cons_zero, List.getElem?_cons_succ]; go_wp2_with (fail)))
      go_wp2_with fail
      simp only [← HT'.out.1, ← HT'.out.2]
      refine (((H3.out.1.store9 HW.out H3.out.2).then2 HW.out _ _).ask HC.out HN.out HF.out.n).mono ?_
      rintro e w5 ⟨rfl, hret⟩
      have HRET := Lib.hid hret
      clear hret
      go_wp2_with fail
      go_ret
      rw [HBE.out, Bool.true_and]
      exact HRET.out
  | false =>
    cases bi' with
    | true =>
      go_wp2_with fail
      repeat' (first | (refine hZ _ _ ?_; clear hZ) | (refine hZ _ ?_; clear hZ) | (refine hZ ?_; clear hZ) | rw [again_nil] | rw [walk_fin] | ((first | rw [walk_take] | rw [walk_run] | rw [again_cons]); intro Z hZ; simp only [sel, List.getElem?_toArray, List.getElem?_cons_zero, List.getElem?_cons_succ]; go_wp2_with (fail)))
      go_wp2_with fail
      simp only [← HT'.out.1, ← HT'.out.2]
      go_ret
      rw [HBE.out, Bool.false_and]
      exact (H3.out.1.store9 HW.out H3.out.2).done HC.out.lk (by omega) false
    | false =>
      go_wp2_with fail
      repeat' (first | (refine hZ _ _ ?_; clear hZ) | (refine hZ _ ?_; clear hZ) | (refine hZ ?_; clear hZ) | rw [again_nil] | rw [walk_fin] | ((first | rw [walk_take] | rw [walk_run] | rw [again_cons]); intro Z hZ; simp only [sel, List.getElem?_toArray, List.getElem?_cons_zero, List.getElem?_cons_succ]; go_wp2_with (fail)))
      go_wp2_with fail
      simp only [← HT'.out.1, ← HT'.out.2]
      go_ret
      rw [HBE.out, Bool.false_and]
      exact ((H3.out.1.store9 HW.out H3.out.2).then2 HW.out _ _).done HC.out.lk (by omega) false
end Go.Proofs.YtcfoihihinijlaaGreat
end

section
namespace Go.Proofs.YtcfoihihinijlaaGreat
set_option linter.unusedSimpArgs false
set_option linter.unusedVariables false
open Go.RowKit Go.Maps
set_option maxRecDepth 20000 in
set_option maxHeartbeats 8000000 in
theorem stp_checkpoint (w0 w : World) (gb fr : Nat) (o : OpP) (hf : o.Fine w0) (G : GB) (n : Nat) (g g1 : Pag.PG) (e1' : Int) (R : List (List UInt8)) (N : Nat) (C : Nat → List UInt8) (s : Pag.Sto) (a : SA) (x y : Value) (hp : PagAt w0 w G n g) (hb : Blk w gb 41 (bothL fr G.k.gd G.gp s a x y)) (hr : StoR w s a) (hw : w0.heap.size ≤ gb) (hn : n + 2000 + 42 < 1000000)
    (hg1 : g.checkpoint = (g1, e1')) (he6 : e1' ≠ 6) (f1' : Int) (hs1 : (if s.in_ = true then (3 : Int) else 0) = f1') (hc : SpC g1 R N C s) (hke : (IntKind.u64.wrap o.k).tmod 10 = 7) :
    Calls Tryz.prog 23 #[.pointer (some ⟨gb, 0, none⟩), opV o] w (RetStp w0 w gb fr G (n + 2000 + 42) g1 R N C s ((e1' == f1') && Pag.askB g1 C s o.n)) := by
  have he6 : (e1' == 6) = false := by simpa using he6
  have HF := Lib.hid hf
  have HW := Lib.hid hw
  have HE := Lib.hid (And.intro hg1 hs1)
  unfold opV
  go_enter Tryz.func23, Tryz.ntmps23
  obtain ⟨pages, most, ⟨L1, r1⟩, ⟨L2, r2⟩, bi, pl, own⟩ := s
  obtain ⟨a1, c1, a2, c2, a3, c3⟩ := a
  obtain ⟨t1, ht1⟩ : ∃ t1, txt r1 = .string t1 := ⟨_, rfl⟩
  obtain ⟨t2, ht2⟩ : ∃ t2, txt r2 = .string t2 := ⟨_, rfl⟩
  have HT := Lib.hid (And.intro ht1 ht2)
  have HB0 := Lib.hid hb
  unfold bothL at hb
  simp only [ht1, ht2] at hb
  have hx := Blk.c16 hb
  clear ht1 ht2 hb hg1 hs1
  go_upto_region 3 with fail
  generalize hW1 : ((World.alloc w (.cells _ _)).alloc (.cells _ _)) = W1
  obtain ⟨ba1, bb1, hz1, hB1⟩ := fresh2 hW1
  clear hW1
  have H1 : Hid (SpL w0 w W1 gb fr o G G n g ⟨pages, most, ⟨L1, r1⟩, ⟨L2, r2⟩, bi, pl, own⟩ ⟨a1, c1, a2, c2, a3, c3⟩ x y) := ⟨ba1, HB0.out.below hB1, hr.below hB1, hp.below hB1, rfl, rfl, fun i hi => .inl hi, Keeps.of_below hB1⟩
  have hop := Blk.c8 ba1
  have hx := Blk.c16 (by have h := H1.out.both; unfold bothL at h; simp only [HT.out.1, HT.out.2] at h; exact h)
  have HC := Lib.hid hc
  have HN := Lib.hid hn
  clear ba1 bb1 hz1 hB1 hr hp hc hn HB0 hf hw
  have hbg := pcheckpoint_any w0 W1 G n g H1.out.pag (by have := HN.out; omega)
  rw [HE.out.1] at hbg
  have HBG := Lib.hid hbg
  clear hbg
  go_wp2_with fail
  refine HBG.out.mono ?_
  rintro e w2 ⟨G2, rfl, e1, e2, hp2, ho2, hk2⟩
  clear HBG
  have H2 := Lib.hid (H1.out.call hp2 e1 e2 ho2 hk2)
  clear e1 e2 hp2 ho2 hk2 H1
  have hop := Blk.c8 H2.out.op
  have hx := Blk.c16 (by have h := H2.out.both; unfold bothL at h; simp only [HT.out.1, HT.out.2] at h; exact h)
  have hz := Blk.z16 H2.out.both
  have hfe := HE.out.2
  clear HE
  cases bi with
  | true =>
    obtain rfl : f1' = 3 := hfe.symm
    clear hfe
    obtain ⟨be, hbe⟩ : ∃ b, (e1' == (3 : Int)) = b := ⟨_, rfl⟩
    have HBE := Lib.hid hbe
    cases be with
    | true =>
      go_wp2_with fail
      refine (H2.out.ask HC.out HN.out HF.out.n).mono ?_
      rintro e w5 ⟨rfl, hret⟩
      have HRET := Lib.hid hret
      clear hret
      go_wp2_with fail
      go_ret
      rw [HBE.out, Bool.true_and]
      exact HRET.out
    | false =>
      go_wp2_with fail
      go_ret
      rw [HBE.out, Bool.false_and]
      exact H2.out.done HC.out.lk (Nat.le_add_right _ _) false
  | false =>
    obtain rfl : f1' = 0 := hfe.symm
    clear hfe
    obtain ⟨be, hbe⟩ : ∃ b, (e1' == (0 : Int)) = b := ⟨_, rfl⟩
    have HBE := Lib.hid hbe
    cases be with
    | true =>
      go_wp2_with fail
      refine ((H2.out.then2 HW.out _ _).ask HC.out HN.out HF.out.n).mono ?_
      rintro e w5 ⟨rfl, hret⟩
      have HRET := Lib.hid hret
      clear hret
      go_wp2_with fail
      go_ret
      rw [HBE.out, Bool.true_and]
      exact HRET.out
    | false =>
      go_wp2_with fail
      go_ret
      rw [HBE.out, Bool.false_and]
      exact (H2.out.then2 HW.out _ _).done HC.out.lk (Nat.le_add_right _ _) false
end Go.Proofs.YtcfoihihinijlaaGreat
end

section
namespace Go.Proofs.YtcfoihihinijlaaGreat
set_option linter.unusedSimpArgs false
set_option linter.unusedVariables false
open Go.RowKit Go.Maps
set_option maxRecDepth 20000 in
set_option maxHeartbeats 8000000 in
theorem stp_alloc (w0 w : World) (gb fr : Nat) (o : OpP) (hf : o.Fine w0) (G : GB) (n : Nat) (g g1 : Pag.PG) (m1 e1' : Int) (R : List (List UInt8)) (N : Nat) (C : Nat → List UInt8) (s s1 : Pag.Sto) (m2 f1' : Int) (a : SA) (x y : Value) (hp : PagAt w0 w G n g) (hb : Blk w gb 41 (bothL fr G.k.gd G.gp s a x y)) (hr : StoR w s a) (hw : w0.heap.size ≤ gb) (hn : n + 42 < 1000000)
    (hg1 : g.alloc = (g1, m1, e1')) (hs1 : s.alloc = (s1, m2, f1')) (hul : g.now.used.length = g.pages + 1) (P : Nat) (hP : s.pages = (P : Int)) (hP2 : P ≤ 1000) (hpl : s.put.length ≤ 1000) (hnl : s.now.1.length ≤ 1000) (hc : SpC g1 R N C s1) (hke : (IntKind.u64.wrap o.k).tmod 10 = 2) :
    Calls Tryz.prog 23 #[.pointer (some ⟨gb, 0, none⟩), opV o] w (RetStp w0 w gb fr G (n + 42) g1 R N C s1 ((m1 == m2) && (e1' == f1') && Pag.askB g1 C s1 o.n)) := by
  have HPL := Lib.hid (And.intro hpl (And.intro hnl (And.intro hul (And.intro hP hP2))))
  clear hpl hnl hul hP hP2
  have HF := Lib.hid hf
  have HW := Lib.hid hw
  have HE := Lib.hid (And.intro hg1 hs1)
  unfold opV
  go_enter Tryz.func23, Tryz.ntmps23
  obtain ⟨pages, most, ⟨L1, r1⟩, ⟨L2, r2⟩, bi, pl, own⟩ := s
  obtain ⟨a1, c1, a2, c2, a3, c3⟩ := a
  obtain ⟨t1, ht1⟩ : ∃ t1, txt r1 = .string t1 := ⟨_, rfl⟩
  obtain ⟨t2, ht2⟩ : ∃ t2, txt r2 = .string t2 := ⟨_, rfl⟩
  have HT := Lib.hid (And.intro ht1 ht2)
  have HB0 := Lib.hid hb
  unfold bothL at hb
  simp only [ht1, ht2] at hb
  have hx := Blk.c16 hb
  clear ht1 ht2 hb hg1 hs1
  go_upto_region 3 with fail
  generalize hW1 : ((World.alloc w (.cells _ _)).alloc (.cells _ _)) = W1
  obtain ⟨ba1, bb1, hz1, hB1⟩ := fresh2 hW1
  clear hW1
  have H1 : Hid (SpL w0 w W1 gb fr o G G n g ⟨pages, most, ⟨L1, r1⟩, ⟨L2, r2⟩, bi, pl, own⟩ ⟨a1, c1, a2, c2, a3, c3⟩ x y) := ⟨ba1, HB0.out.below hB1, hr.below hB1, hp.below hB1, rfl, rfl, fun i hi => .inl hi, Keeps.of_below hB1⟩
  have hop := Blk.c8 ba1
  have hx := Blk.c16 (by have h := H1.out.both; unfold bothL at h; simp only [HT.out.1, HT.out.2] at h; exact h)
  have HC := Lib.hid hc
  have HN := Lib.hid hn
  clear ba1 bb1 hz1 hB1 hr hp hc hn HB0 hf hw
  have hbg := palloc_any w0 W1 G n g H1.out.pag HPL.out.2.2.1
  rw [HE.out.1] at hbg
  have HBG := Lib.hid hbg
  clear hbg
  go_wp2_with fail
  refine HBG.out.mono ?_
  rintro e w2 ⟨G2, rfl, e1, e2, hp2, ho2, hk2⟩
  clear HBG
  have H2 := Lib.hid (H1.out.call hp2 e1 e2 ho2 hk2)
  clear e1 e2 hp2 ho2 hk2 H1
  have hop := Blk.c8 H2.out.op
  have hx := Blk.c16 (by have h := H2.out.both; unfold bothL at h; simp only [HT.out.1, HT.out.2] at h; exact h)
  have hrb := ralloc_any w2 _ _ H2.out.rows P HPL.out.2.2.2.1 HPL.out.2.2.2.2 HPL.out.2.1 HPL.out.1
  rw [HE.out.2] at hrb
  unfold stoV at hrb
  simp only [HT.out.1, HT.out.2] at hrb
  have HRB := Lib.hid hrb
  clear hrb
  go_wp2_with fail
  refine HRB.out.mono ?_
  rintro e w3 ⟨a', rfl, hr3, hb3⟩
  have H3 := Lib.hid (And.intro (H2.out.below hb3) hr3)
  clear hr3 hb3 H2 HRB HE
  obtain ⟨p', m', ⟨L1', r1'⟩, ⟨L2', r2'⟩, bi', pl', own'⟩ := s1
  obtain ⟨a1', c1', a2', c2', a3', c3'⟩ := a'
  obtain ⟨t1', ht1'⟩ : ∃ t, txt r1' = .string t := ⟨_, rfl⟩
  obtain ⟨t2', ht2'⟩ : ∃ t, txt r2' = .string t := ⟨_, rfl⟩
  have HT' := Lib.hid (And.intro ht1' ht2')
  unfold stoV
  simp only [ht1', ht2']
  clear ht1' ht2'
  go_upto_region 24 with fail
  generalize hW4 : World.alloc w3 (.cells _ _) = W4
  obtain ⟨ba4, hz4, hB4⟩ := fresh1 hW4
  clear hW4
  have H4 := Lib.hid (And.intro (H3.out.1.below hB4) (H3.out.2.below hB4))
  have hop := Blk.c8 H4.out.1.op
  have hx := Blk.c16 (by have h := H4.out.1.both; unfold bothL at h; simp only [HT.out.1, HT.out.2] at h; exact h)
  have hz := Blk.z16 H4.out.1.both
  have hy := Blk.c9 ba4
  clear ba4 hz4 hB4 H3
  obtain ⟨bm, hbm⟩ : ∃ b, (m1 == m2) = b := ⟨_, rfl⟩
  have HBM := Lib.hid hbm
  obtain ⟨be, hbe⟩ : ∃ b, (e1' == f1') = b := ⟨_, rfl⟩
  have HBE := Lib.hid hbe
  cases bm with
  | true =>
    cases be with
    | true =>
      go_wp2_with fail
      simp only [← HT'.out.1, ← HT'.out.2]
      refine ((H4.out.1.store9 HW.out H4.out.2).ask HC.out HN.out HF.out.n).mono ?_
      rintro e w5 ⟨rfl, hret⟩
      have HRET := Lib.hid hret
      clear hret
      go_wp2_with fail
      go_ret
      try simp only [HBM.out, HBE.out, Bool.true_and, Bool.false_and, Bool.and_false]
      exact HRET.out
    | false =>
      go_wp2_with fail
      simp only [← HT'.out.1, ← HT'.out.2]
      go_ret
      try simp only [HBM.out, HBE.out, Bool.true_and, Bool.false_and, Bool.and_false]
      exact (H4.out.1.store9 HW.out H4.out.2).done HC.out.lk (Nat.le_add_right _ _) false
  | false =>
    go_wp2_with fail
    simp only [← HT'.out.1, ← HT'.out.2]
    go_ret
    try simp only [HBM.out, HBE.out, Bool.true_and, Bool.false_and, Bool.and_false]
    exact (H4.out.1.store9 HW.out H4.out.2).done HC.out.lk (Nat.le_add_right _ _) false
end Go.Proofs.YtcfoihihinijlaaGreat
end

section
namespace Go.Proofs.YtcfoihihinijlaaGreat
set_option linter.unusedSimpArgs false
set_option linter.unusedVariables false
open Go.RowKit Go.Maps
namespace Pag
def stpG (g : PG) (o : OpP) : PG :=
  if o.k = 0 then g.begin.1 else if o.k = 1 then (g.put o.n (putBytes o)).1 else if o.k = 2 then g.alloc.1 else if o.k = 3 then (g.free o.n).1 else if o.k = 4 then (g.setRoot o.root).1 else if o.k = 5 then g.commit.1 else if o.k = 6 then g.rollback.1 else g.checkpoint.1
def stpC (g : PG) (C : Nat → List UInt8) (o : OpP) : Nat → List UInt8 := if o.k = 5 then g.cC C else C
def stpS (s : Sto) (o : OpP) : Sto :=
  if o.k = 0 then s.begin.1 else if o.k = 1 then (s.puts o.n (putBytes o)).1 else if o.k = 2 then s.alloc.1 else if o.k = 3 then (s.free o.n).1 else if o.k = 4 then (s.setRoot o.root).1 else if o.k = 5 then s.commit.1 else if o.k = 6 then s.rollback.1 else s
def stpE (g : PG) (s : Sto) (o : OpP) : Bool :=
  if o.k = 0 then g.begin.2 == s.begin.2 else if o.k = 1 then (g.put o.n (putBytes o)).2 == (s.puts o.n (putBytes o)).2 else if o.k = 2 then (g.alloc.2.1 == s.alloc.2.1) && (g.alloc.2.2 == s.alloc.2.2) else if o.k = 3 then (g.free o.n).2 == (s.free o.n).2 else if o.k = 4 then (g.setRoot o.root).2 == (s.setRoot o.root).2
  else if o.k = 5 then g.commit.2 == s.commit.2 else if o.k = 6 then g.rollback.2 == s.rollback.2 else g.checkpoint.2 == (if s.in_ = true then (3 : Int) else 0)
def stpB (g : PG) (C : Nat → List UInt8) (s : Sto) (o : OpP) : Bool := stpE g s o && askB (stpG g o) (stpC g C o) (stpS s o) o.n
theorem kinds8 {k : Int} (h0 : 0 ≤ k) (h8 : k < 8) : k = 0 ∨ k = 1 ∨ k = 2 ∨ k = 3 ∨ k = 4 ∨ k = 5 ∨ k = 6 ∨ k = 7 := by omega
section
variable {a b : PG} {o : OpP} {C : Nat → List UInt8} {s : Sto}
theorem QEq.stpG (h : QEq a b) : QEq (stpG a o) (stpG b o) := by
  unfold Pag.stpG
  split
  · exact h.begin.1
  · split
    · exact (h.put _ _).1
    · split
      · exact h.alloc.1
      · split
        · exact (h.free _).1
        · split
          · exact (h.setRoot _).1
          · split
            · exact h.commit.1
            · split
              · exact h.rollback.1
              · exact h.checkpoint.1
theorem QEq.stpC (h : QEq a b) : stpC b C o = stpC a C o := by
  unfold Pag.stpC
  rw [h.cC]
theorem QEq.stpB (h : QEq a b) : stpB b C s o = stpB a C s o := by
  unfold Pag.stpB
  rw [h.stpG.ask, h.stpC]
  congr 1
  unfold stpE
  rw [h.begin.2, (h.put _ _).2, h.alloc.2, (h.free _).2, (h.setRoot _).2, h.commit.2, h.rollback.2, h.checkpoint.2]
theorem SI.stp {g : PG} {R : List (List UInt8)} {N k : Nat} (h : SI g R N C k) (hk : k ≤ 60) : ∃ R', SI (Pag.stpG g o) R' N (Pag.stpC g C o) (k + 1) := by
  unfold Pag.stpG Pag.stpC
  by_cases h5 : o.k = 5
  · rw [h5, if_pos rfl]
    exact (h.commit hk).1
  · rw [if_neg h5, if_neg h5]
    split
    · exact ⟨R, h.tx h.inv.begin h.u0.begin (txOnly_begin g)⟩
    · split
      · exact ⟨R, h.tx (h.inv.put _ _) (h.u0.put _ _) (txOnly_put g _ _)⟩
      · split
        · exact ⟨R, h.tx h.inv.alloc h.u0.alloc (txOnly_alloc g)⟩
        · split
          · exact ⟨R, h.tx (h.inv.free _) (h.u0.free _) (txOnly_free g _)⟩
          · split
            · exact ⟨R, h.tx (h.inv.setRoot _) (h.u0.setRoot _) (txOnly_setRoot g _)⟩
            · split
              · exact ⟨R, h.rollback⟩
              · exact (h.checkpoint hk).1
theorem SS.stp {k : Nat} (h : SS s k) (hn : i6B o.n) : SS (Pag.stpS s o) (k + 1) := by
  unfold Pag.stpS
  split
  · exact h.begin
  · split
    · exact h.puts _ _ hn
    · split
      · exact h.alloc
      · split
        · exact h.free _
        · split
          · exact h.setRoot _
          · split
            · exact h.commit
            · split
              · exact h.rollback
              · exact h.more
theorem SI.spc {g : PG} {R : List (List UInt8)} {N k m : Nat} (h : SI g R N C k) (hs : SS s m) : SpC g R N C s := ⟨h.inv.lk, h.u0, h.pages, h.inv.pg.whole, hs.nowN⟩
end
end Pag
theorem RetStp.more {w0 w : World} {gb fr : Nat} {G : GB} {n n' : Nat} {g : Pag.PG} {R : List (List UInt8)} {N : Nat} {C : Nat → List UInt8} {s : Pag.Sto} {b : Bool} {e : Ending} {w' : World} (h : RetStp w0 w gb fr G n g R N C s b e w') (hn : n ≤ n') : RetStp w0 w gb fr G n' g R N C s b e w' := by
  obtain ⟨G', q, a, x, y, h1, h2, h3, h4, h5⟩ := h
  exact ⟨G', q, a, x, y, h1, h2, h3, h4.more hn, h5⟩
theorem stp_any (w0 w : World) (gb fr : Nat) (o : OpP) (hf : o.Fine w0) (hrl : o.root.length ≤ 100) (hk0 : 0 ≤ o.k) (hk8 : o.k < 8) (G : GB) (n : Nat) (g : Pag.PG) (R : List (List UInt8)) (N : Nat) (C : Nat → List UInt8) (s : Pag.Sto) (a : SA) (x y : Value) (hp : PagAt w0 w G n g) (hb : Blk w gb 41 (bothL fr G.k.gd G.gp s a x y)) (hr : StoR w s a) (hw : w0.heap.size ≤ gb) (hn : n + 5100 < 1000000)
    (k : Nat) (hk : k ≤ 60) (hi : Pag.SI g R N C k) (hs : Pag.SS s k) :
    ∃ R', Pag.SI (Pag.stpG g o) R' N (Pag.stpC g C o) (k + 1) ∧ Calls Tryz.prog 23 #[.pointer (some ⟨gb, 0, none⟩), opV o] w (RetStp w0 w gb fr G (n + 5100) (Pag.stpG g o) R' N (Pag.stpC g C o) (Pag.stpS s o) (Pag.stpB g C s o)) := by
  obtain ⟨R', hi'⟩ := hi.stp (o := o) hk
  refine ⟨R', hi', ?_⟩
  have hs' := hs.stp (o := o) hf.n
  have hc := hi'.spc hs'
  have hul := hi.inv.now_ul
  have hpl : s.put.length ≤ 1000 := by have := hs.putL; omega
  have hnl : s.now.1.length ≤ 1000 := by have := hs.nowL; omega
  rcases Pag.kinds8 hk0 hk8 with hz | hz | hz | hz | hz | hz | hz | hz
  · have e1 : Pag.stpG g o = g.begin.1 := by unfold Pag.stpG; rw [if_pos hz]
    have e2 : Pag.stpS s o = s.begin.1 := by unfold Pag.stpS; rw [if_pos hz]
    have e3 : Pag.stpE g s o = (g.begin.2 == s.begin.2) := by unfold Pag.stpE; rw [if_pos hz]
    unfold Pag.stpB
    rw [e1, e2] at hc
    rw [e1, e2, e3]
    exact (stp_begin w0 w gb fr o hf G n g _ _ R' N _ s _ _ a x y hp hb hr hw (by omega) rfl rfl hc (by rw [hz]; decide)).mono fun _ _ h => h.more (by omega)
  · have e1 : Pag.stpG g o = (g.put o.n (putBytes o)).1 := by unfold Pag.stpG; simp [hz]
    have e2 : Pag.stpS s o = (s.puts o.n (putBytes o)).1 := by unfold Pag.stpS; simp [hz]
    have e3 : Pag.stpE g s o = ((g.put o.n (putBytes o)).2 == (s.puts o.n (putBytes o)).2) := by unfold Pag.stpE; simp [hz]
    unfold Pag.stpB
    rw [e1, e2] at hc
    rw [e1, e2, e3]
    exact (stp_put w0 w gb fr o hf G n g _ _ R' N _ s _ _ a x y hp hb hr hw (by omega) rfl rfl hul hpl hnl hc (by rw [hz]; decide)).mono fun _ _ h => h.more (by omega)
  · have e1 : Pag.stpG g o = g.alloc.1 := by unfold Pag.stpG; simp [hz]
    have e2 : Pag.stpS s o = s.alloc.1 := by unfold Pag.stpS; simp [hz]
    have e3 : Pag.stpE g s o = ((g.alloc.2.1 == s.alloc.2.1) && (g.alloc.2.2 == s.alloc.2.2)) := by unfold Pag.stpE; simp [hz]
    unfold Pag.stpB
    rw [e1, e2] at hc
    rw [e1, e2, e3]
    exact (stp_alloc w0 w gb fr o hf G n g _ _ _ R' N _ s _ _ _ a x y hp hb hr hw (by omega) rfl rfl hul 9 hs.pages (by decide) hpl hnl hc (by rw [hz]; decide)).mono fun _ _ h => h.more (by omega)
  · have e1 : Pag.stpG g o = (g.free o.n).1 := by unfold Pag.stpG; simp [hz]
    have e2 : Pag.stpS s o = (s.free o.n).1 := by unfold Pag.stpS; simp [hz]
    have e3 : Pag.stpE g s o = ((g.free o.n).2 == (s.free o.n).2) := by unfold Pag.stpE; simp [hz]
    unfold Pag.stpB
    rw [e1, e2] at hc
    rw [e1, e2, e3]
    exact (stp_free w0 w gb fr o hf G n g _ _ R' N _ s _ _ a x y hp hb hr hw (by omega) rfl rfl hul hpl hnl hc (by rw [hz]; decide)).mono fun _ _ h => h.more (by omega)
  · have e1 : Pag.stpG g o = (g.setRoot o.root).1 := by unfold Pag.stpG; simp [hz]
    have e2 : Pag.stpS s o = (s.setRoot o.root).1 := by unfold Pag.stpS; simp [hz]
    have e3 : Pag.stpE g s o = ((g.setRoot o.root).2 == (s.setRoot o.root).2) := by unfold Pag.stpE; simp [hz]
    unfold Pag.stpB
    rw [e1, e2] at hc
    rw [e1, e2, e3]
    exact (stp_setRoot w0 w gb fr o hf G n g _ _ R' N _ s _ _ a x y hp hb hr hw (by omega) rfl rfl hrl hc (by rw [hz]; decide)).mono fun _ _ h => h.more (by omega)
  · have e1 : Pag.stpG g o = g.commit.1 := by unfold Pag.stpG; simp [hz]
    have e2 : Pag.stpS s o = s.commit.1 := by unfold Pag.stpS; simp [hz]
    have e3 : Pag.stpE g s o = (g.commit.2 == s.commit.2) := by unfold Pag.stpE; simp [hz]
    unfold Pag.stpB
    rw [e1, e2] at hc
    rw [e1, e2, e3]
    exact (stp_commit w0 w gb fr o hf G n g _ _ R' N _ s _ _ a x y hp hb hr hw (by omega) rfl rfl (hi.commit hk).2 hpl hc (by rw [hz]; decide)).mono fun _ _ h => h.more (by omega)
  · have e1 : Pag.stpG g o = g.rollback.1 := by unfold Pag.stpG; simp [hz]
    have e2 : Pag.stpS s o = s.rollback.1 := by unfold Pag.stpS; simp [hz]
    have e3 : Pag.stpE g s o = (g.rollback.2 == s.rollback.2) := by unfold Pag.stpE; simp [hz]
    unfold Pag.stpB
    rw [e1, e2] at hc
    rw [e1, e2, e3]
    exact (stp_rollback w0 w gb fr o hf G n g _ _ R' N _ s _ _ a x y hp hb hr hw (by omega) rfl rfl hc (by rw [hz]; decide)).mono fun _ _ h => h.more (by omega)
  · have e1 : Pag.stpG g o = g.checkpoint.1 := by unfold Pag.stpG; simp [hz]
    have e2 : Pag.stpS s o = s := by unfold Pag.stpS; simp [hz]
    have e3 : Pag.stpE g s o = (g.checkpoint.2 == (if s.in_ = true then (3 : Int) else 0)) := by unfold Pag.stpE; simp [hz]
    unfold Pag.stpB
    rw [e1, e2] at hc
    rw [e1, e2, e3]
    exact (stp_checkpoint w0 w gb fr o hf G n g _ _ R' N _ s a x y hp hb hr hw (by omega) rfl (hi.checkpoint hk).2 _ rfl hc (by rw [hz]; decide)).mono fun _ _ h => h.more (by omega)
end Go.Proofs.YtcfoihihinijlaaGreat
end

section
namespace Go.Proofs.YtcfoihihinijlaaGreat
set_option linter.unusedSimpArgs false
set_option linter.unusedVariables false
open Go.RowKit Go.Maps
namespace Pag
theorem read_qeq (g : PG) (n : Nat) (h : (g.read n).2.2 = 0) : QEq g (g.read n).1 := by
  unfold PG.read at h ⊢
  cases ho : g.over n with
  | some b => exact QEq.refl g
  | none =>
    rw [ho] at h
    dsimp only at h ⊢
    cases hq : (g.q.get n).1 with
    | some b => exact ⟨_, rfl⟩
    | none =>
      rw [hq] at h
      dsimp only at h ⊢
      by_cases hw : g.d.why (home g.blocks n : Nat) ≠ 0
      · rw [if_pos hw] at h
        exact absurd h hw
      · rw [if_neg hw]
        exact ⟨_, rfl⟩
theorem openRest_qeq {d d1 d2 : DS} {b p f1 f2 : Nat} {g1 g2 : PG} (h1 : openRest d b p f1 = (d1, some g1, 0)) (h2 : openRest d b p f2 = (d2, some g2, 0)) (hs : g1.sure = g2.sure) : QEq g1 g2 := by
  unfold openRest at h1 h2
  dsimp only at h1 h2
  by_cases c1 : (d.openW 1 ((b - 2) * 512)).e ≠ 0
  · rw [if_pos c1] at h1
    cases h1
  · rw [if_neg c1] at h1 h2
    by_cases c2 : (redos p (d.openW 1 ((b - 2) * 512)).recs none_).2 ≠ 0
    · rw [if_pos c2] at h1
      cases h1
    · rw [if_neg c2] at h1 h2
      generalize d.openW 1 ((b - 2) * 512) = o at *
      generalize (redos p o.recs none_).1 = ov at *
      have key : ∀ (f : Nat) (dd : DS) (g : PG), (if ((⟨o.d, o.l, PS.new f, b, p, ⟨[], []⟩, ov, none, false⟩ : PG).read 0).2.2 ≠ 0 then (o.d, (none : Option PG), ((⟨o.d, o.l, PS.new f, b, p, ⟨[], []⟩, ov, none, false⟩ : PG).read 0).2.2) else
          if (decode ((⟨o.d, o.l, PS.new f, b, p, ⟨[], []⟩, ov, none, false⟩ : PG).read 0).2.1 p).2 ≠ 0 then (o.d, none, (decode ((⟨o.d, o.l, PS.new f, b, p, ⟨[], []⟩, ov, none, false⟩ : PG).read 0).2.1 p).2)
          else (o.d, some { ((⟨o.d, o.l, PS.new f, b, p, ⟨[], []⟩, ov, none, false⟩ : PG).read 0).1 with sure := (decode ((⟨o.d, o.l, PS.new f, b, p, ⟨[], []⟩, ov, none, false⟩ : PG).read 0).2.1 p).1 }, 0)) = (dd, some g, 0) →
          ∃ q, g = ⟨o.d, o.l, q, b, p, g.sure, ov, none, false⟩ := fun f dd g h => by
        by_cases c3 : ((⟨o.d, o.l, PS.new f, b, p, ⟨[], []⟩, ov, none, false⟩ : PG).read 0).2.2 ≠ 0
        · rw [if_pos c3] at h
          cases h
        · rw [if_neg c3] at h
          have hq := read_qeq _ 0 (Classical.not_not.1 c3)
          obtain ⟨q, hq⟩ := hq
          by_cases c4 : (decode ((⟨o.d, o.l, PS.new f, b, p, ⟨[], []⟩, ov, none, false⟩ : PG).read 0).2.1 p).2 ≠ 0
          · rw [if_pos c4] at h
            cases h
          · rw [if_neg c4, hq] at h
            simp only [Prod.mk.injEq, Option.some.injEq] at h
            exact ⟨q, by rw [← h.2.1]⟩
      obtain ⟨q1, e1⟩ := key f1 d1 g1 h1
      obtain ⟨q2, e2⟩ := key f2 d2 g2 h2
      refine ⟨q2, ?_⟩
      rw [e2, e1, hs]
theorem open_qeq {d d1 d2 : DS} {b p f1 f2 : Nat} {g1 g2 : PG} (hN : d.blocks.length = b + p + 2) (h4 : 4 ≤ b) (hp : 1 ≤ p) (h16 : p ≤ 1600) (ha : 1 ≤ f1) (hb : f1 ≤ 64) (hc : 1 ≤ f2) (hd : f2 ≤ 64)
    (h1 : open_ d (b : Nat) (f1 : Nat) = (d1, some g1, 0)) (h2 : open_ d (b : Nat) (f2 : Nat) = (d2, some g2, 0)) (hs : g1.sure = g2.sure) : QEq g1 g2 := by
  rw [open_eq hN h4 hp h16 ha hb] at h1
  rw [open_eq hN h4 hp h16 hc hd] at h2
  by_cases c1 : d.why 0 ≠ 0
  · rw [if_pos c1] at h1
    cases h1
  · rw [if_neg c1] at h1 h2
    by_cases c2 : d.block 0 = label b p
    · rw [if_pos c2] at h1 h2
      exact openRest_qeq h1 h2 hs
    · rw [if_neg c2] at h1 h2
      by_cases c3 : (lay d b p).2 ≠ 0
      · rw [if_pos c3] at h1
        cases h1
      · rw [if_neg c3] at h1 h2
        exact openRest_qeq h1 h2 hs
end Pag
def RetBothO (w0 w : World) (log pages frames : Nat) (e : Ending) (w' : World) : Prop :=
  ∃ gb G g, e = .returned (.tuple #[.pointer (some ⟨gb, 0, none⟩), .bool true]) ∧ Blk w' gb 41 (bothC log pages frames G.k.gd G.gp (Pag.most log)) ∧ w.heap.size ≤ gb ∧ PagAt w0 w' G 20 g ∧
    Pag.Inv g [] (log + pages + 2) (Pag.empty pages) ∧ NowAt g.d ∧ g.sure = Pag.MT.free pages ∧ g.tx = none ∧ G.tx = none ∧ g.blocks = log ∧ g.pages = pages ∧ g.l.seq = 1 ∧ (∀ i, G.own i → w.heap.size ≤ i) ∧ Below w.heap.size w w' ∧ Pag.open_ (DS.new (log + pages + 2)) (log : Int) (frames : Int) = (g.d, some g, 0)
set_option maxRecDepth 20000 in
set_option maxHeartbeats 4000000 in
theorem pgbeginO_any (w0 w : World) (hb : Below w0.heap.size w0 w) (log pages frames : Nat) (h1 : 4 ≤ log) (h2 : log ≤ 16) (h3 : 1 ≤ pages) (h4 : pages ≤ 12) (h5 : 1 ≤ frames) (h6 : frames ≤ 9) :
    Calls Tryz.prog 12 #[sizeV log pages frames] w (RetBothO w0 w log pages frames) := by
  have HB := Lib.hid hb
  have HH := Lib.hid (And.intro h1 (And.intro h3 h5))
  obtain ⟨g0, ho, hok, hnow, hsu, htx, hbl, hpg, hsq⟩ := Pag.open_new_ok (blocks := log) (pages := pages) (frames := frames) h1 (by omega) h3 (by omega) h5 (by omega)
  have hinv : Pag.Inv g0 [] (log + pages + 2) (Pag.empty pages) := ⟨hok, fun t ht => by rw [htx] at ht; cases ht⟩
  have H0 : Hid (Pag.open_ (DS.new (log + pages + 2)) (log : Int) (frames : Int) = (g0.d, some g0, 0) ∧ Pag.Inv g0 [] (log + pages + 2) (Pag.empty pages) ∧ NowAt g0.d ∧ g0.sure = Pag.MT.free pages ∧ g0.tx = none ∧ g0.blocks = log ∧ g0.pages = pages ∧ g0.l.seq = 1) := ⟨ho, hinv, hnow, hsu, htx, hbl, hpg, hsq⟩
  clear hb h1 h3 h5 ho hok hnow hsu htx hbl hpg hsq hinv
  unfold sizeV
  go_enter Tryz.func12, Tryz.ntmps12
  go_wp2_with fail
  generalize hW1 : World.alloc w (.cells _ _) = W1
  obtain ⟨ba1, hz1, hB1⟩ := fresh1 hW1
  clear hW1
  rw [show (log : Int) + (pages : Int) + 2 = ((log + pages + 2 : Nat) : Int) from by omega]
  have HB1 := Lib.hid (And.intro (HB.out.trans (hB1.mono HB.out.size)) hB1)
  have HZ := Lib.hid ba1
  clear hB1 ba1 hz1 HB
  refine (DL.new2 (w0 := w0) (log + pages + 2) (by omega) (by omega) HB1.out.1).mono ?_
  rintro e w2 ⟨k, rfl, hL2, hko, hb2⟩
  have hx := (HZ.out.below hb2).c3
  have H2 := Lib.hid (And.intro hL2 hb2)
  have HKO : Hid (∀ i, k.own i → w.heap.size ≤ i) := fun i hi => Nat.le_trans HB1.out.2.size (hko i hi)
  clear hL2 hb2 hko
  go_wp2_with fail
  have hop := popen_any w0 w2 k (DS.new (log + pages + 2)) 0 log pages frames H2.out.1 (by decide) (by simp [DS.new]) HH.out.1 (by omega) HH.out.2.1 (by omega) HH.out.2.2 (by omega)
  rw [H0.out.1] at hop
  refine hop.mono ?_
  rintro e w3 ⟨h0, -⟩
  obtain ⟨G, rfl, hk, hGt, hp, hown, hk3⟩ := h0 g0 rfl
  obtain rfl := hk
  have hz3 : Blk w3 w.heap.size 25 [.int .i64 (log : Nat), .int .i64 (pages : Nat), .int .i64 (frames : Nat)] := (HZ.out.below H2.out.2).offK hk3 (H2.out.1.at_.off (by decide) (by decide))
  have hx := hz3.c3
  have H3 := Lib.hid (And.intro hp (And.intro hGt (And.intro hown (And.intro hk3 hz3))))
  clear hop h0 hp hGt hown hk3 hz3
  go_wp2_with fail
  refine wp_region_plan (.take 0 (.take 1 (.take 2 (.take 3 (.fork (.run 4 [0, 1] (.take 5 (.run 6 [0, 1, 5] (.run 7 [] .fin)))) (.run 6 [0, 1, 2, 3] (.run 4 [0, 1] (.take 5 (.run 7 [] .fin))))))))) (by kernel_rfl) (by kernel_rfl) (by kernel_rfl) (by kernel_rfl) ?_
  repeat' (first | (refine hZ _ _ ?_; clear hZ) | (refine hZ _ ?_; clear hZ) | (refine hZ ?_; clear hZ) | rw [again_nil] | rw [walk_fin] | ((first | rw [walk_take] | rw [walk_run] | rw [again_cons]); intro Z hZ; simp only [sel, List.getElem?_toArray, List.getElem?_cons_zero, List.getElem?_cons_succ]; go_wp2_with (fail)))
  rw [walk_fork]
  refine ⟨?_, ?_⟩
  · repeat' (first | (refine hZ _ _ ?_; clear hZ) | (refine hZ _ ?_; clear hZ) | (refine hZ ?_; clear hZ) | rw [again_nil] | rw [walk_fin] | ((first | rw [walk_take] | rw [walk_run] | rw [again_cons]); intro Z hZ; simp only [sel, List.getElem?_toArray, List.getElem?_cons_zero, List.getElem?_cons_succ]; go_wp2_with (fail)))
    refine (rmost_any _ (log : Int) (by omega) (by omega)).mono ?_
    rintro e w4 ⟨rfl, rfl⟩
    go_wp2_with fail
    repeat' (first | (refine hZ _ _ ?_; clear hZ) | (refine hZ _ ?_; clear hZ) | (refine hZ ?_; clear hZ) | rw [again_nil] | rw [walk_fin] | ((first | rw [walk_take] | rw [walk_run] | rw [again_cons]); intro Z hZ; simp only [sel, List.getElem?_toArray, List.getElem?_cons_zero, List.getElem?_cons_succ]; go_wp2_with (fail)))
    go_wp2_with fail
    generalize hW4 : ((World.alloc w3 (.cells _ _)).alloc (.cells _ _)) = W4
    obtain ⟨ba4, bb4, hz4, hB4⟩ := fresh2 hW4
    clear hW4
    have hbd : Below w3.heap.size w3 W4.drew := hB4.trans (below_drew W4 |>.mono hB4.size)
    have hbw : Below w.heap.size w w2 := HB1.out.2.trans (H2.out.2.mono HB1.out.2.size)
    have HFIN : Hid (Blk W4.drew (w3.heap.size + 1) 41 (bothC log pages frames G.k.gd G.gp (Pag.most log)) ∧ w.heap.size ≤ w3.heap.size + 1 ∧ PagAt w0 W4.drew G 20 g0 ∧ (∀ i, G.own i → w.heap.size ≤ i) ∧ Below w.heap.size w W4.drew) := by
      have hk := H3.out.2.2.2.1.below hbw hbw.size HKO.out
      refine ⟨bb4, Nat.le_succ_of_le hk.size, H3.out.1.below hbd, fun i hi => ?_, hk.trans (hbd.mono hk.size)⟩
      rcases H3.out.2.2.1 i hi with h | h
      · exact HKO.out i h
      · exact Nat.le_trans hbw.size h
    clear ba4 bb4 hz4 hB4 hbd hbw
    go_ret2
    obtain ⟨f1, f2, f3, f4, f5⟩ := HFIN.out
    obtain ⟨i0, i1, i2, i3, i4, i5, i6, i7⟩ := H0.out
    exact ⟨_, G, g0, rfl, f1, f2, f3, i1, i2, i3, i4, H3.out.2.1, i5, i6, i7, f4, f5, i0⟩
  · repeat' (first | (refine hZ _ _ ?_; clear hZ) | (refine hZ _ ?_; clear hZ) | (refine hZ ?_; clear hZ) | rw [again_nil] | rw [walk_fin] | ((first | rw [walk_take] | rw [walk_run] | rw [again_cons]); intro Z hZ; simp only [sel, List.getElem?_toArray, List.getElem?_cons_zero, List.getElem?_cons_succ]; go_wp2_with (fail)))
    refine (rmost_any _ (log : Int) (by omega) (by omega)).mono ?_
    rintro e w4 ⟨rfl, rfl⟩
    go_wp2_with fail
    repeat' (first | (refine hZ _ _ ?_; clear hZ) | (refine hZ _ ?_; clear hZ) | (refine hZ ?_; clear hZ) | rw [again_nil] | rw [walk_fin] | ((first | rw [walk_take] | rw [walk_run] | rw [again_cons]); intro Z hZ; simp only [sel, List.getElem?_toArray, List.getElem?_cons_zero, List.getElem?_cons_succ]; go_wp2_with (fail)))
    go_wp2_with fail
    generalize hW4 : ((World.alloc w3 (.cells _ _)).alloc (.cells _ _)) = W4
    obtain ⟨ba4, bb4, hz4, hB4⟩ := fresh2 hW4
    clear hW4
    have hbd : Below w3.heap.size w3 W4.drew := hB4.trans (below_drew W4 |>.mono hB4.size)
    have hbw : Below w.heap.size w w2 := HB1.out.2.trans (H2.out.2.mono HB1.out.2.size)
    have HFIN : Hid (Blk W4.drew (w3.heap.size + 1) 41 (bothC log pages frames G.k.gd G.gp (Pag.most log)) ∧ w.heap.size ≤ w3.heap.size + 1 ∧ PagAt w0 W4.drew G 20 g0 ∧ (∀ i, G.own i → w.heap.size ≤ i) ∧ Below w.heap.size w W4.drew) := by
      have hk := H3.out.2.2.2.1.below hbw hbw.size HKO.out
      refine ⟨bb4, Nat.le_succ_of_le hk.size, H3.out.1.below hbd, fun i hi => ?_, hk.trans (hbd.mono hk.size)⟩
      rcases H3.out.2.2.1 i hi with h | h
      · exact HKO.out i h
      · exact Nat.le_trans hbw.size h
    clear ba4 bb4 hz4 hB4 hbd hbw
    go_ret2
    obtain ⟨f1, f2, f3, f4, f5⟩ := HFIN.out
    obtain ⟨i0, i1, i2, i3, i4, i5, i6, i7⟩ := H0.out
    exact ⟨_, G, g0, rfl, f1, f2, f3, i1, i2, i3, i4, H3.out.2.1, i5, i6, i7, f4, f5, i0⟩
end Go.Proofs.YtcfoihihinijlaaGreat
end

section
namespace Go.Proofs.YtcfoihihinijlaaGreat
set_option linter.unusedSimpArgs false
set_option linter.unusedVariables false
open Go.RowKit Go.Maps
theorem mod_kindW (x : Int) : ∃ r : Nat, r < 8 ∧ wrap64 ((IntKind.u64.wrap x).tmod 8) = (r : Int) := by
  have h0 : 0 ≤ IntKind.u64.wrap x := by simp [IntKind.wrap, IntKind.signed, IntKind.bits]; omega
  rw [Int.tmod_eq_emod_of_nonneg h0]
  have h1 := Int.emod_nonneg (IntKind.u64.wrap x) (by omega : (8 : Int) ≠ 0)
  have h2 := Int.emod_lt_of_pos (IntKind.u64.wrap x) (by omega : (0 : Int) < 8)
  generalize IntKind.u64.wrap x % 8 = r at *
  refine ⟨r.toNat, by omega, ?_⟩
  unfold wrap64
  omega
structure Half (w0 W : World) (gb fr : Nat) (G : GB) (n : Nat) (g : Pag.PG) (s : Pag.Sto) (a : SA) (x y : Value) : Prop where
  blk : Blk W gb 41 (bothL fr G.k.gd G.gp s a x y)
  rows : StoR W s a
  pag : PagAt w0 W G n g
  lo : ∀ i, G.own i → w0.heap.size ≤ i
  glo : w0.heap.size ≤ gb
section
variable {w0 W W' : World} {gb fr gb2 fr2 n n' m : Nat} {G G' G2 G2' : GB} {g g2 g' : Pag.PG} {s s2 : Pag.Sto} {a a2 : SA} {x y x2 y2 : Value}
theorem Half.below (h : Half w0 W gb fr G n g s a x y) (hb : Below W.heap.size W W') : Half w0 W' gb fr G n g s a x y := ⟨h.blk.below hb, h.rows.below hb, h.pag.below hb, h.lo, h.glo⟩
theorem Half.more (h : Half w0 W gb fr G n g s a x y) (hn : n ≤ n') : Half w0 W gb fr G n' g s a x y := ⟨h.blk, h.rows, h.pag.more hn, h.lo, h.glo⟩
theorem Half.off (h : Half w0 W gb fr G n g s a x y) {T : TypeId} (h0 : T ≠ 41) (h1 : T ≠ 136) (h2 : T ≠ eDB.e) (h3 : T ≠ 192) (h4 : T ≠ 197) (h5 : T ≠ 199) (h6 : T ≠ 119) (h7 : T ≠ 121) (h8 : T ≠ 4) : Off W (fun i => G.own i ∨ i = gb) T := by
  rintro i (hi | rfl)
  · exact h.pag.offOwn h1 h2 h3 h4 h5 h6 h7 h8 i hi
  · rw [h.blk.tag]
    exact fun e => h0 (Option.some.inj e).symm
theorem Half.notOwn (h : Half w0 W gb fr G n g s a x y) {z : Nat} (hz : tagOf W z = some 41) : ¬ G.own z := fun hi =>
  (h.pag.offOwn (T := 41) (by decide) (by decide) (by decide) (by decide) (by decide) (by decide) (by decide) (by decide)) z hi hz
theorem Half.beside (h : Half w0 W gb fr G n g s a x y) (h2 : Half w0 W gb2 fr2 G2 m g2 s2 a2 x2 y2) (hd : ∀ i, G.own i → ¬ G2.own i) (hne : gb ≠ gb2) (hk : Keeps W W' (fun i => G2.own i ∨ i = gb2)) (ho : ∀ i, G2'.own i → G2.own i ∨ W.heap.size ≤ i) :
    Half w0 W' gb fr G n g s a x y ∧ ∀ i, G.own i → ¬ G2'.own i := by
  have o : ∀ T, (T = 5 ∨ T = eDW.e ∨ T = eDF.e ∨ T = 132 ∨ T = 3) → Off W (fun i => G2.own i ∨ i = gb2) T := fun T hT => by
    rcases hT with rfl | rfl | rfl | rfl | rfl <;> exact h2.off (by decide) (by decide) (by decide) (by decide) (by decide) (by decide) (by decide) (by decide) (by decide)
  refine ⟨⟨h.blk.kept hk ?_, ⟨h.rows.sure.offK hk (o _ (.inr (.inr (.inr (.inl rfl))))), h.rows.now.offK hk (o _ (.inr (.inr (.inr (.inl rfl))))), h.rows.put.offK hk (o _ (.inr (.inr (.inr (.inr rfl)))))⟩, h.pag.apart hk ?_ (o _ (.inl rfl)) (o _ (.inr (.inl rfl))) (o _ (.inr (.inr (.inl rfl)))) ?_, h.lo, h.glo⟩, fun i hi hi2 => ?_⟩
  · rintro (hi | hi)
    · exact h2.notOwn h.blk.tag hi
    · exact hne hi
  · rintro i hi (hi2 | hi2)
    · exact hd i hi hi2
    · rw [hi2] at hi
      exact h.notOwn h2.blk.tag hi
  · rintro i (hi | hi)
    · exact h2.lo i hi
    · rw [hi]; exact h2.glo
  · rcases ho i hi2 with h3 | h3
    · exact hd i hi h3
    · have := h.pag.own_lt i hi
      omega
theorem Half.turn (h : Half w0 W gb fr G n g s a x y) (hb : Blk W' gb 41 (bothL fr G.k.gd G.gp s2 a2 x2 y2)) (hr : StoR W' s2 a2) (hp : PagAt w0 W' G' n' g') (e1 : G'.gp = G.gp) (e2 : G'.k = G.k) (ho : ∀ i, G'.own i → G.own i ∨ W.heap.size ≤ i) : Half w0 W' gb fr G' n' g' s2 a2 x2 y2 := by
  refine ⟨by rw [e1, e2]; exact hb, hr, hp, fun i hi => ?_, h.glo⟩
  rcases ho i hi with h1 | h1
  · exact h.lo i h1
  · exact Nat.le_trans h.pag.wl.dl.bel.size h1
theorem Half.reads (h : Half w0 W gb fr G n g s a x y) (hp : PagAt w0 W' G' n' g') (e1 : G'.gp = G.gp) (e2 : G'.k = G.k) (ho : ∀ i, G'.own i → G.own i ∨ W.heap.size ≤ i) (hk : Keeps W W' G.own) : Half w0 W' gb fr G' n' g' s a x y := by
  have o : ∀ T, (T = 41 ∨ T = 132 ∨ T = 3) → Off W G.own T := fun T hT => by
    rcases hT with rfl | rfl | rfl <;> exact h.pag.offOwn (by decide) (by decide) (by decide) (by decide) (by decide) (by decide) (by decide) (by decide)
  exact h.turn (h.blk.offK hk (o _ (.inl rfl))) ⟨h.rows.sure.offK hk (o _ (.inr (.inl rfl))), h.rows.now.offK hk (o _ (.inr (.inl rfl))), h.rows.put.offK hk (o _ (.inr (.inr rfl)))⟩ hp e1 e2 ho
end
namespace Pag
theorem SI.setQ {g : PG} {R : List (List UInt8)} {N k : Nat} {C : Nat → List UInt8} {q : PS} (h : SI g R N C k) (hl : Lk { g with q := q } R N C) : SI { g with q := q } R N C k := by
  have hs := h.inv.pg.j.still
  have e : ({ g.d with falls := [], down := false } : DS) = g.d := by
    have h1 := hs.falls
    have h2 := hs.down
    cases hd : g.d
    rw [hd] at h1 h2
    simp at h1 h2
    simp [h1, h2]
  have hi := hl.inv
  have e2 : ({ ({ g with q := q } : PG) with d := { ({ g with q := q } : PG).d with falls := [], down := false } } : PG) = { g with q := q } := by
    show ({ g with d := { g.d with falls := [], down := false }, q := q } : PG) = _
    rw [e]
  rw [e2] at hi
  exact ⟨hi, h.u0.same rfl rfl, h.now, h.blocks, h.pages, h.seq⟩
theorem QEq.setQ {a b : PG} (h : QEq a b) (p q : PS) : QEq { a with q := p } { b with q := q } := by
  obtain ⟨r, rfl⟩ := h
  exact ⟨q, rfl⟩
theorem lst_in {g : PG} (hp : g.pages ≤ 1600) (C : Nat → List UInt8) : ∀ q ∈ g.lst C, i6B q.1 := by
  intro q hq
  obtain ⟨n, hn, rfl⟩ := List.mem_map.1 hq
  unfold PG.used at hn
  split at hn
  · cases hn
  · have := List.mem_range.1 (List.mem_filter.1 hn).1
    show -9223372036854775808 ≤ (n : Int) ∧ (n : Int) ≤ 9223372036854775807
    omega
end Pag
def FrI (w0 W : World) (gx gy fx fy : Nat) (gpx gpy : Nat) (i : Nat) : Prop :=
  ∃ Gx Gy gX gY RX RY C s ax ay v1 v2 v3 v4, Half w0 W gx fx Gx (20 + 5200 * i) gX s ax v1 v2 ∧ Half w0 W gy fy Gy (20 + 5200 * i) gY s ay v3 v4 ∧ (∀ i, Gx.own i → ¬ Gy.own i) ∧
    Pag.SI gX RX 21 C i ∧ Pag.SI gY RY 21 C i ∧ Pag.SS s i ∧ Pag.QEq gX gY ∧ Gx.gp = gpx ∧ Gy.gp = gpy
set_option maxRecDepth 20000 in
set_option maxHeartbeats 4000000 in
theorem pagerFrames_no (w : World) (a c : Int) (A : Option Addr) (d : Nat) (L : List OpP) (hr : ERow eOpP w A L) (hf : fitsP L = false) :
    Calls Tryz.prog 4 #[.int .i64 a, .int .i64 c, .slice A L.length d] w fun e w' => e = .returned (.bool true) ∧ Below w.heap.size w w' := by
  have HR := Lib.hid hr
  have HF := Lib.hid hf
  clear hr hf
  go_enter Tryz.func4, Tryz.ntmps4
  go_wp2_with fail
  refine (pglives_any w).mono ?_
  rintro e w1 ⟨rfl, hb1⟩
  have HB1 := Lib.hid hb1
  have hfi := pgfits_any w1 10 9 1 (by decide) (by decide) (by decide) (by decide) (by decide) (by decide) A d L (HR.out.below hb1)
  rw [HF.out] at hfi
  have HFI := Lib.hid hfi
  clear hb1 hfi
  go_wp2_with fail
  refine HFI.out.mono ?_
  rintro e w2 ⟨rfl, hb2⟩
  have HB2 := Lib.hid (HB1.out.then hb2)
  clear hb2 HB1 HFI
  go_wp2_with fail
  refine (pglives_any w2).mono ?_
  rintro e w3 ⟨rfl, hb3⟩
  have HB3 := Lib.hid (HB2.out.then hb3)
  clear hb3 HB2
  go_wp2_with fail
  go_ret
  exact ⟨rfl, HB3.out⟩
theorem fits_len {L : List OpP} (h : fitsP L = true) : L.length ≤ 60 ∧ ∀ o ∈ L, o.root.length ≤ 100 := by
  unfold fitsP at h
  simp only [Bool.and_eq_true, decide_eq_true_eq, List.all_eq_true] at h
  exact ⟨h.1, fun o ho => by have := h.2 o ho; unfold shortP at this; simpa using this⟩
def s00 : Pag.Sto := ⟨((9 : Nat) : Int), Pag.most ((10 : Nat) : Int), ([], []), ([], []), false, [], false⟩
theorem fr_start {w w3 w4 : World} {gx gy fx fy : Nat} {Gx Gy : GB} {gX gY : Pag.PG} (hw : w.heap.size ≤ w3.heap.size) (hwx : w.heap.size ≤ gx) (hbx : Blk w3 gx 41 (bothC 10 9 fx Gx.k.gd Gx.gp (Pag.most ((10 : Nat) : Int)))) (hpx : PagAt w w3 Gx 20 gX) (hox : ∀ i, Gx.own i → w.heap.size ≤ i)
    (hix : Pag.Inv gX [] (10 + 9 + 2) (Pag.empty 9)) (hnx : NowAt gX.d) (hsx : gX.sure = Pag.MT.free 9) (htx : gX.tx = none) (hblx : gX.blocks = 10) (hpgx : gX.pages = 9) (hqx : gX.l.seq = 1) (hopx : Pag.open_ (DS.new (10 + 9 + 2)) ((10 : Nat) : Int) (fx : Int) = (gX.d, some gX, 0))
    (hbyy : Blk w4 gy 41 (bothC 10 9 fy Gy.k.gd Gy.gp (Pag.most ((10 : Nat) : Int)))) (hwy : w3.heap.size ≤ gy) (hpy : PagAt w w4 Gy 20 gY) (hoy : ∀ i, Gy.own i → w3.heap.size ≤ i)
    (hiy : Pag.Inv gY [] (10 + 9 + 2) (Pag.empty 9)) (hny : NowAt gY.d) (hsy : gY.sure = Pag.MT.free 9) (hty : gY.tx = none) (hbly : gY.blocks = 10) (hpgy : gY.pages = 9) (hqy : gY.l.seq = 1) (hopy : Pag.open_ (DS.new (10 + 9 + 2)) ((10 : Nat) : Int) (fy : Int) = (gY.d, some gY, 0))
    (hb4 : Below w3.heap.size w3 w4) (hfx : 1 ≤ fx ∧ fx ≤ 9) (hfy : 1 ≤ fy ∧ fy ≤ 9) : FrI w w4 gx gy fx fy Gx.gp Gy.gp 0 := by
  refine ⟨Gx, Gy, gX, gY, [], [], Pag.empty 9, s00, ⟨none, 0, none, 0, none, 0⟩, ⟨none, 0, none, 0, none, 0⟩, .slice none 0 0, .string ByteArray.empty, .slice none 0 0, .string ByteArray.empty, ⟨hbx.below hb4, ⟨EOwn.nil _ _, EOwn.nil _ _, EOwn.nil _ _⟩, hpx.below hb4, hox, hwx⟩, ⟨hbyy, ⟨EOwn.nil _ _, EOwn.nil _ _, EOwn.nil _ _⟩, hpy, fun i hi => Nat.le_trans hw (hoy i hi), Nat.le_trans hw hwy⟩, fun i hi hi2 => ?_, ?_, ?_, ?_, ?_, rfl, rfl⟩
  · have h1 := hpx.own_lt i hi
    have h2 := hoy i hi2
    omega
  · exact ⟨hix, ⟨by rw [hsx]; exact Pag.U0.free_ _, fun t ht => by rw [htx] at ht; cases ht⟩, hnx, hblx, hpgx, by rw [hqx]; omega⟩
  · exact ⟨hiy, ⟨by rw [hsy]; exact Pag.U0.free_ _, fun t ht => by rw [hty] at ht; cases ht⟩, hny, hbly, hpgy, by rw [hqy]; omega⟩
  · exact ⟨rfl, Nat.le_refl _, Nat.le_refl _, Nat.le_refl _, fun q hq => (by cases hq), fun q hq => (by cases hq)⟩
  · exact Pag.open_qeq (b := 10) (p := 9) (by simp [DS.new]) (by decide) (by decide) (by decide) hfx.1 (by omega) hfy.1 (by omega) hopx hopy (by rw [hsx, hsy])
set_option maxRecDepth 20000 in
set_option maxHeartbeats 8000000 in
theorem pagerFrames_fit (w : World) (a c : Int) (A : Option Addr) (d : Nat) (L : List OpP) (hr : ERow eOpP w A L) (hfi : ∀ o ∈ L, o.Fine w) (hf : fitsP L = true) :
    Calls Tryz.prog 4 #[.int .i64 a, .int .i64 c, .slice A L.length d] w fun e w' => e = .returned (.bool true) ∧ Below w.heap.size w w' := by
  obtain ⟨hl60, hrt⟩ := fits_len hf
  have HR := Lib.hid (And.intro hr (And.intro hfi hrt))
  have HF := Lib.hid hf
  clear hr hf hfi hrt
  obtain ⟨fx, hx1, hx2, hxe, -⟩ := mod_word6 a 1 9 (by decide) (by decide) (by decide) (by decide)
  obtain ⟨fy, hy1, hy2, hye, -⟩ := mod_word6 c 1 9 (by decide) (by decide) (by decide) (by decide)
  have hfx : 1 ≤ fx ∧ fx ≤ 9 := by omega
  have hfy : 1 ≤ fy ∧ fy ≤ 9 := by omega
  have HXY := Lib.hid (And.intro hfx hfy)
  have HXE := Lib.hid hxe
  have HYE := Lib.hid hye
  clear hx1 hx2 hy1 hy2 hxe hye hfx hfy
  go_enter Tryz.func4, Tryz.ntmps4
  go_wp2_with fail
  refine (pglives_any w).mono ?_
  rintro e w1 ⟨rfl, hb1⟩
  have HB1 := Lib.hid hb1
  have hfi := pgfits_any w1 10 9 1 (by decide) (by decide) (by decide) (by decide) (by decide) (by decide) A d L (HR.out.1.below hb1)
  rw [HF.out] at hfi
  have HFI := Lib.hid hfi
  clear hb1 hfi
  go_wp2_with fail
  refine HFI.out.mono ?_
  rintro e w2 ⟨rfl, hb2⟩
  have HB2 := Lib.hid (HB1.out.then hb2)
  have HBX := Lib.hid (pgbeginO_any w w2 HB2.out 10 9 fx (by decide) (by decide) (by decide) (by decide) HXY.out.1.1 HXY.out.1.2)
  clear hb2 HB1 HFI
  go_wp2_with fail
  rw [HXE.out]
  refine HBX.out.mono ?_
  rintro e w3 ⟨gx, Gx, gX, rfl, hbx, hgx, hpx, hix, hnx, hsx, htx, -, hblx, hpgx, hqx, hox, hb3, hopx⟩
  have HX := Lib.hid (And.intro hbx (And.intro hgx (And.intro hpx (And.intro hix (And.intro hnx (And.intro hsx (And.intro htx (And.intro hblx (And.intro hpgx (And.intro hqx (And.intro hox hopx)))))))))))
  have HB3 := Lib.hid (HB2.out.then hb3)
  have HBY := Lib.hid (pgbeginO_any w w3 HB3.out 10 9 fy (by decide) (by decide) (by decide) (by decide) HXY.out.2.1 HXY.out.2.2)
  clear hbx hgx hpx hix hnx hsx htx hblx hpgx hqx hox hb3 hopx HBX
  go_wp2_with fail
  rw [HYE.out]
  refine HBY.out.mono ?_
  rintro e w4 ⟨gy, Gy, gY, rfl, hbyy, hgy, hpy, hiy, hny, hsy, hty, -, hbly, hpgy, hqy, hoy, hb4, hopy⟩
  have H4 : Hid (FrI w w4 gx gy fx fy Gx.gp Gy.gp 0 ∧ gx ≠ gy) := by
    obtain ⟨k1, k2, k3, k4, k5, k6, k7, k8, k9, k10, k11, k12⟩ := HX.out
    have hne : gx ≠ gy := by have := k1.lt; omega
    exact ⟨fr_start HB3.out.size (Nat.le_trans HB2.out.size k2) k1 k3 (fun i hi => Nat.le_trans HB2.out.size (k11 i hi)) k4 k5 k6 k7 k8 k9 k10 k12 hbyy hgy hpy hoy hiy hny hsy hty hbly hpgy hqy hopy hb4 HXY.out.1 HXY.out.2, hne⟩
  have HNE := Lib.hid H4.out.2
  clear hbyy hgy hpy hiy hny hsy hty hbly hpgy hqy hoy hb4 hopy HBY HX
  obtain ⟨gpx, hgpx⟩ : ∃ g, Gx.gp = g := ⟨_, rfl⟩
  obtain ⟨gpy, hgpy⟩ : ∃ g, Gy.gp = g := ⟨_, rfl⟩
  rw [hgpx, hgpy] at H4
  clear hgpx hgpy
  go_wp2_with fail
  go_loopw [44] (fun iv wr => ∃ i : Nat, i ≤ L.length ∧ iv = .int .i64 (i : Int) ∧ Hid (FrI w wr gx gy fx fy gpx gpy i)) (fun iv _ => L.length - (intOf iv).toNat)
  case atStart => exact ⟨0, Nat.zero_le _, by go_num, H4.out.1⟩
  case round =>
    obtain ⟨i, hi, rfl, HS⟩ := hrel
    by_cases hlt : i < L.length
    · have hlti : (i : Int) < (L.length : Int) := by omega
      obtain ⟨Gx, Gy, gX, gY, RX, RY, C, s, ax, ay, v1, v2, v3, v4, hx, hy, hdj, hsx, hsy, hss, hq, hgx, hgy⟩ := HS.out
      obtain ⟨b, o, rfl, hb, hcc⟩ := opp_at (HR.out.1.below hx.pag.wl.dl.bel) hlt
      have hfine : (L[i]).Fine w := HR.out.2.1 _ (List.getElem_mem hlt)
      have hrl : (L[i]).root.length ≤ 100 := HR.out.2.2 _ (List.getElem_mem hlt)
      obtain ⟨q, hqe⟩ : ∃ q, L[i] = q := ⟨_, rfl⟩
      rw [hqe] at hcc hfine hrl
      obtain ⟨r, hr8, hre⟩ := mod_kindW q.k
      have HRE := Lib.hid (And.intro hre (And.intro hr8 (And.intro hfine hrl)))
      have HI := Lib.hid (And.intro hx (And.intro hy (And.intro hdj (And.intro hsx (And.intro hsy (And.intro hss (And.intro hq (And.intro hgx hgy))))))))
      clear hx hy hdj hsx hsy hss hq hgx hgy hfine hrl hqe hr8 hre HS
      go_upto_region 9 with fail
      rw [HRE.out.1]
      generalize hW5 : World.alloc wr (.cells _ _) = W5
      obtain ⟨ba5, hz5, hB5⟩ := fresh1 hW5
      clear hW5
      obtain ⟨o', ho'⟩ : ∃ o' : OpP, o' = { q with k := (r : Int) } := ⟨_, rfl⟩
      obtain ⟨go, hgo⟩ : ∃ go, wr.heap.size = go := ⟨_, rfl⟩
      have HO : Hid (o'.Fine w ∧ o'.root.length ≤ 100 ∧ 0 ≤ o'.k ∧ o'.k < 8) := by
        obtain ⟨-, h8, ⟨k1, k2, k3, k4⟩, h4⟩ := HRE.out
        subst ho'
        exact ⟨⟨⟨by show (-9223372036854775808 : Int) ≤ (r : Int); omega, by show (r : Int) ≤ 9223372036854775807; omega⟩, k2, k3, k4⟩, h4, by show (0 : Int) ≤ (r : Int); omega, by show (r : Int) < 8; omega⟩
      have H5 : Hid (Half w W5.drew gx fx Gx (20 + 5200 * i) gX s ax v1 v2 ∧ Half w W5.drew gy fy Gy (20 + 5200 * i) gY s ay v3 v4 ∧ Blk W5.drew go 58 (opL o')) := by
        obtain ⟨h1, h2, -⟩ := HI.out
        have hbd : Below wr.heap.size wr W5.drew := hB5.then (Below.refl _ _).drew
        subst ho'
        rw [hgo] at ba5
        exact ⟨h1.below hbd, h2.below hbd, ba5.drew⟩
      rw [hgo]
      clear ba5 hz5 hB5 ho' hgo hcc hb HRE
      have hop := Blk.c8 H5.out.2.2
      have hpx := H5.out.1.blk.cell 4
      have hpy := H5.out.2.1.blk.cell 4
      have hlx := H5.out.1.blk.lt
      have hly := H5.out.2.1.blk.lt
      unfold bothL at hpx hpy
      simp only [List.getElem?_cons_zero, List.getElem?_cons_succ] at hpx hpy
      have hn60 : i + 1 ≤ 60 := by omega
      have HN := Lib.hid hn60
      clear hn60
      obtain ⟨RX', hsx', hcx⟩ := stp_any w W5.drew gx fx o' HO.out.1 HO.out.2.1 HO.out.2.2.1 HO.out.2.2.2 Gx (20 + 5200 * i) gX RX 21 C s ax v1 v2 H5.out.1.pag H5.out.1.blk H5.out.1.rows H5.out.1.glo (by have := HN.out; omega) i (by have := HN.out; omega) HI.out.2.2.2.1 HI.out.2.2.2.2.2.1
      have hby := HI.out.2.2.2.2.2.2.1.stpB (o := o') (C := C) (s := s)
      have hcy' := HI.out.2.2.2.2.2.2.1.stpC (o := o') (C := C)
      have hqg := HI.out.2.2.2.2.2.2.1.stpG (o := o')
      obtain ⟨B, hBe⟩ : ∃ B, Pag.stpB gX C s o' = B := ⟨_, rfl⟩
      rw [hBe] at hcx hby
      unfold opV at hcx
      have HCX := Lib.hid hcx
      have HSX := Lib.hid hsx'
      have HQ := Lib.hid (And.intro hby (And.intro hcy' hqg))
      clear hcx hsx' hby hcy' hqg hBe
      refine wp_region_plan (.take 0 (.take 1 (.take 3 (.take 4 (.run 2 [3, 4] (.run 5 [] (.take 6 (.take 7 (.take 8 (.take 9 (.take 10 (.take 11 (.take 12 (.take 13 (.take 14 (.take 15 (.run 16 [8, 9, 10, 11] (.run 17 [] (.take 18 (.take 19 .fin)))))))))))))))))))) (by kernel_rfl) (by kernel_rfl) (by kernel_rfl) (by kernel_rfl) ?_
      repeat' (first | (refine hZ _ _ ?_; clear hZ) | (refine hZ _ ?_; clear hZ) | (refine hZ ?_; clear hZ) | rw [again_nil] | rw [walk_fin] | ((first | rw [walk_take] | rw [walk_run] | rw [again_cons]); intro Z hZ; simp only [sel, List.getElem?_toArray, List.getElem?_cons_zero, List.getElem?_cons_succ]; go_wp2_with (fail)))
      refine HCX.out.mono ?_
      rintro e w6 ⟨Gx6, qx6, ax6, x61, x62, rfl, e1, e2, hp6, hlk6, hb6, hr6, ho6, hk6⟩
      have hdj := HI.out.2.2.1
      have hbs := H5.out.2.1.beside H5.out.1 (fun i hi hi2 => hdj i hi2 hi) HNE.out.symm hk6 ho6
      have hgo6 : Blk w6 go 58 (opL o') := H5.out.2.2.offK hk6 (H5.out.1.off (by decide) (by decide) (by decide) (by decide) (by decide) (by decide) (by decide) (by decide) (by decide))
      have H6 : Hid (Half w w6 gx fx Gx6 (20 + 5200 * i + 5100) { Pag.stpG gX o' with q := qx6 } (Pag.stpS s o') ax6 x61 x62 ∧ Half w w6 gy fy Gy (20 + 5200 * i) gY s ay v3 v4 ∧ Blk w6 go 58 (opL o') ∧ (∀ i, Gy.own i → ¬ Gx6.own i) ∧ Pag.SI { Pag.stpG gX o' with q := qx6 } RX' 21 (Pag.stpC gX C o') (i + 1) ∧ Gx6.gp = Gx.gp) :=
        ⟨H5.out.1.turn hb6 hr6 hp6 e1 e2 ho6, hbs.1, hgo6, hbs.2, HSX.out.setQ hlk6, e1⟩
      clear hdj hbs hgo6 e1 e2 hp6 hlk6 hb6 hr6 ho6 hk6 HCX HSX H5 hop hpx hpy hlx hly
      have hop := Blk.c8 H6.out.2.2.1
      have hpx := H6.out.1.blk.cell 4
      have hpy := H6.out.2.1.blk.cell 4
      have hlx := H6.out.1.blk.lt
      have hly := H6.out.2.1.blk.lt
      unfold bothL at hpx hpy
      simp only [List.getElem?_cons_zero, List.getElem?_cons_succ] at hpx hpy
      rw [H6.out.2.2.2.2.2] at hpx
      obtain ⟨RY', hsy', hcy⟩ := stp_any w w6 gy fy o' HO.out.1 HO.out.2.1 HO.out.2.2.1 HO.out.2.2.2 Gy (20 + 5200 * i) gY RY 21 C s ay v3 v4 H6.out.2.1.pag H6.out.2.1.blk H6.out.2.1.rows H6.out.2.1.glo (by have := HN.out; omega) i (by have := HN.out; omega) HI.out.2.2.2.2.1 HI.out.2.2.2.2.2.1
      rw [HQ.out.1, HQ.out.2.1] at hcy
      rw [HQ.out.2.1] at hsy'
      unfold opV at hcy
      have HCY := Lib.hid hcy
      have HSY := Lib.hid hsy'
      clear hcy hsy'
      go_wp2_with fail
      repeat' (first | (refine hZ _ _ ?_; clear hZ) | (refine hZ _ ?_; clear hZ) | (refine hZ ?_; clear hZ) | rw [again_nil] | rw [walk_fin] | ((first | rw [walk_take] | rw [walk_run] | rw [again_cons]); intro Z hZ; simp only [sel, List.getElem?_toArray, List.getElem?_cons_zero, List.getElem?_cons_succ]; go_wp2_with (fail)))
      refine HCY.out.mono ?_
      rintro e w7 ⟨Gy7, qy7, ay7, y71, y72, rfl, e1, e2, hp7, hlk7, hb7, hr7, ho7, hk7⟩
      obtain ⟨gX6, hgX6⟩ : ∃ g, ({ Pag.stpG gX o' with q := qx6 } : Pag.PG) = g := ⟨_, rfl⟩
      obtain ⟨gY7, hgY7⟩ : ∃ g, ({ Pag.stpG gY o' with q := qy7 } : Pag.PG) = g := ⟨_, rfl⟩
      obtain ⟨C7, hC7⟩ : ∃ C', Pag.stpC gX C o' = C' := ⟨_, rfl⟩
      obtain ⟨s7, hs7⟩ : ∃ s', Pag.stpS s o' = s' := ⟨_, rfl⟩
      have hq7 : Pag.QEq gX6 gY7 := by rw [← hgX6, ← hgY7]; exact HQ.out.2.2.setQ _ _
      have hss7 : Pag.SS s7 (i + 1) := by rw [← hs7]; exact HI.out.2.2.2.2.2.1.stp HO.out.1.n
      have hsy7 := HSY.out.setQ hlk7
      rw [hgX6, hs7, hC7] at H6
      rw [hgY7, hC7] at hsy7
      rw [hgY7] at hp7
      rw [hs7] at hb7 hr7
      have hdj := H6.out.2.2.2.1
      have hbs := H6.out.1.beside H6.out.2.1 (fun i hi hi2 => hdj i hi2 hi) HNE.out hk7 ho7
      have H7 : Hid (Half w w7 gx fx Gx6 (20 + 5200 * i + 5100) gX6 s7 ax6 x61 x62 ∧ Half w w7 gy fy Gy7 (20 + 5200 * i + 5100) gY7 s7 ay7 y71 y72 ∧ (∀ i, Gx6.own i → ¬ Gy7.own i) ∧ Pag.SI gX6 RX' 21 C7 (i + 1) ∧ Pag.SI gY7 RY' 21 C7 (i + 1) ∧ Pag.SS s7 (i + 1) ∧ Pag.QEq gX6 gY7 ∧ Gx6.gp = gpx ∧ Gy7.gp = gpy) :=
        ⟨hbs.1, H6.out.2.1.turn hb7 hr7 hp7 e1 e2 ho7, hbs.2, H6.out.2.2.2.2.1, hsy7, hss7, hq7, H6.out.2.2.2.2.2.trans HI.out.2.2.2.2.2.2.2.1, e1.trans HI.out.2.2.2.2.2.2.2.2⟩
      clear hdj hbs hgX6 hgY7 hC7 hs7 hq7 hss7 hsy7 e1 e2 hp7 hlk7 hb7 hr7 ho7 hk7 HCY HSY H6 HQ HI hop hpx hpy hlx hly
      have hpx := H7.out.1.blk.cell 4
      have hpy := H7.out.2.1.blk.cell 4
      have hlx := H7.out.1.blk.lt
      have hly := H7.out.2.1.blk.lt
      unfold bothL at hpx hpy
      simp only [List.getElem?_cons_zero, List.getElem?_cons_succ] at hpx hpy
      have hst := pgstate_any w w7 Gy7 (20 + 5200 * i + 5100) gY7 RY' 21 C7 H7.out.2.1.pag H7.out.2.2.2.2.1.inv.lk H7.out.2.2.2.2.1.u0 (by rw [H7.out.2.2.2.2.1.pages]; decide) (by have := HN.out; omega)
      have HST := Lib.hid hst
      clear hst
      go_wp2_with fail
      repeat' (first | (refine hZ _ _ ?_; clear hZ) | (refine hZ _ ?_; clear hZ) | (refine hZ ?_; clear hZ) | rw [again_nil] | rw [walk_fin] | ((first | rw [walk_take] | rw [walk_run] | rw [again_cons]); intro Z hZ; simp only [sel, List.getElem?_toArray, List.getElem?_cons_zero, List.getElem?_cons_succ]; go_wp2_with (fail)))
      refine HST.out.mono ?_
      rintro e w8 ⟨Gy8, q8, A8, c8, rfl, hrow8, f1, f2, hp8, hlk8, ho8, hk8⟩
      have hdj := H7.out.2.2.1
      have hbs := H7.out.1.beside H7.out.2.1 hdj HNE.out (hk8.mono fun i hi => .inl hi) ho8
      have H8 : Hid (Half w w8 gx fx Gx6 (20 + 5200 * i + 5100) gX6 s7 ax6 x61 x62 ∧ Half w w8 gy fy Gy8 (20 + 5200 * i + 5100 + 40) { gY7 with q := q8 } s7 ay7 y71 y72 ∧ (∀ i, Gx6.own i → ¬ Gy8.own i) ∧ Pag.SI { gY7 with q := q8 } RY' 21 C7 (i + 1) ∧ EOwn ePgE w8 0 A8 c8 (gY7.lst C7) ∧ Gy8.gp = gpy) :=
        ⟨hbs.1, H7.out.2.1.reads hp8 f1 f2 ho8 hk8, hbs.2, H7.out.2.2.2.2.1.setQ hlk8, hrow8.mono (Nat.zero_le _), f1.trans H7.out.2.2.2.2.2.2.2.2⟩
      clear hdj hbs hrow8 f1 f2 hp8 hlk8 ho8 hk8 HST hpx hpy hlx hly
      have hlike := pglike_any w w8 Gx6 (20 + 5200 * i + 5100) gX6 RX' 21 C7 H8.out.1.pag H7.out.2.2.2.1.inv.lk H7.out.2.2.2.1.u0 (by rw [H7.out.2.2.2.1.pages]; decide) (by have := HN.out; omega) A8 c8 (gY7.lst C7) gY7.root H8.out.2.2.2.2.1 (Pag.lst_in (by rw [H7.out.2.2.2.2.1.pages]; decide) C7)
      rw [decide_eq_true (show gX6.lst C7 = gY7.lst C7 ∧ gX6.root = gY7.root from ⟨(H7.out.2.2.2.2.2.2.1.lst C7).symm, H7.out.2.2.2.2.2.2.1.root.symm⟩)] at hlike
      have HLIKE := Lib.hid hlike
      have hpx := H8.out.1.blk.cell 4
      have hpy := H8.out.2.1.blk.cell 4
      have hlx := H8.out.1.blk.lt
      have hly := H8.out.2.1.blk.lt
      unfold bothL at hpx hpy
      simp only [List.getElem?_cons_zero, List.getElem?_cons_succ] at hpx hpy
      rw [H8.out.2.2.2.2.2, ← H7.out.2.2.2.2.2.2.2.2] at hpy
      clear hlike
      go_wp2_with fail
      repeat' (first | (refine hZ _ _ ?_; clear hZ) | (refine hZ _ ?_; clear hZ) | (refine hZ ?_; clear hZ) | rw [again_nil] | rw [walk_fin] | ((first | rw [walk_take] | rw [walk_run] | rw [again_cons]); intro Z hZ; simp only [sel, List.getElem?_toArray, List.getElem?_cons_zero, List.getElem?_cons_succ]; go_wp2_with (fail)))
      refine HLIKE.out.mono ?_
      rintro e w9 ⟨Gx9, q9, rfl, f1, f2, hp9, hlk9, ho9, hk9⟩
      have hdj := H8.out.2.2.1
      have hbs := H8.out.2.1.beside H8.out.1 (fun i hi hi2 => hdj i hi2 hi) HNE.out.symm (hk9.mono fun i hi => .inl hi) ho9
      have H9 : Hid (FrI w w9 gx gy fx fy gpx gpy (i + 1)) := by
        have hx9 := H8.out.1.reads hp9 f1 f2 ho9 hk9
        exact ⟨Gx9, Gy8, { gX6 with q := q9 }, { gY7 with q := q8 }, RX', RY', C7, s7, ax6, ay7, x61, x62, y71, y72, hx9.more (by omega), hbs.1.more (by omega), fun i hi hi2 => hbs.2 i hi2 hi, H7.out.2.2.2.1.setQ hlk9, H8.out.2.2.2.1, H7.out.2.2.2.2.2.1, H7.out.2.2.2.2.2.2.1.setQ _ _, f1.trans H7.out.2.2.2.2.2.2.2.1, H8.out.2.2.2.2.2⟩
      clear hdj hbs f1 f2 hp9 hlk9 ho9 hk9 HLIKE H7 H8
      go_wp2_with fail
      repeat' (first | (refine hZ _ _ ?_; clear hZ) | (refine hZ _ ?_; clear hZ) | (refine hZ ?_; clear hZ) | rw [again_nil] | rw [walk_fin] | ((first | rw [walk_take] | rw [walk_run] | rw [again_cons]); intro Z hZ; simp only [sel, List.getElem?_toArray, List.getElem?_cons_zero, List.getElem?_cons_succ]; go_wp2_with (fail)))
      go_wp2_with fail
      go_roundw
      case rel => exact ⟨i + 1, hlt, by go_num, H9.out⟩
      case measure => simp [intOf]; omega
    · have hlti : ¬ (i : Int) < (L.length : Int) := by omega
      go_wp2_with fail
      go_ret
      obtain ⟨Gx, Gy, gX, gY, RX, RY, C, s, ax, ay, v1, v2, v3, v4, hx, -⟩ := HS.out
      exact ⟨rfl, hx.pag.wl.dl.bel⟩
theorem pagerFrames_walk (w : World) (a : Int) (_wa : (Lit.int .i64 a).wf = true) (c : Int) (_wc : (Lit.int .i64 c).wf = true) (v : Value) (hv : ScriptP w v) :
    Calls Tryz.prog 4 #[.int .i64 a, .int .i64 c, v] w fun e w' => e = .returned (.bool true) ∧ Below w.heap.size w w' := by
  obtain ⟨A, d, L, rfl, hr, hfi, hlc, hcm⟩ := hv
  cases hf : fitsP L with
  | false => exact pagerFrames_no w a c A d L hr hf
  | true => exact pagerFrames_fit w a c A d L hr hfi hf
end Go.Proofs.YtcfoihihinijlaaGreat
end

