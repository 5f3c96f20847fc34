/-
  Texts of a proof, one behind the other (each with its own head).
-/
import Derived.Test.YtknfnhmkiooifaaDoorPartDnfbileni
section
/-
  The walk of dowserlaw08.KeyApart: whatever the lists of values, it answers true.
-/
namespace Go.Proofs.YtknfnhmkiooifaaDoor
set_option linter.unusedSimpArgs false
set_option linter.unusedVariables false
open Go.RowKit

theorem cleanS_of {L : List Va} (h : Few L) : Key.CleanS (L.map Key.dclean) := fun v hv => by
  obtain ⟨u, hu, rfl⟩ := List.mem_map.1 hv
  refine ⟨Key.dclean_ok (h.ok u hu), Key.clean_of u, ?_⟩
  have := h.short u hu
  by_cases k3 : u.k = 3
  · rw [Va.dclean3 k3]; exact this
  · rw [(Key.clean_of u).ss]
    · exact Nat.zero_le _
    · have := Key.kind_dclean u
      intro h3
      unfold Key.dclean Key.cleanF at h3
      (repeat' split at h3) <;> simp_all [Key.nul]
theorem va_kind {w : World} {A : Option Addr} {L : List Va} (h : ERow eVa w A L) {j : Nat} (hj : j < L.length) : ∃ b o, A = some ⟨b, o, none⟩ ∧ b < w.heap.size ∧ w.cell? ⟨b, o + j * 4, none⟩ = some (.int .i64 L[j].k) := by
  obtain ⟨b, o, e, hb, hc⟩ := h.at_ hj
  exact ⟨b, o, e, hb, hc 0 _ rfl⟩
set_option maxRecDepth 20000 in
set_option maxHeartbeats 8000000 in
theorem keyApart_walk (w : World) (v0 : Value) (h0 : ValsW w v0) (v1 : Value) (h1 : ValsW w v1) : Calls Tryd.prog 6 #[v0, v1] w fun e w' => e = .returned (.bool true) ∧ Below w.heap.size w w' := by
  obtain ⟨A, c, L, rfl, hra, hia, hca, hma⟩ := h0
  obtain ⟨B, d, M, rfl, hrb, hib, hcb, hmb⟩ := h1
  have HA := Lib.hid hra
  have HB := Lib.hid hrb
  have HIA := Lib.hid hia
  have HIB := Lib.hid hib
  have HCA := Lib.hid (And.intro hca hma)
  have HCB := Lib.hid (And.intro hcb hmb)
  clear hra hrb hia hib hca hma hcb hmb
  go_enter Tryd.func6, Tryd.ntmps6
  go_wp2_with fail
  refine (klives_any _).mono ?_
  rintro e w1 ⟨rfl, hb1⟩
  have H1 := Lib.hid hb1
  clear hb1
  go_wp2_with fail
  refine (short_any _ A c L (HA.out.below H1.out) HIA.out HCA.out.1 HCA.out.2).mono ?_
  rintro e w2 ⟨rfl, hb2⟩
  have H2 := Lib.hid (H1.out.then hb2)
  clear hb2 H1
  cases hs : shortB L with
  | false =>
    go_wp2_with fail
    refine (klives_any _).mono ?_
    rintro e w3 ⟨rfl, hb3⟩
    go_wp2_with fail
    go_ret
    exact ⟨rfl, H2.out.then hb3⟩
  | true =>
  have HFA := Lib.hid (few_of hs HIA.out)
  clear hs
  go_wp2_with fail
  refine (short_any _ B d M (HB.out.below H2.out) HIB.out HCB.out.1 HCB.out.2).mono ?_
  rintro e w3 ⟨rfl, hb3⟩
  have H3 := Lib.hid (H2.out.then hb3)
  clear hb3 H2
  cases hs : shortB M with
  | false =>
    go_wp2_with fail
    refine (klives_any _).mono ?_
    rintro e w4 ⟨rfl, hb4⟩
    go_wp2_with fail
    go_ret
    exact ⟨rfl, H3.out.then hb4⟩
  | true =>
  have HFB := Lib.hid (few_of hs HIB.out)
  clear hs HIA HIB HCA HCB
  have hL20 := HFA.out.2.1
  have hM20 := HFB.out.2.1
  go_wp2_with fail
  refine (lclean_any _ A c L (HA.out.below H3.out) HFA.out.1).mono ?_
  rintro e w4 ⟨A4, c4, rfl, ho4, hb4⟩
  have H4 := Lib.hid (And.intro ho4.row (H3.out.then hb4))
  clear ho4 hb4 H3
  have HX0 : Hid ((L.map Key.dclean).length = L.length) := List.length_map ..
  have HY0 : Hid ((M.map Key.dclean).length = M.length) := List.length_map ..
  have HCX := Lib.hid (And.intro (cleanL_of HFA.out.1) (cleanS_of HFA.out.1))
  have HCY := Lib.hid (And.intro (cleanL_of HFB.out.1) (cleanS_of HFB.out.1))
  rw [HX0.out]
  go_wp2_with fail
  refine (lclean_any _ B d M (HB.out.below H4.out.2) HFB.out.1).mono ?_
  rintro e w5 ⟨A5, c5, rfl, ho5, hb5⟩
  have H5 := Lib.hid (And.intro (H4.out.1.below hb5) (And.intro ho5.row (H4.out.2.then hb5)))
  clear ho5 hb5 H4
  rw [HY0.out]
  have HRE := Lib.hid (Key.row_exact L M (by omega) (by omega) HCX.out.2 HCY.out.2)
  have HKE : Hid (L.length = M.length → (∀ p ∈ (L.map Key.dclean).zip (M.map Key.dclean), p.1.k = p.2.k) → (Key.key L == Key.key M) = exactB (L.map Key.dclean) (M.map Key.dclean)) := fun h1 h2 => Key.key_exact L M h1 HCX.out.2 HCY.out.2 h2
  have HEX : Hid (∀ wq, Below w5.heap.size w5 wq → Calls Tryd.prog 21 #[.slice A4 L.length c4, .slice A5 M.length c5] wq fun e w' => e = .returned (.bool (exactB (L.map Key.dclean) (M.map Key.dclean))) ∧ Below wq.heap.size wq w') := fun wq hq => by
    have := lexact_any wq A4 A5 c4 c5 _ _ (H5.out.1.below hq) (H5.out.2.1.below hq) HCX.out.1 HCY.out.1
    rw [HX0.out, HY0.out] at this
    exact this
  have HKX : Hid (∀ wq, Below w.heap.size w wq → Calls Tryd.prog 13 #[.slice A L.length c] wq (RetB wq (Key.key L)) ∧ Calls Tryd.prog 13 #[.slice B M.length d] wq (RetB wq (Key.key M)) ∧ Calls Tryd.prog 20 #[.slice A L.length c] wq (RetB wq (Key.row L)) ∧ Calls Tryd.prog 20 #[.slice B M.length d] wq (RetB wq (Key.row M))) := fun wq h =>
    ⟨key_any wq A c L (HA.out.below h) HFA.out.1, key_any wq B d M (HB.out.below h) HFB.out.1, row_any wq A c L (HA.out.below h) HFA.out.1, row_any wq B d M (HB.out.below h) HFB.out.1⟩
  generalize hEX : exactB (L.map Key.dclean) (M.map Key.dclean) = ex at HRE HKE HEX
  clear hEX
  have keq := xstr_eq
  have geq := xeqg
  have hd5 : Below w.heap.size w w5.drew := H5.out.2.2.trans ((Below.refl w5.heap.size w5).drewR.mono H5.out.2.2.size)
  have HD5 := Lib.hid hd5
  clear hd5
  go_upto_region 4 with fail
  refine wp_region_plan (.take 0 (.take 3 (.take 7 (.take 8 (.run 1 [3, 7, 8] (.take 2 (.run 4 [7, 8, 2] (.take 5 (.take 6 (.run 9 [2, 5, 6] (.take 10 .fin))))))))))) (by kernel_rfl) (by kernel_rfl) (by kernel_rfl) (by kernel_rfl) ?_
  repeat' (first | (refine hZ _ _ ?_; clear hZ) | (refine hZ _ ?_; clear hZ) | (refine hZ ?_; clear hZ) | rw [again_nil] | rw [walk_fin] | ((first | rw [walk_take] | rw [walk_run] | rw [again_cons]); intro Z hZ; simp only [sel, List.getElem?_toArray, List.getElem?_cons_zero, List.getElem?_cons_succ]; go_wp2_with (fail)))
  refine (HKX.out _ HD5.out).2.2.1.mono ?_
  rintro e w6 ⟨A6, c6, rfl, ho6, hb6⟩
  have H6 := Lib.hid (And.intro ho6.row (And.intro (HD5.out.then hb6) ((Below.refl w5.heap.size w5).drewR.then hb6)))
  have hs6 : ∀ c', (convert 30 9 (.slice A6 (Key.row L).length c')).run Tryd.prog w6 = .ok (txt (Key.row L)) w6 := fun c' => run_string_bytes w6 c' H6.out.1
  clear ho6 hb6
  go_wp2_with fail
  repeat' (first | (refine hZ _ _ ?_; clear hZ) | (refine hZ _ ?_; clear hZ) | (refine hZ ?_; clear hZ) | rw [again_nil] | rw [walk_fin] | ((first | rw [walk_take] | rw [walk_run] | rw [again_cons]); intro Z hZ; simp only [sel, List.getElem?_toArray, List.getElem?_cons_zero, List.getElem?_cons_succ]; go_wp2_with (fail)))
  refine (HKX.out _ H6.out.2.1).2.2.2.mono ?_
  rintro e w7 ⟨A7, c7, rfl, ho7, hb7⟩
  have H7 := Lib.hid (And.intro (H6.out.1.below hb7) (And.intro ho7.row (And.intro (H6.out.2.1.then hb7) (H6.out.2.2.then hb7))))
  have hs7 : ∀ c', (convert 30 9 (.slice A6 (Key.row L).length c')).run Tryd.prog w7 = .ok (txt (Key.row L)) w7 := fun c' => run_string_bytes w7 c' H7.out.1
  have hs8 : ∀ c', (convert 30 9 (.slice A7 (Key.row M).length c')).run Tryd.prog w7 = .ok (txt (Key.row M)) w7 := fun c' => run_string_bytes w7 c' H7.out.2.1
  clear ho7 hb7 hs6
  go_wp2_with fail
  repeat' (first | (refine hZ _ _ ?_; clear hZ) | (refine hZ _ ?_; clear hZ) | (refine hZ ?_; clear hZ) | rw [again_nil] | rw [walk_fin] | ((first | rw [walk_take] | rw [walk_run] | rw [again_cons]); intro Z hZ; simp only [sel, List.getElem?_toArray, List.getElem?_cons_zero, List.getElem?_cons_succ]; go_wp2_with (fail)))
  refine (HEX.out _ H7.out.2.2.2).mono ?_
  rintro e w8 ⟨rfl, hb8⟩
  have H8 := Lib.hid (And.intro (H7.out.1.below hb8) (And.intro (H7.out.2.1.below hb8) (And.intro (H7.out.2.2.1.then hb8) (H7.out.2.2.2.then hb8))))
  have hs9 : ∀ c', (convert 30 9 (.slice A6 (Key.row L).length c')).run Tryd.prog w8 = .ok (txt (Key.row L)) w8 := fun c' => run_string_bytes w8 c' H8.out.1
  have hs10 : ∀ c', (convert 30 9 (.slice A7 (Key.row M).length c')).run Tryd.prog w8 = .ok (txt (Key.row M)) w8 := fun c' => run_string_bytes w8 c' H8.out.2.1
  have hre := HRE.out
  have hxx : (ex != ex) = false := by simp
  clear hb8 hs7 hs8
  go_wp2_with fail
  repeat' (first | (refine hZ _ _ ?_; clear hZ) | (refine hZ _ ?_; clear hZ) | (refine hZ ?_; clear hZ) | rw [again_nil] | rw [walk_fin] | ((first | rw [walk_take] | rw [walk_run] | rw [again_cons]); intro Z hZ; simp only [sel, List.getElem?_toArray, List.getElem?_cons_zero, List.getElem?_cons_succ]; go_wp2_with (fail)))
  have HXR := Lib.hid (And.intro ((H5.out.1.below H8.out.2.2.2)) (H5.out.2.1.below H8.out.2.2.2))
  clear hs9 hs10 hre hxx HRE H5 H6 H7
  by_cases hlm : L.length = M.length
  · have HLM := Lib.hid hlm
    rw [hlm]
    clear hlm
    go_wp2_with fail
    go_loopw [43] (fun iv wr => ∃ k : Nat, k ≤ M.length ∧ iv = .int .i64 (k : Int) ∧ Hid ((∀ i (h1 : i < (L.map Key.dclean).length) (h2 : i < (M.map Key.dclean).length), i < k → (L.map Key.dclean)[i].k = (M.map Key.dclean)[i].k) ∧ Below w8.heap.size w8 wr)) (fun iv _ => M.length - (intOf iv).toNat)
    case atStart => exact ⟨0, Nat.zero_le _, rfl, by intro i _ _ h; omega, Below.refl _ _⟩
    case round =>
      obtain ⟨k, hk, rfl, HJ⟩ := hrel
      by_cases hlt : k < M.length
      · have hii : (k : Int) < (M.length : Int) := by omega
        have hkx : k < (L.map Key.dclean).length := by rw [HX0.out, HLM.out]; exact hlt
        have hky : k < (M.map Key.dclean).length := by rw [HY0.out]; exact hlt
        obtain ⟨ba, oa, rfl, hba, hca⟩ := va_kind (HXR.out.1.below (HJ.out.2.trans ((Below.refl wr.heap.size wr).drewR.mono HJ.out.2.size))) hkx
        obtain ⟨bb, ob, rfl, hbb, hcb⟩ := va_kind (HXR.out.2.below (HJ.out.2.trans ((Below.refl wr.heap.size wr).drewR.mono HJ.out.2.size))) hky
        have HKN := Lib.hid (fun (h : (L.map Key.dclean)[k].k = (M.map Key.dclean)[k].k) => h)
        go_upto_region 11 with fail
        by_cases he : (L.map Key.dclean)[k].k = (M.map Key.dclean)[k].k
        · have HE := Lib.hid he
          rw [he] at hca
          clear he HKN
          generalize (M.map Key.dclean)[k].k = ky at hca hcb
          refine wp_region_plan (.take 0 (.take 1 (.take 2 (.take 3 (.take 4 (.take 5 (.take 6 (.take 7 (.take 8 (.take 9 (.take 10 .fin))))))))))) (by kernel_rfl) (by kernel_rfl) (by kernel_rfl) (by kernel_rfl) ?_
          repeat' (first | (refine hZ _ _ ?_; clear hZ) | (refine hZ _ ?_; clear hZ) | (refine hZ ?_; clear hZ) | rw [again_nil] | rw [walk_fin] | ((first | rw [walk_take] | rw [walk_run] | rw [again_cons]); intro Z hZ; simp only [sel, List.getElem?_toArray, List.getElem?_cons_zero, List.getElem?_cons_succ]; go_wp2_with (fail)))
          clear hca hcb
          go_wp2_with fail
          go_roundw
          case rel =>
            refine ⟨k + 1, by omega, by go_num, ?_, HJ.out.2.drewR⟩
            intro i h1 h2 h3
            by_cases hik : i < k
            · exact HJ.out.1 i h1 h2 hik
            · obtain rfl : i = k := by omega
              exact HE.out
          case measure => simp [intOf]; omega
        · clear HKN
          generalize (M.map Key.dclean)[k].k = ky at hca hcb he
          generalize (L.map Key.dclean)[k].k = kx at hca he
          have he1 : (kx != ky) = true := by simp [he]
          have he2 : (kx == ky) = false := by simp [he]
          refine wp_region_plan (.take 0 (.take 1 (.take 2 (.take 3 (.take 4 (.take 5 (.take 6 (.take 7 (.take 8 (.take 9 (.take 10 .fin))))))))))) (by kernel_rfl) (by kernel_rfl) (by kernel_rfl) (by kernel_rfl) ?_
          repeat' (first | (refine hZ _ _ ?_; clear hZ) | (refine hZ _ ?_; clear hZ) | (refine hZ ?_; clear hZ) | rw [again_nil] | rw [walk_fin] | ((first | rw [walk_take] | rw [walk_run] | rw [again_cons]); intro Z hZ; simp only [sel, List.getElem?_toArray, List.getElem?_cons_zero, List.getElem?_cons_succ]; go_wp2_with (fail)))
          clear hca hcb
          go_wp2_with fail
          go_ret
          exact ⟨rfl, (H8.out.2.2.1.then HJ.out.2).drewR⟩
      · obtain rfl : k = M.length := by omega
        have HQ := Lib.hid (HKE.out HLM.out fun p hp => by
          obtain ⟨i, hi, rfl⟩ := List.getElem_of_mem hp
          have h1 : i < (L.map Key.dclean).length := by simp at hi ⊢; omega
          have h2 : i < (M.map Key.dclean).length := by simp at hi ⊢; omega
          have := HJ.out.1 i h1 h2 (by simpa using h2)
          simpa using this)
        have HWR := Lib.hid (And.intro (H8.out.2.2.1.then HJ.out.2) (H8.out.2.2.2.then HJ.out.2))
        have HD := Lib.hid (HWR.out.1.trans ((Below.refl wr.heap.size wr).drewR.mono HWR.out.1.size))
        go_upto_region 14 with fail
        refine wp_region_plan (.take 0 (.take 3 (.take 7 (.take 8 (.run 1 [3, 7, 8] (.take 2 (.run 4 [7, 8, 2] (.take 5 (.take 6 (.run 9 [2, 5, 6] (.take 10 (.take 11 .fin)))))))))))) (by kernel_rfl) (by kernel_rfl) (by kernel_rfl) (by kernel_rfl) ?_
        repeat' (first | (refine hZ _ _ ?_; clear hZ) | (refine hZ _ ?_; clear hZ) | (refine hZ ?_; clear hZ) | rw [again_nil] | rw [walk_fin] | ((first | rw [walk_take] | rw [walk_run] | rw [again_cons]); intro Z hZ; simp only [sel, List.getElem?_toArray, List.getElem?_cons_zero, List.getElem?_cons_succ]; go_wp2_with (fail)))
        have hk1 := (HKX.out _ HD.out).1
        rw [HLM.out] at hk1
        refine hk1.mono ?_
        rintro e v6 ⟨A6, c6, rfl, ho6, hb6⟩
        have G6 := Lib.hid (And.intro ho6.row (And.intro (HD.out.then hb6) (HWR.out.2.then ((Below.refl wr.heap.size wr).drewR.then hb6))))
        have hs6 : ∀ c', (convert 30 9 (.slice A6 (Key.key L).length c')).run Tryd.prog v6 = .ok (txt (Key.key L)) v6 := fun c' => run_string_bytes v6 c' G6.out.1
        clear ho6 hb6 hk1
        go_wp2_with fail
        repeat' (first | (refine hZ _ _ ?_; clear hZ) | (refine hZ _ ?_; clear hZ) | (refine hZ ?_; clear hZ) | rw [again_nil] | rw [walk_fin] | ((first | rw [walk_take] | rw [walk_run] | rw [again_cons]); intro Z hZ; simp only [sel, List.getElem?_toArray, List.getElem?_cons_zero, List.getElem?_cons_succ]; go_wp2_with (fail)))
        refine (HKX.out _ G6.out.2.1).2.1.mono ?_
        rintro e v7 ⟨A7, c7, rfl, ho7, hb7⟩
        have G7 := Lib.hid (And.intro (G6.out.1.below hb7) (And.intro ho7.row (And.intro (G6.out.2.1.then hb7) (G6.out.2.2.then hb7))))
        have hs7 : ∀ c', (convert 30 9 (.slice A6 (Key.key L).length c')).run Tryd.prog v7 = .ok (txt (Key.key L)) v7 := fun c' => run_string_bytes v7 c' G7.out.1
        have hs8 : ∀ c', (convert 30 9 (.slice A7 (Key.key M).length c')).run Tryd.prog v7 = .ok (txt (Key.key M)) v7 := fun c' => run_string_bytes v7 c' G7.out.2.1
        clear ho7 hb7 hs6
        go_wp2_with fail
        repeat' (first | (refine hZ _ _ ?_; clear hZ) | (refine hZ _ ?_; clear hZ) | (refine hZ ?_; clear hZ) | rw [again_nil] | rw [walk_fin] | ((first | rw [walk_take] | rw [walk_run] | rw [again_cons]); intro Z hZ; simp only [sel, List.getElem?_toArray, List.getElem?_cons_zero, List.getElem?_cons_succ]; go_wp2_with (fail)))
        have hex := HEX.out _ G7.out.2.2.2
        rw [HLM.out] at hex
        refine hex.mono ?_
        rintro e v8 ⟨rfl, hb8⟩
        have G8 := Lib.hid (And.intro (G7.out.1.below hb8) (And.intro (G7.out.2.1.below hb8) (G7.out.2.2.1.then hb8)))
        have hs9 : ∀ c', (convert 30 9 (.slice A6 (Key.key L).length c')).run Tryd.prog v8 = .ok (txt (Key.key L)) v8 := fun c' => run_string_bytes v8 c' G8.out.1
        have hs10 : ∀ c', (convert 30 9 (.slice A7 (Key.key M).length c')).run Tryd.prog v8 = .ok (txt (Key.key M)) v8 := fun c' => run_string_bytes v8 c' G8.out.2.1
        have hke := HQ.out
        have hxx : (ex == ex) = true := by simp
        clear hb8 hs7 hs8 hex
        go_wp2_with fail
        repeat' (first | (refine hZ _ _ ?_; clear hZ) | (refine hZ _ ?_; clear hZ) | (refine hZ ?_; clear hZ) | rw [again_nil] | rw [walk_fin] | ((first | rw [walk_take] | rw [walk_run] | rw [again_cons]); intro Z hZ; simp only [sel, List.getElem?_toArray, List.getElem?_cons_zero, List.getElem?_cons_succ]; go_wp2_with (fail)))
        clear hs9 hs10 hke
        go_wp2_with fail
        go_ret
        exact ⟨rfl, G8.out.2.2⟩
  · have hlm2 : ¬ ((L.length : Nat) : Int) = (M.length : Int) := by omega
    clear hlm
    go_wp2_with fail
    go_ret
    exact ⟨rfl, H8.out.2.2.1⟩
end Go.Proofs.YtknfnhmkiooifaaDoor
end

