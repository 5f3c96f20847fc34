/-
  The walk of WireOwn.
-/
import Derived.Test.YtgdlfihiheeniaaWireLives
import Derived.Test.YtgdlfihiheeniaaRegionSt
namespace Go.Proofs.Ytgdlfihiheeniaa
open Go.RowKit

theorem nat_of_u64 {n : Int} (wf : (Lit.int .u64 n).wf = true) : ∃ m : Nat, n = (m : Int) ∧ m < two64 := by
  simp [Lit.wf, IntKind.min, IntKind.max, IntKind.signed, IntKind.bits] at wf
  rw [two64_eq]
  exact ⟨n.toNat, by omega, by omega⟩
theorem txt_of2 (s : ByteArray) : ∃ l : List UInt8, Value.string s = txt l ∧ s.size = l.length := ⟨s.data.toList, rfl, rfl⟩
theorem ROwn.set {B : Nat} {w : World} {g : Nat} {r : Wire.RS} (h : ROwn B w g r) {p : Addr} (hp : p.block < B) (u : Value) : ROwn B (w.setCell p u) g r :=
  h.keep (by simp) fun k hk _ => heap_setCell_other w p k u (by omega)

set_option maxRecDepth 20000 in
set_option maxHeartbeats 1000000 in
theorem wireOwn_walk (w : World) (s : ByteArray) (_hs : s.size ≤ maxLen) (n : Int) (wf : (Lit.int .u64 n).wf = true) :
    Calls Try.prog 11 #[.string s, .int .u64 n] w fun e w' => e = .returned (.bool true) ∧ Below w.heap.size w w' := by
  obtain ⟨l, hsl, hsz⟩ := txt_of2 s
  rw [hsl]
  clear hsl hsz
  obtain ⟨m, rfl, hm⟩ := nat_of_u64 wf
  have HM := Lib.hid hm
  clear wf hm
  unfold txt
  go_enter Try.func11, Try.ntmps11
  go_wp2_with fail
  refine (wlives_any w).mono ?_
  rintro e w1 ⟨rfl, hb1⟩
  by_cases hl : 1000 < l.length
  · go_wp2_with fail
    refine (wlives_any w1).mono ?_
    rintro e w2 ⟨rfl, hb2⟩
    go_wp2_with fail
    go_ret
    exact ⟨rfl, hb1.trans (hb2.mono hb1.size)⟩
  · go_wp2_with fail
    refine (wnum_any w1 m HM.out).mono ?_
    rintro e w2 ⟨A2, c2, rfl, ho2, hb2⟩
    go_wp2_with fail
    refine (wtext_any w2 l (by omega)).mono ?_
    rintro e w3 ⟨A3, c3, rfl, ho3, hb3⟩
    have h10 := Wire.num_length m
    have hpt : (Wire.text l).length ≤ l.length + 10 := by
      have h := Wire.num_length l.length
      unfold Wire.text
      rw [List.length_append]
      omega
    have HT := Lib.hid (Wire.take_num m HM.out (Wire.text l))
    have HTT : Hid (Wire.takeText ⟨Wire.text l, 0⟩ (l.length : Int) = (⟨[], 0⟩, l)) := by
      show _ = _
      have e : Wire.text l = Wire.text l ++ [] := (List.append_nil _).symm
      rw [e]
      exact Wire.takeText_text l [] _ (by omega) (by omega)
    have HRF := Lib.hid (fun w => refnum_all w m HM.out)
    have HNF := Lib.hid (fun w => wnum_any w m HM.out)
    generalize Wire.num m = p at ho2 h10 HT HRF HNF
    generalize Wire.text l = q at ho3 hpt HT HTT
    have hs1 := hb1.size
    have hs2 := hb2.size
    have hs3 := hb3.size
    have ho23 := ho2.below hb3
    have hB3 : Below w.heap.size w w3 := (hb1.trans (hb2.mono hs1)).trans (hb3.mono (Nat.le_trans hs1 hs2))
    have hw13 := Nat.le_trans hs2 hs3
    have hr3 := ho3.row
    go_wp2_with (at_builtin; refine wpList_append_bytes rfl (.tmp 19) (.tmp 21) rfl _ rfl ho23 rfl _ rfl hr3 rfl (by omega) hw13 ?_; intro A4 c4 w4 ho4 hb4 _ _)
    have hB4 : Below w.heap.size w w4 := hB3.trans (hb4.mono hs1)
    have ho4' := ho4.mono hs1
    clear ho2 hb2 ho3 hb3 ho23 hr3 ho4 hb4 hB3 hb1 hs2 hs3 hw13
    have hr4 := ho4'.row
    rw [← List.length_append]
    have hL : (p ++ q).length ≤ 1020 ∧ 0 < (p ++ q).length := by rw [List.length_append]; omega
    refine (wread_any w4 A4 c4 (p ++ q) hr4 (by omega)).mono ?_
    rintro e w5 ⟨g, rfl, ho5, hb5⟩
    obtain ⟨g4, hA, hg1, hg2, _, _⟩ := ho4'.form.resolve_left (by rintro ⟨_, _, h⟩; rw [h] at hL; simp at hL)
    subst hA
    have hgw : w.heap.size ≤ g := Nat.le_trans hB4.size ho5.ge
    have hB5 : Below w.heap.size w w5 := hB4.trans (hb5.mono hB4.size)
    have hob5 := ho4'.below hb5
    clear ho4' hr4
    obtain ⟨N, hN⟩ : ∃ N, (p ++ q).length = N := ⟨_, rfl⟩
    have HN := Lib.hid hN
    rw [hN] at hL ⊢
    clear hN
    go_wp2_with fail
    have HB5 := Lib.hid hB5
    have HO5 := Lib.hid ho5
    have HOB5 := Lib.hid hob5
    clear hB5 ho5 hob5 hb5 hB4
    go_loopw [27] (fun iv wr => ∃ (i : Nat) (L : List UInt8), i ≤ N ∧ iv = .int .i64 i ∧ Hid (L.length = N) ∧ BOwn wr w.heap.size (some ⟨g4, 0, none⟩) c4 L ∧ Below w.heap.size w wr ∧ ROwn w4.heap.size wr g ⟨p ++ q, 0⟩) (fun iv _ => N - (intOf iv).toNat)
    case atStart => exact ⟨0, _, by omega, rfl, HN, HOB5.out, HB5.out, HO5.out⟩
    case round =>
      obtain ⟨i, L, hi, rfl, HLL, hown, hB, hro⟩ := hrel
      clear HB5 HOB5 HO5
      by_cases hlt : i < N
      · have hiL : i < L.length := by rw [HLL.out]; exact hlt
        have hcell := hown.cell hiL
        have hfree := hown.free i
        have hcl := L[i].toNat_lt
        have hx := u8_xor_nat L[i].toNat 255 hcl (by omega)
        have HX := Lib.hid hx
        generalize hcc : L[i].toNat = cc at hcell hcl HX
        have HCC := Lib.hid hcc
        clear hcc hx
        go_wp2_with fail
        go_roundw
        case rel =>
          refine ⟨i + 1, L.set i (L[i] ^^^ 255), by omega, by go_num, by show _ = _; rw [List.length_set]; exact HLL.out, ?_, hB.setCell (p := ⟨g4, i, none⟩) hg1 _, hro.set (p := ⟨g4, i, none⟩) hg2 _⟩
          refine hown.store i _ _ ?_
          have h := HX.out
          have e : (255 : Int) = ((255 : Nat) : Int) := rfl
          rw [e, h, ← HCC.out, bv, UInt8.toNat_xor]
          rfl
        case measure => simp [intOf]; omega
      · have hrd := hro.rd
        clear hown hro
        go_wp2_with fail
        refine (HNF.out wr).mono ?_
        rintro e w7 ⟨A7, c7, rfl, ho7, hb7⟩
        have hrd7 := hrd.below hb7
        have hzw := hB.size
        have hB7 := hB.trans (hb7.mono hzw)
        obtain ⟨g7, hA, hg3, hg4, _, _⟩ := ho7.form.resolve_left (by rintro ⟨_, _, h⟩; rw [h] at h10; simp at h10)
        subst hA
        obtain ⟨K, hK⟩ : ∃ K, p.length = K := ⟨_, rfl⟩
        have HK := Lib.hid hK
        rw [hK] at h10 ⊢
        clear hK
        go_wp2_with fail
        go_loopw [41] (fun iv wx => ∃ (i : Nat) (L : List UInt8), i ≤ K ∧ iv = .int .i64 i ∧ Hid (L.length = K) ∧ BOwn wx wr.heap.size (some ⟨g7, 0, none⟩) c7 L ∧ Below w.heap.size w wx ∧ Below wr.heap.size wr wx) (fun iv _ => K - (intOf iv).toNat)
        case atStart => exact ⟨0, _, by omega, rfl, HK, ho7, hB7, hb7⟩
        case round =>
          obtain ⟨i, L, hi, rfl, HLL, hown, hBx, hbx⟩ := hrel
          by_cases hlt : i < K
          · have hiL : i < L.length := by rw [HLL.out]; exact hlt
            have hcell := hown.cell hiL
            have hfree := hown.free i
            go_wp2_with fail
            go_roundw
            case rel =>
              exact ⟨i + 1, L.set i 0, by omega, by go_num, by show _ = _; rw [List.length_set]; exact HLL.out, hown.store i _ _ rfl, hBx.setCell (p := ⟨g7, i, none⟩) (by show w.heap.size ≤ g7; omega) _, hbx.setCell (p := ⟨g7, i, none⟩) hg3 _⟩
            case measure => simp [intOf]; omega
          · have hrdx := hrd.below hbx
            have HBX := Lib.hid hBx
            have HRD := Lib.hid hrdx
            clear hrd hrdx hBx hbx hown hB hB7 hrd7 hb7 ho7
            go_wp2_with fail
            apply wp_region_st (fun D w' => Below w.heap.size w w' ∧ RD w' g (if D 8 then ⟨[], 0⟩ else if D 1 then ⟨q, 0⟩ else ⟨p ++ q, 0⟩)) (fun a b => ∀ A l, BRow a A l → BRow b A l) (fun i x w => match i with
                | 0 => x = .pointer (some ⟨g, 0, none⟩)
                | 1 => x = .int .u64 m
                | 2 => x = .int .u64 m
                | 3 => x = .bool true
                | 4 => x = .bool true
                | 5 => x = .pointer (some ⟨g, 0, none⟩)
                | 6 => x = txt l
                | 7 => x = .int .i64 (l.length : Nat)
                | 8 => x = txt l
                | 9 => x = txt l
                | 10 => x = .bool true
                | 11 => x = .bool true
                | 12 => x = .bool true
                | 13 => x = .int .u64 m
                | 14 => ∃ A c, x = .slice A p.length c ∧ BRow w A p
                | 15 => x = txt p
                | 16 => x = .int .u64 m
                | 17 => x = txt p
                | 18 => x = .bool true
                | 19 => x = .bool true
                | 20 => x = .bool true
                | _ => True)
            case hG => (intro v; simp only [regFrame, List.zipIdx_cons, List.zipIdx_nil, List.foldl_cons, List.foldl_nil, Act.put, List.setIfInBounds_toArray, List.set_cons_zero, List.set_cons_succ, Nat.reduceAdd]; rfl)
            case hm => kernel_rfl
            case honce => rfl
            case hlow => kernel_rfl
            case hR =>
              intro i x w1 w2 hg h
              split at h <;> first | exact h | (obtain ⟨A, c, rfl, h⟩ := h; exact ⟨A, c, rfl, hg _ _ h⟩)
            case h0 => exact ⟨HBX.out.drew, HRD.out.drew⟩
            case hstep =>
              refine ⟨?_, ?_, ?_, ?_, ?_, ?_, ?_, ?_, ?_, ?_, ?_, ?_, ?_, ?_, ?_, ?_, ?_, ?_, ?_, ?_, ?_, trivial⟩ <;> (intro D v w1 hI hf hd hc; simp only [Deps, Region.binds, ↓reduceIte] at hd)
              · (first | exact opDoes_move _ rfl rfl ⟨(by first | trivial | exact fun _ _ h => h | exact Below.refl _ _), rfl, by (first | exact hI | simpa using hI)⟩ | exact opDoes_gmove _ (wanted_guard rfl rfl rfl (by simp only [hd]; rfl)) rfl ⟨(by first | trivial | exact fun _ _ h => h | exact Below.refl _ _), rfl, by (first | exact hI | simpa using hI)⟩ | (refine opDoes_move _ rfl rfl ⟨(by first | trivial | exact fun _ _ h => h | exact Below.refl _ _), ?_, by (first | exact hI | simpa using hI)⟩; go_simp; done) | (refine opDoes_gmove _ (wanted_guard rfl rfl rfl (by simp only [hd]; rfl)) rfl ⟨(by first | trivial | exact fun _ _ h => h | exact Below.refl _ _), ?_, by (first | exact hI | simpa using hI)⟩; go_simp; done) | (refine opDoes_assign _ rfl rfl ⟨(by first | trivial | exact fun _ _ h => h | exact Below.refl _ _), ?_, by (first | exact hI | simpa using hI)⟩; go_simp; done))
              · refine opDoes_call _ _ _ #[.pointer (some ⟨g, 0, none⟩)] rfl rfl (by go_simp) (Try.call26 _ _) ?_
                have h8 : D 8 = false := by
                  cases h : D 8
                  · rfl
                  · have := done_of hc 20 1 h (by kernel_rfl)
                    rw [hf] at this
                    cases this
                rw [h8, hf] at hI
                have hn := rnum_any w1 g _ hI.2
                simp only [Bool.false_eq_true, if_false] at hn
                rw [HT.out] at hn
                exact hn.mono fun e w2 hx => ⟨_, hx.1, fun _ _ h => did_row hI.2 h hx, rfl, by
                  simpa [h8] using (⟨hx.below hI.1 hI.1.size hgw, hx.2.1⟩ : _ ∧ _)⟩
              · (first | exact opDoes_move _ rfl rfl ⟨(by first | trivial | exact fun _ _ h => h | exact Below.refl _ _), rfl, by (first | exact hI | simpa using hI)⟩ | exact opDoes_gmove _ (wanted_guard rfl rfl rfl (by simp only [hd]; rfl)) rfl ⟨(by first | trivial | exact fun _ _ h => h | exact Below.refl _ _), rfl, by (first | exact hI | simpa using hI)⟩ | (refine opDoes_move _ rfl rfl ⟨(by first | trivial | exact fun _ _ h => h | exact Below.refl _ _), ?_, by (first | exact hI | simpa using hI)⟩; go_simp; done) | (refine opDoes_gmove _ (wanted_guard rfl rfl rfl (by simp only [hd]; rfl)) rfl ⟨(by first | trivial | exact fun _ _ h => h | exact Below.refl _ _), ?_, by (first | exact hI | simpa using hI)⟩; go_simp; done) | (refine opDoes_assign _ rfl rfl ⟨(by first | trivial | exact fun _ _ h => h | exact Below.refl _ _), ?_, by (first | exact hI | simpa using hI)⟩; go_simp; done))
              · (first | (refine opDoes_run (x := (.bool true)) rfl ?_ ⟨(by first | trivial | exact fun _ _ h => h | exact Below.refl _ _), rfl, by (first | exact hI | simpa using hI)⟩; go_simp; done) | (refine opDoes_grun (x := (.bool true)) (wanted_guard rfl rfl rfl (by simp only [hd]; rfl)) ?_ ⟨(by first | trivial | exact fun _ _ h => h | exact Below.refl _ _), rfl, by (first | exact hI | simpa using hI)⟩; go_simp; done))
              · (first | exact opDoes_move _ rfl rfl ⟨(by first | trivial | exact fun _ _ h => h | exact Below.refl _ _), rfl, by (first | exact hI | simpa using hI)⟩ | exact opDoes_gmove _ (wanted_guard rfl rfl rfl (by simp only [hd]; rfl)) rfl ⟨(by first | trivial | exact fun _ _ h => h | exact Below.refl _ _), rfl, by (first | exact hI | simpa using hI)⟩ | (refine opDoes_move _ rfl rfl ⟨(by first | trivial | exact fun _ _ h => h | exact Below.refl _ _), ?_, by (first | exact hI | simpa using hI)⟩; go_simp; done) | (refine opDoes_gmove _ (wanted_guard rfl rfl rfl (by simp only [hd]; rfl)) rfl ⟨(by first | trivial | exact fun _ _ h => h | exact Below.refl _ _), ?_, by (first | exact hI | simpa using hI)⟩; go_simp; done) | (refine opDoes_assign _ rfl rfl ⟨(by first | trivial | exact fun _ _ h => h | exact Below.refl _ _), ?_, by (first | exact hI | simpa using hI)⟩; go_simp; done))
              · (first | exact opDoes_move _ rfl rfl ⟨(by first | trivial | exact fun _ _ h => h | exact Below.refl _ _), rfl, by (first | exact hI | simpa using hI)⟩ | exact opDoes_gmove _ (wanted_guard rfl rfl rfl (by simp only [hd]; rfl)) rfl ⟨(by first | trivial | exact fun _ _ h => h | exact Below.refl _ _), rfl, by (first | exact hI | simpa using hI)⟩ | (refine opDoes_move _ rfl rfl ⟨(by first | trivial | exact fun _ _ h => h | exact Below.refl _ _), ?_, by (first | exact hI | simpa using hI)⟩; go_simp; done) | (refine opDoes_gmove _ (wanted_guard rfl rfl rfl (by simp only [hd]; rfl)) rfl ⟨(by first | trivial | exact fun _ _ h => h | exact Below.refl _ _), ?_, by (first | exact hI | simpa using hI)⟩; go_simp; done) | (refine opDoes_assign _ rfl rfl ⟨(by first | trivial | exact fun _ _ h => h | exact Below.refl _ _), ?_, by (first | exact hI | simpa using hI)⟩; go_simp; done))
              · (first | exact opDoes_move _ rfl rfl ⟨(by first | trivial | exact fun _ _ h => h | exact Below.refl _ _), rfl, by (first | exact hI | simpa using hI)⟩ | exact opDoes_gmove _ (wanted_guard rfl rfl rfl (by simp only [hd]; rfl)) rfl ⟨(by first | trivial | exact fun _ _ h => h | exact Below.refl _ _), rfl, by (first | exact hI | simpa using hI)⟩ | (refine opDoes_move _ rfl rfl ⟨(by first | trivial | exact fun _ _ h => h | exact Below.refl _ _), ?_, by (first | exact hI | simpa using hI)⟩; go_simp; done) | (refine opDoes_gmove _ (wanted_guard rfl rfl rfl (by simp only [hd]; rfl)) rfl ⟨(by first | trivial | exact fun _ _ h => h | exact Below.refl _ _), ?_, by (first | exact hI | simpa using hI)⟩; go_simp; done) | (refine opDoes_assign _ rfl rfl ⟨(by first | trivial | exact fun _ _ h => h | exact Below.refl _ _), ?_, by (first | exact hI | simpa using hI)⟩; go_simp; done))
              · unfold txt at hd
                (first | (refine opDoes_run (x := (.int .i64 (l.length : Nat))) rfl ?_ ⟨(by first | trivial | exact fun _ _ h => h | exact Below.refl _ _), rfl, by (first | exact hI | simpa using hI)⟩; go_simp; done) | (refine opDoes_grun (x := (.int .i64 (l.length : Nat))) (wanted_guard rfl rfl rfl (by simp only [hd]; rfl)) ?_ ⟨(by first | trivial | exact fun _ _ h => h | exact Below.refl _ _), rfl, by (first | exact hI | simpa using hI)⟩; go_simp; done))
              · refine opDoes_gcall _ _ _ #[.pointer (some ⟨g, 0, none⟩), .int .i64 (l.length : Nat)] (wanted_guard rfl rfl rfl (by simp only [hd]; rfl)) rfl (by go_simp) (Try.call30 _ _) ?_
                have h1 := done_of hc 20 1 hd.1.1 (by kernel_rfl)
                rw [h1, hf] at hI
                have hn := rtext_any w1 g _ (l.length : Nat) (by omega) hI.2
                simp only [Bool.false_eq_true, if_false, if_true] at hn
                rw [HTT.out] at hn
                exact hn.mono fun e w2 hx => ⟨_, hx.1, fun _ _ h => did_row hI.2 h hx, rfl, by
                  simpa [h1] using (⟨hx.below hI.1 hI.1.size hgw, hx.2.1⟩ : _ ∧ _)⟩
              · (first | exact opDoes_move _ rfl rfl ⟨(by first | trivial | exact fun _ _ h => h | exact Below.refl _ _), rfl, by (first | exact hI | simpa using hI)⟩ | exact opDoes_gmove _ (wanted_guard rfl rfl rfl (by simp only [hd]; rfl)) rfl ⟨(by first | trivial | exact fun _ _ h => h | exact Below.refl _ _), rfl, by (first | exact hI | simpa using hI)⟩ | (refine opDoes_move _ rfl rfl ⟨(by first | trivial | exact fun _ _ h => h | exact Below.refl _ _), ?_, by (first | exact hI | simpa using hI)⟩; go_simp; done) | (refine opDoes_gmove _ (wanted_guard rfl rfl rfl (by simp only [hd]; rfl)) rfl ⟨(by first | trivial | exact fun _ _ h => h | exact Below.refl _ _), ?_, by (first | exact hI | simpa using hI)⟩; go_simp; done) | (refine opDoes_assign _ rfl rfl ⟨(by first | trivial | exact fun _ _ h => h | exact Below.refl _ _), ?_, by (first | exact hI | simpa using hI)⟩; go_simp; done))
              · unfold txt at hd
                (first | (refine opDoes_run (x := (.bool true)) rfl ?_ ⟨(by first | trivial | exact fun _ _ h => h | exact Below.refl _ _), rfl, by (first | exact hI | simpa using hI)⟩; go_simp; done) | (refine opDoes_grun (x := (.bool true)) (wanted_guard rfl rfl rfl (by simp only [hd]; rfl)) ?_ ⟨(by first | trivial | exact fun _ _ h => h | exact Below.refl _ _), rfl, by (first | exact hI | simpa using hI)⟩; go_simp; done))
              · (first | (refine opDoes_run (x := (.bool true)) rfl ?_ ⟨(by first | trivial | exact fun _ _ h => h | exact Below.refl _ _), rfl, by (first | exact hI | simpa using hI)⟩; go_simp; done) | (refine opDoes_grun (x := (.bool true)) (wanted_guard rfl rfl rfl (by simp only [hd]; rfl)) ?_ ⟨(by first | trivial | exact fun _ _ h => h | exact Below.refl _ _), rfl, by (first | exact hI | simpa using hI)⟩; go_simp; done))
              · (first | exact opDoes_move _ rfl rfl ⟨(by first | trivial | exact fun _ _ h => h | exact Below.refl _ _), rfl, by (first | exact hI | simpa using hI)⟩ | exact opDoes_gmove _ (wanted_guard rfl rfl rfl (by simp only [hd]; rfl)) rfl ⟨(by first | trivial | exact fun _ _ h => h | exact Below.refl _ _), rfl, by (first | exact hI | simpa using hI)⟩ | (refine opDoes_move _ rfl rfl ⟨(by first | trivial | exact fun _ _ h => h | exact Below.refl _ _), ?_, by (first | exact hI | simpa using hI)⟩; go_simp; done) | (refine opDoes_gmove _ (wanted_guard rfl rfl rfl (by simp only [hd]; rfl)) rfl ⟨(by first | trivial | exact fun _ _ h => h | exact Below.refl _ _), ?_, by (first | exact hI | simpa using hI)⟩; go_simp; done) | (refine opDoes_assign _ rfl rfl ⟨(by first | trivial | exact fun _ _ h => h | exact Below.refl _ _), ?_, by (first | exact hI | simpa using hI)⟩; go_simp; done))
              · (first | exact opDoes_move _ rfl rfl ⟨(by first | trivial | exact fun _ _ h => h | exact Below.refl _ _), rfl, by (first | exact hI | simpa using hI)⟩ | exact opDoes_gmove _ (wanted_guard rfl rfl rfl (by simp only [hd]; rfl)) rfl ⟨(by first | trivial | exact fun _ _ h => h | exact Below.refl _ _), rfl, by (first | exact hI | simpa using hI)⟩ | (refine opDoes_move _ rfl rfl ⟨(by first | trivial | exact fun _ _ h => h | exact Below.refl _ _), ?_, by (first | exact hI | simpa using hI)⟩; go_simp; done) | (refine opDoes_gmove _ (wanted_guard rfl rfl rfl (by simp only [hd]; rfl)) rfl ⟨(by first | trivial | exact fun _ _ h => h | exact Below.refl _ _), ?_, by (first | exact hI | simpa using hI)⟩; go_simp; done) | (refine opDoes_assign _ rfl rfl ⟨(by first | trivial | exact fun _ _ h => h | exact Below.refl _ _), ?_, by (first | exact hI | simpa using hI)⟩; go_simp; done))
              · refine opDoes_gcall _ _ _ #[.int .u64 m] (wanted_guard rfl rfl rfl (by simp only [hd]; rfl)) rfl (by go_simp) (Try.call23 _ _) ?_
                exact (HNF.out w1).mono fun e w2 ⟨A, c, he, ho, hb⟩ => ⟨_, he, fun _ _ h => h.below hb, ⟨A, c, rfl, ho.row⟩, by
                  simpa using (⟨hI.1.trans (hb.mono hI.1.size), hI.2.below hb⟩ : _ ∧ _)⟩
              · obtain ⟨⟨_, A, c, h0, hr⟩, hd⟩ := hd
                have hcv := run_string_bytes w1 c hr
                (first | (refine opDoes_run (x := (txt p)) rfl ?_ ⟨(by first | trivial | exact fun _ _ h => h | exact Below.refl _ _), rfl, by (first | exact hI | simpa using hI)⟩; go_simp; done) | (refine opDoes_grun (x := (txt p)) (wanted_guard rfl rfl rfl (by simp only [hd]; rfl)) ?_ ⟨(by first | trivial | exact fun _ _ h => h | exact Below.refl _ _), rfl, by (first | exact hI | simpa using hI)⟩; go_simp; done))
              · (first | exact opDoes_move _ rfl rfl ⟨(by first | trivial | exact fun _ _ h => h | exact Below.refl _ _), rfl, by (first | exact hI | simpa using hI)⟩ | exact opDoes_gmove _ (wanted_guard rfl rfl rfl (by simp only [hd]; rfl)) rfl ⟨(by first | trivial | exact fun _ _ h => h | exact Below.refl _ _), rfl, by (first | exact hI | simpa using hI)⟩ | (refine opDoes_move _ rfl rfl ⟨(by first | trivial | exact fun _ _ h => h | exact Below.refl _ _), ?_, by (first | exact hI | simpa using hI)⟩; go_simp; done) | (refine opDoes_gmove _ (wanted_guard rfl rfl rfl (by simp only [hd]; rfl)) rfl ⟨(by first | trivial | exact fun _ _ h => h | exact Below.refl _ _), ?_, by (first | exact hI | simpa using hI)⟩; go_simp; done) | (refine opDoes_assign _ rfl rfl ⟨(by first | trivial | exact fun _ _ h => h | exact Below.refl _ _), ?_, by (first | exact hI | simpa using hI)⟩; go_simp; done))
              · refine opDoes_gcall _ _ _ #[.int .u64 m] (wanted_guard rfl rfl rfl (by simp only [hd]; rfl)) rfl (by go_simp) (Try.call25 _ _) ?_
                exact (HRF.out w1).mono fun e w2 ⟨he, hb⟩ => ⟨_, he, fun _ _ h => h.below hb, rfl, by
                  simpa using (⟨hI.1.trans (hb.mono hI.1.size), hI.2.below hb⟩ : _ ∧ _)⟩
              · unfold txt at hd
                (first | (refine opDoes_run (x := (.bool true)) rfl ?_ ⟨(by first | trivial | exact fun _ _ h => h | exact Below.refl _ _), rfl, by (first | exact hI | simpa using hI)⟩; go_simp; done) | (refine opDoes_grun (x := (.bool true)) (wanted_guard rfl rfl rfl (by simp only [hd]; rfl)) ?_ ⟨(by first | trivial | exact fun _ _ h => h | exact Below.refl _ _), rfl, by (first | exact hI | simpa using hI)⟩; go_simp; done))
              · (first | (refine opDoes_run (x := (.bool true)) rfl ?_ ⟨(by first | trivial | exact fun _ _ h => h | exact Below.refl _ _), rfl, by (first | exact hI | simpa using hI)⟩; go_simp; done) | (refine opDoes_grun (x := (.bool true)) (wanted_guard rfl rfl rfl (by simp only [hd]; rfl)) ?_ ⟨(by first | trivial | exact fun _ _ h => h | exact Below.refl _ _), rfl, by (first | exact hI | simpa using hI)⟩; go_simp; done))
              · (first | exact opDoes_move _ rfl rfl ⟨(by first | trivial | exact fun _ _ h => h | exact Below.refl _ _), rfl, by (first | exact hI | simpa using hI)⟩ | exact opDoes_gmove _ (wanted_guard rfl rfl rfl (by simp only [hd]; rfl)) rfl ⟨(by first | trivial | exact fun _ _ h => h | exact Below.refl _ _), rfl, by (first | exact hI | simpa using hI)⟩ | (refine opDoes_move _ rfl rfl ⟨(by first | trivial | exact fun _ _ h => h | exact Below.refl _ _), ?_, by (first | exact hI | simpa using hI)⟩; go_simp; done) | (refine opDoes_gmove _ (wanted_guard rfl rfl rfl (by simp only [hd]; rfl)) rfl ⟨(by first | trivial | exact fun _ _ h => h | exact Below.refl _ _), ?_, by (first | exact hI | simpa using hI)⟩; go_simp; done) | (refine opDoes_assign _ rfl rfl ⟨(by first | trivial | exact fun _ _ h => h | exact Below.refl _ _), ?_, by (first | exact hI | simpa using hI)⟩; go_simp; done))
            case hend =>
              intro D v w4 hI h
              simp only [AllOps, Nat.zero_add, Nat.reduceAdd, and_true] at h
              rw [h.2.2.2.2.2.2.2.2.2.2.2.2.2.2.2.2.2.2.2.2.2]
              have HF := Lib.hid hI.1
              clear h hI
              go_wp2_with fail
              go_ret
              exact ⟨rfl, HF.out⟩
end Go.Proofs.Ytgdlfihiheeniaa
