/-
  Texts of a proof, one behind the other (each with its own head).
-/
import Derived.Test.YtpahkaffknnjhaaGreatDoorPartGgcbplmni
import Derived.ChangeKeysEq
import Derived.Laws.IdiomCopy
import Derived.Maps.OwnOps
section
namespace Go.Proofs.YtpahkaffknnjhaaGreatDoor
set_option linter.unusedSimpArgs false
set_option linter.unusedVariables false
open Go.RowKit
namespace Ev
theorem runs_len (cmp : Rw → Rw → Int) (S : List Rw) : (runs cmp S).length ≤ S.length := by
  induction S with
  | nil => exact Nat.le_refl _
  | cons x S ih =>
    show (consG cmp x (runs cmp S)).length ≤ _
    unfold consG
    revert ih
    cases runs cmp S with
    | nil => intro _; simp
    | cons g G =>
      intro ih
      dsimp only
      split <;> simp at ih ⊢ <;> omega
theorem baseG_len (gr : Bool) (group : List Int) (L : List Rw) : (baseG gr group L).length ≤ max L.length 1 := by
  unfold baseG
  split
  · split
    · simp; omega
    · have := runs_len (rcmp (byOf group)) (Srt.ssort (rcmp (byOf group)) L)
      rw [Srt.ssort_length] at this
      omega
  · simp; omega
theorem limit_map {α β : Type} (f : α → β) (n : Int) (l : List α) : limit n (l.map f) = (limit n l).map f := by
  unfold limit
  rw [List.length_map]
  split
  · rw [List.map_take]
  · rfl
theorem limit_len {α : Type} (n : Int) (l : List α) : (limit n l).length = if 0 ≤ n ∧ n < (l.length : Int) then n.toNat else l.length := by
  unfold limit
  split
  · next h => rw [List.length_take]; omega
  · rfl
theorem limit_get {α : Type} (n : Int) (l : List α) (i : Nat) (h : i < (limit n l).length) : ∃ h' : i < l.length, (limit n l)[i] = l[i] := by
  have h1 := limit_len n l
  by_cases hc : 0 ≤ n ∧ n < (l.length : Int)
  · rw [if_pos hc] at h1
    refine ⟨by omega, ?_⟩
    simp only [limit, if_pos hc, List.getElem_take]
  · rw [if_neg hc] at h1
    refine ⟨by omega, ?_⟩
    simp only [limit, if_neg hc]
end Ev
theorem Ev.foldV_ok {w W : World} {n : Nd} (hn : NodeIn w n) {A : Option Addr} {L : List Rw} (hL : RowsOk W A L) : (Ev.foldV n L).ok := by
  have hv : ∀ v ∈ Ev.argsV n L, v.ok := fun v hv => by
    obtain ⟨y, hy, rfl⟩ := List.mem_map.1 hv
    exact Ev.argV_ok (hL.in_ y hy).ok hn
  unfold Ev.foldV
  split
  · generalize hm : min L.length 2147483647 = m
    have hm2 : m ≤ 2147483647 := by omega
    refine ⟨by show (-9223372036854775808 : Int) ≤ 1; decide, by show (1 : Int) ≤ 9223372036854775807; decide, by show (-9223372036854775808 : Int) ≤ (m : Int); omega, by show (m : Int) ≤ 9223372036854775807; omega, by show 0 < 18446744073709551616; decide⟩
  · split
    · unfold Ev.sumV
      split
      · exact Ev.nul_ok
      · exact Ev.intV_ok
    · exact Ev.bestV_ok _ _ hv
theorem Ev.itemV_ok {w W : World} {n : Nd} (hn : NodeIn w n) {A : Option Addr} {L : List Rw} (hL : RowsOk W A L) : (Ev.itemV n L).ok := by
  unfold Ev.itemV
  split
  · exact Ev.foldV_ok hn hL
  · exact Ev.eval_ok hL.first.ok hn
theorem GLoop.start0 {W : World} {L : List Rw} {B : Nat} (hB : B ≤ W.heap.size) : GLoop B L 0 (W.alloc (.cells #[] 126)) (some ⟨W.heap.size, 0, none⟩) 0 [] :=
  ⟨EOwn.new W [] (by simp [maxLen]) hB #[] rfl, (by intro r hr; cases hr), (by intro r hr; cases hr), (by intro r hr; cases hr), (by intro r hr; cases hr), (by intro r hr; cases hr), (by intro r hr; cases hr), by simp; omega⟩
theorem GLoop.grs {w W : World} {B B' i c : Nat} {L : List Rw} {A : Option Addr} {G : List Gr} (h : GLoop B L i W A c G) (hB : B' ≤ B) (hi : i ≤ 1000000) (hL : ∀ x ∈ L, RowOk w x.a x.l) (hb : Below w.heap.size w W) : GrsAt B' W A c G :=
  ⟨h.own.mono hB, fun r hr => ⟨h.rows r hr, fun x hx => (hL x (h.mem r hr x hx)).below hb, by have := h.len r hr; omega⟩, h.cap, h.ne, h.nil⟩
theorem GrsAt.below {B : Nat} {W W' : World} {A : Option Addr} {c : Nat} {G : List Gr} (h : GrsAt B W A c G) (hB : Below W.heap.size W W') : GrsAt B W' A c G :=
  ⟨h.own.below hB, fun r hr => (h.rows r hr).below hB, h.cap, h.ne, h.nil⟩
set_option maxRecDepth 100000 in
set_option maxHeartbeats 16000000 in
theorem answer_any (w : World) (q : Qr) (A : Option Addr) (c : Nat) (L : List Rw) (hq : QrIn w q) (hL : RowsOk w A L) (hlc : L.length ≤ c) (hcm : c ≤ maxLen) (hnil : A = none → L = []) :
    Calls Tryz.prog 39 #[q.v, .slice A L.length c] w (RetRows w (fun R => R = Ev.answerV q.grouped q.group q.items q.order q.lim L)) := by
  have HQ := Lib.hid hq
  have HL := Lib.hid hL
  have HNIL := Lib.hid hnil
  have hlen := hL.len
  obtain ⟨D, hD⟩ : ∃ D, Ev.answerV q.grouped q.group q.items q.order q.lim L = D := ⟨_, rfl⟩
  rw [hD]
  have HD := Lib.hid hD
  clear hq hL hD hnil
  go_enter Tryz.func39, Tryz.ntmps39
  go_upto_region 1 with (refine wpList_box_qr rfl (.tmp 0) rfl q rfl ?_; intro W1 hb1 hz1 hB1)
  have HB1 := Lib.hid hB1
  have hw1 : w.heap.size ≤ W1.heap.size := hB1.size
  clear hB1
  have hg2lt : w.heap.size < W1.heap.size := by omega
  generalize hg2 : w.heap.size = g2 at hb1 hg2lt ⊢
  have HG2 := Lib.hid hg2
  clear hg2 hz1
  go_upto_region 2 with fail
  have hB2 : Below W1.heap.size W1 (W1.alloc (.cells #[] 126)) := (Below.refl _ _).alloc (Nat.le_refl _) _
  have HST : Hid (GLoop (g2 + 1) L 0 (W1.alloc (.cells #[] 126)) (some ⟨W1.heap.size, 0, none⟩) 0 []) := GLoop.start0 hg2lt
  have HBK : Hid (Blk (W1.alloc (.cells #[] 126)) g2 26 q.cells) := hb1.below hB2
  have HB2 := Lib.hid (HB1.out.then hB2)
  have hz2 : g2 < (W1.alloc (.cells #[] 126)).heap.size := by simp; omega
  clear hb1 hB2 HB1
  generalize (W1.alloc (.cells #[] 126)) = W2 at HST HBK HB2 hz2 ⊢
  generalize W1.heap.size = g5 at HST ⊢
  obtain ⟨-, c5, -⟩ := Blk.qr HBK.out
  go_upto_if 16 with fail
  go_cut [5] (fun v5 wx => ∃ (A5 : Option Addr) (c5 : Nat) (G : List Gr), v5 = .slice A5 G.length c5 ∧ Hid (GrsAt (g2 + 1) wx A5 c5 G ∧ G.map Gr.l = Ev.baseG q.grouped q.group L ∧ Blk wx g2 26 q.cells ∧ Below w.heap.size w wx))
  case first =>
    cases hgr : q.grouped with
    | true =>
      go_wp2_with (refine wpList_load_qr rfl (.tmp 2) rfl g2 rfl HBK.out ?_)
      refine (groups_any W2 q A c L (HQ.out.below HB2.out) (HL.out.below HB2.out) hlc hcm HNIL.out).mono ?_
      rintro e W3 ⟨A3, c3, G, rfl, h1, h2, h3⟩
      have HR : Hid (GrsAt (g2 + 1) W3 A3 c3 G ∧ G.map Gr.l = Ev.baseG true q.group L ∧ Blk W3 g2 26 q.cells ∧ Below w.heap.size w W3) :=
        ⟨⟨h1.own.mono hz2, h1.rows, h1.cap, h1.ne, h1.nil⟩, h2, HBK.out.below h3, HB2.out.then h3⟩
      clear h1 h2 h3 c5
      go_wp2_with fail
      go_meet
      case rel => exact ⟨A3, c3, G, rfl, by rw [hgr]; exact HR.out⟩
    | false =>
      have HST2 : Hid (GLoop (g2 + 1) L 0 W2 (some ⟨g5, 0, none⟩) 0 [] ∧ [] = (L.take 0).map (fun r => [r]) ∧ Blk W2 g2 26 q.cells ∧ Below w.heap.size w W2) := ⟨HST.out, by simp, HBK.out, HB2.out⟩
      clear HST HBK HB2 hz2 c5
      go_wp2_with fail
      go_loopw [5, 22] (fun v5 iv wr => ∃ (i : Nat) (A5 : Option Addr) (c5 : Nat) (G : List Gr), i ≤ L.length ∧ G.length ≤ i ∧ iv = .int .i64 (i : Int) ∧ v5 = .slice A5 G.length c5 ∧ Hid (GLoop (g2 + 1) L i wr A5 c5 G ∧ G.map Gr.l = (L.take i).map (fun r => [r]) ∧ Blk wr g2 26 q.cells ∧ Below w.heap.size w wr)) (fun _ iv _ => L.length - (intOf iv).toNat)
      case atStart => exact ⟨0, _, 0, [], Nat.zero_le _, Nat.le_refl _, by go_num, rfl, HST2.out⟩
      case round =>
        obtain ⟨i, A5, c5, G, hi, hGi, rfl, rfl, HJ⟩ := hrel
        clear HST2
        by_cases hlt : i < L.length
        · have hii : (i : Int) < (L.length : Int) := by omega
          obtain ⟨sb, so, rfl, sbl, q0⟩ := rw_at (HL.out.r.below HJ.out.2.2.2) hlt
          obtain ⟨x, hx⟩ : ∃ x, L[i] = x := ⟨_, rfl⟩
          have HXL : Hid (x ∈ L) := by show x ∈ L; rw [← hx]; exact List.getElem_mem hlt
          have HTK : Hid (L.take (i + 1) = L.take i ++ [x]) := by show _ = _; rw [List.take_succ_eq_append_getElem hlt, hx]
          rw [hx] at q0
          clear hx
          go_upto_region 7 with fail
          have hoA := (HJ.out.1.own.alloc (.cells #[.slice x.a x.l.length x.c] 37)).alloc (.cells #[.slice (some ⟨wr.heap.size, 0, none⟩) 1 1] 126)
          have hrA := ERow.lit eGr (wr.alloc (.cells #[.slice x.a x.l.length x.c] 37)) ⟨some ⟨wr.heap.size, 0, none⟩, [x], 1⟩ #[.slice (some ⟨wr.heap.size, 0, none⟩) 1 1] rfl _ rfl
          have hz1 : (wr.alloc (.cells #[.slice x.a x.l.length x.c] 37)).heap.size = wr.heap.size + 1 := by simp
          rw [hz1] at hrA
          unfold Rw.v
          clear q0
          go_wp2_with (at_builtin; refine wpList_append_elems eGr rfl (.tmp 26) (.tmp 30) rfl _ rfl hoA rfl 1 rfl hrA rfl (by simp; omega) (by have := HJ.out.1.size; simp; omega) ?_; intro A3 c3' w3 ho3 hb3 hg3 ha3)
          have HR : Hid (GLoop (g2 + 1) L (i + 1) w3 A3 c3' (G ++ [(⟨some ⟨wr.heap.size, 0, none⟩, [x], 1⟩ : Gr)]) ∧ (G ++ [(⟨some ⟨wr.heap.size, 0, none⟩, [x], 1⟩ : Gr)]).map Gr.l = (L.take (i + 1)).map (fun r => [r]) ∧ Blk w3 g2 26 q.cells ∧ Below w.heap.size w w3) := by
            have hb2 : Below wr.heap.size wr ((wr.alloc (.cells #[.slice x.a x.l.length x.c] 37)).alloc (.cells #[.slice (some ⟨wr.heap.size, 0, none⟩) 1 1] 126)) := ((Below.refl wr.heap.size wr).alloc (Nat.le_refl _) _).then ((Below.refl _ _).alloc (Nat.le_refl _) _)
            refine ⟨HJ.out.1.one HXL.out rfl ho3 hg3 ha3, ?_, ?_, ((HJ.out.2.2.2).trans (hb2.mono HJ.out.2.2.2.size)).trans (hb3.mono (by have := HG2.out; omega))⟩
            · rw [List.map_append, HJ.out.2.1, HTK.out, List.map_append]; rfl
            · refine (HJ.out.2.2.1.below hb2).grown hg3 ?_
              intro e
              cases hA : A5 with
              | none => rw [hA] at e; simp at e
              | some a =>
                rw [hA] at e
                have h1 := (HJ.out.1.own.block a hA).1
                simp at e
                omega
          clear hoA hrA ho3 hb3 hg3 ha3
          go_roundw
          case rel => exact ⟨i + 1, A3, c3', _, by omega, by simp; omega, by go_num, by simp, HR.out⟩
          case measure => simp [intOf]; omega
        · have hii : ¬ (i : Int) < (L.length : Int) := by omega
          obtain rfl : i = L.length := by omega
          have HR : Hid (GrsAt (g2 + 1) wr A5 c5 G ∧ G.map Gr.l = Ev.baseG q.grouped q.group L ∧ Blk wr g2 26 q.cells ∧ Below w.heap.size w wr) := by
            obtain ⟨h1, h2, h3, h4⟩ := HJ.out
            refine ⟨h1.grs (Nat.le_refl _) (by omega) HL.out.in_ h4, ?_, h3, h4⟩
            rw [h2, List.take_length, hgr]
            rfl
          go_wp2_with fail
          go_meet
          case rel => exact ⟨A5, c5, G, rfl, HR.out⟩
  case rest =>
    obtain ⟨A5, c5', G, rfl, HG⟩ := hcut
    clear HST HBK HB2 hz2 c5
    obtain ⟨V, hV⟩ : ∃ V, Ev.groupsV q.grouped q.group q.order L = V := ⟨_, rfl⟩
    have HV : Hid (Srt.ssort (Ev.gcmp q.order) (G.map Gr.l) = V) := by show _ = _; rw [← hV, HG.out.2.1]; rfl
    have HDV : Hid (D = (Ev.limit q.lim V).map (Ev.rowV q.items)) := by show _ = _; rw [← HD.out, ← hV]; rfl
    clear hV
    have hGl : G.length ≤ 1000000 := by
      have h1 : (G.map Gr.l).length = G.length := List.length_map _
      rw [← h1, HG.out.2.1]
      exact Nat.le_trans (Ev.baseG_len _ _ _) (by omega)
    go_upto_region 9 with fail
    go_cut [] from 33 to 35 (fun wx => Hid (∃ G' : List Gr, GrsAt (g2 + 1) wx A5 c5' G' ∧ G'.length = G.length ∧ G'.map Gr.l = V ∧ Blk wx g2 26 q.cells ∧ Below w.heap.size w wx))
    case first =>
      have hbs := HG.out.1.own
      rcases A5 with _ | a5
      · have hG0 : G = [] := by
          rcases hbs.form with ⟨-, -, h⟩ | ⟨g, h, -⟩
          · exact h
          · cases h
        have hc0 : c5' = 0 := by
          rcases hbs.form with ⟨-, h, -⟩ | ⟨g, h, -⟩
          · exact h
          · cases h
        subst hG0 hc0
        clear hbs
        have HR : Hid (∃ G' : List Gr, GrsAt (g2 + 1) wc none 0 G' ∧ G'.length = [].length ∧ G'.map Gr.l = V ∧ Blk wc g2 26 q.cells ∧ Below w.heap.size w wc) :=
          ⟨[], HG.out.1, rfl, by rw [← HV.out]; rfl, HG.out.2.2⟩
        go_wp2_with fail
        refine (stable0G_any _ _).mono ?_
        rintro e W4 ⟨rfl, rfl⟩
        go_wp2_with fail
        go_meet
        case rel => exact HR.out
      · obtain ⟨g, rfl⟩ : ∃ g, a5 = ⟨g, 0, none⟩ := by
          rcases hbs.form with ⟨h, -⟩ | ⟨g, h, -⟩
          · cases h
          · exact ⟨g, Option.some.inj h⟩
        obtain ⟨sp, hbk, hspl, hzg, hLc3, hc3m⟩ := hbs.toBlk
        rw [cells_gr] at hbk hspl
        clear hbs
        have hgb : ∀ W, wc.grownBy W (some g) → Blk W g2 26 q.cells ∧ Below w.heap.size w W ∧ ∀ r ∈ G, RowsOk W r.a r.l := fun W hW => by
          obtain ⟨h1, h2, h3, h4⟩ := HG.out
          have hB : Below w.heap.size w W := below_of_grown h4 hW (by have := HG2.out; omega) h4.size
          refine ⟨h3.grown hW (by simp; omega), hB, fun r hr => ⟨?_, fun x hx => ?_, (h1.rows r hr).len⟩⟩
          · intro hl
            refine (h1.rows r hr).r.keep hW.size (fun a ha hlt => hW.block _ hlt ?_) hl
            have := h1.ne r hr (List.length_pos_iff.1 hl) a ha _ rfl
            simpa using this
          · refine (HL.out.in_ x ?_).below hB
            refine Ev.baseG_mem (gr := q.grouped) (group := q.group) r.l ?_ x hx
            rw [← h2]
            exact List.mem_map.2 ⟨r, hr, rfl⟩
        have HGB := Lib.hid hgb
        have HCMP : Hid (CmpsG wc g g2 (fun x y => Ev.gcmp q.order x.l y.l) G) := fun W hW x hx y hy => by
          obtain ⟨k1, k2, k3⟩ := HGB.out W hW
          exact acmp_any W g2 _ q.cells q.oa q.order q.oc k1 rfl (HQ.out.below k2).o HQ.out.oin (by have := HQ.out.ol; omega) x y (k3 x hx) (k3 y hy)
        have HSRT := Lib.hid (stableG_any wc g g2 G.length c5' (fun x y => Ev.gcmp q.order x.l y.l) ((Ev.gcmp_ord q.order).on Gr.l) G sp hbk HCMP.out rfl hGl hLc3)
        clear hbk hgb HCMP
        go_wp2_with fail
        refine (show Calls _ _ _ _ _ from HSRT.out).mono ?_
        rintro e W4 ⟨rfl, hbk, hg4⟩
        have HR : Hid (∃ G' : List Gr, GrsAt (g2 + 1) W4 (some ⟨g, 0, none⟩) c5' G' ∧ G'.length = G.length ∧ G'.map Gr.l = V ∧ Blk W4 g2 26 q.cells ∧ Below w.heap.size w W4) := by
          obtain ⟨k1, k2, k3⟩ := HGB.out W4 hg4
          have hp := Srt.ssort_perm (fun x y : Gr => Ev.gcmp q.order x.l y.l) G
          have hm : ∀ r ∈ Srt.ssort (fun x y : Gr => Ev.gcmp q.order x.l y.l) G, r ∈ G := fun r hr => hp.mem_iff.1 hr
          refine ⟨Srt.ssort (fun x y => Ev.gcmp q.order x.l y.l) G, ⟨?_, fun r hr => k3 r (hm r hr), fun r hr => HG.out.1.cap r (hm r hr), fun r hr => HG.out.1.ne r (hm r hr), fun r hr => HG.out.1.nil r (hm r hr)⟩, hp.length_eq, ?_, k1, k2⟩
          · exact EOwn.ofBlk (E := eGr) (sp := sp) (by rw [cells_gr]; exact hbk) (by rw [cells_gr]; rw [List.length_append, List.length_map, hp.length_eq]; simpa using hspl) (by rw [hp.length_eq]; exact hLc3) hc3m hzg
          · rw [← HV.out]
            exact Ev.ssort_on Gr.l G
        clear hbk hg4
        go_wp2_with fail
        go_meet
        case rel => exact HR.out
    case rest =>
      obtain ⟨G', hG', hl', hV', hQ', hB'⟩ := hcut.out
      have hcap : (G.length : Int) ≤ (c5' : Int) := by have := hG'.own.cap; omega
      have hcapm : c5' ≤ maxLen := hG'.own.capMax
      obtain ⟨-, -, -, -, c8⟩ := Blk.qr hQ'
      have HGX : Hid (GrsAt (g2 + 1) wc A5 c5' G' ∧ G'.map Gr.l = V ∧ Blk wc g2 26 q.cells ∧ Below w.heap.size w wc) := ⟨hG', hV', hQ', hB'⟩
      have HGL := Lib.hid hl'
      clear hcut hG' hV' hQ' hB' hl' HG HV
      go_upto_region 10 with fail
      go_cut [45] from 36 to 45 (fun v wx => Hid (v = .bool (decide (0 ≤ q.lim ∧ q.lim < (G.length : Int))) ∧ wc = wx))
      case first =>
        by_cases h0 : 0 ≤ q.lim
        · by_cases h1 : q.lim < (G.length : Int)
          · have HC : Hid (decide (0 ≤ q.lim ∧ q.lim < (G.length : Int)) = true) := by show _ = _; rw [decide_eq_true_iff]; exact ⟨h0, h1⟩
            go_wp2_with fail
            go_meet
            case rel => exact ⟨by rw [HC.out], rfl⟩
          · have HC : Hid (decide (0 ≤ q.lim ∧ q.lim < (G.length : Int)) = false) := by show _ = _; rw [decide_eq_false_iff_not]; omega
            go_wp2_with fail
            go_meet
            case rel => exact ⟨by rw [HC.out], rfl⟩
        · have HC : Hid (decide (0 ≤ q.lim ∧ q.lim < (G.length : Int)) = false) := by show _ = _; rw [decide_eq_false_iff_not]; omega
          go_wp2_with fail
          go_meet
          case rel => exact ⟨by rw [HC.out], rfl⟩
      case rest =>
        obtain ⟨hv, rfl⟩ := hcut.out
        subst hv
        clear hcut
        go_upto_if 45 with fail
        go_cut [5] from 45 to 49 (fun v wx => ∃ n c6 : Nat, v = .slice A5 n c6 ∧ Hid (n = (Ev.limit q.lim G').length ∧ wc = wx))
        case first =>
          by_cases hC : 0 ≤ q.lim ∧ q.lim < (G.length : Int)
          · obtain ⟨m, hm⟩ := Int.eq_ofNat_of_zero_le hC.1
            have HM : Hid (m = (Ev.limit q.lim G').length) := by show _ = _; rw [Ev.limit_len, HGL.out, if_pos hC]; omega
            rw [decide_eq_true hC]
            have hmG : (m : Int) ≤ (c5' : Int) := by omega
            rw [hm] at c8
            clear hC hm
            go_wp2_with fail
            go_meet
            case rel => exact ⟨m, c5', rfl, HM.out, rfl⟩
          · have HM : Hid (G.length = (Ev.limit q.lim G').length) := by show _ = _; rw [Ev.limit_len, HGL.out, if_neg hC]
            rw [decide_eq_false hC]
            clear hC
            go_wp2_with fail
            go_meet
            case rel => exact ⟨G.length, c5', rfl, HM.out, rfl⟩
        case rest =>
          obtain ⟨n, c6, rfl, hnn⟩ := hcut
          obtain ⟨hn, rfl⟩ := hnn.out
          clear hnn
          obtain ⟨T, hT⟩ : ∃ T, Ev.limit q.lim G' = T := ⟨_, rfl⟩
          have HDT : Hid (D = (T.map Gr.l).map (Ev.rowV q.items)) := by show _ = _; rw [HDV.out, ← HGX.out.2.1, Ev.limit_map, hT]
          have HTG : Hid (∀ i (h : i < T.length), ∃ g, A5 = some ⟨g, 0, none⟩ ∧ g < wc.heap.size ∧ wc.cell? ⟨g, i, none⟩ = some T[i].h ∧ RowsOk wc T[i].a T[i].l ∧ T[i].l.length ≤ T[i].c ∧ (T[i].a = none → T[i].l = [])) := fun i h => by
            subst hT
            obtain ⟨h', e⟩ := Ev.limit_get q.lim G' i h
            rw [e]
            have hm : G'[i] ∈ G' := List.getElem_mem h'
            obtain ⟨gg, hgg⟩ : ∃ g, A5 = some ⟨g, 0, none⟩ := by
              rcases HGX.out.1.own.form with ⟨-, -, h⟩ | ⟨g, h, -⟩
              · rw [h] at h'; simp at h'
              · exact ⟨g, h⟩
            subst hgg
            refine ⟨gg, rfl, (HGX.out.1.own.block _ rfl).2, ?_, HGX.out.1.rows _ hm, (HGX.out.1.cap _ hm).1, HGX.out.1.nil _ hm⟩
            have := HGX.out.1.own.cell (j := i) (k := 0) (v := G'[i].h) h' rfl
            rwa [show i * eGr.sz + 0 = i from Nat.mul_one _] at this
          have hTn : n = T.length := by rw [hn, hT]
          have hTl : T.length ≤ 1000000 := by rw [← hT, Ev.limit_len, HGL.out]; split <;> omega
          have HQX : Hid (Blk wc g2 26 q.cells ∧ Below w.heap.size w wc) := HGX.out.2.2
          clear hn hT HGX HGL HDV hcap hcapm c8
          subst hTn
          have HST : Hid (([] : List Rw).length = 0 ∧ RLoop wc.heap.size wc none 0 [] ∧ [] = ((T.take 0).map Gr.l).map (Ev.rowV q.items) ∧ Below wc.heap.size wc wc) := ⟨rfl, RLoop.start (Nat.le_refl _), by simp, Below.refl _ _⟩
          go_wp2_with fail
          go_loopw [8, 52] (fun v8 iv wr => ∃ (i : Nat) (A8 : Option Addr) (c8 : Nat) (R : List Rw), i ≤ T.length ∧ iv = .int .i64 (i : Int) ∧ v8 = .slice A8 i c8 ∧ Hid (R.length = i ∧ RLoop wc.heap.size wr A8 c8 R ∧ R.map Rw.l = ((T.take i).map Gr.l).map (Ev.rowV q.items) ∧ Below wc.heap.size wc wr)) (fun _ iv _ => T.length - (intOf iv).toNat)
          case atStart => exact ⟨0, none, 0, [], Nat.zero_le _, by go_num, rfl, HST.out⟩
          case round =>
            obtain ⟨i, A8, c8, R, hi, rfl, rfl, HJ⟩ := hrel
            clear HST
            by_cases hlt : i < T.length
            · have hii : (i : Int) < (T.length : Int) := by omega
              obtain ⟨g, rfl, hgl, q0, hrok, hrc, hrn⟩ := HTG.out i hlt
              have q0 := cell_later HJ.out.2.2.2 q0
              have HTK : Hid (T.take (i + 1) = T.take i ++ [T[i]]) := List.take_succ_eq_append_getElem hlt
              obtain ⟨r, hr⟩ : ∃ r, T[i] = r := ⟨_, rfl⟩
              rw [hr] at q0 HTK hrok hrc hrn
              have HRO := Lib.hid hrok
              clear hr hrok
              unfold Gr.h at q0
              go_upto_region 16 with fail
              have hzw : g2 < wr.heap.size := Nat.lt_of_lt_of_le HQX.out.1.lt HJ.out.2.2.2.size
              generalize hW5 : World.alloc wr (.cells _ _) = W5
              obtain ⟨ba5, hz5, hB5⟩ := fresh1 hW5
              clear hW5
              have h10 := ba5
              have HB5 := Lib.hid hB5
              have hwz : wr.heap.size < W5.heap.size := by omega
              have HQ5 : Hid (Blk W5 g2 26 q.cells ∧ Below w.heap.size w W5) := ⟨(HQX.out.1.below HJ.out.2.2.2).below hB5, (HQX.out.2.trans (HJ.out.2.2.2.mono HQX.out.2.size)).then hB5⟩
              have HR5 : Hid (RowsOk W5 r.a r.l) := (HRO.out.below HJ.out.2.2.2).below hB5
              have HIT : Hid (ERow eNd W5 q.ia q.items) := HQ.out.i.below HQ5.out.2
              have hil := HQ.out.il
              have HONE : Hid (∀ (w1 w3 : World) (s : Rw) (A3 : Option Addr) (c3 : Nat), Below W5.heap.size W5 w1 → EOwn eVa w1 W5.heap.size s.a s.c s.l → (∀ v ∈ s.l, v.ok) → s.l = Ev.rowV q.items r.l → EOwn eRw w3 wc.heap.size A3 c3 (R ++ [s]) → Below wc.heap.size (w1.alloc (.cells #[s.v] 37)) w3 → (w1.alloc (.cells #[s.v] 37)).grownBy w3 (A8.map (·.block)) → (A3.map (·.block) = A8.map (·.block) ∨ A3.map (·.block) = some (w1.alloc (.cells #[s.v] 37)).heap.size) →
                  (R ++ [s]).length = i + 1 ∧ RLoop wc.heap.size w3 A3 c3 (R ++ [s]) ∧ (R ++ [s]).map Rw.l = ((T.take (i + 1)).map Gr.l).map (Ev.rowV q.items) ∧ Below wc.heap.size wc w3) := fun w1 w3 s A3 c3 h1 h2 h3 h4 h5 h6 h7 h8 => by
                obtain ⟨k1, k2, k3, k4⟩ := HJ.out
                have hbb : Below wr.heap.size wr w1 := HB5.out.trans (h1.mono HB5.out.size)
                refine ⟨by simp [k1], k2.one hbb (h2.mono HB5.out.size) h3 rfl h5 h7 h8, ?_, ((k4.trans (hbb.mono k4.size)).trans (((Below.refl w1.heap.size w1).alloc (Nat.le_refl _) _).mono (Nat.le_trans k4.size hbb.size))).trans h6⟩
                rw [List.map_append, k3, HTK.out, List.map_append, List.map_append, List.map_cons, List.map_nil, h4]
                rfl
              have HOUT : Hid (R.length = i ∧ EOwn eRw W5 wc.heap.size A8 c8 R ∧ wc.heap.size ≤ W5.heap.size) := ⟨HJ.out.1, HJ.out.2.1.own.below HB5.out, Nat.le_trans HJ.out.2.2.2.size HB5.out.size⟩
              clear ba5 hB5 hz5 q0
              generalize hg10 : wr.heap.size = g10 at h10 hzw hwz ⊢
              have HG10 := Lib.hid hg10
              clear hg10
              obtain ⟨-, -, c6, -⟩ := Blk.qr HQ5.out.1
              have HST2 : Hid (EOwn eVa W5 W5.heap.size none 0 [] ∧ [] = (q.items.take 0).map (fun n => Ev.itemV n r.l) ∧ Below W5.heap.size W5 W5) := ⟨EOwn.nil _ _, by simp, Below.refl _ _⟩
              go_wp2_with fail
              clear c6
              go_loopw [11, 59] (fun v11 kv wq => ∃ (k : Nat) (A11 : Option Addr) (c11 : Nat) (vs : List Va), k ≤ q.items.length ∧ kv = .int .i64 (k : Int) ∧ v11 = .slice A11 k c11 ∧ Hid (vs.length = k ∧ EOwn eVa wq W5.heap.size A11 c11 vs ∧ vs = (q.items.take k).map (fun n => Ev.itemV n r.l) ∧ Below W5.heap.size W5 wq)) (fun _ kv _ => q.items.length - (intOf kv).toNat)
              case atStart => exact ⟨0, none, 0, [], Nat.zero_le _, by go_num, rfl, rfl, HST2.out⟩
              case round =>
                obtain ⟨k, A11, c11, vs, hk, rfl, rfl, HK⟩ := hrel
                clear HST2
                by_cases hkl : k < q.items.length
                · have hki : (k : Int) < (q.items.length : Int) := by omega
                  have HTI : Hid (q.items.take (k + 1) = q.items.take k ++ [q.items[k]]) := List.take_succ_eq_append_getElem hkl
                  have HNI : Hid (NodeIn w q.items[k]) := HQ.out.iin _ (List.getElem_mem hkl)
                  obtain ⟨ib, io, hia, -⟩ := HIT.out.at_ hkl
                  have HIW : Hid (ERow eNd wr (some ⟨ib, io, none⟩) q.items) := by show ERow _ _ _ _; rw [← hia]; exact HIT.out.below HK.out.2.2.2
                  rw [hia]
                  clear hia
                  have h10' := h10.below HK.out.2.2.2
                  go_upto_region 20 with (first | (refine wpList_load_nd_at rfl (.tmp 61) rfl HIW.out hkl rfl ?_) | (refine wpList_alloc_nd rfl rfl ?_; intro W6 hb6 hz6 hB6) | (refine wpList_store_nd rfl rfl (.tmp 13) (.tmp 62) rfl wr.heap.size rfl q.items[k] rfl hb6 ?_; intro W7 hb7 hg7))
                  have hwr : W5.heap.size ≤ wr.heap.size := HK.out.2.2.2.size
                  have hB7 : Below wr.heap.size wr W7 := below_of_grown hB6 hg7 (Nat.le_refl _) hB6.size
                  have HB7 := Lib.hid hB7
                  have H10 : Hid (Blk W7 g10 126 [.slice r.a r.l.length r.c]) := h10'.below hB7
                  have HOWN : Hid (vs.length = k ∧ EOwn eVa W7 W5.heap.size A11 c11 vs ∧ Below W5.heap.size W5 W7) := ⟨HK.out.1, HK.out.2.1.below hB7, HK.out.2.2.2.trans (hB7.mono hwr)⟩
                  have HIO : Hid ((Ev.itemV q.items[k] r.l).ok) := Ev.itemV_ok HNI.out HR5.out
                  have HVS : Hid (vs ++ [Ev.itemV q.items[k] r.l] = (q.items.take (k + 1)).map (fun n => Ev.itemV n r.l)) := by show _ = _; rw [HTI.out, List.map_append, ← HK.out.2.2.1]; rfl
                  clear hb6 hz6 hB6 hg7 hB7 h10' HIW HK HTI
                  have hz7 : wr.heap.size < W7.heap.size := hb7.lt
                  generalize q.items[k] = n at hb7 HNI HIO HVS ⊢
                  generalize wr.heap.size = g13 at hb7 hz7 hwr ⊢
                  obtain ⟨c0, -⟩ := Blk.c10 hb7
                  have HWW : Hid (Below w.heap.size w W7) := HQ5.out.2.trans (HOWN.out.2.2.mono HQ5.out.2.size)
                  have HRW : Hid (RowsOk W7 r.a r.l) := HR5.out.below HOWN.out.2.2
                  simp only [Act.put, List.setIfInBounds_toArray, List.set_cons_zero, List.set_cons_succ]
                  go_cut [71] from 63 to 71 (fun v wx => Hid (v = .bool (decide (10 ≤ n.k ∧ n.k ≤ 13)) ∧ W7 = wx))
                  case first =>
                    go_wp2_with fail
                    refine (cmpint_any _ n.k 10).mono ?_
                    rintro e W8 ⟨rfl, rfl⟩
                    have hck : (0 ≤ Ev.cmpI n.k 10) ↔ 10 ≤ n.k := by unfold Ev.cmpI; (repeat' split) <;> omega
                    generalize Ev.cmpI n.k 10 = o at hck ⊢
                    by_cases h0 : 10 ≤ n.k
                    · have ho : 0 ≤ o := hck.2 h0
                      clear hck
                      by_cases h1 : n.k ≤ 13
                      · have HC : Hid (decide (10 ≤ n.k ∧ n.k ≤ 13) = true) := by show _ = _; rw [decide_eq_true_iff]; exact ⟨h0, h1⟩
                        go_wp2_with fail
                        go_meet
                        case rel => exact ⟨by rw [HC.out], rfl⟩
                      · have HC : Hid (decide (10 ≤ n.k ∧ n.k ≤ 13) = false) := by show _ = _; rw [decide_eq_false_iff_not]; omega
                        go_wp2_with fail
                        go_meet
                        case rel => exact ⟨by rw [HC.out, decide_eq_false (show ¬ n.k ≤ 13 by omega)], rfl⟩
                    · have ho : o < 0 := by omega
                      clear hck
                      have HC : Hid (decide (10 ≤ n.k ∧ n.k ≤ 13) = false) := by show _ = _; rw [decide_eq_false_iff_not]; omega
                      go_wp2_with fail
                      go_meet
                      case rel => exact ⟨by rw [HC.out], rfl⟩
                  case rest =>
                    obtain ⟨hv, rfl⟩ := hcut.out
                    subst hv
                    clear hcut c0
                    by_cases hC : 10 ≤ n.k ∧ n.k ≤ 13
                    · have HIV : Hid (Ev.itemV n r.l = Ev.foldV n r.l) := by show _ = _; unfold Ev.itemV; rw [if_pos hC]
                      rw [decide_eq_true hC]
                      clear hC
                      have d0 := H10.out.cell 0
                      simp only [List.getElem?_cons_zero] at d0
                      go_wp2_with (refine wpList_load_nd rfl (.tmp 13) rfl g13 rfl hb7 ?_)
                      refine (fold_any _ n r.a r.c r.l (node_below HNI.out HWW.out) HRW.out hrc).mono ?_
                      rintro e W8 ⟨rfl, hB8⟩
                      rw [← HIV.out]
                      generalize Ev.itemV n r.l = d at HIO HVS ⊢
                      have hoA := (HOWN.out.2.1.below hB8).alloc (.cells #[.int .i64 d.k, .int .i64 d.n, .float .f64 d.f, txt d.s] 64)
                      have hrA := ERow.lit eVa W8 d #[.int .i64 d.k, .int .i64 d.n, .float .f64 d.f, txt d.s] rfl W8.heap.size rfl
                      have HBA : Hid (Below W5.heap.size W5 (W8.alloc (.cells #[.int .i64 d.k, .int .i64 d.n, .float .f64 d.f, txt d.s] 64)) ∧ W5.heap.size ≤ (W8.alloc (.cells #[.int .i64 d.k, .int .i64 d.n, .float .f64 d.f, txt d.s] 64)).heap.size) := by
                        have hx := (HOWN.out.2.2.then (hB8.mono (Nat.le_refl _))).then ((Below.refl W8.heap.size W8).alloc (Nat.le_refl _) (.cells #[.int .i64 d.k, .int .i64 d.n, .float .f64 d.f, txt d.s] 64))
                        exact ⟨hx, hx.size⟩
                      clear hB8 d0 hb7
                      unfold Va.v
                      go_wp2_with (at_builtin; refine wpList_append_elems eVa rfl (.tmp 72) (.tmp 77) rfl k rfl hoA HOWN.out.1.symm 1 rfl hrA rfl (by have := HOWN.out.1; simp; omega) HBA.out.2 ?_; intro A3 c3 w3 ho3 hb3 hg3 ha3)
                      have HR : Hid ((vs ++ [d]).length = k + 1 ∧ EOwn eVa w3 W5.heap.size A3 c3 (vs ++ [d]) ∧ vs ++ [d] = (q.items.take (k + 1)).map (fun n => Ev.itemV n r.l) ∧ Below W5.heap.size W5 w3) := ⟨by simp [HOWN.out.1], ho3, HVS.out, HBA.out.1.trans hb3⟩
                      clear hoA hrA ho3 hb3 hg3 ha3
                      go_roundw
                      case rel => exact ⟨k + 1, A3, c3, _, by omega, by go_num, by rw [HOWN.out.1], HR.out⟩
                      case measure => simp [intOf]; omega
                    · have HIV : Hid (Ev.itemV n r.l = Ev.eval (Ev.firstR r.l).l n) := by show _ = _; unfold Ev.itemV; rw [if_neg hC]
                      rw [decide_eq_false hC]
                      clear hC
                      have d0 := H10.out.cell 0
                      simp only [List.getElem?_cons_zero] at d0
                      go_upto_region 22 with fail
                      refine wp_region_plan (.take 0 (.take 1 (.take 2 (.run 3 [0, 1] (.run 4 [0] (.run 5 [0] (.run 6 [] (.take 7 .fin)))))))) (by kernel_rfl) (by kernel_rfl) (by kernel_rfl) (by kernel_rfl) ?_
                      repeat' (first | (refine hZ _ _ ?_; clear hZ) | (refine hZ _ ?_; clear hZ) | (refine hZ ?_; clear hZ) | rw [again_nil] | rw [walk_fin] | ((first | rw [walk_take] | rw [walk_run] | rw [again_cons]); intro Z hZ; simp only [sel, List.getElem?_toArray, List.getElem?_cons_zero, List.getElem?_cons_succ]; go_wp2_with (refine wpList_load_nd rfl (.tmp 13) rfl g13 rfl hb7 ?_)))
                      refine (show Calls _ _ #[.agg #[r.h]] _ _ from first_any _ r (HRW.out.below (Below.refl _ _).drewR)).mono ?_
                      rintro e W8 ⟨rfl, hB8⟩
                      have hB8' : Below W7.heap.size W7 W8 := (Below.refl _ _).drewR.trans (hB8.mono (Nat.le_refl _))
                      have hb8 := hb7.below hB8'
                      have d8 := cell_later hB8' d0
                      have HB8 := Lib.hid hB8'
                      clear hB8 hB8' d0 hb7
                      go_wp2_with fail
                      repeat' (first | (refine hZ _ _ ?_; clear hZ) | (refine hZ _ ?_; clear hZ) | (refine hZ ?_; clear hZ) | rw [again_nil] | rw [walk_fin] | ((first | rw [walk_take] | rw [walk_run] | rw [again_cons]); intro Z hZ; simp only [sel, List.getElem?_toArray, List.getElem?_cons_zero, List.getElem?_cons_succ]; go_wp2_with (refine wpList_load_nd rfl (.tmp 13) rfl g13 rfl hb8 ?_)))
                      refine (eval_any W8 _ (Ev.firstR r.l).c (Ev.firstR r.l).l (HRW.out.below HB8.out).first.r (HRW.out.below HB8.out).first.ok (HRW.out.below HB8.out).first.len n (node_below (node_below HNI.out HWW.out) HB8.out) W8 (Below.refl _ _)).mono ?_
                      rintro e W9 ⟨rfl, hB9⟩
                      rw [← HIV.out]
                      generalize Ev.itemV n r.l = d at HIO HVS ⊢
                      have hB9' : Below W7.heap.size W7 W9 := HB8.out.then hB9
                      have hb9 := hb8.below hB9
                      have d9 := cell_later hB9 d8
                      have hoA := (HOWN.out.2.1.below hB9').alloc (.cells #[.int .i64 d.k, .int .i64 d.n, .float .f64 d.f, txt d.s] 64)
                      have hrA := ERow.lit eVa W9 d #[.int .i64 d.k, .int .i64 d.n, .float .f64 d.f, txt d.s] rfl W9.heap.size rfl
                      have HBA : Hid (Below W5.heap.size W5 (W9.alloc (.cells #[.int .i64 d.k, .int .i64 d.n, .float .f64 d.f, txt d.s] 64)) ∧ W5.heap.size ≤ (W9.alloc (.cells #[.int .i64 d.k, .int .i64 d.n, .float .f64 d.f, txt d.s] 64)).heap.size) := by
                        have hx := (HOWN.out.2.2.then (hB9'.mono (Nat.le_refl _))).then ((Below.refl W9.heap.size W9).alloc (Nat.le_refl _) (.cells #[.int .i64 d.k, .int .i64 d.n, .float .f64 d.f, txt d.s] 64))
                        exact ⟨hx, hx.size⟩
                      clear hB9 hB9' d8 hb8
                      unfold Va.v
                      go_wp2_with fail
                      repeat' (first | (refine hZ _ _ ?_; clear hZ) | (refine hZ _ ?_; clear hZ) | (refine hZ ?_; clear hZ) | rw [again_nil] | rw [walk_fin] | ((first | rw [walk_take] | rw [walk_run] | rw [again_cons]); intro Z hZ; simp only [sel, List.getElem?_toArray, List.getElem?_cons_zero, List.getElem?_cons_succ]; go_wp2_with (first | (refine wpList_load_nd rfl (.tmp 13) rfl g13 rfl hb9 ?_) | (at_builtin; refine wpList_append_elems eVa rfl (.tmp 79) (.tmp 84) rfl k rfl hoA HOWN.out.1.symm 1 rfl hrA rfl (by have := HOWN.out.1; simp; omega) HBA.out.2 ?_; intro A3 c3 w3 ho3 hb3 hg3 ha3))))
                      have HR : Hid ((vs ++ [d]).length = k + 1 ∧ EOwn eVa w3 W5.heap.size A3 c3 (vs ++ [d]) ∧ vs ++ [d] = (q.items.take (k + 1)).map (fun n => Ev.itemV n r.l) ∧ Below W5.heap.size W5 w3) := ⟨by simp [HOWN.out.1], ho3, HVS.out, HBA.out.1.trans hb3⟩
                      clear hoA hrA ho3 hb3 hg3 ha3
                      go_wp2_with fail
                      go_roundw
                      case rel => exact ⟨k + 1, A3, c3, _, by omega, by go_num, by rw [HOWN.out.1], HR.out⟩
                      case measure => simp [intOf]; omega
                · have hki : ¬ (k : Int) < (q.items.length : Int) := by omega
                  obtain rfl : k = q.items.length := by omega
                  obtain ⟨k1, k2, k3, k4⟩ := HK.out
                  rw [List.take_length] at k3
                  have HVK : Hid ((∀ v ∈ vs, v.ok) ∧ vs = Ev.rowV q.items r.l ∧ Below W5.heap.size W5 wr ∧ EOwn eVa wr W5.heap.size A11 c11 vs) := by
                    refine ⟨fun v hv => ?_, k3, k4, k2⟩
                    rw [k3] at hv
                    obtain ⟨n, hn, rfl⟩ := List.mem_map.1 hv
                    exact Ev.itemV_ok (HQ.out.iin n hn) HR5.out
                  have hoA := (HOUT.out.2.1.below k4).alloc (.cells #[.slice A11 q.items.length c11] 37)
                  have hrA := ERow.lit eRw wr ⟨A11, vs, c11⟩ #[.slice A11 q.items.length c11] (by show _ = [Value.slice A11 vs.length c11]; rw [k1]) wr.heap.size rfl
                  have hzo : wc.heap.size ≤ (wr.alloc (.cells #[.slice A11 q.items.length c11] 37)).heap.size := by
                    have := k4.size
                    have := HOUT.out.2.2
                    simp
                    omega
                  have HKL := Lib.hid k1
                  clear k1 k2 k3 k4 HK
                  go_wp2_with (at_builtin; refine wpList_append_elems eRw rfl (.tmp 87) (.tmp 89) rfl i rfl hoA HOUT.out.1.symm 1 rfl hrA rfl (by have := HOUT.out.1; simp; omega) hzo ?_; intro A3 c3 w3 ho3 hb3 hg3 ha3)
                  have HR := Lib.hid (HONE.out wr w3 ⟨A11, vs, c11⟩ A3 c3 HVK.out.2.2.1 HVK.out.2.2.2 HVK.out.1 HVK.out.2.1 ho3 (by show Below _ (wr.alloc (.cells #[.slice A11 vs.length c11] _)) _; rw [HKL.out]; exact hb3) (by show (wr.alloc (.cells #[.slice A11 vs.length c11] _)).grownBy _ _; rw [HKL.out]; exact hg3) (by show _ ∨ _ = some (wr.alloc (.cells #[.slice A11 vs.length c11] _)).heap.size; rw [HKL.out]; exact ha3))
                  clear hoA hrA ho3 hb3 hg3 ha3
                  go_roundw
                  case rel => exact ⟨i + 1, A3, c3, _, by omega, by go_num, by rw [HOUT.out.1], HR.out⟩
                  case measure => simp [intOf]; omega
            · have hii : ¬ (i : Int) < (T.length : Int) := by omega
              obtain rfl : i = T.length := by omega
              have HF : Hid (RetRows w (fun R => R = D) (.returned (.slice A8 T.length c8)) wr) := by
                obtain ⟨h0, h1, h2, h3⟩ := HJ.out
                rw [← h0]
                have hz := HQX.out.2.size
                refine ⟨A8, c8, R, rfl, ⟨h1.own.mono hz, h1.rows, h1.cap, h1.ok, h1.ne, Nat.le_trans hz h1.size⟩, ?_, HQX.out.2.trans (h3.mono hz)⟩
                rw [HDT.out, h2, List.take_length]
              go_wp2_with fail
              go_ret
              exact HF.out
end Go.Proofs.YtpahkaffknnjhaaGreatDoor
end

section
namespace Go.Proofs.YtpahkaffknnjhaaGreatDoor
set_option linter.unusedSimpArgs false
set_option linter.unusedVariables false
open Go.RowKit
namespace R18
def na : Nd := .mk 2 [] Key.nul 0 false 1 none [] 0
def nb : Nd := .mk 1 [] ⟨1, 1, 0, []⟩ 0 false 0 none [] 0
def nn (g : Nat) : Nd := .mk 7 [62] Key.nul 0 false 0 (some ⟨g, 0, none⟩) [na, nb] 2
def px (gn gd : Nat) : Pn.PX := ⟨[0], [0], 1, [nn gn], false, [], [⟨0, some ⟨gd, 0, none⟩, [0], 1, false⟩], [], []⟩
def qp (gn gd gt gb gw gi : Nat) : Qp := ⟨px gn gd, some ⟨gt, 0, none⟩, 1, some ⟨gb, 0, none⟩, 1, some ⟨gw, 0, none⟩, 1, none, [], 0, some ⟨gi, 0, none⟩, [na], 1, none, 0, -1⟩
def pm : Pm := .mk 2 0 0 none [] 0 0 (-1) 0 0 none [] 0
def pmv : List Value := [.int .i64 2, .int .i64 0, .int .i64 0, .slice none 0 0, .int .i64 0, .int .i64 (-1), .int .i64 0, .int .i64 0, .slice none 0 0]
def stc (from_ : Value) (done : Bool) (at_ : Int) : List Value := pmv ++ [.slice none 0 0, .slice none 0 0, .int .i64 0, from_, .slice none 0 0, .bool done, .slice none 0 0, .slice none 0 0, .int .i64 at_]
end R18
theorem pm_v : R18.pm.v = .agg R18.pmv.toArray := rfl
def RetBeg (w : World) (e : Ending) (w' : World) : Prop := ∃ g, e = .returned (.pointer (some ⟨g, 0, none⟩)) ∧ Blk w' g 159 (R18.stc (.slice none 0 0) false 0) ∧ w.heap.size ≤ g ∧ Below w.heap.size w w'
set_option maxRecDepth 100000 in
set_option maxHeartbeats 4000000 in
theorem rbegin_any (w : World) : Calls Tryz.prog 71 #[R18.pm.v] w (RetBeg w) := by
  rw [pm_v]
  show Calls _ _ #[.agg #[.int .i64 2, .int .i64 0, .int .i64 0, .slice none 0 0, .int .i64 0, .int .i64 (-1), .int .i64 0, .int .i64 0, .slice none 0 0]] _ _
  go_enter Tryz.func71, Tryz.ntmps71
  go_upto_region 1 with fail
  generalize hW : World.alloc w _ = W1
  obtain ⟨hb1, hz1, hB1⟩ := fresh1 (a := R18.pmv) hW
  clear hW
  obtain ⟨c0, c1, c2, c3, c4, c5, c6, c7, c8⟩ : W1.cell? ⟨w.heap.size, 0, none⟩ = some (.int .i64 2) ∧ W1.cell? ⟨w.heap.size, 1, none⟩ = some (.int .i64 0) ∧ W1.cell? ⟨w.heap.size, 2, none⟩ = some (.int .i64 0) ∧ W1.cell? ⟨w.heap.size, 3, none⟩ = some (.slice none 0 0) ∧ W1.cell? ⟨w.heap.size, 4, none⟩ = some (.int .i64 0) ∧ W1.cell? ⟨w.heap.size, 5, none⟩ = some (.int .i64 (-1)) ∧ W1.cell? ⟨w.heap.size, 6, none⟩ = some (.int .i64 0) ∧ W1.cell? ⟨w.heap.size, 7, none⟩ = some (.int .i64 0) ∧ W1.cell? ⟨w.heap.size, 8, none⟩ = some (.slice none 0 0) :=
    ⟨hb1.cell 0, hb1.cell 1, hb1.cell 2, hb1.cell 3, hb1.cell 4, hb1.cell 5, hb1.cell 6, hb1.cell 7, hb1.cell 8⟩
  have HB1 := Lib.hid hB1
  have HBK := Lib.hid hb1
  clear hb1 hz1 hB1
  obtain ⟨g1, hg1⟩ : ∃ g, w.heap.size = g := ⟨_, rfl⟩
  have HG1 := Lib.hid hg1
  rw [hg1] at c0 c1 c2 c3 c4 c5 c6 c7 c8 HBK
  rw [hg1]
  clear hg1
  go_upto_region 2 with fail
  generalize hW : World.alloc W1 _ = W2
  obtain ⟨hb2, hz2, hB2⟩ := fresh1 (a := R18.stc (.slice none 0 0) false 0) hW
  have HE : Hid (RetBeg w (.returned (.pointer (some ⟨W1.heap.size, 0, none⟩))) W2) := ⟨_, rfl, hb2, HB1.out.size, HB1.out.then hB2⟩
  have d8 : W2.cell? ⟨g1, 8, none⟩ = some (.slice none 0 0) := (HBK.out.below hB2).cell 8
  clear hW hb2 hz2 hB2 c0 c1 c2 c3 c4 c5 c6 c7 c8 HBK
  generalize W1.heap.size = g2 at HE ⊢
  go_wp2_with fail
  go_loopw [12] (fun iv wr => iv = .int .i64 0 ∧ wr = W2) (fun _ _ => 0)
  case atStart => exact ⟨rfl, rfl⟩
  case round =>
    obtain ⟨rfl, rfl⟩ := hrel
    go_wp2_with fail
    go_ret
    exact HE.out
end Go.Proofs.YtpahkaffknnjhaaGreatDoor
end

section
namespace Go.Proofs.YtpahkaffknnjhaaGreatDoor
set_option linter.unusedSimpArgs false
set_option linter.unusedVariables false
open Go.RowKit
structure Lv where
  wd : Nat
  n : Nat
  d : Nat
  t : Nat
  b : Nat
  w : Nat
  i : Nat
  m : Nat
  D : Nat
  G : List Gr
  K : List Ks
namespace R18
def v1 : Va := ⟨1, 1, 0, []⟩
def v2 : Va := ⟨1, 2, 0, []⟩
def k1 : List UInt8 := Run.key [0] [v1] 1
def k2 : List UInt8 := Run.key [0] [v2] 2
end R18
def Lv.wdc (x : Lv) : List Value := [.slice (some ⟨x.t, 0, none⟩) 1 1, .slice (some ⟨x.b, 0, none⟩) 1 1, .int .i64 1, .slice (some ⟨x.w, 0, none⟩) 1 1, .slice none 0 0, .bool false, .slice (some ⟨x.i, 0, none⟩) 1 1, .slice none 0 0, .int .i64 (-1), .slice (some ⟨x.D, 0, none⟩) 1 1, .iface 35 (.pointer (some ⟨x.m, 0, none⟩)), .int .i64 0]
structure LvIn (W : World) (x : Lv) : Prop where
  wd : Blk W x.wd 117 x.wdc
  t : Blk W x.t 3 [.int .i64 0]
  b : Blk W x.b 3 [.int .i64 0]
  n : Blk W x.n 66 (R18.na.cells ++ R18.nb.cells)
  w : Blk W x.w 66 (R18.nn x.n).cells
  i : Blk W x.i 66 R18.na.cells
  D : Blk W x.D 46 [.int .i64 0, .slice (some ⟨x.d, 0, none⟩) 1 1, .bool false]
  d : Blk W x.d 3 [.int .i64 0]
  m : MemAt W x.m x.G x.K
  g : x.G.map Run.rowsG = [[[R18.v1], [R18.v2]]]
  k : x.K.map Run.keysG = [[R18.k1, R18.k2]]
theorem LvIn.below {w W : World} {x : Lv} (h : LvIn w x) (hB : Below w.heap.size w W) : LvIn W x :=
  ⟨h.wd.below hB, h.t.below hB, h.b.below hB, h.n.below hB, h.w.below hB, h.i.below hB, h.D.below hB, h.d.below hB, h.m.below hB, h.g, h.k⟩
theorem Lv.nodes {w : World} {x : Lv} (h : LvIn w x) : ERow eNd w (some ⟨x.w, 0, none⟩) [R18.nn x.n] ∧ NodeIn w (R18.nn x.n) := by
  refine ⟨h.w.row eNd [R18.nn x.n] rfl (by simp [maxLen]), ?_⟩
  have ha : NodeIn w R18.na := .mk ERow.nil (by intro m hm; cases hm) Ev.nul_ok (Nat.zero_le _) ⟨by decide, by decide⟩ ⟨by decide, by decide⟩ (Nat.le_refl 0) (Nat.zero_le _)
  have hb : NodeIn w R18.nb := .mk ERow.nil (by intro m hm; cases hm) ⟨by decide, by decide, by decide, by decide, by decide⟩ (Nat.zero_le _) ⟨by decide, by decide⟩ ⟨by decide, by decide⟩ (Nat.le_refl 0) (Nat.zero_le _)
  refine .mk (h.n.row eNd [R18.na, R18.nb] rfl (by simp [maxLen])) ?_ Ev.nul_ok (Nat.zero_le _) ⟨show (-9223372036854775808 : Int) ≤ 7 by decide, show (7 : Int) ≤ 9223372036854775807 by decide⟩ ⟨show (-9223372036854775808 : Int) ≤ 0 by decide, show (0 : Int) ≤ 9223372036854775807 by decide⟩ (Nat.le_refl 2) (by show 2 ≤ maxLen; decide)
  intro m hm
  rcases List.mem_cons.1 hm with rfl | hm
  · exact ha
  · rw [List.mem_singleton.1 hm]; exact hb
set_option maxRecDepth 100000 in
set_option maxHeartbeats 4000000 in
theorem rcol_any (w : World) (x : Lv) (h : LvIn w x) : Calls Tryz.prog 144 #[.pointer (some ⟨x.wd, 0, none⟩), R18.pm.v, .int .i64 0] w fun e w' => e = .returned (.int .i64 0) ∧ Below w.heap.size w w' := by
  rw [pm_v]
  show Calls _ _ #[_, .agg #[.int .i64 2, .int .i64 0, .int .i64 0, .slice none 0 0, .int .i64 0, .int .i64 (-1), .int .i64 0, .int .i64 0, .slice none 0 0], _] _ _
  go_enter Tryz.func144, Tryz.ntmps144
  go_upto_region 1 with fail
  generalize hW : World.alloc w _ = W1
  obtain ⟨hb1, hz1, hB1⟩ := fresh1 (a := R18.pmv) hW
  have h1 := h.below hB1
  have hb1' := hb1.drew
  have h1' := h1.below (Below.refl W1.heap.size W1).drewR
  have HB : Hid (Below w.heap.size w W1.drew) := hB1.then (Below.refl W1.heap.size W1).drewR
  have c1 := h1'.wd.cell 1
  have c9 := h1'.wd.cell 9
  have cb := h1'.b.cell 0
  have cD := h1'.D.cell 1
  have cd := h1'.d.cell 0
  have p1 := hb1'.cell 1
  have p2 := hb1'.cell 2
  simp only [Lv.wdc, R18.pmv, List.getElem?_cons_zero, List.getElem?_cons_succ] at c1 c9 cb cD cd p1 p2
  clear hW hb1 hz1 hB1 h1 hb1' h1'
  generalize w.heap.size = g1 at p1 p2 ⊢
  refine wp_region_plan (.take 0 (.take 1 (.take 2 (.take 3 (.take 4 (.take 5 (.take 6 (.take 7 (.take 8 (.take 9 (.take 10 (.take 11 (.take 12 (.take 13 (.take 14 (.take 15 (.take 16 (.take 17 (.take 18 (.take 19 (.take 20 (.take 21 (.take 22 .fin))))))))))))))))))))))) (by kernel_rfl) (by kernel_rfl) (by kernel_rfl) (by kernel_rfl) ?_
  repeat' (first | (refine hZ _ _ ?_; clear hZ) | (refine hZ _ ?_; clear hZ) | (refine hZ ?_; clear hZ) | rw [again_nil] | rw [walk_fin] | ((first | rw [walk_take] | rw [walk_run] | rw [again_cons]); intro Z hZ; simp only [sel, List.getElem?_toArray, List.getElem?_cons_zero, List.getElem?_cons_succ]; go_wp2_with (fail)))
  go_wp2_with fail
  go_ret
  exact ⟨rfl, HB.out⟩
end Go.Proofs.YtpahkaffknnjhaaGreatDoor
end

section
namespace Go.Proofs.YtpahkaffknnjhaaGreatDoor
set_option linter.unusedSimpArgs false
set_option linter.unusedVariables false
open Go.RowKit
end Go.Proofs.YtpahkaffknnjhaaGreatDoor
end

section
namespace Go.Proofs.YtpahkaffknnjhaaGreatDoor
set_option linter.unusedSimpArgs false
set_option linter.unusedVariables false
open Go.RowKit
theorem ints_drop (L : List Int) (x : Int) (i : Nat) (hi : i < L.length) : (L.drop i).contains x = (x == L[i] || (L.drop (i + 1)).contains x) := by
  rw [List.drop_eq_getElem_cons hi, List.contains_cons]
set_option maxRecDepth 20000 in
set_option maxHeartbeats 1000000 in
theorem iindex_any (w : World) (A : Option Addr) (c : Nat) (L : List Int) (hL : ERow eInt w A L) (hl : L.length ≤ 1000000) (x : Int) :
    Calls Tryz.prog 170 #[.slice A L.length c, .int .i64 x] w (RetIs w (L.contains x)) := by
  have HL := Lib.hid hL
  clear hL
  obtain ⟨C, hC⟩ : ∃ C, L.contains x = C := ⟨_, rfl⟩
  have HC := Lib.hid hC
  rw [hC]
  clear hC
  go_enter Tryz.func170, Tryz.ntmps170
  go_wp2_with fail
  go_loopw [8] (fun iv wr => ∃ i : Nat, i ≤ L.length ∧ iv = .int .i64 (i : Int) ∧ Hid ((L.drop i).contains x = C ∧ w = wr)) (fun iv _ => L.length - (intOf iv).toNat)
  case atStart => exact ⟨0, Nat.zero_le _, by go_num, HC.out, rfl⟩
  case round =>
    obtain ⟨i, hi, rfl, HJ⟩ := hrel
    obtain ⟨hd, rfl⟩ := HJ.out
    have HD := Lib.hid hd
    clear HJ hd
    by_cases hlt : i < L.length
    · have hii : (i : Int) < (L.length : Int) := by omega
      obtain ⟨bb, oo, ha, -, hc⟩ := int_at HL.out hlt
      have HX : Hid ((x == L[i] || (L.drop (i + 1)).contains x) = C) := by show _ = _; rw [← ints_drop L x i hlt]; exact HD.out
      rw [ha]
      clear ha
      generalize L[i] = y at hc HX
      cases hxy : x == y with
      | true =>
        have HR : Hid (true = C) := by show _ = _; rw [← HX.out, hxy]; rfl
        go_wp2_with fail
        go_ret
        exact ⟨i, rfl, by rw [← HR.out]; exact decide_eq_true (by omega), rfl⟩
      | false =>
        have HR : Hid ((L.drop (i + 1)).contains x = C) := by show _ = _; rw [← HX.out, hxy]; rfl
        go_wp2_with fail
        go_roundw
        case rel => exact ⟨i + 1, by omega, by go_num, HR.out, trivial⟩
        case measure => simp [intOf]; omega
    · have hii : ¬ (i : Int) < (L.length : Int) := by omega
      have HR : Hid (false = C) := by
        show _ = _
        rw [← HD.out, List.drop_eq_nil_of_le (by omega)]
        rfl
      go_wp2_with fail
      go_ret
      exact ⟨-1, rfl, HR.out, rfl⟩
set_option maxRecDepth 20000 in
theorem icontains_any (w : World) (A : Option Addr) (c : Nat) (L : List Int) (hL : ERow eInt w A L) (hl : L.length ≤ 1000000) (x : Int) :
    Calls Tryz.prog 142 #[.slice A L.length c, .int .i64 x] w fun e w' => e = .returned (.bool (L.contains x)) ∧ w = w' := by
  have HL := Lib.hid hL
  clear hL
  obtain ⟨C, hC⟩ : ∃ C, L.contains x = C := ⟨_, rfl⟩
  have HC := Lib.hid (iindex_any w A c L HL.out hl x)
  rw [hC] at HC ⊢
  clear hC
  go_enter Tryz.func142, Tryz.ntmps142
  go_wp2_with fail
  refine HC.out.mono ?_
  rintro e W2 ⟨k, rfl, hk, rfl⟩
  have HK := Lib.hid hk
  clear hk
  go_wp2_with fail
  go_ret
  exact ⟨by rw [← HK.out]; rfl, rfl⟩
inductive GvOk (x : Pn.PX) : Pm → Prop
  | sort {p : Pm} : p.op = 5 → GvOk x p
  | kid {p k : Pm} {l : List Pm} : p.op = 3 ∨ p.op = 4 → p.kids = k :: l → GvOk x k → GvOk x p
  | seq {p : Pm} : p.op = 1 → GvOk x p
  | range {p : Pm} : p.op ≠ 5 → p.op ≠ 3 → p.op ≠ 4 → p.op ≠ 1 → 0 ≤ p.ix → p.ix < (x.defs.length : Int) → 0 ≤ p.fr → p.fr < (x.T.length : Int) → p.eq.length ≤ (x.defs.getD p.ix.toNat ⟨0, none, [], 0, false⟩).cols.length → GvOk x p
namespace Pn
theorem gives_sort {x : PX} {p : Pl} (h : p.op = 5) : gives x p = true := by
  cases p with
  | mk op fr ix eq low high cost rows kids =>
    simp only [Pl.op] at h
    unfold gives
    rw [if_pos h]
theorem gives_kid {x : PX} {p k : Pl} {l : List Pl} (h : p.op = 3 ∨ p.op = 4) (hk : p.kids = k :: l) : gives x p = gives x k := by
  cases p with
  | mk op fr ix eq low high cost rows kids =>
    simp only [Pl.op, Pl.kids] at h hk
    subst hk
    conv => lhs; unfold gives
    rw [if_neg (by omega), if_pos h]
theorem gives_seq {x : PX} {p : Pl} (h : p.op = 1) : gives x p = x.ord.isEmpty := by
  cases p with
  | mk op fr ix eq low high cost rows kids =>
    simp only [Pl.op] at h
    unfold gives
    rw [if_neg (by omega), if_neg (by omega), if_pos h]
theorem gives_range {x : PX} {p : Pl} (h5 : p.op ≠ 5) (h3 : p.op ≠ 3) (h4 : p.op ≠ 4) (h1 : p.op ≠ 1) : gives x p = givF x p.fr (x.defs.getD p.ix.toNat ⟨0, none, [], 0, false⟩).cols p.eq.length x.ord p.eq.length := by
  cases p with
  | mk op fr ix eq low high cost rows kids =>
    simp only [Pl.op] at h5 h3 h4 h1
    unfold gives
    rw [if_neg h5, if_neg (by omega), if_neg h1]
    rfl
theorem givF_drop (x : PX) (f : Int) (cols : List Int) (k : Nat) (L : List So) (i : Nat) (h : i < L.length) (next : Nat) : givF x f cols k (L.drop i) next =
    if L[i].desc = true ∨ ofT x L[i].at_ ≠ f then false
    else if (cols.take k).contains (L[i].at_ - b x f.toNat) then givF x f cols k (L.drop (i + 1)) next
    else if next < cols.length ∧ cols.getD next 0 = L[i].at_ - b x f.toNat then givF x f cols k (L.drop (i + 1)) (next + 1) else false := by
  rw [List.drop_eq_getElem_cons h]; rfl
theorem ofF_hit {x : PX} {at_ : Int} : ∀ (k i : Nat) (f : Nat), ofF x at_ i k = (f : Int) → b x f ≤ at_ ∧ at_ < endN x f
  | 0, i, f, h => by unfold ofF at h; omega
  | k + 1, i, f, h => by
    rw [ofF_drop] at h
    split at h
    · next hc => have : i = f := by omega
                 rw [← this]; exact hc
    · exact ofF_hit k (i + 1) f h
theorem ofT_hit {x : PX} {at_ : Int} {f : Nat} (h : ofT x at_ = (f : Int)) : b x f ≤ at_ ∧ at_ < endN x f := ofF_hit _ _ _ h
end Pn
end Go.Proofs.YtpahkaffknnjhaaGreatDoor
end

section
namespace Go.Proofs.YtpahkaffknnjhaaGreatDoor
set_option linter.unusedSimpArgs false
set_option linter.unusedVariables false
open Go.RowKit
theorem Blk.n9 {w : World} {g : Nat} {t : TypeId} {a b c d e f i j k : Value} (h : Blk w g t [a, b, c, d, e, f, i, j, k]) :
    w.cell? ⟨g, 0, none⟩ = some a ∧ w.cell? ⟨g, 1, none⟩ = some b ∧ w.cell? ⟨g, 2, none⟩ = some c ∧ w.cell? ⟨g, 3, none⟩ = some d ∧ w.cell? ⟨g, 4, none⟩ = some e ∧ w.cell? ⟨g, 5, none⟩ = some f ∧ w.cell? ⟨g, 6, none⟩ = some i ∧ w.cell? ⟨g, 7, none⟩ = some j ∧ w.cell? ⟨g, 8, none⟩ = some k :=
  ⟨h.cell 0, h.cell 1, h.cell 2, h.cell 3, h.cell 4, h.cell 5, h.cell 6, h.cell 7, h.cell 8⟩
namespace Pn
end Pn
namespace Pn
end Pn
end Go.Proofs.YtpahkaffknnjhaaGreatDoor
end

section
namespace Go.Proofs.YtpahkaffknnjhaaGreatDoor
set_option linter.unusedSimpArgs false
set_option linter.unusedVariables false
open Go.RowKit Go.Maps
section
variable {w : World} {ops : Array Oper} {rest : List Oper} {o : Oper} {a : Act} {Q : Exit → Act → World → Prop}
end
end Go.Proofs.YtpahkaffknnjhaaGreatDoor
end

section
namespace Go.Proofs.YtpahkaffknnjhaaGreatDoor
set_option linter.unusedSimpArgs false
set_option linter.unusedVariables false
open Go.RowKit
namespace Pn
end Pn
end Go.Proofs.YtpahkaffknnjhaaGreatDoor
end

section
namespace Go.Proofs.YtpahkaffknnjhaaGreatDoor
set_option linter.unusedSimpArgs false
set_option linter.unusedVariables false
open Go.RowKit Go.Maps
section
variable {w : World} {ops : Array Oper} {rest : List Oper} {o : Oper} {a : Act} {Q : Exit → Act → World → Prop}
end
end Go.Proofs.YtpahkaffknnjhaaGreatDoor
end

section
namespace Go.Proofs.YtpahkaffknnjhaaGreatDoor
set_option linter.unusedSimpArgs false
set_option linter.unusedVariables false
open Go.RowKit Go.Maps
section
variable {w w' : World} {B gm N : Nat} {J : Nat → List (Nat × Nat)} {M : Nat → Pn.Bo} {all s g0 : Nat} {G : Nat → Nat} {ja : Option Addr} {jc : Nat}
end
namespace Pn
end Pn
end Go.Proofs.YtpahkaffknnjhaaGreatDoor
end

section
namespace Go.Proofs.YtpahkaffknnjhaaGreatDoor
set_option linter.unusedSimpArgs false
set_option linter.unusedVariables false
open Go.RowKit
structure Stt where
  rows : Int
  a : Option Addr
  cols : List Cs
  c : Nat
def Stt.cells (x : Stt) : List Value := [.int .i64 x.rows, .slice x.a x.cols.length x.c]
def Stt.v (x : Stt) : Value := .agg x.cells.toArray
def Stt.nul : Stt := ⟨0, none, [], 0⟩
instance : Inhabited Stt := ⟨Stt.nul⟩
section
variable {w : World} {ops : Array Oper} {rest : List Oper} {o : Oper} {a : Act} {Q : Exit → Act → World → Prop}
end
namespace Pn
end Pn
section
variable {w wr W : World} {p : Qp} {da : Option Addr} {dn dc g3 g6 g8 : Nat} {na : Option Addr} {need : List Nat} {nc : Nat} {ra : Option Addr} {rows : List Int} {rc : Nat} {ca : Option Addr} {cols : List Cs} {cc : Nat}
end
end Go.Proofs.YtpahkaffknnjhaaGreatDoor
end

section
namespace Go.Proofs.YtpahkaffknnjhaaGreatDoor
set_option linter.unusedSimpArgs false
set_option linter.unusedVariables false
namespace Pn
end Pn
end Go.Proofs.YtpahkaffknnjhaaGreatDoor
end

section
namespace Go.Proofs.YtpahkaffknnjhaaGreatDoor
set_option linter.unusedSimpArgs false
set_option linter.unusedVariables false
open Go.RowKit Go.Maps
namespace Pn
end Pn
end Go.Proofs.YtpahkaffknnjhaaGreatDoor
end

section
namespace Go.Proofs.YtpahkaffknnjhaaGreatDoor.Pn
set_option linter.unusedSimpArgs false
set_option linter.unusedVariables false
end Go.Proofs.YtpahkaffknnjhaaGreatDoor.Pn
end

section
namespace Go.Proofs.YtpahkaffknnjhaaGreatDoor
set_option linter.unusedSimpArgs false
set_option linter.unusedVariables false
open Go.RowKit
namespace Pn
end Pn
end Go.Proofs.YtpahkaffknnjhaaGreatDoor
end

section
namespace Go.Proofs.YtpahkaffknnjhaaGreatDoor
set_option linter.unusedSimpArgs false
set_option linter.unusedVariables false
open Go.RowKit
inductive PmRd (w : World) : Pm → Prop
  | mk {p : Pm} : ERow eInt w p.ea p.eq → ERow ePm w p.ka p.kids → (∀ k ∈ p.kids, PmRd w k) → p.eq.length ≤ 1000 → p.kids.length ≤ 1000 → PmRd w p
theorem PmRd.later {w W : World} {p : Pm} (h : PmRd w p) (hB : Below w.heap.size w W) : PmRd W p := by
  induction h with
  | mk h1 h2 h3 h4 h5 ih => exact .mk (h1.below hB) (h2.below hB) ih h4 h5
theorem PmRd.nil {w : World} : PmRd w Pm.nil := .mk ERow.nil ERow.nil (by intro k hk; cases hk) (Nat.zero_le _) (Nat.zero_le _)
theorem PmRd.eqr {w : World} {p : Pm} (h : PmRd w p) : ERow eInt w p.ea p.eq := by cases h with | mk h1 => exact h1
theorem PmRd.kidr {w : World} {p : Pm} (h : PmRd w p) : ERow ePm w p.ka p.kids := by cases h with | mk h1 h2 => exact h2
theorem PmRd.kid {w : World} {p : Pm} (h : PmRd w p) : ∀ k ∈ p.kids, PmRd w k := by cases h with | mk h1 h2 h3 => exact h3
theorem PmRd.eql {w : World} {p : Pm} (h : PmRd w p) : p.eq.length ≤ 1000 := by cases h with | mk h1 h2 h3 h4 => exact h4
theorem PmRd.kidl {w : World} {p : Pm} (h : PmRd w p) : p.kids.length ≤ 1000 := by cases h with | mk h1 h2 h3 h4 h5 => exact h5
end Go.Proofs.YtpahkaffknnjhaaGreatDoor
end

section
namespace Go.Proofs.YtpahkaffknnjhaaGreatDoor
set_option linter.unusedSimpArgs false
set_option linter.unusedVariables false
namespace Pn
def wd (x : PX) (D : List Df) : PX := { x with defs := D }
section
variable (x : PX) (D : List Df)
theorem ofF_wd (at_ : Int) : ∀ k i, ofF (wd x D) at_ i k = ofF x at_ i k
  | 0, _ => rfl
  | k + 1, i => by
    show (if _ then _ else ofF (wd x D) at_ (i + 1) k) = (if _ then _ else ofF x at_ (i + 1) k)
    rw [ofF_wd at_ k (i + 1)]
    rfl
theorem ofT_wd (at_ : Int) : ofT (wd x D) at_ = ofT x at_ := ofF_wd x D at_ _ _
theorem asksK_wd (k at_ : Int) (l : List (Nat × Bool)) : asksK (wd x D) k at_ l = asksK x k at_ l := by
  unfold asksK
  rw [ofT_wd]
mutual
theorem asks_wd : ∀ n : Nd, asks (wd x D) n = asks x n
  | .mk k _ _ at_ _ _ _ args _ => by
    show asksK (wd x D) k at_ (asksL (wd x D) args) = asksK x k at_ (asksL x args)
    rw [asksK_wd, asksL_wd args]
theorem asksL_wd : ∀ l : List Nd, asksL (wd x D) l = asksL x l
  | [] => rfl
  | n :: l => by
    show asks (wd x D) n :: asksL (wd x D) l = asks x n :: asksL x l
    rw [asks_wd n, asksL_wd l]
end
theorem agHit_wd (y z : Nd) (op : List UInt8) (at_ : Int) (given : Nat) (ops : List (List UInt8)) : agHit (wd x D) y z op at_ given ops = agHit x y z op at_ given ops := by
  unfold agHit
  rw [asks_wd]
theorem agst_wd (n : Nd) (at_ : Int) (given : Nat) (ops : List (List UInt8)) : agst (wd x D) n at_ given ops = agst x n at_ given ops := by
  unfold agst
  simp only [agHit_wd]
end
end Pn
end Go.Proofs.YtpahkaffknnjhaaGreatDoor
end

section
namespace Go.Proofs.YtpahkaffknnjhaaGreatDoor
set_option linter.unusedSimpArgs false
set_option linter.unusedVariables false
open Go.RowKit
namespace Pn
def chOk (x : PX) (n : Nat) : Bool := may x && n == x.T.length && decide (x.defs.length ≤ 64) && x.wh.all (fun y => !(asks x y).2) && (!orders x || (sorts x).2)
end Pn
theorem all8 {n : Nat} (h1 : 1 ≤ n) (h4 : n ≤ 4) : ((2 : Int) ^ n % 256 - 1) % 256 = ((2 ^ n - 1 : Nat) : Int) := by
  have h : n = 1 ∨ n = 2 ∨ n = 3 ∨ n = 4 := by omega
  rcases h with rfl | rfl | rfl | rfl <;> rfl
end Go.Proofs.YtpahkaffknnjhaaGreatDoor
end

section
namespace Go.Proofs.YtpahkaffknnjhaaGreatDoor
set_option linter.unusedSimpArgs false
set_option linter.unusedVariables false
open Go.RowKit Go.Deep Go.WideShapes Go.ChangeShapes
instance : Inhabited Cs := ⟨Cs.nul⟩
structure QpRaw (w : World) (p : Qp) : Prop where
  t : ERow eInt w p.ta p.x.T
  tin : ∀ n ∈ p.x.T, Ev.inB n
  tl : p.x.T.length ≤ p.tc
  tm : p.tc ≤ maxLen
  b : ERow eInt w p.ba p.x.B
  bin : ∀ n ∈ p.x.B, Ev.inB n
  bl : p.x.B.length ≤ p.bc
  bm : p.bc ≤ maxLen
  win : Ev.inB p.x.W
  wn : ERow eNd w p.wa p.x.wh
  nin : ∀ n ∈ p.x.wh, NodeIn w n
  wl : p.x.wh.length ≤ p.wc
  wm : p.wc ≤ maxLen
  o : ERow eSo w p.oa p.x.ord
  oin : ∀ s ∈ p.x.ord, Ev.inB s.at_
  ol : p.x.ord.length ≤ p.oc
  om : p.oc ≤ maxLen
theorem QpRaw.below {w W : World} {p : Qp} (h : QpRaw w p) (hB : Below w.heap.size w W) : QpRaw W p :=
  ⟨h.t.below hB, h.tin, h.tl, h.tm, h.b.below hB, h.bin, h.bl, h.bm, h.win, h.wn.below hB, fun n hn => nd_below15 (h.nin n hn) hB, h.wl, h.wm, h.o.below hB, h.oin, h.ol, h.om⟩
def DfRaw (w : World) (d : Df) : Prop := ERow eInt w d.a d.cols ∧ (∀ c ∈ d.cols, Ev.inB c) ∧ d.cols.length ≤ d.c ∧ d.c ≤ maxLen
theorem DfRaw.below {w W : World} {d : Df} (h : DfRaw w d) (hB : Below w.heap.size w W) : DfRaw W d := ⟨h.1.below hB, h.2⟩
section
variable {H : Type} {enc : TypeId × Value → H} {w : World} {base : Nat} {spare : Nat → Bool} {held : Bool} {fuel : Nat} {cs : List Value} {x : DataW H × List MemPlace}
set_option maxRecDepth 20000 in
theorem open_df (h : DataW.trod enc Tryz.prog w base spare held fuel 46 cs = some x) (hlen : cs.length = 3) : ∃ d : Df, cs = eDf.code d ∧ DfRaw w d := by
  obtain ⟨xs, k, hk, rfl, _, hxl, hfs⟩ := DataW.trod_struct Tryz.underlying46 h
  match xs, hxl, cs, hlen with
  | [y0, y1, y2], _, [v0, v1, v2], _ =>
    have g0 := hfs 0 _ rfl
    have g1 := hfs 1 _ rfl
    have g2 := hfs 2 _ rfl
    have q0 : Tryz.prog.cellsOf 3 = 1 := by kernel_rfl
    have q1 : Tryz.prog.cellsOf 22 = 1 := by kernel_rfl
    have q2 : Tryz.prog.cellsOf 4 = 1 := by kernel_rfl
    simp [q0, q1, q2] at g0 g1 g2
    obtain ⟨n0, e0, _⟩ := open_i64 Tryz.underlying3 g0
    obtain ⟨A, L, c, e1, r1, i1, l1, m1⟩ := open_intlist g1
    obtain ⟨b, e2, _⟩ := DataW.trod_bool Tryz.underlying4 g2
    have e0' : v0 = .int .i64 n0 := by simpa using e0
    have e1' : v1 = .slice A L.length c := by simpa using e1
    have e2' : v2 = .bool b := by simpa using e2
    subst e0' e1' e2'
    exact ⟨⟨n0, A, L, c, b⟩, rfl, r1, i1, l1, m1⟩
end
end Go.Proofs.YtpahkaffknnjhaaGreatDoor
end

section
namespace Go.Proofs.YtpahkaffknnjhaaGreatDoor
set_option linter.unusedSimpArgs false
set_option linter.unusedVariables false
open Go.RowKit
def Qp.nul : Qp := ⟨⟨[], [], 0, [], false, [], [], [], []⟩, none, 0, none, 0, none, 0, none, [], 0, none, [], 0, none, 0, 0⟩
theorem qp_zero (W : World) : (zeroValue 26).run Tryz.prog W = .ok Qp.nul.v W := (zero_of_info (P := Tryz.prog) (t := 26) (v := Qp.nul.v) (n := 9) (by kernel_rfl)).1 W
section
variable {w : World} {ops : Array Oper} {rest : List Oper} {o : Oper} {a : Act} {Q : Exit → Act → World → Prop}
theorem wpList_alloc_qp (hgd : o.guard = none) (hop : o.op = .alloc 26)
    (h : ∀ W, Blk W w.heap.size 26 Qp.nul.cells → w.heap.size + 1 ≤ W.heap.size → Below w.heap.size w W → wpList Tryz.prog ops Q rest (a.put o.dst (.pointer (some ⟨w.heap.size, 0, none⟩))) W) : wpList Tryz.prog ops Q (o :: rest) a w :=
  wpList_alloc_z hgd 26 hop (qp_zero _) fun W hW => by
    obtain ⟨h1, h2, h3⟩ := fresh1 (a := Qp.nul.cells) hW
    exact h W h1 h2 h3
theorem wpList_store_qp (hgd : o.guard = none) (hod : o.dst = none) (x y : Operand) (hop : o.op = .store 26 x y) (g : Nat) (hx : a.eval x = .pointer (some ⟨g, 0, none⟩)) (b : Qp) (hy : a.eval y = b.v) {T0 : TypeId} {old : Qp} (hb : Blk w g T0 old.cells)
    (h : ∀ W, Blk W g T0 b.cells → w.grownBy W (some g) → wpList Tryz.prog ops Q rest a W) : wpList Tryz.prog ops Q (o :: rest) a w :=
  wpList_store_blk hgd hod 26 x y hop g hx b.cells hy hb rfl qp_info (by
    intro u hu
    simp [Qp.cells] at hu
    rcases hu with rfl | rfl | rfl | rfl | rfl | rfl | rfl | rfl | rfl <;> rfl) h
end
namespace L17
def na : Nd := .mk 2 [] Key.nul 0 false 1 none [] 0
def nb : Nd := .mk 1 [] ⟨1, 5, 0, []⟩ 0 false 0 none [] 0
def nn (g : Nat) : Nd := .mk 7 [61] Key.nul 0 false 0 (some ⟨g, 0, none⟩) [na, nb] 2
def ca : Cs := ⟨500, 0, none, [], 0⟩
def px (gn gd : Nat) : Pn.PX := ⟨[0], [0], 2, [nn gn], false, [], [⟨0, some ⟨gd, 0, none⟩, [0], 1, false⟩], [1000, 1000], [ca, Cs.nul]⟩
def qp (x : Pn.PX) (gt gb gw : Nat) : Qp := ⟨x, some ⟨gt, 0, none⟩, 1, some ⟨gb, 0, none⟩, 1, some ⟨gw, 0, none⟩, 1, none, [], 0, none, [], 0, none, 0, -1⟩
def st (g : Nat) : Stt := ⟨1000, some ⟨g, 0, none⟩, [ca, Cs.nul], 2⟩
theorem ok (gn gd : Nat) : Pn.chOk (px gn gd) 1 = true := by kernel_rfl
theorem op (gn gd : Nat) : (Pn.choose (px gn gd)).op = 2 := by kernel_rfl
theorem cost (gn gd : Nat) : (Pn.choose (px gn gd)).cost = 52 := by kernel_rfl
theorem rows (gn gd : Nat) : (Pn.choose (px gn gd)).rows = 2 := by kernel_rfl
theorem eq (gn gd : Nat) : (Pn.choose (px gn gd)).eq.length = 1 := by kernel_rfl
end L17
namespace Pm
theorem e_eql (p : Pm) : p.e.eq = p.eq := by cases p; rfl
end Pm
end Go.Proofs.YtpahkaffknnjhaaGreatDoor
end

section
namespace Go.Proofs.YtpahkaffknnjhaaGreatDoor
set_option linter.unusedSimpArgs false
set_option linter.unusedVariables false
open Go.RowKit
namespace Pn
def isCol (n : Nd) (at_ : Int) : Bool := n.k == 2 && n.at_ == at_
def valN (n : Nd) (at_ : Int) : Nd := match n.args with
  | [y, z] => if isCol y at_ = true ∧ isCol z at_ = false then z else y
  | _ => Nd.nil
end Pn
theorem NodeIn.kids {w : World} {n : Nd} (h : NodeIn w n) : ∀ m ∈ n.args, NodeIn w m := by cases h with | mk h1 h2 => exact h2
theorem NodeIn.row {w : World} {n : Nd} (h : NodeIn w n) : ERow eNd w n.a n.args := by cases h with | mk h1 => exact h1
theorem NodeIn.nil (w : World) : NodeIn w Nd.nil := NodeIn.mk ERow.nil (by intro m hm; cases hm) Ev.nul_ok (Nat.zero_le _) (show Ev.inB 0 from ⟨by decide, by decide⟩) (show Ev.inB 0 from ⟨by decide, by decide⟩) (Nat.le_refl _) (Nat.zero_le _)
theorem ret_nd17 {fn : Func} {R : Ending → World → Prop} {a : Act} {w : World} {p : Tmp} {g : Nat} {T0 : TypeId} {b : Nd} (hb : Blk w g T0 b.cells) (h : fn.results = #[.cell p 66]) (hd : a.defers = [])
    (hp : a.tmps.getD p undef = .pointer (some ⟨g, 0, none⟩)) (hR : R (.returned b.v) w) : bodyPost Tryz.prog fn R .ret a w :=
  ret_mem1 h hd hp (run_loadVar_mid w g 0 66 b.cells _ (hb.range 0 b.cells fun j _ => by rw [Nat.zero_add]) Tryz.underlying66 rfl nd_info) hR
theorem nd_cells {w : World} {b o : Nat} {L : List Nd} (h : ERow eNd w (some ⟨b, o, none⟩) L) {j : Nat} (hj : j < L.length) (n : Nd) (hn : L[j] = n) :
    w.cell? ⟨b, o + j * 10, none⟩ = some (.int .i64 n.k) ∧ w.cell? ⟨b, o + j * 10 + 1, none⟩ = some (txt n.op) ∧ w.cell? ⟨b, o + j * 10 + 2, none⟩ = some (.int .i64 n.lit.k) ∧ w.cell? ⟨b, o + j * 10 + 3, none⟩ = some (.int .i64 n.lit.n) ∧ w.cell? ⟨b, o + j * 10 + 4, none⟩ = some (.float .f64 n.lit.f) ∧
    w.cell? ⟨b, o + j * 10 + 5, none⟩ = some (txt n.lit.s) ∧ w.cell? ⟨b, o + j * 10 + 6, none⟩ = some (.int .i64 n.at_) ∧ w.cell? ⟨b, o + j * 10 + 7, none⟩ = some (.bool n.no) ∧ w.cell? ⟨b, o + j * 10 + 8, none⟩ = some (.int .i64 n.ty) ∧ w.cell? ⟨b, o + j * 10 + 9, none⟩ = some (.slice n.a n.args.length n.c) := by
  subst hn
  obtain ⟨b', o', e, -, hc⟩ := h.at_ hj
  cases e
  exact ⟨hc 0 _ rfl, hc 1 _ rfl, hc 2 _ rfl, hc 3 _ rfl, hc 4 _ rfl, hc 5 _ rfl, hc 6 _ rfl, hc 7 _ rfl, hc 8 _ rfl, hc 9 _ rfl⟩
def RetNd (w : World) (n : Nd) (e : Ending) (w' : World) : Prop := e = .returned n.v ∧ Below w.heap.size w w'
set_option maxRecDepth 20000 in
set_option maxHeartbeats 4000000 in
theorem pvalue_any (w : World) (n : Nd) (hn : NodeIn w n) (at_ : Int) : Calls Tryz.prog 143 #[n.v, .int .i64 at_] w (RetNd w (Pn.valN n at_)) := by
  have HN := Lib.hid hn
  have hcm : n.args.length ≤ 9223372036854775807 := by cases hn with | mk _ _ _ _ _ _ h1 h2 => unfold maxLen at h2; omega
  clear hn
  go_enter Tryz.func143, Tryz.ntmps143
  go_upto_region 1 with (first | (refine wpList_box_nd rfl (.tmp 0) rfl n rfl ?_; intro W1 hb1 hz1 hB1) | (refine wpList_alloc_nd rfl rfl ?_; intro W2 hb2 hz2 hB2))
  have HB1 := Lib.hid hB1
  have h12 := hb1.below hB2
  obtain ⟨-, -, -, -, -, -, -, -, -, c9, -⟩ := Blk.c10 h12
  have hg12 : w.heap.size < W1.heap.size := by omega
  clear hb1 hB1 h12
  obtain ⟨g2, hg2⟩ : ∃ g, w.heap.size = g := ⟨_, rfl⟩
  obtain ⟨g4, hg4⟩ : ∃ g, W1.heap.size = g := ⟨_, rfl⟩
  rw [hg2] at c9
  rw [hg4] at hb2
  rw [hg2, hg4]
  by_cases hlen : n.args.length = 2
  · have hli : (n.args.length : Int) = 2 := by omega
    obtain ⟨y, z, hyz⟩ : ∃ y z, n.args = [y, z] := by
      cases h : n.args with
      | nil => rw [h] at hlen; cases hlen
      | cons y l => cases l with
        | nil => rw [h] at hlen; cases hlen
        | cons z l => cases l with
          | nil => exact ⟨y, z, rfl⟩
          | cons x l => rw [h] at hlen; simp at hlen
    have HRW : Hid (ERow eNd W2 n.a [y, z]) := by show ERow _ _ _ _; rw [← hyz]; exact HN.out.row.below (HB1.out.then hB2)
    have HY : Hid (Pn.valN n at_ = if Pn.isCol y at_ = true ∧ Pn.isCol z at_ = false then z else y) := by show _ = _; unfold Pn.valN; rw [hyz]
    obtain ⟨bb, oo, ha, -, -⟩ := HRW.out.at_ (j := 0) (by simp)
    have HR2 : Hid (ERow eNd W2 (some ⟨bb, oo, none⟩) [y, z]) := by show ERow _ _ _ _; rw [← ha]; exact HRW.out
    rw [ha] at c9
    obtain ⟨y0, -, -, -, -, -, y6, -⟩ := nd_cells HR2.out (j := 0) (by simp) y rfl
    obtain ⟨z0, -, -, -, -, -, z6, -⟩ := nd_cells HR2.out (j := 1) (by simp) z rfl
    rw [Nat.zero_mul, Nat.add_zero] at y0 y6
    rw [Nat.one_mul] at z0 z6
    rw [hlen] at c9
    clear hlen hli hcm HRW ha hyz
    have hl1 : 1 < [y, z].length := by simp
    have hl0 : 0 < [y, z].length := by simp
    obtain ⟨b1, k1⟩ : ∃ b, (y.k == 2) = b := ⟨_, rfl⟩
    obtain ⟨b2, k2⟩ : ∃ b, (y.at_ == at_) = b := ⟨_, rfl⟩
    obtain ⟨b3, k3⟩ : ∃ b, (z.k == 2) = b := ⟨_, rfl⟩
    obtain ⟨b4, k4⟩ : ∃ b, (z.at_ == at_) = b := ⟨_, rfl⟩
    cases b1 with
    | false =>
      have HNV : Hid (Pn.valN n at_ = y) := by show _ = _; rw [HY.out]; simp [Pn.isCol, k1]
      go_upto_region 5 with fail
      go_wp2_with (first | (refine wpList_load_nd_is (j := 0) rfl (.tmp 49) rfl HR2.out hl0 y rfl rfl ?_) | (refine wpList_store_nd rfl rfl (.tmp 4) (.tmp 50) rfl g4 rfl y rfl hb2 ?_; intro W3 hb3 hg3))
      refine ret_nd17 hb3 rfl rfl rfl ⟨?_, below_of_grown (HB1.out.then hB2) hg3 (by have := HB1.out.size; omega) (by have := HB1.out.size; have := hB2.size; omega)⟩
      rw [HNV.out]
    | true =>
      cases b2 with
      | false =>
        have HNV : Hid (Pn.valN n at_ = y) := by show _ = _; rw [HY.out]; simp [Pn.isCol, k1, k2]
        go_upto_region 5 with fail
        go_wp2_with (first | (refine wpList_load_nd_is (j := 0) rfl (.tmp 49) rfl HR2.out hl0 y rfl rfl ?_) | (refine wpList_store_nd rfl rfl (.tmp 4) (.tmp 50) rfl g4 rfl y rfl hb2 ?_; intro W3 hb3 hg3))
        refine ret_nd17 hb3 rfl rfl rfl ⟨?_, below_of_grown (HB1.out.then hB2) hg3 (by have := HB1.out.size; omega) (by have := HB1.out.size; have := hB2.size; omega)⟩
        rw [HNV.out]
      | true =>
        cases b3 with
        | false =>
          have HNV : Hid (Pn.valN n at_ = z) := by show _ = _; rw [HY.out]; simp [Pn.isCol, k1, k2, k3]
          go_upto_region 4 with fail
          go_wp2_with (first | (refine wpList_load_nd_is (j := 1) rfl (.tmp 45) rfl HR2.out hl1 z rfl rfl ?_) | (refine wpList_store_nd rfl rfl (.tmp 4) (.tmp 46) rfl g4 rfl z rfl hb2 ?_; intro W3 hb3 hg3))
          refine ret_nd17 hb3 rfl rfl rfl ⟨?_, below_of_grown (HB1.out.then hB2) hg3 (by have := HB1.out.size; omega) (by have := HB1.out.size; have := hB2.size; omega)⟩
          rw [HNV.out]
        | true =>
          cases b4 with
          | false =>
            have HNV : Hid (Pn.valN n at_ = z) := by show _ = _; rw [HY.out]; simp [Pn.isCol, k1, k2, k3, k4]
            go_upto_region 4 with fail
            go_wp2_with (first | (refine wpList_load_nd_is (j := 1) rfl (.tmp 45) rfl HR2.out hl1 z rfl rfl ?_) | (refine wpList_store_nd rfl rfl (.tmp 4) (.tmp 46) rfl g4 rfl z rfl hb2 ?_; intro W3 hb3 hg3))
            refine ret_nd17 hb3 rfl rfl rfl ⟨?_, below_of_grown (HB1.out.then hB2) hg3 (by have := HB1.out.size; omega) (by have := HB1.out.size; have := hB2.size; omega)⟩
            rw [HNV.out]
          | true =>
            have HNV : Hid (Pn.valN n at_ = y) := by show _ = _; rw [HY.out]; simp [Pn.isCol, k1, k2, k3, k4]
            go_upto_region 5 with fail
            go_wp2_with (first | (refine wpList_load_nd_is (j := 0) rfl (.tmp 49) rfl HR2.out hl0 y rfl rfl ?_) | (refine wpList_store_nd rfl rfl (.tmp 4) (.tmp 50) rfl g4 rfl y rfl hb2 ?_; intro W3 hb3 hg3))
            refine ret_nd17 hb3 rfl rfl rfl ⟨?_, below_of_grown (HB1.out.then hB2) hg3 (by have := HB1.out.size; omega) (by have := HB1.out.size; have := hB2.size; omega)⟩
            rw [HNV.out]
  · have hli : ¬ (n.args.length : Int) = 2 := by omega
    have HNV : Hid (Pn.valN n at_ = Nd.nil) := by
      show _ = _
      unfold Pn.valN
      split
      · next y z e => rw [e] at hlen; exact absurd rfl hlen
      · rfl
    go_wp2_with (refine wpList_store_nd rfl rfl (.tmp 4) (.tmp 9) rfl g4 rfl Nd.nil rfl hb2 ?_; intro W3 hb3 hg3)
    refine ret_nd17 hb3 rfl rfl rfl ⟨?_, below_of_grown (HB1.out.then hB2) hg3 (by have := HB1.out.size; omega) (by have := HB1.out.size; have := hB2.size; omega)⟩
    rw [HNV.out]
end Go.Proofs.YtpahkaffknnjhaaGreatDoor
end

section
namespace Go.Proofs.YtpahkaffknnjhaaGreatDoor
set_option linter.unusedSimpArgs false
set_option linter.unusedVariables false
open Go.RowKit
def RetRunSt (w0 : World) (gs : Nat) (l : List UInt8) (done : Bool) (e : Ending) (w' : World) : Prop :=
  e = .returned (.tuple #[]) ∧ ∃ A c, Blk w' gs 159 (R18.stc (.slice A l.length c) done (-1)) ∧ BRow w' A l ∧ l.length ≤ c ∧ Below w0.heap.size w0 w'
theorem rbound_no (w : World) (p q r : Value) (b : Bool) : Calls Tryz.prog 146 #[p, q, r, .int .i64 (-1), .bool b] w fun e w' => e = .returned (.tuple #[]) ∧ w' = w := by
  go_enter Tryz.func146, Tryz.ntmps146
  go_wp2_with fail
  (try simp only [Exit.inBlock, Exit.then])
  refine bodyPost_ret (results_none rfl _ _ _) rfl ?_
  exact ⟨rfl, rfl⟩
theorem val_nn (g : Nat) (at_ : Int) (h : at_ = 0) : Pn.valN (R18.nn g) at_ = R18.nb := by subst h; rfl
theorem eval_nb : Ev.eval [] R18.nb = R18.v1 := by rfl
theorem clean_v1 : Key.clean R18.v1 = R18.v1 := by rfl
set_option maxRecDepth 100000 in
set_option maxHeartbeats 8000000 in
theorem rbound_low (w0 : World) (x : Lv) (h : LvIn w0 x) (W : World) (hB : Below w0.heap.size w0 W) (gs : Nat) (hgs : w0.heap.size ≤ gs) (fv : Value) (hs : Blk W gs 159 (R18.stc fv false (-1))) (pA : Option Addr) (pc : Nat) :
    Calls Tryz.prog 146 #[.pointer (some ⟨x.wd, 0, none⟩), .pointer (some ⟨gs, 0, none⟩), .slice pA 0 pc, .int .i64 0, .bool true] W (RetRunSt w0 gs (Key.part R18.v1) false) := by
  have hsc : Blk W.drew gs 159 (R18.stc fv false (-1)) := hs.drew
  have HC : Hid (Below w0.heap.size w0 W.drew) := hB.then (Below.refl W.heap.size W).drewR
  clear hs hB
  have w3 := (h.below HC.out).wd.cell 3
  have s0 := hsc.cell 0
  have s1 := hsc.cell 1
  have s2 := hsc.cell 2
  have s3 := hsc.cell 3
  have s4 := hsc.cell 4
  have s5 := hsc.cell 5
  have s6 := hsc.cell 6
  have s7 := hsc.cell 7
  have s8 := hsc.cell 8
  simp only [Lv.wdc, R18.stc, R18.pmv, List.cons_append, List.getElem?_cons_zero, List.getElem?_cons_succ] at w3 s0 s1 s2 s3 s4 s5 s6 s7 s8
  go_enter Tryz.func146, Tryz.ntmps146
  go_upto_region 1 with fail
  refine wp_region_plan (.take 0 (.take 1 (.take 2 (.take 3 (.take 4 (.take 5 (.take 6 (.take 7 (.take 8 (.take 9 (.take 10 (.take 11 (.take 12 (.take 13 (.take 14 (.take 15 (.take 16 (.take 17 (.take 18 (.fork (.run 19 [0, 1, 2, 3, 4, 5, 6, 7] (.fork (.run 20 [] (.fork (.run 21 [] (.run 22 [] (.run 23 [] .fin))) (.run 22 [] (.run 21 [] (.run 23 [] .fin))))) (.run 22 [0, 1, 2, 3, 4, 5, 6, 7] (.run 20 [] (.run 21 [] (.run 23 [] .fin)))))) (.run 22 [0, 1, 2, 3, 4, 5, 6, 7, 8, 9, 10, 11, 12, 13, 14, 15, 16, 17, 18] (.run 19 [0, 1, 2, 3, 4, 5, 6, 7] (.run 20 [] (.run 21 [] (.run 23 [] .fin))))))))))))))))))))))))) (by kernel_rfl) (by kernel_rfl) (by kernel_rfl) (by kernel_rfl) ?_
  repeat' (first | (refine hZ _ _ ?_; clear hZ) | (refine hZ _ ?_; clear hZ) | (refine hZ ?_; clear hZ) | rw [again_nil] | rw [walk_fin] | ((first | rw [walk_take] | rw [walk_run] | rw [again_cons]); intro Z hZ; simp only [sel, List.getElem?_toArray, List.getElem?_cons_zero, List.getElem?_cons_succ]; go_wp2_with (refine wpList_load_nd_at rfl (.tmp 22) rfl (Lv.nodes (h.below HC.out)).1 (j := 0) (by simp) rfl ?_)))
  repeat' (first
    | (refine hZ _ _ ?_; clear hZ)
    | (refine hZ _ ?_; clear hZ)
    | (refine hZ ?_; clear hZ)
    | rw [again_nil]
    | (rw [walk_fork]; refine ⟨?_, ?_⟩)
    | (
      clear w3 s0 s1 s2 s3 s4 s5 s6 s7 s8
      refine (rcol_any _ x (h.below HC.out)).mono ?_
      rintro e W8 ⟨rfl, hB8⟩
      have HC' := HC
      clear HC
      have HC := Lib.hid (HC'.out.then hB8)
      replace hsc := hsc.below hB8
      (try replace hal := hal.below hB8)
      clear HC' hB8
      have w3 := (h.below HC.out).wd.cell 3
      have s0 := hsc.cell 0
      have s1 := hsc.cell 1
      have s2 := hsc.cell 2
      have s3 := hsc.cell 3
      have s4 := hsc.cell 4
      have s5 := hsc.cell 5
      have s6 := hsc.cell 6
      have s7 := hsc.cell 7
      have s8 := hsc.cell 8
      simp only [Lv.wdc, R18.stc, R18.pmv, List.cons_append, List.getElem?_cons_zero, List.getElem?_cons_succ] at w3 s0 s1 s2 s3 s4 s5 s6 s7 s8
      go_wp2_with fail)
    | (
      clear w3 s0 s1 s2 s3 s4 s5 s6 s7 s8
      refine (pvalue_any _ (R18.nn x.n) (Lv.nodes (h.below HC.out)).2 0).mono ?_
      rintro e W8 ⟨rfl, hB8⟩
      rw [val_nn _ _ rfl]
      have HC' := HC
      clear HC
      have HC := Lib.hid (HC'.out.then hB8)
      replace hsc := hsc.below hB8
      (try replace hal := hal.below hB8)
      clear HC' hB8
      have w3 := (h.below HC.out).wd.cell 3
      have s0 := hsc.cell 0
      have s1 := hsc.cell 1
      have s2 := hsc.cell 2
      have s3 := hsc.cell 3
      have s4 := hsc.cell 4
      have s5 := hsc.cell 5
      have s6 := hsc.cell 6
      have s7 := hsc.cell 7
      have s8 := hsc.cell 8
      simp only [Lv.wdc, R18.stc, R18.pmv, List.cons_append, List.getElem?_cons_zero, List.getElem?_cons_succ] at w3 s0 s1 s2 s3 s4 s5 s6 s7 s8
      go_wp2_with fail)
    | (
      clear w3 s0 s1 s2 s3 s4 s5 s6 s7 s8
      refine (show Calls _ _ #[R18.nb.v, .slice none ([] : List Va).length 0] _ _ from (eval_any w0 none 0 [] ERow.nil (by intro v hv; cases hv) (by simp) R18.nb ((Lv.nodes h).2.kids R18.nb (by simp [R18.nn, Nd.args]))) _ HC.out).mono ?_
      rintro e W8 ⟨rfl, hB8⟩
      rw [eval_nb]
      have HC' := HC
      clear HC
      have HC := Lib.hid (HC'.out.then hB8)
      replace hsc := hsc.below hB8
      (try replace hal := hal.below hB8)
      clear HC' hB8
      have w3 := (h.below HC.out).wd.cell 3
      have s0 := hsc.cell 0
      have s1 := hsc.cell 1
      have s2 := hsc.cell 2
      have s3 := hsc.cell 3
      have s4 := hsc.cell 4
      have s5 := hsc.cell 5
      have s6 := hsc.cell 6
      have s7 := hsc.cell 7
      have s8 := hsc.cell 8
      simp only [Lv.wdc, R18.stc, R18.pmv, List.cons_append, List.getElem?_cons_zero, List.getElem?_cons_succ] at w3 s0 s1 s2 s3 s4 s5 s6 s7 s8
      go_wp2_with fail)
    | (
      (first | rw [walk_take] | rw [walk_run] | rw [again_cons])
      intro Z hZ
      simp only [sel, List.getElem?_toArray, List.getElem?_cons_zero, List.getElem?_cons_succ]
      go_wp2_with (first
        | (refine wpList_load_nd_at rfl (.tmp 22) rfl (Lv.nodes (h.below HC.out)).1 (j := 0) (by simp) rfl ?_)
        | (
          have hne := hsc.lt
          have hga := HC.out.size
          refine wpList_alloc_va rfl rfl ?_
          intro W7 hal hz7 hB8
          clear w3 s0 s1 s2 s3 s4 s5 s6 s7 s8
          have HC' := HC
          clear HC
          have HC := Lib.hid (HC'.out.then hB8)
          replace hsc := hsc.below hB8
          (try replace hal := hal.below hB8)
          clear HC' hB8
          have w3 := (h.below HC.out).wd.cell 3
          have s0 := hsc.cell 0
          have s1 := hsc.cell 1
          have s2 := hsc.cell 2
          have s3 := hsc.cell 3
          have s4 := hsc.cell 4
          have s5 := hsc.cell 5
          have s6 := hsc.cell 6
          have s7 := hsc.cell 7
          have s8 := hsc.cell 8
          simp only [Lv.wdc, R18.stc, R18.pmv, List.cons_append, List.getElem?_cons_zero, List.getElem?_cons_succ] at w3 s0 s1 s2 s3 s4 s5 s6 s7 s8
          )
        | (refine wpList_store_va rfl rfl (.tmp 10) (.tmp 37) rfl _ rfl R18.v1 rfl hal ?_; intro W7 hal7 hg7))))
  all_goals
    rw [walk_fin]
    have HC7 := Lib.hid (below_of_grown HC.out hg7 hga HC.out.size)
    have hdr : W.drew.heap.size = W.heap.size := rfl
    have hs7 := hsc.grown hg7 (by simp only [ne_eq, Option.some.injEq]; omega)
    have HS7 := Lib.hid hs7
    clear w3 s0 s1 s2 s3 s4 s5 s6 s7 s8 hal hz7 HC hsc hg7 hne hga hs7 hdr
    generalize ((_ : World)).heap.size = ga at hal7 ⊢
    have v0 : W7.cell? ⟨ga, 0, none⟩ = some (.int .i64 1) := hal7.cell 0
    go_wp2_with (refine wpList_load_va rfl (.tmp 10) rfl ga rfl hal7 ?_)
    refine (part_any W7 R18.v1 ⟨by decide, by decide, by decide, by decide, by decide⟩ (by decide)).mono ?_
    rw [clean_v1]
    rintro e W8 ⟨A8, c8, rfl, hr8, hc8, hB8⟩
    have HL8 : Hid ((Key.part R18.v1).length = 9) := by show _ = _; decide +kernel
    have HP8 : Hid (BRow (W8.alloc (.cells #[.slice pA 0 pc, .slice A8 (Key.part R18.v1).length c8] 32)) A8 (Key.part R18.v1) ∧ Below w0.heap.size w0 (W8.alloc (.cells #[.slice pA 0 pc, .slice A8 (Key.part R18.v1).length c8] 32)) ∧ Blk (W8.alloc (.cells #[.slice pA 0 pc, .slice A8 (Key.part R18.v1).length c8] 32)) gs 159 (R18.stc fv false (-1))) := by
      have hbA : Below W8.heap.size W8 (W8.alloc (.cells #[.slice pA 0 pc, .slice A8 (Key.part R18.v1).length c8] 32)) := (Below.refl _ _).alloc (Nat.le_refl _) _
      exact ⟨hr8.below hbA, (HC7.out.then hB8).then hbA, (HS7.out.below hB8).below hbA⟩
    have hrow : Row (W8.alloc (.cells #[.slice pA 0 pc, .slice A8 (Key.part R18.v1).length c8] 32)) (some ⟨W8.heap.size, 0, none⟩) [(⟨pA, pc, []⟩ : Part).v, (⟨A8, c8, Key.part R18.v1⟩ : Part).v] := Row.new W8 _ _
    have HCC := Lib.hid (bconcat2 _ W8.heap.size 2 ⟨pA, pc, []⟩ ⟨A8, c8, Key.part R18.v1⟩ hrow ⟨BRow.nil, by simp⟩ ⟨HP8.out.1, by rw [HL8.out]; decide⟩ (by show 0 + (Key.part R18.v1).length ≤ 1000000; rw [HL8.out]; decide))
    clear hr8 hc8 hB8 HC7 HS7 hal7 v0 hrow
    go_wp2_with fail
    refine HCC.out.mono ?_
    rintro e W9 ⟨A9, c9, rfl, ho9, hB9⟩
    rw [show (⟨pA, pc, []⟩ : Part).l ++ (⟨A8, c8, Key.part R18.v1⟩ : Part).l = Key.part R18.v1 from List.nil_append _] at ho9 ⊢
    have HS9 : Hid (Blk W9 gs 159 (R18.stc fv false (-1)) ∧ Below w0.heap.size w0 W9 ∧ BOwn W9 (W8.alloc (.cells #[.slice pA 0 pc, .slice A8 (Key.part R18.v1).length c8] 32)).heap.size A9 c9 (Key.part R18.v1)) := ⟨HP8.out.2.2.below hB9, HP8.out.2.1.then hB9, ho9⟩
    have s12 := HS9.out.1.cell 12
    have f12 := HS9.out.1.free 12
    simp only [R18.stc, R18.pmv, List.cons_append, List.getElem?_cons_zero, List.getElem?_cons_succ, List.nil_append] at s12
    have HE : Hid (RetRunSt w0 gs (Key.part R18.v1) false (.returned (.tuple #[])) (W9.setCell ⟨gs, 12, none⟩ (.slice A9 (Key.part R18.v1).length c9))) := by
      refine ⟨rfl, A9, c9, HS9.out.1.set 12 _, ?_, HS9.out.2.2.cap, ?_⟩
      · exact HS9.out.2.2.row.far (fun a ha => by
          have h1 := HS9.out.2.2.kind a ha
          intro e
          have h2 := HS9.out.1.kind
          rw [e] at h1
          exact absurd (h1.one h2) (by decide)) _
      · exact HS9.out.2.1.grown (grown_setb 12 _) HS9.out.2.1.size fun k hk => by cases hk; exact hgs
    clear ho9 hB9 HP8 HCC HS9 HL8
    go_wp2_with fail
    (try simp only [Exit.inBlock, Exit.then])
    refine bodyPost_ret (results_none rfl _ _ _) rfl ?_
    exact HE.out
end Go.Proofs.YtpahkaffknnjhaaGreatDoor
end

section
namespace Go.Proofs.YtpahkaffknnjhaaGreatDoor
set_option linter.unusedSimpArgs false
set_option linter.unusedVariables false
open Go.RowKit
theorem stc_cells {w : World} {gs : Nat} {fv : Value} {dn : Bool} {at_ : Int} (h : Blk w gs 159 (R18.stc fv dn at_)) :
    w.cell? ⟨gs, 0, none⟩ = some (.int .i64 2) ∧ w.cell? ⟨gs, 1, none⟩ = some (.int .i64 0) ∧ w.cell? ⟨gs, 2, none⟩ = some (.int .i64 0) ∧ w.cell? ⟨gs, 3, none⟩ = some (.slice none 0 0) ∧ w.cell? ⟨gs, 4, none⟩ = some (.int .i64 0) ∧ w.cell? ⟨gs, 5, none⟩ = some (.int .i64 (-1)) ∧
    w.cell? ⟨gs, 9, none⟩ = some (.slice none 0 0) ∧ w.cell? ⟨gs, 10, none⟩ = some (.slice none 0 0) ∧ w.cell? ⟨gs, 11, none⟩ = some (.int .i64 0) ∧ w.cell? ⟨gs, 12, none⟩ = some fv ∧ w.cell? ⟨gs, 13, none⟩ = some (.slice none 0 0) ∧ w.cell? ⟨gs, 14, none⟩ = some (.bool dn) ∧ w.cell? ⟨gs, 15, none⟩ = some (.slice none 0 0) ∧ w.cell? ⟨gs, 16, none⟩ = some (.slice none 0 0) ∧ w.cell? ⟨gs, 17, none⟩ = some (.int .i64 at_) :=
  ⟨h.cell 0, h.cell 1, h.cell 2, h.cell 3, h.cell 4, h.cell 5, h.cell 9, h.cell 10, h.cell 11, h.cell 12, h.cell 13, h.cell 14, h.cell 15, h.cell 16, h.cell 17⟩
section
variable {w0 w : World} {gs : Nat} {fv : Value} {dn : Bool} {at_ : Int}
theorem stc_set12 (h : Blk w gs 159 (R18.stc fv dn at_)) (u : Value) : Blk (w.setCell ⟨gs, 12, none⟩ u) gs 159 (R18.stc u dn at_) := h.set 12 _
theorem stc_set13 (h : Blk w gs 159 (R18.stc fv dn at_)) : Blk (w.setCell ⟨gs, 13, none⟩ (.slice none 0 0)) gs 159 (R18.stc fv dn at_) := h.set 13 _
theorem stc_set14 (h : Blk w gs 159 (R18.stc fv dn at_)) (b : Bool) : Blk (w.setCell ⟨gs, 14, none⟩ (.bool b)) gs 159 (R18.stc fv b at_) := h.set 14 _
theorem below_set (h : Below w0.heap.size w0 w) (hg : w0.heap.size ≤ gs) (i : Nat) (u : Value) : Below w0.heap.size w0 (w.setCell ⟨gs, i, none⟩ u) := h.grown (grown_setb i u) h.size fun k hk => by cases hk; exact hg
end
theorem after_nil {r : Option (List UInt8)} (h : Key.IsAfter [] r) : r = none := by
  rcases h with ⟨h, -⟩ | ⟨p, c, t, h, -⟩
  · exact h
  · simp at h
set_option maxRecDepth 100000 in
set_option maxHeartbeats 8000000 in
theorem rseek_any (w0 : World) (x : Lv) (h : LvIn w0 x) (W : World) (hB : Below w0.heap.size w0 W) (gs : Nat) (hgs : w0.heap.size ≤ gs) (fv : Value) (dn : Bool) (hs : Blk W gs 159 (R18.stc fv dn (-1))) :
    Calls Tryz.prog 109 #[.pointer (some ⟨x.wd, 0, none⟩), .pointer (some ⟨gs, 0, none⟩), .slice none 0 0] W (RetRunSt w0 gs (Key.part R18.v1) false) := by
  go_enter Tryz.func109, Tryz.ntmps109
  go_upto_region 1 with fail
  have hbA : Below W.heap.size W (W.alloc (.cells #[] 5)) := (Below.refl _ _).alloc (Nat.le_refl _) _
  have HS : Hid (Blk (W.alloc (.cells #[] 5)) gs 159 (R18.stc fv dn (-1)) ∧ Below w0.heap.size w0 (W.alloc (.cells #[] 5))) := ⟨hs.below hbA, hB.then hbA⟩
  clear hs hB hbA
  generalize World.alloc W _ = W1 at HS ⊢
  generalize W.heap.size = gp
  obtain ⟨s0, s1, s2, s3, s4, s5, s9, s10, s11, s12, s13, s14, s15, s16, s17⟩ := stc_cells HS.out.1
  go_wp2_with fail
  clear s0 s1 s2 s3 s4 s5 s9 s10 s11 s12 s13 s14 s15 s16 s17
  go_loopw [6, 19] (fun pv iv wr => pv = .slice (some ⟨gp, 0, none⟩) 0 0 ∧ iv = .int .i64 0 ∧ wr = W1) (fun _ _ _ => 0)
  case atStart => exact ⟨rfl, rfl, rfl⟩
  case round =>
    obtain ⟨rfl, rfl, rfl⟩ := hrel
    obtain ⟨s0, s1, s2, s3, s4, s5, s9, s10, s11, s12, s13, s14, s15, s16, s17⟩ := stc_cells HS.out.1
    have f14 := HS.out.1.free 14
    go_upto_region 10 with fail
    have HS1 : Hid (Blk (wr.setCell ⟨gs, 14, none⟩ (.bool false)) gs 159 (R18.stc fv false (-1)) ∧ Below w0.heap.size w0 (wr.setCell ⟨gs, 14, none⟩ (.bool false))) := ⟨stc_set14 HS.out.1 false, below_set HS.out.2 hgs 14 _⟩
    clear s0 s1 s2 s3 s4 s5 s9 s10 s11 s12 s13 s14 s15 s16 s17 f14 HS
    generalize World.setCell _ _ _ = W2 at HS1 ⊢
    obtain ⟨s0, s1, s2, s3, s4, s5, s9, s10, s11, s12, s13, s14, s15, s16, s17⟩ := stc_cells HS1.out.1
    have f12 := HS1.out.1.free 12
    go_upto_region 11 with fail
    have HS2 : Hid (Blk (W2.setCell ⟨gs, 12, none⟩ (.slice (some ⟨gp, 0, none⟩) 0 0)) gs 159 (R18.stc (.slice (some ⟨gp, 0, none⟩) 0 0) false (-1)) ∧ Below w0.heap.size w0 (W2.setCell ⟨gs, 12, none⟩ (.slice (some ⟨gp, 0, none⟩) 0 0))) := ⟨stc_set12 HS1.out.1 _, below_set HS1.out.2 hgs 12 _⟩
    clear s0 s1 s2 s3 s4 s5 s9 s10 s11 s12 s13 s14 s15 s16 s17 f12 HS1
    generalize World.setCell _ _ _ = W3 at HS2 ⊢
    go_wp2_with fail
    refine (show Calls _ _ #[.slice (some ⟨gp, 0, none⟩) ([] : List UInt8).length 0] _ _ from kafter_any W3 _ 0 [] BRow.nil (by simp)).mono ?_
    rintro e W4 ⟨r, hr, hB4, hcase⟩
    obtain rfl := after_nil hr
    obtain rfl : e = .returned (.tuple #[.slice none 0 0, .bool false]) := by
      rcases hcase with ⟨-, h⟩ | ⟨a, A, c, h, -⟩
      · exact h
      · cases h
    have HS4 : Hid (Blk W4 gs 159 (R18.stc (.slice (some ⟨gp, 0, none⟩) 0 0) false (-1)) ∧ Below w0.heap.size w0 W4) := ⟨HS2.out.1.below hB4, HS2.out.2.then hB4⟩
    clear hr hB4 hcase HS2
    obtain ⟨s0, s1, s2, s3, s4, s5, s9, s10, s11, s12, s13, s14, s15, s16, s17⟩ := stc_cells HS4.out.1
    have f13 := HS4.out.1.free 13
    go_upto_region 13 with fail
    have HS5 : Hid (Blk (W4.setCell ⟨gs, 13, none⟩ (.slice none 0 0)) gs 159 (R18.stc (.slice (some ⟨gp, 0, none⟩) 0 0) false (-1)) ∧ Below w0.heap.size w0 (W4.setCell ⟨gs, 13, none⟩ (.slice none 0 0))) := ⟨stc_set13 HS4.out.1, below_set HS4.out.2 hgs 13 _⟩
    clear s0 s1 s2 s3 s4 s5 s9 s10 s11 s12 s13 s14 s15 s16 s17 f13 HS4
    generalize World.setCell _ _ _ = W5 at HS5 ⊢
    obtain ⟨s0, s1, s2, s3, s4, s5, s9, s10, s11, s12, s13, s14, s15, s16, s17⟩ := stc_cells HS5.out.1
    go_wp2_with fail
    refine (rbound_low w0 x h W5 HS5.out.2 gs hgs _ HS5.out.1 (some ⟨gp, 0, none⟩) 0).mono ?_
    rintro e W6 ⟨rfl, A6, c6, hs6, hr6, hc6, hB6⟩
    have HE : Hid (RetRunSt w0 gs (Key.part R18.v1) false (.returned (.tuple #[])) W6) := ⟨rfl, A6, c6, hs6, hr6, hc6, hB6⟩
    clear s0 s1 s2 s3 s4 s5 s9 s10 s11 s12 s13 s14 s15 s16 s17 HS5 hr6 hc6 hB6
    obtain ⟨s0, s1, s2, s3, s4, s5, s9, s10, s11, s12, s13, s14, s15, s16, s17⟩ := stc_cells hs6
    clear hs6
    go_wp2_with fail
    refine (rbound_no W6 _ _ _ false).mono ?_
    rintro e W7 ⟨rfl, rfl⟩
    go_wp2_with fail
    go_end0
    exact HE.out
set_option maxRecDepth 100000 in
set_option maxHeartbeats 8000000 in
theorem ropen_any (w0 : World) (x : Lv) (h : LvIn w0 x) (W : World) (hB : Below w0.heap.size w0 W) (gs : Nat) (hgs : w0.heap.size ≤ gs) (hs : Blk W gs 159 (R18.stc (.slice none 0 0) false 0)) :
    Calls Tryz.prog 72 #[.pointer (some ⟨x.wd, 0, none⟩), .pointer (some ⟨gs, 0, none⟩), .slice none 0 0] W (RetRunSt w0 gs (Key.part R18.v1) false) := by
  have HS := Lib.hid (And.intro hs hB)
  obtain ⟨s0, s1, s2, s3, s4, s5, s9, s10, s11, s12, s13, s14, s15, s16, s17⟩ := stc_cells hs
  have f10 := hs.free 10
  have f11 := hs.free 11
  have f14 := hs.free 14
  have f15 := hs.free 15
  have f16 := hs.free 16
  have f17 := hs.free 17
  clear hs hB
  go_enter Tryz.func72, Tryz.ntmps72
  go_upto_region 1 with fail
  have HS2 : Hid (Blk ((((((W.setCell ⟨gs, 10, none⟩ (.slice none 0 0)).setCell ⟨gs, 11, none⟩ (.int .i64 0)).setCell ⟨gs, 14, none⟩ (.bool false)).setCell ⟨gs, 15, none⟩ (.slice none 0 0)).setCell ⟨gs, 16, none⟩ (.slice none 0 0)).setCell ⟨gs, 17, none⟩ (.int .i64 (-1))) gs 159 (R18.stc (.slice none 0 0) false (-1)) ∧
      Below w0.heap.size w0 ((((((W.setCell ⟨gs, 10, none⟩ (.slice none 0 0)).setCell ⟨gs, 11, none⟩ (.int .i64 0)).setCell ⟨gs, 14, none⟩ (.bool false)).setCell ⟨gs, 15, none⟩ (.slice none 0 0)).setCell ⟨gs, 16, none⟩ (.slice none 0 0)).setCell ⟨gs, 17, none⟩ (.int .i64 (-1)))) :=
    ⟨(((((HS.out.1.set 10 _).set 11 _).set 14 _).set 15 _).set 16 _).set 17 _, below_set (below_set (below_set (below_set (below_set (below_set HS.out.2 hgs 10 _) hgs 11 _) hgs 14 _) hgs 15 _) hgs 16 _) hgs 17 _⟩
  clear s0 s1 s2 s3 s4 s5 s9 s10 s11 s12 s13 s14 s15 s16 s17 f10 f11 f14 f15 f16 f17 HS
  generalize World.setCell _ _ _ = W1 at HS2 ⊢
  obtain ⟨s0, s1, s2, s3, s4, s5, s9, s10, s11, s12, s13, s14, s15, s16, s17⟩ := stc_cells HS2.out.1
  go_wp2_with fail
  go_loopw [32] (fun iv wr => iv = .int .i64 0 ∧ wr = W1) (fun _ _ => 0)
  case atStart => exact ⟨rfl, rfl⟩
  case round =>
    obtain ⟨rfl, rfl⟩ := hrel
    go_wp2_with fail
    refine (rseek_any w0 x h wr HS2.out.2 gs hgs _ false HS2.out.1).mono ?_
    rintro e W2 ⟨rfl, hE⟩
    have HE := Lib.hid hE
    clear hE
    go_wp2_with fail
    go_end0
    exact ⟨rfl, HE.out⟩
end Go.Proofs.YtpahkaffknnjhaaGreatDoor
end

section
namespace Go.Proofs.YtpahkaffknnjhaaGreatDoor
set_option linter.unusedSimpArgs false
set_option linter.unusedVariables false
open Go.RowKit Go.Lib
theorem madeCells_elems18 {α : Type} (E : Elem α) (x : α) (hx : E.zero.cells.toList = E.code x) : ∀ n, (madeCells E.zero.cells (n * E.sz)).toList = E.cells (List.replicate n x) := by
  intro n
  have hpos := E.pos
  have hz := E.zsz
  apply List.ext_getElem?
  intro j
  by_cases hj : j < n * E.sz
  · rw [E.cells_get' _ j (by simpa using hj)]
    simp only [List.getElem_replicate]
    have hm : j % E.sz < E.sz := Nat.mod_lt _ hpos
    rw [← hx]
    have hm' : j % E.sz < E.zero.cells.size := by omega
    simp [madeCells, hj, hz]
    rw [getElem!_pos E.zero.cells (j % E.sz) hm', Array.getElem?_eq_getElem hm']
  · rw [List.getElem?_eq_none (by simp [size_madeCells]; omega), List.getElem?_eq_none (by rw [E.cells_length]; simp; omega)]
theorem wpList_make_va1 {w : World} {ops : Array Oper} {rest : List Oper} {o : Oper} {a : Act} {Q : Exit → Act → World → Prop} (hgd : o.guard = none) (x y : Operand) (hop : o.op = .makeSlice 37 x y)
    (hx : a.eval x = .int .i64 1) (hy : a.eval y = .int .i64 1)
    (h : ∀ w1, Blk w1 w.heap.size 64 Key.nul.cells → Below w.heap.size w w1 → w.heap.size + 1 ≤ w1.heap.size → wpList Tryz.prog ops Q rest (a.put o.dst (.slice (some ⟨w.heap.size, 0, none⟩) 1 1)) w1) :
    wpList Tryz.prog ops Q (o :: rest) a w := by
  obtain ⟨i, hi, hz, hs, hby⟩ := info_parts eVa.info
  refine wpList_make_full w hgd x y 37 hop w.heap.size 64 i _ 4 Tryz.underlying37 hi hz hs .i64 .i64 1 1 1 hx hy rfl rfl (by rw [hby]; decide) (by decide) (Nat.le_refl _) fun w1 h1 h2 => ?_
  have e : (madeCells eVa.zero.cells (1 * 4)).toList = eVa.cells [Key.nul] := madeCells_elems18 eVa Key.nul rfl 1
  rw [e] at h1
  have ho : EOwn eVa w1 w.heap.size (some ⟨w.heap.size, 0, none⟩) 1 [Key.nul] := h1
  obtain ⟨sp, hb, hl, -⟩ := ho.toBlk
  have hsp : sp = [] := by
    have h4 : (eVa.cells [Key.nul]).length = 4 := rfl
    rw [List.length_append, h4] at hl
    exact List.eq_nil_of_length_eq_zero (by have : (1 * eVa.sz) = 4 := rfl; omega)
  subst hsp
  rw [List.append_nil] at hb
  exact h w1 hb ((Below.refl _ w).grown h2 (Nat.le_refl _) (fun k hk => by cases hk)) hb.lt
theorem run_copy_va0 (g : Nat) (w : World) : (Builtin.copy_ #[37, 37] 3 #[.slice (some ⟨g, 0, none⟩) 1 1, .slice none 0 0]).run Tryz.prog w = .ok (.int .i64 0) w := by
  have hl : ∀ (x : Addr), (loadCells x 0).run Tryz.prog w = .ok #[] w := fun x => by simpa using run_loadCells_list (P := Tryz.prog) w x [] (by simp)
  have hu := run_underlying (P := Tryz.prog) Tryz.underlying37
  have hq : ∃ i, Tryz.prog.info? 64 = some i := by
    have h := eVa.info
    cases hx : Tryz.prog.info? 64 with
    | none => rw [show Tryz.prog.info? eVa.e = none from hx] at h; cases h
    | some i => exact ⟨i, rfl⟩
  obtain ⟨i, hq⟩ := hq
  simp [Builtin.copy_, hu, Builtin.lenOf, Builtin.firstCells, Go.sizeOf, typeInfo, hq, storeCells, hl]
  rfl
def RetPut (W : World) (v : Va) (e : Ending) (w' : World) : Prop := ∃ g, e = .returned (.slice (some ⟨g, 0, none⟩) 1 1) ∧ Blk w' g 64 v.cells ∧ W.heap.size ≤ g ∧ Below W.heap.size W w'
set_option maxRecDepth 100000 in
set_option maxHeartbeats 8000000 in
theorem rput_any (W : World) (x : Lv) (h : LvIn W x) (A : Option Addr) (c : Nat) (v : Va) (hr : ERow eVa W A [v]) (hv : v.ok) :
    Calls Tryz.prog 111 #[.pointer (some ⟨x.wd, 0, none⟩), .slice none 0 0, .int .i64 0, .slice A 1 c] W (RetPut W (Key.clean v)) := by
  have HR := Lib.hid hr
  have HV := Lib.hid hv
  have c0 := h.wd.cell 2
  simp only [Lv.wdc, List.getElem?_cons_zero, List.getElem?_cons_succ] at c0
  clear hr hv
  go_enter Tryz.func111, Tryz.ntmps111
  go_upto_region 2 with (at_make; refine wpList_make_va1 rfl (.tmp 16) (.tmp 16) rfl rfl rfl ?_; intro W1 hb1 hB1 hz1)
  have h1 := h.below hB1
  have HX : Hid (LvIn W1 x ∧ Below W.heap.size W W1 ∧ Blk W1 W.heap.size 64 Key.nul.cells) := ⟨h1, hB1, hb1⟩
  have c1 := h1.wd.cell 1
  have c2 := h1.wd.cell 2
  have cb := h1.b.cell 0
  simp only [Lv.wdc, List.getElem?_cons_zero, List.getElem?_cons_succ] at c1 c2 cb
  clear c0 hb1 hB1 hz1 h1
  obtain ⟨g, hg⟩ : ∃ g, W.heap.size = g := ⟨_, rfl⟩
  have HGW := Lib.hid hg
  rw [hg] at HX ⊢
  clear hg
  have hcp := run_copy_va0
  go_upto_region 7 with fail
  clear hcp c1 c2 cb
  go_loopw [11] (fun iv wr => (iv = .int .i64 0 ∧ Hid (Below W.heap.size W wr ∧ Blk wr g 64 Key.nul.cells)) ∨ (iv = .int .i64 1 ∧ Hid (Below W.heap.size W wr ∧ Blk wr g 64 (Key.clean v).cells))) (fun iv _ => 2 - (intOf iv).toNat)
  case atStart => exact .inl ⟨rfl, by have h2 := HX.out.2.1; rw [← HGW.out] at h2; exact h2, HX.out.2.2⟩
  case round =>
    clear HX
    rcases hrel with ⟨rfl, HJ⟩ | ⟨rfl, HJ⟩
    · have h1 := h.below HJ.out.1
      have c1 := h1.wd.cell 1
      have cb := h1.b.cell 0
      simp only [Lv.wdc, List.getElem?_cons_zero, List.getElem?_cons_succ] at c1 cb
      clear h1
      go_wp2_with fail
      refine (show Calls _ _ #[(Run.col 0).v, .slice A [v].length c] _ _ from (eval_any W A c [v] HR.out (by intro u hu; rw [List.mem_singleton.1 hu]; exact HV.out) (by simp) (Run.col 0) (Run.col_in _ ⟨by decide, by decide⟩)) wr HJ.out.1).mono ?_
      rintro e W2 ⟨rfl, hB2⟩
      rw [Run.eval_col, show Ev.atV [v] 0 = Key.clean v from rfl]
      have HJ2 : Hid (Below W.heap.size W W2 ∧ Blk W2 g 64 Key.nul.cells) := ⟨HJ.out.1.then hB2, HJ.out.2.below hB2⟩
      clear hB2 HJ c1 cb
      go_wp2_with (refine wpList_store_va rfl rfl (.tmp 72) (.tmp 71) rfl g rfl (Key.clean v) rfl HJ2.out.2 ?_; intro W3 hb3 hg3)
      have HJ3 : Hid (Below W.heap.size W W3 ∧ Blk W3 g 64 (Key.clean v).cells) := ⟨below_of_grown HJ2.out.1 hg3 (by rw [HGW.out]; exact Nat.le_refl _) HJ2.out.1.size, hb3⟩
      clear hb3 hg3 HJ2
      go_roundw
      case rel => exact .inr ⟨rfl, HJ3.out⟩
      case measure => simp [intOf]
    · go_wp2_with fail
      go_ret
      exact ⟨g, rfl, HJ.out.2, by rw [HGW.out]; exact Nat.le_refl _, HJ.out.1⟩
end Go.Proofs.YtpahkaffknnjhaaGreatDoor
end

section
namespace Go.Proofs.YtpahkaffknnjhaaGreatDoor
set_option linter.unusedSimpArgs false
set_option linter.unusedVariables false
open Go.RowKit
theorem Lv.sorted {W : World} {x : Lv} (h : LvIn W x) : ∀ k ∈ x.K, Run.Strict (Run.keysG k) := by
  intro k hk
  have hm : Run.keysG k ∈ x.K.map Run.keysG := List.mem_map.2 ⟨k, hk, rfl⟩
  rw [h.k, List.mem_singleton] at hm
  rw [hm]
  refine List.pairwise_cons.2 ⟨fun y hy => ?_, List.pairwise_cons.2 ⟨(fun y hy => by cases hy), List.Pairwise.nil⟩⟩
  rw [List.mem_singleton.1 hy]
  decide +kernel
def RetEnt (w0 : World) (gs : Nat) (kk : List UInt8) (v : Va) (e : Ending) (w' : World) : Prop :=
  ∃ g A c, e = .returned (.tuple #[.slice (some ⟨g, 0, none⟩) 1 1, .bool true]) ∧ Blk w' g 64 v.cells ∧ Blk w' gs 159 (R18.stc (.slice A (kk ++ [0]).length c) false (-1)) ∧ BRow w' A (kk ++ [0]) ∧ (kk ++ [0]).length ≤ c ∧ w0.heap.size ≤ g ∧ Below w0.heap.size w0 w'
set_option maxRecDepth 100000 in
set_option maxHeartbeats 8000000 in
theorem rentry_some (w0 : World) (x : Lv) (h : LvIn w0 x) (W : World) (hB : Below w0.heap.size w0 W) (gs : Nat) (hgs : w0.heap.size ≤ gs) (A : Option Addr) (c : Nat) (F kk P : List UInt8) (id : Nat) (v : Va) (hs : Blk W gs 159 (R18.stc (.slice A F.length c) false (-1))) (hF : BRow W A F)
    (hk : Run.seekOf (x.K.map Run.keysG) 0 F = some kk) (hkk : kk = P ++ Key.id (id : Int)) (hkl : kk.length ≤ 1000) (hid : id ≤ 1000) (hrow : Run.rowOf (x.G.map Run.rowsG) 0 ((id : Int) - 1) = some [v]) (hv : v.ok) :
    Calls Tryz.prog 112 #[.pointer (some ⟨x.wd, 0, none⟩), .pointer (some ⟨gs, 0, none⟩), .slice none 0 0] W (RetEnt w0 gs kk (Key.clean v)) := by
  have hms := meth_seek
  have hmr := meth_row
  have qT : ∀ (w : World) (a : Option Addr) (n c n' c' : Nat), (binOp .neq 32 (.slice a n c) (.slice none n' c')).run Tryz.prog w = .ok (.bool (!a.isNone)) w := fun w a n c n' c' => run_neq_slice_nil_any w _ _ a n c n' c' Tryz.underlying32
  have HW := Lib.hid (And.intro hB hF)
  have HS := Lib.hid hs
  have HK := Lib.hid hk
  have HKK := Lib.hid hkk
  have HROW := Lib.hid hrow
  have HV := Lib.hid hv
  have HSO := Lib.hid fun k hk => (Lv.sorted h k hk).sorted
  have hk8 : 8 ≤ kk.length := by rw [hkk, List.length_append, Key.id_length]; omega
  obtain ⟨s0, s1, s2, s3, s4, s5, s9, s10, s11, s12, s13, s14, s15, s16, s17⟩ := stc_cells hs
  have c10 := (h.below hB).wd.cell 10
  simp only [Lv.wdc, List.getElem?_cons_zero, List.getElem?_cons_succ] at c10
  clear hs hB hF hk hkk hrow hv
  go_enter Tryz.func112, Tryz.ntmps112
  go_wp2_with fail
  go_loopw [6, 7] (fun v6 v7 wr => v6 = .slice none 0 0 ∧ v7 = .bool false ∧ wr = W) (fun _ _ _ => 0)
  case atStart => exact ⟨rfl, rfl, rfl⟩
  case round =>
    obtain ⟨rfl, rfl, rfl⟩ := hrel
    go_upto_region 2 with fail
    refine wp_region_plan (.take 0 (.take 1 (.take 2 (.take 3 (.take 4 (.take 5 (.take 6 (.take 7 (.take 8 (.take 9 (.take 10 (.take 11 (.take 12 (.take 13 (.take 14 (.run 15 [] (.take 16 (.take 17 (.take 18 (.take 19 (.take 20 (.take 21 (.take 22 .fin))))))))))))))))))))))) (by kernel_rfl) (by kernel_rfl) (by kernel_rfl) (by kernel_rfl) ?_
    repeat' (first | (refine hZ _ _ ?_; clear hZ) | (refine hZ _ ?_; clear hZ) | (refine hZ ?_; clear hZ) | rw [again_nil] | rw [walk_fin] | ((first | rw [walk_take] | rw [walk_run] | rw [again_cons]); intro Z hZ; simp only [sel, List.getElem?_toArray, List.getElem?_cons_zero, List.getElem?_cons_succ]; go_wp2_with (fail)))
    clear s0 s1 s2 s3 s4 s5 s9 s10 s11 s12 s13 s14 s15 s16 s17 c10
    have hD : Below w0.heap.size w0 wr.drew := HW.out.1.then (Below.refl wr.heap.size wr).drewR
    have hse := mseek_any wr.drew x.m x.G x.K (h.below hD).m HSO.out 0 A c F (HW.out.2.below (Below.refl wr.heap.size wr).drewR)
    rw [HK.out] at hse
    refine hse.mono ?_
    clear hse hD
    rintro e W1 ⟨hB1, A1, c1, rfl, ho1⟩
    have HW1 : Hid (Below w0.heap.size w0 W1 ∧ Blk W1 gs 159 (R18.stc (.slice A F.length c) false (-1)) ∧ BOwn W1 0 A1 c1 kk) := ⟨(HW.out.1.then (Below.refl wr.heap.size wr).drewR).then hB1, HS.out.drew.below hB1, ho1.mono (Nat.zero_le _)⟩
    obtain ⟨g1, rfl⟩ : ∃ g, A1 = some ⟨g, 0, none⟩ := by
      rcases ho1.form with ⟨-, -, hn⟩ | ⟨g, hg, -⟩
      · rw [hn] at hk8; simp at hk8
      · exact ⟨g, hg⟩
    have hc1 : kk.length ≤ c1 := HW1.out.2.2.cap
    clear hB1 ho1 HW HS HK
    obtain ⟨s0, s1, s2, s3, s4, s5, s9, s10, s11, s12, s13, s14, s15, s16, s17⟩ := stc_cells HW1.out.2.1
    have hk8i : ¬ (kk.length : Int) < 8 := by omega
    have hsub : (kk.length : Int) - 8 = ((kk.length - 8 : Nat) : Int) := by omega
    go_wp2_with fail
    repeat' (first | (refine hZ _ _ ?_; clear hZ) | (refine hZ _ ?_; clear hZ) | (refine hZ ?_; clear hZ) | rw [again_nil] | rw [walk_fin] | ((first | rw [walk_take] | rw [walk_run] | rw [again_cons]); intro Z hZ; simp only [sel, List.getElem?_toArray, List.getElem?_cons_zero, List.getElem?_cons_succ]; go_wp2_with (fail)))
    go_upto_region 7 with fail
    clear s0 s1 s2 s3 s4 s5 s9 s10 s11 s12 s13 s14 s15 s16 s17
    go_wp2_with fail
    refine (clone_any W1 (some ⟨g1, 0, none⟩) c1 kk HW1.out.2.2.row (by omega)).mono ?_
    rintro e W2 ⟨A2, c2, rfl, ho2, hB2⟩
    have hbA : Below W2.heap.size W2 (W2.alloc (.cells #[.int .u8 0] 5)) := (Below.refl _ _).alloc (Nat.le_refl _) _
    have hrA : BRow (W2.alloc (.cells #[.int .u8 0] 5)) (some ⟨W2.heap.size, 0, none⟩) [0] := BRow.one W2 0 (.int .u8 0) 5 rfl
    have HW2 : Hid (Below w0.heap.size w0 (W2.alloc (.cells #[.int .u8 0] 5)) ∧ Blk (W2.alloc (.cells #[.int .u8 0] 5)) gs 159 (R18.stc (.slice A F.length c) false (-1)) ∧ BOwn (W2.alloc (.cells #[.int .u8 0] 5)) W1.heap.size A2 c2 kk ∧ BRow (W2.alloc (.cells #[.int .u8 0] 5)) (some ⟨g1, 0, none⟩) kk ∧ W1.heap.size ≤ (W2.alloc (.cells #[.int .u8 0] 5)).heap.size ∧ w0.heap.size ≤ W1.heap.size ∧ gs < W1.heap.size ∧ g1 < W1.heap.size ∧ g1 ≠ gs) := by
      refine ⟨(HW1.out.1.then hB2).then hbA, (HW1.out.2.1.below hB2).below hbA, ho2.below hbA, (HW1.out.2.2.row.below hB2).below hbA, Nat.le_trans hB2.size hbA.size, HW1.out.1.size, HW1.out.2.1.lt, ?_, ?_⟩
      · have := (HW1.out.2.2.block _ rfl).2
        exact this
      · rintro rfl
        exact absurd ((HW1.out.2.2.kind _ rfl).one HW1.out.2.1.kind) (by decide)
    clear ho2 hB2 hbA HW1
    go_upto_region 8 with (
      at_builtin
      refine wpList_append_bytes rfl (.tmp 75) (.tmp 76) rfl kk.length rfl HW2.out.2.2.1 rfl 1 rfl hrA rfl (by simp; omega) HW2.out.2.2.2.2.1 ?_
      intro A3 c3 W3 ho3 hb3 hg3 _
      have HB3 := Lib.hid (HW2.out.1.trans (hb3.mono HW2.out.2.2.2.2.2.1))
      have HR3 : Hid (BRow W3 (some ⟨g1, 0, none⟩) kk) := HW2.out.2.2.2.1.keepX hg3.size fun _ a ha => by
        cases ha
        refine hg3.block _ ?_ fun e => ?_
        · have h1 := HW2.out.2.2.2.2.2.2.2.1
          have h2 := HW2.out.2.2.2.2.1
          show g1 < _
          omega
        · cases hA : A2 with
          | none => rw [hA] at e; cases e
          | some a2 =>
            rw [hA] at e
            have h1 := (HW2.out.2.2.1.block a2 hA).1
            have h2 := HW2.out.2.2.2.2.2.2.2.1
            simp only [Option.map_some, Option.some.injEq] at e
            omega
      have hs3 : Blk W3 gs 159 (R18.stc (.slice A F.length c) false (-1)) := HW2.out.2.1.apart hg3 (fun y hy => by
        cases hA : A2 with
        | none => rw [hA] at hy; cases hy
        | some a2 => rw [hA] at hy; cases hy; exact HW2.out.2.2.1.kind a2 hA) (by decide)
      have HO3 := Lib.hid ho3
      have HS3 := Lib.hid hs3
      obtain ⟨s0, s1, s2, s3, s4, s5, s9, s10, s11, s12, s13, s14, s15, s16, s17⟩ := stc_cells hs3
      have f12 := hs3.free 12
      clear ho3 hb3 hg3 hs3)
    have HW4 : Hid (Below w0.heap.size w0 (W3.setCell ⟨gs, 12, none⟩ (.slice A3 (kk.length + 1) c3)) ∧ Blk (W3.setCell ⟨gs, 12, none⟩ (.slice A3 (kk.length + 1) c3)) gs 159 (R18.stc (.slice A3 (kk ++ [0]).length c3) false (-1)) ∧ BRow (W3.setCell ⟨gs, 12, none⟩ (.slice A3 (kk.length + 1) c3)) A3 (kk ++ [0]) ∧ (kk ++ [0]).length ≤ c3 ∧ BRow (W3.setCell ⟨gs, 12, none⟩ (.slice A3 (kk.length + 1) c3)) (some ⟨g1, 0, none⟩) kk) := by
      refine ⟨below_set HB3.out hgs 12 _, ?_, ?_, HO3.out.cap, ?_⟩
      · rw [List.length_append]
        exact stc_set12 HS3.out _
      · exact HO3.out.row.far (fun a ha e => absurd ((HO3.out.kind a ha).one (by rw [e]; exact HS3.out.kind)) (by decide)) _
      · exact HR3.out.far (fun a ha => by cases ha; exact HW2.out.2.2.2.2.2.2.2.2) _
    clear s0 s1 s2 s3 s4 s5 s9 s10 s11 s12 s13 s14 s15 s16 s17 f12 HB3 HR3 HO3 HS3 HW2 hrA
    generalize World.setCell _ _ _ = W4 at HW4 ⊢
    go_wp2_with fail
    have h8 : kk.length - (kk.length - 8) = 8 := by omega
    have HID : Hid (BRow W4 (some ⟨g1, kk.length - 8, none⟩) (Key.id (id : Int))) := by
      have hd := HW4.out.2.2.2.2.drop (kk.length - 8)
      have e : kk.drop (kk.length - 8) = Key.id (id : Int) := by
        have hl : kk.length - 8 = P.length := by rw [HKK.out, List.length_append, Key.id_length]; omega
        rw [hl, HKK.out, List.drop_left]
      rw [e] at hd
      have e2 : (some (⟨g1, 0, none⟩ : Addr)).map (fun a => a.add (kk.length - 8)) = some ⟨g1, kk.length - 8, none⟩ := by
        show some (Addr.add ⟨g1, 0, none⟩ _) = _
        rw [Addr.add_lit, Nat.zero_add]
      rw [e2] at hd
      exact hd
    have hc8 : 8 ≤ c1 - (kk.length - 8) := by omega
    rw [h8]
    refine (kreadid_id W4 _ _ (id : Int) (by omega) (by omega) HID.out hc8).mono ?_
    rintro e W5 ⟨rfl, rfl⟩
    clear h8 HID hc8 hms hk8i hsub
    obtain ⟨s0, s1, s2, s3, s4, s5, s9, s10, s11, s12, s13, s14, s15, s16, s17⟩ := stc_cells HW4.out.2.1
    have c10 := (h.below HW4.out.1).wd.cell 10
    have c0 := (h.below HW4.out.1).wd.cell 0
    have ct := (h.below HW4.out.1).t.cell 0
    simp only [Lv.wdc, List.getElem?_cons_zero, List.getElem?_cons_succ] at c10 c0 ct
    go_upto_region 9 with fail
    refine wp_region_plan (.take 0 (.take 1 (.take 2 (.take 3 (.take 4 (.take 5 (.take 6 (.take 7 (.take 8 (.take 9 (.take 10 (.take 11 (.take 12 (.take 13 (.take 14 (.take 15 (.take 16 (.take 17 (.take 18 (.run 19 [] (.take 20 (.take 21 (.take 22 (.take 23 (.take 24 (.take 25 (.take 26 .fin))))))))))))))))))))))))))) (by kernel_rfl) (by kernel_rfl) (by kernel_rfl) (by kernel_rfl) ?_
    repeat' (first | (refine hZ _ _ ?_; clear hZ) | (refine hZ _ ?_; clear hZ) | (refine hZ ?_; clear hZ) | rw [again_nil] | rw [walk_fin] | ((first | rw [walk_take] | rw [walk_run] | rw [again_cons]); intro Z hZ; simp only [sel, List.getElem?_toArray, List.getElem?_cons_zero, List.getElem?_cons_succ]; go_wp2_with (fail)))
    clear s0 s1 s2 s3 s4 s5 s9 s10 s11 s12 s13 s14 s15 s16 s17 c10 c0 ct hmr
    have hD : Below w0.heap.size w0 W5.drew := HW4.out.1.then (Below.refl W5.heap.size W5).drewR
    have hro := mrow_any W5.drew x.m x.G x.K (h.below hD).m 0 (id : Int) (by omega)
    rw [HROW.out] at hro
    refine hro.mono ?_
    clear hro hD
    rintro e W6 ⟨hB6, A6, c6, rfl, ho6⟩
    have HW6 : Hid (Below w0.heap.size w0 W6 ∧ Blk W6 gs 159 (R18.stc (.slice A3 (kk ++ [0]).length c3) false (-1)) ∧ BRow W6 A3 (kk ++ [0]) ∧ (kk ++ [0]).length ≤ c3 ∧ EOwn eVa W6 0 A6 c6 [v]) :=
      ⟨(HW4.out.1.then (Below.refl W5.heap.size W5).drewR).then hB6, HW4.out.2.1.drew.below hB6, (HW4.out.2.2.1.below (Below.refl W5.heap.size W5).drewR).below hB6, HW4.out.2.2.2.1, ho6.mono (Nat.zero_le _)⟩
    clear hB6 ho6 HW4
    obtain ⟨s0, s1, s2, s3, s4, s5, s9, s10, s11, s12, s13, s14, s15, s16, s17⟩ := stc_cells HW6.out.2.1
    go_wp2_with fail
    repeat' (first | (refine hZ _ _ ?_; clear hZ) | (refine hZ _ ?_; clear hZ) | (refine hZ ?_; clear hZ) | rw [again_nil] | rw [walk_fin] | ((first | rw [walk_take] | rw [walk_run] | rw [again_cons]); intro Z hZ; simp only [sel, List.getElem?_toArray, List.getElem?_cons_zero, List.getElem?_cons_succ]; go_wp2_with (fail)))
    go_wp2_with fail
    refine (rput_any W6 x (h.below HW6.out.1) A6 c6 v HW6.out.2.2.2.2.row HV.out).mono ?_
    rintro e W7 ⟨g7, rfl, hb7, hg7, hB7⟩
    have HE : Hid (RetEnt w0 gs kk (Key.clean v) (.returned (.tuple #[.slice (some ⟨g7, 0, none⟩) 1 1, .bool true])) W7) :=
      ⟨g7, A3, c3, rfl, hb7, HW6.out.2.1.below hB7, HW6.out.2.2.1.below hB7, HW6.out.2.2.2.1, Nat.le_trans HW6.out.1.size hg7, HW6.out.1.then hB7⟩
    clear s0 s1 s2 s3 s4 s5 s9 s10 s11 s12 s13 s14 s15 s16 s17 hb7 hg7 hB7 HW6
    go_wp2_with fail
    go_ret2
    exact HE.out
def RetEntNo (W : World) (gs : Nat) (fv : Value) (e : Ending) (w' : World) : Prop :=
  e = .returned (.tuple #[.slice none 0 0, .bool false]) ∧ Blk w' gs 159 (R18.stc fv true (-1)) ∧ W.grownBy w' (some gs)
set_option maxRecDepth 100000 in
set_option maxHeartbeats 8000000 in
theorem rentry_none (x : Lv) (W : World) (h : LvIn W x) (gs : Nat) (A : Option Addr) (c : Nat) (F : List UInt8) (hs : Blk W gs 159 (R18.stc (.slice A F.length c) false (-1))) (hF : BRow W A F)
    (hk : Run.seekOf (x.K.map Run.keysG) 0 F = none) :
    Calls Tryz.prog 112 #[.pointer (some ⟨x.wd, 0, none⟩), .pointer (some ⟨gs, 0, none⟩), .slice none 0 0] W (RetEntNo W gs (.slice A F.length c)) := by
  have hms := meth_seek
  have HW := Lib.hid (And.intro (Below.refl W.heap.size W) hF)
  have HS := Lib.hid hs
  have HK := Lib.hid hk
  have HSO := Lib.hid fun k hk => (Lv.sorted h k hk).sorted
  obtain ⟨s0, s1, s2, s3, s4, s5, s9, s10, s11, s12, s13, s14, s15, s16, s17⟩ := stc_cells hs
  have c10 := h.wd.cell 10
  simp only [Lv.wdc, List.getElem?_cons_zero, List.getElem?_cons_succ] at c10
  clear hs hF hk
  go_enter Tryz.func112, Tryz.ntmps112
  go_wp2_with fail
  go_loopw [6, 7] (fun v6 v7 wr => v6 = .slice none 0 0 ∧ v7 = .bool false ∧ wr = W) (fun _ _ _ => 0)
  case atStart => exact ⟨rfl, rfl, rfl⟩
  case round =>
    obtain ⟨rfl, rfl, rfl⟩ := hrel
    go_upto_region 2 with fail
    refine wp_region_plan (.take 0 (.take 1 (.take 2 (.take 3 (.take 4 (.take 5 (.take 6 (.take 7 (.take 8 (.take 9 (.take 10 (.take 11 (.take 12 (.take 13 (.take 14 (.run 15 [] (.take 16 (.take 17 (.take 18 (.take 19 (.take 20 (.take 21 (.take 22 .fin))))))))))))))))))))))) (by kernel_rfl) (by kernel_rfl) (by kernel_rfl) (by kernel_rfl) ?_
    repeat' (first | (refine hZ _ _ ?_; clear hZ) | (refine hZ _ ?_; clear hZ) | (refine hZ ?_; clear hZ) | rw [again_nil] | rw [walk_fin] | ((first | rw [walk_take] | rw [walk_run] | rw [again_cons]); intro Z hZ; simp only [sel, List.getElem?_toArray, List.getElem?_cons_zero, List.getElem?_cons_succ]; go_wp2_with (fail)))
    clear s0 s1 s2 s3 s4 s5 s9 s10 s11 s12 s13 s14 s15 s16 s17 c10
    have hD : Below wr.heap.size wr wr.drew := HW.out.1.then (Below.refl wr.heap.size wr).drewR
    have hse := mseek_any wr.drew x.m x.G x.K (h.below hD).m HSO.out 0 A c F (HW.out.2.below (Below.refl wr.heap.size wr).drewR)
    rw [HK.out] at hse
    refine hse.mono ?_
    clear hse hD
    rintro e W1 ⟨hB1, rfl⟩
    have HW1 : Hid (Below wr.heap.size wr W1 ∧ Blk W1 gs 159 (R18.stc (.slice A F.length c) false (-1))) := ⟨(HW.out.1.then (Below.refl wr.heap.size wr).drewR).then hB1, HS.out.drew.below hB1⟩
    clear hB1 HW HS HK
    obtain ⟨s0, s1, s2, s3, s4, s5, s9, s10, s11, s12, s13, s14, s15, s16, s17⟩ := stc_cells HW1.out.2
    have f14 := HW1.out.2.free 14
    go_wp2_with fail
    repeat' (first | (refine hZ _ _ ?_; clear hZ) | (refine hZ _ ?_; clear hZ) | (refine hZ ?_; clear hZ) | rw [again_nil] | rw [walk_fin] | ((first | rw [walk_take] | rw [walk_run] | rw [again_cons]); intro Z hZ; simp only [sel, List.getElem?_toArray, List.getElem?_cons_zero, List.getElem?_cons_succ]; go_wp2_with (fail)))
    go_upto_region 14 with fail
    have HE : Hid (RetEntNo wr gs (.slice A F.length c) (.returned (.tuple #[.slice none 0 0, .bool false])) (W1.setCell ⟨gs, 14, none⟩ (.bool true))) := ⟨rfl, stc_set14 HW1.out.2 true, grown_set (grown_belowR (grown_refl wr (some gs)) HW1.out.1) 14 _⟩
    clear s0 s1 s2 s3 s4 s5 s9 s10 s11 s12 s13 s14 s15 s16 s17 f14 HW1
    go_wp2_with fail
    go_ret2
    exact HE.out
end Go.Proofs.YtpahkaffknnjhaaGreatDoor
end

section
namespace Go.Proofs.YtpahkaffknnjhaaGreatDoor
set_option linter.unusedSimpArgs false
set_option linter.unusedVariables false
open Go.RowKit
set_option maxRecDepth 100000 in
set_option maxHeartbeats 8000000 in
theorem rnext_some (w0 : World) (x : Lv) (h : LvIn w0 x) (W : World) (hB : Below w0.heap.size w0 W) (gs : Nat) (hgs : w0.heap.size ≤ gs) (A : Option Addr) (c : Nat) (F kk P : List UInt8) (id : Nat) (v : Va) (hs : Blk W gs 159 (R18.stc (.slice A F.length c) false (-1))) (hF : BRow W A F)
    (hk : Run.seekOf (x.K.map Run.keysG) 0 F = some kk) (hkk : kk = P ++ Key.id (id : Int)) (hkl : kk.length ≤ 1000) (hid : id ≤ 1000) (hrow : Run.rowOf (x.G.map Run.rowsG) 0 ((id : Int) - 1) = some [v]) (hv : v.ok) :
    Calls Tryz.prog 73 #[.pointer (some ⟨x.wd, 0, none⟩), .pointer (some ⟨gs, 0, none⟩)] W (RetEnt w0 gs kk (Key.clean v)) := by
  have HC := Lib.hid (rentry_some w0 x h W hB gs hgs A c F kk P id v hs hF hk hkk hkl hid hrow hv)
  obtain ⟨s0, s1, s2, s3, s4, s5, s9, s10, s11, s12, s13, s14, s15, s16, s17⟩ := stc_cells hs
  have c11 := (h.below hB).wd.cell 11
  simp only [Lv.wdc, List.getElem?_cons_zero, List.getElem?_cons_succ] at c11
  clear hs hB hF hk hkk hrow hv
  go_enter Tryz.func73, Tryz.ntmps73
  go_wp2_with fail
  refine HC.out.mono ?_
  clear HC s0 s1 s2 s3 s4 s5 s9 s10 s11 s12 s13 s14 s15 s16 s17 c11
  rintro e W1 ⟨g, A1, c1, rfl, hr⟩
  have HR := Lib.hid hr
  clear hr
  go_wp2_with fail
  go_ret2
  exact ⟨g, A1, c1, rfl, HR.out⟩
set_option maxRecDepth 100000 in
set_option maxHeartbeats 8000000 in
theorem rnext_none (x : Lv) (W : World) (h : LvIn W x) (gs : Nat) (A : Option Addr) (c : Nat) (F : List UInt8) (hs : Blk W gs 159 (R18.stc (.slice A F.length c) false (-1))) (hF : BRow W A F)
    (hk : Run.seekOf (x.K.map Run.keysG) 0 F = none) :
    Calls Tryz.prog 73 #[.pointer (some ⟨x.wd, 0, none⟩), .pointer (some ⟨gs, 0, none⟩)] W (RetEntNo W gs (.slice A F.length c)) := by
  have HC := Lib.hid (rentry_none x W h gs A c F hs hF hk)
  obtain ⟨s0, s1, s2, s3, s4, s5, s9, s10, s11, s12, s13, s14, s15, s16, s17⟩ := stc_cells hs
  have c11 := h.wd.cell 11
  simp only [Lv.wdc, List.getElem?_cons_zero, List.getElem?_cons_succ] at c11
  clear hs hF hk
  go_enter Tryz.func73, Tryz.ntmps73
  go_wp2_with fail
  refine HC.out.mono ?_
  clear HC s0 s1 s2 s3 s4 s5 s9 s10 s11 s12 s13 s14 s15 s16 s17 c11
  rintro e W1 ⟨rfl, hr⟩
  have HR := Lib.hid hr
  clear hr
  go_wp2_with fail
  go_ret2
  exact ⟨rfl, HR.out⟩
end Go.Proofs.YtpahkaffknnjhaaGreatDoor
end

section
namespace Go.Proofs.YtpahkaffknnjhaaGreatDoor
set_option linter.unusedSimpArgs false
set_option linter.unusedVariables false
namespace Pn
abbrev defAt (x : PX) (p : Pl) : Df := x.defs.getD p.ix.toNat ⟨0, none, [], 0, false⟩
structure UsesOk (x : PX) (p : Pl) (given : Nat) : Prop where
  f0 : 0 ≤ p.fr
  f1 : p.fr < (x.T.length : Int)
  i0 : 0 ≤ p.ix
  i1 : p.ix < (x.defs.length : Int)
  fit : fitsD x p.fr.toNat (defAt x p) = true
  len : p.eq.length ≤ (defAt x p).cols.length
  look : p.op = 4 → p.eq ≠ [] ∧ p.low < 0 ∧ p.high < 0
  eqs : ∀ i k, p.eq[i]? = some k → 0 ≤ k ∧ k < (x.wh.length : Int) ∧ agst x (x.wh.getD k.toNat Nd.nil) (b x p.fr.toNat + (defAt x p).cols.getD i 0) given [[61]] = true
  low : p.low < 0 ∨ 0 ≤ p.low ∧ p.low < (x.wh.length : Int) ∧ p.eq.length < (defAt x p).cols.length ∧ agst x (x.wh.getD p.low.toNat Nd.nil) (b x p.fr.toNat + (defAt x p).cols.getD p.eq.length 0) 0 opGt = true
  high : p.high < 0 ∨ 0 ≤ p.high ∧ p.high < (x.wh.length : Int) ∧ p.eq.length < (defAt x p).cols.length ∧ agst x (x.wh.getD p.high.toNat Nd.nil) (b x p.fr.toNat + (defAt x p).cols.getD p.eq.length 0) 0 opLt = true
inductive Good (x : PX) : Nat → Pl → Nat → Prop
  | seq {d : Nat} {p : Pl} : p.op = 1 → p.kids = [] → 0 ≤ p.fr → p.fr < (x.T.length : Int) → Good x (d + 1) p (2 ^ p.fr.toNat)
  | range {d : Nat} {p : Pl} : p.op = 2 → p.kids = [] → UsesOk x p 0 → Good x (d + 1) p (2 ^ p.fr.toNat)
  | loop {d : Nat} {p l r : Pl} {ml mr : Nat} : p.op = 3 → p.kids = [l, r] → Good x d l ml → Good x d r mr → ml &&& mr = 0 → Good x (d + 1) p (ml ||| mr)
  | lookup {d : Nat} {p l : Pl} {ml : Nat} : p.op = 4 → p.kids = [l] → Good x d l ml → ml.testBit p.fr.toNat = false → UsesOk x p ml → Good x (d + 1) p (ml ||| 2 ^ p.fr.toNat)
  | sort {d : Nat} {p k : Pl} {m : Nat} : p.op = 5 → p.kids = [k] → Good x d k m → Good x (d + 1) p m
theorem Good.mono {x : PX} {d : Nat} {p : Pl} {m : Nat} (h : Good x d p m) : ∀ {d' : Nat}, d ≤ d' → Good x d' p m := by
  induction h with
  | seq h1 h2 h3 h4 => intro d' hd; obtain ⟨e, rfl⟩ : ∃ e, d' = e + 1 := ⟨d' - 1, by omega⟩; exact .seq h1 h2 h3 h4
  | range h1 h2 h3 => intro d' hd; obtain ⟨e, rfl⟩ : ∃ e, d' = e + 1 := ⟨d' - 1, by omega⟩; exact .range h1 h2 h3
  | loop h1 h2 h3 h4 h5 i3 i4 => intro d' hd; obtain ⟨e, rfl⟩ : ∃ e, d' = e + 1 := ⟨d' - 1, by omega⟩; exact .loop h1 h2 (i3 (by omega)) (i4 (by omega)) h5
  | lookup h1 h2 h3 h4 h5 i3 => intro d' hd; obtain ⟨e, rfl⟩ : ∃ e, d' = e + 1 := ⟨d' - 1, by omega⟩; exact .lookup h1 h2 (i3 (by omega)) h4 h5
  | sort h1 h2 h3 i3 => intro d' hd; obtain ⟨e, rfl⟩ : ∃ e, d' = e + 1 := ⟨d' - 1, by omega⟩; exact .sort h1 h2 (i3 (by omega))
theorem UsesOk.more {x : PX} {D : List Df} {e : Df} {p : Pl} {g : Nat} (h : UsesOk (wd x D) p g) : UsesOk (wd x (D ++ [e])) p g := by
  have hd : defAt (wd x (D ++ [e])) p = defAt (wd x D) p := by
    show (D ++ [e]).getD p.ix.toNat _ = D.getD p.ix.toNat _
    have hi : p.ix.toNat < D.length := by have := h.i0; have : p.ix < (D.length : Int) := h.i1; omega
    simp [List.getD, List.getElem?_append_left hi]
  refine ⟨h.f0, h.f1, h.i0, ?_, ?_, ?_, h.look, ?_, ?_, ?_⟩
  · have : p.ix < (D.length : Int) := h.i1
    show p.ix < ((D ++ [e]).length : Int)
    rw [List.length_append]
    simp
    omega
  · rw [hd]; exact h.fit
  · rw [hd]; exact h.len
  · rw [hd]
    intro i k hk
    obtain ⟨a, b, c⟩ := h.eqs i k hk
    rw [agst_wd] at c ⊢
    exact ⟨a, b, c⟩
  · rw [hd]
    have := h.low
    rw [agst_wd] at this ⊢
    exact this
  · rw [hd]
    have := h.high
    rw [agst_wd] at this ⊢
    exact this
theorem Good.more {x : PX} {D : List Df} {e : Df} {d : Nat} {p : Pl} {m : Nat} (h : Good (wd x D) d p m) : Good (wd x (D ++ [e])) d p m := by
  induction h with
  | seq h1 h2 h3 h4 => exact .seq h1 h2 h3 h4
  | range h1 h2 h3 => exact .range h1 h2 h3.more
  | loop h1 h2 h3 h4 h5 i3 i4 => exact .loop h1 h2 i3 i4 h5
  | lookup h1 h2 h3 h4 h5 i3 => exact .lookup h1 h2 i3 h4 h5.more
  | sort h1 h2 h3 i3 => exact .sort h1 h2 i3
theorem Good.op {x : PX} {d : Nat} {p : Pl} {m : Nat} (h : Good x d p m) : p.op ≠ 0 := by
  cases h <;> omega
theorem Good.lt {x : PX} (h4 : x.T.length ≤ 4) {d : Nat} {p : Pl} {m : Nat} (h : Good x d p m) : m < 16 := by
  have hp : ∀ f : Int, 0 ≤ f → f < (x.T.length : Int) → 2 ^ f.toNat < 16 := fun f h0 h1 => Nat.pow_lt_pow_right (by omega : 1 < 2) (show f.toNat < 4 by omega)
  induction h with
  | seq h1 h2 h3 h4 => exact hp _ h3 h4
  | range h1 h2 h3 => exact hp _ h3.f0 h3.f1
  | loop h1 h2 h3 h4 h5 i3 i4 => exact or16 _ i3 _ i4
  | lookup h1 h2 h3 h4 h5 i3 => exact or16 _ i3 _ (hp _ h5.f0 h5.f1)
  | sort h1 h2 h3 i3 => exact i3
end Pn
end Go.Proofs.YtpahkaffknnjhaaGreatDoor
end

section
namespace Go.Proofs.YtpahkaffknnjhaaGreatDoor
set_option linter.unusedSimpArgs false
set_option linter.unusedVariables false
open Go.RowKit
set_option maxRecDepth 20000 in
set_option maxHeartbeats 8000000 in
theorem plgivesr_any (w : World) (p : Qp) (hp : QpIn w p) (hs : Pn.Sh p.x) (da : Option Addr) (dc : Nat) (hd : DfsIn w da p.x.defs) (l : Pm) (hl : PmRd w l) (hok : GvOk p.x l) :
    ∀ W, Below w.heap.size w W → Calls Tryz.prog 108 #[p.v, .slice da p.x.defs.length dc, l.v] W (RetBo W (Pn.gives p.x l.e)) := by
  have HP := Lib.hid hp
  have HS := Lib.hid hs
  have HDF := Lib.hid hd
  have hol := hp.ol
  clear hp hs hd
  induction hok with
  | @sort l h5 =>
    intro W hB
    have HBO := Lib.hid hB
    have HF : Hid (Pn.gives p.x l.e = true) := Pn.gives_sort (by rw [l.e_op]; exact h5)
    obtain ⟨D, hD⟩ : ∃ D, Pn.gives p.x l.e = D := ⟨_, rfl⟩
    rw [hD] at HF ⊢
    have h5b : (l.op == 5) = true := by simp [h5]
    clear hB hD h5
    go_enter Tryz.func108, Tryz.ntmps108
    go_upto_region 1 with (first | (refine wpList_box_qp rfl (.tmp 0) rfl p rfl ?_; intro W1 hb1 hz1 hB1) | (refine wpList_box_pm rfl (.tmp 2) rfl l rfl ?_; intro W2 hb2 hz2 hB2))
    have HB2 := Lib.hid (hB1.then hB2)
    obtain ⟨c0, -⟩ := Blk.pm hb2
    clear hb1 hB1 hB2 hz1 hz2 hb2
    go_wp2_with fail
    go_ret
    exact ⟨by rw [HF.out]; rfl, HB2.out⟩
  | @seq l h1 =>
    intro W hB
    have HBO := Lib.hid hB
    have HF : Hid (Pn.gives p.x l.e = p.x.ord.isEmpty) := Pn.gives_seq (by rw [l.e_op]; exact h1)
    obtain ⟨D, hD⟩ : ∃ D, Pn.gives p.x l.e = D := ⟨_, rfl⟩
    rw [hD] at HF ⊢
    have k1 : (l.op == 1) = true := by simp [h1]
    have k5 : (l.op == 5) = false := by simp [h1]
    have k3 : (l.op == 3) = false := by simp [h1]
    have k4 : (l.op == 4) = false := by simp [h1]
    have HFE : Hid (D = ((p.x.ord.length : Int) == 0)) := by
      show _ = _
      rw [HF.out]
      cases p.x.ord with
      | nil => rfl
      | cons s l => exact (beq_eq_false_iff_ne.2 (by rw [List.length_cons]; omega)).symm
    clear hB hD h1 HF
    go_enter Tryz.func108, Tryz.ntmps108
    go_upto_region 1 with (first | (refine wpList_box_qp rfl (.tmp 0) rfl p rfl ?_; intro W1 hb1 hz1 hB1) | (refine wpList_box_pm rfl (.tmp 2) rfl l rfl ?_; intro W2 hb2 hz2 hB2))
    have HB2 := Lib.hid (hB1.then hB2)
    obtain ⟨c0, -⟩ := Blk.pm hb2
    obtain ⟨-, -, -, -, -, c7⟩ := Blk.qp (hb1.below hB2)
    clear hb1 hB1 hB2 hz1 hz2 hb2
    obtain ⟨z, hz⟩ : ∃ z, ((p.x.ord.length : Int) == 0) = z := ⟨_, rfl⟩
    rw [hz] at HFE
    go_wp2_with fail
    go_ret
    exact ⟨by rw [HFE.out]; rfl, HB2.out⟩
  | @kid l k r h34 hk hok ih =>
    intro W hB
    have HBO := Lib.hid hB
    have HF : Hid (Pn.gives p.x l.e = Pn.gives p.x k.e) := Pn.gives_kid (by rw [l.e_op]; exact h34) (by rw [l.e_eq]; show l.kids.map Pm.e = _; rw [hk]; rfl)
    obtain ⟨D, hD⟩ : ∃ D, Pn.gives p.x l.e = D := ⟨_, rfl⟩
    rw [hD] at HF ⊢
    have HIK := Lib.hid (ih (hl.kid k (by rw [hk]; exact List.mem_cons_self)))
    have hl0 : 0 < l.kids.length := by rw [hk]; simp
    have hkl := hl.kidl
    have hget : l.kids[0] = k := by simp [hk]
    have HGET := Lib.hid hget
    have HKR := Lib.hid hl.kidr
    obtain ⟨bk, ok, hka, -, -⟩ := HKR.out.at_ hl0
    have hli : (0 : Int) < (l.kids.length : Int) := by omega
    have k5 : (l.op == 5) = false := by rcases h34 with h | h <;> rw [h] <;> rfl
    clear hD ih hl hk hok hB hget
    go_enter Tryz.func108, Tryz.ntmps108
    go_upto_region 1 with (first | (refine wpList_box_qp rfl (.tmp 0) rfl p rfl ?_; intro W1 hb1 hz1 hB1) | (refine wpList_box_pm rfl (.tmp 2) rfl l rfl ?_; intro W2 hb2 hz2 hB2))
    have HB2 := Lib.hid (hB1.then hB2)
    have HQ := Lib.hid (hb1.below hB2)
    have HL := Lib.hid hb2
    obtain ⟨c0, -, -, -, -, -, -, -, c8⟩ := Blk.pm hb2
    rw [hka] at c8
    have HK2 : Hid (ERow ePm W2.drew (some ⟨bk, ok, none⟩) l.kids) := by show ERow _ _ _ _; rw [← hka]; exact HKR.out.below (HBO.out.then HB2.out.drewR)
    obtain ⟨g3, hg3⟩ : ∃ g, W.heap.size = g := ⟨_, rfl⟩
    rw [hg3] at HQ ⊢
    generalize W1.heap.size = g5 at HL c0 c8 ⊢
    have HBD : Hid (Below W.heap.size W W2.drew) := HB2.out.drewR
    have c8d : W2.drew.cell? _ = _ := c8
    clear hb1 hB1 hB2 hz1 hz2 hb2 hg3 hka
    rcases h34 with h | h
    · have k3 : (l.op == 3) = true := by simp [h]
      clear h
      go_upto_region 6 with fail
      have hqd := HQ.out.drew
      refine wp_region_plan (.take 0 (.take 1 (.take 2 (.take 3 (.take 4 (.take 5 (.run 6 [] (.take 7 .fin)))))))) (by kernel_rfl) (by kernel_rfl) (by kernel_rfl) (by kernel_rfl) ?_
      repeat' (first | (refine hZ _ _ ?_; clear hZ) | (refine hZ _ ?_; clear hZ) | (refine hZ ?_; clear hZ) | rw [again_nil] | rw [walk_fin] | ((first | rw [walk_take] | rw [walk_run] | rw [again_cons]); intro Z hZ; simp only [sel, List.getElem?_toArray, List.getElem?_cons_zero, List.getElem?_cons_succ]; go_wp2_with (first | (refine wpList_load_qp0 rfl (.tmp 3) rfl g3 rfl hqd ?_) | (refine wpList_load_pm_at rfl (.tmp 23) rfl HK2.out hl0 k HGET.out rfl ?_))))
      refine (HIK.out W2.drew (HBO.out.then HBD.out)).mono ?_
      rintro e W4 ⟨rfl, hB4⟩
      have HB4 := Lib.hid (HBD.out.then hB4)
      clear hB4
      go_wp2_with fail
      repeat' (first | (refine hZ _ _ ?_; clear hZ) | (refine hZ _ ?_; clear hZ) | (refine hZ ?_; clear hZ) | rw [again_nil] | rw [walk_fin] | ((first | rw [walk_take] | rw [walk_run] | rw [again_cons]); intro Z hZ; simp only [sel, List.getElem?_toArray, List.getElem?_cons_zero, List.getElem?_cons_succ]; go_wp2_with (fail)))
      go_wp2_with fail
      go_ret
      exact ⟨by rw [HF.out]; rfl, HB4.out⟩
    · have k3 : (l.op == 3) = false := by simp [h]
      have k4 : (l.op == 4) = true := by simp [h]
      clear h
      go_upto_region 6 with fail
      have hqd := HQ.out.drew
      refine wp_region_plan (.take 0 (.take 1 (.take 2 (.take 3 (.take 4 (.take 5 (.run 6 [] (.take 7 .fin)))))))) (by kernel_rfl) (by kernel_rfl) (by kernel_rfl) (by kernel_rfl) ?_
      repeat' (first | (refine hZ _ _ ?_; clear hZ) | (refine hZ _ ?_; clear hZ) | (refine hZ ?_; clear hZ) | rw [again_nil] | rw [walk_fin] | ((first | rw [walk_take] | rw [walk_run] | rw [again_cons]); intro Z hZ; simp only [sel, List.getElem?_toArray, List.getElem?_cons_zero, List.getElem?_cons_succ]; go_wp2_with (first | (refine wpList_load_qp0 rfl (.tmp 3) rfl g3 rfl hqd ?_) | (refine wpList_load_pm_at rfl (.tmp 23) rfl HK2.out hl0 k HGET.out rfl ?_))))
      refine (HIK.out W2.drew (HBO.out.then HBD.out)).mono ?_
      rintro e W4 ⟨rfl, hB4⟩
      have HB4 := Lib.hid (HBD.out.then hB4)
      clear hB4
      go_wp2_with fail
      repeat' (first | (refine hZ _ _ ?_; clear hZ) | (refine hZ _ ?_; clear hZ) | (refine hZ ?_; clear hZ) | rw [again_nil] | rw [walk_fin] | ((first | rw [walk_take] | rw [walk_run] | rw [again_cons]); intro Z hZ; simp only [sel, List.getElem?_toArray, List.getElem?_cons_zero, List.getElem?_cons_succ]; go_wp2_with (fail)))
      go_wp2_with fail
      go_ret
      exact ⟨by rw [HF.out]; rfl, HB4.out⟩
  | @range l h5 h3 h4 h1 hx0 hx1 hf0 hf1 hel =>
    intro W hB
    have HBO := Lib.hid hB
    obtain ⟨i, hi⟩ : ∃ i : Nat, l.ix = (i : Int) := ⟨l.ix.toNat, by omega⟩
    obtain ⟨f, hf⟩ : ∃ f : Nat, l.fr = (f : Int) := ⟨l.fr.toNat, by omega⟩
    have hil : i < p.x.defs.length := by omega
    have hfl : f < p.x.T.length := by omega
    obtain ⟨d, hd0⟩ : ∃ d, p.x.defs[i] = d := ⟨_, rfl⟩
    have hgd : p.x.defs.getD l.ix.toNat ⟨0, none, [], 0, false⟩ = d := by rw [hi, Int.toNat_natCast, ← hd0]; simp [List.getD, hil]
    have HF : Hid (Pn.gives p.x l.e = Pn.givF p.x f d.cols l.eq.length (p.x.ord.drop 0) l.eq.length) := by
      show _ = _
      rw [Pn.gives_range (by rw [l.e_op]; exact h5) (by rw [l.e_op]; exact h3) (by rw [l.e_op]; exact h4) (by rw [l.e_op]; exact h1), l.e_eq]
      show Pn.givF p.x l.fr (p.x.defs.getD l.ix.toNat _).cols l.eq.length p.x.ord l.eq.length = _
      rw [hgd, hf]
      rfl
    obtain ⟨D, hD⟩ : ∃ D, Pn.gives p.x l.e = D := ⟨_, rfl⟩
    rw [hD] at HF ⊢
    rw [hgd] at hel
    have k5 : (l.op == 5) = false := by simp [h5]
    have k3 : (l.op == 3) = false := by simp [h3]
    have k4 : (l.op == 4) = false := by simp [h4]
    have k1 : (l.op == 1) = false := by simp [h1]
    have hdm : d ∈ p.x.defs := by rw [← hd0]; exact List.getElem_mem hil
    have hcp := HDF.out.cp d hdm
    have hcl := HDF.out.cl d hdm
    have hcp1 := hcp.1
    have hcp2 := hcp.2
    have HCR := Lib.hid (HDF.out.cr d hdm)
    have hii : (i : Int) < (p.x.defs.length : Int) := by omega
    have hdl := HDF.out.len
    have hel2 := hl.eql
    have HFL := Lib.hid (HS.out.lt f hfl)
    have hfB : f < p.x.B.length := by rw [HS.out.bl]; exact hfl
    have hfi : (f : Int) < (p.x.B.length : Int) := by omega
    have hf4 : f < 4 := by have := HS.out.t4; omega
    obtain ⟨bd, od, had, -, -, -⟩ := df_at HDF.out.r hil
    have HQ9 : Hid (∀ V, Below w.heap.size w V → V.cell? ⟨bd, od + i * 3 + 1, none⟩ = some (.slice d.a d.cols.length d.c)) := fun V hV => by
      obtain ⟨b', o', e', -, -, q1⟩ := df_at (HDF.out.r.below hV) hil
      rw [had] at e'
      cases e'
      rw [hd0] at q1
      exact q1
    rw [had]
    clear hD h5 h3 h4 h1 hx0 hx1 hf0 hf1 hB hgd hdm hcp had hd0 hl
    go_enter Tryz.func108, Tryz.ntmps108
    go_upto_region 1 with (first | (refine wpList_box_qp rfl (.tmp 0) rfl p rfl ?_; intro W1 hb1 hz1 hB1) | (refine wpList_box_pm rfl (.tmp 2) rfl l rfl ?_; intro W2 hb2 hz2 hB2))
    have HB2 := Lib.hid (hB1.then hB2)
    have HQ := Lib.hid (hb1.below hB2)
    have HL := Lib.hid hb2
    obtain ⟨g3, hg3⟩ : ∃ g, W.heap.size = g := ⟨_, rfl⟩
    rw [hg3] at HQ ⊢
    generalize W1.heap.size = g5 at HL ⊢
    obtain ⟨c0, c1, c2, c3, -⟩ := Blk.pm HL.out
    rw [hi] at c2
    have HFR := Lib.hid hf
    obtain ⟨-, -, -, -, -, c7⟩ := Blk.qp HQ.out
    have qd := HQ9.out W2 (HBO.out.then HB2.out)
    clear hb1 hB1 hB2 hz1 hz2 hb2 hg3 hi hf
    go_upto_region 12 with fail
    clear c0 c1 c2 c3 c7 qd
    go_loopw [8, 44] (fun nv iv wr => ∃ (j next : Nat), j ≤ p.x.ord.length ∧ iv = .int .i64 (j : Int) ∧ nv = .int .i64 (next : Int) ∧ next ≤ 1000 ∧ Hid (Pn.givF p.x f d.cols l.eq.length (p.x.ord.drop j) next = D ∧ Below W2.heap.size W2 wr)) (fun _ iv _ => p.x.ord.length - (intOf iv).toNat)
    case atStart => exact ⟨0, l.eq.length, Nat.zero_le _, by go_num, rfl, hel2, HF.out.symm, Below.refl _ _⟩
    case round =>
      obtain ⟨j, next, hj, rfl, rfl, hnx, HJ⟩ := hrel
      have HE := Lib.hid HJ.out.1
      have HBW := Lib.hid HJ.out.2
      clear HJ
      by_cases hlt : j < p.x.ord.length
      · have hjj : (j : Int) < (p.x.ord.length : Int) := by omega
        obtain ⟨s, hs⟩ : ∃ s, p.x.ord[j] = s := ⟨_, rfl⟩
        have HSE := Lib.hid hs
        obtain ⟨bo, oo, hao, -, -⟩ := HP.out.o.at_ hlt
        have HIW : Hid (ERow eSo wr (some ⟨bo, oo, none⟩) p.x.ord) := by show ERow _ _ _ _; rw [← hao]; exact HP.out.o.below (HBO.out.then (HB2.out.then HBW.out))
        have HX := Lib.hid HE.out
        have HX : Hid ((if s.desc = true ∨ Pn.ofT p.x s.at_ ≠ (f : Int) then false else if (d.cols.take l.eq.length).contains (s.at_ - Pn.b p.x f) then Pn.givF p.x f d.cols l.eq.length (p.x.ord.drop (j + 1)) next else if next < d.cols.length ∧ d.cols.getD next 0 = s.at_ - Pn.b p.x f then Pn.givF p.x f d.cols l.eq.length (p.x.ord.drop (j + 1)) (next + 1) else false) = D) := by
          show _ = _
          rw [← HE.out, Pn.givF_drop _ _ _ _ _ _ hlt, hs, Int.toNat_natCast]
        rw [hao]
        clear hao hs
        go_upto_region 14 with (first | (refine wpList_load_so_at rfl (.tmp 46) rfl HIW.out hlt s HSE.out rfl ?_) | (refine wpList_alloc_so rfl rfl ?_; intro W6 hb6 hz6 hB6) | (refine wpList_store_so rfl rfl (.tmp 10) (.tmp 47) rfl wr.heap.size rfl s rfl hb6 ?_; intro W7 hb7 hg7))
        have HB7 := Lib.hid (below_of_grown (HBW.out.then hB6) hg7 HBW.out.size (Nat.le_trans HBW.out.size hB6.size))
        clear hb6 hz6 hB6 hg7 HIW HSE
        generalize wr.heap.size = g10 at hb7 ⊢
        have HS7 := Lib.hid hb7
        have HBD : Hid (Below W2.heap.size W2 W7.drew) := HB7.out.drewR
        obtain ⟨e0, -⟩ := Blk.c2 hb7.drew
        obtain ⟨-, q1, -⟩ := Blk.qp (HQ.out.below HBD.out)
        obtain ⟨-, c1, -⟩ := Blk.pm (HL.out.below HBD.out)
        rw [HFR.out] at c1
        obtain ⟨bb, ob, hab, -, hc0⟩ := int_at (HP.out.b.below (HBO.out.then (HB2.out.then HBD.out))) hfB
        have hcb : W7.drew.cell? ⟨bb, ob + f, none⟩ = some (.int .i64 (Pn.b p.x f)) := by rw [← Pn.b_get hfB]; exact hc0
        rw [hab] at q1
        clear hc0 hab hb7
        refine wp_region_plan (.take 0 (.take 1 (.take 2 (.take 3 (.take 4 (.take 5 (.take 6 (.take 7 (.take 8 (.take 9 .fin)))))))))) (by kernel_rfl) (by kernel_rfl) (by kernel_rfl) (by kernel_rfl) ?_
        repeat' (first | (refine hZ _ _ ?_; clear hZ) | (refine hZ _ ?_; clear hZ) | (refine hZ ?_; clear hZ) | rw [again_nil] | rw [walk_fin] | ((first | rw [walk_take] | rw [walk_run] | rw [again_cons]); intro Z hZ; simp only [sel, List.getElem?_toArray, List.getElem?_cons_zero, List.getElem?_cons_succ]; go_wp2_with (fail)))
        go_upto_region 16 with fail
        clear e0 q1 c1 hcb
        have HBE : Hid (Below W2.heap.size W2 W7.drew.drew) := HBD.out.drewR
        obtain ⟨e0, e1, -⟩ := Blk.c2 HS7.out.drew.drew
        cases hdesc : s.desc with
        | true =>
          have HF2 : Hid (D = false) := by show _ = _; rw [← HX.out, if_pos (.inl hdesc)]
          rw [hdesc] at e1
          clear hdesc
          refine wp_region_plan (.take 0 (.take 1 (.take 2 (.take 3 (.take 4 (.take 5 (.take 7 (.take 8 (.run 6 [7, 8] (.take 9 (.take 10 (.take 11 .fin)))))))))))) (by kernel_rfl) (by kernel_rfl) (by kernel_rfl) (by kernel_rfl) ?_
          repeat' (first | (refine hZ _ _ ?_; clear hZ) | (refine hZ _ ?_; clear hZ) | (refine hZ ?_; clear hZ) | rw [again_nil] | rw [walk_fin] | ((first | rw [walk_take] | rw [walk_run] | rw [again_cons]); intro Z hZ; simp only [sel, List.getElem?_toArray, List.getElem?_cons_zero, List.getElem?_cons_succ]; go_wp2_with (fail)))
          go_wp2_with fail
          go_ret
          exact ⟨by rw [HF2.out]; rfl, HB2.out.then HBE.out⟩
        | false =>
          have HX2 : Hid ((if Pn.ofT p.x s.at_ ≠ (f : Int) then false else if (d.cols.take l.eq.length).contains (s.at_ - Pn.b p.x f) then Pn.givF p.x f d.cols l.eq.length (p.x.ord.drop (j + 1)) next else if next < d.cols.length ∧ d.cols.getD next 0 = s.at_ - Pn.b p.x f then Pn.givF p.x f d.cols l.eq.length (p.x.ord.drop (j + 1)) (next + 1) else false) = D) := by
            show _ = _
            rw [← HX.out]
            by_cases hq : Pn.ofT p.x s.at_ ≠ (f : Int)
            · rw [if_pos hq, if_pos (.inr hq)]
            · have hn : ¬ (s.desc = true ∨ Pn.ofT p.x s.at_ ≠ (f : Int)) := by
                rintro (h | h)
                · rw [hdesc] at h; cases h
                · exact hq h
              rw [if_neg hq, if_neg hn]
          rw [hdesc] at e1
          have HOF := Lib.hid (plof_any W7.drew.drew p (HP.out.below (HBO.out.then (HB2.out.then HBE.out))) s.at_)
          obtain ⟨u0, u1, u2, u3, u4, u5, u6, u7, u8⟩ := Blk.qp9 (Blk.qp90 (HQ.out.below HBE.out))
          obtain ⟨-, c1, -⟩ := Blk.pm (HL.out.below HBE.out)
          rw [HFR.out] at c1
          clear hdesc
          refine wp_region_plan (.take 0 (.take 1 (.take 2 (.take 3 (.take 4 (.take 5 (.take 7 (.take 8 (.run 6 [7, 8] (.take 9 (.take 10 (.take 11 .fin)))))))))))) (by kernel_rfl) (by kernel_rfl) (by kernel_rfl) (by kernel_rfl) ?_
          repeat' (first | (refine hZ _ _ ?_; clear hZ) | (refine hZ _ ?_; clear hZ) | (refine hZ ?_; clear hZ) | rw [again_nil] | rw [walk_fin] | ((first | rw [walk_take] | rw [walk_run] | rw [again_cons]); intro Z hZ; simp only [sel, List.getElem?_toArray, List.getElem?_cons_zero, List.getElem?_cons_succ]; go_wp2_with (fail)))
          refine (show Calls _ _ #[p.v, _] _ _ from HOF.out).mono ?_
          rintro e W9 ⟨rfl, hB9⟩
          have HB9 := Lib.hid (HBE.out.then hB9)
          replace c1 := cell_later hB9 c1
          replace e0 := cell_later hB9 e0
          replace e1 := cell_later hB9 e1
          clear hB9 u0 u1 u2 u3 u4 u5 u6 u7 u8 HOF
          by_cases hft : Pn.ofT p.x s.at_ = (f : Int)
          · have hhit := Pn.ofT_hit hft
            have hnn : ¬ (Pn.ofT p.x s.at_ ≠ (f : Int)) := fun h => h hft
            have hfl2 := HFL.out
            have HX3 : Hid ((if (d.cols.take l.eq.length).contains (s.at_ - Pn.b p.x f) then Pn.givF p.x f d.cols l.eq.length (p.x.ord.drop (j + 1)) next else if next < d.cols.length ∧ d.cols.getD next 0 = s.at_ - Pn.b p.x f then Pn.givF p.x f d.cols l.eq.length (p.x.ord.drop (j + 1)) (next + 1) else false) = D) := by show _ = _; rw [← HX2.out, if_neg hnn]
            rw [hft]
            clear hft hnn
            generalize Pn.endN p.x f = ef at hhit hfl2
            have hwr : wrap64 (s.at_ - Pn.b p.x f) = s.at_ - Pn.b p.x f := by unfold wrap64; omega
            rw [hwr]
            generalize s.at_ - Pn.b p.x f = cc at HX3 ⊢
            clear hwr hhit hfl2
            go_wp2_with fail
            repeat' (first | (refine hZ _ _ ?_; clear hZ) | (refine hZ _ ?_; clear hZ) | (refine hZ ?_; clear hZ) | rw [again_nil] | rw [walk_fin] | ((first | rw [walk_take] | rw [walk_run] | rw [again_cons]); intro Z hZ; simp only [sel, List.getElem?_toArray, List.getElem?_cons_zero, List.getElem?_cons_succ]; go_wp2_with (fail)))
            have HB10 : Hid (Below W2.heap.size W2 W9) := HB9.out
            obtain ⟨-, -, -, c3, -⟩ := Blk.pm (HL.out.below HB10.out)
            have heli : (l.eq.length : Int) ≤ (d.c : Int) := by omega
            have htk : (d.cols.take l.eq.length).length = l.eq.length := by rw [List.length_take]; omega
            have HCT := Lib.hid (icontains_any W9 d.a d.c (d.cols.take l.eq.length) (ERow.take (HCR.out.below (HBO.out.then (HB2.out.then HB10.out))) _) (by rw [htk]; omega) cc)
            rw [htk] at HCT
            clear htk
            obtain ⟨C, hC⟩ : ∃ C, (d.cols.take l.eq.length).contains cc = C := ⟨_, rfl⟩
            rw [hC] at HCT HX3
            clear hC c1 e0 e1
            go_wp2_with fail
            refine HCT.out.mono ?_
            rintro e w10 ⟨rfl, rfl⟩
            cases C with
            | true =>
              have HN : Hid (Pn.givF p.x f d.cols l.eq.length (p.x.ord.drop (j + 1)) next = D) := by show _ = _; rw [← HX3.out, if_pos rfl]
              go_wp2_with fail
              go_roundw
              case rel => exact ⟨j + 1, next, by omega, by go_num, rfl, hnx, HN.out, HB10.out⟩
              case measure => simp [intOf]; omega
            | false =>
              have HX4 : Hid ((if next < d.cols.length ∧ d.cols.getD next 0 = cc then Pn.givF p.x f d.cols l.eq.length (p.x.ord.drop (j + 1)) (next + 1) else false) = D) := by show _ = _; rw [← HX3.out]; rfl
              by_cases hn : next < d.cols.length
              · have hni : (next : Int) < (d.cols.length : Int) := by omega
                obtain ⟨bc, oc, hac, -, q2⟩ := int_at (HCR.out.below (HBO.out.then (HB2.out.then HB10.out))) hn
                obtain ⟨v, hv⟩ : ∃ v, d.cols[next] = v := ⟨_, rfl⟩
                have hgv : d.cols.getD next 0 = v := by rw [← hv]; simp [List.getD, hn]
                rw [hv] at q2
                rw [hgv] at HX4
                have hix : (Instr.indexAt 22 (.slice d.a d.cols.length d.c) (.int .i64 (next : Int))).run Tryz.prog W9 = .ok (.pointer (some ⟨bc, oc + next, none⟩)) W9 := by rw [hac]; go_simp
                clear hv hgv hac HCT
                by_cases hvc : v = cc
                · have HN : Hid (Pn.givF p.x f d.cols l.eq.length (p.x.ord.drop (j + 1)) (next + 1) = D) := by show _ = _; rw [← HX4.out, if_pos ⟨hn, hvc⟩]
                  have hvb : (v == cc) = true := by simp [hvc]
                  clear hvc
                  go_wp2_with fail
                  go_roundw
                  case rel => exact ⟨j + 1, next + 1, by omega, by go_num, by go_num, by omega, HN.out, HB10.out⟩
                  case measure => simp [intOf]; omega
                · have HN : Hid (D = false) := by show _ = _; rw [← HX4.out, if_neg (fun h => hvc h.2)]
                  have hvb : (v == cc) = false := by simp [hvc]
                  clear hvc
                  go_wp2_with fail
                  go_ret
                  exact ⟨by rw [HN.out]; rfl, HB2.out.then HB10.out⟩
              · have hni : ¬ (next : Int) < (d.cols.length : Int) := by omega
                have HN : Hid (D = false) := by show _ = _; rw [← HX4.out, if_neg (fun h => hn h.1)]
                go_wp2_with fail
                go_ret
                exact ⟨by rw [HN.out]; rfl, HB2.out.then HB10.out⟩
          · have HF2 : Hid (D = false) := by show _ = _; rw [← HX2.out, if_pos hft]
            have hftb : (Pn.ofT p.x s.at_ != (f : Int)) = true := by simp [hft]
            clear hft
            go_wp2_with fail
            repeat' (first | (refine hZ _ _ ?_; clear hZ) | (refine hZ _ ?_; clear hZ) | (refine hZ ?_; clear hZ) | rw [again_nil] | rw [walk_fin] | ((first | rw [walk_take] | rw [walk_run] | rw [again_cons]); intro Z hZ; simp only [sel, List.getElem?_toArray, List.getElem?_cons_zero, List.getElem?_cons_succ]; go_wp2_with (fail)))
            go_wp2_with fail
            go_ret
            exact ⟨by rw [HF2.out]; rfl, HB2.out.then HB9.out⟩
      · have hjj : ¬ (j : Int) < (p.x.ord.length : Int) := by omega
        have HF2 : Hid (D = true) := by show _ = _; rw [← HE.out, List.drop_eq_nil_of_le (by omega)]; rfl
        go_wp2_with fail
        go_ret
        exact ⟨by rw [HF2.out]; rfl, HB2.out.then HBW.out⟩
end Go.Proofs.YtpahkaffknnjhaaGreatDoor
end

section
namespace Go.Proofs.YtpahkaffknnjhaaGreatDoor
set_option linter.unusedSimpArgs false
set_option linter.unusedVariables false
open Go.RowKit
namespace Pm
theorem e_fr (p : Pm) : p.e.fr = p.fr := by cases p; rfl
theorem e_ix (p : Pm) : p.e.ix = p.ix := by cases p; rfl
theorem e_low (p : Pm) : p.e.low = p.low := by cases p; rfl
theorem e_high (p : Pm) : p.e.high = p.high := by cases p; rfl
end Pm
def PartOk (x : Pn.PX) (k at_ : Int) (given : Nat) (ops : List (List UInt8)) : Prop := 0 ≤ k ∧ k < (x.wh.length : Int) ∧ Pn.agst x (x.wh.getD k.toNat Nd.nil) at_ given ops = true
set_option maxRecDepth 20000 in
set_option maxHeartbeats 8000000 in
theorem pluses_any (w : World) (p : Qp) (hp : QpIn w p) (hs : Pn.Sh p.x) (da : Option Addr) (dc : Nat) (hd : DfsIn w da p.x.defs) (l : Pm) (hl : PmRd w l) (given : Nat) (hg16 : given < 16) (hu : Pn.UsesOk p.x l.e given) (W : World) (hB : Below w.heap.size w W) :
    Calls Tryz.prog 140 #[p.v, .slice da p.x.defs.length dc, l.v, .int .u8 given] W (RetBo W true) := by
  have HP := Lib.hid (hp.below hB)
  have HS := Lib.hid hs
  have HDF := Lib.hid (hd.below hB)
  have HLR := Lib.hid (hl.later hB)
  have hel2 := hl.eql
  have hdl := hd.len
  have hwl := hp.wl
  have htl := hp.tl
  obtain ⟨f0, f1, i0, i1, hfit, hlen, hlook, heqs, hlow, hhigh⟩ := hu
  rw [Pm.e_fr] at f0 f1 hfit heqs hlow hhigh
  unfold Pn.defAt at hfit hlen heqs hlow hhigh
  rw [Pm.e_ix] at i0 i1 hfit hlen heqs hlow hhigh
  rw [Pm.e_eql] at hlen hlook heqs hlow hhigh
  rw [Pm.e_op, Pm.e_low, Pm.e_high] at hlook
  rw [Pm.e_low] at hlow
  rw [Pm.e_high] at hhigh
  obtain ⟨i, hi⟩ : ∃ i : Nat, l.ix = (i : Int) := ⟨l.ix.toNat, by omega⟩
  obtain ⟨f, hf⟩ : ∃ f : Nat, l.fr = (f : Int) := ⟨l.fr.toNat, by omega⟩
  have hil : i < p.x.defs.length := by omega
  have hfl : f < p.x.T.length := by omega
  obtain ⟨d, hd0⟩ : ∃ d, p.x.defs[i] = d := ⟨_, rfl⟩
  have hgd : p.x.defs.getD l.ix.toNat ⟨0, none, [], 0, false⟩ = d := by rw [hi, Int.toNat_natCast, ← hd0]; simp [List.getD, hil]
  rw [hgd] at hfit hlen heqs hlow hhigh
  rw [hf, Int.toNat_natCast] at hfit heqs hlow hhigh
  have HFIT : Hid (Pn.fits p.x (f : Int) (i : Int) = true) := by
    show _ = _
    unfold Pn.fits
    rw [Int.toNat_natCast, Int.toNat_natCast, show p.x.defs.getD i ⟨0, none, [], 0, false⟩ = d by rw [← hd0]; simp [List.getD, hil], hfit, Bool.and_true]
    exact decide_eq_true ⟨by omega, by omega, by omega, by omega⟩
  have HCOL : Hid (∀ j (hj : j < p.x.defs[i].cols.length), 0 ≤ p.x.defs[i].cols[j] ∧ p.x.defs[i].cols[j] ≤ 24) := by
    intro j hj
    have h := hfit
    rw [← hd0] at h
    unfold Pn.fitsD at h
    simp only [Bool.and_eq_true] at h
    have h2 := List.all_eq_true.1 h.2 _ (List.getElem_mem hj)
    rw [decide_eq_true_eq] at h2
    have := hs.lt f hfl
    omega
  have HEQ : Hid (∀ j k, l.eq[j]? = some k → PartOk p.x k (Pn.b p.x f + d.cols.getD j 0) given [[61]]) := heqs
  have HLO : Hid (l.low < 0 ∨ l.eq.length < d.cols.length ∧ PartOk p.x l.low (Pn.b p.x f + d.cols.getD l.eq.length 0) 0 Pn.opGt) := by
    rcases hlow with h | ⟨h1, h2, h3, h4⟩
    · exact .inl h
    · exact .inr ⟨h3, h1, h2, h4⟩
  have HHI : Hid (l.high < 0 ∨ l.eq.length < d.cols.length ∧ PartOk p.x l.high (Pn.b p.x f + d.cols.getD l.eq.length 0) 0 Pn.opLt) := by
    rcases hhigh with h | ⟨h1, h2, h3, h4⟩
    · exact .inl h
    · exact .inr ⟨h3, h1, h2, h4⟩
  have hdm : d ∈ p.x.defs := by rw [← hd0]; exact List.getElem_mem hil
  have hcp := HDF.out.cp d hdm
  have hcl := HDF.out.cl d hdm
  have HLK := Lib.hid hlook
  have HFR := Lib.hid hf
  have HIX := Lib.hid hi
  have HD0 := Lib.hid hd0
  have hii : (i : Int) < (p.x.defs.length : Int) := by omega
  have hel : ¬ (d.cols.length : Int) < (l.eq.length : Int) := by omega
  obtain ⟨bd, od, had, -, -, -⟩ := df_at HDF.out.r hil
  have HQ9 : Hid (∀ V, Below W.heap.size W V → V.cell? ⟨bd, od + i * 3 + 1, none⟩ = some (.slice d.a d.cols.length d.c)) := fun V hV => by
    obtain ⟨b', o', e', -, -, q1⟩ := df_at (HDF.out.r.below hV) hil
    rw [had] at e'
    cases e'
    rw [hd0] at q1
    exact q1
  subst had
  clear hp hs hd hl hfit hlook heqs hlow hhigh hdm hcp hgd hd0 hi hf f0 f1 i0 i1 hlen
  go_enter Tryz.func140, Tryz.ntmps140
  go_upto_region 1 with (first | (refine wpList_box_qp rfl (.tmp 0) rfl p rfl ?_; intro W1 hb1 hz1 hB1) | (refine wpList_box_pm rfl (.tmp 2) rfl l rfl ?_; intro W2 hb2 hz2 hB2))
  have HB2 := Lib.hid (hB1.then hB2)
  have HQ := Lib.hid (hb1.below hB2)
  have HL := Lib.hid hb2
  obtain ⟨g4, hg4⟩ : ∃ g, W.heap.size = g := ⟨_, rfl⟩
  rw [hg4] at HQ ⊢
  generalize W1.heap.size = g6 at HL ⊢
  clear hb1 hB1 hB2 hz1 hz2 hb2 hg4
  go_cut [56] from 15 to 56 (fun v wx => Hid (v = .bool false ∧ Below W.heap.size W wx ∧ Blk wx g4 26 p.cells ∧ Blk wx g6 71 l.cells))
  case first =>
    have HBD : Hid (Below W.heap.size W W2.drew) := HB2.out.drewR
    have hqd := HQ.out.drew
    obtain ⟨-, c1, c2, -⟩ := Blk.pm HL.out.drew
    rw [HFR.out] at c1
    rw [HIX.out] at c2
    refine wp_region_plan (.take 0 (.take 1 (.take 2 (.take 3 (.take 4 (.take 5 (.run 6 [] (.take 7 (.take 8 (.take 9 (.take 10 (.take 11 (.take 12 (.take 13 (.take 14 (.take 15 (.take 16 (.take 17 (.take 18 (.take 19 (.take 20 (.take 21 (.take 22 (.take 23 (.take 24 (.take 25 (.take 26 (.take 27 (.take 28 (.take 29 (.take 30 (.take 31 (.take 32 (.take 33 (.take 34 (.take 35 (.take 36 (.take 37 (.take 38 (.take 39 (.take 40 (.take 41 .fin)))))))))))))))))))))))))))))))))))))))))) (by kernel_rfl) (by kernel_rfl) (by kernel_rfl) (by kernel_rfl) ?_
    repeat' (first | (refine hZ _ _ ?_; clear hZ) | (refine hZ _ ?_; clear hZ) | (refine hZ ?_; clear hZ) | rw [again_nil] | rw [walk_fin] | ((first | rw [walk_take] | rw [walk_run] | rw [again_cons]); intro Z hZ; simp only [sel, List.getElem?_toArray, List.getElem?_cons_zero, List.getElem?_cons_succ]; go_wp2_with (refine wpList_load_qp0 rfl (.tmp 4) rfl g4 rfl hqd ?_)))
    refine (plfits_any W2.drew p (HP.out.below HBD.out) HS.out _ dc (HDF.out.below HBD.out) f i).mono ?_
    rw [HFIT.out]
    rintro e W3 ⟨rfl, hB3⟩
    have HB3 := Lib.hid (HBD.out.then hB3)
    have HQ3 := Lib.hid (hqd.below hB3)
    have HL3 := Lib.hid (HL.out.drew.below hB3)
    clear hB3 hqd c1 c2 HQ HL HBD
    obtain ⟨c0, c1, c2, c3, c4, c5, -⟩ := Blk.pm HL3.out
    rw [HFR.out] at c1
    rw [HIX.out] at c2
    have qd := HQ9.out W3 HB3.out
    by_cases hop : l.op = 4
    · have k4 : (l.op == 4) = true := by simp [hop]
      obtain ⟨hne, h1, h2⟩ := HLK.out hop
      have hl0 : 0 < l.eq.length := List.length_pos_iff.2 hne
      have ke : ((l.eq.length : Int) == 0) = false := beq_eq_false_iff_ne.2 (by omega)
      clear hop hne
      go_wp2_with fail
      repeat' (first | (refine hZ _ _ ?_; clear hZ) | (refine hZ _ ?_; clear hZ) | (refine hZ ?_; clear hZ) | rw [again_nil] | rw [walk_fin] | ((first | rw [walk_take] | rw [walk_run] | rw [again_cons]); intro Z hZ; simp only [sel, List.getElem?_toArray, List.getElem?_cons_zero, List.getElem?_cons_succ]; go_wp2_with (fail)))
      go_wp2_with fail
      go_meet
      case rel => exact ⟨by simp; omega, HB3.out, HQ3.out, HL3.out⟩
    · have k4 : (l.op == 4) = false := by simp [hop]
      clear hop
      go_wp2_with fail
      repeat' (first | (refine hZ _ _ ?_; clear hZ) | (refine hZ _ ?_; clear hZ) | (refine hZ ?_; clear hZ) | rw [again_nil] | rw [walk_fin] | ((first | rw [walk_take] | rw [walk_run] | rw [again_cons]); intro Z hZ; simp only [sel, List.getElem?_toArray, List.getElem?_cons_zero, List.getElem?_cons_succ]; go_wp2_with (fail)))
      go_wp2_with fail
      go_meet
      case rel => exact ⟨by simp; omega, HB3.out, HQ3.out, HL3.out⟩
  case rest =>
    obtain ⟨rfl, hB3, hq3, hl3⟩ := hcut.out
    have HB3 := Lib.hid hB3
    have HL3 := Lib.hid hl3
    obtain ⟨q0, q1, q2, q3, q4, q5, q6, q7, q8⟩ := Blk.qp9 (Blk.qp90 hq3)
    go_upto_region 4 with fail
    generalize hW4 : World.alloc wc (.cells _ _) = W4
    obtain ⟨ba4, hz4, hB4⟩ := fresh1 hW4
    clear hW4
    obtain ⟨g9, hg9⟩ : ∃ g, wc.heap.size = g := ⟨_, rfl⟩
    have HW4 : Hid (Blk W4 g9 219 (p.cells ++ (.slice (some ⟨bd, od, none⟩) p.x.defs.length dc :: [.slice none 0 0, .slice none 0 0, .slice none 0 0]))) := by show Blk _ _ _ _; rw [← hg9]; exact ba4
    have HQ4 := Lib.hid (hq3.below hB4)
    have HL4 := Lib.hid (HL3.out.below hB4)
    have HB4 := Lib.hid (HB3.out.then hB4)
    rw [hg9]
    clear hcut hB3 hq3 hl3 q0 q1 q2 q3 q4 q5 q6 q7 q8 ba4 hz4 hB4 hg9 HB3 HL3 HB2 HQ HL
    obtain ⟨-, -, -, c3, -⟩ := Blk.pm HL4.out
    go_upto_region 5 with fail
    clear c3
    go_loopw [64] (fun jv wr => ∃ j : Nat, j ≤ l.eq.length ∧ jv = .int .i64 (j : Int) ∧ Hid (Below W4.heap.size W4 wr)) (fun jv _ => l.eq.length - (intOf jv).toNat)
    case atStart => exact ⟨0, Nat.zero_le _, by go_num, Below.refl _ _⟩
    case round =>
      obtain ⟨j, hj, rfl, HJ⟩ := hrel
      by_cases hlt : j < l.eq.length
      · have hji : (j : Int) < (l.eq.length : Int) := by omega
        have hjl : j < d.cols.length := by omega
        obtain ⟨bc, oc, hac, -, hce⟩ := int_at (HLR.out.eqr.below (HB4.out.then HJ.out)) hlt
        have HPK := Lib.hid (HEQ.out j l.eq[j] (List.getElem?_eq_getElem hlt))
        obtain ⟨kn, hkn⟩ : ∃ kn : Nat, l.eq[j] = (kn : Int) := ⟨l.eq[j].toNat, by have := HPK.out.1; omega⟩
        rw [hkn] at hce HPK
        have hix : (Instr.indexAt 22 (.slice l.ea l.eq.length l.ec) (.int .i64 (j : Int))).run Tryz.prog wr = .ok (.pointer (some ⟨bc, oc + j, none⟩)) wr := by rw [hac]; go_simp
        have hkl : kn < p.x.wh.length := by have := HPK.out.2.1; omega
        have hki : (kn : Int) < (p.x.wh.length : Int) := by omega
        have hk0 : ¬ (kn : Int) < 0 := by omega
        have hkb : (kn : Int) ≤ 9223372036854775807 := by omega
        clear hac hkn
        go_upto_region 7 with fail
        clear hix hce
        have HBD : Hid (Below W4.heap.size W4 wr.drew) := HJ.out.drewR
        have HBW : Hid (Below W.heap.size W wr.drew) := HB4.out.then HBD.out
        obtain ⟨n, hn⟩ : ∃ n, p.x.wh[kn] = n := ⟨_, rfl⟩
        have HN := Lib.hid hn
        have HAG : Hid (Pn.agst p.x n (Pn.b p.x f + p.x.defs[i].cols[j]'(by rw [HD0.out]; exact hjl)) given [[61]] = true) := by
          have h := HPK.out.2.2
          rw [Int.toNat_natCast] at h
          show _ = _
          rw [← h, ← hn]
          congr 1
          · simp [List.getD, hkl]
          · simp [List.getD, hjl, HD0.out]
        obtain ⟨bw, ow, haw, -, -⟩ := (HP.out.wn.below HBW.out).at_ hkl
        have HRW : Hid (∀ V, Below W.heap.size W V → ERow eNd V (some ⟨bw, ow, none⟩) p.x.wh) := fun V hV => by rw [← haw]; exact HP.out.wn.below hV
        have hixw : ∀ V : World, (Instr.indexAt 23 (.slice p.wa p.x.wh.length p.wc) (.int .i64 (kn : Int))).run Tryz.prog V = .ok (.pointer (some ⟨bw, ow + kn * 10, none⟩)) V := by intro V; rw [haw]; go_simp
        have hixd := hixw wr.drew
        obtain ⟨q0, q1, q2, q3, q4, q5, q6, q7, q8⟩ := Blk.qp9 (Blk.qp90 (HQ4.out.below HBD.out))
        obtain ⟨z0, z1, z2, z3, z4, z5, z6, z7, z8, z9⟩ := nd_cells (HRW.out _ HBW.out) hkl n HN.out
        obtain ⟨-, c1, c2, -⟩ := Blk.pm (HL4.out.below HBD.out)
        rw [HFR.out] at c1
        rw [HIX.out] at c2
        clear haw hn HPK HEQ
        go_cut [95] from 69 to 95 (fun v wx => Hid (v = .bool false ∧ Below W4.heap.size W4 wx))
        case first =>
          refine wp_region_plan (.take 0 (.take 1 (.take 2 (.take 3 (.take 4 (.take 5 (.take 6 (.take 7 (.take 8 (.take 9 (.take 10 (.take 11 (.take 12 (.take 13 (.take 14 (.take 15 (.take 16 (.take 17 (.take 18 (.take 19 (.take 20 (.take 21 (.take 23 (.run 22 [10, 11, 12, 13, 14, 15, 23] (.run 24 [] (.take 25 (.take 26 .fin))))))))))))))))))))))))))) (by kernel_rfl) (by kernel_rfl) (by kernel_rfl) (by kernel_rfl) ?_
          repeat' (first | (refine hZ _ _ ?_; clear hZ) | (refine hZ _ ?_; clear hZ) | (refine hZ ?_; clear hZ) | rw [again_nil] | rw [walk_fin] | ((first | rw [walk_take] | rw [walk_run] | rw [again_cons]); intro Z hZ; simp only [sel, List.getElem?_toArray, List.getElem?_cons_zero, List.getElem?_cons_succ]; go_wp2_with (fail)))
          refine (plcol_any wr.drew g9 _ p _ dc _ (HW4.out.below HBD.out) (HP.out.below HBW.out) HS.out (HDF.out.below HBW.out) f i j hfl hil (by rw [HD0.out]; exact hjl) (HCOL.out j (by rw [HD0.out]; exact hjl)).1 (HCOL.out j (by rw [HD0.out]; exact hjl)).2).mono ?_
          rintro e W5 ⟨rfl, hB5⟩
          have HB5 := Lib.hid (HBD.out.then hB5)
          have HBW5 : Hid (Below W.heap.size W W5) := HBW.out.then hB5
          clear hB5 q0 q1 q2 q3 q4 q5 q6 q7 q8 z0 z1 z2 z3 z4 z5 z6 z7 z8 z9 c1 c2 hixd
          have hixd := hixw W5
          obtain ⟨q0, q1, q2, q3, q4, q5, q6, q7, q8⟩ := Blk.qp9 (Blk.qp90 (HQ4.out.below HB5.out))
          obtain ⟨z0, z1, z2, z3, z4, z5, z6, z7, z8, z9⟩ := nd_cells (HRW.out _ HBW5.out) hkl n HN.out
          have HNI : Hid (NodeIn W n) := by show NodeIn _ _; rw [← HN.out]; exact HP.out.nin _ (List.getElem_mem hkl)
          go_wp2_with fail
          repeat' (first | (refine hZ _ _ ?_; clear hZ) | (refine hZ _ ?_; clear hZ) | (refine hZ ?_; clear hZ) | rw [again_nil] | rw [walk_fin] | ((first | rw [walk_take] | rw [walk_run] | rw [again_cons]); intro Z hZ; simp only [sel, List.getElem?_toArray, List.getElem?_cons_zero, List.getElem?_cons_succ]; go_wp2_with (fail)))
          refine (show Calls _ _ #[p.v, n.v, _, _] _ _ from plequal_any W5 p (HP.out.below HBW5.out) (by rw [HS.out.bl]; exact HS.out.t4) n (nd_below15 HNI.out HBW5.out) _ given hg16).mono ?_
          rw [HAG.out]
          rintro e W6 ⟨rfl, hB6⟩
          have HB6 := Lib.hid (HB5.out.then hB6)
          clear hB6 q0 q1 q2 q3 q4 q5 q6 q7 q8 z0 z1 z2 z3 z4 z5 z6 z7 z8 z9 hixd
          go_wp2_with fail
          repeat' (first | (refine hZ _ _ ?_; clear hZ) | (refine hZ _ ?_; clear hZ) | (refine hZ ?_; clear hZ) | rw [again_nil] | rw [walk_fin] | ((first | rw [walk_take] | rw [walk_run] | rw [again_cons]); intro Z hZ; simp only [sel, List.getElem?_toArray, List.getElem?_cons_zero, List.getElem?_cons_succ]; go_wp2_with (fail)))
          go_wp2_with fail
          go_meet
          case rel => exact ⟨by simp; omega, HB6.out⟩
        case rest =>
          obtain ⟨rfl, hB6⟩ := hcut.out
          have HB6 := Lib.hid hB6
          clear hcut hB6 q0 q1 q2 q3 q4 q5 q6 q7 q8 z0 z1 z2 z3 z4 z5 z6 z7 z8 z9 c1 c2 hixd hixw
          go_wp2_with fail
          go_roundw
          case rel => exact ⟨j + 1, by omega, by go_num, HB6.out⟩
          case measure => simp [intOf]; omega
      · have hji : ¬ (j : Int) < (l.eq.length : Int) := by omega
        have HBr := Lib.hid (HB4.out.then HJ.out)
        have HQr := Lib.hid (HQ4.out.below HJ.out)
        have HLr := Lib.hid (HL4.out.below HJ.out)
        have HWr := Lib.hid (HW4.out.below HJ.out)
        clear HJ HQ4 HL4 HW4 HB4 HEQ hj
        obtain ⟨-, -, -, -, c4, c5, -⟩ := Blk.pm HLr.out
        go_upto_region 11 with fail
        generalize hW10 : World.alloc wr (.cells _ _) = W10
        obtain ⟨ba10, hz10, hB10⟩ := fresh1 hW10
        clear hW10
        obtain ⟨gk, hgk⟩ : ∃ g, wr.heap.size = g := ⟨_, rfl⟩
        rw [hgk] at ba10 ⊢
        have HR := Lib.hid ba10
        have HQ4 := Lib.hid (HQr.out.below hB10)
        have HL4 := Lib.hid (HLr.out.below hB10)
        have HW4 := Lib.hid (HWr.out.below hB10)
        have HB4 := Lib.hid (HBr.out.then hB10)
        clear HBr HQr HLr HWr c4 c5 ba10 hz10 hB10 hgk
        go_loopw [103] (fun jv wx => ∃ m : Nat, m ≤ 2 ∧ jv = .int .i64 (m : Int) ∧ Hid (Below W10.heap.size W10 wx)) (fun jv _ => 2 - (intOf jv).toNat)
        case atStart => exact ⟨0, Nat.zero_le _, by go_num, Below.refl _ _⟩
        case round =>
          obtain ⟨m, hm, rfl, HJ⟩ := hrel
          obtain ⟨r0, r1, -⟩ := Blk.c2 (HR.out.below HJ.out)
          obtain hm0 | hm1 | hm2 : m = 0 ∨ m = 1 ∨ m = 2 := by omega
          · subst hm0
            go_upto_region 14 with fail
            generalize hW13 : (((World.alloc wr (.cells _ _)).alloc (.cells _ _)).alloc (.cells _ _)) = W13
            obtain ⟨ba13, bb13, bc13, hz13, hB13⟩ := fresh3 hW13
            clear hW13
            have HB13 : Hid (Below W10.heap.size W10 W13) := HJ.out.then hB13
            have HBW13 : Hid (Below W.heap.size W W13) := HB4.out.then HB13.out
            have HOP : Hid (ERow eStr W13 (some ⟨wr.heap.size + 0, 0, none⟩) Pn.opGt) := Blk.row eStr ba13 _ rfl (by show 2 ≤ maxLen; decide)
            clear ba13 bb13 bc13 hz13 hB13 r0 r1 HR
            by_cases hneg : l.low < 0
            · go_wp2_with fail
              go_roundw
              case rel => exact ⟨0 + 1, by omega, by go_num, HB13.out⟩
              case measure => simp [intOf]
            · have hpk : l.eq.length < d.cols.length ∧ PartOk p.x l.low (Pn.b p.x f + d.cols.getD l.eq.length 0) 0 Pn.opGt := by
                rcases HLO.out with h | h
                · exact absurd h hneg
                · exact h
              have hjl := hpk.1
              have HPK := Lib.hid hpk.2
              obtain ⟨kn, hkn⟩ : ∃ kn : Nat, l.low = (kn : Int) := ⟨l.low.toNat, by omega⟩
              rw [hkn] at HPK
              have HKN := Lib.hid hkn
              have hkl : kn < p.x.wh.length := by have := HPK.out.2.1; omega
              have hki : l.low < (p.x.wh.length : Int) := by omega
              have hkb : l.low ≤ 9223372036854775807 := by omega
              clear hkn hpk
              have hje : (l.eq.length : Int) < (d.cols.length : Int) := by omega
              go_upto_region 15 with fail
              have HBD : Hid (Below W10.heap.size W10 W13.drew) := HB13.out.drewR
              have HBW : Hid (Below W.heap.size W W13.drew) := HBW13.out.drewR
              have HOPD : Hid (∀ V, Below W13.heap.size W13 V → ERow eStr V (some ⟨wr.heap.size + 0, 0, none⟩) Pn.opGt) := fun V hV => HOP.out.below hV
              obtain ⟨n, hn⟩ : ∃ n, p.x.wh[kn] = n := ⟨_, rfl⟩
              have HN := Lib.hid hn
              have HAG : Hid (Pn.agst p.x n (Pn.b p.x f + p.x.defs[i].cols[l.eq.length]'(by rw [HD0.out]; exact hjl)) 0 Pn.opGt = true) := by
                have h := HPK.out.2.2
                rw [Int.toNat_natCast] at h
                show _ = _
                rw [← h, ← hn]
                congr 1
                · simp [List.getD, hkl]
                · simp [List.getD, hjl, HD0.out]
              obtain ⟨bw, ow, haw, -, -⟩ := (HP.out.wn.below HBW.out).at_ hkl
              have HRW : Hid (∀ V, Below W.heap.size W V → ERow eNd V (some ⟨bw, ow, none⟩) p.x.wh) := fun V hV => by rw [← haw]; exact HP.out.wn.below hV
              have hixw : ∀ V : World, (Instr.indexAt 23 (.slice p.wa p.x.wh.length p.wc) (.int .i64 l.low)).run Tryz.prog V = .ok (.pointer (some ⟨bw, ow + kn * 10, none⟩)) V := by
                intro V
                have hki2 : (kn : Int) < (p.x.wh.length : Int) := by omega
                rw [haw, HKN.out]
                go_simp
              have hixd := hixw W13.drew
              obtain ⟨q0, q1, q2, q3, q4, q5, q6, q7, q8⟩ := Blk.qp9 (Blk.qp90 (HQ4.out.below HBD.out))
              obtain ⟨z0, z1, z2, z3, z4, z5, z6, z7, z8, z9⟩ := nd_cells (HRW.out _ HBW.out) hkl n HN.out
              obtain ⟨-, c1, c2, c3, -⟩ := Blk.pm (HL4.out.below HBD.out)
              rw [HFR.out] at c1
              rw [HIX.out] at c2
              have qd := HQ9.out _ HBW.out
              clear haw hn HPK
              go_cut [153] from 116 to 153 (fun v wx => Hid (v = .bool false ∧ Below W10.heap.size W10 wx))
              case first =>
                refine wp_region_plan (.take 0 (.take 1 (.take 2 (.take 3 (.take 4 (.take 5 (.take 6 (.take 7 (.take 8 (.take 9 (.take 10 (.take 11 (.take 12 (.take 13 (.take 14 (.take 15 (.take 16 (.take 17 (.take 18 (.take 19 (.take 20 (.take 21 (.take 22 (.take 23 (.take 24 (.take 25 (.take 26 (.take 27 (.take 28 (.take 29 (.take 30 (.take 31 (.take 32 (.take 34 (.run 33 [19, 20, 21, 22, 23, 24, 34] (.run 35 [] (.take 36 (.take 37 .fin)))))))))))))))))))))))))))))))))))))) (by kernel_rfl) (by kernel_rfl) (by kernel_rfl) (by kernel_rfl) ?_
                repeat' (first | (refine hZ _ _ ?_; clear hZ) | (refine hZ _ ?_; clear hZ) | (refine hZ ?_; clear hZ) | rw [again_nil] | rw [walk_fin] | ((first | rw [walk_take] | rw [walk_run] | rw [again_cons]); intro Z hZ; simp only [sel, List.getElem?_toArray, List.getElem?_cons_zero, List.getElem?_cons_succ]; go_wp2_with (fail)))
                refine (plcol_any W13.drew g9 _ p _ dc _ (HW4.out.below HBD.out) (HP.out.below HBW.out) HS.out (HDF.out.below HBW.out) f i l.eq.length hfl hil (by rw [HD0.out]; exact hjl) (HCOL.out l.eq.length (by rw [HD0.out]; exact hjl)).1 (HCOL.out l.eq.length (by rw [HD0.out]; exact hjl)).2).mono ?_
                rintro e W5 ⟨rfl, hB5⟩
                have HB5 := Lib.hid (HBD.out.then hB5)
                have HBW5 : Hid (Below W.heap.size W W5) := HBW.out.then hB5
                have HOP5 := Lib.hid (HOPD.out W5 ((Below.refl _ _).drewR.then hB5))
                clear hB5 q0 q1 q2 q3 q4 q5 q6 q7 q8 z0 z1 z2 z3 z4 z5 z6 z7 z8 z9 c1 c2 c3 qd hixd
                have hixd := hixw W5
                obtain ⟨q0, q1, q2, q3, q4, q5, q6, q7, q8⟩ := Blk.qp9 (Blk.qp90 (HQ4.out.below HB5.out))
                obtain ⟨z0, z1, z2, z3, z4, z5, z6, z7, z8, z9⟩ := nd_cells (HRW.out _ HBW5.out) hkl n HN.out
                have HNI : Hid (NodeIn W n) := by show NodeIn _ _; rw [← HN.out]; exact HP.out.nin _ (List.getElem_mem hkl)
                go_wp2_with fail
                repeat' (first | (refine hZ _ _ ?_; clear hZ) | (refine hZ _ ?_; clear hZ) | (refine hZ ?_; clear hZ) | rw [again_nil] | rw [walk_fin] | ((first | rw [walk_take] | rw [walk_run] | rw [again_cons]); intro Z hZ; simp only [sel, List.getElem?_toArray, List.getElem?_cons_zero, List.getElem?_cons_succ]; go_wp2_with (fail)))
                refine (show Calls _ _ #[p.v, n.v, _, _, _] _ _ from plagst_any W5 p (HP.out.below HBW5.out) (by rw [HS.out.bl]; exact HS.out.t4) n (nd_below15 HNI.out HBW5.out) _ 0 (by decide) _ 2 Pn.opGt HOP5.out (by decide)).mono ?_
                rw [HAG.out]
                rintro e W6 ⟨rfl, hB6⟩
                have HB6 := Lib.hid (HB5.out.then hB6)
                clear hB6 q0 q1 q2 q3 q4 q5 q6 q7 q8 z0 z1 z2 z3 z4 z5 z6 z7 z8 z9 hixd
                go_wp2_with fail
                repeat' (first | (refine hZ _ _ ?_; clear hZ) | (refine hZ _ ?_; clear hZ) | (refine hZ ?_; clear hZ) | rw [again_nil] | rw [walk_fin] | ((first | rw [walk_take] | rw [walk_run] | rw [again_cons]); intro Z hZ; simp only [sel, List.getElem?_toArray, List.getElem?_cons_zero, List.getElem?_cons_succ]; go_wp2_with (fail)))
                go_wp2_with fail
                go_meet
                case rel => exact ⟨by simp; omega, HB6.out⟩
              case rest =>
                obtain ⟨rfl, hB6⟩ := hcut.out
                have HB6 := Lib.hid hB6
                clear hcut hB6 q0 q1 q2 q3 q4 q5 q6 q7 q8 z0 z1 z2 z3 z4 z5 z6 z7 z8 z9 c1 c2 c3 qd hixd hixw
                go_wp2_with fail
                go_roundw
                case rel => exact ⟨0 + 1, by omega, by go_num, HB6.out⟩
                case measure => simp [intOf]
          · subst hm1
            go_upto_region 14 with fail
            generalize hW13 : (((World.alloc wr (.cells _ _)).alloc (.cells _ _)).alloc (.cells _ _)) = W13
            obtain ⟨ba13, bb13, bc13, hz13, hB13⟩ := fresh3 hW13
            clear hW13
            have HB13 : Hid (Below W10.heap.size W10 W13) := HJ.out.then hB13
            have HBW13 : Hid (Below W.heap.size W W13) := HB4.out.then HB13.out
            have HOP : Hid (ERow eStr W13 (some ⟨wr.heap.size + 1, 0, none⟩) Pn.opLt) := Blk.row eStr bb13 _ rfl (by show 2 ≤ maxLen; decide)
            clear ba13 bb13 bc13 hz13 hB13 r0 r1 HR
            by_cases hneg : l.high < 0
            · go_wp2_with fail
              go_roundw
              case rel => exact ⟨1 + 1, by omega, by go_num, HB13.out⟩
              case measure => simp [intOf]
            · have hpk : l.eq.length < d.cols.length ∧ PartOk p.x l.high (Pn.b p.x f + d.cols.getD l.eq.length 0) 0 Pn.opLt := by
                rcases HHI.out with h | h
                · exact absurd h hneg
                · exact h
              have hjl := hpk.1
              have HPK := Lib.hid hpk.2
              obtain ⟨kn, hkn⟩ : ∃ kn : Nat, l.high = (kn : Int) := ⟨l.high.toNat, by omega⟩
              rw [hkn] at HPK
              have HKN := Lib.hid hkn
              have hkl : kn < p.x.wh.length := by have := HPK.out.2.1; omega
              have hki : l.high < (p.x.wh.length : Int) := by omega
              have hkb : l.high ≤ 9223372036854775807 := by omega
              clear hkn hpk
              have hje : (l.eq.length : Int) < (d.cols.length : Int) := by omega
              go_upto_region 15 with fail
              have HBD : Hid (Below W10.heap.size W10 W13.drew) := HB13.out.drewR
              have HBW : Hid (Below W.heap.size W W13.drew) := HBW13.out.drewR
              have HOPD : Hid (∀ V, Below W13.heap.size W13 V → ERow eStr V (some ⟨wr.heap.size + 1, 0, none⟩) Pn.opLt) := fun V hV => HOP.out.below hV
              obtain ⟨n, hn⟩ : ∃ n, p.x.wh[kn] = n := ⟨_, rfl⟩
              have HN := Lib.hid hn
              have HAG : Hid (Pn.agst p.x n (Pn.b p.x f + p.x.defs[i].cols[l.eq.length]'(by rw [HD0.out]; exact hjl)) 0 Pn.opLt = true) := by
                have h := HPK.out.2.2
                rw [Int.toNat_natCast] at h
                show _ = _
                rw [← h, ← hn]
                congr 1
                · simp [List.getD, hkl]
                · simp [List.getD, hjl, HD0.out]
              obtain ⟨bw, ow, haw, -, -⟩ := (HP.out.wn.below HBW.out).at_ hkl
              have HRW : Hid (∀ V, Below W.heap.size W V → ERow eNd V (some ⟨bw, ow, none⟩) p.x.wh) := fun V hV => by rw [← haw]; exact HP.out.wn.below hV
              have hixw : ∀ V : World, (Instr.indexAt 23 (.slice p.wa p.x.wh.length p.wc) (.int .i64 l.high)).run Tryz.prog V = .ok (.pointer (some ⟨bw, ow + kn * 10, none⟩)) V := by
                intro V
                have hki2 : (kn : Int) < (p.x.wh.length : Int) := by omega
                rw [haw, HKN.out]
                go_simp
              have hixd := hixw W13.drew
              obtain ⟨q0, q1, q2, q3, q4, q5, q6, q7, q8⟩ := Blk.qp9 (Blk.qp90 (HQ4.out.below HBD.out))
              obtain ⟨z0, z1, z2, z3, z4, z5, z6, z7, z8, z9⟩ := nd_cells (HRW.out _ HBW.out) hkl n HN.out
              obtain ⟨-, c1, c2, c3, -⟩ := Blk.pm (HL4.out.below HBD.out)
              rw [HFR.out] at c1
              rw [HIX.out] at c2
              have qd := HQ9.out _ HBW.out
              clear haw hn HPK
              go_cut [153] from 116 to 153 (fun v wx => Hid (v = .bool false ∧ Below W10.heap.size W10 wx))
              case first =>
                refine wp_region_plan (.take 0 (.take 1 (.take 2 (.take 3 (.take 4 (.take 5 (.take 6 (.take 7 (.take 8 (.take 9 (.take 10 (.take 11 (.take 12 (.take 13 (.take 14 (.take 15 (.take 16 (.take 17 (.take 18 (.take 19 (.take 20 (.take 21 (.take 22 (.take 23 (.take 24 (.take 25 (.take 26 (.take 27 (.take 28 (.take 29 (.take 30 (.take 31 (.take 32 (.take 34 (.run 33 [19, 20, 21, 22, 23, 24, 34] (.run 35 [] (.take 36 (.take 37 .fin)))))))))))))))))))))))))))))))))))))) (by kernel_rfl) (by kernel_rfl) (by kernel_rfl) (by kernel_rfl) ?_
                repeat' (first | (refine hZ _ _ ?_; clear hZ) | (refine hZ _ ?_; clear hZ) | (refine hZ ?_; clear hZ) | rw [again_nil] | rw [walk_fin] | ((first | rw [walk_take] | rw [walk_run] | rw [again_cons]); intro Z hZ; simp only [sel, List.getElem?_toArray, List.getElem?_cons_zero, List.getElem?_cons_succ]; go_wp2_with (fail)))
                refine (plcol_any W13.drew g9 _ p _ dc _ (HW4.out.below HBD.out) (HP.out.below HBW.out) HS.out (HDF.out.below HBW.out) f i l.eq.length hfl hil (by rw [HD0.out]; exact hjl) (HCOL.out l.eq.length (by rw [HD0.out]; exact hjl)).1 (HCOL.out l.eq.length (by rw [HD0.out]; exact hjl)).2).mono ?_
                rintro e W5 ⟨rfl, hB5⟩
                have HB5 := Lib.hid (HBD.out.then hB5)
                have HBW5 : Hid (Below W.heap.size W W5) := HBW.out.then hB5
                have HOP5 := Lib.hid (HOPD.out W5 ((Below.refl _ _).drewR.then hB5))
                clear hB5 q0 q1 q2 q3 q4 q5 q6 q7 q8 z0 z1 z2 z3 z4 z5 z6 z7 z8 z9 c1 c2 c3 qd hixd
                have hixd := hixw W5
                obtain ⟨q0, q1, q2, q3, q4, q5, q6, q7, q8⟩ := Blk.qp9 (Blk.qp90 (HQ4.out.below HB5.out))
                obtain ⟨z0, z1, z2, z3, z4, z5, z6, z7, z8, z9⟩ := nd_cells (HRW.out _ HBW5.out) hkl n HN.out
                have HNI : Hid (NodeIn W n) := by show NodeIn _ _; rw [← HN.out]; exact HP.out.nin _ (List.getElem_mem hkl)
                go_wp2_with fail
                repeat' (first | (refine hZ _ _ ?_; clear hZ) | (refine hZ _ ?_; clear hZ) | (refine hZ ?_; clear hZ) | rw [again_nil] | rw [walk_fin] | ((first | rw [walk_take] | rw [walk_run] | rw [again_cons]); intro Z hZ; simp only [sel, List.getElem?_toArray, List.getElem?_cons_zero, List.getElem?_cons_succ]; go_wp2_with (fail)))
                refine (show Calls _ _ #[p.v, n.v, _, _, _] _ _ from plagst_any W5 p (HP.out.below HBW5.out) (by rw [HS.out.bl]; exact HS.out.t4) n (nd_below15 HNI.out HBW5.out) _ 0 (by decide) _ 2 Pn.opLt HOP5.out (by decide)).mono ?_
                rw [HAG.out]
                rintro e W6 ⟨rfl, hB6⟩
                have HB6 := Lib.hid (HB5.out.then hB6)
                clear hB6 q0 q1 q2 q3 q4 q5 q6 q7 q8 z0 z1 z2 z3 z4 z5 z6 z7 z8 z9 hixd
                go_wp2_with fail
                repeat' (first | (refine hZ _ _ ?_; clear hZ) | (refine hZ _ ?_; clear hZ) | (refine hZ ?_; clear hZ) | rw [again_nil] | rw [walk_fin] | ((first | rw [walk_take] | rw [walk_run] | rw [again_cons]); intro Z hZ; simp only [sel, List.getElem?_toArray, List.getElem?_cons_zero, List.getElem?_cons_succ]; go_wp2_with (fail)))
                go_wp2_with fail
                go_meet
                case rel => exact ⟨by simp; omega, HB6.out⟩
              case rest =>
                obtain ⟨rfl, hB6⟩ := hcut.out
                have HB6 := Lib.hid hB6
                clear hcut hB6 q0 q1 q2 q3 q4 q5 q6 q7 q8 z0 z1 z2 z3 z4 z5 z6 z7 z8 z9 c1 c2 c3 qd hixd hixw
                go_wp2_with fail
                go_roundw
                case rel => exact ⟨1 + 1, by omega, by go_num, HB6.out⟩
                case measure => simp [intOf]
          · subst hm2
            go_wp2_with fail
            go_ret
            exact ⟨rfl, HB4.out.then HJ.out⟩
end Go.Proofs.YtpahkaffknnjhaaGreatDoor
end

section
namespace Go.Proofs.YtpahkaffknnjhaaGreatDoor
set_option linter.unusedSimpArgs false
set_option linter.unusedVariables false
open Go.RowKit Go.Maps
def IMap (w : World) (gm N : Nat) (f : Int → Option Int) : Prop :=
  ∃ D : DataW Unit, w.ownsMap Tryz.prog 3 (plainElem Tryz.prog 3) gm N D ∧ IsMap D ∧
    ∀ k : Int, Ev.inB k → has D (.int .i64 k) = (f k).isSome ∧ ∀ i z, f k = some i → D.atKey (.int .i64 k) z = .lit (.int .i64 i)
theorem int_wf17 {k : Int} (h : Ev.inB k) : (Lit.int .i64 k).wf = true := by
  have h1 := h.1
  have h2 := h.2
  simp [Lit.wf, IntKind.min, IntKind.max, IntKind.signed, IntKind.bits]
  omega
theorem intKeyed17 : Keyed Tryz.prog 3 := int_keyed Tryz.underlying3
theorem int_key17 {k : Int} (h : Ev.inB k) : keyOf Tryz.prog 3 (.int .i64 k) = some (.int .i64 k) := keyOf_int_mk Tryz.underlying3 (int_wf17 h)
theorem IMap.made (w : World) : IMap (w.alloc (.map #[] 0)) w.heap.size 0 (fun _ => none) :=
  ⟨.map [], World.ownsMap_made w _ _ _, isMap_empty, fun k _ => ⟨rfl, fun g z h => by cases h⟩⟩
section
variable {w : World} {ops : Array Oper} {rest : List Oper} {o : Oper} {a : Act} {Q : Exit → Act → World → Prop} {gm N : Nat} {f : Int → Option Int}
theorem wpList_imap_lookup (hg : o.guard = none) (m x : Operand) (hop : o.op = Op.lookup 189 m x false) (hm : a.eval m = .map (some gm)) (h : IMap w gm N f) (k : Int) (hx : a.eval x = .int .i64 k)
    (hk : Ev.inB k) (hz : (zeroValue 3).run Tryz.prog w = .ok (.int .i64 0) w)
    (hK : wpList Tryz.prog ops Q rest (a.put o.dst (.int .i64 ((f k).getD 0))) w) : wpList Tryz.prog ops Q (o :: rest) a w := by
  obtain ⟨D, hown, hD, hf⟩ := h
  refine wpList_lookup_own_int w hg m x 189 hop 3 3 .i64 intKeyed17 Tryz.underlying189 Tryz.underlying3 hz gm N D hm hown _ _ hx (int_key17 hk) fun c hat _ => ?_
  obtain ⟨e1, e2⟩ := hf k hk
  have hc : c = (f k).getD 0 := by
    cases hfk : f k with
    | none =>
      rw [hfk] at e1
      rw [atKey_of_not_has (by simpa using e1)] at hat
      simp at hat
      simpa using hat.symm
    | some i =>
      rw [e2 i _ hfk] at hat
      simp at hat
      simpa using hat.symm
  rw [hc]
  exact hK
theorem wpList_imap_insert (hg : o.guard = none) (hd : o.dst = none) (m x v : Operand) (hop : o.op = Op.insert 189 m x v) (hm : a.eval m = .map (some gm)) (h : IMap w gm N f) (hN : N < 1000000) (k i : Int) (hx : a.eval x = .int .i64 k) (hv : a.eval v = .int .i64 i)
    (hk : Ev.inB k) (hi : Ev.inB i)
    (hK : ∀ w', IMap w' gm (N + 1) (fun j => if j = k then some i else f j) → w.grownBy w' (some gm) → wpList Tryz.prog ops Q rest a w') : wpList Tryz.prog ops Q (o :: rest) a w := by
  obtain ⟨D, hown, hD, hf⟩ := h
  have hput : a.put o.dst undef = a := by rw [hd]; rfl
  refine wpList_plain hg fun K' hK' => ?_
  obtain ⟨w', hrun, hown', ht⟩ := hown.store intKeyed17 Tryz.underlying189 (show N < maxLen by unfold maxLen; omega) (int_key17 hk) (plainElem_int Tryz.underlying3 (int_wf17 hi))
  unfold Oper.wp
  simp [execOp, hop, hm, hx, hv, hrun, Result.andThen]
  refine hK' _ _ ?_
  rw [hput]
  refine hK w' ⟨_, hown', hD.put _ _, fun j hj1 => ?_⟩ ht.grown
  by_cases hj : j = k
  · subst hj
    simp only [if_true]
    refine ⟨by rw [has_put_same hD (by simp [WideAt.IsKeyLit])]; rfl, fun i' z hi' => ?_⟩
    obtain rfl := Option.some.inj hi'
    exact atKey_put_same hD (by simp [WideAt.IsKeyLit]) _ z
  · simp only [if_neg hj]
    have hne : (Lit.int .i64 j) ≠ (Lit.int .i64 k) := by simpa using hj
    obtain ⟨e1, e2⟩ := hf j hj1
    exact ⟨by rw [has_put_other hne]; exact e1, fun i' z hi' => by rw [atKey_put_other hne]; exact e2 i' z hi'⟩
end
theorem and8 : ∀ a < 16, ∀ b < 16, bits BinOp.and IntKind.u8 (a : Nat) (b : Nat) = ((a &&& b : Nat) : Int) := by decide
theorem shl_or : ∀ a < 16, ∀ f < 4, bits BinOp.or IntKind.u8 (a : Nat) ((2 : Int) ^ f % 256) = ((a ||| 2 ^ f : Nat) : Int) := by decide
def manyOf (op : Int) : Int := if op = 3 then 2 else if op = 4 then 1 else if op = 5 then 1 else 0
def RetCov (W : World) (m : Nat) (e : Ending) (w' : World) : Prop := e = .returned (.tuple #[.int .u8 (m : Nat), .bool true]) ∧ Below W.heap.size W w'
set_option maxRecDepth 20000 in
set_option maxHeartbeats 8000000 in
theorem plcov_step (w : World) (p : Qp) (hp : QpIn w p) (hs : Pn.Sh p.x) (da : Option Addr) (dc : Nat) (hd : DfsIn w da p.x.defs) (l : Pm) (hl : PmRd w l) (ho1 : 1 ≤ l.op) (ho5 : l.op ≤ 5) (hmany : (l.kids.length : Int) = manyOf l.op) (d : Nat) (hd24 : d + 1 ≤ 24)
    (ms acc : Nat → Nat) (h0 : acc 0 = 0) (hacc : ∀ i, i < l.kids.length → acc i &&& ms i = 0 ∧ acc (i + 1) = acc i ||| ms i ∧ ms i < 16) (hac : ∀ i, i ≤ l.kids.length → acc i < 16)
    (hk : ∀ i (hi : i < l.kids.length), ∀ W, Below w.heap.size w W → Calls Tryz.prog 106 #[p.v, .slice da p.x.defs.length dc, l.kids[i].v, .int .i64 (d : Int)] W (RetCov W (ms i)))
    (m : Nat) (hm : (l.op = 3 ∨ l.op = 5) ∧ m = acc l.kids.length ∨ (l.op ≠ 3 ∧ l.op ≠ 5) ∧ (l.op ≠ 1 → Pn.UsesOk p.x l.e (acc l.kids.length)) ∧ 0 ≤ l.fr ∧ l.fr < (p.x.T.length : Int) ∧ (acc l.kids.length).testBit l.fr.toNat = false ∧ m = acc l.kids.length ||| 2 ^ l.fr.toNat)
    (W : World) (hB : Below w.heap.size w W) :
    Calls Tryz.prog 106 #[p.v, .slice da p.x.defs.length dc, l.v, .int .i64 ((d : Int) + 1)] W (RetCov W m) := by
  have HP := Lib.hid (hp.below hB)
  have HS := Lib.hid hs
  have HDF := Lib.hid (hd.below hB)
  have HLR := Lib.hid (hl.later hB)
  have HK := Lib.hid (fun i hi V (hV : Below W.heap.size W V) => hk i hi V (hB.then hV))
  have HACC := Lib.hid hacc
  have HAC := Lib.hid hac
  have HM := Lib.hid hm
  have HMA := Lib.hid hmany
  have H0 := Lib.hid h0
  have HUS := Lib.hid (fun (g : Nat) (hg : g < 16) (hu : Pn.UsesOk p.x l.e g) V (hV : Below W.heap.size W V) => pluses_any W p (hp.below hB) hs da dc (hd.below hB) l (hl.later hB) g hg hu V hV)
  have hkl := hl.kidl
  have hd1 : ((d : Int) + 1 == 0) = false := beq_eq_false_iff_ne.2 (by omega)
  have hd2 : (d : Int) + 1 - 1 = (d : Int) := by omega
  have ht4 := hs.t4
  have hobb : Ev.inB l.op := ⟨by omega, by omega⟩
  clear hp hs hd hl hk hacc hac hm hmany h0 hB
  have hmm := @run_makeMap Tryz.prog
  have hz0 := (zero_of_info (P := Tryz.prog) (t := 3) (v := .int .i64 0) (n := 1) (by kernel_rfl)).1
  go_enter Tryz.func106, Tryz.ntmps106
  go_upto_region 1 with (first | (refine wpList_box_qp rfl (.tmp 0) rfl p rfl ?_; intro W1 hb1 hz1 hB1) | (refine wpList_box_pm rfl (.tmp 2) rfl l rfl ?_; intro W2 hb2 hz2 hB2))
  have HB2 := Lib.hid (hB1.then hB2)
  have HQ := Lib.hid (hb1.below hB2)
  have HL := Lib.hid hb2
  obtain ⟨g4, hg4⟩ : ∃ g, W.heap.size = g := ⟨_, rfl⟩
  rw [hg4] at HQ ⊢
  generalize W1.heap.size = g6 at HL ⊢
  clear hb1 hB1 hB2 hz1 hz2 hb2 hg4
  go_cut [10, 11] from 17 to 29 (fun v10 v11 wx => Hid (v10 = .int .i64 (l.kids.length : Int) ∧ v11 = .bool true ∧ Below W2.heap.size W2 wx))
  case first =>
    have b0 : W2.drew.cell? ⟨g6, 0, none⟩ = some (.int .i64 l.op) := (Blk.pm HL.out.drew).1
    have hm0 : IMap (W2.alloc (.map #[] 0)).drew W2.heap.size 0 (fun _ => none) := IMap.made W2
    have hBm : Below W2.heap.size W2 (W2.alloc (.map #[] 0)).drew := (Below.alloc1 W2 (.map #[] 0)).drewR
    have c0 : (W2.alloc (.map #[] 0)).drew.cell? ⟨g6, 0, none⟩ = some (.int .i64 l.op) := cell_later (Below.alloc1 W2 (.map #[] 0)).drewR (Blk.pm HL.out).1
    have hlt6 : g6 < W2.heap.size := HL.out.lt
    have hne6 : g6 ≠ W2.heap.size := by omega
    have hop5 : l.op = 1 ∨ l.op = 2 ∨ l.op = 3 ∨ l.op = 4 ∨ l.op = 5 := by omega
    refine wp_region_plan (.take 5 (.take 6 (.take 8 (.take 9 (.take 10 (.take 11 (.take 12 (.take 13 (.take 14 (.take 15 (.run 0 [5, 6, 8, 9, 10, 11, 12, 13, 14, 15] (.fork (.fork (.run 1 [5, 6, 8, 9, 10, 11, 12, 13, 14, 15] (.fork (.run 2 [5, 6, 8, 9, 10, 11, 12, 13, 14, 15] (.run 3 [5, 6, 8, 9, 10, 11, 12, 13, 14, 15] (.take 4 (.take 7 (.take 16 (.take 17 .fin)))))) (.run 3 [5, 6, 8, 9, 10, 11, 12, 13, 14, 15] (.run 2 [5, 6, 8, 9, 10, 11, 12, 13, 14, 15] (.take 4 (.take 7 (.take 16 (.take 17 .fin)))))))) (.run 2 [5, 6, 8, 9, 10, 11, 12, 13, 14, 15] (.fork (.run 1 [5, 6, 8, 9, 10, 11, 12, 13, 14, 15] (.run 3 [5, 6, 8, 9, 10, 11, 12, 13, 14, 15] (.take 4 (.take 7 (.take 16 (.take 17 .fin)))))) (.run 3 [5, 6, 8, 9, 10, 11, 12, 13, 14, 15] (.run 1 [5, 6, 8, 9, 10, 11, 12, 13, 14, 15] (.take 4 (.take 7 (.take 16 (.take 17 .fin))))))))) (.run 3 [5, 6, 8, 9, 10, 11, 12, 13, 14, 15] (.fork (.run 1 [5, 6, 8, 9, 10, 11, 12, 13, 14, 15] (.run 2 [5, 6, 8, 9, 10, 11, 12, 13, 14, 15] (.take 4 (.take 7 (.take 16 (.take 17 .fin)))))) (.run 2 [5, 6, 8, 9, 10, 11, 12, 13, 14, 15] (.run 1 [5, 6, 8, 9, 10, 11, 12, 13, 14, 15] (.take 4 (.take 7 (.take 16 (.take 17 .fin)))))))))))))))))))) (by kernel_rfl) (by kernel_rfl) (by kernel_rfl) (by kernel_rfl) ?_
    repeat' (first
      | (refine hZ _ _ ?_; clear hZ)
      | (refine hZ _ ?_; clear hZ)
      | (refine hZ ?_; clear hZ)
      | rw [again_nil]
      | (rw [walk_fin]; go_wp2_with fail; go_meet; (case rel => exact ⟨by rw [HMA.out]; congr 1; unfold manyOf; (repeat' split) <;> omega, by first | rfl | (simp; omega), hBm⟩))
      | (rw [walk_fork]; refine ⟨?_, ?_⟩)
      | ((first | rw [walk_take] | rw [walk_run] | rw [again_cons]); intro Z hZ; simp only [sel, List.getElem?_toArray, List.getElem?_cons_zero, List.getElem?_cons_succ]; go_wp2_with (first
          | (refine wpList_imap_insert rfl rfl (.tmp 17) _ _ rfl rfl hm0 (by decide) _ _ rfl rfl ⟨by decide, by decide⟩ ⟨by decide, by decide⟩ ?_; intro Wn hmn hgn; replace hm0 := hmn; replace c0 := cell_kept hgn (Nat.lt_of_lt_of_le hlt6 hBm.size) hne6 c0; replace hBm := below_of_grown hBm hgn (Nat.le_refl _) hBm.size)
          | (at_lookup; refine wpList_imap_lookup rfl (.tmp 18) (.tmp 20) rfl rfl hm0 _ rfl hobb (hz0 _) ?_))))
  case rest =>
    obtain ⟨rfl, rfl, hBm⟩ := hcut.out
    have HBm := Lib.hid (HB2.out.then hBm)
    have HQ2 := Lib.hid (HQ.out.below hBm)
    have HL2 := Lib.hid (HL.out.below hBm)
    obtain ⟨-, -, -, -, -, -, -, -, c8⟩ := Blk.pm HL2.out
    clear hcut hBm HB2 HQ HL hmm
    go_upto_region 6 with fail
    clear c8
    go_loopw [46, 12] (fun jv mv wr => ∃ i : Nat, i ≤ l.kids.length ∧ jv = .int .i64 (i : Int) ∧ mv = .int .u8 ((acc i : Nat) : Int) ∧ Hid (Below wc.heap.size wc wr)) (fun jv _ _ => l.kids.length - (intOf jv).toNat)
    case atStart => exact ⟨0, Nat.zero_le _, by go_num, by rw [H0.out]; rfl, Below.refl _ _⟩
    case round =>
      obtain ⟨i, hi, rfl, rfl, HJ⟩ := hrel
      by_cases hlt : i < l.kids.length
      · have hji : (i : Int) < (l.kids.length : Int) := by omega
        obtain ⟨bk, ok, hka, -, -⟩ := HLR.out.kidr.at_ hlt
        have HIW : Hid (ERow ePm wr (some ⟨bk, ok, none⟩) l.kids) := by show ERow _ _ _ _; rw [← hka]; exact HLR.out.kidr.below (HBm.out.then HJ.out)
        have hix : (Instr.indexAt 69 (.slice l.ka l.kids.length l.kc) (.int .i64 (i : Int))).run Tryz.prog wr = .ok (.pointer (some ⟨bk, ok + i * 9, none⟩)) wr := by rw [hka]; go_simp
        obtain ⟨k, hk⟩ : ∃ k, l.kids[i] = k := ⟨_, rfl⟩
        have HKE := Lib.hid hk
        have HKC := Lib.hid (HK.out i hlt)
        rw [hk] at HKC
        clear hka hk
        go_upto_region 8 with (first | (refine wpList_load_pm_at rfl (.tmp 48) rfl HIW.out hlt k HKE.out rfl ?_) | (refine wpList_alloc_pm rfl rfl ?_; intro W6 hb6 hz6 hB6) | (refine wpList_store_pm rfl rfl (.tmp 14) (.tmp 49) rfl wr.heap.size rfl k rfl hb6 ?_; intro W7 hb7 hg7))
        have HB7 := Lib.hid (below_of_grown (HJ.out.then hB6) hg7 HJ.out.size (Nat.le_trans HJ.out.size hB6.size))
        clear hix hb6 hz6 hB6 hg7 HIW
        generalize wr.heap.size = g14 at hb7 ⊢
        have hq7 := HQ2.out.below HB7.out
        go_wp2_with (first | (refine wpList_load_qp0 rfl (.tmp 4) rfl g4 rfl hq7 ?_) | (refine wpList_load_pm rfl (.tmp 14) rfl g14 rfl hb7 ?_))
        refine (HKC.out W7 (HBm.out.then HB7.out)).mono ?_
        rintro e W8 ⟨rfl, hB8⟩
        have HB8 := Lib.hid (HB7.out.then hB8)
        have hai := HAC.out i hi
        obtain ⟨e1, e2, e3⟩ := HACC.out i hlt
        have hand : bits BinOp.and IntKind.u8 ((acc i : Nat) : Int) ((ms i : Nat) : Int) = 0 := by rw [and8 _ hai _ e3, e1]; rfl
        have hor : bits BinOp.or IntKind.u8 ((acc i : Nat) : Int) ((ms i : Nat) : Int) = ((acc (i + 1) : Nat) : Int) := by rw [or8 _ hai _ e3, e2]
        clear hB8 hq7 hb7 e1 e2 e3 hai
        go_wp2_with fail
        clear hand hor
        go_roundw
        case rel => exact ⟨i + 1, by omega, by go_num, rfl, HB8.out⟩
        case measure => simp [intOf]; omega
      · have hji : ¬ (i : Int) < (l.kids.length : Int) := by omega
        obtain rfl : i = l.kids.length := by omega
        have HL3 := Lib.hid (HL2.out.below HJ.out)
        have HQ3 := Lib.hid (HQ2.out.below HJ.out)
        have HB3 := Lib.hid (HBm.out.then HJ.out)
        have HAN := Lib.hid (HAC.out l.kids.length (Nat.le_refl _))
        clear HJ HL2 HQ2 HBm HK HACC HAC
        obtain ⟨mn, hmn⟩ : ∃ mn, acc l.kids.length = mn := ⟨_, rfl⟩
        rw [hmn] at HM HAN ⊢
        clear hmn
        obtain ⟨p0, p1, -⟩ := Blk.pm HL3.out
        rcases HM.out with ⟨ho, hme⟩ | ⟨ho, hu, hf0, hf1, hbit, hme⟩
        · have HME := Lib.hid hme
          rcases ho with ho | ho
          · have k3 : (l.op == 3) = true := by simp [ho]
            clear ho hme HM
            go_wp2_with fail
            go_ret2
            exact ⟨by rw [HME.out]; rfl, HB3.out⟩
          · have k3 : (l.op == 3) = false := by simp [ho]
            have k5 : (l.op == 5) = true := by simp [ho]
            clear ho hme HM
            go_wp2_with fail
            go_ret2
            exact ⟨by rw [HME.out]; rfl, HB3.out⟩
        · have k3 : (l.op == 3) = false := by simp [ho.1]
          have k5 : (l.op == 5) = false := by simp [ho.2]
          obtain ⟨f, hf⟩ : ∃ f : Nat, l.fr = (f : Int) := ⟨l.fr.toNat, by omega⟩
          have hbit2 : mn.testBit f = false := by rw [← hbit, hf, Int.toNat_natCast]
          have HME : Hid (m = mn ||| 2 ^ f) := by show _ = _; rw [hme, hf, Int.toNat_natCast]
          have HU := Lib.hid hu
          have HF := Lib.hid hf
          have hf4 : f < 4 := by omega
          have hft : (f : Int) < (p.x.T.length : Int) := by omega
          rw [hf] at p1
          obtain ⟨c0, -⟩ := Blk.qp HQ3.out
          clear ho hu hf0 hf1 hbit hme hf HM
          go_wp2_with fail
          refine (mhas_any wr mn f HAN.out (by omega)).mono ?_
          rw [hbit2]
          rintro e W9 ⟨rfl, rfl⟩
          clear hbit2
          by_cases h1 : l.op = 1
          · have k1 : (l.op != 1) = false := by simp [h1]
            clear h1
            go_wp2_with fail
            go_ret2
            refine ⟨?_, HB3.out⟩
            rw [HME.out, ← shl_or mn HAN.out f hf4]; rfl
          · have k1 : (l.op != 1) = true := by simp [h1]
            have HUC := Lib.hid (HUS.out mn HAN.out (HU.out h1) wr HB3.out)
            clear h1 p0 p1 c0
            obtain ⟨p0, p1, p2, p3, p4, p5, p6, p7, p8⟩ := Blk.pm HL3.out
            obtain ⟨q0, q1, q2, q3, q4, q5, q6, q7, q8⟩ := Blk.qp9 (Blk.qp90 HQ3.out)
            go_wp2_with fail
            refine (show Calls _ _ #[p.v, _, l.v, _] _ _ from HUC.out).mono ?_
            rintro e W10 ⟨rfl, hB10⟩
            obtain ⟨-, r1, -⟩ := Blk.pm (HL3.out.below hB10)
            have HB10 := Lib.hid (HB3.out.then hB10)
            clear hB10 p0 p1 p2 p3 p4 p5 p6 p7 p8 q0 q1 q2 q3 q4 q5 q6 q7 q8
            rw [HF.out] at r1
            go_wp2_with fail
            go_ret2
            refine ⟨?_, HB10.out⟩
            rw [HME.out, ← shl_or mn HAN.out f hf4]; rfl
theorem kids_nil {l : Pm} {P : Pl} (e : l.e = P) (h : P.kids = []) : l.kids = [] := by
  rw [← e, Pm.e_eq] at h
  exact List.map_eq_nil_iff.1 h
theorem kids_one {l : Pm} {P k : Pl} (e : l.e = P) (h : P.kids = [k]) : ∃ a, l.kids = [a] ∧ a.e = k := by
  rw [← e, Pm.e_eq] at h
  have h : l.kids.map Pm.e = [k] := h
  cases hl : l.kids with
  | nil => rw [hl] at h; cases h
  | cons a r =>
    rw [hl] at h
    obtain ⟨h1, h2⟩ := List.cons.inj h
    exact ⟨a, by rw [List.map_eq_nil_iff.1 h2], h1⟩
theorem kids_two {l : Pm} {P k q : Pl} (e : l.e = P) (h : P.kids = [k, q]) : ∃ a b, l.kids = [a, b] ∧ a.e = k ∧ b.e = q := by
  rw [← e, Pm.e_eq] at h
  have h : l.kids.map Pm.e = [k, q] := h
  cases hl : l.kids with
  | nil => rw [hl] at h; cases h
  | cons a r =>
    rw [hl] at h
    obtain ⟨h1, h2⟩ := List.cons.inj h
    cases r with
    | nil => cases h2
    | cons b r =>
      obtain ⟨h3, h4⟩ := List.cons.inj h2
      exact ⟨a, b, by rw [List.map_eq_nil_iff.1 h4], h1, h3⟩
theorem plcov_any (w : World) (p : Qp) (hp : QpIn w p) (hs : Pn.Sh p.x) (da : Option Addr) (dc : Nat) (hd : DfsIn w da p.x.defs) {d : Nat} {P : Pl} {m : Nat} (h : Pn.Good p.x d P m) :
    d ≤ 24 → ∀ l : Pm, PmRd w l → l.e = P → ∀ W, Below w.heap.size w W → Calls Tryz.prog 106 #[p.v, .slice da p.x.defs.length dc, l.v, .int .i64 (d : Int)] W (RetCov W m) := by
  induction h with
  | @seq d P h1 h2 h3 h4 =>
    intro hd24 l hl e W hB
    have ho : l.op = 1 := by rw [← l.e_op, e]; exact h1
    have hk := kids_nil e h2
    have hfr : l.fr = P.fr := by rw [← l.e_fr, e]
    refine plcov_step w p hp hs da dc hd l hl (by omega) (by omega) (by rw [hk, ho]; rfl) d hd24 (fun _ => 0) (fun _ => 0) rfl (fun i hi => by rw [hk] at hi; cases hi) (fun _ _ => by decide) (fun i hi => by rw [hk] at hi; cases hi) _
      (.inr ⟨by omega, fun h => absurd ho h, by rw [hfr]; exact h3, by rw [hfr]; exact h4, Nat.zero_testBit _, ?_⟩) W hB
    rw [hfr, Nat.zero_or]
  | @range d P h1 h2 hu =>
    intro hd24 l hl e W hB
    have ho : l.op = 2 := by rw [← l.e_op, e]; exact h1
    have hk := kids_nil e h2
    have hfr : l.fr = P.fr := by rw [← l.e_fr, e]
    refine plcov_step w p hp hs da dc hd l hl (by omega) (by omega) (by rw [hk, ho]; rfl) d hd24 (fun _ => 0) (fun _ => 0) rfl (fun i hi => by rw [hk] at hi; cases hi) (fun _ _ => by decide) (fun i hi => by rw [hk] at hi; cases hi) _
      (.inr ⟨by omega, fun _ => by rw [e]; exact hu, by rw [hfr]; exact hu.f0, by rw [hfr]; exact hu.f1, Nat.zero_testBit _, ?_⟩) W hB
    rw [hfr, Nat.zero_or]
  | @loop d P pl pr ml mr h1 h2 h3 h4 h5 i3 i4 =>
    intro hd24 l hl e W hB
    have ho : l.op = 3 := by rw [← l.e_op, e]; exact h1
    obtain ⟨a, b, hk, ea, eb⟩ := kids_two e h2
    have hml := h3.lt hs.t4
    have hmr := h4.lt hs.t4
    refine plcov_step w p hp hs da dc hd l hl (by omega) (by omega) (by rw [hk, ho]; rfl) d hd24 (fun i => if i = 0 then ml else mr) (fun i => if i = 0 then 0 else if i = 1 then ml else ml ||| mr) rfl ?_ ?_ ?_ _
      (.inl ⟨.inl ho, by rw [hk]; rfl⟩) W hB
    · intro i hi
      rw [hk] at hi
      have hi : i < 2 := hi
      rcases (show i = 0 ∨ i = 1 by omega) with rfl | rfl
      · exact ⟨by simp, by simp, hml⟩
      · exact ⟨by simpa using h5, rfl, hmr⟩
    · intro i _
      split
      · decide
      · split
        · exact hml
        · exact or16 _ hml _ hmr
    · intro i hi V hV
      have hi2 : i < 2 := by rw [hk] at hi; exact hi
      rcases (show i = 0 ∨ i = 1 by omega) with rfl | rfl
      · have hg : l.kids[0] = a := by simp [hk]
        rw [hg]
        exact i3 (by omega) a (hl.kid a (by rw [hk]; simp)) ea V hV
      · have hg : l.kids[1] = b := by simp [hk]
        rw [hg]
        exact i4 (by omega) b (hl.kid b (by rw [hk]; simp)) eb V hV
  | @lookup d P pl ml h1 h2 h3 h4 hu i3 =>
    intro hd24 l hl e W hB
    have ho : l.op = 4 := by rw [← l.e_op, e]; exact h1
    obtain ⟨a, hk, ea⟩ := kids_one e h2
    have hfr : l.fr = P.fr := by rw [← l.e_fr, e]
    have hml := h3.lt hs.t4
    refine plcov_step w p hp hs da dc hd l hl (by omega) (by omega) (by rw [hk, ho]; rfl) d hd24 (fun _ => ml) (fun i => if i = 0 then 0 else ml) rfl ?_ ?_ ?_ _
      (.inr ⟨by omega, fun _ => by rw [e, hk]; exact hu, by rw [hfr]; exact hu.f0, by rw [hfr]; exact hu.f1, by rw [hfr, hk]; exact h4, by rw [hfr, hk]; rfl⟩) W hB
    · intro i hi
      rw [hk] at hi
      have hi : i < 1 := hi
      obtain rfl : i = 0 := by omega
      exact ⟨by simp, by simp, hml⟩
    · intro i _
      split
      · decide
      · exact hml
    · intro i hi V hV
      have hi2 : i < 1 := by rw [hk] at hi; exact hi
      obtain rfl : i = 0 := by omega
      have hg : l.kids[0] = a := by simp [hk]
      rw [hg]
      exact i3 (by omega) a (hl.kid a (by rw [hk]; simp)) ea V hV
  | @sort d P pk m h1 h2 h3 i3 =>
    intro hd24 l hl e W hB
    have ho : l.op = 5 := by rw [← l.e_op, e]; exact h1
    obtain ⟨a, hk, ea⟩ := kids_one e h2
    have hml := h3.lt hs.t4
    refine plcov_step w p hp hs da dc hd l hl (by omega) (by omega) (by rw [hk, ho]; rfl) d hd24 (fun _ => m) (fun i => if i = 0 then 0 else m) rfl ?_ ?_ ?_ _
      (.inl ⟨.inr ho, by rw [hk]; rfl⟩) W hB
    · intro i hi
      rw [hk] at hi
      have hi : i < 1 := hi
      obtain rfl : i = 0 := by omega
      exact ⟨by simp, by simp, hml⟩
    · intro i _
      split
      · decide
      · exact hml
    · intro i hi V hV
      have hi2 : i < 1 := by rw [hk] at hi; exact hi
      obtain rfl : i = 0 := by omega
      have hg : l.kids[0] = a := by simp [hk]
      rw [hg]
      exact i3 (by omega) a (hl.kid a (by rw [hk]; simp)) ea V hV
end Go.Proofs.YtpahkaffknnjhaaGreatDoor
end

