/-
  Texts of a proof, one behind the other (each with its own head).
-/
import Derived.Test.YtpahkaffknnjhaaGreatDoorPartEmkilimmj
section
/-
  The contract of run.NewMem.
-/
namespace Go.Proofs.YtpahkaffknnjhaaGreatDoor
set_option linter.unusedSimpArgs false
set_option linter.unusedVariables false
open Go.RowKit

namespace Run
/-- The rows of a table, by its number. -/
def rowsAt (T : List (List (List Va))) (t : Int) : List (List Va) := if 0 ≤ t ∧ t < (T.length : Int) then T.getD t.toNat [] else []
theorem rows_back {G G' : List Gr} (h : G'.map rowsG = G.map rowsG) {g : Gr} (hg : g ∈ G') : ∃ g0 ∈ G, rowsG g0 = rowsG g := by
  have : rowsG g ∈ G.map rowsG := by rw [← h]; exact List.mem_map.2 ⟨g, hg, rfl⟩
  obtain ⟨g0, h1, h2⟩ := List.mem_map.1 this
  exact ⟨g0, h1, h2⟩
theorem row_back {g0 g : Gr} (h : rowsG g0 = rowsG g) {r : Rw} (hr : r ∈ g.l) : ∃ r0 ∈ g0.l, r0.l = r.l := by
  have : r.l ∈ rowsG g0 := by rw [h]; exact List.mem_map.2 ⟨r, hr, rfl⟩
  obtain ⟨r0, h1, h2⟩ := List.mem_map.1 this
  exact ⟨r0, h1, h2⟩
def keysD (T : List (List (List Va))) (d : Df) : List Bs := keys d.cols (rowsAt T d.t)
end Run
/-- A source while its tables are filled. -/
structure NewT (w W : World) (gm : Nat) (T : List (List (List Va))) (A : Option Addr) (c : Nat) (G : List Gr) : Prop where
  blk : Blk W gm 75 [.slice A G.length c, .slice none 0 0]
  own : TbOwn w.heap.size W A c G
  rows : G.map Run.rowsG = T
  b : Below w.heap.size w W
  lo : w.heap.size ≤ gm
/-- A source while its indexes are filled. -/
structure NewK (w W : World) (gm : Nat) (T : List (List (List Va))) (KK : List (List Run.Bs)) (A : Option Addr) (c : Nat) (G : List Gr) (A2 : Option Addr) (c2 : Nat) (K : List Ks) : Prop where
  blk : Blk W gm 75 [.slice A G.length c, .slice A2 K.length c2]
  own : TbOwn w.heap.size W A c G
  rows : G.map Run.rowsG = T
  ks : KsOwn w.heap.size W A2 c2 K
  keys : K.map Run.keysG = KK
  kl : ∀ k ∈ K, k.l.length ≤ 1000
  pl : ∀ k ∈ K, ∀ p ∈ k.l, p.l.length ≤ 200000
  b : Below w.heap.size w W
  lo : w.heap.size ≤ gm
theorem grown_setb {w : World} {g : Nat} (i : Nat) (u : Value) : w.grownBy (w.setCell ⟨g, i, none⟩ u) (some g) := grown_set (grown_refl w _) i u
theorem Blk.apart {w w' : World} {g : Nat} {T T' : TypeId} {cs : List Value} (h : Blk w g T cs) {row : Option Nat} (hg : w.grownBy w' row) (hr : ∀ x, row = some x → isK w T' x) (hT : T ≠ T') : Blk w' g T cs :=
  h.grown hg fun e => hT (h.kind.one (hr _ e.symm))
theorem isK.alloc {w : World} {T : TypeId} {g : Nat} (h : isK w T g) (o : Obj) : isK (w.alloc o) T g := by
  obtain ⟨cur, fr, h⟩ := h
  exact ⟨cur, fr, ((Below.refl w.heap.size w).alloc (Nat.le_refl _) o).block _ (Array.getElem?_eq_some_iff.1 h).1 |>.trans h⟩
theorem isK.below {w w' : World} {T : TypeId} {g : Nat} (h : isK w T g) (hB : Below w.heap.size w w') : isK w' T g := by
  obtain ⟨cur, fr, h⟩ := h
  exact ⟨cur, fr, (hB.block _ (Array.getElem?_eq_some_iff.1 h).1).trans h⟩
section
variable {w W wq w4 : World} {gm c c4 : Nat} {T : List (List (List Va))} {A A4 : Option Addr} {G : List Gr} {g : Gr}
theorem NewT.blk4 (h : NewT w W gm T A c G) (hB : Below W.heap.size W wq) (hgr : (wq.alloc (.cells #[g.h] 43)).grownBy w4 (A.map (·.block))) : Blk w4 gm 75 [.slice A G.length c, .slice none 0 0] :=
  ((h.blk.below hB).alloc _).apart hgr (fun x hx => ((h.own.own.turns x hx).below hB).alloc _) (by decide)
theorem NewT.one (h : NewT w W gm T A c G) (hB : Below W.heap.size W wq) (hg : RwOwn W.heap.size wq g.a g.c g.l) (ho : EOwn eT3 w4 w.heap.size A4 c4 (G ++ [g])) (hgr : (wq.alloc (.cells #[g.h] 43)).grownBy w4 (A.map (·.block))) :
    NewT w (w4.setCell ⟨gm, 0, none⟩ (.slice A4 (G.length + 1) c4)) gm (T ++ [Run.rowsG g]) A4 c4 (G ++ [g]) := by
  have hb4 := h.blk4 hB hgr
  have hal : Below wq.heap.size wq (wq.alloc (.cells #[g.h] 43)) := (Below.refl _ _).alloc (Nat.le_refl _) _
  have hBa := hB.trans (hal.mono hB.size)
  have ht := ((h.own.below hB).below hal).one ((hg.mono h.b.size).below hal) ho hgr
  have hlt := hb4.lt
  refine ⟨?_, ?_, ?_, ?_, h.lo⟩
  · rw [List.length_append]
    exact hb4.set0
  · exact ht.apart (grown_setb 0 _) (fun x hx => by cases hx; exact hb4.kind) (by decide) (by decide) (by decide)
  · rw [List.map_append, h.rows]; rfl
  · have h1 : Below w.heap.size w (wq.alloc (.cells #[g.h] 43)) := h.b.then hBa
    have h2 : Below w.heap.size w w4 := h1.grown hgr h1.size fun k hk => by
      cases hA : A with
      | none => rw [hA] at hk; cases hk
      | some a => rw [hA] at hk; cases hk; exact (h.own.own.block a hA).1
    exact h2.grown (grown_setb 0 _) h2.size fun k hk => by cases hk; exact h.lo
end
section
variable {w W wq w4 : World} {gm c c2 c4 : Nat} {T : List (List (List Va))} {KK : List (List Run.Bs)} {A A2 A4 : Option Addr} {G : List Gr} {K : List Ks} {g : Ks}
theorem NewK.below (h : NewK w W gm T KK A c G A2 c2 K) (hB : Below W.heap.size W wq) : NewK w wq gm T KK A c G A2 c2 K :=
  ⟨h.blk.below hB, h.own.below hB, h.rows, h.ks.below hB, h.keys, h.kl, h.pl, h.b.then hB, h.lo⟩
theorem NewK.blk4 (h : NewK w W gm T KK A c G A2 c2 K) (hgr : (W.alloc (.cells #[g.h] 77)).grownBy w4 (A2.map (·.block))) : Blk w4 gm 75 [.slice A G.length c, .slice A2 K.length c2] :=
  (h.blk.alloc _).apart hgr (fun x hx => (h.ks.own.turns x hx).alloc _) (by decide)
theorem NewK.one (h : NewK w W gm T KK A c G A2 c2 K) (hg : KyOwn w.heap.size W g.a g.c g.l) (hkl : g.l.length ≤ 1000) (hpl : ∀ p ∈ g.l, p.l.length ≤ 200000) (ho : EOwn eKs w4 w.heap.size A4 c4 (K ++ [g])) (hgr : (W.alloc (.cells #[g.h] 77)).grownBy w4 (A2.map (·.block))) :
    NewK w (w4.setCell ⟨gm, 1, none⟩ (.slice A4 (K.length + 1) c4)) gm T (KK ++ [Run.keysG g]) A c G A4 c4 (K ++ [g]) := by
  have hb4 := h.blk4 hgr
  have hal : Below W.heap.size W (W.alloc (.cells #[g.h] 77)) := (Below.refl _ _).alloc (Nat.le_refl _) _
  have hka : ∀ x, A2.map (·.block) = some x → isK (W.alloc (.cells #[g.h] 77)) 77 x := fun x hx => (h.ks.own.turns x hx).alloc _
  have hks := (h.ks.below hal).one (hg.below hal) ho hgr
  have hts := (h.own.below hal).apart hgr hka (by decide) (by decide) (by decide)
  have hgk : ∀ x, some gm = some x → isK w4 75 x := fun x hx => by cases hx; exact hb4.kind
  refine ⟨?_, hts.apart (grown_setb 1 _) hgk (by decide) (by decide) (by decide), h.rows, hks.apart (grown_setb 1 _) hgk (by decide) (by decide) (by decide), by rw [List.map_append, h.keys]; rfl, ?_, ?_, ?_, h.lo⟩
  · rw [List.length_append]
    exact hb4.set1
  · intro k hk
    rcases List.mem_append.1 hk with hk | hk
    · exact h.kl k hk
    · rw [List.mem_singleton.1 hk]; exact hkl
  · intro k hk
    rcases List.mem_append.1 hk with hk | hk
    · exact h.pl k hk
    · rw [List.mem_singleton.1 hk]; exact hpl
  · have h1 : Below w.heap.size w (W.alloc (.cells #[g.h] 77)) := h.b.then hal
    have h2 : Below w.heap.size w w4 := h1.grown hgr h1.size fun k hk => by
      cases hA : A2 with
      | none => rw [hA] at hk; cases hk
      | some a => rw [hA] at hk; cases hk; exact (h.ks.own.block a hA).1
    exact h2.grown (grown_setb 1 _) h2.size fun k hk => by cases hk; exact h.lo
end
/-- What NewMem answers. -/
def RetMem (w : World) (T : List (List (List Va))) (KK : List (List Run.Bs)) (e : Ending) (w' : World) : Prop := ∃ gm G' K, e = .returned (.pointer (some ⟨gm, 0, none⟩)) ∧ MemAt w' gm G' K ∧ G'.map Run.rowsG = T ∧ K.map Run.keysG = KK ∧ Below w.heap.size w w'
set_option maxRecDepth 20000 in
set_option maxHeartbeats 4000000 in
theorem newmem_any (w : World) (ta : Option Addr) (tc : Nat) (G : List Gr) (ht : TbIn w ta G) (da : Option Addr) (dc : Nat) (D : List Df) (hd : DfsIn w da D) (hdl : D.length ≤ 100) (hcl : ∀ d ∈ D, d.cols.length ≤ 90) :
    Calls Tryz.prog 8 #[.slice ta G.length tc, .slice da D.length dc] w (RetMem w (G.map Run.rowsG) (D.map (Run.keysD (G.map Run.rowsG)))) := by
  have HT := Lib.hid ht
  have HD := Lib.hid hd
  have HCL := Lib.hid hcl
  have hgl := ht.few
  clear ht hd hcl
  go_enter Tryz.func8, Tryz.ntmps8
  go_upto_region 2 with fail
  generalize hW1 : World.alloc w (.cells #[_, _] 75) = W1
  obtain ⟨hb1, hz1, hB1⟩ := fresh1 (a := [.slice none 0 0, .slice none 0 0]) hW1
  have HI : Hid (NewT w W1 w.heap.size [] none 0 []) := ⟨hb1, TbOwn.start, rfl, hB1, Nat.le_refl _⟩
  clear hW1 hb1 hz1 hB1
  generalize w.heap.size = gm at HI ⊢
  go_wp2_with fail
  go_loopw [20] (fun iv wr => ∃ (k : Nat) (A : Option Addr) (c : Nat) (G' : List Gr), k ≤ G.length ∧ iv = .int .i64 (k : Int) ∧ Hid (NewT w wr gm ((G.map Run.rowsG).take k) A c G')) (fun iv _ => G.length - (intOf iv).toNat)
  case atStart => exact ⟨0, none, 0, [], Nat.zero_le _, by go_num, HI.out⟩
  case round =>
    obtain ⟨k, A, c, G', hk, rfl, HN⟩ := hrel
    obtain ⟨wo, rfl⟩ : ∃ x, x = wr := ⟨_, rfl⟩
    clear HI
    by_cases hlt : k < G.length
    · have hki : (k : Int) < (G.length : Int) := by omega
      obtain ⟨b, o, rfl, -, hc⟩ := T3_at (HT.out.r.below HN.out.b) hlt
      have HTK : Hid ((G.map Run.rowsG).take (k + 1) = (G.map Run.rowsG).take k ++ [Run.rowsG G[k]]) := by
        show _ = _
        rw [List.take_succ_eq_append_getElem (by simpa using hlt)]
        simp
      have HG := Lib.hid (HT.out.in_ _ (List.getElem_mem hlt))
      have hrl := HT.out.gl _ (List.getElem_mem hlt)
      have HRL := Lib.hid (HT.out.rl _ (List.getElem_mem hlt))
      have hG' : G'.length = k := by
        have := congrArg List.length HN.out.rows
        simpa [Nat.min_eq_left (Nat.le_of_lt hlt)] using this
      generalize G[k] = gr at hc HTK HG hrl HRL
      unfold Gr.h at hc
      go_upto_region 7 with fail
      go_loopw [8, 26] (fun rv jv wq => ∃ (j : Nat) (A2 : Option Addr) (c2 : Nat) (R : List Rw), j ≤ gr.l.length ∧ rv = .slice A2 (j : Int).toNat c2 ∧ jv = .int .i64 (j : Int) ∧ Hid (RwOwn wo.heap.size wq A2 c2 R ∧ R.map (·.l) = (gr.l.map (·.l)).take j ∧ R.length = j ∧ Below wo.heap.size wo wq)) (fun _ jv _ => gr.l.length - (intOf jv).toNat)
      case atStart => exact ⟨0, none, 0, [], Nat.zero_le _, rfl, by go_num, RwOwn.start, rfl, rfl, Below.refl _ _⟩
      case round =>
        obtain ⟨j, A2, c2, R, hj, rfl, rfl, HR⟩ := hrel
        rw [Int.toNat_natCast]
        by_cases hjt : j < gr.l.length
        · have hji : (j : Int) < (gr.l.length : Int) := by omega
          obtain ⟨b2, o2, ha2, -, hc2⟩ := rw_at ((HG.out.r.below HN.out.b).below HR.out.2.2.2) hjt
          have HTJ : Hid ((gr.l.map (·.l)).take (j + 1) = (gr.l.map (·.l)).take j ++ [gr.l[j].l]) := by
            show _ = _
            rw [List.take_succ_eq_append_getElem (by simpa using hjt)]
            simp
          have HIN := Lib.hid ((HG.out.in_ _ (List.getElem_mem hjt)).below (HN.out.b.then HR.out.2.2.2))
          have hln := HRL.out _ (List.getElem_mem hjt)
          rw [ha2]
          clear ha2
          generalize gr.l[j] = r at hc2 HTJ HIN hln
          unfold Rw.v at hc2
          go_wp2_with fail
          refine (vclone_any wr r.a r.c r.l HIN.out.r (by omega)).mono ?_
          rintro e W3 ⟨A3, c3, rfl, ho, hB⟩
          have HR3 : Hid (RwOwn wo.heap.size W3 A2 c2 R ∧ Below wo.heap.size wo W3) := ⟨HR.out.1.below hB, HR.out.2.2.2.then hB⟩
          have HO3 : Hid (EOwn eVa W3 wo.heap.size A3 c3 r.l) := ho.mono HR.out.2.2.2.size
          have HRE : Hid (R.map (·.l) = (gr.l.map (·.l)).take j ∧ R.length = j) := ⟨HR.out.2.1, HR.out.2.2.1⟩
          clear ho hB hc2 HIN HR
          have hoA : EOwn eRw (W3.alloc (.cells #[.slice A3 r.l.length c3] 37)) wo.heap.size (some ⟨W3.heap.size, 0, none⟩) 1 [⟨A3, r.l, c3⟩] := EOwn.new (E := eRw) W3 [(⟨A3, r.l, c3⟩ : Rw)] (by simp [maxLen]) HR3.out.2.size #[.slice A3 r.l.length c3] rfl
          have hbA : Below W3.heap.size W3 (W3.alloc (.cells #[.slice A3 r.l.length c3] 37)) := (Below.refl _ _).alloc (Nat.le_refl _) _
          have HRA : Hid (RwOwn wo.heap.size (W3.alloc (.cells #[.slice A3 r.l.length c3] 37)) A2 c2 R ∧ EOwn eVa (W3.alloc (.cells #[.slice A3 r.l.length c3] 37)) wo.heap.size A3 c3 r.l ∧ Below wo.heap.size wo (W3.alloc (.cells #[.slice A3 r.l.length c3] 37))) := ⟨HR3.out.1.below hbA, HO3.out.below hbA, HR3.out.2.then hbA⟩
          clear hbA HR3 HO3
          go_wp2_with (at_builtin; refine wpList_append_elems eRw rfl (.tmp 30) (.tmp 33) rfl j rfl HRA.out.1.own HRE.out.2.symm 1 rfl hoA.row rfl (by have := HRE.out.2; simp; omega) HRA.out.2.2.size ?_; intro A5 c5 W5 ho5 hb5 hg5 _)
          have HR5 := Lib.hid (HRA.out.1.one HRA.out.2.1 ho5 hg5)
          have HB5 := Lib.hid (HRA.out.2.2.trans hb5)
          clear ho5 hb5 hg5 hoA HRA
          go_roundw
          case rel => exact ⟨j + 1, A5, c5, R ++ [⟨A3, r.l, c3⟩], by omega, by rw [HRE.out.2]; rfl, by go_num, HR5.out, by rw [HTJ.out, List.map_append, HRE.out.1]; rfl, by rw [List.length_append, HRE.out.2]; rfl, HB5.out⟩
          case measure => simp [intOf]; omega
        · obtain rfl : j = gr.l.length := by omega
          have HRE : Hid (R.map (·.l) = gr.l.map (·.l) ∧ R.length = gr.l.length) := ⟨by rw [HR.out.2.1, ← List.length_map (f := (·.l)), List.take_length], HR.out.2.2.1⟩
          have HR3 : Hid (RwOwn wo.heap.size wr A2 c2 R ∧ Below wo.heap.size wo wr) := ⟨HR.out.1, HR.out.2.2.2⟩
          clear HR hc
          obtain ⟨c0, -, hf0, -, hgm⟩ := Blk.c2 (HN.out.blk.below HR3.out.2)
          rw [← HRE.out.2]
          rw [hG'] at c0
          have hoA : EOwn eT3 (wr.alloc (.cells #[.slice A2 R.length c2] 43)) w.heap.size (some ⟨wr.heap.size, 0, none⟩) 1 [⟨A2, R, c2⟩] := EOwn.new (E := eT3) wr [(⟨A2, R, c2⟩ : Gr)] (by simp [maxLen]) (HN.out.b.then HR3.out.2).size #[.slice A2 R.length c2] rfl
          go_upto_region 12 with (at_builtin; refine wpList_append_elems eT3 rfl (.tmp 40) (.tmp 42) rfl k rfl ((HN.out.own.own.below HR3.out.2).alloc _) hG'.symm 1 rfl hoA.row rfl (by rw [hG']; simp; omega) (by have := (HN.out.b.then HR3.out.2).size; simp; omega) ?_; intro A5 c5 W5 ho5 hb5 hg5 _; have HN5 := Lib.hid (HN.out.one (g := ⟨A2, R, c2⟩) HR3.out.2 HR3.out.1 ho5 hg5); obtain ⟨d0, -, df0, -, dg⟩ := Blk.c2 (HN.out.blk4 (g := ⟨A2, R, c2⟩) HR3.out.2 hg5); clear ho5 hb5 hg5 c0 hf0 hgm)
          rw [hG'] at HN5
          generalize World.setCell W5 _ _ = W6 at HN5 ⊢
          clear HR3 HN hoA d0 df0 dg
          go_wp2_with fail
          go_roundw
          case rel => exact ⟨k + 1, A5, c5, G' ++ [⟨A2, R, c2⟩], by omega, by go_num, by rw [HTK.out, show Run.rowsG gr = Run.rowsG ⟨A2, R, c2⟩ from HRE.out.1.symm]; exact HN5.out⟩
          case measure => simp [intOf]; omega
    · obtain rfl : k = G.length := by omega
      have HK : Hid (NewK w wo gm (G.map Run.rowsG) [] A c G' none 0 []) := by
        have h := HN.out
        have e : (G.map Run.rowsG).take G.length = G.map Run.rowsG := by rw [← List.length_map (f := Run.rowsG), List.take_length]
        rw [e] at h
        exact ⟨h.blk, h.own, h.rows, KsOwn.start, rfl, (by intro k hk; cases hk), (by intro k hk; cases hk), h.b, h.lo⟩
      clear HN
      go_wp2_with fail
      go_loopw [49] (fun iv wr => ∃ (k : Nat) (A2 : Option Addr) (c2 : Nat) (K : List Ks), k ≤ D.length ∧ iv = .int .i64 (k : Int) ∧ Hid (NewK w wr gm (G.map Run.rowsG) ((D.map (Run.keysD (G.map Run.rowsG))).take k) A c G' A2 c2 K)) (fun iv _ => D.length - (intOf iv).toNat)
      case atStart => exact ⟨0, none, 0, [], Nat.zero_le _, by go_num, HK.out⟩
      case round =>
        obtain ⟨k, A2, c2, K, hk, rfl, HN⟩ := hrel
        obtain ⟨w1, rfl⟩ : ∃ x, x = wr := ⟨_, rfl⟩
        clear HK
        by_cases hlt : k < D.length
        · have hki : (k : Int) < (D.length : Int) := by omega
          obtain ⟨b, o, rfl, -⟩ := HD.out.r.at_ hlt
          have HDR := Lib.hid (HD.out.r.below HN.out.b)
          have HTK : Hid ((D.map (Run.keysD (G.map Run.rowsG))).take (k + 1) = (D.map (Run.keysD (G.map Run.rowsG))).take k ++ [Run.keysD (G.map Run.rowsG) D[k]]) := by
            show _ = _
            rw [List.take_succ_eq_append_getElem (by simpa using hlt)]
            simp
          have hdm := List.getElem_mem hlt
          have HDI : Hid (ERow eInt w D[k].a D[k].cols ∧ (∀ c ∈ D[k].cols, Ev.inB c) ∧ D[k].cols.length ≤ 90) := ⟨HD.out.cr _ hdm, HD.out.ci _ hdm, HCL.out _ hdm⟩
          have hK : K.length = k := by
            have := congrArg List.length HN.out.keys
            simpa [Nat.min_eq_left (Nat.le_of_lt hlt)] using this
          clear hdm
          obtain ⟨d, hd⟩ : ∃ d, D[k] = d := ⟨_, rfl⟩
          have HDK := Lib.hid hd
          rw [hd] at HTK HDI
          clear hd
          go_upto_region 16 with (first | (refine wpList_load_df_at (j := k) rfl (.tmp 51) rfl HDR.out hlt d HDK.out rfl ?_) | (refine wpList_alloc_df rfl rfl ?_; intro W2 hb2 hz2 hB2) | (refine wpList_store_df rfl rfl (.tmp 12) (.tmp 52) rfl _ rfl d rfl hb2 ?_; intro W3 hb3 hg3))
          have HN3 := Lib.hid (HN.out.below (below_of_grown hB2 hg3 (Nat.le_refl _) hB2.size))
          have H12 := Lib.hid hb3
          clear hb2 hz2 hB2 hg3 hb3
          generalize w1.heap.size = g12 at H12 ⊢
          obtain ⟨d0, d1, -⟩ := Blk.c3 H12.out
          by_cases hin : 0 ≤ d.t ∧ d.t < (G.length : Int)
          · obtain ⟨hi0, hi1⟩ := hin
            obtain ⟨n, hn⟩ : ∃ n : Nat, d.t = (n : Int) := ⟨d.t.toNat, by omega⟩
            have hnl : n < G.length := by omega
            have HKD : Hid (Run.keysD (G.map Run.rowsG) d = Run.keys d.cols (Run.rowsG G[n])) := by
              show _ = _
              unfold Run.keysD Run.rowsAt
              rw [hn, if_pos ⟨by omega, by simpa using hnl⟩]
              simp [List.getD, hnl]
            obtain ⟨b4, o4, rfl, -, hc⟩ := T3_at (HT.out.r.below HN3.out.b) hnl
            have HG := Lib.hid (HT.out.in_ _ (List.getElem_mem hnl))
            have hrl := HT.out.gl _ (List.getElem_mem hnl)
            have HVL := Lib.hid (HT.out.vl _ (List.getElem_mem hnl))
            generalize G[n] = gr at hc HG hrl HVL HKD
            unfold Gr.h at hc
            rw [hn] at d0
            clear hi0 hi1 hn
            go_upto_region 19 with fail
            clear d0 d1 hc
            go_loopw [13, 69] (fun rv jv wq => ∃ (j : Nat) (A3 : Option Addr) (c3 : Nat) (P : List Part), j ≤ gr.l.length ∧ rv = .slice A3 j c3 ∧ jv = .int .i64 (j : Int) ∧ Hid (KyOwn W3.heap.size wq A3 c3 P ∧ P.map (·.l) = Run.keysU d.cols 0 ((Run.rowsG gr).take j) ∧ P.length = j ∧ (∀ p ∈ P, p.l.length ≤ 200000) ∧ Below W3.heap.size W3 wq)) (fun _ jv _ => gr.l.length - (intOf jv).toNat)
            case atStart => exact ⟨0, none, 0, [], Nat.zero_le _, rfl, by go_num, KyOwn.start, rfl, rfl, (by intro p hp; cases hp), Below.refl _ _⟩
            case round =>
              obtain ⟨j, A3, c3, P, hj, rfl, rfl, HR⟩ := hrel
              by_cases hjt : j < gr.l.length
              · have hji : (j : Int) < (gr.l.length : Int) := by omega
                obtain ⟨b2, o2, ha2, -, hc2⟩ := rw_at ((HG.out.r.below HN3.out.b).below HR.out.2.2.2.2) hjt
                have HTJ : Hid (Run.keysU d.cols 0 ((Run.rowsG gr).take (j + 1)) = Run.keysU d.cols 0 ((Run.rowsG gr).take j) ++ [Run.key d.cols gr.l[j].l ((j : Int) + 1)]) := by
                  show _ = _
                  rw [Run.keysU_take d.cols (Run.rowsG gr) j (by simpa using hjt)]
                  simp
                have HIN := Lib.hid ((HG.out.in_ _ (List.getElem_mem hjt)).below (HN3.out.b.then HR.out.2.2.2.2))
                have HSV := Lib.hid (HVL.out _ (List.getElem_mem hjt))
                obtain ⟨-, d1, -⟩ := Blk.c3 (H12.out.below HR.out.2.2.2.2)
                rw [ha2]
                clear ha2
                generalize gr.l[j] = r at hc2 HTJ HIN HSV
                unfold Rw.v at hc2
                go_wp2_with fail
                refine (rkey_any wr d.a d.c d.cols ((HDI.out.1.below HN3.out.b).below HR.out.2.2.2.2) HDI.out.2.1 (by have := HDI.out.2.2; omega) r.a r.c r.l HIN.out HSV.out ((j : Int) + 1) (by omega) (by omega)).mono ?_
                rintro e W4 ⟨A4, c4, rfl, ho, hB⟩
                have HKL : Hid ((Run.key d.cols r.l ((j : Int) + 1)).length ≤ 200000) := by
                  have h1 := Run.key_len d.cols r.l ((j : Int) + 1) HSV.out
                  have h2 := HDI.out.2.2
                  show _ ≤ _
                  omega
                obtain ⟨kv, hkv⟩ : ∃ x, Run.key d.cols r.l ((j : Int) + 1) = x := ⟨_, rfl⟩
                rw [hkv] at HTJ HKL ho ⊢
                have HR4 : Hid (KyOwn W3.heap.size W4 A3 c3 P ∧ Below W3.heap.size W3 W4 ∧ BOwn W4 W3.heap.size A4 c4 kv) := ⟨HR.out.1.below hB, HR.out.2.2.2.2.then hB, ho.mono HR.out.2.2.2.2.size⟩
                have HRE : Hid (P.map (·.l) = Run.keysU d.cols 0 ((Run.rowsG gr).take j) ∧ P.length = j ∧ ∀ p ∈ P, p.l.length ≤ 200000) := ⟨HR.out.2.1, HR.out.2.2.1, HR.out.2.2.2.1⟩
                clear ho hB hc2 HIN HR hkv d1 HSV
                have hoA : EOwn eKy (W4.alloc (.cells #[.slice A4 kv.length c4] 32)) W3.heap.size (some ⟨W4.heap.size, 0, none⟩) 1 [⟨A4, c4, kv⟩] := EOwn.new (E := eKy) W4 [(⟨A4, c4, kv⟩ : Part)] (by simp [maxLen]) HR4.out.2.1.size #[.slice A4 kv.length c4] rfl
                have hbA : Below W4.heap.size W4 (W4.alloc (.cells #[.slice A4 kv.length c4] 32)) := (Below.refl _ _).alloc (Nat.le_refl _) _
                have HRA : Hid (KyOwn W3.heap.size (W4.alloc (.cells #[.slice A4 kv.length c4] 32)) A3 c3 P ∧ BOwn (W4.alloc (.cells #[.slice A4 kv.length c4] 32)) W3.heap.size A4 c4 kv ∧ Below W3.heap.size W3 (W4.alloc (.cells #[.slice A4 kv.length c4] 32))) := ⟨HR4.out.1.below hbA, HR4.out.2.2.below hbA, HR4.out.2.1.then hbA⟩
                clear hbA HR4
                go_wp2_with (at_builtin; refine wpList_append_elems eKy rfl (.tmp 74) (.tmp 81) rfl j rfl HRA.out.1.own HRE.out.2.1.symm 1 rfl hoA.row rfl (by have := HRE.out.2.1; simp; omega) HRA.out.2.2.size ?_; intro A5 c5 W5 ho5 hb5 hg5 _)
                have HR5 := Lib.hid (HRA.out.1.one HRA.out.2.1 ho5 hg5)
                have HB5 := Lib.hid (HRA.out.2.2.trans hb5)
                clear ho5 hb5 hg5 hoA HRA
                go_roundw
                case rel =>
                  refine ⟨j + 1, A5, c5, P ++ [⟨A4, c4, kv⟩], by omega, by rw [HRE.out.2.1], by go_num, HR5.out, by rw [HTJ.out, List.map_append, HRE.out.1]; rfl, by rw [List.length_append, HRE.out.2.1]; rfl, ?_, HB5.out⟩
                  intro p hp
                  rcases List.mem_append.1 hp with hp | hp
                  · exact HRE.out.2.2 p hp
                  · rw [List.mem_singleton.1 hp]; exact HKL.out
                case measure => simp [intOf]; omega
              · obtain rfl : j = gr.l.length := by omega
                have HZ : Hid (KyOwn W3.heap.size wr A3 c3 P ∧ P.map (·.l) = Run.keysU d.cols 0 (Run.rowsG gr) ∧ P.length ≤ 1000 ∧ (∀ p ∈ P, p.l.length ≤ 200000) ∧ Below W3.heap.size W3 wr) := by
                  obtain ⟨h1, h2, h3, h4, h5⟩ := HR.out
                  refine ⟨h1, ?_, by omega, h4, h5⟩
                  rw [h2, ← List.length_map (f := (·.l)), List.take_length]
                have hPl : P.length = gr.l.length := HR.out.2.2.1
                clear HR
                rw [← hPl]
                clear hPl
                have HSO := Lib.hid (sortk_any wr W3.heap.size A3 c3 P HZ.out.1 (by have := HZ.out.2.2.1; omega))
                go_wp2_with fail
                refine HSO.out.mono ?_
                rintro e W7 ⟨P', rfl, hky, hperm, hmap, hgr⟩
                skip
                have HB7 : Hid (Below W3.heap.size W3 W7) := HZ.out.2.2.2.2.grown hgr HZ.out.2.2.2.2.size fun x hx => by
                  cases hA : (A3 : Option Addr) with
                  | none => rw [hA] at hx; cases hx
                  | some a => rw [hA] at hx; cases hx; exact (HZ.out.1.own.block a hA).1
                have HP7 : Hid (KyOwn w.heap.size W7 A3 c3 (P' : List Part) ∧ (P' : List Part).length = (P : List Part).length ∧ (P' : List Part).length ≤ 1000 ∧ (∀ p ∈ (P' : List Part), p.l.length ≤ 200000) ∧ Run.keysG ⟨A3, P', c3⟩ = Run.keysD (G.map Run.rowsG) d) := by
                  refine ⟨hky.mono HN3.out.b.size, hperm.length_eq, by rw [hperm.length_eq]; exact HZ.out.2.2.1, fun p hp => HZ.out.2.2.2.1 p (hperm.mem_iff.1 hp), ?_⟩
                  show (P' : List Part).map (·.l) = _
                  rw [hmap, HZ.out.2.1, HKD.out]
                  rfl
                have HN7 := Lib.hid (HN3.out.below HB7.out)
                clear hky hperm hmap hgr HSO HZ HKD HN3 HN HB7
                rw [← HP7.out.2.1]
                obtain ⟨-, c1, -, hf1, hgm⟩ := Blk.c2 HN7.out.blk
                rw [hK] at c1
                have hoA : EOwn eKs (W7.alloc (.cells #[.slice A3 (P' : List Part).length c3] 77)) w.heap.size (some ⟨W7.heap.size, 0, none⟩) 1 [⟨A3, P', c3⟩] := EOwn.new (E := eKs) W7 [(⟨A3, P', c3⟩ : Ks)] (by simp [maxLen]) HN7.out.b.size #[.slice A3 (P' : List Part).length c3] rfl
                go_upto_region 25 with (at_builtin; refine wpList_append_elems eKs rfl (.tmp 90) (.tmp 92) rfl k rfl (HN7.out.ks.own.alloc _) hK.symm 1 rfl hoA.row rfl (by rw [hK]; simp; omega) (by have := HN7.out.b.size; simp; omega) ?_; intro A5 c5 W5 ho5 hb5 hg5 _; have HN5 := Lib.hid (HN7.out.one (g := ⟨A3, P', c3⟩) HP7.out.1 HP7.out.2.2.1 HP7.out.2.2.2.1 ho5 hg5); obtain ⟨-, d1, -, df1, dg⟩ := Blk.c2 (HN7.out.blk4 (g := ⟨A3, P', c3⟩) hg5); clear ho5 hb5 hg5 c1 hf1 hgm)
                rw [hK] at HN5
                generalize World.setCell W5 _ _ = W6 at HN5 ⊢
                clear HN7 hoA d1 df1 dg
                go_wp2_with fail
                go_roundw
                case rel => exact ⟨k + 1, A5, c5, K ++ [⟨A3, P', c3⟩], by omega, by go_num, by rw [HTK.out, ← HP7.out.2.2.2.2]; exact HN5.out⟩
                case measure => simp [intOf]; omega
          · have HKD : Hid (Run.keysD (G.map Run.rowsG) d = Run.keys d.cols []) := by
              show _ = _
              unfold Run.keysD Run.rowsAt
              rw [if_neg (by simpa using hin)]
            have HZ : Hid (KyOwn W3.heap.size W3 none 0 [] ∧ ([] : List Part).map (·.l) = Run.keysU d.cols 0 [] ∧ ([] : List Part).length ≤ 1000 ∧ (∀ p ∈ ([] : List Part), p.l.length ≤ 200000) ∧ Below W3.heap.size W3 W3) :=
              ⟨KyOwn.start, rfl, Nat.zero_le _, (by intro p hp; cases hp), Below.refl _ _⟩
            by_cases hneg : d.t < 0
            · have hneg' : ¬ 0 ≤ d.t := by omega
              have HSO := Lib.hid (sortk_any W3 W3.heap.size none 0 [] HZ.out.1 (by have := HZ.out.2.2.1; omega))
              go_wp2_with fail
              refine HSO.out.mono ?_
              rintro e W7 ⟨P', rfl, hky, hperm, hmap, hgr⟩
              obtain rfl := hperm.eq_nil
              have HB7 : Hid (Below W3.heap.size W3 W7) := HZ.out.2.2.2.2.grown hgr HZ.out.2.2.2.2.size fun x hx => by
                cases hA : (none : Option Addr) with
                | none => rw [hA] at hx; cases hx
                | some a => rw [hA] at hx; cases hx; exact (HZ.out.1.own.block a hA).1
              have HP7 : Hid (KyOwn w.heap.size W7 none 0 ([] : List Part) ∧ ([] : List Part).length = ([] : List Part).length ∧ ([] : List Part).length ≤ 1000 ∧ (∀ p ∈ ([] : List Part), p.l.length ≤ 200000) ∧ Run.keysG ⟨none, [], 0⟩ = Run.keysD (G.map Run.rowsG) d) := by
                refine ⟨hky.mono HN3.out.b.size, hperm.length_eq, by rw [hperm.length_eq]; exact HZ.out.2.2.1, fun p hp => HZ.out.2.2.2.1 p (hperm.mem_iff.1 hp), ?_⟩
                show ([] : List Part).map (·.l) = _
                rw [hmap, HZ.out.2.1, HKD.out]
                rfl
              have HN7 := Lib.hid (HN3.out.below HB7.out)
              clear hky hperm hmap hgr HSO HZ HKD HN3 HN HB7
              skip
              obtain ⟨-, c1, -, hf1, hgm⟩ := Blk.c2 HN7.out.blk
              rw [hK] at c1
              have hoA : EOwn eKs (W7.alloc (.cells #[.slice none ([] : List Part).length 0] 77)) w.heap.size (some ⟨W7.heap.size, 0, none⟩) 1 [⟨none, [], 0⟩] := EOwn.new (E := eKs) W7 [(⟨none, [], 0⟩ : Ks)] (by simp [maxLen]) HN7.out.b.size #[.slice none ([] : List Part).length 0] rfl
              go_upto_region 25 with (at_builtin; refine wpList_append_elems eKs rfl (.tmp 90) (.tmp 92) rfl k rfl (HN7.out.ks.own.alloc _) hK.symm 1 rfl hoA.row rfl (by rw [hK]; simp; omega) (by have := HN7.out.b.size; simp; omega) ?_; intro A5 c5 W5 ho5 hb5 hg5 _; have HN5 := Lib.hid (HN7.out.one (g := ⟨none, [], 0⟩) HP7.out.1 HP7.out.2.2.1 HP7.out.2.2.2.1 ho5 hg5); obtain ⟨-, d1, -, df1, dg⟩ := Blk.c2 (HN7.out.blk4 (g := ⟨none, [], 0⟩) hg5); clear ho5 hb5 hg5 c1 hf1 hgm)
              rw [hK] at HN5
              generalize World.setCell W5 _ _ = W6 at HN5 ⊢
              clear HN7 hoA d1 df1 dg
              go_wp2_with fail
              go_roundw
              case rel => exact ⟨k + 1, A5, c5, K ++ [⟨none, [], 0⟩], by omega, by go_num, by rw [HTK.out, ← HP7.out.2.2.2.2]; exact HN5.out⟩
              case measure => simp [intOf]; omega
            · have hpos : 0 ≤ d.t := by omega
              have hbig : ¬ d.t < (G.length : Int) := fun h => hin ⟨hpos, h⟩
              have HSO := Lib.hid (sortk_any W3 W3.heap.size none 0 [] HZ.out.1 (by have := HZ.out.2.2.1; omega))
              go_wp2_with fail
              refine HSO.out.mono ?_
              rintro e W7 ⟨P', rfl, hky, hperm, hmap, hgr⟩
              obtain rfl := hperm.eq_nil
              have HB7 : Hid (Below W3.heap.size W3 W7) := HZ.out.2.2.2.2.grown hgr HZ.out.2.2.2.2.size fun x hx => by
                cases hA : (none : Option Addr) with
                | none => rw [hA] at hx; cases hx
                | some a => rw [hA] at hx; cases hx; exact (HZ.out.1.own.block a hA).1
              have HP7 : Hid (KyOwn w.heap.size W7 none 0 ([] : List Part) ∧ ([] : List Part).length = ([] : List Part).length ∧ ([] : List Part).length ≤ 1000 ∧ (∀ p ∈ ([] : List Part), p.l.length ≤ 200000) ∧ Run.keysG ⟨none, [], 0⟩ = Run.keysD (G.map Run.rowsG) d) := by
                refine ⟨hky.mono HN3.out.b.size, hperm.length_eq, by rw [hperm.length_eq]; exact HZ.out.2.2.1, fun p hp => HZ.out.2.2.2.1 p (hperm.mem_iff.1 hp), ?_⟩
                show ([] : List Part).map (·.l) = _
                rw [hmap, HZ.out.2.1, HKD.out]
                rfl
              have HN7 := Lib.hid (HN3.out.below HB7.out)
              clear hky hperm hmap hgr HSO HZ HKD HN3 HN HB7
              skip
              obtain ⟨-, c1, -, hf1, hgm⟩ := Blk.c2 HN7.out.blk
              rw [hK] at c1
              have hoA : EOwn eKs (W7.alloc (.cells #[.slice none ([] : List Part).length 0] 77)) w.heap.size (some ⟨W7.heap.size, 0, none⟩) 1 [⟨none, [], 0⟩] := EOwn.new (E := eKs) W7 [(⟨none, [], 0⟩ : Ks)] (by simp [maxLen]) HN7.out.b.size #[.slice none ([] : List Part).length 0] rfl
              go_upto_region 25 with (at_builtin; refine wpList_append_elems eKs rfl (.tmp 90) (.tmp 92) rfl k rfl (HN7.out.ks.own.alloc _) hK.symm 1 rfl hoA.row rfl (by rw [hK]; simp; omega) (by have := HN7.out.b.size; simp; omega) ?_; intro A5 c5 W5 ho5 hb5 hg5 _; have HN5 := Lib.hid (HN7.out.one (g := ⟨none, [], 0⟩) HP7.out.1 HP7.out.2.2.1 HP7.out.2.2.2.1 ho5 hg5); obtain ⟨-, d1, -, df1, dg⟩ := Blk.c2 (HN7.out.blk4 (g := ⟨none, [], 0⟩) hg5); clear ho5 hb5 hg5 c1 hf1 hgm)
              rw [hK] at HN5
              generalize World.setCell W5 _ _ = W6 at HN5 ⊢
              clear HN7 hoA d1 df1 dg
              go_wp2_with fail
              go_roundw
              case rel => exact ⟨k + 1, A5, c5, K ++ [⟨none, [], 0⟩], by omega, by go_num, by rw [HTK.out, ← HP7.out.2.2.2.2]; exact HN5.out⟩
              case measure => simp [intOf]; omega
        · obtain rfl : k = D.length := by omega
          have hkeys : K.map Run.keysG = D.map (Run.keysD (G.map Run.rowsG)) := by
            rw [HN.out.keys, ← List.length_map (f := Run.keysD (G.map Run.rowsG)), List.take_length]
          have HE : Hid (RetMem w (G.map Run.rowsG) (D.map (Run.keysD (G.map Run.rowsG))) (.returned (.pointer (some ⟨gm, 0, none⟩))) w1) := by
            have h := HN.out
            have hlG : G'.length = G.length := by have := congrArg List.length h.rows; simpa using this
            have hlK : K.length = D.length := by have := congrArg List.length hkeys; simpa using this
            refine ⟨gm, G', K, rfl, ⟨⟨A, c, A2, c2, h.blk, ?_, ?_⟩⟩, h.rows, hkeys, h.b⟩
            · refine ⟨h.own.own.row, fun g hg => ?_, by omega, fun g hg => ?_, fun g hg r hr => ?_, fun g hg r hr v hv => ?_⟩
              all_goals
                obtain ⟨g0, hg0, e0⟩ := Run.rows_back h.rows hg
              · have hgl0 := HT.out.gl g0 hg0
                have hle : g.l.length = g0.l.length := by have := congrArg List.length e0; simpa using this.symm
                refine ⟨(h.own.rows g hg).own.row, fun r hr => ?_, by omega⟩
                obtain ⟨r0, hr0, e1⟩ := Run.row_back e0 hr
                have hro := (HT.out.in_ g0 hg0).in_ r0 hr0
                exact ⟨((h.own.rows g hg).rows r hr).row, by rw [← e1]; exact hro.ok, by rw [← e1]; exact hro.len⟩
              · have hle : g.l.length = g0.l.length := by have := congrArg List.length e0; simpa using this.symm
                have := HT.out.gl g0 hg0
                omega
              · obtain ⟨r0, hr0, e1⟩ := Run.row_back e0 hr
                rw [← e1]; exact HT.out.rl g0 hg0 r0 hr0
              · obtain ⟨r0, hr0, e1⟩ := Run.row_back e0 hr
                exact HT.out.vl g0 hg0 r0 hr0 v (by rw [e1]; exact hv)
            · exact ⟨h.ks.own.row, fun k hk => (h.ks.rows k hk).own.row, fun k hk p hp => ((h.ks.rows k hk).rows p hp).row, by omega, h.kl, h.pl⟩
          clear HN
          go_wp2_with fail
          go_ret
          exact HE.out
end Go.Proofs.YtpahkaffknnjhaaGreatDoor
end

section
/-
  What is known of a column, as it lies in memory.
-/
namespace Go.Proofs.YtpahkaffknnjhaaGreatDoor
set_option linter.unusedSimpArgs false
set_option linter.unusedVariables false
open Go.RowKit

/-- Numbers, as int64. -/
def eI64 : Elem Int where
  e := 2
  t := 52
  sz := 1
  bytes := 8
  zero := .int .i64 0
  code := fun x => [.int .i64 x]
  pos := by decide
  few := by decide
  len := fun _ => rfl
  one := by
    intro x u hu
    simp at hu
    subst hu
    rfl
  zsz := rfl
  info := by kernel_rfl
  under := Tryz.underlying52
theorem i64_at {w : World} {A : Option Addr} {L : List Int} (h : ERow eI64 w A L) {j : Nat} (hj : j < L.length) : ∃ b o, A = some ⟨b, o, none⟩ ∧ b < w.heap.size ∧ w.cell? ⟨b, o + j, none⟩ = some (.int .i64 L[j]) := by
  obtain ⟨b, o, e, hb, hc⟩ := h.at_ hj
  refine ⟨b, o, e, hb, ?_⟩
  have := hc 0 _ rfl
  rwa [show o + (j * eI64.sz + 0) = o + j by show o + (j * 1 + 0) = _; omega] at this

/-- What is known of a column. -/
structure Cs where
  d : Int
  n : Int
  a : Option Addr
  b : List Int
  c : Nat
def Cs.cells (x : Cs) : List Value := [.int .i64 x.d, .int .i64 x.n, .slice x.a x.b.length x.c]
def Cs.v (x : Cs) : Value := .agg x.cells.toArray
def Cs.nul : Cs := ⟨0, 0, none, [], 0⟩
def eCs : Elem Cs where
  e := 257
  t := 217
  sz := 3
  bytes := 40
  zero := .agg #[.int .i64 0, .int .i64 0, .slice none 0 0]
  code := Cs.cells
  pos := by decide
  few := by decide
  len := fun _ => rfl
  one := by
    intro x u hu
    simp [Cs.cells] at hu
    rcases hu with rfl | rfl | rfl <;> rfl
  zsz := rfl
  info := by kernel_rfl
  under := Tryz.underlying217
theorem Cs.cells_one (a : Cs) : ∀ u ∈ a.cells, u.oneCell' = true := eCs.one a
theorem load_cs {w : World} {g o : Nat} {a : Cs} (h0 : w.cell? ⟨g, o, none⟩ = some (.int .i64 a.d)) (h1 : w.cell? ⟨g, o + 1, none⟩ = some (.int .i64 a.n)) (h2 : w.cell? ⟨g, o + 2, none⟩ = some (.slice a.a a.b.length a.c)) :
    (loadVar 257 ⟨g, o, none⟩).run Tryz.prog w = .ok a.v w := by
  unfold Cs.v Cs.cells
  go_simp
theorem Blk.cs {w : World} {g : Nat} {t : TypeId} {a : Cs} (h : Blk w g t a.cells) : (loadVar 257 ⟨g, 0, none⟩).run Tryz.prog w = .ok a.v w := load_cs (h.cell 0) (h.cell 1) (h.cell 2)
section
variable {w : World} {ops : Array Oper} {rest : List Oper} {o : Oper} {a : Act} {Q : Exit → Act → World → Prop}
end
namespace Ev
end Ev
end Go.Proofs.YtpahkaffknnjhaaGreatDoor
end

section
/-
  A query, as it lies in memory.
-/
namespace Go.Proofs.YtpahkaffknnjhaaGreatDoor
set_option linter.unusedSimpArgs false
set_option linter.unusedVariables false
open Go.RowKit

/-- A query, with the places of its parts. -/
structure Qr where
  tv : Value
  bv : Value
  width : Int
  wa : Option Addr
  where_ : List Nd
  wc : Nat
  ga : Option Addr
  group : List Int
  gc : Nat
  grouped : Bool
  ia : Option Addr
  items : List Nd
  ic : Nat
  oa : Option Addr
  order : List So
  oc : Nat
  lim : Int
def Qr.cells (q : Qr) : List Value := [q.tv, q.bv, .int .i64 q.width, .slice q.wa q.where_.length q.wc, .slice q.ga q.group.length q.gc, .bool q.grouped, .slice q.ia q.items.length q.ic, .slice q.oa q.order.length q.oc, .int .i64 q.lim]
def Qr.v (q : Qr) : Value := .agg q.cells.toArray
/-- A query whose parts can be read. -/
structure QrIn (w : World) (q : Qr) : Prop where
  g : ERow eInt w q.ga q.group
  gin : ∀ n ∈ q.group, Ev.inB n
  gl : q.group.length ≤ 1000000
  i : ERow eNd w q.ia q.items
  iin : ∀ n ∈ q.items, NodeIn w n
  il : q.items.length ≤ 1000000
  o : ERow eSo w q.oa q.order
  oin : ∀ s ∈ q.order, Ev.inB s.at_
  ol : q.order.length ≤ 1000000
  lim : Ev.inB q.lim
theorem node_below {w W : World} {n : Nd} (h : NodeIn w n) (hB : Below w.heap.size w W) : NodeIn W n := by
  induction h with
  | @mk n hr hin hlit hls hk hat hc hm ih => exact .mk (hr.below hB) ih hlit hls hk hat hc hm
theorem QrIn.below {w W : World} {q : Qr} (h : QrIn w q) (hB : Below w.heap.size w W) : QrIn W q :=
  ⟨h.g.below hB, h.gin, h.gl, h.i.below hB, fun n hn => node_below (h.iin n hn) hB, h.il, h.o.below hB, h.oin, h.ol, h.lim⟩
theorem qr_info : (Tryz.prog.info? 26).map (·.size) = some 9 := by kernel_rfl
section
variable {w : World} {ops : Array Oper} {rest : List Oper} {o : Oper} {a : Act} {Q : Exit → Act → World → Prop}
theorem wpList_box_qr (hgd : o.guard = none) (x : Operand) (hop : o.op = .box 26 x) (b : Qr) (hx : a.eval x = b.v)
    (h : ∀ W, Blk W w.heap.size 26 b.cells → w.heap.size + 1 ≤ W.heap.size → Below w.heap.size w W → wpList Tryz.prog ops Q rest (a.put o.dst (.pointer (some ⟨w.heap.size, 0, none⟩))) W) : wpList Tryz.prog ops Q (o :: rest) a w :=
  wpList_plain hgd fun _ hK => by
    unfold Oper.wp execOp
    have e : (Instr.box 26 b.v).run Tryz.prog w = .ok (.pointer (some ⟨w.heap.size, 0, none⟩)) (w.alloc (.cells b.cells.toArray 26)) := by
      simp [Instr.box, Sem.run_bind, newVar, newRow]
      rfl
    simp only [hop, hx, Sem.run_bind, e, Result.andThen_ok, Sem.run_pure]
    obtain ⟨h1, h2, h3⟩ := fresh1 (w := w) (a := b.cells) (t := 26) rfl
    exact hK _ _ (h _ h1 h2 h3)
theorem wpList_load_qr (hgd : o.guard = none) (x : Operand) (hop : o.op = .load 26 x) (g : Nat) (hx : a.eval x = .pointer (some ⟨g, 0, none⟩)) {T0 : TypeId} {b : Qr} (hb : Blk w g T0 b.cells)
    (h : wpList Tryz.prog ops Q rest (a.put o.dst b.v) w) : wpList Tryz.prog ops Q (o :: rest) a w :=
  wpList_load_mid hgd 26 x hop g 0 hx b.cells _ (hb.range 0 b.cells fun j _ => by rw [Nat.zero_add]) Tryz.underlying26 rfl qr_info h
end
theorem Blk.qr {w : World} {g : Nat} {t : TypeId} {q : Qr} (h : Blk w g t q.cells) :
    w.cell? ⟨g, 4, none⟩ = some (.slice q.ga q.group.length q.gc) ∧ w.cell? ⟨g, 5, none⟩ = some (.bool q.grouped) ∧ w.cell? ⟨g, 6, none⟩ = some (.slice q.ia q.items.length q.ic) ∧ w.cell? ⟨g, 7, none⟩ = some (.slice q.oa q.order.length q.oc) ∧ w.cell? ⟨g, 8, none⟩ = some (.int .i64 q.lim) :=
  ⟨h.cell 4, h.cell 5, h.cell 6, h.cell 7, h.cell 8⟩
end Go.Proofs.YtpahkaffknnjhaaGreatDoor
end

section
/-
  The contract of run.All at a source in memory.
-/
namespace Go.Proofs.YtpahkaffknnjhaaGreatDoor
set_option linter.unusedSimpArgs false
set_option linter.unusedVariables false
open Go.RowKit

namespace Run
/-- The rows for which some nodes hold, with their numbers; i rows lie ahead. -/
def allFrom (L : List Nd) (i : Nat) : List (List Va) → List (Nat × List Va)
  | [] => []
  | r :: l => if Ev.holds r L then (i + 1, r) :: allFrom L (i + 1) l else allFrom L (i + 1) l
theorem allFrom_snoc (L : List Nd) : ∀ (l : List (List Va)) (r : List Va) (i : Nat), allFrom L i (l ++ [r]) = allFrom L i l ++ if Ev.holds r L then [(i + l.length + 1, r)] else []
  | [], r, i => by simp [allFrom]
  | x :: l, r, i => by
    have ih := allFrom_snoc L l r (i + 1)
    rw [show i + 1 + l.length + 1 = i + (x :: l).length + 1 by simp; omega] at ih
    show (if Ev.holds x L then (i + 1, x) :: allFrom L (i + 1) (l ++ [r]) else allFrom L (i + 1) (l ++ [r])) = (if Ev.holds x L then (i + 1, x) :: allFrom L (i + 1) l else allFrom L (i + 1) l) ++ _
    rw [ih]
    split <;> rfl
theorem allFrom_len (L : List Nd) : ∀ (l : List (List Va)) (i : Nat), (allFrom L i l).length ≤ l.length
  | [], _ => Nat.zero_le _
  | r :: l, i => by
    have := allFrom_len L l (i + 1)
    show (if Ev.holds r L then (i + 1, r) :: allFrom L (i + 1) l else allFrom L (i + 1) l).length ≤ l.length + 1
    split
    · rw [List.length_cons]; omega
    · omega
theorem allFrom_take (L : List Nd) (l : List (List Va)) (k : Nat) (hk : k < l.length) : allFrom L 0 (l.take (k + 1)) = allFrom L 0 (l.take k) ++ if Ev.holds l[k] L then [(k + 1, l[k])] else [] := by
  rw [List.take_succ_eq_append_getElem hk, allFrom_snoc, List.length_take, Nat.min_eq_left (Nat.le_of_lt hk), Nat.zero_add]
end Run
theorem meth_next (p : Option Addr) (w : World) : (method 359 35 (.pointer p) "Next").run Tryz.prog w = .ok (9, .pointer p) w := by kernel_rfl
theorem meth_row (p : Option Addr) (w : World) : (method 359 35 (.pointer p) "Row").run Tryz.prog w = .ok (10, .pointer p) w := by kernel_rfl
theorem meth_seek (p : Option Addr) (w : World) : (method 359 35 (.pointer p) "Seek").run Tryz.prog w = .ok (12, .pointer p) w := by kernel_rfl
namespace Run
theorem rowOf_rows (T : List (List (List Va))) (t : Int) (k : Nat) : rowOf T t k = (rowsAt T t)[k]? := by
  unfold rowOf rowsAt
  by_cases h : 0 ≤ t ∧ t < (T.length : Int)
  · rw [if_pos h]
    by_cases hk : k < (T.getD t.toNat []).length
    · rw [if_pos ⟨h.1, h.2, by omega, by omega⟩, List.getElem?_eq_getElem hk]
      rw [show ((k : Int)).toNat = k by omega, List.getD_eq_getElem?_getD, List.getElem?_eq_getElem hk]
      rfl
    · rw [if_neg (by omega), List.getElem?_eq_none (by omega)]
  · rw [if_neg h, if_neg (by omega)]
    rfl
theorem nextOf_rows (T : List (List (List Va))) (t : Int) (k : Nat) : nextOf T t k = ((rowsAt T t)[k]?).map fun l => (k + 1, l) := by
  unfold nextOf
  rw [show max (k : Int) 0 = (k : Int) by omega, rowOf_rows]
  rfl
end Run
/-- What is true of each row of a table. -/
theorem TbIn.row {w : World} {A : Option Addr} {G : List Gr} (h : TbIn w A G) {t : Int} {l : List Va} (hl : l ∈ Run.rowsAt (G.map Run.rowsG) t) : (∀ v ∈ l, v.ok) ∧ l.length ≤ 1000 ∧ (∀ v ∈ l, v.s.length ≤ 1000) ∧ (Run.rowsAt (G.map Run.rowsG) t).length ≤ 1000 := by
  unfold Run.rowsAt at hl ⊢
  by_cases ht : 0 ≤ t ∧ t < ((G.map Run.rowsG).length : Int)
  · rw [if_pos ht] at hl ⊢
    obtain ⟨n, rfl⟩ : ∃ n : Nat, t = (n : Int) := ⟨t.toNat, by omega⟩
    have hn : n < G.length := by simpa using ht.2
    have e : (G.map Run.rowsG).getD (n : Int).toNat [] = Run.rowsG G[n] := by simp [List.getD, hn]
    rw [e] at hl ⊢
    obtain ⟨r, hr, rfl⟩ := List.mem_map.1 hl
    have hm := List.getElem_mem hn
    exact ⟨((h.in_ _ hm).in_ r hr).ok, h.rl _ hm r hr, h.vl _ hm r hr, by have := h.gl _ hm; simpa using this⟩
  · rw [if_neg ht] at hl
    cases hl
/-- What All answers. -/
def RetAll (w : World) (X : List (Nat × List Va)) (e : Ending) (w' : World) : Prop := ∃ A1 c1 A2 c2 R, e = .returned (.tuple #[.slice A1 (List.length R) c1, .slice A2 (List.length R) c2, .int .i64 0]) ∧ EOwn eI64 w' w.heap.size A1 c1 (X.map fun p => (p.1 : Int)) ∧ RwOwn w.heap.size w' A2 c2 R ∧ R.map Rw.l = X.map (·.2) ∧ Below w.heap.size w w'
def okOf : Value → Nat → Nat
  | .bool true, n => n
  | _, _ => 0
set_option maxRecDepth 20000 in
set_option maxHeartbeats 4000000 in
theorem all_any (w : World) (g : Nat) (G : List Gr) (K : List Ks) (hm : MemAt w g G K) (t : Int) (wa : Option Addr) (wc : Nat) (L : List Nd) (hl : ERow eNd w wa L) (hin : ∀ n ∈ L, NodeIn w n) (hll : L.length ≤ 1000000) :
    Calls Tryz.prog 14 #[.int .i64 t, .slice wa L.length wc, .iface 35 (.pointer (some ⟨g, 0, none⟩))] w (RetAll w (Run.allFrom L 0 (Run.rowsAt (G.map Run.rowsG) t))) := by
  have hmt := meth_next
  have HM := Lib.hid hm
  have HL := Lib.hid hl
  have HIN := Lib.hid hin
  obtain ⟨ta, tc, ka, kc, -, hT, -⟩ := hm.at_
  have HROW : Hid (∀ l ∈ Run.rowsAt (G.map Run.rowsG) t, (∀ v ∈ l, v.ok) ∧ l.length ≤ 1000 ∧ (∀ v ∈ l, v.s.length ≤ 1000) ∧ (Run.rowsAt (G.map Run.rowsG) t).length ≤ 1000) := fun l h => hT.row h
  have HNXA : Hid (∀ k : Nat, Run.nextOf (G.map Run.rowsG) t k = ((Run.rowsAt (G.map Run.rowsG) t)[k]?).map fun l => (k + 1, l)) := fun k => Run.nextOf_rows _ t k
  have hrs : (Run.rowsAt (G.map Run.rowsG) t).length ≤ 1000 := by
    cases h : Run.rowsAt (G.map Run.rowsG) t with
    | nil => simp
    | cons x l =>
      have := (HROW.out x (by rw [h]; simp)).2.2.2
      rw [h] at this
      exact this
  clear hm hl hin hT
  generalize hRS : Run.rowsAt (G.map Run.rowsG) t = RS at HROW HNXA hrs ⊢
  clear hRS
  go_enter Tryz.func14, Tryz.ntmps14
  go_wp2_with fail
  have h0 := mnext_any w g G K HM.out t ((0 : Nat) : Int) (by omega)
  rw [HNXA.out 0] at h0
  refine h0.mono ?_
  clear h0
  rintro e W1 hret
  obtain ⟨hB1, hret⟩ := hret
  have hstart : ∃ v1 v2 v3, e = .returned (.tuple #[v1, v2, .bool v3, .int .i64 0]) ∧ ((∃ h : 0 < RS.length, ∃ A c, v1 = .int .i64 ((0 : Int) + 1) ∧ v2 = .slice A RS[0].length c ∧ v3 = true ∧ EOwn eVa W1 w.heap.size A c RS[0]) ∨ 0 = RS.length ∧ v3 = false) := by
    by_cases h : 0 < RS.length
    · rw [List.getElem?_eq_getElem h] at hret
      obtain ⟨A, c, e1, ho⟩ := hret
      exact ⟨_, _, _, e1, .inl ⟨h, A, c, rfl, rfl, rfl, ho⟩⟩
    · rw [List.getElem?_eq_none (by omega)] at hret
      exact ⟨_, _, _, hret, .inr ⟨by omega, rfl⟩⟩
  obtain ⟨v1, v2, v3, rfl, hst⟩ := hstart
  have HST := Lib.hid hst
  have HB1 := Lib.hid hB1
  clear hret hst hB1
  go_wp2_with fail
  go_loopw [9, 10, 11, 12, 13, 14] (fun v9 v10 v11 v12 v13 v14 wr => ∃ (i : Nat) (A1 : Option Addr) (c1 : Nat) (A2 : Option Addr) (c2 : Nat) (R : List Rw), i ≤ RS.length ∧ v9 = .slice A1 R.length c1 ∧ v10 = .slice A2 R.length c2 ∧ v14 = .int .i64 0 ∧
    Hid (EOwn eI64 wr w.heap.size A1 c1 ((Run.allFrom L 0 (RS.take i)).map fun p => (p.1 : Int)) ∧ RwOwn w.heap.size wr A2 c2 R ∧ R.map Rw.l = (Run.allFrom L 0 (RS.take i)).map (·.2) ∧ Below w.heap.size w wr) ∧
    ((∃ h : i < RS.length, ∃ A c, v11 = .int .i64 ((i : Int) + 1) ∧ v12 = .slice A RS[i].length c ∧ v13 = .bool true ∧ Hid (EOwn eVa wr w.heap.size A c RS[i])) ∨ i = RS.length ∧ v13 = .bool false)) (fun _ _ v11 _ v13 _ _ => okOf v13 (RS.length + 2 - (intOf v11).toNat))
  case atStart =>
    refine ⟨0, none, 0, none, 0, [], Nat.zero_le _, rfl, rfl, rfl, ⟨EOwn.nil _ _, RwOwn.start, rfl, HB1.out⟩, ?_⟩
    rcases HST.out with ⟨h, A, c, rfl, rfl, rfl, ho⟩ | ⟨h, rfl⟩
    · exact .inl ⟨h, A, c, rfl, rfl, rfl, ho⟩
    · exact .inr ⟨h, rfl⟩
  case round =>
    obtain ⟨i, A1, c1, A2, c2, R, hi, rfl, rfl, rfl, HA, hcase⟩ := hrel
    rcases hcase with ⟨hlt, A, c, rfl, rfl, rfl, HO⟩ | ⟨hie, rfl⟩
    · have HTK := Lib.hid (Run.allFrom_take L RS i hlt)
      have HNX : Hid (Run.nextOf (G.map Run.rowsG) t ((i : Int) + 1) = (RS[i + 1]?).map fun l => (i + 1 + 1, l)) := HNXA.out (i + 1)
      have HRI := Lib.hid (HROW.out _ (List.getElem_mem hlt))
      obtain ⟨row, hrow⟩ : ∃ row, RS[i] = row := ⟨_, rfl⟩
      rw [hrow] at HTK HRI HO ⊢
      clear hrow HST
      have hrl := HRI.out.2.1
      have HRL : Hid (R.length = (Run.allFrom L 0 (RS.take i)).length) := by
        have := congrArg List.length HA.out.2.2.1
        show _ = _
        simpa using this
      have hRl : R.length ≤ 1000 := by
        have := Run.allFrom_len L (RS.take i) 0
        rw [List.length_take] at this
        have := HRL.out
        omega
      go_wp2_with fail
      refine (pholds_any wr wa A wc c L row (HL.out.below HA.out.2.2.2) (fun n hn => node_below (HIN.out n hn) HA.out.2.2.2) (by omega) ⟨HO.out.row, HRI.out.1, by omega⟩).mono ?_
      rintro e W2 ⟨rfl, hB2⟩
      have HA2 : Hid (EOwn eI64 W2 w.heap.size A1 c1 ((Run.allFrom L 0 (RS.take i)).map fun p => (p.1 : Int)) ∧ RwOwn w.heap.size W2 A2 c2 R ∧ R.map Rw.l = (Run.allFrom L 0 (RS.take i)).map (·.2) ∧ Below w.heap.size w W2) := ⟨HA.out.1.below hB2, HA.out.2.1.below hB2, HA.out.2.2.1, HA.out.2.2.2.then hB2⟩
      have HO2 := Lib.hid (HO.out.below hB2)
      clear hB2 HO HA
      by_cases hh : Ev.holds row L = true
      · rw [hh]
        rw [if_pos hh] at HTK
        have hoI : EOwn eI64 (W2.alloc (.cells #[.int .i64 ((i : Int) + 1)] 2)) w.heap.size (some ⟨W2.heap.size, 0, none⟩) 1 [(i : Int) + 1] := EOwn.new (E := eI64) W2 [(i : Int) + 1] (by simp [maxLen]) HA2.out.2.2.2.size #[.int .i64 ((i : Int) + 1)] rfl
        have hbA : Below W2.heap.size W2 (W2.alloc (.cells #[.int .i64 ((i : Int) + 1)] 2)) := (Below.refl _ _).alloc (Nat.le_refl _) _
        have HA3 : Hid (EOwn eI64 (W2.alloc (.cells #[.int .i64 ((i : Int) + 1)] 2)) w.heap.size A1 c1 ((Run.allFrom L 0 (RS.take i)).map fun p => (p.1 : Int)) ∧ RwOwn w.heap.size (W2.alloc (.cells #[.int .i64 ((i : Int) + 1)] 2)) A2 c2 R ∧ EOwn eVa (W2.alloc (.cells #[.int .i64 ((i : Int) + 1)] 2)) w.heap.size A c row ∧ Below w.heap.size w (W2.alloc (.cells #[.int .i64 ((i : Int) + 1)] 2))) := ⟨HA2.out.1.below hbA, HA2.out.2.1.below hbA, HO2.out.below hbA, HA2.out.2.2.2.then hbA⟩
        have HRE := Lib.hid HA2.out.2.2.1
        clear hbA HA2 HO2
        go_upto_region 10 with (at_builtin; refine wpList_append_elems eI64 rfl (.tmp 42) (.tmp 44) rfl R.length rfl HA3.out.1 (by have := HRL.out; simpa using this) 1 rfl hoI.row rfl (by have := HRL.out; simp; omega) HA3.out.2.2.2.size ?_; intro A5 c5 W5 ho5 hb5 hg5 _)
        have HA5 : Hid (EOwn eI64 W5 w.heap.size A5 c5 (((Run.allFrom L 0 (RS.take i)).map fun p => (p.1 : Int)) ++ [(i : Int) + 1]) ∧ RwOwn w.heap.size W5 A2 c2 R ∧ EOwn eVa W5 w.heap.size A c row ∧ Below w.heap.size w W5) := ⟨ho5, HA3.out.2.1.apart hg5 HA3.out.1.turns (by decide) (by decide), HA3.out.2.2.1.apart hg5 HA3.out.1.turns (by decide), HA3.out.2.2.2.trans hb5⟩
        clear ho5 hb5 hg5 hoI HA3
        go_wp2_with fail
        refine (vclone_any W5 A c row HA5.out.2.2.1.row (by omega)).mono ?_
        rintro e W6 ⟨A6, c6, rfl, ho6, hB6⟩
        have hoA : EOwn eRw (W6.alloc (.cells #[.slice A6 row.length c6] 37)) w.heap.size (some ⟨W6.heap.size, 0, none⟩) 1 [⟨A6, row, c6⟩] := EOwn.new (E := eRw) W6 [(⟨A6, row, c6⟩ : Rw)] (by simp [maxLen]) (HA5.out.2.2.2.then hB6).size #[.slice A6 row.length c6] rfl
        have hbA : Below W6.heap.size W6 (W6.alloc (.cells #[.slice A6 row.length c6] 37)) := (Below.refl _ _).alloc (Nat.le_refl _) _
        have HA7 : Hid (EOwn eI64 (W6.alloc (.cells #[.slice A6 row.length c6] 37)) w.heap.size A5 c5 (((Run.allFrom L 0 (RS.take i)).map fun p => (p.1 : Int)) ++ [(i : Int) + 1]) ∧ RwOwn w.heap.size (W6.alloc (.cells #[.slice A6 row.length c6] 37)) A2 c2 R ∧ EOwn eVa (W6.alloc (.cells #[.slice A6 row.length c6] 37)) w.heap.size A6 c6 row ∧ Below w.heap.size w (W6.alloc (.cells #[.slice A6 row.length c6] 37))) :=
          ⟨(HA5.out.1.below hB6).below hbA, (HA5.out.2.1.below hB6).below hbA, (ho6.mono HA5.out.2.2.2.size).below hbA, (HA5.out.2.2.2.then hB6).then hbA⟩
        clear ho6 hB6 hbA HA5
        go_upto_region 7 with (at_builtin; refine wpList_append_elems eRw rfl (.tmp 46) (.tmp 49) rfl R.length rfl HA7.out.2.1.own rfl 1 rfl hoA.row rfl (by simp; omega) HA7.out.2.2.2.size ?_; intro A8 c8 W8 ho8 hb8 hg8 _)
        obtain ⟨R', hR'⟩ : ∃ R', R ++ [(⟨A6, row, c6⟩ : Rw)] = R' := ⟨_, rfl⟩
        have HA : Hid (EOwn eI64 W8 w.heap.size A5 c5 ((Run.allFrom L 0 (RS.take (i + 1))).map fun p => (p.1 : Int)) ∧ RwOwn w.heap.size W8 A8 c8 R' ∧ R'.map Rw.l = (Run.allFrom L 0 (RS.take (i + 1))).map (·.2) ∧ Below w.heap.size w W8) := by
          refine ⟨?_, hR' ▸ HA7.out.2.1.one (r := ⟨A6, row, c6⟩) HA7.out.2.2.1 ho8 hg8, ?_, HA7.out.2.2.2.trans hb8⟩
          · have h := HA7.out.1.apart hg8 HA7.out.2.1.own.turns (by decide)
            rw [HTK.out]
            simpa using h
          · rw [HTK.out, ← hR', List.map_append, HRE.out, List.map_append]
            rfl
        have HR1 : Hid (R'.length = R.length + 1) := by show _ = _; rw [← hR']; simp
        clear ho8 hb8 hg8 hoA HA7 HRE hR'
        go_wp2_with fail
        -- world W8; the rows and numbers A5 c5 A8 c8 R'; facts HA
        refine (mnext_any W8 g G K (HM.out.below HA.out.2.2.2) t ((i : Int) + 1) (by omega)).mono ?_
        rw [HNX.out]
        by_cases hnx : i + 1 < RS.length
        · rw [List.getElem?_eq_getElem hnx]
          rintro e W9 ⟨hB9, A9, c9, rfl, ho9⟩
          have HA9 : Hid (EOwn eI64 W9 w.heap.size A5 c5 ((Run.allFrom L 0 (RS.take (i + 1))).map fun p => (p.1 : Int)) ∧ RwOwn w.heap.size W9 A8 c8 R' ∧ (R' : List Rw).map Rw.l = (Run.allFrom L 0 (RS.take (i + 1))).map (·.2) ∧ Below w.heap.size w W9) := ⟨HA.out.1.below hB9, HA.out.2.1.below hB9, HA.out.2.2.1, HA.out.2.2.2.then hB9⟩
          have HO9 : Hid (EOwn eVa W9 w.heap.size A9 c9 RS[i + 1]) := ho9.mono HA.out.2.2.2.size
          clear hB9 ho9 HA
          go_wp2_with fail
          go_roundw
          case rel => exact ⟨i + 1, A5, c5, A8, c8, R', by omega, by rw [HR1.out, HRL.out], by rw [HR1.out], rfl, HA9.out, .inl ⟨hnx, A9, c9, by go_num, rfl, rfl, HO9.out⟩⟩
          case measure => simp [okOf, intOf]; omega
        · have hie : i + 1 = RS.length := by omega
          rw [List.getElem?_eq_none (by omega)]
          rintro e W9 ⟨hB9, rfl⟩
          have HA9 : Hid (EOwn eI64 W9 w.heap.size A5 c5 ((Run.allFrom L 0 (RS.take (i + 1))).map fun p => (p.1 : Int)) ∧ RwOwn w.heap.size W9 A8 c8 R' ∧ (R' : List Rw).map Rw.l = (Run.allFrom L 0 (RS.take (i + 1))).map (·.2) ∧ Below w.heap.size w W9) := ⟨HA.out.1.below hB9, HA.out.2.1.below hB9, HA.out.2.2.1, HA.out.2.2.2.then hB9⟩
          clear hB9 HA
          go_wp2_with fail
          go_roundw
          case rel => exact ⟨i + 1, A5, c5, A8, c8, R', by omega, by rw [HR1.out, HRL.out], by rw [HR1.out], rfl, HA9.out, .inr ⟨hie, rfl⟩⟩
          case measure => simp [okOf, intOf]; omega
      · have hh' : Ev.holds row L = false := by simpa using hh
        rw [hh'] at HTK ⊢
        have HA : Hid (EOwn eI64 W2 w.heap.size A1 c1 ((Run.allFrom L 0 (RS.take (i + 1))).map fun p => (p.1 : Int)) ∧ RwOwn w.heap.size W2 A2 c2 R ∧ R.map Rw.l = (Run.allFrom L 0 (RS.take (i + 1))).map (·.2) ∧ Below w.heap.size w W2) := by
          show _ ∧ _
          rw [HTK.out]
          simpa using HA2.out
        clear HA2 HO2 hh hh'
        go_wp2_with fail
        -- world W2; the rows and numbers A1 c1 A2 c2 R; facts HA
        refine (mnext_any W2 g G K (HM.out.below HA.out.2.2.2) t ((i : Int) + 1) (by omega)).mono ?_
        rw [HNX.out]
        by_cases hnx : i + 1 < RS.length
        · rw [List.getElem?_eq_getElem hnx]
          rintro e W9 ⟨hB9, A9, c9, rfl, ho9⟩
          have HA9 : Hid (EOwn eI64 W9 w.heap.size A1 c1 ((Run.allFrom L 0 (RS.take (i + 1))).map fun p => (p.1 : Int)) ∧ RwOwn w.heap.size W9 A2 c2 R ∧ (R : List Rw).map Rw.l = (Run.allFrom L 0 (RS.take (i + 1))).map (·.2) ∧ Below w.heap.size w W9) := ⟨HA.out.1.below hB9, HA.out.2.1.below hB9, HA.out.2.2.1, HA.out.2.2.2.then hB9⟩
          have HO9 : Hid (EOwn eVa W9 w.heap.size A9 c9 RS[i + 1]) := ho9.mono HA.out.2.2.2.size
          clear hB9 ho9 HA
          go_wp2_with fail
          go_roundw
          case rel => exact ⟨i + 1, A1, c1, A2, c2, R, by omega, rfl, rfl, rfl, HA9.out, .inl ⟨hnx, A9, c9, by go_num, rfl, rfl, HO9.out⟩⟩
          case measure => simp [okOf, intOf]; omega
        · have hie : i + 1 = RS.length := by omega
          rw [List.getElem?_eq_none (by omega)]
          rintro e W9 ⟨hB9, rfl⟩
          have HA9 : Hid (EOwn eI64 W9 w.heap.size A1 c1 ((Run.allFrom L 0 (RS.take (i + 1))).map fun p => (p.1 : Int)) ∧ RwOwn w.heap.size W9 A2 c2 R ∧ (R : List Rw).map Rw.l = (Run.allFrom L 0 (RS.take (i + 1))).map (·.2) ∧ Below w.heap.size w W9) := ⟨HA.out.1.below hB9, HA.out.2.1.below hB9, HA.out.2.2.1, HA.out.2.2.2.then hB9⟩
          clear hB9 HA
          go_wp2_with fail
          go_roundw
          case rel => exact ⟨i + 1, A1, c1, A2, c2, R, by omega, rfl, rfl, rfl, HA9.out, .inr ⟨hie, rfl⟩⟩
          case measure => simp [okOf, intOf]; omega
    · have hts : RS.take i = RS := by rw [hie, List.take_length]
      rw [hts] at HA
      clear HST hts
      go_wp2_with fail
      go_ret3
      exact ⟨A1, c1, A2, c2, R, rfl, HA.out.1, HA.out.2.1, HA.out.2.2.1, HA.out.2.2.2⟩
end Go.Proofs.YtpahkaffknnjhaaGreatDoor
end

section
/-
  The keys of an index, one behind another; plain.
-/
namespace Go.Proofs.YtpahkaffknnjhaaGreatDoor
set_option linter.unusedSimpArgs false
set_option linter.unusedVariables false
open Go.Op

namespace Run
theorem cmp_snoc0 : ∀ (x y : Bs), cmp x (y ++ [0]) < 0 ↔ ¬ cmp y x < 0
  | [], [] => by decide
  | [], b :: y => by simp [cmp, Lib.compareBytes]
  | a :: x, [] => by
    have h0 : ¬ a < 0 := by rw [UInt8.lt_iff_toNat_lt]; simp
    show Lib.compareBytes (a :: x) [0] < 0 ↔ _
    unfold Lib.compareBytes
    rw [if_neg h0]
    constructor
    · intro h
      exfalso
      split at h
      · simp at h
      · cases x <;> simp [Lib.compareBytes] at h
    · intro h
      exfalso
      exact h (by simp [cmp, Lib.compareBytes])
  | a :: x, b :: y => by
    have ih := cmp_snoc0 x y
    unfold cmp at ih ⊢
    rw [List.cons_append]
    unfold Lib.compareBytes
    by_cases h1 : a < b
    · have h2 : ¬ b < a := by rw [UInt8.lt_iff_toNat_lt] at *; omega
      simp [h1, h2]
    · by_cases h2 : b < a
      · simp [h1, h2]
      · simp only [if_neg h1, if_neg h2]
        exact ih
def Strict (L : List Bs) : Prop := L.Pairwise fun a b => cmp a b < 0
theorem Strict.sorted {L : List Bs} (h : Strict L) : Srt.Sorted cmp L := h.imp fun {a b} hab => by
  have := cmp_ord.anti a b
  omega
theorem find_zero (L : List Bs) : find L [] = 0 := by
  refine find_at (Nat.zero_le _) (fun t h k => absurd k (Nat.not_lt_zero _)) fun t h _ => ?_
  cases L[t] <;> simp [cmp, Lib.compareBytes]
theorem find_next {L : List Bs} (h : Strict L) {i : Nat} (hi : i < L.length) : find L (L[i] ++ [0]) = i + 1 := by
  refine find_at (by omega) (fun t ht k => ?_) fun t ht k => ?_
  · rw [cmp_snoc0]
    exact Srt.sorted_le cmp_ord h.sorted (by omega) hi
  · rw [cmp_snoc0]
    intro hc
    exact hc (List.pairwise_iff_getElem.1 h i t hi ht (by omega))
theorem keys_length (cols : List Int) (l : List (List Va)) : (keys cols l).length = l.length := by unfold keys; rw [Srt.ssort_length, keysU_len]
/-- The keys of the index at a place. -/
def keysAt (K : List (List Bs)) (i : Int) : List Bs := if 0 ≤ i ∧ i < (K.length : Int) then K.getD i.toNat [] else []
theorem seekOf_at (K : List (List Bs)) (i : Int) (k : Bs) : seekOf K i k = (keysAt K i)[find (keysAt K i) k]? := by
  unfold seekOf keysAt
  split
  · rfl
  · rfl
theorem keysAt_mem {K : List (List Bs)} {P : List Bs → Prop} (h0 : P []) (h : ∀ l ∈ K, P l) (i : Int) : P (keysAt K i) := by
  unfold keysAt
  split
  · next hi =>
    have hn : i.toNat < K.length := by omega
    rw [List.getD_eq_getElem?_getD, List.getElem?_eq_getElem hn]
    exact h _ (List.getElem_mem hn)
  · exact h0
theorem allFrom_nil : ∀ (l : List (List Va)) (i : Nat), allFrom [] i l = (l.zipIdx (i + 1)).map fun p => (p.2, p.1)
  | [], _ => rfl
  | r :: l, i => by
    show (if Ev.holds r [] then (i + 1, r) :: allFrom [] (i + 1) l else _) = _
    rw [if_pos (show Ev.holds r [] = true from rfl), allFrom_nil l (i + 1)]
    rfl
end Run
end Go.Proofs.YtpahkaffknnjhaaGreatDoor
end

section
/-
  The contract of run.Right at a source in memory.
-/
namespace Go.Proofs.YtpahkaffknnjhaaGreatDoor
set_option linter.unusedSimpArgs false
set_option linter.unusedVariables false
open Go.RowKit

def RetBn (w : World) (b : Bool) (e : Ending) (w' : World) : Prop := e = .returned (.bool b) ∧ Below w.heap.size w w'
namespace Run
theorem allFrom_snd (l : List (List Va)) (i : Nat) : (allFrom [] i l).map (·.2) = l := by
  rw [allFrom_nil, List.map_map]
  exact List.zipIdx_map_fst _ _
theorem allFrom_fst (l : List (List Va)) : ((allFrom [] 0 l).map fun p => (p.1 : Int)) = (List.range l.length).map fun j : Nat => (j : Int) + 1 := by
  rw [allFrom_nil, List.map_map]
  apply List.ext_getElem
  · simp
  · intro j h1 h2
    simp
    omega
theorem match_no {H M : List Bs} {i : Nat} (hi : i < M.length) (h : H[i]? ≠ some M[i]) : H ≠ M := by
  intro e
  exact h (by rw [e]; exact List.getElem?_eq_getElem hi)
theorem match_yes {H M : List Bs} {i : Nat} (hi : i < M.length) (hh : H.take i = M.take i) (h : H[i]? = some M[i]) : H.take (i + 1) = M.take (i + 1) ∧ i + 1 ≤ H.length := by
  obtain ⟨hl, e⟩ := List.getElem?_eq_some_iff.1 h
  exact ⟨by rw [List.take_succ_eq_append_getElem hl, List.take_succ_eq_append_getElem hi, hh, e], hl⟩
end Run
set_option maxRecDepth 20000 in
set_option maxHeartbeats 8000000 in
theorem right_any (w : World) (g : Nat) (G : List Gr) (K : List Ks) (hm : MemAt w g G K) (hst : ∀ k ∈ K, Run.Strict (Run.keysG k)) (t ix : Int) (ca : Option Addr) (cc : Nat) (cols : List Int) (hc : ERow eInt w ca cols) (hci : ∀ c ∈ cols, Ev.inB c) (hcl : cols.length ≤ 90) :
    Calls Tryz.prog 16 #[.int .i64 t, .int .i64 ix, .slice ca cols.length cc, .iface 35 (.pointer (some ⟨g, 0, none⟩))] w (RetBn w (decide (Run.keysAt (K.map Run.keysG) ix = Run.keys cols (Run.rowsAt (G.map Run.rowsG) t)))) := by
  have hmt := meth_seek
  have kne := run_str_ne
  have gne := eqg_ne
  have HM := Lib.hid hm
  have HC : Hid (ERow eInt w ca cols ∧ ∀ c ∈ cols, Ev.inB c) := ⟨hc, hci⟩
  have HST : Hid (∀ k ∈ K, Srt.Sorted Run.cmp (Run.keysG k)) := fun k hk => (hst k hk).sorted
  obtain ⟨ta, tc, ka, kc, -, hT, hK⟩ := hm.at_
  have HROW : Hid (∀ l ∈ Run.rowsAt (G.map Run.rowsG) t, (∀ v ∈ l, v.ok) ∧ l.length ≤ 1000 ∧ (∀ v ∈ l, v.s.length ≤ 1000) ∧ (Run.rowsAt (G.map Run.rowsG) t).length ≤ 1000) := fun l h => hT.row h
  have hrs : (Run.rowsAt (G.map Run.rowsG) t).length ≤ 1000 := by
    cases h : Run.rowsAt (G.map Run.rowsG) t with
    | nil => simp
    | cons x l =>
      have := (HROW.out x (by rw [h]; simp)).2.2.2
      rw [h] at this
      exact this
  have HH : Hid (Run.Strict (Run.keysAt (K.map Run.keysG) ix) ∧ (∀ l, Run.seekOf (K.map Run.keysG) ix l = (Run.keysAt (K.map Run.keysG) ix)[Run.find (Run.keysAt (K.map Run.keysG) ix) l]?) ∧ ∀ x ∈ Run.keysAt (K.map Run.keysG) ix, x.length ≤ 200000) := by
    refine ⟨?_, fun l => Run.seekOf_at _ _ _, ?_⟩
    · exact Run.keysAt_mem (P := Run.Strict) List.Pairwise.nil (fun l hl => by
        obtain ⟨k, hk, rfl⟩ := List.mem_map.1 hl
        exact hst k hk) ix
    · exact Run.keysAt_mem (P := fun L => ∀ x ∈ L, x.length ≤ 200000) (by intro x hx; cases hx) (fun l hl => by
        obtain ⟨k, hk, rfl⟩ := List.mem_map.1 hl
        intro x hx
        obtain ⟨p, hp, rfl⟩ := List.mem_map.1 hx
        exact hK.pl k hk p hp) ix
  have HA1 := Lib.hid (all_any w g G K hm t none 0 [] ERow.nil (by intro n hn; cases hn) (by simp))
  clear hm hst hc hci hT hK
  generalize hRS : Run.rowsAt (G.map Run.rowsG) t = RS at HROW hrs HA1 ⊢
  generalize hH : Run.keysAt (K.map Run.keysG) ix = H at HH ⊢
  clear hRS hH
  obtain ⟨M, hM⟩ : ∃ M, Run.keys cols RS = M := ⟨_, rfl⟩
  have HMK := Lib.hid hM
  rw [hM]
  clear hM
  generalize hbb : decide (H = M) = bb
  have HBB := Lib.hid hbb
  clear hbb
  go_enter Tryz.func16, Tryz.ntmps16
  go_wp2_with fail
  refine HA1.out.mono ?_
  rintro e W1 ⟨A1, c1, A2, c2, R, rfl, ho1, ho2, hrm, hB1⟩
  have hRl : R.length = RS.length := by
    have := congrArg List.length hrm
    rw [Run.allFrom_snd] at this
    simpa using this
  have HI : Hid (ERow eI64 W1 A1 ((List.range RS.length).map fun j : Nat => (j : Int) + 1) ∧ ERow eRw W1 A2 R ∧ (∀ r ∈ R, ERow eVa W1 r.a r.l) ∧ R.map Rw.l = RS ∧ Below w.heap.size w W1) := by
    refine ⟨?_, ho2.own.row, fun r hr => (ho2.rows r hr).row, ?_, hB1⟩
    · rw [← Run.allFrom_fst]; exact ho1.row
    · rw [hrm, Run.allFrom_snd]
  clear ho1 ho2 hrm hB1 HA1
  rw [hRl]
  go_wp2_with fail
  go_loopw [12, 32] (fun rv jv wq => ∃ (j : Nat) (A3 : Option Addr) (c3 : Nat) (P : List Part), j ≤ RS.length ∧ rv = .slice A3 j c3 ∧ jv = .int .i64 (j : Int) ∧ Hid (KyOwn W1.heap.size wq A3 c3 P ∧ P.map (·.l) = Run.keysU cols 0 (RS.take j) ∧ P.length = j ∧ (∀ p ∈ P, p.l.length ≤ 200000) ∧ Below W1.heap.size W1 wq)) (fun _ jv _ => RS.length - (intOf jv).toNat)
  case atStart => exact ⟨0, none, 0, [], Nat.zero_le _, rfl, by go_num, KyOwn.start, rfl, rfl, (by intro p hp; cases hp), Below.refl _ _⟩
  case round =>
    obtain ⟨j, A3, c3, P, hj, rfl, rfl, HR⟩ := hrel
    by_cases hjt : j < RS.length
    · have hji : (j : Int) < (RS.length : Int) := by omega
      have hjR : j < R.length := by omega
      obtain ⟨b2, o2, ha2, -, hc2⟩ := rw_at (HI.out.2.1.below HR.out.2.2.2.2) hjR
      have hjI : j < ((List.range RS.length).map fun j : Nat => (j : Int) + 1).length := by simpa using hjt
      obtain ⟨b3, o3, ha3, -, hc3⟩ := i64_at (HI.out.1.below HR.out.2.2.2.2) hjI
      have eI : ((List.range RS.length).map fun j : Nat => (j : Int) + 1)[j] = (j : Int) + 1 := by simp
      rw [eI] at hc3
      have HRJ : Hid (R[j].l = RS[j]) := by
        have h : (R.map Rw.l)[j]? = RS[j]? := by rw [HI.out.2.2.2.1]
        rw [List.getElem?_map, List.getElem?_eq_getElem hjR, List.getElem?_eq_getElem hjt] at h
        exact Option.some.inj h
      have HTJ : Hid (Run.keysU cols 0 (RS.take (j + 1)) = Run.keysU cols 0 (RS.take j) ++ [Run.key cols R[j].l ((j : Int) + 1)]) := by
        show _ = _
        rw [Run.keysU_take cols RS j hjt, HRJ.out]
        rfl
      have HIN : Hid (RowOk wr R[j].a R[j].l) := by
        have h := HROW.out _ (List.getElem_mem hjt)
        exact ⟨(HI.out.2.2.1 _ (List.getElem_mem hjR)).below HR.out.2.2.2.2, by rw [HRJ.out]; exact h.1, by rw [HRJ.out]; omega⟩
      have HSV : Hid (∀ v ∈ R[j].l, v.s.length ≤ 1000) := by
        have h := HROW.out _ (List.getElem_mem hjt)
        rw [← HRJ.out] at h
        exact h.2.2.1
      rw [ha2, ha3]
      clear ha2 ha3 HRJ eI
      generalize R[j] = r at hc2 HTJ HIN HSV
      unfold Rw.v at hc2
      go_wp2_with fail
      refine (rkey_any wr ca cc cols ((HC.out.1.below HI.out.2.2.2.2).below HR.out.2.2.2.2) HC.out.2 (by omega) r.a r.c r.l HIN.out HSV.out ((j : Int) + 1) (by omega) (by omega)).mono ?_
      rintro e W4 ⟨A4, c4, rfl, ho, hB⟩
      have HKL : Hid ((Run.key cols r.l ((j : Int) + 1)).length ≤ 200000) := by
        have h1 := Run.key_len cols r.l ((j : Int) + 1) HSV.out
        show _ ≤ _
        omega
      obtain ⟨kv, hkv⟩ : ∃ x, Run.key cols r.l ((j : Int) + 1) = x := ⟨_, rfl⟩
      rw [hkv] at HTJ HKL ho ⊢
      have HR4 : Hid (KyOwn W1.heap.size W4 A3 c3 P ∧ Below W1.heap.size W1 W4 ∧ BOwn W4 W1.heap.size A4 c4 kv) := ⟨HR.out.1.below hB, HR.out.2.2.2.2.then hB, ho.mono HR.out.2.2.2.2.size⟩
      have HRE : Hid (P.map (·.l) = Run.keysU cols 0 (RS.take j) ∧ P.length = j ∧ ∀ p ∈ P, p.l.length ≤ 200000) := ⟨HR.out.2.1, HR.out.2.2.1, HR.out.2.2.2.1⟩
      clear ho hB hc2 hc3 HIN HR hkv HSV
      have hoA : EOwn eKy (W4.alloc (.cells #[.slice A4 kv.length c4] 32)) W1.heap.size (some ⟨W4.heap.size, 0, none⟩) 1 [⟨A4, c4, kv⟩] := EOwn.new (E := eKy) W4 [(⟨A4, c4, kv⟩ : Part)] (by simp [maxLen]) HR4.out.2.1.size #[.slice A4 kv.length c4] rfl
      have hbA : Below W4.heap.size W4 (W4.alloc (.cells #[.slice A4 kv.length c4] 32)) := (Below.refl _ _).alloc (Nat.le_refl _) _
      have HRA : Hid (KyOwn W1.heap.size (W4.alloc (.cells #[.slice A4 kv.length c4] 32)) A3 c3 P ∧ BOwn (W4.alloc (.cells #[.slice A4 kv.length c4] 32)) W1.heap.size A4 c4 kv ∧ Below W1.heap.size W1 (W4.alloc (.cells #[.slice A4 kv.length c4] 32))) := ⟨HR4.out.1.below hbA, HR4.out.2.2.below hbA, HR4.out.2.1.then hbA⟩
      clear hbA HR4
      go_wp2_with (at_builtin; refine wpList_append_elems eKy rfl (.tmp 37) (.tmp 45) rfl j rfl HRA.out.1.own HRE.out.2.1.symm 1 rfl hoA.row rfl (by have := HRE.out.2.1; simp; omega) HRA.out.2.2.size ?_; intro A5 c5 W5 ho5 hb5 hg5 _)
      have HR5 := Lib.hid (HRA.out.1.one HRA.out.2.1 ho5 hg5)
      have HB5 := Lib.hid (HRA.out.2.2.trans hb5)
      clear ho5 hb5 hg5 hoA HRA
      go_roundw
      case rel =>
        refine ⟨j + 1, A5, c5, P ++ [⟨A4, c4, kv⟩], by omega, by rw [HRE.out.2.1], by go_num, HR5.out, by rw [HTJ.out, List.map_append, HRE.out.1]; rfl, by rw [List.length_append, HRE.out.2.1]; rfl, ?_, HB5.out⟩
        intro p hp
        rcases List.mem_append.1 hp with hp | hp
        · exact HRE.out.2.2 p hp
        · rw [List.mem_singleton.1 hp]; exact HKL.out
      case measure => simp [intOf]; omega
    · obtain rfl : j = RS.length := by omega
      have HZ : Hid (KyOwn W1.heap.size wr A3 c3 P ∧ P.map (·.l) = Run.keysU cols 0 RS ∧ P.length ≤ 1000 ∧ (∀ p ∈ P, p.l.length ≤ 200000) ∧ Below W1.heap.size W1 wr) := by
        obtain ⟨h1, h2, h3, h4, h5⟩ := HR.out
        refine ⟨h1, ?_, by omega, h4, h5⟩
        rw [h2, List.take_length]
      have hPl : P.length = RS.length := HR.out.2.2.1
      clear HR
      rw [← hPl]
      clear hPl
      have HSO := Lib.hid (sortk_any wr W1.heap.size A3 c3 P HZ.out.1 (by have := HZ.out.2.2.1; omega))
      go_wp2_with fail
      refine HSO.out.mono ?_
      rintro e W7 ⟨P', rfl, hky, hperm, hmap, hgr⟩
      have HP : Hid (ERow eKy W7 A3 P' ∧ (∀ p ∈ P', BRow W7 p.a p.l) ∧ P'.map (·.l) = Run.keys cols RS ∧ Below w.heap.size w W7) := by
        refine ⟨hky.own.row, fun p hp => (hky.rows p hp).row, by rw [hmap, HZ.out.2.1]; rfl, ?_⟩
        have h1 : Below W1.heap.size W1 W7 := HZ.out.2.2.2.2.grown hgr HZ.out.2.2.2.2.size fun x hx => by
          cases hA : A3 with
          | none => rw [hA] at hx; cases hx
          | some a => rw [hA] at hx; cases hx; exact (HZ.out.1.own.block a hA).1
        exact HI.out.2.2.2.2.then h1
      have hPP : P.length = P'.length := hperm.length_eq.symm
      have hPm : P'.length ≤ 1000 := by have := HZ.out.2.2.1; omega
      clear hky hperm hmap hgr HSO HZ HI
      rw [hPP]
      clear hPP
      go_wp2_with fail
      have hB8 : Below W7.heap.size W7 (W7.alloc (.cells #[] 5)) := (Below.refl _ _).alloc (Nat.le_refl _) _
      have HP8 : Hid (ERow eKy (W7.alloc (.cells #[] 5)) A3 P' ∧ (∀ p ∈ P', BRow (W7.alloc (.cells #[] 5)) p.a p.l) ∧ P'.map (·.l) = Run.keys cols RS ∧ Below w.heap.size w (W7.alloc (.cells #[] 5))) :=
        ⟨HP.out.1.below hB8, fun p hp => (HP.out.2.1 p hp).below hB8, HP.out.2.2.1, HP.out.2.2.2.then hB8⟩
      clear HP hB8 hjt hj
      generalize World.alloc W7 _ = W8 at HP8 ⊢
      generalize W7.heap.size = g0
      have HMM : Hid (P'.map (·.l) = Run.keys cols RS) := HP8.out.2.2.1
      replace HMM : Hid (P'.map (·.l) = M) := HMM.out.trans HMK.out
      have HML : Hid (M.length = P'.length) := by show _ = _; rw [← HMM.out]; simp
      have HMJ : Hid (∀ (j : Nat) (h : j < M.length), M[j] = (P'[j]'(by have := HML.out; omega)).l) := by
        intro j h
        have hML := HML.out
        have h2 : (P'.map (·.l))[j]? = M[j]? := by rw [HMM.out]
        rw [List.getElem?_eq_getElem h, List.getElem?_map, List.getElem?_eq_getElem (show j < P'.length by omega)] at h2
        exact (Option.some.inj h2).symm
      have HQ : Hid (ERow eKy W8 A3 P' ∧ (∀ p ∈ P', BRow W8 p.a p.l) ∧ Below w.heap.size w W8) := ⟨HP8.out.1, HP8.out.2.1, HP8.out.2.2.2⟩
      clear HP8 HMM
      rw [← HML.out]
      have hMm : M.length ≤ 1000 := by have := HML.out; omega
      go_loopw [11, 15, 53] (fun ev kv iv wq => ∃ (i : Nat) (kA : Option Addr) (kc : Nat) (kl : List UInt8), i ≤ M.length ∧ ev = .int .i64 0 ∧ kv = .slice kA kl.length kc ∧ iv = .int .i64 (i : Int) ∧ Hid (BRow wq kA kl ∧ Run.find H kl = i ∧ H.take i = M.take i ∧ i ≤ H.length ∧ Below W8.heap.size W8 wq)) (fun _ _ iv _ => M.length - (intOf iv).toNat)
      case atStart => exact ⟨0, _, _, [], Nat.zero_le _, rfl, rfl, by go_num, BRow.nil, Run.find_zero H, rfl, Nat.zero_le _, Below.refl _ _⟩
      case round =>
        obtain ⟨i, kA, kc, kl, hi, rfl, rfl, rfl, HR⟩ := hrel
        have HSK : Hid (Calls Tryz.prog 12 #[.pointer (some ⟨g, 0, none⟩), .int .i64 ix, .slice kA kl.length kc] wr (RetSSeek wr H[i]?)) := by
          have h := mseek_any wr g G K (HM.out.below (HQ.out.2.2.then HR.out.2.2.2.2)) HST.out ix kA kc kl HR.out.1
          rw [HH.out.2.1, HR.out.2.1] at h
          exact h
        have HR1 : Hid (H.take i = M.take i ∧ i ≤ H.length ∧ Below W8.heap.size W8 wr) := HR.out.2.2
        clear HR
        by_cases hlt : i < M.length
        · have hii : (i : Int) < (M.length : Int) := by omega
          have hiP : i < P'.length := by have := HML.out; omega
          obtain ⟨b, o, ha, -, hcell⟩ := Ky_at (HQ.out.1.below HR1.out.2.2) hiP
          have HPI : Hid (BRow wr P'[i].a P'[i].l ∧ M[i] = P'[i].l) := ⟨(HQ.out.2.1 _ (List.getElem_mem hiP)).below HR1.out.2.2, HMJ.out i hlt⟩
          rw [ha]
          clear ha
          generalize P'[i] = p at hcell HPI
          unfold Part.v at hcell
          go_wp2_with fail
          refine HSK.out.mono ?_
          clear HSK
          cases hx : H[i]? with
          | none =>
            rintro e W9 ⟨hB9, rfl⟩
            have HD : Hid (bb = false) := HBB.out.symm.trans (decide_eq_false (Run.match_no hlt (by rw [hx]; simp)))
            have HB9 := Lib.hid (HQ.out.2.2.then (HR1.out.2.2.then hB9))
            clear hB9
            go_wp2_with fail
            go_ret
            exact ⟨by rw [HD.out]; rfl, HB9.out⟩
          | some h =>
            rintro e W9 ⟨hB9, A9, c9, rfl, ho9⟩
            have HB9 : Hid (Below W8.heap.size W8 W9) := HR1.out.2.2.then hB9
            have HO9 := Lib.hid ho9
            have HX9 := Lib.hid (HPI.out.1.below hB9)
            have hs1 : (convert 32 9 (.slice A9 h.length c9)).run Tryz.prog W9 = .ok (txt h) W9 := run_string_bytes _ c9 HO9.out.row
            have hs2 : (convert 32 9 (.slice p.a p.l.length p.c)).run Tryz.prog W9 = .ok (txt p.l) W9 := run_string_bytes _ p.c HX9.out
            clear hB9 ho9
            have HHX : Hid (H[i]? = some h ∧ h.length ≤ 200000) := ⟨hx, HH.out.2.2 h (List.mem_of_getElem? hx)⟩
            clear hx
            by_cases he : h = p.l
            · subst he
              have hne : (!(p.l == p.l)) = false := by simp
              have HMY := Lib.hid (Run.match_yes hlt HR1.out.1 (by rw [HHX.out.1, HPI.out.2]))
              have hpl := HHX.out.2
              go_wp2_with fail
              clear hs1 hs2 hne
              refine (clone_any W9 A9 c9 p.l HO9.out.row (by omega)).mono ?_
              rintro e W10 ⟨A10, c10, rfl, ho10, hB10⟩
              have hbA : Below W10.heap.size W10 (W10.alloc (.cells #[.int .u8 0] 5)) := (Below.refl _ _).alloc (Nat.le_refl _) _
              have hrA : BRow (W10.alloc (.cells #[.int .u8 0] 5)) (some ⟨W10.heap.size, 0, none⟩) [0] := BRow.one W10 0 (.int .u8 0) 5 rfl
              have HO10 : Hid (BOwn (W10.alloc (.cells #[.int .u8 0] 5)) W9.heap.size A10 c10 p.l ∧ Below W8.heap.size W8 (W10.alloc (.cells #[.int .u8 0] 5)) ∧ W9.heap.size ≤ (W10.alloc (.cells #[.int .u8 0] 5)).heap.size) := ⟨ho10.below hbA, (HB9.out.then hB10).then hbA, Nat.le_trans hB10.size hbA.size⟩
              have hB9W : W8.heap.size ≤ W9.heap.size := HB9.out.size
              clear ho10 hB10 hbA
              go_wp2_with (at_builtin; refine wpList_append_bytes rfl (.tmp 78) (.tmp 79) rfl _ rfl HO10.out.1 rfl _ rfl hrA rfl (by simp; omega) HO10.out.2.2 ?_; intro A11 c11 W11 ho11 hb11 _ _)
              have HF : Hid (BRow W11 A11 (p.l ++ [0]) ∧ Run.find H (p.l ++ [0]) = i + 1 ∧ Below W8.heap.size W8 W11) := by
                refine ⟨ho11.row, ?_, HO10.out.2.1.trans (hb11.mono hB9W)⟩
                obtain ⟨hl, e⟩ := List.getElem?_eq_some_iff.1 HHX.out.1
                rw [← e]
                exact Run.find_next HH.out.1 hl
              clear ho11 hb11 hrA HO10 hB9W
              go_roundw
              case rel => exact ⟨i + 1, A11, c11, p.l ++ [0], by omega, rfl, by rw [List.length_append]; rfl, by go_num, HF.out.1, HF.out.2.1, HMY.out.1, HMY.out.2, HF.out.2.2⟩
              case measure => simp [intOf]; omega
            · have hne : (!(h == p.l)) = true := by simpa using he
              have HD : Hid (bb = false) := HBB.out.symm.trans (decide_eq_false (Run.match_no hlt (by rw [HHX.out.1, HPI.out.2]; simpa using he)))
              have HB := Lib.hid (HQ.out.2.2.then HB9.out)
              clear he
              go_wp2_with fail
              go_ret
              exact ⟨by rw [HD.out]; rfl, HB.out⟩
        · obtain rfl : i = M.length := by omega
          go_wp2_with fail
          refine HSK.out.mono ?_
          clear HSK
          cases hx : H[M.length]? with
          | none =>
            rintro e W9 ⟨hB9, rfl⟩
            have HD : Hid (bb = true) := HBB.out.symm.trans (decide_eq_true (by
              have h1 := List.getElem?_eq_none_iff.1 hx
              have h2 := HR1.out.1
              rwa [List.take_of_length_le h1, List.take_length] at h2))
            have HB9 := Lib.hid (HQ.out.2.2.then (HR1.out.2.2.then hB9))
            clear hB9
            go_wp2_with fail
            go_ret
            exact ⟨by rw [HD.out]; rfl, HB9.out⟩
          | some h =>
            rintro e W9 ⟨hB9, A9, c9, rfl, ho9⟩
            have HD : Hid (bb = false) := HBB.out.symm.trans (decide_eq_false (by
              rintro rfl
              simp at hx))
            have HB9 := Lib.hid (HQ.out.2.2.then (HR1.out.2.2.then hB9))
            clear hB9 ho9
            go_wp2_with fail
            go_ret
            exact ⟨by rw [HD.out]; rfl, HB9.out⟩
end Go.Proofs.YtpahkaffknnjhaaGreatDoor
end

section
/-
  The contracts of value.Same and stats.column.
-/
namespace Go.Proofs.YtpahkaffknnjhaaGreatDoor
set_option linter.unusedSimpArgs false
set_option linter.unusedVariables false
open Go.RowKit

end Go.Proofs.YtpahkaffknnjhaaGreatDoor
end

section
/-
  Printed by gen/share.py: the contracts of stats.Share's closures.
-/
namespace Go.Proofs.YtpahkaffknnjhaaGreatDoor
set_option linter.unusedSimpArgs false
set_option linter.unusedVariables false
open Go.RowKit

namespace Ev
/-- 0, or a number, or a most. -/
def near (n m : Int) : Int := if 0 < if m < n then m else n then if m < n then m else n else 0
/-- How many of b are guessed, by the bounds for which p holds. -/
def belowN (b : Int) (v : Va) (bs : List Int) (p : Int → Bool) : Int := if v.k ≠ 1 ∨ bs = [] then b / 3 else (b * (bs.countP p : Nat)) / bs.length
end Ev
end Go.Proofs.YtpahkaffknnjhaaGreatDoor
end

section
/-
  The contracts of stats.clean and stats.Share.
-/
namespace Go.Proofs.YtpahkaffknnjhaaGreatDoor
set_option linter.unusedSimpArgs false
set_option linter.unusedVariables false
open Go.RowKit

namespace Ev
def rowsN (r : Int) : Int := near r 1099511627776
def clnC (r : Int) (c : Cs) : Cs := ⟨near c.d (rowsN r), near c.n (rowsN r), c.a, c.b, c.c⟩
def sameN (b d : Int) : Int := if 0 < d then max 1 (b / d) else 0
/-- How many of a thousand rows are guessed, of clean r, c and v. -/
def share (r : Int) (c : Cs) (op : List UInt8) (v : Va) : Int :=
  if r = 0 ∨ v.k = 0 then 0 else
  if op = [61] then sameN (1000 * (r - c.n) / r) c.d else
  if op = [60, 62] then max 0 (1000 * (r - c.n) / r - sameN (1000 * (r - c.n) / r) c.d) else
  if op = [60] then belowN (1000 * (r - c.n) / r) v c.b (fun b => decide (b < v.n)) else
  if op = [60, 61] then belowN (1000 * (r - c.n) / r) v c.b (fun b => decide (b ≤ v.n)) else
  if op = [62] then belowN (1000 * (r - c.n) / r) v c.b (fun b => decide (v.n < b)) else
  if op = [62, 61] then belowN (1000 * (r - c.n) / r) v c.b (fun b => decide (v.n ≤ b)) else (1000 * (r - c.n) / r) / 3
def shareN (r : Int) (c : Cs) (op : List UInt8) (v : Va) : Int := share (rowsN r) (clnC r c) op (Key.clean v)
end Ev
end Go.Proofs.YtpahkaffknnjhaaGreatDoor
end

section
/-
  A row that grows, of elements whose own rows lie each in a block of its own.
-/
namespace Go.Proofs.YtpahkaffknnjhaaGreatDoor
set_option linter.unusedSimpArgs false
set_option linter.unusedVariables false
open Go.RowKit

variable {ρ β : Type} {E : Elem ρ} {F : Elem β} {pa : ρ → Option Addr} {pl : ρ → List β} {pc : ρ → Nat} {B c : Nat} {W W' : World} {A : Option Addr} {R : List ρ}
end Go.Proofs.YtpahkaffknnjhaaGreatDoor
end

section
/-
  The contract of stats.Of.
-/
namespace Go.Proofs.YtpahkaffknnjhaaGreatDoor
set_option linter.unusedSimpArgs false
set_option linter.unusedVariables false
open Go.RowKit

def Cs.k (x : Cs) : Int × Int × List Int := (x.d, x.n, x.b)
namespace Ev
end Ev
end Go.Proofs.YtpahkaffknnjhaaGreatDoor
end

section
/-
  The contract of the law's lives.
-/
namespace Go.Proofs.YtpahkaffknnjhaaGreatDoor
set_option linter.unusedSimpArgs false
set_option linter.unusedVariables false
open Go.RowKit

namespace Ev
end Ev
end Go.Proofs.YtpahkaffknnjhaaGreatDoor
end

section
/-
  The contracts of the law's size, and of both Columns.
-/
namespace Go.Proofs.YtpahkaffknnjhaaGreatDoor
set_option linter.unusedSimpArgs false
set_option linter.unusedVariables false
open Go.RowKit

namespace Ev
mutual
/-- Has a node a column? -/
def hasCol : Nd → Bool
  | .mk k _ _ _ _ _ _ args _ => k == 2 || hasColL args
def hasColL : List Nd → Bool
  | [] => false
  | n :: l => hasCol n || hasColL l
end
end Ev
def RetBo (w : World) (b : Bool) (e : Ending) (w' : World) : Prop := e = .returned (.bool b) ∧ Below w.heap.size w w'
def RetIx (w : World) (b : Bool) (e : Ending) (w' : World) : Prop := ∃ k : Int, e = .returned (.int .i64 k) ∧ decide (0 ≤ k) = b ∧ Below w.heap.size w w'
end Go.Proofs.YtpahkaffknnjhaaGreatDoor
end

section
/-
  The contracts of dowserref15.near, stats.Turn and dowserref15.Turn.
-/
namespace Go.Proofs.YtpahkaffknnjhaaGreatDoor
set_option linter.unusedSimpArgs false
set_option linter.unusedVariables false
open Go.RowKit

namespace Ev
/-- A sign turned round. -/
def turnS (op : List UInt8) : List UInt8 := if op = [60] then [62] else if op = [60, 61] then [62, 61] else if op = [62] then [60] else if op = [62, 61] then [60, 61] else op
end Ev
set_option maxRecDepth 20000 in
set_option maxHeartbeats 4000000 in
theorem turn_any (w : World) (op : List UInt8) : Calls Tryz.prog 181 #[txt op] w fun e w' => e = .returned (txt (Ev.turnS op)) ∧ w' = w := by
  have hgs := guard_str_is
  have HF : Hid (Ev.turnS op = if op = [60] then [62] else if op = [60, 61] then [62, 61] else if op = [62] then [60] else if op = [62, 61] then [60, 61] else op) := rfl
  generalize Ev.turnS op = D at HF ⊢
  go_enter Tryz.func181, Tryz.ntmps181
  by_cases h1 : op = [60]
  · have HF : Hid (D = [62]) := by show _ = _; rw [HF.out, if_pos h1]
    subst h1
    unfold txt
    go_wp2_with fail
    go_ret
    exact ⟨by rw [HF.out]; rfl, rfl⟩
  have n1 := run_str_is op [60] h1
  by_cases h2 : op = [60, 61]
  · have HF : Hid (D = [62, 61]) := by show _ = _; rw [HF.out, if_neg h1, if_pos h2]
    clear n1
    subst h2
    unfold txt
    go_wp2_with fail
    go_ret
    exact ⟨by rw [HF.out]; rfl, rfl⟩
  have n2 := run_str_is op [60, 61] h2
  by_cases h3 : op = [62]
  · have HF : Hid (D = [60]) := by show _ = _; rw [HF.out, if_neg h1, if_neg h2, if_pos h3]
    clear n1 n2
    subst h3
    unfold txt
    go_wp2_with fail
    go_ret
    exact ⟨by rw [HF.out]; rfl, rfl⟩
  have n3 := run_str_is op [62] h3
  by_cases h4 : op = [62, 61]
  · have HF : Hid (D = [60, 61]) := by show _ = _; rw [HF.out, if_neg h1, if_neg h2, if_neg h3, if_pos h4]
    clear n1 n2 n3
    subst h4
    unfold txt
    go_wp2_with fail
    go_ret
    exact ⟨by rw [HF.out]; rfl, rfl⟩
  have n4 := run_str_is op [62, 61] h4
  have HF : Hid (D = op) := by show _ = _; rw [HF.out, if_neg h1, if_neg h2, if_neg h3, if_neg h4]
  clear h1 h2 h3 h4
  go_wp2_with fail
  go_ret
  exact ⟨by rw [HF.out]; rfl, rfl⟩
end Go.Proofs.YtpahkaffknnjhaaGreatDoor
end

section
/-
  The contract of the document's Same.
-/
namespace Go.Proofs.YtpahkaffknnjhaaGreatDoor
set_option linter.unusedSimpArgs false
set_option linter.unusedVariables false
open Go.RowKit

theorem cell_kept {w W : World} {g b i : Nat} {v : Value} (hg : w.grownBy W (some g)) (hb : b < w.heap.size) (hne : b ≠ g) (h : w.cell? ⟨b, i, none⟩ = some v) : W.cell? ⟨b, i, none⟩ = some v :=
  (World.cell?_of_block (w := w) (hg.block b hb (fun e => hne (Option.some.inj e)))).trans h
end Go.Proofs.YtpahkaffknnjhaaGreatDoor
end

section
/-
  The contract of stats.Against.
-/
namespace Go.Proofs.YtpahkaffknnjhaaGreatDoor
set_option linter.unusedSimpArgs false
set_option linter.unusedVariables false
open Go.RowKit

namespace Ev
/-- A column's place, a sign, what stands against it. -/
def against (n : Nd) : Option (Int × List UInt8 × Nd) :=
  if n.k = 7 then
    match n.args with
    | [a, b] => if a.k = 2 ∧ hasCol b = false then some (a.at_, n.op, b) else if b.k = 2 ∧ hasCol a = false then some (b.at_, turnS n.op, a) else none
    | _ => none
  else none
end Ev
theorem wpList_load_nd_is {w : World} {ops : Array Oper} {rest : List Oper} {o : Oper} {a : Act} {Q : Exit → Act → World → Prop} (hgd : o.guard = none) (x : Operand) (hop : o.op = .load 66 x) {b off : Nat} {L : List Nd} (hr : ERow eNd w (some ⟨b, off, none⟩) L) {j : Nat} (hj : j < L.length) (p : Nd) (hp : L[j] = p) (hx : a.eval x = .pointer (some ⟨b, off + j * 10, none⟩))
    (h : wpList Tryz.prog ops Q rest (a.put o.dst p.v) w) : wpList Tryz.prog ops Q (o :: rest) a w := by
  subst hp
  exact wpList_load_nd_at hgd x hop hr hj hx h
end Go.Proofs.YtpahkaffknnjhaaGreatDoor
end

section
/-
  The contracts of stats.Guess's of and of the document's of.
-/
namespace Go.Proofs.YtpahkaffknnjhaaGreatDoor
set_option linter.unusedSimpArgs false
set_option linter.unusedVariables false
open Go.RowKit

namespace Ev
/-- How many rows a column's table has, and what is known of it. -/
def ofN (at_ : Int) (rows : List Int) (cols : List Cs) : Int × Cs :=
  if 0 ≤ at_ ∧ at_ < rows.length ∧ at_ < cols.length then (rowsN (rows.getD at_.toNat 0), clnC (rows.getD at_.toNat 0) (cols.getD at_.toNat Cs.nul)) else (0, Cs.nul)
end Ev
end Go.Proofs.YtpahkaffknnjhaaGreatDoor
end

section
/-
  The contract of stats.Guess.
-/
namespace Go.Proofs.YtpahkaffknnjhaaGreatDoor
set_option linter.unusedSimpArgs false
set_option linter.unusedVariables false
open Go.RowKit

namespace Ev
def nullN (no : Bool) (x : Int × Cs) : Int := if x.1 = 0 then 0 else if no then 1000 * (x.1 - x.2.n) / x.1 else 1000 * x.2.n / x.1
/-- A part of a node. -/
def prt (n : Nd) (i : Nat) : Nd := n.args.getD i Nd.nil
def guess0 (n : Nd) (rows : List Int) (cols : List Cs) : Int :=
  if n.k = 9 ∧ n.args.length = 1 ∧ (prt n 0).k = 2 then nullN n.no (ofN (prt n 0).at_ rows cols) else
  if n.k = 7 ∧ n.op = [61] ∧ n.args.length = 2 ∧ (prt n 0).k = 2 ∧ (prt n 1).k = 2 then 1000 / max (max 1 (ofN (prt n 0).at_ rows cols).2.d) (ofN (prt n 1).at_ rows cols).2.d else 333
/-- How many of a thousand rows are guessed. -/
def guessN (n : Nd) (rows : List Int) (cols : List Cs) : Int :=
  match against n with
  | some y => shareN (ofN y.1 rows cols).1 (ofN y.1 rows cols).2 y.2.1 (eval [] y.2.2)
  | none => guess0 n rows cols
end Ev
theorem nd_below15 {w W : World} {n : Nd} (h : NodeIn w n) (hB : Below w.heap.size w W) : NodeIn W n := by
  induction h with
  | @mk n hr hin hlit hls hk hat hc hm ih => exact .mk (hr.below hB) ih hlit hls hk hat hc hm
end Go.Proofs.YtpahkaffknnjhaaGreatDoor
end

section
/-
  What plans cost, plain.
-/
namespace Go.Proofs.YtpahkaffknnjhaaGreatDoor
set_option linter.unusedSimpArgs false
set_option linter.unusedVariables false
namespace Pn
/-! ### costs -/
def maxC : Int := 4503599627370496
def fit (n : Int) : Int := max 0 (min n maxC)
def add2 (a b : Int) : Int := fit (fit a + fit b)
def mul (a b : Int) : Int := if 0 < fit a ∧ maxC / fit a < fit b then maxC else fit a * fit b
def part (n t : Int) : Int := fit n / 1000 * max 0 (min t 1000) + fit n % 1000 * max 0 (min t 1000) / 1000
def bitsF : Nat → Nat → Nat
  | 0, _ => 0
  | k + 1, n => if n = 0 then 0 else bitsF k (n / 2) + 1
def bits (n : Int) : Int := bitsF 64 (fit n).toNat
def pages (rows cols : Int) : Int := add2 1 (mul rows (4 + 8 * max 0 (min cols 24)) / 400)
def seq (rows cols : Int) : Int := add2 (mul 10 (pages rows cols)) rows
def range (rows : Int) : Int := add2 30 (mul rows 11)
def loop (left rows right : Int) : Int := add2 left (mul (max 1 rows) right)
def lookup (left rows each : Int) : Int := loop left rows (range each)
def sort (left rows : Int) : Int := add2 left (mul rows (bits rows))

end Pn
end Go.Proofs.YtpahkaffknnjhaaGreatDoor
end

section
/-
  Masks of eight bits; the contracts of has and one.
-/
namespace Go.Proofs.YtpahkaffknnjhaaGreatDoor
set_option linter.unusedSimpArgs false
set_option linter.unusedVariables false
open Go.RowKit

namespace Pn
/-- The one table of some. -/
def one (m : Nat) : Option Nat := if m = 1 then some 0 else if m = 2 then some 1 else if m = 4 then some 2 else if m = 8 then some 3 else none
def ones (m : Nat) : Nat := m % 2 + m / 2 % 2 + m / 4 % 2 + m / 8 % 2
def zeros (m : Nat) : Nat := if m % 2 = 1 then 0 else if m / 2 % 2 = 1 then 1 else if m / 4 % 2 = 1 then 2 else if m / 8 % 2 = 1 then 3 else 8
end Pn
theorem has8 : ∀ m < 16, ∀ f < 8, (bits BinOp.and IntKind.u8 ((m : Nat) / 2 ^ f) 1 == 1) = m.testBit f := by decide
theorem or8 : ∀ a < 16, ∀ b < 16, bits BinOp.or IntKind.u8 (a : Nat) (b : Nat) = ((a ||| b : Nat) : Int) := by decide
theorem andNot8 : ∀ a < 16, ∀ b < 16, (bits BinOp.andNot IntKind.u8 (a : Nat) (b : Nat) == 0) = ((a &&& b) == a) := by decide
theorem or16 : ∀ a < 16, ∀ b < 16, (a ||| b) < 16 := by decide
set_option maxRecDepth 20000 in
theorem mhas_any (w : World) (m f : Nat) (hm : m < 16) (hf : f < 8) : Calls Tryz.prog 139 #[.int .u8 m, .int .i64 f] w fun e w' => e = .returned (.bool (m.testBit f)) ∧ w = w' := by
  have h8 := has8 m hm f hf
  go_enter Tryz.func139, Tryz.ntmps139
  go_wp2_with fail
  go_ret
  exact ⟨by rw [← h8]; rfl, rfl⟩
end Go.Proofs.YtpahkaffknnjhaaGreatDoor
end

section
/-
  Which groups of tables there are, and how they may be joined, plain.
-/
namespace Go.Proofs.YtpahkaffknnjhaaGreatDoor
set_option linter.unusedSimpArgs false
set_option linter.unusedVariables false
namespace Pn
/-! ### which groups there are -/
abbrev Mm := List (Option (List (Nat × Nat)))
def mget (m : Mm) (k : Nat) : Option (List (Nat × Nat)) := m.getD k none
def mset (m : Mm) (k : Nat) (l : List (Nat × Nat)) : Mm := m.set k (some l)
def mjs (m : Mm) (k : Nat) : List (Nat × Nat) := (mget m k).getD []
def madd (m : Mm) (a b : Nat) : Mm × Bool :=
  if (mjs m (a ||| b)).contains (a, b) then (m, false) else (mset m (a ||| b) (mjs m (a ||| b) ++ [(a, b)]), true)
def massF (b : Nat) : List (Nat × Nat) → Mm × Bool → Mm × Bool
  | [], r => r
  | k :: l, r => massF b l (let r1 := madd r.1 k.2 b; let r2 := madd r1.1 k.1 (k.2 ||| b); (r2.1, r2.2 || (r1.2 || r.2)))
def mass (m : Mm) (j : Nat × Nat) : Mm × Bool := massF j.2 (mjs m j.1) (m, false)
def mjF : List (Nat × Nat) → Mm × Bool → Mm × Bool
  | [], r => r
  | j :: l, r => mjF l (let r1 := madd r.1 j.2 j.1; let r2 := mass r1.1 j; (r2.1, r2.2 || (r1.2 || r.2)))
def msF : Nat → Nat → Mm × Bool → Mm × Bool
  | _, 0, r => r
  | s, k + 1, r => msF (s + 1) k (match mget r.1 s with
    | some l => mjF l r
    | none => r)
/-- Till no other way is found, n sweeps at most: and was that so? -/
def mAll (all : Nat) : Nat → Mm → Mm × Bool
  | 0, m => (m, false)
  | n + 1, m => let r := msF 1 all (m, false); if r.2 then mAll all n r.1 else (r.1, true)
def mBegin (n : Nat) : Nat → Nat → Mm × Nat → Mm × Nat
  | _, 0, r => r
  | f, k + 1, r => mBegin n (f + 1) k ((madd (mset r.1 (2 ^ f) []) r.2 (2 ^ f)).1, r.2 ||| 2 ^ f)
def m0 : Mm := mset (List.replicate 16 none) 1 []
def mEnd (n : Nat) : Mm × Bool := mAll (2 ^ n - 1) 9 (mBegin n 1 (n - 1) (m0, 1)).1
def J (n : Nat) (s : Nat) : List (Nat × Nat) := mjs (mEnd n).1 s

end Pn
end Go.Proofs.YtpahkaffknnjhaaGreatDoor
end

section
/-
  What a planner reckons, plain.
-/
namespace Go.Proofs.YtpahkaffknnjhaaGreatDoor
set_option linter.unusedSimpArgs false
set_option linter.unusedVariables false

/-- A plan, plain. -/
inductive Pl where
  | mk (op fr ix : Int) (eq : List Int) (low high cost rows : Int) (kids : List Pl)
namespace Pl
def op : Pl → Int | .mk op _ _ _ _ _ _ _ _ => op
def fr : Pl → Int | .mk _ fr _ _ _ _ _ _ _ => fr
def ix : Pl → Int | .mk _ _ ix _ _ _ _ _ _ => ix
def eq : Pl → List Int | .mk _ _ _ eq _ _ _ _ _ => eq
def low : Pl → Int | .mk _ _ _ _ low _ _ _ _ => low
def high : Pl → Int | .mk _ _ _ _ _ high _ _ _ => high
def cost : Pl → Int | .mk _ _ _ _ _ _ cost _ _ => cost
def rows : Pl → Int | .mk _ _ _ _ _ _ _ rows _ => rows
def kids : Pl → List Pl | .mk _ _ _ _ _ _ _ _ kids => kids
def nil : Pl := .mk 0 0 0 [] 0 0 0 0 []
instance : Inhabited Pl := ⟨nil⟩
end Pl
namespace Pn
open Ev
/-! ### what is known -/
/-- A query, its tables' rows, the indexes. -/
structure PX where
  T : List Int
  B : List Int
  W : Int
  wh : List Nd
  gr : Bool
  ord : List So
  defs : List Df
  rows : List Int
  cols : List Cs
def b (x : PX) (f : Nat) : Int := x.B.getD f 0
def endN (x : PX) (f : Nat) : Int := if f + 1 < x.B.length then b x (f + 1) else x.W
def mayF (x : PX) (i : Nat) : Nat → Bool
  | 0 => true
  | k + 1 => decide (b x i < endN x i) && mayF x (i + 1) k
def may0 (x : PX) : Bool := decide (1 ≤ x.T.length) && decide (x.T.length ≤ 4) && decide (x.B.length = x.T.length) && decide (b x 0 = 0) && decide (x.W ≤ (x.T.length : Int) * 6)
def may (x : PX) : Bool := may0 x && mayF x 0 x.T.length
/-- The table of a place, from table i on, of k more. -/
def ofF (x : PX) (at_ : Int) (i : Nat) : Nat → Int
  | 0 => -1
  | k + 1 => if b x i ≤ at_ ∧ at_ < endN x i then (i : Int) else ofF x at_ (i + 1) k
def ofT (x : PX) (at_ : Int) : Int := ofF x at_ 0 x.B.length
def orP (y z : Nat × Bool) : Nat × Bool := (y.1 ||| z.1, y.2 || z.2)
def asksK (x : PX) (k at_ : Int) (l : List (Nat × Bool)) : Nat × Bool :=
  if k = 2 then (if ofT x at_ < 0 then (0, true) else l.foldl orP (2 ^ (ofT x at_).toNat, false)) else l.foldl orP (0, false)
mutual
/-- The tables that a node asks; and whether it asks a place that there is none of. -/
def asks (x : PX) : Nd → Nat × Bool
  | .mk k _ _ at_ _ _ _ args _ => asksK x k at_ (asksL x args)
def asksL (x : PX) : List Nd → List (Nat × Bool)
  | [] => []
  | n :: l => asks x n :: asksL x l
end
theorem asks_eq (x : PX) (n : Nd) : asks x n = asksK x n.k n.at_ (asksL x n.args) := by cases n; rfl
/-- Are all of some tables among others? -/
def sub (m g : Nat) : Bool := (m &&& g) == m
def agHit (x : PX) (y z : Nd) (op : List UInt8) (at_ : Int) (given : Nat) (ops : List (List UInt8)) : Bool :=
  y.k == 2 && y.at_ == at_ && !(asks x z).2 && sub (asks x z).1 given && ops.contains op
def agst (x : PX) (n : Nd) (at_ : Int) (given : Nat) (ops : List (List UInt8)) : Bool :=
  n.k == 7 && match n.args with
    | [y, z] => agHit x y z n.op at_ given ops || agHit x z y (turnS n.op) at_ given ops
    | _ => false
def fitsD (x : PX) (f : Nat) (d : Df) : Bool := d.t == x.T.getD f 0 && !d.cols.isEmpty && d.cols.all fun c => decide (0 ≤ c ∧ c < endN x f - b x f)
def fits (x : PX) (f ix : Int) : Bool := decide (0 ≤ ix ∧ ix < (x.defs.length : Int) ∧ 0 ≤ f ∧ f < (x.T.length : Int)) && fitsD x f.toNat (x.defs.getD ix.toNat ⟨0, none, [], 0, false⟩)
/-- The first part of Where, from i on, that holds a column so. -/
def idxF (x : PX) (at_ : Int) (given : Nat) (ops : List (List UInt8)) (i : Nat) : List Nd → Int
  | [] => -1
  | n :: l => if agst x n at_ given ops then (i : Int) else idxF x at_ given ops (i + 1) l
def idx (x : PX) (at_ : Int) (given : Nat) (ops : List (List UInt8)) : Int := idxF x at_ given ops 0 x.wh
def eqF (x : PX) (f given : Nat) : List Int → List Int → List Int
  | [], out => out
  | c :: l, out => if idx x (b x f + c) given [[61]] < 0 then out else eqF x f given l (out ++ [idx x (b x f + c) given [[61]]])
def eqN (x : PX) (f : Nat) (d : Df) (given : Nat) : List Int := eqF x f given d.cols []
def bound (x : PX) (f : Nat) (d : Df) (next : Nat) (ops : List (List UInt8)) : Int := if next < d.cols.length then idx x (b x f + d.cols.getD next 0) 0 ops else -1
def rowsAt (x : PX) (f : Nat) : Int := x.rows.getD (b x f).toNat 0
def guess (x : PX) (i : Int) : Int := guessN (x.wh.getD i.toNat Nd.nil) x.rows x.cols
def foundF (x : PX) (n i : Int) : Int := if 0 ≤ i then part n (guess x i) else n
def found (x : PX) (f : Nat) (l : List Int) : Int := max 1 (l.foldl (foundF x) (fit (rowsAt x f)))
def sizeF (x : PX) (m : Nat) (n : Int) (f : Nat) : Int := if m.testBit f then mul n (rowsAt x f) else n
def sizeG (x : PX) (m : Nat) (n : Int) (y : Nd) : Int := if (asks x y).1 ≠ 0 ∧ sub (asks x y).1 m = true then part n (guessN y x.rows x.cols) else n
def size (x : PX) (m : Nat) : Int := max 1 (x.wh.foldl (sizeG x m) ((List.range x.B.length).foldl (sizeF x m) 1))
/-! ### plans -/
def opGt : List (List UInt8) := [[62], [62, 61]]
def opLt : List (List UInt8) := [[60], [60, 61]]
def mkSeq (x : PX) (f : Nat) (n : Int) : Pl := .mk 1 f (-1) [] (-1) (-1) (seq (rowsAt x f) (endN x f - b x f)) n []
def mkRange (x : PX) (f : Nat) (n : Int) (i : Nat) (d : Df) : Pl :=
  .mk 2 f i (eqN x f d 0) (bound x f d (eqN x f d 0).length opGt) (bound x f d (eqN x f d 0).length opLt)
    (range (found x f (eqN x f d 0 ++ [bound x f d (eqN x f d 0).length opGt, bound x f d (eqN x f d 0).length opLt]))) n []
def accF (x : PX) (f : Nat) (n : Int) : Nat → List Df → List Pl → List Pl
  | _, [], out => out
  | i, d :: l, out => accF x f n (i + 1) l (if fits x f i then out ++ [mkRange x f n i d] else out)
def access (x : PX) (f : Nat) (n : Int) : List Pl := accF x f n 0 x.defs [mkSeq x f n]
def lessP (a b : Pl) : Pl := if b.cost < a.cost then b else a
def lessO : Option Pl → Pl → Pl
  | none, b => b
  | some a, b => lessP a b
def mkLookup (x : PX) (j1 f i : Nat) (d : Df) (l : Pl) (n : Int) : Pl :=
  .mk 4 f i (eqN x f d j1) (-1) (-1) (lookup l.cost (size x j1) (found x f (eqN x f d j1))) n [l]
def joinF (x : PX) (j : Nat × Nat) (l : Pl) (n : Int) : Nat → List Df → Pl → Pl
  | _, [], out => out
  | i, d :: r, out => joinF x j l n (i + 1) r (match one j.2 with
    | some f => if fits x f i && !(eqN x f d j.1).isEmpty then lessP out (mkLookup x j.1 f i d l n) else out
    | none => out)
def mkLoop (x : PX) (j : Nat × Nat) (l r : Pl) (n : Int) : Pl := .mk 3 (-1) (-1) [] (-1) (-1) (loop l.cost (size x j.1) r.cost) n [l, r]
def join (x : PX) (j : Nat × Nat) (l r : Pl) (n : Int) : Pl := joinF x j l n 0 x.defs (mkLoop x j l r n)
def mkSort (p : Pl) (n : Int) : Pl := .mk 5 (-1) (-1) [] (-1) (-1) (sort p.cost n) n [p]
def orders (x : PX) : Bool := !x.gr && !x.ord.isEmpty
def sortsF (x : PX) : List So → Nat → Option Nat
  | [], m => some m
  | s :: l, m => if ofT x s.at_ < 0 then none else sortsF x l (m ||| 2 ^ (ofT x s.at_).toNat)
def sorts (x : PX) : Nat × Bool := match sortsF x x.ord 0 with
  | some m => (m, orders x)
  | none => (0, false)
/-- Does an index give a table's rows in the order, of which from next on are not held? -/
def givF (x : PX) (f : Int) (cols : List Int) (k : Nat) : List So → Nat → Bool
  | [], _ => true
  | s :: l, next =>
    if s.desc = true ∨ ofT x s.at_ ≠ f then false
    else if (cols.take k).contains (s.at_ - b x f.toNat) then givF x f cols k l next
    else if next < cols.length ∧ cols.getD next 0 = s.at_ - b x f.toNat then givF x f cols k l (next + 1) else false
def gives (x : PX) : Pl → Bool
  | .mk op fr ix eq _ _ _ _ kids =>
    if op = 5 then true
    else if op = 3 ∨ op = 4 then match kids with
      | k :: _ => gives x k
      | [] => false
    else if op = 1 then x.ord.isEmpty
    else givF x fr (x.defs.getD ix.toNat ⟨0, none, [], 0, false⟩).cols eq.length x.ord eq.length
/-! ### groups -/
structure Bo where
  best : Option Pl
  ord : Option Pl
def accStep (x : PX) (s by_ : Nat) (must : Bool) (g : Bo) (p : Pl) : Bo :=
  ⟨some (lessO g.best p), if must = true ∧ by_ = s ∧ gives x p = true then some (lessO g.ord p) else g.ord⟩
def joinStep (x : PX) (M : Nat → Bo) (n : Int) (g : Bo) (j : Nat × Nat) : Bo :=
  ⟨some (lessO g.best (join x j ((M j.1).best.getD Pl.nil) ((M j.2).best.getD Pl.nil) n)),
    match (M j.1).ord with
    | some l => some (lessO g.ord (join x j l ((M j.2).best.getD Pl.nil) n))
    | none => g.ord⟩
def optA (x : PX) (s : Nat) (g : Bo) : Bo := match one s with
  | some f => (access x f (size x s)).foldl (accStep x s (sorts x).1 (sorts x).2) g
  | none => g
def optS (x : PX) (s : Nat) (g : Bo) : Bo := if (sorts x).2 = true ∧ sub (sorts x).1 s = true then ⟨g.best, some (lessO g.ord (mkSort (g.best.getD Pl.nil) (size x s)))⟩ else g
def opt (x : PX) (J : Nat → List (Nat × Nat)) (M : Nat → Bo) (s : Nat) : Bo := optS x s ((J s).foldl (joinStep x M (size x s)) (optA x s (M s)))
def setM (M : Nat → Bo) (s : Nat) (g : Bo) : Nat → Bo := fun i => if i = s then g else M i
def optAll (x : PX) (J : Nat → List (Nat × Nat)) : Nat → Nat → (Nat → Bo) → (Nat → Bo)
  | _, 0, M => M
  | s, k + 1, M => optAll x J (s + 1) k (setM M s (opt x J M s))
/-- The plan of the least cost. -/
def choose (x : PX) : Pl :=
  let M := optAll x (J x.T.length) 1 (2 ^ x.T.length - 1) (fun _ => ⟨none, none⟩)
  let g := M (2 ^ x.T.length - 1)
  match g.ord with
  | some p => p
  | none => g.best.getD Pl.nil
end Pn
end Go.Proofs.YtpahkaffknnjhaaGreatDoor
end

section
/-
  The contracts of the cost functions.
-/
namespace Go.Proofs.YtpahkaffknnjhaaGreatDoor
set_option linter.unusedSimpArgs false
set_option linter.unusedVariables false
open Go.RowKit

/-- What a call answers: a number. -/
def RetI (w : World) (k : Int) (e : Ending) (w' : World) : Prop := e = .returned (.int .i64 k) ∧ Below w.heap.size w w'
end Go.Proofs.YtpahkaffknnjhaaGreatDoor
end

section
/-
  A planner's query in memory.
-/
namespace Go.Proofs.YtpahkaffknnjhaaGreatDoor
set_option linter.unusedSimpArgs false
set_option linter.unusedVariables false
open Go.RowKit

/-- A query with the places of all its parts. -/
structure Qp where
  x : Pn.PX
  ta : Option Addr
  tc : Nat
  ba : Option Addr
  bc : Nat
  wa : Option Addr
  wc : Nat
  ga : Option Addr
  group : List Int
  gc : Nat
  ia : Option Addr
  items : List Nd
  ic : Nat
  oa : Option Addr
  oc : Nat
  lim : Int
def Qp.cells (p : Qp) : List Value := [.slice p.ta p.x.T.length p.tc, .slice p.ba p.x.B.length p.bc, .int .i64 p.x.W, .slice p.wa p.x.wh.length p.wc, .slice p.ga p.group.length p.gc, .bool p.x.gr, .slice p.ia p.items.length p.ic, .slice p.oa p.x.ord.length p.oc, .int .i64 p.lim]
def Qp.v (p : Qp) : Value := .agg p.cells.toArray
/-- A query whose parts can be read. -/
structure QpIn (w : World) (p : Qp) : Prop where
  t : ERow eInt w p.ta p.x.T
  tin : ∀ n ∈ p.x.T, Ev.inB n
  tl : p.x.T.length ≤ 1000000
  b : ERow eInt w p.ba p.x.B
  bin : ∀ n ∈ p.x.B, Ev.inB n
  bl : p.x.B.length ≤ 1000000
  win : Ev.inB p.x.W
  wn : ERow eNd w p.wa p.x.wh
  nin : ∀ n ∈ p.x.wh, NodeIn w n
  wl : p.x.wh.length ≤ 1000000
  o : ERow eSo w p.oa p.x.ord
  oin : ∀ s ∈ p.x.ord, Ev.inB s.at_
  ol : p.x.ord.length ≤ 1000000
theorem QpIn.below {w W : World} {p : Qp} (h : QpIn w p) (hB : Below w.heap.size w W) : QpIn W p :=
  ⟨h.t.below hB, h.tin, h.tl, h.b.below hB, h.bin, h.bl, h.win, h.wn.below hB, fun n hn => nd_below15 (h.nin n hn) hB, h.wl, h.o.below hB, h.oin, h.ol⟩
theorem Blk.qp {w : World} {g : Nat} {t : TypeId} {p : Qp} (h : Blk w g t p.cells) :
    w.cell? ⟨g, 0, none⟩ = some (.slice p.ta p.x.T.length p.tc) ∧ w.cell? ⟨g, 1, none⟩ = some (.slice p.ba p.x.B.length p.bc) ∧ w.cell? ⟨g, 2, none⟩ = some (.int .i64 p.x.W) ∧
    w.cell? ⟨g, 3, none⟩ = some (.slice p.wa p.x.wh.length p.wc) ∧ w.cell? ⟨g, 5, none⟩ = some (.bool p.x.gr) ∧ w.cell? ⟨g, 7, none⟩ = some (.slice p.oa p.x.ord.length p.oc) :=
  ⟨h.cell 0, h.cell 1, h.cell 2, h.cell 3, h.cell 5, h.cell 7⟩
theorem qp_info : (Tryz.prog.info? 26).map (·.size) = some 9 := by kernel_rfl
section
variable {w : World} {ops : Array Oper} {rest : List Oper} {o : Oper} {a : Act} {Q : Exit → Act → World → Prop}
theorem wpList_box_qp (hgd : o.guard = none) (x : Operand) (hop : o.op = .box 26 x) (b : Qp) (hx : a.eval x = b.v)
    (h : ∀ W, Blk W w.heap.size 26 b.cells → w.heap.size + 1 ≤ W.heap.size → Below w.heap.size w W → wpList Tryz.prog ops Q rest (a.put o.dst (.pointer (some ⟨w.heap.size, 0, none⟩))) W) : wpList Tryz.prog ops Q (o :: rest) a w :=
  wpList_plain hgd fun _ hK => by
    unfold Oper.wp execOp
    have e : (Instr.box 26 b.v).run Tryz.prog w = .ok (.pointer (some ⟨w.heap.size, 0, none⟩)) (w.alloc (.cells b.cells.toArray 26)) := by
      simp [Instr.box, Sem.run_bind, newVar, newRow]
      rfl
    simp only [hop, hx, Sem.run_bind, e, Result.andThen_ok, Sem.run_pure]
    obtain ⟨h1, h2, h3⟩ := fresh1 (w := w) (a := b.cells) (t := 26) rfl
    exact hK _ _ (h _ h1 h2 h3)
/-- A query out of a block that begins with it. -/
theorem wpList_load_qp (hgd : o.guard = none) (x : Operand) (hop : o.op = .load 26 x) (g : Nat) (hx : a.eval x = .pointer (some ⟨g, 0, none⟩)) {T0 : TypeId} {b : Qp} {r : List Value} (hb : Blk w g T0 (b.cells ++ r))
    (h : wpList Tryz.prog ops Q rest (a.put o.dst b.v) w) : wpList Tryz.prog ops Q (o :: rest) a w :=
  wpList_load_mid hgd 26 x hop g 0 hx b.cells _ (hb.range 0 b.cells fun j hj => by rw [Nat.zero_add, List.getElem?_append_left hj]) Tryz.underlying26 rfl qp_info h
theorem wpList_load_qp0 (hgd : o.guard = none) (x : Operand) (hop : o.op = .load 26 x) (g : Nat) (hx : a.eval x = .pointer (some ⟨g, 0, none⟩)) {T0 : TypeId} {b : Qp} (hb : Blk w g T0 b.cells)
    (h : wpList Tryz.prog ops Q rest (a.put o.dst b.v) w) : wpList Tryz.prog ops Q (o :: rest) a w :=
  wpList_load_qp hgd x hop g hx (r := []) (by rw [List.append_nil]; exact hb) h
end
theorem Blk.qp9 {w : World} {g : Nat} {t : TypeId} {p : Qp} {r : List Value} (h : Blk w g t (p.cells ++ r)) :
    w.cell? ⟨g, 0, none⟩ = some (.slice p.ta p.x.T.length p.tc) ∧ w.cell? ⟨g, 1, none⟩ = some (.slice p.ba p.x.B.length p.bc) ∧ w.cell? ⟨g, 2, none⟩ = some (.int .i64 p.x.W) ∧
    w.cell? ⟨g, 3, none⟩ = some (.slice p.wa p.x.wh.length p.wc) ∧ w.cell? ⟨g, 4, none⟩ = some (.slice p.ga p.group.length p.gc) ∧ w.cell? ⟨g, 5, none⟩ = some (.bool p.x.gr) ∧ w.cell? ⟨g, 6, none⟩ = some (.slice p.ia p.items.length p.ic) ∧ w.cell? ⟨g, 7, none⟩ = some (.slice p.oa p.x.ord.length p.oc) ∧ w.cell? ⟨g, 8, none⟩ = some (.int .i64 p.lim) :=
  ⟨h.cell 0, h.cell 1, h.cell 2, h.cell 3, h.cell 4, h.cell 5, h.cell 6, h.cell 7, h.cell 8⟩
theorem Blk.qp90 {w : World} {g : Nat} {t : TypeId} {p : Qp} (h : Blk w g t p.cells) : Blk w g t (p.cells ++ []) := by rw [List.append_nil]; exact h
namespace Pn
theorem b_get {x : PX} {f : Nat} (h : f < x.B.length) : x.B[f] = b x f := by unfold b; simp [List.getD, h]
end Pn
set_option maxRecDepth 20000 in
theorem plend_any (w : World) (p : Qp) (hp : QpIn w p) (f : Nat) (hf : f ≤ 1000000) : Calls Tryz.prog 138 #[p.v, .int .i64 f] w (RetI w (Pn.endN p.x f)) := by
  have HP := Lib.hid hp
  have hbl := hp.bl
  clear hp
  go_enter Tryz.func138, Tryz.ntmps138
  go_upto_region 1 with (refine wpList_box_qp rfl (.tmp 0) rfl p rfl ?_; intro W1 hb1 hz1 hB1)
  have HB1 := Lib.hid hB1
  obtain ⟨-, c1, c2, -, -, -⟩ := Blk.qp hb1
  clear hB1 hb1 hz1
  generalize w.heap.size = g at c1 c2 ⊢
  by_cases h : f + 1 < p.x.B.length
  · have hi : (f : Int) + 1 < (p.x.B.length : Int) := by omega
    have HF : Hid (Pn.endN p.x f = p.x.B[f + 1]) := by show _ = _; unfold Pn.endN; rw [if_pos h, Pn.b_get h]
    obtain ⟨bb, oo, ha, -, hc⟩ := int_at (HP.out.b.below HB1.out) h
    rw [ha] at c1
    clear ha
    have hc' : W1.cell? ⟨bb, oo + ((f : Int) + 1).toNat, none⟩ = some (.int .i64 p.x.B[f + 1]) := by rw [show ((f : Int) + 1).toNat = f + 1 by omega]; exact hc
    go_wp2_with fail
    go_ret
    exact ⟨by rw [HF.out]; rfl, HB1.out⟩
  · have hi : ¬ (f : Int) + 1 < (p.x.B.length : Int) := by omega
    have HF : Hid (Pn.endN p.x f = p.x.W) := by show _ = _; unfold Pn.endN; rw [if_neg h]
    go_wp2_with fail
    go_ret
    exact ⟨by rw [HF.out]; rfl, HB1.out⟩
namespace Pn
theorem ofF_drop (x : PX) (at_ : Int) (i k : Nat) : ofF x at_ i (k + 1) = if b x i ≤ at_ ∧ at_ < endN x i then (i : Int) else ofF x at_ (i + 1) k := rfl
theorem ofF_le (x : PX) (at_ : Int) : ∀ k i, -1 ≤ ofF x at_ i k ∧ ofF x at_ i k < (i + k : Nat)
  | 0, i => by show -1 ≤ (-1 : Int) ∧ (-1 : Int) < _; omega
  | k + 1, i => by
    rw [ofF_drop]
    split
    · omega
    · have := ofF_le x at_ k (i + 1)
      omega
theorem ofT_le (x : PX) (at_ : Int) : -1 ≤ ofT x at_ ∧ ofT x at_ < (x.B.length : Int) := by
  have := ofF_le x at_ x.B.length 0
  unfold ofT
  omega
end Pn
set_option maxRecDepth 20000 in
set_option maxHeartbeats 1000000 in
theorem plof_any (w : World) (p : Qp) (hp : QpIn w p) (at_ : Int) : Calls Tryz.prog 141 #[p.v, .int .i64 at_] w (RetI w (Pn.ofT p.x at_)) := by
  have HP := Lib.hid hp
  have hbl := hp.bl
  obtain ⟨D, hD⟩ : ∃ D, Pn.ofT p.x at_ = D := ⟨_, rfl⟩
  have HD : Hid (Pn.ofF p.x at_ 0 p.x.B.length = D) := hD
  rw [hD]
  clear hp hD
  go_enter Tryz.func141, Tryz.ntmps141
  go_upto_region 1 with (refine wpList_box_qp rfl (.tmp 0) rfl p rfl ?_; intro W1 hb1 hz1 hB1)
  have HB1 := Lib.hid hB1
  have HH := Lib.hid hb1
  obtain ⟨-, c1, -⟩ := Blk.qp hb1
  obtain ⟨g2, hg2⟩ : ∃ g, w.heap.size = g := ⟨_, rfl⟩
  rw [hg2] at c1 HH
  rw [hg2]
  clear hB1 hz1 hb1 hg2
  go_wp2_with fail
  clear c1
  go_loopw [10] (fun iv wr => ∃ i : Nat, i ≤ p.x.B.length ∧ iv = .int .i64 (i : Int) ∧ Hid (Pn.ofF p.x at_ i (p.x.B.length - i) = D ∧ Below W1.heap.size W1 wr)) (fun iv _ => p.x.B.length - (intOf iv).toNat)
  case atStart => exact ⟨0, Nat.zero_le _, by go_num, HD.out, Below.refl _ _⟩
  case round =>
    obtain ⟨i, hi, rfl, HJ⟩ := hrel
    have HE := Lib.hid HJ.out.1
    have HBW := Lib.hid HJ.out.2
    clear HJ
    by_cases hlt : i < p.x.B.length
    · have hii : (i : Int) < (p.x.B.length : Int) := by omega
      have HPW := Lib.hid (HP.out.below (HB1.out.then HBW.out))
      obtain ⟨bb, oo, ha, -, hc⟩ := int_at HPW.out.b hlt
      have HX : Hid (D = if p.x.B[i] ≤ at_ ∧ at_ < Pn.endN p.x i then (i : Int) else Pn.ofF p.x at_ (i + 1) (p.x.B.length - (i + 1))) := by
        show _ = _
        rw [← HE.out, show p.x.B.length - i = p.x.B.length - (i + 1) + 1 by omega, Pn.ofF_drop, Pn.b_get hlt]
      have h2 := HH.out.below HBW.out
      rw [ha]
      clear ha
      generalize p.x.B[i] = bi at hc HX
      by_cases h1 : bi ≤ at_
      · obtain ⟨e0, e1, e2, e3, e4, e5, e6, e7, e8⟩ := Blk.qp9 (Blk.qp90 h2)
        clear h2
        go_wp2_with fail
        refine (show Calls _ _ #[p.v, _] _ _ from plend_any wr p HPW.out i (by omega)).mono ?_
        rintro e W3 ⟨rfl, hB3⟩
        have HB3 := Lib.hid (HBW.out.then hB3)
        clear hB3 hc e0 e1 e2 e3 e4 e5 e6 e7 e8
        by_cases h2 : at_ < Pn.endN p.x i
        · have HF : Hid (D = (i : Int)) := by show _ = _; rw [HX.out, if_pos ⟨h1, h2⟩]
          go_wp2_with fail
          go_ret
          exact ⟨by rw [HF.out]; rfl, HB1.out.then HB3.out⟩
        · have HF : Hid (Pn.ofF p.x at_ (i + 1) (p.x.B.length - (i + 1)) = D) := by show _ = _; rw [HX.out, if_neg (fun h => h2 h.2)]
          go_wp2_with fail
          go_roundw
          case rel => exact ⟨i + 1, by omega, by go_num, HF.out, HB3.out⟩
          case measure => simp [intOf]; omega
      · have HF : Hid (Pn.ofF p.x at_ (i + 1) (p.x.B.length - (i + 1)) = D) := by show _ = _; rw [HX.out, if_neg (fun h => h1 h.1)]
        clear h2
        go_wp2_with fail
        go_roundw
        case rel => exact ⟨i + 1, by omega, by go_num, HF.out, HBW.out⟩
        case measure => simp [intOf]; omega
    · have hii : ¬ (i : Int) < (p.x.B.length : Int) := by omega
      have HF : Hid (D = -1) := by show _ = _; rw [← HE.out, show p.x.B.length - i = 0 by omega]; rfl
      go_wp2_with fail
      go_ret
      exact ⟨by rw [HF.out]; rfl, HB1.out.then HBW.out⟩
end Go.Proofs.YtpahkaffknnjhaaGreatDoor
end

section
/-
  The contracts of asks, Orders, sorts and may.
-/
namespace Go.Proofs.YtpahkaffknnjhaaGreatDoor
set_option linter.unusedSimpArgs false
set_option linter.unusedVariables false
open Go.RowKit

namespace Pn
theorem foldl_orP_lt : ∀ (l : List (Nat × Bool)) (y : Nat × Bool), y.1 < 16 → (∀ z ∈ l, z.1 < 16) → (l.foldl orP y).1 < 16
  | [], _, h, _ => h
  | z :: l, y, h, hl => foldl_orP_lt l (orP y z) (or16 _ h _ (hl z List.mem_cons_self)) (fun u hu => hl u (List.mem_cons_of_mem _ hu))
theorem pow_lt16 {f : Int} (h0 : 0 ≤ f) (h : f < 4) : 2 ^ f.toNat < 16 := by
  have : f = 0 ∨ f = 1 ∨ f = 2 ∨ f = 3 := by omega
  rcases this with rfl | rfl | rfl | rfl <;> decide
theorem asksK_lt {x : PX} (hB : x.B.length ≤ 4) {k at_ : Int} {l : List (Nat × Bool)} (hl : ∀ z ∈ l, z.1 < 16) : (asksK x k at_ l).1 < 16 := by
  unfold asksK
  split
  · split
    · show 0 < 16; decide
    · have := ofT_le x at_
      exact foldl_orP_lt _ _ (pow_lt16 (by omega) (by omega)) hl
  · exact foldl_orP_lt _ _ (by show 0 < 16; decide) hl
mutual
theorem asks_lt {x : PX} (hB : x.B.length ≤ 4) : ∀ n : Nd, (asks x n).1 < 16
  | .mk _ _ _ _ _ _ _ args _ => asksK_lt hB (asksL_lt hB args)
theorem asksL_lt {x : PX} (hB : x.B.length ≤ 4) : ∀ l : List Nd, ∀ y ∈ asksL x l, y.1 < 16
  | [], y, h => by cases h
  | n :: l, y, h => by
    rcases List.mem_cons.1 h with h | h
    · rw [h]; exact asks_lt hB n
    · exact asksL_lt hB l y h
end
theorem asks_drop (x : PX) (L : List Nd) (i : Nat) (h : i < L.length) (y : Nat × Bool) : (asksL x (L.drop i)).foldl orP y = (asksL x (L.drop (i + 1))).foldl orP (orP y (asks x L[i])) := by
  rw [List.drop_eq_getElem_cons h]; rfl
end Pn
/-- What asks answers. -/
def RetAsk (w : World) (y : Nat × Bool) (e : Ending) (w' : World) : Prop := e = .returned (.tuple #[.int .u8 y.1, .bool y.2]) ∧ Below w.heap.size w w'
def AsksTo (w : World) (p : Qp) (n : Nd) : Prop := ∀ W, Below w.heap.size w W → Calls Tryz.prog 182 #[p.v, n.v] W (RetAsk W (Pn.asks p.x n))
set_option maxRecDepth 20000 in
set_option maxHeartbeats 4000000 in
theorem plasks_any (w : World) (p : Qp) (hp : QpIn w p) (hB4 : p.x.B.length ≤ 4) (n : Nd) (hn : NodeIn w n) : AsksTo w p n := by
  induction hn with
  | @mk n hr hin hlit hls hk hat hc hm ih =>
  have HR := Lib.hid hr
  have HI := Lib.hid ih
  have HP := Lib.hid hp
  have hcm : n.args.length ≤ 9223372036854775807 := by unfold maxLen at hm; omega
  clear hp hr hin hlit hls hk hat hc hm ih
  intro W hB
  have HBO := Lib.hid hB
  clear hB
  obtain ⟨D, hD⟩ : ∃ D, Pn.asks p.x n = D := ⟨_, rfl⟩
  have HD : Hid (Pn.asksK p.x n.k n.at_ (Pn.asksL p.x n.args) = D) := by show _ = _; rw [← hD, Pn.asks_eq]
  rw [hD]
  clear hD
  go_enter Tryz.func182, Tryz.ntmps182
  go_upto_region 2 with (first | (refine wpList_box_qp rfl (.tmp 0) rfl p rfl ?_; intro W1 hb1 hz1 hB1) | (refine wpList_box_nd rfl (.tmp 1) rfl n rfl ?_; intro W2 hb2 hz2 hB2))
  have hb12 := hb1.below hB2
  have HB2 := Lib.hid (hB1.then hB2)
  clear hb1 hB1 hB2 hz2 hz1
  obtain ⟨g2, hg2⟩ : ∃ g, W.heap.size = g := ⟨_, rfl⟩
  have HQ : Hid (Blk W2 g2 26 p.cells) := by show Blk _ _ _ _; rw [← hg2]; exact hb12
  rw [hg2]
  generalize W1.heap.size = g3 at hb2 ⊢
  have HNB := Lib.hid hb2
  obtain ⟨c0, -, -, -, -, -, c6, -, -, c9, -⟩ := Blk.c10 hb2
  clear hg2 hb12
  have HQQ : Hid (Below W2.heap.size W2 W2) := Below.refl _ _
  by_cases hk : n.k = 2
  · have hkb : (n.k == 2) = true := by simpa using hk
    have HDK : Hid ((if Pn.ofT p.x n.at_ < 0 then (0, true) else (Pn.asksL p.x n.args).foldl Pn.orP (2 ^ (Pn.ofT p.x n.at_).toNat, false)) = D) := by
      show _ = _
      rw [← HD.out]
      unfold Pn.asksK
      rw [if_pos hk]
    clear hk HD hb2 c9
    go_wp2_with (refine wpList_load_qp0 rfl (.tmp 2) rfl g2 rfl HQ.out ?_)
    refine (plof_any W2 p (HP.out.below (HBO.out.then HB2.out)) n.at_).mono ?_
    rintro e W3 ⟨rfl, hB3⟩
    have HB3 := Lib.hid (HB2.out.then hB3)
    have HQ3 := Lib.hid hB3
    obtain ⟨-, -, -, -, -, -, -, -, -, c9, -⟩ := Blk.c10 (HNB.out.below hB3)
    have hof := Pn.ofT_le p.x n.at_
    clear hB3 c0 c6
    generalize Pn.ofT p.x n.at_ = f at HDK hof ⊢
    by_cases hf : f < 0
    · have HF : Hid (D = (0, true)) := by show _ = _; rw [← HDK.out, if_pos hf]
      go_wp2_with fail
      go_ret2
      exact ⟨by rw [HF.out]; rfl, HB3.out⟩
    · have HD0 : Hid ((Pn.asksL p.x n.args).foldl Pn.orP (2 ^ f.toNat, false) = D) := by show _ = _; rw [← HDK.out, if_neg hf]
      have hfc : f = 0 ∨ f = 1 ∨ f = 2 ∨ f = 3 := by omega
      clear hof hf HDK
      rcases hfc with rfl | rfl | rfl | rfl
      · have HDX : Hid ((Pn.asksL p.x (n.args.drop 0)).foldl Pn.orP (1, false) = D) := by show _ = _; rw [← HD0.out]; rfl
        clear HD0
        go_upto_region 8 with fail
        clear c9
        -- the loop over the parts, from mask 1 on; HDX: it comes to D; (by omega): the mask is small; in world W3, since W: HB3
        go_loopw [6, 7, 27] (fun mv ov iv wr => ∃ (i m : Nat) (o : Bool), i ≤ n.args.length ∧ mv = .int .u8 (m : Nat) ∧ ov = .bool o ∧ iv = .int .i64 (i : Int) ∧ m < 16 ∧ Hid ((Pn.asksL p.x (n.args.drop i)).foldl Pn.orP (m, o) = D ∧ Below W3.heap.size W3 wr)) (fun _ _ iv _ => n.args.length - (intOf iv).toNat)
        case atStart => exact ⟨0, 1, false, Nat.zero_le _, by go_num, rfl, by go_num, (by omega), HDX.out, Below.refl _ _⟩
        case round =>
          obtain ⟨i, m, o, hi, rfl, rfl, rfl, hm, HJ⟩ := hrel
          have HD2 := Lib.hid HJ.out.1
          have HBW := Lib.hid HJ.out.2
          have HBV : Hid (Below W.heap.size W wr) := HB3.out.then HBW.out
          clear HJ
          by_cases hlt : i < n.args.length
          · have hii : (i : Int) < (n.args.length : Int) := by omega
            obtain ⟨bb, oo, ha, -, -⟩ := HR.out.at_ hlt
            have HIW : Hid (ERow eNd wr (some ⟨bb, oo, none⟩) n.args) := by show ERow _ _ _ _; rw [← ha]; exact HR.out.below (HBO.out.then HBV.out)
            obtain ⟨a, hna⟩ : ∃ a, n.args[i] = a := ⟨_, rfl⟩
            have HNA := Lib.hid hna
            have HIA := Lib.hid (HI.out a (by rw [← hna]; exact List.getElem_mem hlt))
            have HX : Hid ((Pn.asksL p.x (n.args.drop (i + 1))).foldl Pn.orP (m ||| (Pn.asks p.x a).1, o || (Pn.asks p.x a).2) = D) := by show _ = _; rw [← HD2.out, Pn.asks_drop p.x n.args i hlt, hna]; rfl
            have hal := Pn.asks_lt hB4 a
            rw [ha]
            clear ha hna
            go_upto_region 10 with (first | (refine wpList_load_nd_is rfl (.tmp 29) rfl HIW.out hlt a HNA.out rfl ?_) | (refine wpList_alloc_nd rfl rfl ?_; intro W6 hb6 hz6 hB6) | (refine wpList_store_nd rfl rfl (.tmp 10) (.tmp 30) rfl wr.heap.size rfl a rfl hb6 ?_; intro W7 hb7 hg7))
            have HB7 := Lib.hid (below_of_grown (HBW.out.then hB6) hg7 HBW.out.size (Nat.le_trans HBW.out.size hB6.size))
            clear hb6 hz6 hB6 hg7 HIW HNA
            have h27 := HQ.out.below (HQ3.out.then HB7.out)
            generalize wr.heap.size = g10 at hb7 ⊢
            go_wp2_with (first | (refine wpList_load_qp0 rfl (.tmp 2) rfl g2 rfl h27 ?_) | (refine wpList_load_nd rfl (.tmp 10) rfl g10 rfl hb7 ?_))
            refine (HIA.out W7 (HBO.out.then (HB3.out.then HB7.out))).mono ?_
            rintro e W8 ⟨rfl, hB8⟩
            have HB8 := Lib.hid (HB7.out.then hB8)
            have ho8 := or8 m hm _ hal
            clear hB8 hb7 h27
            generalize (Pn.asks p.x a).1 = am at HX hal ho8 ⊢
            generalize (Pn.asks p.x a).2 = ao at HX ⊢
            cases o with
            | true =>
              have HF9 : Hid ((Pn.asksL p.x (n.args.drop (i + 1))).foldl Pn.orP (m ||| am, true) = D) := by show _ = _; rw [← HX.out]; rfl
              go_wp2_with fail
              go_roundw
              case rel => exact ⟨i + 1, m ||| am, true, by omega, by go_num, rfl, by go_num, or16 m hm am hal, HF9.out, HB8.out⟩
              case measure => simp [intOf]; omega
            | false =>
              have HF9 : Hid ((Pn.asksL p.x (n.args.drop (i + 1))).foldl Pn.orP (m ||| am, ao) = D) := by show _ = _; rw [← HX.out]; rfl
              go_wp2_with fail
              go_roundw
              case rel => exact ⟨i + 1, m ||| am, ao, by omega, by go_num, rfl, by go_num, or16 m hm am hal, HF9.out, HB8.out⟩
              case measure => simp [intOf]; omega
          · have hii : ¬ (i : Int) < (n.args.length : Int) := by omega
            have HF : Hid (D = (m, o)) := by show _ = _; rw [← HD2.out, List.drop_eq_nil_of_le (by omega)]; rfl
            go_wp2_with fail
            go_ret2
            exact ⟨by rw [HF.out]; rfl, HBV.out⟩
      · have HDX : Hid ((Pn.asksL p.x (n.args.drop 0)).foldl Pn.orP (2, false) = D) := by show _ = _; rw [← HD0.out]; rfl
        clear HD0
        go_upto_region 8 with fail
        clear c9
        -- the loop over the parts, from mask 2 on; HDX: it comes to D; (by omega): the mask is small; in world W3, since W: HB3
        go_loopw [6, 7, 27] (fun mv ov iv wr => ∃ (i m : Nat) (o : Bool), i ≤ n.args.length ∧ mv = .int .u8 (m : Nat) ∧ ov = .bool o ∧ iv = .int .i64 (i : Int) ∧ m < 16 ∧ Hid ((Pn.asksL p.x (n.args.drop i)).foldl Pn.orP (m, o) = D ∧ Below W3.heap.size W3 wr)) (fun _ _ iv _ => n.args.length - (intOf iv).toNat)
        case atStart => exact ⟨0, 2, false, Nat.zero_le _, by go_num, rfl, by go_num, (by omega), HDX.out, Below.refl _ _⟩
        case round =>
          obtain ⟨i, m, o, hi, rfl, rfl, rfl, hm, HJ⟩ := hrel
          have HD2 := Lib.hid HJ.out.1
          have HBW := Lib.hid HJ.out.2
          have HBV : Hid (Below W.heap.size W wr) := HB3.out.then HBW.out
          clear HJ
          by_cases hlt : i < n.args.length
          · have hii : (i : Int) < (n.args.length : Int) := by omega
            obtain ⟨bb, oo, ha, -, -⟩ := HR.out.at_ hlt
            have HIW : Hid (ERow eNd wr (some ⟨bb, oo, none⟩) n.args) := by show ERow _ _ _ _; rw [← ha]; exact HR.out.below (HBO.out.then HBV.out)
            obtain ⟨a, hna⟩ : ∃ a, n.args[i] = a := ⟨_, rfl⟩
            have HNA := Lib.hid hna
            have HIA := Lib.hid (HI.out a (by rw [← hna]; exact List.getElem_mem hlt))
            have HX : Hid ((Pn.asksL p.x (n.args.drop (i + 1))).foldl Pn.orP (m ||| (Pn.asks p.x a).1, o || (Pn.asks p.x a).2) = D) := by show _ = _; rw [← HD2.out, Pn.asks_drop p.x n.args i hlt, hna]; rfl
            have hal := Pn.asks_lt hB4 a
            rw [ha]
            clear ha hna
            go_upto_region 10 with (first | (refine wpList_load_nd_is rfl (.tmp 29) rfl HIW.out hlt a HNA.out rfl ?_) | (refine wpList_alloc_nd rfl rfl ?_; intro W6 hb6 hz6 hB6) | (refine wpList_store_nd rfl rfl (.tmp 10) (.tmp 30) rfl wr.heap.size rfl a rfl hb6 ?_; intro W7 hb7 hg7))
            have HB7 := Lib.hid (below_of_grown (HBW.out.then hB6) hg7 HBW.out.size (Nat.le_trans HBW.out.size hB6.size))
            clear hb6 hz6 hB6 hg7 HIW HNA
            have h27 := HQ.out.below (HQ3.out.then HB7.out)
            generalize wr.heap.size = g10 at hb7 ⊢
            go_wp2_with (first | (refine wpList_load_qp0 rfl (.tmp 2) rfl g2 rfl h27 ?_) | (refine wpList_load_nd rfl (.tmp 10) rfl g10 rfl hb7 ?_))
            refine (HIA.out W7 (HBO.out.then (HB3.out.then HB7.out))).mono ?_
            rintro e W8 ⟨rfl, hB8⟩
            have HB8 := Lib.hid (HB7.out.then hB8)
            have ho8 := or8 m hm _ hal
            clear hB8 hb7 h27
            generalize (Pn.asks p.x a).1 = am at HX hal ho8 ⊢
            generalize (Pn.asks p.x a).2 = ao at HX ⊢
            cases o with
            | true =>
              have HF9 : Hid ((Pn.asksL p.x (n.args.drop (i + 1))).foldl Pn.orP (m ||| am, true) = D) := by show _ = _; rw [← HX.out]; rfl
              go_wp2_with fail
              go_roundw
              case rel => exact ⟨i + 1, m ||| am, true, by omega, by go_num, rfl, by go_num, or16 m hm am hal, HF9.out, HB8.out⟩
              case measure => simp [intOf]; omega
            | false =>
              have HF9 : Hid ((Pn.asksL p.x (n.args.drop (i + 1))).foldl Pn.orP (m ||| am, ao) = D) := by show _ = _; rw [← HX.out]; rfl
              go_wp2_with fail
              go_roundw
              case rel => exact ⟨i + 1, m ||| am, ao, by omega, by go_num, rfl, by go_num, or16 m hm am hal, HF9.out, HB8.out⟩
              case measure => simp [intOf]; omega
          · have hii : ¬ (i : Int) < (n.args.length : Int) := by omega
            have HF : Hid (D = (m, o)) := by show _ = _; rw [← HD2.out, List.drop_eq_nil_of_le (by omega)]; rfl
            go_wp2_with fail
            go_ret2
            exact ⟨by rw [HF.out]; rfl, HBV.out⟩
      · have HDX : Hid ((Pn.asksL p.x (n.args.drop 0)).foldl Pn.orP (4, false) = D) := by show _ = _; rw [← HD0.out]; rfl
        clear HD0
        go_upto_region 8 with fail
        clear c9
        -- the loop over the parts, from mask 4 on; HDX: it comes to D; (by omega): the mask is small; in world W3, since W: HB3
        go_loopw [6, 7, 27] (fun mv ov iv wr => ∃ (i m : Nat) (o : Bool), i ≤ n.args.length ∧ mv = .int .u8 (m : Nat) ∧ ov = .bool o ∧ iv = .int .i64 (i : Int) ∧ m < 16 ∧ Hid ((Pn.asksL p.x (n.args.drop i)).foldl Pn.orP (m, o) = D ∧ Below W3.heap.size W3 wr)) (fun _ _ iv _ => n.args.length - (intOf iv).toNat)
        case atStart => exact ⟨0, 4, false, Nat.zero_le _, by go_num, rfl, by go_num, (by omega), HDX.out, Below.refl _ _⟩
        case round =>
          obtain ⟨i, m, o, hi, rfl, rfl, rfl, hm, HJ⟩ := hrel
          have HD2 := Lib.hid HJ.out.1
          have HBW := Lib.hid HJ.out.2
          have HBV : Hid (Below W.heap.size W wr) := HB3.out.then HBW.out
          clear HJ
          by_cases hlt : i < n.args.length
          · have hii : (i : Int) < (n.args.length : Int) := by omega
            obtain ⟨bb, oo, ha, -, -⟩ := HR.out.at_ hlt
            have HIW : Hid (ERow eNd wr (some ⟨bb, oo, none⟩) n.args) := by show ERow _ _ _ _; rw [← ha]; exact HR.out.below (HBO.out.then HBV.out)
            obtain ⟨a, hna⟩ : ∃ a, n.args[i] = a := ⟨_, rfl⟩
            have HNA := Lib.hid hna
            have HIA := Lib.hid (HI.out a (by rw [← hna]; exact List.getElem_mem hlt))
            have HX : Hid ((Pn.asksL p.x (n.args.drop (i + 1))).foldl Pn.orP (m ||| (Pn.asks p.x a).1, o || (Pn.asks p.x a).2) = D) := by show _ = _; rw [← HD2.out, Pn.asks_drop p.x n.args i hlt, hna]; rfl
            have hal := Pn.asks_lt hB4 a
            rw [ha]
            clear ha hna
            go_upto_region 10 with (first | (refine wpList_load_nd_is rfl (.tmp 29) rfl HIW.out hlt a HNA.out rfl ?_) | (refine wpList_alloc_nd rfl rfl ?_; intro W6 hb6 hz6 hB6) | (refine wpList_store_nd rfl rfl (.tmp 10) (.tmp 30) rfl wr.heap.size rfl a rfl hb6 ?_; intro W7 hb7 hg7))
            have HB7 := Lib.hid (below_of_grown (HBW.out.then hB6) hg7 HBW.out.size (Nat.le_trans HBW.out.size hB6.size))
            clear hb6 hz6 hB6 hg7 HIW HNA
            have h27 := HQ.out.below (HQ3.out.then HB7.out)
            generalize wr.heap.size = g10 at hb7 ⊢
            go_wp2_with (first | (refine wpList_load_qp0 rfl (.tmp 2) rfl g2 rfl h27 ?_) | (refine wpList_load_nd rfl (.tmp 10) rfl g10 rfl hb7 ?_))
            refine (HIA.out W7 (HBO.out.then (HB3.out.then HB7.out))).mono ?_
            rintro e W8 ⟨rfl, hB8⟩
            have HB8 := Lib.hid (HB7.out.then hB8)
            have ho8 := or8 m hm _ hal
            clear hB8 hb7 h27
            generalize (Pn.asks p.x a).1 = am at HX hal ho8 ⊢
            generalize (Pn.asks p.x a).2 = ao at HX ⊢
            cases o with
            | true =>
              have HF9 : Hid ((Pn.asksL p.x (n.args.drop (i + 1))).foldl Pn.orP (m ||| am, true) = D) := by show _ = _; rw [← HX.out]; rfl
              go_wp2_with fail
              go_roundw
              case rel => exact ⟨i + 1, m ||| am, true, by omega, by go_num, rfl, by go_num, or16 m hm am hal, HF9.out, HB8.out⟩
              case measure => simp [intOf]; omega
            | false =>
              have HF9 : Hid ((Pn.asksL p.x (n.args.drop (i + 1))).foldl Pn.orP (m ||| am, ao) = D) := by show _ = _; rw [← HX.out]; rfl
              go_wp2_with fail
              go_roundw
              case rel => exact ⟨i + 1, m ||| am, ao, by omega, by go_num, rfl, by go_num, or16 m hm am hal, HF9.out, HB8.out⟩
              case measure => simp [intOf]; omega
          · have hii : ¬ (i : Int) < (n.args.length : Int) := by omega
            have HF : Hid (D = (m, o)) := by show _ = _; rw [← HD2.out, List.drop_eq_nil_of_le (by omega)]; rfl
            go_wp2_with fail
            go_ret2
            exact ⟨by rw [HF.out]; rfl, HBV.out⟩
      · have HDX : Hid ((Pn.asksL p.x (n.args.drop 0)).foldl Pn.orP (8, false) = D) := by show _ = _; rw [← HD0.out]; rfl
        clear HD0
        go_upto_region 8 with fail
        clear c9
        -- the loop over the parts, from mask 8 on; HDX: it comes to D; (by omega): the mask is small; in world W3, since W: HB3
        go_loopw [6, 7, 27] (fun mv ov iv wr => ∃ (i m : Nat) (o : Bool), i ≤ n.args.length ∧ mv = .int .u8 (m : Nat) ∧ ov = .bool o ∧ iv = .int .i64 (i : Int) ∧ m < 16 ∧ Hid ((Pn.asksL p.x (n.args.drop i)).foldl Pn.orP (m, o) = D ∧ Below W3.heap.size W3 wr)) (fun _ _ iv _ => n.args.length - (intOf iv).toNat)
        case atStart => exact ⟨0, 8, false, Nat.zero_le _, by go_num, rfl, by go_num, (by omega), HDX.out, Below.refl _ _⟩
        case round =>
          obtain ⟨i, m, o, hi, rfl, rfl, rfl, hm, HJ⟩ := hrel
          have HD2 := Lib.hid HJ.out.1
          have HBW := Lib.hid HJ.out.2
          have HBV : Hid (Below W.heap.size W wr) := HB3.out.then HBW.out
          clear HJ
          by_cases hlt : i < n.args.length
          · have hii : (i : Int) < (n.args.length : Int) := by omega
            obtain ⟨bb, oo, ha, -, -⟩ := HR.out.at_ hlt
            have HIW : Hid (ERow eNd wr (some ⟨bb, oo, none⟩) n.args) := by show ERow _ _ _ _; rw [← ha]; exact HR.out.below (HBO.out.then HBV.out)
            obtain ⟨a, hna⟩ : ∃ a, n.args[i] = a := ⟨_, rfl⟩
            have HNA := Lib.hid hna
            have HIA := Lib.hid (HI.out a (by rw [← hna]; exact List.getElem_mem hlt))
            have HX : Hid ((Pn.asksL p.x (n.args.drop (i + 1))).foldl Pn.orP (m ||| (Pn.asks p.x a).1, o || (Pn.asks p.x a).2) = D) := by show _ = _; rw [← HD2.out, Pn.asks_drop p.x n.args i hlt, hna]; rfl
            have hal := Pn.asks_lt hB4 a
            rw [ha]
            clear ha hna
            go_upto_region 10 with (first | (refine wpList_load_nd_is rfl (.tmp 29) rfl HIW.out hlt a HNA.out rfl ?_) | (refine wpList_alloc_nd rfl rfl ?_; intro W6 hb6 hz6 hB6) | (refine wpList_store_nd rfl rfl (.tmp 10) (.tmp 30) rfl wr.heap.size rfl a rfl hb6 ?_; intro W7 hb7 hg7))
            have HB7 := Lib.hid (below_of_grown (HBW.out.then hB6) hg7 HBW.out.size (Nat.le_trans HBW.out.size hB6.size))
            clear hb6 hz6 hB6 hg7 HIW HNA
            have h27 := HQ.out.below (HQ3.out.then HB7.out)
            generalize wr.heap.size = g10 at hb7 ⊢
            go_wp2_with (first | (refine wpList_load_qp0 rfl (.tmp 2) rfl g2 rfl h27 ?_) | (refine wpList_load_nd rfl (.tmp 10) rfl g10 rfl hb7 ?_))
            refine (HIA.out W7 (HBO.out.then (HB3.out.then HB7.out))).mono ?_
            rintro e W8 ⟨rfl, hB8⟩
            have HB8 := Lib.hid (HB7.out.then hB8)
            have ho8 := or8 m hm _ hal
            clear hB8 hb7 h27
            generalize (Pn.asks p.x a).1 = am at HX hal ho8 ⊢
            generalize (Pn.asks p.x a).2 = ao at HX ⊢
            cases o with
            | true =>
              have HF9 : Hid ((Pn.asksL p.x (n.args.drop (i + 1))).foldl Pn.orP (m ||| am, true) = D) := by show _ = _; rw [← HX.out]; rfl
              go_wp2_with fail
              go_roundw
              case rel => exact ⟨i + 1, m ||| am, true, by omega, by go_num, rfl, by go_num, or16 m hm am hal, HF9.out, HB8.out⟩
              case measure => simp [intOf]; omega
            | false =>
              have HF9 : Hid ((Pn.asksL p.x (n.args.drop (i + 1))).foldl Pn.orP (m ||| am, ao) = D) := by show _ = _; rw [← HX.out]; rfl
              go_wp2_with fail
              go_roundw
              case rel => exact ⟨i + 1, m ||| am, ao, by omega, by go_num, rfl, by go_num, or16 m hm am hal, HF9.out, HB8.out⟩
              case measure => simp [intOf]; omega
          · have hii : ¬ (i : Int) < (n.args.length : Int) := by omega
            have HF : Hid (D = (m, o)) := by show _ = _; rw [← HD2.out, List.drop_eq_nil_of_le (by omega)]; rfl
            go_wp2_with fail
            go_ret2
            exact ⟨by rw [HF.out]; rfl, HBV.out⟩
  · have hkb : (n.k == 2) = false := by simpa using hk
    have HDX : Hid ((Pn.asksL p.x (n.args.drop 0)).foldl Pn.orP (0, false) = D) := by
      show _ = _
      rw [← HD.out]
      unfold Pn.asksK
      rw [if_neg hk]
      rfl
    clear hk HD hb2 c6
    go_upto_region 8 with fail
    clear c0 c9
    -- the loop over the parts, from mask 0 on; HDX: it comes to D; (by omega): the mask is small; in world W2, since W: HB2
    go_loopw [6, 7, 27] (fun mv ov iv wr => ∃ (i m : Nat) (o : Bool), i ≤ n.args.length ∧ mv = .int .u8 (m : Nat) ∧ ov = .bool o ∧ iv = .int .i64 (i : Int) ∧ m < 16 ∧ Hid ((Pn.asksL p.x (n.args.drop i)).foldl Pn.orP (m, o) = D ∧ Below W2.heap.size W2 wr)) (fun _ _ iv _ => n.args.length - (intOf iv).toNat)
    case atStart => exact ⟨0, 0, false, Nat.zero_le _, by go_num, rfl, by go_num, (by omega), HDX.out, Below.refl _ _⟩
    case round =>
      obtain ⟨i, m, o, hi, rfl, rfl, rfl, hm, HJ⟩ := hrel
      have HD2 := Lib.hid HJ.out.1
      have HBW := Lib.hid HJ.out.2
      have HBV : Hid (Below W.heap.size W wr) := HB2.out.then HBW.out
      clear HJ
      by_cases hlt : i < n.args.length
      · have hii : (i : Int) < (n.args.length : Int) := by omega
        obtain ⟨bb, oo, ha, -, -⟩ := HR.out.at_ hlt
        have HIW : Hid (ERow eNd wr (some ⟨bb, oo, none⟩) n.args) := by show ERow _ _ _ _; rw [← ha]; exact HR.out.below (HBO.out.then HBV.out)
        obtain ⟨a, hna⟩ : ∃ a, n.args[i] = a := ⟨_, rfl⟩
        have HNA := Lib.hid hna
        have HIA := Lib.hid (HI.out a (by rw [← hna]; exact List.getElem_mem hlt))
        have HX : Hid ((Pn.asksL p.x (n.args.drop (i + 1))).foldl Pn.orP (m ||| (Pn.asks p.x a).1, o || (Pn.asks p.x a).2) = D) := by show _ = _; rw [← HD2.out, Pn.asks_drop p.x n.args i hlt, hna]; rfl
        have hal := Pn.asks_lt hB4 a
        rw [ha]
        clear ha hna
        go_upto_region 10 with (first | (refine wpList_load_nd_is rfl (.tmp 29) rfl HIW.out hlt a HNA.out rfl ?_) | (refine wpList_alloc_nd rfl rfl ?_; intro W6 hb6 hz6 hB6) | (refine wpList_store_nd rfl rfl (.tmp 10) (.tmp 30) rfl wr.heap.size rfl a rfl hb6 ?_; intro W7 hb7 hg7))
        have HB7 := Lib.hid (below_of_grown (HBW.out.then hB6) hg7 HBW.out.size (Nat.le_trans HBW.out.size hB6.size))
        clear hb6 hz6 hB6 hg7 HIW HNA
        have h27 := HQ.out.below (HQQ.out.then HB7.out)
        generalize wr.heap.size = g10 at hb7 ⊢
        go_wp2_with (first | (refine wpList_load_qp0 rfl (.tmp 2) rfl g2 rfl h27 ?_) | (refine wpList_load_nd rfl (.tmp 10) rfl g10 rfl hb7 ?_))
        refine (HIA.out W7 (HBO.out.then (HB2.out.then HB7.out))).mono ?_
        rintro e W8 ⟨rfl, hB8⟩
        have HB8 := Lib.hid (HB7.out.then hB8)
        have ho8 := or8 m hm _ hal
        clear hB8 hb7 h27
        generalize (Pn.asks p.x a).1 = am at HX hal ho8 ⊢
        generalize (Pn.asks p.x a).2 = ao at HX ⊢
        cases o with
        | true =>
          have HF9 : Hid ((Pn.asksL p.x (n.args.drop (i + 1))).foldl Pn.orP (m ||| am, true) = D) := by show _ = _; rw [← HX.out]; rfl
          go_wp2_with fail
          go_roundw
          case rel => exact ⟨i + 1, m ||| am, true, by omega, by go_num, rfl, by go_num, or16 m hm am hal, HF9.out, HB8.out⟩
          case measure => simp [intOf]; omega
        | false =>
          have HF9 : Hid ((Pn.asksL p.x (n.args.drop (i + 1))).foldl Pn.orP (m ||| am, ao) = D) := by show _ = _; rw [← HX.out]; rfl
          go_wp2_with fail
          go_roundw
          case rel => exact ⟨i + 1, m ||| am, ao, by omega, by go_num, rfl, by go_num, or16 m hm am hal, HF9.out, HB8.out⟩
          case measure => simp [intOf]; omega
      · have hii : ¬ (i : Int) < (n.args.length : Int) := by omega
        have HF : Hid (D = (m, o)) := by show _ = _; rw [← HD2.out, List.drop_eq_nil_of_le (by omega)]; rfl
        go_wp2_with fail
        go_ret2
        exact ⟨by rw [HF.out]; rfl, HBV.out⟩
end Go.Proofs.YtpahkaffknnjhaaGreatDoor
end

section
/-
  The contracts of Orders, sorts and may.
-/
namespace Go.Proofs.YtpahkaffknnjhaaGreatDoor
set_option linter.unusedSimpArgs false
set_option linter.unusedVariables false
open Go.RowKit

section
variable {w : World} {ops : Array Oper} {rest : List Oper} {o : Oper} {a : Act} {Q : Exit → Act → World → Prop}
theorem so_zero (W : World) : (zeroValue 164).run Tryz.prog W = .ok (So.v ⟨0, false⟩) W := (zero_of_info (P := Tryz.prog) (t := 164) (v := So.v ⟨0, false⟩) (n := 2) (by kernel_rfl)).1 W
theorem so_info : (Tryz.prog.info? 164).map (·.size) = some 2 := by kernel_rfl
theorem wpList_alloc_so (hgd : o.guard = none) (hop : o.op = .alloc 164)
    (h : ∀ W, Blk W w.heap.size 164 [.int .i64 0, .bool false] → w.heap.size + 1 ≤ W.heap.size → Below w.heap.size w W → wpList Tryz.prog ops Q rest (a.put o.dst (.pointer (some ⟨w.heap.size, 0, none⟩))) W) : wpList Tryz.prog ops Q (o :: rest) a w :=
  wpList_alloc_z hgd 164 hop (so_zero _) fun W hW => by
    obtain ⟨h1, h2, h3⟩ := fresh1 (a := [.int .i64 0, .bool false]) hW
    exact h W h1 h2 h3
theorem wpList_store_so (hgd : o.guard = none) (hod : o.dst = none) (x y : Operand) (hop : o.op = .store 164 x y) (g : Nat) (hx : a.eval x = .pointer (some ⟨g, 0, none⟩)) (b : So) (hy : a.eval y = b.v) {T0 : TypeId} {u v : Value} (hb : Blk w g T0 [u, v])
    (h : ∀ W, Blk W g T0 b.cells → w.grownBy W (some g) → wpList Tryz.prog ops Q rest a W) : wpList Tryz.prog ops Q (o :: rest) a w :=
  wpList_store_blk hgd hod 164 x y hop g hx b.cells hy hb rfl so_info (eSo.one b) h
theorem wpList_load_so_at (hgd : o.guard = none) (x : Operand) (hop : o.op = .load 164 x) {b off : Nat} {L : List So} (hr : ERow eSo w (some ⟨b, off, none⟩) L) {j : Nat} (hj : j < L.length) (p : So) (hp : L[j] = p) (hx : a.eval x = .pointer (some ⟨b, off + j * 2, none⟩))
    (h : wpList Tryz.prog ops Q rest (a.put o.dst p.v) w) : wpList Tryz.prog ops Q (o :: rest) a w := by
  subst hp
  obtain ⟨b', off', e, hb, hrg⟩ := hr.range hj
  cases e
  exact wpList_load_mid hgd 164 x hop b (off + j * 2) hx L[j].cells _ hrg Tryz.underlying164 rfl so_info h
end
set_option maxRecDepth 20000 in
theorem plorders_any (w : World) (p : Qp) (hl : p.x.ord.length ≤ 1000000) : Calls Tryz.prog 107 #[p.v] w (RetBo w (Pn.orders p.x)) := by
  obtain ⟨D, hD⟩ : ∃ D, Pn.orders p.x = D := ⟨_, rfl⟩
  have HD : Hid ((!p.x.gr && !p.x.ord.isEmpty) = D) := hD
  rw [hD]
  clear hD
  go_enter Tryz.func107, Tryz.ntmps107
  go_upto_region 1 with (refine wpList_box_qp rfl (.tmp 0) rfl p rfl ?_; intro W1 hb1 hz1 hB1)
  have HB1 := Lib.hid hB1
  obtain ⟨-, -, -, -, c5, c7⟩ := Blk.qp hb1
  clear hB1 hz1 hb1
  generalize w.heap.size = g2 at c5 c7 ⊢
  cases hg : p.x.gr with
  | true =>
    have HF : Hid (D = false) := by show _ = _; rw [← HD.out, hg]; rfl
    rw [hg] at c5
    clear hg
    go_wp2_with fail
    go_ret
    exact ⟨by rw [HF.out]; rfl, HB1.out⟩
  | false =>
    have HF : Hid (D = decide (0 < p.x.ord.length)) := by
      show _ = _
      rw [← HD.out, hg]
      cases p.x.ord with
      | nil => rfl
      | cons s l => simp
    rw [hg] at c5
    clear hg
    go_wp2_with fail
    go_ret
    exact ⟨by rw [HF.out]; rfl, HB1.out⟩
namespace Pn
end Pn
set_option maxRecDepth 20000 in
set_option maxHeartbeats 4000000 in
theorem plmay_any (w : World) (p : Qp) (hp : QpIn w p) : Calls Tryz.prog 105 #[p.v] w (RetBo w (Pn.may p.x)) := by
  have HP := Lib.hid hp
  have htl := hp.tl
  have hbl := hp.bl
  obtain ⟨D, hD⟩ : ∃ D, Pn.may p.x = D := ⟨_, rfl⟩
  have HD := Lib.hid hD
  rw [hD]
  clear hp hD
  go_enter Tryz.func105, Tryz.ntmps105
  go_upto_region 1 with (refine wpList_box_qp rfl (.tmp 0) rfl p rfl ?_; intro W1 hb1 hz1 hB1)
  have HB1 := Lib.hid hB1
  obtain ⟨c0, c1, c2, -, -, -⟩ := Blk.qp hb1
  obtain ⟨g2, hg2⟩ : ∃ g, w.heap.size = g := ⟨_, rfl⟩
  have HQ : Hid (Blk W1 g2 26 p.cells) := by show Blk _ _ _ _; rw [← hg2]; exact hb1
  rw [hg2] at c0 c1 c2
  rw [hg2]
  clear hB1 hz1 hb1 hg2
  by_cases h1 : p.x.T.length < 1
  · have hi : (p.x.T.length : Int) < 1 := by omega
    have HF : Hid (D = false) := by
      show _ = _
      rw [← HD.out]
      unfold Pn.may Pn.may0
      simp [show ¬ 1 ≤ p.x.T.length by omega]
    go_wp2_with fail
    go_ret
    exact ⟨by rw [HF.out]; rfl, HB1.out⟩
  have i1 : ¬ (p.x.T.length : Int) < 1 := by omega
  by_cases h2 : 4 < p.x.T.length
  · have hi : (4 : Int) < (p.x.T.length : Int) := by omega
    have HF : Hid (D = false) := by
      show _ = _
      rw [← HD.out]
      unfold Pn.may Pn.may0
      simp [show ¬ p.x.T.length ≤ 4 by omega]
    go_wp2_with fail
    go_ret
    exact ⟨by rw [HF.out]; rfl, HB1.out⟩
  have i2 : ¬ (4 : Int) < (p.x.T.length : Int) := by omega
  by_cases h3 : p.x.B.length = p.x.T.length
  · have h3b : ((p.x.B.length : Int) != (p.x.T.length : Int)) = false := by simp [h3]
    obtain ⟨bb, oo, ha, -, hc⟩ := int_at (HP.out.b.below HB1.out) (i := 0) (by omega)
    have hi0 : (0 : Int) < (p.x.B.length : Int) := by omega
    obtain ⟨b0, hb0⟩ : ∃ b0, p.x.B[0] = b0 := ⟨_, rfl⟩
    have HB0 : Hid (Pn.b p.x 0 = b0) := by show _ = _; rw [← hb0, Pn.b_get]
    rw [hb0, Nat.add_zero] at hc
    rw [ha] at c1
    clear hb0 ha
    by_cases h4 : b0 = 0
    · have h4b : (b0 != 0) = false := by simp [h4]
      by_cases h5 : p.x.W ≤ (p.x.T.length : Int) * 6
      · have i5 : ¬ (p.x.T.length : Int) * 6 < p.x.W := by omega
        have HM : Hid (Pn.mayF p.x 0 p.x.T.length = D) := by
          show _ = _
          rw [← HD.out]
          unfold Pn.may Pn.may0
          simp [h2, h3, HB0.out, h4, h5]
          intro hc; omega
        have HLB := Lib.hid h3
        have hT4 : p.x.T.length ≤ 4 := by omega
        go_upto_region 5 with fail
        clear c0 c1 c2 hc h3b h4b i5 i1 i2 h1 h2 h4 h5 HB0 h3 hi0
        go_loopw [36] (fun iv wr => ∃ i : Nat, i ≤ p.x.T.length ∧ iv = .int .i64 (i : Int) ∧ Hid (Pn.mayF p.x i (p.x.T.length - i) = D ∧ Below W1.heap.size W1 wr)) (fun iv _ => p.x.T.length - (intOf iv).toNat)
        case atStart => exact ⟨0, Nat.zero_le _, by go_num, HM.out, Below.refl _ _⟩
        case round =>
          obtain ⟨i, hi, rfl, HJ⟩ := hrel
          have HE := Lib.hid HJ.out.1
          have HBW := Lib.hid HJ.out.2
          clear HJ
          by_cases hlt : i < p.x.T.length
          · have hii : (i : Int) < (p.x.T.length : Int) := by omega
            have HX : Hid ((decide (Pn.b p.x i < Pn.endN p.x i) && Pn.mayF p.x (i + 1) (p.x.T.length - (i + 1))) = D) := by
              show _ = _
              rw [← HE.out, show p.x.T.length - i = p.x.T.length - (i + 1) + 1 by omega]
              rfl
            have HBD : Hid (Below W1.heap.size W1 wr.drew) := HBW.out.drewR
            have HPW := Lib.hid (HP.out.below (HB1.out.then HBD.out))
            have h2 := HQ.out.below HBD.out
            have hiB : i < p.x.B.length := by rw [HLB.out]; exact hlt
            have HIB := Lib.hid hiB
            obtain ⟨bb2, oo2, ha2, hbl2, hc0⟩ := int_at HPW.out.b hiB
            have hc : wr.drew.cell? ⟨bb2, oo2 + i, none⟩ = some (.int .i64 (Pn.b p.x i)) := by rw [← Pn.b_get hiB]; exact hc0
            clear hc0
            have hbi : (i : Int) < (p.x.B.length : Int) := by omega
            obtain ⟨-, c1, -⟩ := Blk.qp h2
            rw [ha2] at c1
            go_upto_region 7 with fail
            refine wp_region_plan (.take 0 (.take 1 (.take 3 (.take 4 (.take 5 (.take 6 (.take 7 (.run 2 [3, 4, 5, 6, 7] (.take 8 .fin))))))))) (by kernel_rfl) (by kernel_rfl) (by kernel_rfl) (by kernel_rfl) ?_
            repeat' (first | (refine hZ _ _ ?_; clear hZ) | (refine hZ _ ?_; clear hZ) | (refine hZ ?_; clear hZ) | rw [again_nil] | rw [walk_fin] | ((first | rw [walk_take] | rw [walk_run] | rw [again_cons]); intro Z hZ; simp only [sel, List.getElem?_toArray, List.getElem?_cons_zero, List.getElem?_cons_succ]; go_wp2_with (refine wpList_load_qp0 rfl (.tmp 1) rfl g2 rfl h2 ?_)))
            refine (plend_any wr.drew p HPW.out i (by omega)).mono ?_
            rintro e W3 ⟨rfl, hB3⟩
            replace c1 := cell_later hB3 c1
            replace hc := cell_later hB3 hc
            have HB3 := Lib.hid (HBD.out.then hB3)
            clear hB3 h2 ha2 hbl2
            by_cases hlte : Pn.b p.x i < Pn.endN p.x i
            · have hle : ¬ Pn.endN p.x i ≤ Pn.b p.x i := by omega
              have HF : Hid (Pn.mayF p.x (i + 1) (p.x.T.length - (i + 1)) = D) := by show _ = _; rw [← HX.out, decide_eq_true hlte]; rfl
              go_wp2_with fail
              repeat' (first | (refine hZ _ _ ?_; clear hZ) | (refine hZ _ ?_; clear hZ) | (refine hZ ?_; clear hZ) | rw [again_nil] | rw [walk_fin] | ((first | rw [walk_take] | rw [walk_run] | rw [again_cons]); intro Z hZ; simp only [sel, List.getElem?_toArray, List.getElem?_cons_zero, List.getElem?_cons_succ]; go_wp2_with (fail)))
              go_wp2_with fail
              go_roundw
              case rel => exact ⟨i + 1, by omega, by go_num, HF.out, HB3.out⟩
              case measure => simp [intOf]; omega
            · have hle : Pn.endN p.x i ≤ Pn.b p.x i := by omega
              have HF : Hid (D = false) := by show _ = _; rw [← HX.out, decide_eq_false hlte]; rfl
              go_wp2_with fail
              repeat' (first | (refine hZ _ _ ?_; clear hZ) | (refine hZ _ ?_; clear hZ) | (refine hZ ?_; clear hZ) | rw [again_nil] | rw [walk_fin] | ((first | rw [walk_take] | rw [walk_run] | rw [again_cons]); intro Z hZ; simp only [sel, List.getElem?_toArray, List.getElem?_cons_zero, List.getElem?_cons_succ]; go_wp2_with (fail)))
              go_wp2_with fail
              go_ret
              exact ⟨by rw [HF.out]; rfl, HB1.out.then HB3.out⟩
          · have hii : ¬ (i : Int) < (p.x.T.length : Int) := by omega
            have HF : Hid (D = true) := by show _ = _; rw [← HE.out, show p.x.T.length - i = 0 by omega]; rfl
            go_wp2_with fail
            go_ret
            exact ⟨by rw [HF.out]; rfl, HB1.out.then HBW.out⟩
      · have i5 : (p.x.T.length : Int) * 6 < p.x.W := by omega
        have HF : Hid (D = false) := by
          show _ = _
          rw [← HD.out]
          unfold Pn.may Pn.may0
          simp [h5]
        go_wp2_with fail
        go_ret
        exact ⟨by rw [HF.out]; rfl, HB1.out⟩
    · have h4b : (b0 != 0) = true := by simp [h4]
      have HF : Hid (D = false) := by
        show _ = _
        rw [← HD.out]
        unfold Pn.may Pn.may0
        simp [HB0.out, h4]
      go_wp2_with fail
      go_ret
      exact ⟨by rw [HF.out]; rfl, HB1.out⟩
  · have h3b : ((p.x.B.length : Int) != (p.x.T.length : Int)) = true := by simp; omega
    have HF : Hid (D = false) := by
      show _ = _
      rw [← HD.out]
      unfold Pn.may Pn.may0
      simp [h3]
    go_wp2_with fail
    go_ret
    exact ⟨by rw [HF.out]; rfl, HB1.out⟩
end Go.Proofs.YtpahkaffknnjhaaGreatDoor
end

section
/-
  The contracts of plan's fits, and of col.
-/
namespace Go.Proofs.YtpahkaffknnjhaaGreatDoor
set_option linter.unusedSimpArgs false
set_option linter.unusedVariables false
open Go.RowKit

namespace Pn
/-- What may tells of places. -/
structure Sh (x : PX) : Prop where
  t1 : 1 ≤ x.T.length
  t4 : x.T.length ≤ 4
  bl : x.B.length = x.T.length
  lt : ∀ f, f < x.T.length → 0 ≤ b x f ∧ b x f < endN x f ∧ endN x f ≤ 24
theorem mayF_all {x : PX} : ∀ (k i : Nat), mayF x i k = true → ∀ f, i ≤ f → f < i + k → b x f < endN x f
  | 0, i, _, f, h1, h2 => by omega
  | k + 1, i, h, f, h1, h2 => by
    unfold mayF at h
    simp only [Bool.and_eq_true, decide_eq_true_eq] at h
    by_cases e : f = i
    · rw [e]; exact h.1
    · exact mayF_all k (i + 1) h.2 f (by omega) (by omega)
theorem sh_of_may {x : PX} (h : may x = true) : Sh x := by
  unfold may may0 at h
  simp only [Bool.and_eq_true, decide_eq_true_eq] at h
  obtain ⟨⟨⟨⟨⟨t1, t4⟩, bl⟩, b0⟩, W⟩, hF⟩ := h
  have hlt := mayF_all _ _ hF
  refine ⟨t1, t4, bl, fun f hf => ?_⟩
  have e : ∀ g, endN x g = if g + 1 < x.T.length then b x (g + 1) else x.W := fun g => by unfold endN; rw [bl]
  have l0 := hlt 0 (by omega)
  have l1 := hlt 1 (by omega)
  have l2 := hlt 2 (by omega)
  have l3 := hlt 3 (by omega)
  rw [e] at l0 l1 l2 l3
  rw [e]
  generalize x.T.length = n at *
  have hn : n = 1 ∨ n = 2 ∨ n = 3 ∨ n = 4 := by omega
  have hff : f = 0 ∨ f = 1 ∨ f = 2 ∨ f = 3 := by omega
  rcases hn with rfl | rfl | rfl | rfl <;> rcases hff with rfl | rfl | rfl | rfl <;> simp at * <;> omega
end Pn
namespace Pn
/-- Is a column none of a table's? -/
def out1 (x : PX) (f : Nat) (c : Int) : Bool := decide (c < 0 ∨ endN x f - b x f ≤ c)
theorem fitsD_out (x : PX) (f : Nat) (d : Df) : fitsD x f d = (d.t == x.T.getD f 0 && !d.cols.isEmpty && !d.cols.any (out1 x f)) := by
  unfold fitsD out1
  congr 1
  rw [List.not_any_eq_all_not]
  congr 1
  funext c
  rw [Bool.eq_iff_iff]
  simp
end Pn
set_option maxRecDepth 20000 in
set_option maxHeartbeats 400000 in
theorem plfits1_any (w : World) (p : Qp) (hp : QpIn w p) (hs : Pn.Sh p.x) (f : Nat) (hf : f < p.x.T.length) (g4 g6 : Nat) (t4 t6 : TypeId) (h4 : Blk w g4 t4 p.cells) (h6 : Blk w g6 t6 [.int .i64 f]) (c : Int) :
    Calls Tryz.prog 180 #[.int .i64 c, .pointer (some ⟨g4, 0, none⟩), .pointer (some ⟨g6, 0, none⟩)] w (RetBo w (Pn.out1 p.x f c)) := by
  have HP := Lib.hid hp
  have hl := hs.lt f hf
  have hfB : f < p.x.B.length := by rw [hs.bl]; exact hf
  obtain ⟨D, hD⟩ : ∃ D, Pn.out1 p.x f c = D := ⟨_, rfl⟩
  have HD := Lib.hid hD
  rw [hD]
  have H4 := Lib.hid h4
  have H6 := Lib.hid h6
  have HFB := Lib.hid hfB
  have h4d := h4.drew
  have h6d := h6.drew
  have hfi : (f : Int) < (p.x.B.length : Int) := by omega
  have hf4 : f < 4 := by have := hs.t4; omega
  clear hp hD hs h4 h6 hf
  go_enter Tryz.func180, Tryz.ntmps180
  go_upto_region 1 with fail
  by_cases hc : c < 0
  · have HF : Hid (D = true) := by show _ = _; rw [← HD.out]; unfold Pn.out1; exact decide_eq_true (.inl hc)
    refine wp_region_plan (.take 0 (.take 1 (.take 2 (.take 3 (.take 4 (.take 5 (.take 7 (.take 8 (.take 9 (.take 10 (.take 11 (.run 6 [3, 7, 8, 9, 10, 11] (.take 12 (.take 13 (.take 14 (.take 15 .fin)))))))))))))))) (by kernel_rfl) (by kernel_rfl) (by kernel_rfl) (by kernel_rfl) ?_
    repeat' (first | (refine hZ _ _ ?_; clear hZ) | (refine hZ _ ?_; clear hZ) | (refine hZ ?_; clear hZ) | rw [again_nil] | rw [walk_fin] | ((first | rw [walk_take] | rw [walk_run] | rw [again_cons]); intro Z hZ; simp only [sel, List.getElem?_toArray, List.getElem?_cons_zero, List.getElem?_cons_succ]; go_wp2_with (fail)))
    go_wp2_with fail
    go_ret
    exact ⟨by rw [HF.out]; rfl, (Below.refl _ _).drewR⟩
  · obtain ⟨d0, -⟩ := Blk.c1 h6d
    obtain ⟨e0, e1, e2, e3, e4, e5, e6, e7, e8⟩ := Blk.qp9 (Blk.qp90 h4d)
    obtain ⟨bb, oo, ha, -, hc0⟩ := int_at (HP.out.b.below (Below.refl _ _).drewR) hfB
    have hcb : w.drew.cell? ⟨bb, oo + f, none⟩ = some (.int .i64 (Pn.b p.x f)) := by rw [← Pn.b_get hfB]; exact hc0
    have HCE : Hid (Calls Tryz.prog 138 #[({ p with ba := some ⟨bb, oo, none⟩ } : Qp).v, .int .i64 f] w.drew (RetI w.drew (Pn.endN p.x f))) := by
      have h := plend_any w.drew p (HP.out.below (Below.refl _ _).drewR) f (by omega)
      have e : ({ p with ba := some ⟨bb, oo, none⟩ } : Qp) = p := by rw [← ha]
      rw [← e] at h
      exact h
    rw [ha] at e1
    clear hc0
    refine wp_region_plan (.take 0 (.take 1 (.take 2 (.take 3 (.take 4 (.take 5 (.take 7 (.take 8 (.take 9 (.take 10 (.take 11 (.run 6 [3, 7, 8, 9, 10, 11] (.take 12 (.take 13 (.take 14 (.take 15 .fin)))))))))))))))) (by kernel_rfl) (by kernel_rfl) (by kernel_rfl) (by kernel_rfl) ?_
    repeat' (first | (refine hZ _ _ ?_; clear hZ) | (refine hZ _ ?_; clear hZ) | (refine hZ ?_; clear hZ) | rw [again_nil] | rw [walk_fin] | ((first | rw [walk_take] | rw [walk_run] | rw [again_cons]); intro Z hZ; simp only [sel, List.getElem?_toArray, List.getElem?_cons_zero, List.getElem?_cons_succ]; go_wp2_with (fail)))
    refine (show Calls _ _ #[({ p with ba := some ⟨bb, oo, none⟩ } : Qp).v, _] _ _ from HCE.out).mono ?_
    rintro e W3 ⟨rfl, hB3⟩
    replace e1 := cell_later hB3 e1
    replace hcb := cell_later hB3 hcb
    replace d0 := cell_later hB3 d0
    obtain ⟨e0, -, e2, e3, e4, e5, e6, e7, e8⟩ := Blk.qp9 (Blk.qp90 ((H4.out.drew).below hB3))
    have HB3 : Hid (Below w.heap.size w W3) := (Below.refl w.heap.size w).drewR.trans hB3
    have HD2 : Hid ((decide (c < 0) || decide (Pn.endN p.x f - Pn.b p.x f ≤ c)) = D) := by show _ = _; rw [← HD.out]; unfold Pn.out1; rw [Bool.decide_or]
    clear hB3
    generalize Pn.endN p.x f = en at hl HD2 ⊢
    generalize Pn.b p.x f = bf at hl HD2 hcb ⊢
    go_wp2_with fail
    repeat' (first | (refine hZ _ _ ?_; clear hZ) | (refine hZ _ ?_; clear hZ) | (refine hZ ?_; clear hZ) | rw [again_nil] | rw [walk_fin] | ((first | rw [walk_take] | rw [walk_run] | rw [again_cons]); intro Z hZ; simp only [sel, List.getElem?_toArray, List.getElem?_cons_zero, List.getElem?_cons_succ]; go_wp2_with (fail)))
    go_wp2_with fail
    go_ret
    exact ⟨by rw [← HD2.out]; rfl, HB3.out⟩
theorem any_take_int {q : Int → Bool} {L : List Int} {i : Nat} (h : i < L.length) : (L.drop i).any q = (q L[i] || (L.drop (i + 1)).any q) := by
  rw [List.drop_eq_getElem_cons h, List.any_cons]
set_option maxRecDepth 20000 in
set_option maxHeartbeats 1000000 in
theorem plidx1_any (w : World) (p : Qp) (hp : QpIn w p) (hs : Pn.Sh p.x) (f : Nat) (hf : f < p.x.T.length) (g4 g6 : Nat) (t4 t6 : TypeId) (h4 : Blk w g4 t4 p.cells) (h6 : Blk w g6 t6 [.int .i64 f]) (A : Option Addr) (cc : Nat) (L : List Int) (hL : ERow eInt w A L) (hl : L.length ≤ 1000) :
    Calls Tryz.prog 186 #[.slice A L.length cc, .func (.func 180) #[] #[.pointer (some ⟨g4, 0, none⟩), .pointer (some ⟨g6, 0, none⟩)]] w (RetIx w (L.any (Pn.out1 p.x f))) := by
  have HL := Lib.hid hL
  have HC : Hid (∀ W, Below w.heap.size w W → ∀ c : Int, Calls Tryz.prog 180 #[.int .i64 c, .pointer (some ⟨g4, 0, none⟩), .pointer (some ⟨g6, 0, none⟩)] W (RetBo W (Pn.out1 p.x f c))) := fun W hB c => plfits1_any W p (hp.below hB) hs f hf g4 g6 t4 t6 (h4.below hB) (h6.below hB) c
  obtain ⟨D, hD⟩ : ∃ D, L.any (Pn.out1 p.x f) = D := ⟨_, rfl⟩
  have HD : Hid ((L.drop 0).any (Pn.out1 p.x f) = D) := hD
  rw [hD]
  clear hL hp hs h4 h6 hD hf
  go_enter Tryz.func186, Tryz.ntmps186
  go_wp2_with fail
  go_loopw [8] (fun iv wr => ∃ i : Nat, i ≤ L.length ∧ iv = .int .i64 (i : Int) ∧ Hid ((L.drop i).any (Pn.out1 p.x f) = D ∧ Below w.heap.size w wr)) (fun iv _ => L.length - (intOf iv).toNat)
  case atStart => exact ⟨0, Nat.zero_le _, by go_num, HD.out, Below.refl _ _⟩
  case round =>
    obtain ⟨i, hi, rfl, HJ⟩ := hrel
    have HE := Lib.hid HJ.out.1
    have HBW := Lib.hid HJ.out.2
    clear HJ
    by_cases hlt : i < L.length
    · have hii : (i : Int) < (L.length : Int) := by omega
      obtain ⟨bb, oo, ha, -, hc⟩ := int_at (HL.out.below HBW.out) hlt
      have HX : Hid ((Pn.out1 p.x f L[i] || (L.drop (i + 1)).any (Pn.out1 p.x f)) = D) := by show _ = _; rw [← any_take_int hlt]; exact HE.out
      rw [ha]
      clear ha
      generalize L[i] = y at hc HX
      go_wp2_with fail
      refine (HC.out wr HBW.out y).mono ?_
      rintro e W8 ⟨rfl, hB8⟩
      have HB8 := Lib.hid (HBW.out.then hB8)
      clear hB8 hc
      cases hb : Pn.out1 p.x f y with
      | true =>
        have HR : Hid (true = D) := by show _ = _; rw [← HX.out, hb]; rfl
        clear hb
        go_wp2_with fail
        go_ret
        exact ⟨i, rfl, by rw [← HR.out]; exact decide_eq_true (by omega), HB8.out⟩
      | false =>
        have HR : Hid ((L.drop (i + 1)).any (Pn.out1 p.x f) = D) := by show _ = _; rw [← HX.out, hb]; rfl
        clear hb
        go_wp2_with fail
        go_roundw
        case rel => exact ⟨i + 1, by omega, by go_num, HR.out, HB8.out⟩
        case measure => simp [intOf]; omega
    · have hii : ¬ (i : Int) < (L.length : Int) := by omega
      have HR : Hid (false = D) := by
        show _ = _
        rw [← HE.out, List.drop_eq_nil_of_le (by omega)]
        rfl
      go_wp2_with fail
      go_ret
      exact ⟨-1, rfl, HR.out, HBW.out⟩
theorem plctn1_any (w : World) (p : Qp) (hp : QpIn w p) (hs : Pn.Sh p.x) (f : Nat) (hf : f < p.x.T.length) (g4 g6 : Nat) (t4 t6 : TypeId) (h4 : Blk w g4 t4 p.cells) (h6 : Blk w g6 t6 [.int .i64 f]) (A : Option Addr) (cc : Nat) (L : List Int) (hL : ERow eInt w A L) (hl : L.length ≤ 1000) :
    Calls Tryz.prog 179 #[.slice A L.length cc, .func (.func 180) #[] #[.pointer (some ⟨g4, 0, none⟩), .pointer (some ⟨g6, 0, none⟩)]] w (RetBo w (L.any (Pn.out1 p.x f))) := by
  have HX := Lib.hid (plidx1_any w p hp hs f hf g4 g6 t4 t6 h4 h6 A cc L hL hl)
  clear hp hs hf h4 h6 hL
  go_enter Tryz.func179, Tryz.ntmps179
  go_wp2_with fail
  refine HX.out.mono ?_
  rintro e W8 ⟨k, rfl, hk, hB8⟩
  have HB8 := Lib.hid hB8
  have HK := Lib.hid hk
  clear hB8 hk
  go_wp2_with fail
  go_ret
  exact ⟨by rw [← HK.out]; rfl, HB8.out⟩
set_option maxRecDepth 20000 in
set_option maxHeartbeats 4000000 in
theorem plfits_any (w : World) (p : Qp) (hp : QpIn w p) (hs : Pn.Sh p.x) (A : Option Addr) (cc : Nat) (hd : DfsIn w A p.x.defs) (f ix : Int) : Calls Tryz.prog 166 #[p.v, .slice A p.x.defs.length cc, .int .i64 f, .int .i64 ix] w (RetBo w (Pn.fits p.x f ix)) := by
  have HP := Lib.hid hp
  have HS := Lib.hid hs
  have HDF := Lib.hid hd
  have hdl := hd.len
  have htl := hs.t4
  have hmf : ∀ (fn : Fn) (first cap : Array Value) (w : World), (Instr.makeFunc fn first cap).run Tryz.prog w = .ok (.func fn first cap) w := fun _ _ _ _ => rfl
  obtain ⟨D, hD⟩ : ∃ D, Pn.fits p.x f ix = D := ⟨_, rfl⟩
  have HD := Lib.hid hD
  rw [hD]
  clear hp hs hD hd
  go_enter Tryz.func166, Tryz.ntmps166
  go_upto_region 1 with (first | (refine wpList_box_qp rfl (.tmp 0) rfl p rfl ?_; intro W1 hb1 hz1 hB1))
  generalize hW2 : World.alloc W1 (.cells _ _) = W2
  obtain ⟨ba2, hz2, hB2⟩ := fresh1 hW2
  clear hW2
  have HQ := Lib.hid (hb1.below hB2)
  have HFB := Lib.hid ba2
  have HB2 := Lib.hid (hB1.then hB2)
  obtain ⟨g4, hg4⟩ : ∃ g, w.heap.size = g := ⟨_, rfl⟩
  obtain ⟨g6, hg6⟩ : ∃ g, W1.heap.size = g := ⟨_, rfl⟩
  rw [hg4] at HQ ⊢
  rw [hg6] at HFB ⊢
  clear hb1 hz1 hB1 ba2 hz2 hB2 hg4 hg6
  obtain ⟨d0, -⟩ := Blk.c1 HFB.out.drew
  obtain ⟨e0, -⟩ := Blk.qp HQ.out.drew
  by_cases h1 : ix < 0
  · have HF : Hid (D = false) := by
      show _ = _
      rw [← HD.out]
      unfold Pn.fits
      rw [decide_eq_false (by omega), Bool.false_and]
    go_upto_region 1 with fail
    refine wp_region_plan (.take 0 (.take 1 (.take 2 (.take 3 (.take 4 (.take 5 (.take 6 (.take 7 (.take 8 (.take 9 (.take 10 (.take 11 (.take 12 (.take 13 (.take 14 (.take 15 (.take 16 (.take 17 (.take 18 (.take 19 (.take 20 (.take 21 (.take 22 (.take 23 (.take 24 (.take 25 (.take 26 (.take 27 (.take 28 (.take 29 (.take 30 (.take 31 (.take 32 (.take 33 (.take 34 (.take 35 (.take 36 (.take 37 (.take 38 (.take 39 (.take 40 .fin))))))))))))))))))))))))))))))))))))))))) (by kernel_rfl) (by kernel_rfl) (by kernel_rfl) (by kernel_rfl) ?_
    repeat' (first | (refine hZ _ _ ?_; clear hZ) | (refine hZ _ ?_; clear hZ) | (refine hZ ?_; clear hZ) | rw [again_nil] | rw [walk_fin] | ((first | rw [walk_take] | rw [walk_run] | rw [again_cons]); intro Z hZ; simp only [sel, List.getElem?_toArray, List.getElem?_cons_zero, List.getElem?_cons_succ]; go_wp2_with (fail)))
    go_wp2_with fail
    go_ret
    exact ⟨by rw [HF.out]; rfl, HB2.out.drewR⟩
  by_cases h2 : (p.x.defs.length : Int) ≤ ix
  · have HF : Hid (D = false) := by
      show _ = _
      rw [← HD.out]
      unfold Pn.fits
      rw [decide_eq_false (by omega), Bool.false_and]
    go_upto_region 1 with fail
    refine wp_region_plan (.take 0 (.take 1 (.take 2 (.take 3 (.take 4 (.take 5 (.take 6 (.take 7 (.take 8 (.take 9 (.take 10 (.take 11 (.take 12 (.take 13 (.take 14 (.take 15 (.take 16 (.take 17 (.take 18 (.take 19 (.take 20 (.take 21 (.take 22 (.take 23 (.take 24 (.take 25 (.take 26 (.take 27 (.take 28 (.take 29 (.take 30 (.take 31 (.take 32 (.take 33 (.take 34 (.take 35 (.take 36 (.take 37 (.take 38 (.take 39 (.take 40 .fin))))))))))))))))))))))))))))))))))))))))) (by kernel_rfl) (by kernel_rfl) (by kernel_rfl) (by kernel_rfl) ?_
    repeat' (first | (refine hZ _ _ ?_; clear hZ) | (refine hZ _ ?_; clear hZ) | (refine hZ ?_; clear hZ) | rw [again_nil] | rw [walk_fin] | ((first | rw [walk_take] | rw [walk_run] | rw [again_cons]); intro Z hZ; simp only [sel, List.getElem?_toArray, List.getElem?_cons_zero, List.getElem?_cons_succ]; go_wp2_with (fail)))
    go_wp2_with fail
    go_ret
    exact ⟨by rw [HF.out]; rfl, HB2.out.drewR⟩
  by_cases h3 : f < 0
  · have HF : Hid (D = false) := by
      show _ = _
      rw [← HD.out]
      unfold Pn.fits
      rw [decide_eq_false (by omega), Bool.false_and]
    go_upto_region 1 with fail
    refine wp_region_plan (.take 0 (.take 1 (.take 2 (.take 3 (.take 4 (.take 5 (.take 6 (.take 7 (.take 8 (.take 9 (.take 10 (.take 11 (.take 12 (.take 13 (.take 14 (.take 15 (.take 16 (.take 17 (.take 18 (.take 19 (.take 20 (.take 21 (.take 22 (.take 23 (.take 24 (.take 25 (.take 26 (.take 27 (.take 28 (.take 29 (.take 30 (.take 31 (.take 32 (.take 33 (.take 34 (.take 35 (.take 36 (.take 37 (.take 38 (.take 39 (.take 40 .fin))))))))))))))))))))))))))))))))))))))))) (by kernel_rfl) (by kernel_rfl) (by kernel_rfl) (by kernel_rfl) ?_
    repeat' (first | (refine hZ _ _ ?_; clear hZ) | (refine hZ _ ?_; clear hZ) | (refine hZ ?_; clear hZ) | rw [again_nil] | rw [walk_fin] | ((first | rw [walk_take] | rw [walk_run] | rw [again_cons]); intro Z hZ; simp only [sel, List.getElem?_toArray, List.getElem?_cons_zero, List.getElem?_cons_succ]; go_wp2_with (fail)))
    go_wp2_with fail
    go_ret
    exact ⟨by rw [HF.out]; rfl, HB2.out.drewR⟩
  by_cases h4 : (p.x.T.length : Int) ≤ f
  · have HF : Hid (D = false) := by
      show _ = _
      rw [← HD.out]
      unfold Pn.fits
      rw [decide_eq_false (by omega), Bool.false_and]
    go_upto_region 1 with fail
    refine wp_region_plan (.take 0 (.take 1 (.take 2 (.take 3 (.take 4 (.take 5 (.take 6 (.take 7 (.take 8 (.take 9 (.take 10 (.take 11 (.take 12 (.take 13 (.take 14 (.take 15 (.take 16 (.take 17 (.take 18 (.take 19 (.take 20 (.take 21 (.take 22 (.take 23 (.take 24 (.take 25 (.take 26 (.take 27 (.take 28 (.take 29 (.take 30 (.take 31 (.take 32 (.take 33 (.take 34 (.take 35 (.take 36 (.take 37 (.take 38 (.take 39 (.take 40 .fin))))))))))))))))))))))))))))))))))))))))) (by kernel_rfl) (by kernel_rfl) (by kernel_rfl) (by kernel_rfl) ?_
    repeat' (first | (refine hZ _ _ ?_; clear hZ) | (refine hZ _ ?_; clear hZ) | (refine hZ ?_; clear hZ) | rw [again_nil] | rw [walk_fin] | ((first | rw [walk_take] | rw [walk_run] | rw [again_cons]); intro Z hZ; simp only [sel, List.getElem?_toArray, List.getElem?_cons_zero, List.getElem?_cons_succ]; go_wp2_with (fail)))
    go_wp2_with fail
    go_ret
    exact ⟨by rw [HF.out]; rfl, HB2.out.drewR⟩
  obtain ⟨i, rfl⟩ : ∃ i : Nat, ix = (i : Int) := ⟨ix.toNat, by omega⟩
  obtain ⟨k, rfl⟩ : ∃ k : Nat, f = (k : Int) := ⟨f.toNat, by omega⟩
  have hi : i < p.x.defs.length := by omega
  have hk : k < p.x.T.length := by omega
  have hii : (i : Int) < (p.x.defs.length : Int) := by omega
  have hkk : (k : Int) < (p.x.T.length : Int) := by omega
  obtain ⟨d, hd⟩ : ∃ d, p.x.defs[i] = d := ⟨_, rfl⟩
  have HDE : Hid (Pn.fitsD p.x k d = D) := by
    show _ = _
    rw [← HD.out]
    unfold Pn.fits
    rw [decide_eq_true (⟨by omega, hii, by omega, hkk⟩ : 0 ≤ (i : Int) ∧ (i : Int) < (p.x.defs.length : Int) ∧ 0 ≤ (k : Int) ∧ (k : Int) < (p.x.T.length : Int)), Bool.true_and, Int.toNat_natCast, Int.toNat_natCast]
    congr 1
    rw [← hd]
    simp [List.getD, hi]
  have hdm : d ∈ p.x.defs := by rw [← hd]; exact List.getElem_mem hi
  obtain ⟨t, ht⟩ : ∃ t, p.x.T[k] = t := ⟨_, rfl⟩
  have htg : p.x.T.getD k 0 = t := by rw [← ht]; simp [List.getD, hk]
  have HDE : Hid ((d.t == t && !d.cols.isEmpty && !d.cols.any (Pn.out1 p.x k)) = D) := by show _ = _; rw [← HDE.out, Pn.fitsD_out, htg]
  clear htg HD
  obtain ⟨bb, oo, ha, -, q0, q1⟩ := df_at (HDF.out.r.below HB2.out.drewR) hi
  obtain ⟨bt, ot, hat, -, q2⟩ := int_at (HP.out.t.below HB2.out.drewR) hk
  rw [hd] at q0 q1
  rw [ht] at q2
  rw [ha]
  rw [hat] at e0
  have HCR := Lib.hid (HDF.out.cr d hdm)
  have hcl := HDF.out.cl d hdm
  clear hd ht ha hat hdm h1 h2 h3 h4
  by_cases h5 : d.t = t
  · have h5b : (d.t != t) = false := by simp [h5]
    have HDE2 : Hid ((!d.cols.isEmpty && !d.cols.any (Pn.out1 p.x k)) = D) := by show _ = _; rw [← HDE.out, h5]; simp
    by_cases h6 : d.cols.length = 0
    · have h6b : ((d.cols.length : Int) == 0) = true := by simp [h6]
      have HF : Hid (D = false) := by show _ = _; rw [← HDE2.out, List.length_eq_zero_iff.1 h6]; rfl
      clear h5 h6
      go_upto_region 1 with fail
      refine wp_region_plan (.take 0 (.take 1 (.take 2 (.take 3 (.take 4 (.take 5 (.take 6 (.take 7 (.take 8 (.take 9 (.take 10 (.take 11 (.take 12 (.take 13 (.take 14 (.take 15 (.take 16 (.take 17 (.take 18 (.take 19 (.take 20 (.take 21 (.take 22 (.take 23 (.take 24 (.take 25 (.take 26 (.take 27 (.take 28 (.take 29 (.take 30 (.take 31 (.take 32 (.take 33 (.take 34 (.take 35 (.take 36 (.take 37 (.take 38 (.take 39 (.take 40 .fin))))))))))))))))))))))))))))))))))))))))) (by kernel_rfl) (by kernel_rfl) (by kernel_rfl) (by kernel_rfl) ?_
      repeat' (first | (refine hZ _ _ ?_; clear hZ) | (refine hZ _ ?_; clear hZ) | (refine hZ ?_; clear hZ) | rw [again_nil] | rw [walk_fin] | ((first | rw [walk_take] | rw [walk_run] | rw [again_cons]); intro Z hZ; simp only [sel, List.getElem?_toArray, List.getElem?_cons_zero, List.getElem?_cons_succ]; go_wp2_with (fail)))
      go_wp2_with fail
      go_ret
      exact ⟨by rw [HF.out]; rfl, HB2.out.drewR⟩
    · have h6b : ((d.cols.length : Int) == 0) = false := by rw [beq_eq_false_iff_ne]; omega
      have HDE3 : Hid ((!d.cols.any (Pn.out1 p.x k)) = D) := by
        show _ = _
        rw [← HDE2.out]
        have : d.cols.isEmpty = false := by cases hc : d.cols with | nil => rw [hc] at h6; exact absurd rfl h6 | cons a l => rfl
        rw [this]; rfl
      clear h5 h6 HDE HDE2
      go_upto_region 1 with fail
      refine wp_region_plan (.take 0 (.take 1 (.take 2 (.take 3 (.take 4 (.take 5 (.take 6 (.take 7 (.take 8 (.take 9 (.take 10 (.take 11 (.take 12 (.take 13 (.take 14 (.take 15 (.take 16 (.take 17 (.take 18 (.take 19 (.take 20 (.take 21 (.take 22 (.take 23 (.take 24 (.take 25 (.take 26 (.take 27 (.take 28 (.take 29 (.take 30 (.take 31 (.take 32 (.take 33 (.take 34 (.take 35 (.take 36 (.take 37 (.take 38 (.take 39 (.take 40 .fin))))))))))))))))))))))))))))))))))))))))) (by kernel_rfl) (by kernel_rfl) (by kernel_rfl) (by kernel_rfl) ?_
      repeat' (first | (refine hZ _ _ ?_; clear hZ) | (refine hZ _ ?_; clear hZ) | (refine hZ ?_; clear hZ) | rw [again_nil] | rw [walk_fin] | ((first | rw [walk_take] | rw [walk_run] | rw [again_cons]); intro Z hZ; simp only [sel, List.getElem?_toArray, List.getElem?_cons_zero, List.getElem?_cons_succ]; go_wp2_with (fail)))
      have HBD : Hid (Below w.heap.size w W2.drew) := HB2.out.drewR
      have HCC := Lib.hid (plctn1_any W2.drew p (HP.out.below HBD.out) HS.out k hk g4 g6 _ _ HQ.out.drew HFB.out.drew d.a d.c d.cols (HCR.out.below HBD.out) hcl)
      go_wp2_with fail
      refine HCC.out.mono ?_
      rintro e W8 ⟨rfl, hB8⟩
      have HB8 := Lib.hid (HBD.out.then hB8)
      clear hB8
      go_wp2_with fail
      go_ret
      exact ⟨by rw [← HDE3.out]; rfl, HB8.out⟩
  · have h5b : (d.t != t) = true := by simp [h5]
    have HF : Hid (D = false) := by show _ = _; rw [← HDE.out]; simp [h5]
    clear h5
    go_upto_region 1 with fail
    refine wp_region_plan (.take 0 (.take 1 (.take 2 (.take 3 (.take 4 (.take 5 (.take 6 (.take 7 (.take 8 (.take 9 (.take 10 (.take 11 (.take 12 (.take 13 (.take 14 (.take 15 (.take 16 (.take 17 (.take 18 (.take 19 (.take 20 (.take 21 (.take 22 (.take 23 (.take 24 (.take 25 (.take 26 (.take 27 (.take 28 (.take 29 (.take 30 (.take 31 (.take 32 (.take 33 (.take 34 (.take 35 (.take 36 (.take 37 (.take 38 (.take 39 (.take 40 .fin))))))))))))))))))))))))))))))))))))))))) (by kernel_rfl) (by kernel_rfl) (by kernel_rfl) (by kernel_rfl) ?_
    repeat' (first | (refine hZ _ _ ?_; clear hZ) | (refine hZ _ ?_; clear hZ) | (refine hZ ?_; clear hZ) | rw [again_nil] | rw [walk_fin] | ((first | rw [walk_take] | rw [walk_run] | rw [again_cons]); intro Z hZ; simp only [sel, List.getElem?_toArray, List.getElem?_cons_zero, List.getElem?_cons_succ]; go_wp2_with (fail)))
    go_wp2_with fail
    go_ret
    exact ⟨by rw [HF.out]; rfl, HB2.out.drewR⟩
end Go.Proofs.YtpahkaffknnjhaaGreatDoor
end

section
/-
  A planner's world in memory; the contracts of size, found and col.
-/
namespace Go.Proofs.YtpahkaffknnjhaaGreatDoor
set_option linter.unusedSimpArgs false
set_option linter.unusedVariables false
open Go.RowKit

theorem Blk.wq {w : World} {g : Nat} {t : TypeId} {p : Qp} {r : List Value} (h : Blk w g t (p.cells ++ r)) : w.cell? ⟨g, 1, none⟩ = some (.slice p.ba p.x.B.length p.bc) ∧ w.cell? ⟨g, 3, none⟩ = some (.slice p.wa p.x.wh.length p.wc) := ⟨h.cell 1, h.cell 3⟩
theorem Blk.wd {w : World} {g : Nat} {t : TypeId} {p : Qp} {v : Value} {r : List Value} (h : Blk w g t (p.cells ++ v :: r)) : w.cell? ⟨g, 9, none⟩ = some v := h.cell 9
namespace Pn
end Pn
end Go.Proofs.YtpahkaffknnjhaaGreatDoor
end

section
/-
  The contracts of a planner's found and col.
-/
namespace Go.Proofs.YtpahkaffknnjhaaGreatDoor
set_option linter.unusedSimpArgs false
set_option linter.unusedVariables false
open Go.RowKit

set_option maxRecDepth 20000 in
set_option maxHeartbeats 1000000 in
theorem plcol_any (w : World) (g : Nat) (t : TypeId) (p : Qp) (da : Option Addr) (dc : Nat) (r : List Value) (hb : Blk w g t (p.cells ++ .slice da p.x.defs.length dc :: r)) (hp : QpIn w p) (hs : Pn.Sh p.x) (hd : DfsIn w da p.x.defs) (f i j : Nat) (hf : f < p.x.T.length) (hi : i < p.x.defs.length) (hj : j < p.x.defs[i].cols.length)
    (h0 : 0 ≤ p.x.defs[i].cols[j]) (h1 : p.x.defs[i].cols[j] ≤ 24) :
    Calls Tryz.prog 168 #[.pointer (some ⟨g, 0, none⟩), .int .i64 f, .int .i64 i, .int .i64 j] w fun e w' => e = .returned (.int .i64 (Pn.b p.x f + p.x.defs[i].cols[j])) ∧ Below w.heap.size w w' := by
  have hl := hs.lt f hf
  have hfB : f < p.x.B.length := by rw [hs.bl]; exact hf
  have hf4 := hs.t4
  have hfi : (f : Int) < (p.x.B.length : Int) := by omega
  have hdl := hd.len
  have hii : (i : Int) < (p.x.defs.length : Int) := by omega
  obtain ⟨d, hd0⟩ : ∃ d, p.x.defs[i] = d := ⟨_, rfl⟩
  have hdm : d ∈ p.x.defs := by rw [← hd0]; exact List.getElem_mem hi
  have hcl := hd.cl d hdm
  obtain ⟨bb, oo, ha, -, hc0⟩ := int_at (hp.b.below (Below.refl w.heap.size w).drewR) hfB
  have hc : w.drew.cell? ⟨bb, oo + f, none⟩ = some (.int .i64 (Pn.b p.x f)) := by rw [← Pn.b_get hfB]; exact hc0
  obtain ⟨bd, od, had, -, -, q1⟩ := df_at (hd.r.below (Below.refl w.heap.size w).drewR) hi
  simp only [hd0] at hj h0 h1 q1 ⊢
  have hjj : (j : Int) < (d.cols.length : Int) := by omega
  obtain ⟨bc, oc, hac, -, q2⟩ := int_at ((hd.cr d hdm).below (Below.refl w.heap.size w).drewR) hj
  obtain ⟨c1, -⟩ := Blk.wq hb.drew
  have c9 := Blk.wd hb.drew
  rw [ha] at c1
  rw [had] at c9
  rw [hac] at q1
  generalize d.cols[j] = v at h0 h1 q2 ⊢
  clear hp hs hd ha had hac hc0 hb hdm hd0
  go_enter Tryz.func168, Tryz.ntmps168
  go_upto_region 1 with fail
  refine wp_region_plan (.take 0 (.take 1 (.take 2 (.take 3 (.take 4 (.take 5 (.take 6 (.take 7 (.take 8 (.take 9 (.take 10 (.take 11 (.take 12 (.take 13 (.take 14 (.take 15 (.take 16 (.take 17 (.take 18 (.take 19 (.take 20 .fin))))))))))))))))))))) (by kernel_rfl) (by kernel_rfl) (by kernel_rfl) (by kernel_rfl) ?_
  repeat' (first | (refine hZ _ _ ?_; clear hZ) | (refine hZ _ ?_; clear hZ) | (refine hZ ?_; clear hZ) | rw [again_nil] | rw [walk_fin] | ((first | rw [walk_take] | rw [walk_run] | rw [again_cons]); intro Z hZ; simp only [sel, List.getElem?_toArray, List.getElem?_cons_zero, List.getElem?_cons_succ]; go_wp2_with (fail)))
  go_wp2_with fail
  go_ret
  exact ⟨rfl, (Below.refl _ _).drewR⟩
end Go.Proofs.YtpahkaffknnjhaaGreatDoor
end

section
/-
  Rows of texts; the contracts of slices.Contains at them.
-/
namespace Go.Proofs.YtpahkaffknnjhaaGreatDoor
set_option linter.unusedSimpArgs false
set_option linter.unusedVariables false
open Go.RowKit

/-- Texts. -/
def eStr : Elem (List UInt8) where
  e := 9
  t := 49
  sz := 1
  bytes := 16
  zero := .string ByteArray.empty
  code := fun n => [txt n]
  pos := by decide
  few := by decide
  len := fun _ => rfl
  one := by
    intro x u hu
    simp at hu
    subst hu
    rfl
  zsz := rfl
  info := by kernel_rfl
  under := Tryz.underlying49
theorem str_at {w : World} {A : Option Addr} {L : List (List UInt8)} (h : ERow eStr w A L) {i : Nat} (hi : i < L.length) : ∃ b o, A = some ⟨b, o, none⟩ ∧ b < w.heap.size ∧ w.cell? ⟨b, o + i, none⟩ = some (txt L[i]) := by
  obtain ⟨b, o, e, hb, hc⟩ := h.at_ hi
  have := hc 0 _ rfl
  simp only [eStr, Nat.mul_one, Nat.add_zero] at this
  exact ⟨b, o, e, hb, this⟩
theorem strs_drop (L : List (List UInt8)) (x : List UInt8) (i : Nat) (hi : i < L.length) : (L.drop i).contains x = (x == L[i] || (L.drop (i + 1)).contains x) := by
  rw [List.drop_eq_getElem_cons hi, List.contains_cons]
/-- A place, below 0 if there is none; the world is as it was. -/
def RetIs (w : World) (b : Bool) (e : Ending) (w' : World) : Prop := ∃ k : Int, e = .returned (.int .i64 k) ∧ decide (0 ≤ k) = b ∧ w = w'
set_option maxRecDepth 20000 in
set_option maxHeartbeats 1000000 in
theorem sindex_any (w : World) (A : Option Addr) (c : Nat) (L : List (List UInt8)) (hL : ERow eStr w A L) (hl : L.length ≤ 1000000) (x : List UInt8) :
    Calls Tryz.prog 187 #[.slice A L.length c, txt x] w (RetIs w (L.contains x)) := by
  have HL := Lib.hid hL
  clear hL
  obtain ⟨C, hC⟩ : ∃ C, L.contains x = C := ⟨_, rfl⟩
  have HC := Lib.hid hC
  rw [hC]
  clear hC
  have keq := run_str_eq
  have geq := eqg_eq
  go_enter Tryz.func187, Tryz.ntmps187
  go_wp2_with fail
  go_loopw [8] (fun iv wr => ∃ i : Nat, i ≤ L.length ∧ iv = .int .i64 (i : Int) ∧ Hid ((L.drop i).contains x = C ∧ w = wr)) (fun iv _ => L.length - (intOf iv).toNat)
  case atStart => exact ⟨0, Nat.zero_le _, by go_num, HC.out, rfl⟩
  case round =>
    obtain ⟨i, hi, rfl, HJ⟩ := hrel
    obtain ⟨hd, rfl⟩ := HJ.out
    have HD := Lib.hid hd
    clear HJ hd
    by_cases hlt : i < L.length
    · have hii : (i : Int) < (L.length : Int) := by omega
      obtain ⟨bb, oo, ha, -, hc⟩ := str_at HL.out hlt
      have HX : Hid ((x == L[i] || (L.drop (i + 1)).contains x) = C) := by show _ = _; rw [← strs_drop L x i hlt]; exact HD.out
      rw [ha]
      clear ha
      generalize L[i] = y at hc HX
      cases hxy : x == y with
      | true =>
        have HR : Hid (true = C) := by show _ = _; rw [← HX.out, hxy]; rfl
        go_wp2_with fail
        go_ret
        exact ⟨i, rfl, by rw [← HR.out]; exact decide_eq_true (by omega), rfl⟩
      | false =>
        have HR : Hid ((L.drop (i + 1)).contains x = C) := by show _ = _; rw [← HX.out, hxy]; rfl
        go_wp2_with fail
        go_roundw
        case rel => exact ⟨i + 1, by omega, by go_num, HR.out, trivial⟩
        case measure => simp [intOf]; omega
    · have hii : ¬ (i : Int) < (L.length : Int) := by omega
      have HR : Hid (false = C) := by
        show _ = _
        rw [← HD.out, List.drop_eq_nil_of_le (by omega)]
        rfl
      go_wp2_with fail
      go_ret
      exact ⟨-1, rfl, HR.out, rfl⟩
set_option maxRecDepth 20000 in
theorem scontains_any (w : World) (A : Option Addr) (c : Nat) (L : List (List UInt8)) (hL : ERow eStr w A L) (hl : L.length ≤ 1000000) (x : List UInt8) :
    Calls Tryz.prog 183 #[.slice A L.length c, txt x] w fun e w' => e = .returned (.bool (L.contains x)) ∧ w = w' := by
  have HL := Lib.hid hL
  clear hL
  obtain ⟨C, hC⟩ : ∃ C, L.contains x = C := ⟨_, rfl⟩
  have HC := Lib.hid (sindex_any w A c L HL.out hl x)
  rw [hC] at HC ⊢
  clear hC
  go_enter Tryz.func183, Tryz.ntmps183
  go_wp2_with fail
  refine HC.out.mono ?_
  rintro e W2 ⟨k, rfl, hk, rfl⟩
  have HK := Lib.hid hk
  clear hk
  go_wp2_with fail
  go_ret
  exact ⟨by rw [← HK.out]; rfl, rfl⟩
end Go.Proofs.YtpahkaffknnjhaaGreatDoor
end

