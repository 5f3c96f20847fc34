/-
  The contracts of the document's pool: Get, Drop, New.
-/
import Derived.Test.YtjaopecjmmnbiaaPoolRef
import Derived.Test.YtjaopecjmmnbiaaRegionBlk
namespace Go.Proofs.Ytjaopecjmmnbiaa
set_option linter.unusedSimpArgs false
set_option linter.unusedVariables false
open Go.RowKit Go.Maps

/-- The document's frames, in blocks from lo on. -/
def RRow (w : World) (lo : Nat) (A : Option Addr) (L : List Fr) : Prop := ERow eRF w A L ∧ ∀ a, A = some a → lo ≤ a.block
theorem RRow.below {w w' : World} {lo : Nat} {A : Option Addr} {L : List Fr} (h : RRow w lo A L) (hb : Below w.heap.size w w') : RRow w' lo A L := ⟨h.1.below hb, h.2⟩
theorem EOwn.rrow {w : World} {B lo c : Nat} {A : Option Addr} {L : List Fr} (h : EOwn eRF w B A c L) (hlo : lo ≤ B) : RRow w lo A L := ⟨h.row, fun a ha => Nat.le_trans hlo (h.block a ha).1⟩
theorem where_atOf {L : List Fr} {k : Int} (h : 0 ≤ k) : whereOf L k = L.findIdx? (fun f => f.page == k) := by unfold whereOf; rw [if_pos h]
theorem atOf_some {L : List Fr} {k : Int} {i : Nat} (h : whereOf L k = some i) : atOf L k = (i : Int) := by
  obtain ⟨_, _, h0⟩ := where_some h
  rw [where_atOf h0] at h
  unfold atOf; rw [h]
theorem atOf_none {L : List Fr} {k : Int} (h0 : 0 ≤ k) (h : whereOf L k = none) : atOf L k = -1 := by
  rw [where_atOf h0] at h
  unfold atOf; rw [h]

/-- What the document's Get leaves. -/
def RefGot (w : World) (lo : Nat) (q : PS) (k : Int) (e : Ending) (w' : World) : Prop :=
  (∃ A' c', e = .returned (.tuple #[rpv (q.get k).2 A' c', txt ((q.get k).1.getD []), .bool (q.get k).1.isSome]) ∧ RRow w' lo A' (q.get k).2.L) ∧ Below w.heap.size w w'


set_option maxRecDepth 20000 in
set_option maxHeartbeats 1000000 in
theorem refget_miss (w : World) (lo : Nat) (q : PS) (A : Option Addr) (c : Nat) (hr : RRow w lo A q.L) (hl : q.L.length ≤ 64) (k : Int) (hk : whereOf q.L k = none) (hm : 0 ≤ q.misses ∧ q.misses < 1000000) :
    Calls Try.prog 16 #[rpv q A c, .int .i64 k] w (RefGot w lo q k) := by
  have HK := Lib.hid hk
  by_cases h0 : 0 ≤ k
  · have HA := Lib.hid (refat_any · q A c · hl k)
    rw [atOf_none h0 hk] at HA
    clear hk
    unfold rpv at HA ⊢
    go_enter Try.func16, Try.ntmps16
    go_upto_region 1 with (fail)
    generalize hW0 : ((World.alloc w (.cells _ _)).alloc (.cells _ _)) = W
    obtain ⟨ba0, bb0, hz0, hB0⟩ := fresh2 hW0
    clear hW0
    have HB0 := Lib.hid hB0
    have BA := Lib.hid ba0
    have BB := Lib.hid bb0
    have hcc := And.intro ba0.c4 bb0.c4
    have HR := Lib.hid hr
    have HR1 := Lib.hid (hr.below hB0)
    clear ba0 bb0 hB0 hr
    go_wp2_with fail
    refine (HA.out W HR1.out.1).mono ?_
    rintro e w1 ⟨rfl, hb1⟩
    have HB1 := Lib.hid (HB0.out.trans (hb1.mono HB0.out.size))
    have BA1 := BA.out.below hb1
    have BB1 := BB.out.below hb1
    have hcc1 := And.intro BA1.c4 BB1.c4
    have BB := Lib.hid BB1
    clear hcc BA1 BB1 hb1
    have HG : Hid (q.get k = (none, { q with misses := q.misses + 1 })) := by show _ = _; unfold PS.get; rw [HK.out]
    go_wp2_with fail
    have b1 := (BB.out.other ⟨w.heap.size, 3, none⟩ (by show w.heap.size + 1 ≠ w.heap.size; omega) (.int .i64 (q.misses + 1))).all4 (u := .slice A q.L.length c) (v := .int .i64 (q.hand : Nat)) (x := .int .i64 q.hits) (y := .int .i64 (q.misses + 1))
    have hF := below_storeFrom (B := w.heap.size) (g := w.heap.size + 1) (by omega) [.slice A q.L.length c, .int .i64 (q.hand : Nat), .int .i64 q.hits, .int .i64 (q.misses + 1)] 0 (HB1.out.setCell (p := ⟨w.heap.size, 3, none⟩) (Nat.le_refl _) (.int .i64 (q.misses + 1)))
    refine ret_mem3 rfl rfl rfl rfl rfl (load_rp b1) ?_
    unfold RefGot
    rw [HG.out]
    exact ⟨⟨A, c, rfl, HR.out.below hF⟩, hF⟩
  · have hkn : k < 0 := by omega
    clear hk
    unfold rpv
    go_enter Try.func16, Try.ntmps16
    go_upto_region 1 with (fail)
    generalize hW0 : ((World.alloc w (.cells _ _)).alloc (.cells _ _)) = W
    obtain ⟨ba0, bb0, hz0, hB0⟩ := fresh2 hW0
    clear hW0
    have HB0 := Lib.hid hB0
    have BA := Lib.hid ba0
    have BB := Lib.hid bb0
    have hcc := And.intro ba0.c4 bb0.c4
    have HR := Lib.hid hr
    have HR1 := Lib.hid (hr.below hB0)
    clear ba0 bb0 hB0 hr
    have HG : Hid (q.get k = (none, { q with misses := q.misses + 1 })) := by show _ = _; unfold PS.get; rw [HK.out]
    go_wp2_with fail
    have b1 := (BB.out.other ⟨w.heap.size, 3, none⟩ (by show w.heap.size + 1 ≠ w.heap.size; omega) (.int .i64 (q.misses + 1))).all4 (u := .slice A q.L.length c) (v := .int .i64 (q.hand : Nat)) (x := .int .i64 q.hits) (y := .int .i64 (q.misses + 1))
    have hF := below_storeFrom (B := w.heap.size) (g := w.heap.size + 1) (by omega) [.slice A q.L.length c, .int .i64 (q.hand : Nat), .int .i64 q.hits, .int .i64 (q.misses + 1)] 0 (HB0.out.setCell (p := ⟨w.heap.size, 3, none⟩) (Nat.le_refl _) (.int .i64 (q.misses + 1)))
    refine ret_mem3 rfl rfl rfl rfl rfl (load_rp b1) ?_
    unfold RefGot
    rw [HG.out]
    exact ⟨⟨A, c, rfl, HR.out.below hF⟩, hF⟩

set_option maxRecDepth 20000 in
set_option maxHeartbeats 1000000 in
theorem refget_hit (w : World) (lo : Nat) (hlo : lo ≤ w.heap.size) (q : PS) (A : Option Addr) (c : Nat) (hr : RRow w lo A q.L) (hl : q.L.length ≤ 64) (k : Int) (i : Nat) (hi : i < q.L.length) (h0 : 0 ≤ k) (hk : whereOf q.L k = some i) (hm : 0 ≤ q.hits ∧ q.hits < 1000000) :
    Calls Try.prog 16 #[rpv q A c, .int .i64 k] w (RefGot w lo q k) := by
  have HG : Hid (q.get k = (some q.L[i].s, { q with hits := q.hits + 1, L := q.L.set i { q.L[i] with mark := true } })) := by show _ = _; unfold PS.get; rw [hk]; simp [hi]
  have HA := Lib.hid (refat_any · q A c · hl k)
  have HW := Lib.hid (fun w h => refwith_any w { q with hits := q.hits + 1 } A c h hl i hi { q.L[i] with mark := true })
  rw [atOf_some hk] at HA
  clear hk
  have hii : (i : Int) < (q.L.length : Int) := by omega
  have hi64 : (i : Int) ≤ 64 := by omega
  unfold rpv rfv txt at HW
  unfold rpv at HA ⊢
  go_enter Try.func16, Try.ntmps16
  go_upto_region 1 with (fail)
  generalize hW0 : ((World.alloc w (.cells _ _)).alloc (.cells _ _)) = W
  obtain ⟨ba0, bb0, hz0, hB0⟩ := fresh2 hW0
  clear hW0
  have HB0 := Lib.hid hB0
  have BA := Lib.hid ba0
  have BB := Lib.hid bb0
  have hcc := And.intro ba0.c4 bb0.c4
  have HR := Lib.hid hr
  have HR1 := Lib.hid (hr.below hB0)
  clear ba0 bb0 hB0 hr
  go_wp2_with fail
  refine (HA.out W HR1.out.1).mono ?_
  rintro e w1 ⟨rfl, hb1⟩
  have HB1 := Lib.hid (HB0.out.trans (hb1.mono HB0.out.size))
  have BA1 := BA.out.below hb1
  have BB1 := BB.out.below hb1
  have hcc1 := And.intro BA1.c4 BB1.c4
  have hr1 := HR1.out.1.below hb1
  obtain ⟨b, o, hA, hb, d0, d1, d2⟩ := rf_at hr1 hi
  have hz1 : w.heap.size + 1 < w1.heap.size := BB1.lt
  have HR2 := Lib.hid hr1
  have BA := Lib.hid BA1
  have BB := Lib.hid BB1
  subst hA
  have hlb : b < w.heap.size := by
    obtain ⟨_, _, e, hb', _⟩ := rf_at HR.out.1 hi
    obtain rfl := (Addr.mk.inj (Option.some.inj e)).1
    exact hb'
  have hne : b ≠ w.heap.size := by omega
  have hne' : w.heap.size ≠ b := by omega
  clear hcc BA1 BB1 hb1 hr1
  go_upto_region 10 with (fail)
  generalize hW2 : World.alloc _ (.cells _ _) = W2
  obtain ⟨ba2, hz2, hB2⟩ := fresh1 hW2
  clear hW2
  have hBs : Below w.heap.size w (w1.setCell ⟨w.heap.size, 2, none⟩ (.int .i64 (q.hits + 1))) := HB1.out.setCell (p := ⟨w.heap.size, 2, none⟩) (Nat.le_refl _) _
  have hB2' := hBs.trans (hB2.mono (by simp; omega))
  have BA2 := (BA.out.set2 (u := .int .i64 (q.hits + 1))).below hB2
  have BB2 := (BB.out.other ⟨w.heap.size, 2, none⟩ (by show w.heap.size + 1 ≠ w.heap.size; omega) (.int .i64 (q.hits + 1))).below hB2
  have BC2 : Blk W2 w1.heap.size 57 [.int .i64 q.L[i].page, .bool true, .string ⟨q.L[i].s.toArray⟩] := by simpa using ba2
  have HS := Lib.hid (And.intro hB2' (And.intro BA2 (And.intro BB2 BC2)))
  clear hBs hB2' BA2 BB2 BC2 ba2 hB2 hcc1 d0 d1 d2 hz2 HA
  apply wp_region_blk (g := w.heap.size + 1) (T := 46) (pre := [.slice none 0 0, .int .i64 0, .int .i64 0, .int .i64 0])
    (post := fun x => match x with | .agg #[a, b, c, d] => [a, b, c, d] | _ => []) (s := 6) (c := 3)
    (R := fun j x w' => match j with
      | 0 => x = .agg #[.slice (some ⟨b, o, none⟩) q.L.length c, .int .i64 (q.hand : Nat), .int .i64 (q.hits + 1), .int .i64 q.misses]
      | 1 => x = .int .i64 (i : Nat)
      | 2 => x = .agg #[.int .i64 q.L[i].page, .bool true, .string ⟨q.L[i].s.toArray⟩]
      | 3 => ∃ A' c', x = .agg #[.slice A' (q.L.set i { q.L[i] with mark := true }).length c', .int .i64 (q.hand : Nat), .int .i64 (q.hits + 1), .int .i64 q.misses] ∧ RRow w' (w.heap.size + 2) A' (q.L.set i { q.L[i] with mark := true })
      | 4 => x = .pointer (some ⟨w1.heap.size, 2, none⟩)
      | 5 => x = .string ⟨q.L[i].s.toArray⟩
      | 7 => x = .string ⟨q.L[i].s.toArray⟩
      | 8 => x = .bool true
      | _ => True)
  case hG => (intro v; simp only [regFrame, List.zipIdx_cons, List.zipIdx_nil, List.foldl_cons, List.foldl_nil, Act.put, List.setIfInBounds_toArray, List.set_cons_zero, List.set_cons_succ, Nat.reduceAdd]; rfl)
  case hm => kernel_rfl
  case honce => rfl
  case hlow => kernel_rfl
  case hs => decide
  case ho => rfl
  case hog => rfl
  case hod => rfl
  case hsc => kernel_rfl
  case hne => decide
  case hR =>
    intro j x w' w'' hg h
    split at h <;> try exact h
    obtain ⟨A', c', h1, h2, h3⟩ := h
    refine ⟨A', c', h1, h2.keep hg.size (fun a ha hl => hg.block _ hl (by have := h3 a ha; simp; omega)), h3⟩
  case h0 => exact HS.out.2.2.1
  case hstep =>
    refine ⟨?_, ?_, ?_, ?_, ?_, ?_, ?_, ?_, ?_, trivial⟩ <;> (intro _hne v w' hg hd; simp only [Deps, Region.binds, ↓reduceIte, and_true] at hd)
    · have bA := HS.out.2.1.grown hg (by simp)
      obtain ⟨e0, e1, e2, e3, -⟩ := bA.c4
      clear bA
      refine opDoes_run (x := .agg #[.slice (some ⟨b, o, none⟩) q.L.length c, .int .i64 (q.hand : Nat), .int .i64 (q.hits + 1), .int .i64 q.misses]) rfl ?_ ⟨Below.refl _ _, rfl⟩
      go_simp
    · exact opDoes_move _ rfl rfl ⟨Below.refl _ _, rfl⟩
    · have bC := HS.out.2.2.2.grown hg (by simp; omega)
      obtain ⟨e0, e1, e2, -⟩ := bC.c3
      clear bC
      refine opDoes_run (x := .agg #[.int .i64 q.L[i].page, .bool true, .string ⟨q.L[i].s.toArray⟩]) rfl ?_ ⟨Below.refl _ _, rfl⟩
      go_simp
    · obtain ⟨e0, e1, e2⟩ := hd
      have hB' : Below w.heap.size w w' := HS.out.1.grown hg HS.out.1.size (fun k hk => by simp at hk; omega)
      refine opDoes_call _ _ _ #[.agg #[.slice (some ⟨b, o, none⟩) q.L.length c, .int .i64 (q.hand : Nat), .int .i64 (q.hits + 1), .int .i64 q.misses], .int .i64 (i : Nat), .agg #[.int .i64 q.L[i].page, .bool true, .string ⟨q.L[i].s.toArray⟩]] rfl rfl (by go_simp) (Try.call24 _ _) ?_
      refine (HW.out w' (HR.out.1.below hB')).mono fun e w'' ⟨⟨A', c', he, ho⟩, hb'⟩ => ⟨_, he, hb', A', c', rfl, ho.row, fun a ha => Nat.le_trans ?_ (ho.block a ha).1⟩
      have h1 := HS.out.2.2.1.lt
      have h2 := hg.size
      omega
    · refine opDoes_run (x := .pointer (some ⟨w1.heap.size, 2, none⟩)) rfl ?_ ⟨Below.refl _ _, rfl⟩
      go_simp
    · have bC := HS.out.2.2.2.grown hg (by simp; omega)
      obtain ⟨e0, e1, e2, -⟩ := bC.c3
      clear bC
      refine opDoes_run (x := .string ⟨q.L[i].s.toArray⟩) rfl ?_ ⟨Below.refl _ _, rfl⟩
      go_simp
    · exact absurd rfl _hne
    · refine opDoes_assign _ rfl rfl ⟨Below.refl _ _, ?_⟩
      go_simp
    · exact opDoes_assign _ rfl rfl ⟨Below.refl _ _, rfl⟩
  case hstore =>
    intro v w' hg hb hc hd
    obtain ⟨A', c', h3, hrr⟩ := hc
    have hall := hb.all4 (u := .slice A' (q.L.set i { q.L[i] with mark := true }).length c') (v := .int .i64 (q.hand : Nat)) (x := .int .i64 (q.hits + 1)) (y := .int .i64 q.misses)
    have hgr := (((grown_store w' (w.heap.size + 1) 0 (.slice A' (q.L.set i { q.L[i] with mark := true }).length c'))).set_ ⟨w.heap.size + 1, 1, none⟩ rfl (.int .i64 (q.hand : Nat))).set_ ⟨w.heap.size + 1, 2, none⟩ rfl (.int .i64 (q.hits + 1)) |>.set_ ⟨w.heap.size + 1, 3, none⟩ rfl (.int .i64 q.misses)
    obtain ⟨e0, e1, e2, e3, f0, f1, f2, f3, -⟩ := hb.c4
    have HX := Lib.hid (And.intro hall hgr)
    clear hall hgr hb
    rw [h3]
    refine ⟨_, ?_, HX.out.2, HX.out.1, trivial⟩
    simp only [execOp]
    go_simp
  case hend =>
    intro v w' hg hb h
    simp only [AllOps, Nat.zero_add, Nat.reduceAdd, and_true] at h
    obtain ⟨-, -, -, ⟨A', c', h3, hrr⟩, -, -, -, h7, h8⟩ := h
    rw [h7, h8]
    rw [h3] at hb
    have hB' : Below w.heap.size w w' := HS.out.1.grown hg HS.out.1.size (fun k hk => by simp at hk; omega)
    go_wp2_with fail
    refine ret_mem3 rfl rfl rfl rfl rfl (load_rp hb) ?_
    unfold RefGot
    rw [HG.out]
    exact ⟨⟨A', c', rfl, hrr.1, fun a ha => by have := hrr.2 a ha; omega⟩, hB'⟩

theorem refget_any (w : World) (lo : Nat) (hlo : lo ≤ w.heap.size) (q : PS) (A : Option Addr) (c : Nat) (hr : RRow w lo A q.L) (hl : q.L.length ≤ 64) (k : Int) (hh : 0 ≤ q.hits ∧ q.hits < 1000000) (hm : 0 ≤ q.misses ∧ q.misses < 1000000) :
    Calls Try.prog 16 #[rpv q A c, .int .i64 k] w (RefGot w lo q k) := by
  cases hk : whereOf q.L k with
  | none => exact refget_miss w lo q A c hr hl k hk hm
  | some i =>
    obtain ⟨hi, _, h0⟩ := where_some hk
    exact refget_hit w lo hlo q A c hr hl k i hi h0 hk hh
end Go.Proofs.Ytjaopecjmmnbiaa
