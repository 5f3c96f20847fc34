/-
  The contracts of the document's pool: Drop, New.
-/
import Derived.Test.YtjaopecjmmnbiaaPoolRefGet
namespace Go.Proofs.Ytjaopecjmmnbiaa
set_option linter.unusedSimpArgs false
set_option linter.unusedVariables false
open Go.RowKit Go.Maps

/-- What the document's Drop leaves. -/
def RefDropped (w : World) (lo : Nat) (q : PS) (k : Int) (e : Ending) (w' : World) : Prop :=
  (∃ A' c', e = .returned (.tuple #[rpv (q.drop k).2 A' c', .bool (q.drop k).1]) ∧ RRow w' lo A' (q.drop k).2.L) ∧ Below w.heap.size w w'

set_option maxRecDepth 20000 in
set_option maxHeartbeats 1000000 in
theorem refdrop_any (w : World) (lo : Nat) (hlo : lo ≤ w.heap.size) (q : PS) (A : Option Addr) (c : Nat) (hr : RRow w lo A q.L) (hl : q.L.length ≤ 64) (k : Int) :
    Calls Try.prog 18 #[rpv q A c, .int .i64 k] w (RefDropped w lo q k) := by
  cases hk : whereOf q.L k with
  | none =>
    have HK := Lib.hid hk
    by_cases h0 : 0 ≤ k
    · have HA := Lib.hid (refat_any · q A c · hl k)
      rw [atOf_none h0 hk] at HA
      clear hk
      unfold rpv at HA ⊢
      go_enter Try.func18, Try.ntmps18
      go_upto_region 1 with (fail)
      generalize hW0 : ((World.alloc w (.cells _ _)).alloc (.cells _ _)) = W
      obtain ⟨ba0, bb0, hz0, hB0⟩ := fresh2 hW0
      clear hW0
      have HB0 := Lib.hid hB0
      have BA := Lib.hid ba0
      have BB := Lib.hid bb0
      have hcc := And.intro ba0.c4 bb0.c4
      have HR := Lib.hid hr
      have HR1 := Lib.hid (hr.below hB0)
      clear ba0 bb0 hB0 hr
      go_wp2_with fail
      refine (HA.out W HR1.out.1).mono ?_
      rintro e w1 ⟨rfl, hb1⟩
      have HB1 := Lib.hid (HB0.out.trans (hb1.mono HB0.out.size))
      have BA1 := BA.out.below hb1
      have BB1 := BB.out.below hb1
      have hcc1 := And.intro BA1.c4 BB1.c4
      have BB := Lib.hid BB1
      clear hcc BA1 BB1 hb1
      have HG : Hid (q.drop k = (false, q)) := by show _ = _; unfold PS.drop; rw [HK.out]
      go_wp2_with fail
      have b1 := BB.out.all4 (u := .slice A q.L.length c) (v := .int .i64 (q.hand : Nat)) (x := .int .i64 q.hits) (y := .int .i64 q.misses)
      have hF := below_storeFrom (B := w.heap.size) (g := w.heap.size + 1) (by omega) [.slice A q.L.length c, .int .i64 (q.hand : Nat), .int .i64 q.hits, .int .i64 q.misses] 0 HB1.out
      refine ret_mem2 rfl rfl rfl rfl (load_rp b1) ?_
      unfold RefDropped
      rw [HG.out]
      exact ⟨⟨A, c, rfl, HR.out.below hF⟩, hF⟩
    · have hkn : k < 0 := by omega
      clear hk
      unfold rpv
      go_enter Try.func18, Try.ntmps18
      go_upto_region 1 with (fail)
      generalize hW0 : ((World.alloc w (.cells _ _)).alloc (.cells _ _)) = W
      obtain ⟨ba0, bb0, hz0, hB0⟩ := fresh2 hW0
      clear hW0
      have HB0 := Lib.hid hB0
      have BA := Lib.hid ba0
      have BB := Lib.hid bb0
      have hcc := And.intro ba0.c4 bb0.c4
      have HR := Lib.hid hr
      have HR1 := Lib.hid (hr.below hB0)
      clear ba0 bb0 hB0 hr
      have HG : Hid (q.drop k = (false, q)) := by show _ = _; unfold PS.drop; rw [HK.out]
      go_wp2_with fail
      have b1 := BB.out.all4 (u := .slice A q.L.length c) (v := .int .i64 (q.hand : Nat)) (x := .int .i64 q.hits) (y := .int .i64 q.misses)
      have hF := below_storeFrom (B := w.heap.size) (g := w.heap.size + 1) (by omega) [.slice A q.L.length c, .int .i64 (q.hand : Nat), .int .i64 q.hits, .int .i64 q.misses] 0 HB0.out
      refine ret_mem2 rfl rfl rfl rfl (load_rp b1) ?_
      unfold RefDropped
      rw [HG.out]
      exact ⟨⟨A, c, rfl, HR.out.below hF⟩, hF⟩
  | some i =>
    obtain ⟨hi, _, h0⟩ := where_some hk
    have HG : Hid (q.drop k = (true, { q with L := q.L.set i fr0 })) := by show _ = _; unfold PS.drop; rw [hk]
    have HA := Lib.hid (refat_any · q A c · hl k)
    have HW := Lib.hid (fun w h => refwith_any w q A c h hl i hi fr0)
    rw [atOf_some hk] at HA
    clear hk
    have hii : (i : Int) < (q.L.length : Int) := by omega
    have hi64 : (i : Int) ≤ 64 := by omega
    unfold rpv rfv txt at HW
    unfold rpv at HA ⊢
    go_enter Try.func18, Try.ntmps18
    go_upto_region 1 with (fail)
    generalize hW0 : ((World.alloc w (.cells _ _)).alloc (.cells _ _)) = W
    obtain ⟨ba0, bb0, hz0, hB0⟩ := fresh2 hW0
    clear hW0
    have HB0 := Lib.hid hB0
    have BA := Lib.hid ba0
    have BB := Lib.hid bb0
    have hcc := And.intro ba0.c4 bb0.c4
    have HR := Lib.hid hr
    have HR1 := Lib.hid (hr.below hB0)
    clear ba0 bb0 hB0 hr
    go_wp2_with fail
    refine (HA.out W HR1.out.1).mono ?_
    rintro e w1 ⟨rfl, hb1⟩
    have HB1 := HB0.out.trans (hb1.mono HB0.out.size)
    have BA1 := BA.out.below hb1
    have BB1 := BB.out.below hb1
    have hcc1 := And.intro BA1.c4 BB1.c4
    have HS := Lib.hid (And.intro HB1 (And.intro BA1 BB1))
    clear hcc BA1 BB1 hb1 HB1
    go_wp2_with fail
    clear hcc1
    apply wp_region_blk (g := w.heap.size + 1) (T := 46) (pre := [.slice none 0 0, .int .i64 0, .int .i64 0, .int .i64 0]) (post := fun x => match x with | .agg #[a, b, c, d] => [a, b, c, d] | _ => []) (s := 6) (c := 5)
      (R := fun j x w' => match j with
        | 0 => x = .agg #[.slice A q.L.length c, .int .i64 (q.hand : Nat), .int .i64 q.hits, .int .i64 q.misses]
        | 1 => x = .agg #[.slice A q.L.length c, .int .i64 (q.hand : Nat), .int .i64 q.hits, .int .i64 q.misses]
        | 2 => x = .int .i64 k
        | 3 => x = .int .i64 (i : Nat)
        | 4 => x = .agg #[.int .i64 (-1), .bool false, .string ⟨#[]⟩]
        | 5 => ∃ A' c', x = .agg #[.slice A' (q.L.set i fr0).length c', .int .i64 (q.hand : Nat), .int .i64 q.hits, .int .i64 q.misses] ∧ RRow w' (w.heap.size + 2) A' (q.L.set i fr0)
        | 7 => x = .bool true
        | _ => True)
    case hG => (intro v; simp only [regFrame, List.zipIdx_cons, List.zipIdx_nil, List.foldl_cons, List.foldl_nil, Act.put, List.setIfInBounds_toArray, List.set_cons_zero, List.set_cons_succ, Nat.reduceAdd]; rfl)
    case hm => kernel_rfl
    case honce => rfl
    case hlow => kernel_rfl
    case hs => decide
    case ho => rfl
    case hog => rfl
    case hod => rfl
    case hsc => kernel_rfl
    case hne => decide
    case hR =>
      intro j x w' w'' hg h
      split at h <;> try exact h
      obtain ⟨A', c', h1, h2, h3⟩ := h
      refine ⟨A', c', h1, h2.keep hg.size (fun a ha hl => hg.block _ hl (by have := h3 a ha; simp; omega)), h3⟩
    case h0 => exact HS.out.2.2
    case hstep =>
      refine ⟨?_, ?_, ?_, ?_, ?_, ?_, ?_, ?_, trivial⟩ <;> (intro _hne v w' hg hd; simp only [Deps, Region.binds, ↓reduceIte, and_true] at hd) <;> (try exact absurd rfl _hne) <;> (try (have bA := HS.out.2.1.grown hg (by simp); obtain ⟨e0, e1, e2, e3, -⟩ := bA.c4; clear bA; first | exact opDoes_move _ rfl rfl ⟨Below.refl _ _, rfl⟩ | exact opDoes_assign _ rfl rfl ⟨Below.refl _ _, rfl⟩ | (refine opDoes_run rfl ?_ ⟨Below.refl _ _, rfl⟩; go_simp; done) | exact opDoes_gmove _ (wanted_guard rfl rfl rfl (by simp only [hd]; rfl)) rfl ⟨Below.refl _ _, rfl⟩ | (refine opDoes_grun (wanted_guard rfl rfl rfl (by simp only [hd]; rfl)) ?_ ⟨Below.refl _ _, rfl⟩; go_simp; done) | (refine opDoes_assign _ rfl rfl ⟨Below.refl _ _, ?_⟩; go_simp; done)))
      · have hB' : Below w.heap.size w w' := HS.out.1.grown hg HS.out.1.size (fun k hk => by simp at hk; omega)
        refine opDoes_call _ _ _ #[.agg #[.slice A q.L.length c, .int .i64 (q.hand : Nat), .int .i64 q.hits, .int .i64 q.misses], .int .i64 k] rfl rfl (by go_simp) (Try.call23 _ _) ?_
        exact (HA.out w' (HR.out.1.below hB')).mono fun e w'' ⟨he, hb'⟩ => ⟨_, he, hb', rfl⟩
      · have hB' : Below w.heap.size w w' := HS.out.1.grown hg HS.out.1.size (fun k hk => by simp at hk; omega)
        refine opDoes_call _ _ _ #[.agg #[.slice A q.L.length c, .int .i64 (q.hand : Nat), .int .i64 q.hits, .int .i64 q.misses], .int .i64 (i : Nat), .agg #[.int .i64 (-1), .bool false, .string ⟨#[]⟩]] rfl rfl (by go_simp) (Try.call24 _ _) ?_
        refine (HW.out w' (HR.out.1.below hB')).mono fun e w'' ⟨⟨A', c', he, ho⟩, hb'⟩ => ⟨_, he, hb', A', c', rfl, ho.row, fun a ha => Nat.le_trans ?_ (ho.block a ha).1⟩
        have h1 := HS.out.2.2.lt
        have h2 := hg.size
        omega
    case hstore =>
      intro v w' hg hb hc hd
      obtain ⟨A', c', h3, hrr⟩ := hc
      have hall := hb.all4 (u := .slice A' (q.L.set i fr0).length c') (v := .int .i64 (q.hand : Nat)) (x := .int .i64 q.hits) (y := .int .i64 q.misses)
      have hgr := (((grown_store w' (w.heap.size + 1) 0 (.slice A' (q.L.set i fr0).length c'))).set_ ⟨w.heap.size + 1, 1, none⟩ rfl (.int .i64 (q.hand : Nat))).set_ ⟨w.heap.size + 1, 2, none⟩ rfl (.int .i64 q.hits) |>.set_ ⟨w.heap.size + 1, 3, none⟩ rfl (.int .i64 q.misses)
      obtain ⟨e0, e1, e2, e3, f0, f1, f2, f3, -⟩ := hb.c4
      have HX := Lib.hid (And.intro hall hgr)
      clear hall hgr hb
      rw [h3]
      refine ⟨_, ?_, HX.out.2, HX.out.1, trivial⟩
      simp only [execOp]
      go_simp
    case hend =>
      intro v w' hg hb h
      simp only [AllOps, Nat.zero_add, Nat.reduceAdd, and_true] at h
      obtain ⟨-, -, -, -, -, ⟨A', c', h3, hrr⟩, -, h7⟩ := h
      rw [h7]
      rw [h3] at hb
      have hB' : Below w.heap.size w w' := HS.out.1.grown hg HS.out.1.size (fun k hk => by simp at hk; omega)
      go_wp2_with fail
      refine ret_mem2 rfl rfl rfl rfl (load_rp hb) ?_
      unfold RefDropped
      rw [HG.out]
      exact ⟨⟨A', c', rfl, hrr.1, fun a ha => by have := hrr.2 a ha; omega⟩, hB'⟩
end Go.Proofs.Ytjaopecjmmnbiaa
