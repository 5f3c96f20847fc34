/-
  The walk of dowserlaw05.PoolPlays.
-/
import Derived.Test.YtjaopecjmmnbiaaPoolInv
namespace Go.Proofs.Ytjaopecjmmnbiaa
set_option linter.unusedSimpArgs false
set_option linter.unusedVariables false
open Go.RowKit Go.Maps

set_option maxRecDepth 20000 in
set_option maxHeartbeats 2000000 in
theorem poolPlays_main (w : World) (n : Nat) (h0 : 0 < n) (hn : n ≤ 64) (A : Option Addr) (c : Nat) (L : List OpB) (hr : ERow eOp w A L) (hf : ∀ o ∈ L, o.Fine w) (hfit : fitsB L = true) :
    Calls Try.prog 6 #[.int .i64 n, .slice A L.length c] w fun e w' => e = .returned (.bool true) ∧ Below w.heap.size w w' := by
  have hL : L.length ≤ 300 ∧ ∀ o ∈ L, o.l.length ≤ 100 := by
    unfold fitsB at hfit
    simpa using hfit
  have HF := Lib.hid (And.intro hf (And.intro hr hL))
  have HFIT := Lib.hid hfit
  have hlen := hL.1
  have hlo : ¬ (n : Int) < 1 := by omega
  have hhi : ¬ (64 : Int) < (n : Int) := by omega
  clear hf hr hL hfit
  go_enter Try.func6, Try.ntmps6
  go_wp2_with fail
  refine (lives_any w).mono ?_
  rintro e w1 ⟨rfl, hB1⟩
  have HB1 := Lib.hid hB1
  clear hB1
  go_wp2_with fail
  refine (fits_any w1 A c L (HF.out.2.1.below HB1.out) (by simp [maxLen]; omega) (fun o ho => by have := HF.out.2.2.2 o ho; simp [maxLen]; omega)).mono ?_
  rintro e w2 ⟨rfl, hB2⟩
  rw [HFIT.out]
  have HB2 := Lib.hid (HB1.out.trans (hB2.mono HB1.out.size))
  clear hB2
  go_wp2_with fail
  refine (new_of w2 n h0 hn).mono ?_
  rintro e w3 ⟨b, rfl, hP3, hB3⟩
  have hz2 := HB2.out.size
  have HB3 := Lib.hid (HB2.out.trans (hB3.mono hz2))
  have HP3 := Lib.hid hP3
  clear hB3 hP3
  go_wp2_with fail
  refine (refnew_any w3 n hn).mono ?_
  intro e w4 hI4
  obtain ⟨⟨Ax, cx, rfl, hr4⟩, hB4⟩ := hI4
  have HP4 := Lib.hid (HP3.out.below hB4)
  have HB4 := Lib.hid (HB3.out.trans (hB4.mono HB3.out.size))
  have hz34 := hB4.size
  have HR4 := Lib.hid hr4
  clear hB4 hr4
  unfold rpv
  go_wp2_with fail
  generalize hW0 : World.alloc w4 (.cells _ _) = W
  obtain ⟨ba0, hz0, hB0⟩ := fresh1 hW0
  clear hW0
  have hI : PInv w w2.heap.size w3.heap.size w4.heap.size b 0 (PS.new n) (PS.new n) Ax cx W :=
    ⟨HP4.out.below hB0, ba0, HR4.out.below hB0, fun a ha => by
      have := HR4.out.lt (by simpa [PS.new] using h0) a ha
      omega, fun k hk => (HP3.out.lt k hk).2, hz34, hz2, HB4.out.trans (hB0.mono HB4.out.size)⟩
  have HI := Lib.hid hI
  clear ba0 hB0 hI
  go_loopw [57] (fun iv wr => ∃ (i : Nat) (q : PS) (Ax : Option Addr) (cx : Nat), i ≤ L.length ∧ iv = .int .i64 i ∧ Hid (PInv w w2.heap.size w3.heap.size w4.heap.size b i q q Ax cx wr)) (fun iv _ => L.length - (intOf iv).toNat)
  case atStart => exact ⟨0, _, Ax, cx, by omega, rfl, HI⟩
  case round =>
    obtain ⟨i, q, Ax, cx, hi, rfl, HS⟩ := hrel
    clear HI
    by_cases hlt : i < L.length
    · have hlti : (i : Int) < (L.length : Int) := by omega
      have hN : i < 1000000 := by omega
      obtain ⟨bo, o, rfl, hb, d0, d1, d2⟩ := op_at (HF.out.2.1.below HS.out.bel) hlt
      have hfi := HF.out.1 L[i] (List.getElem_mem hlt)
      have hli := HF.out.2.2.2 L[i] (List.getElem_mem hlt)
      generalize L[i] = p at d0 d1 d2 hfi hli
      obtain ⟨pk, pn, pA, pc, pl⟩ := p
      obtain ⟨hk, hpn, hbr, hcl, hcm⟩ := hfi
      simp only at d0 d1 d2 hk hpn hbr hcl hcm hli
      obtain ⟨hn1, hn2⟩ := hpn
      have HBR := Lib.hid hbr
      clear hbr
      go_upto_region 10 with (fail)
      generalize hW1 : World.alloc wr (.cells _ _) = W1
      obtain ⟨ba1, hz1, hB1⟩ := fresh1 hW1
      clear hW1
      have HI1 := Lib.hid (HS.out.below hB1)
      have HBO := Lib.hid ba1
      have hz1 := HS.out.bel.size
      have hcc := And.intro ba1.c3 HI1.out.x.c4
      have hgo : w4.heap.size < wr.heap.size := HS.out.x.lt
      clear ba1 hB1 d0 d1 d2
      rcases kind3_all pk with hk3 | hk3 | hk3
      · go_wp2_with fail
        refine (get_of W1 w2.heap.size i b q HI1.out.pool hN pn hn1 hn2).mono ?_
        intro e w5 hI5
        obtain ⟨⟨A5, c5, rfl, hbr5, hfr5⟩, hP5, hK5⟩ := hI5
        have HI5 := Lib.hid (HI1.out.pooled hP5 hK5)
        have HBO5 := Lib.hid (HBO.out.kept hK5 (fun ho => by have := HI1.out.own _ ho; omega))
        have hcc5 := And.intro HBO5.out.c3 HI5.out.x.c4
        have HBR5 := Lib.hid hbr5
        have hcnt := HI1.out.pool.counts
        clear hcc hP5 hK5 hbr5
        go_wp2_with fail
        have hgood := HI1.out.pool.good
        refine (refget_any w5 w3.heap.size (by have := HI5.out.x.lt; omega) q Ax cx HI5.out.row hgood.n1 pn ⟨hcnt.1.1, by omega⟩ ⟨hcnt.2.1, by omega⟩).mono ?_
        intro e w6 hI6
        obtain ⟨⟨A6, c6, rfl, hr6⟩, hB6⟩ := hI6
        have HI6 := Lib.hid (HI5.out.below hB6)
        have HBO6 := Lib.hid (HBO5.out.below hB6)
        have HBR6 := Lib.hid (HBR5.out.below hB6)
        have HR6 := Lib.hid hr6
        clear hcc5 hB6 hr6 hcnt hgood
        unfold rpv txt
        go_wp2_with fail
        have hn6 := HI6.out.pool.good.n0
        have hm6 := HI6.out.pool.good.n1
        generalize (q.get pn).snd = q6 at HI6 HR6 hn6 hm6 ⊢
        generalize (q.get pn).fst.isSome = is at ⊢
        generalize (q.get pn).fst.getD [] = s at HBR6 ⊢
        generalize hW7 : World.alloc w6 (.cells _ _) = W7
        obtain ⟨ba7, hz7, hB7⟩ := fresh1 hW7
        clear hW7
        have HI7 := Lib.hid (HI6.out.below hB7)
        have HR7 := Lib.hid (HR6.out.below hB7)
        have hcv := run_string_bytes W7 c5 (HBR6.out.below hB7)
        unfold txt at hcv
        have hcc7 := And.intro ba7.c4 HI7.out.x.c4
        have h67 : w4.heap.size < w6.heap.size := HI6.out.x.lt
        have hne7 : w6.heap.size ≠ w4.heap.size := by omega
        clear HI5 HBR5
        have HS7 := Lib.hid (And.intro ba7 (And.intro HI7.out (And.intro HR7.out (HBR6.out.below hB7))))
        clear hcc7 hcv hB7 ba7
        apply wp_region_blk (g := w4.heap.size) (T := 46) (pre := _) (post := fun x => match x with | .agg #[a, b, c, d] => [a, b, c, d] | _ => []) (s := 11) (c := 9)
          (R := fun j x w' => match j with
            | 0 => x = .bool is
            | 1 => x = .bool is
            | 2 => x = .bool true
            | 3 => x = .bool true
            | 4 => x = .slice A5 s.length c5
            | 5 => x = .string ⟨s.toArray⟩
            | 6 => x = .string ⟨s.toArray⟩
            | 7 => x = .bool true
            | 8 => x = .bool true
            | 9 => x = .agg #[.slice A6 q6.L.length c6, .int .i64 (q6.hand : Nat), .int .i64 q6.hits, .int .i64 q6.misses]
            | 10 => x = .bool true
            | _ => True)
        case hG => (intro v; simp only [regFrame, List.zipIdx_cons, List.zipIdx_nil, List.foldl_cons, List.foldl_nil, Act.put, List.setIfInBounds_toArray, List.set_cons_zero, List.set_cons_succ, Nat.reduceAdd]; rfl)
        case hm => kernel_rfl
        case honce => rfl
        case hlow => kernel_rfl
        case hs => decide
        case ho => rfl
        case hog => rfl
        case hod => rfl
        case hsc => kernel_rfl
        case hne => decide
        case hR =>
          intro j x w' w'' hg h
          split at h <;> exact h
        case h0 => exact HI7.out.x
        case hstep =>
          refine ⟨?_, ?_, ?_, ?_, ?_, ?_, ?_, ?_, ?_, ?_, ?_, ?_, trivial⟩ <;> (intro _hne v w' hg hd; simp only [Deps, Region.binds, ↓reduceIte, and_true] at hd) <;> (try exact absurd rfl _hne) <;> (try (have bA := HS7.out.1.grown hg (by simp; omega); obtain ⟨e0, e1, e2, e3, -⟩ := bA.c4; clear bA; have hcv := run_string_bytes w' c5 (HS7.out.2.2.2.grown_blk hg HS7.out.2.1.x (by simp)); unfold txt at hcv; first | exact opDoes_move _ rfl rfl ⟨Below.refl _ _, rfl⟩ | exact opDoes_assign _ rfl rfl ⟨Below.refl _ _, rfl⟩ | (refine opDoes_run rfl ?_ ⟨Below.refl _ _, rfl⟩; go_simp; done) | exact opDoes_gmove _ (wanted_guard rfl rfl rfl (by simp only [hd]; rfl)) rfl ⟨Below.refl _ _, rfl⟩ | (refine opDoes_grun (wanted_guard rfl rfl rfl (by simp only [hd]; rfl)) ?_ ⟨Below.refl _ _, rfl⟩; go_simp; done) | (refine opDoes_assign _ rfl rfl ⟨Below.refl _ _, ?_⟩; go_simp; done)))
        case hstore =>
          intro v w' hg hb h3 hd
          have hall := hb.all4 (u := .slice A6 q6.L.length c6) (v := .int .i64 (q6.hand : Nat)) (x := .int .i64 q6.hits) (y := .int .i64 q6.misses)
          have hgr := (((grown_store w' (w4.heap.size) 0 (.slice A6 q6.L.length c6)).set_ ⟨w4.heap.size, 1, none⟩ rfl (.int .i64 (q6.hand : Nat))).set_ ⟨w4.heap.size, 2, none⟩ rfl (.int .i64 q6.hits)).set_ ⟨w4.heap.size, 3, none⟩ rfl (.int .i64 q6.misses)
          obtain ⟨e0, e1, e2, e3, f0, f1, f2, f3, -⟩ := hb.c4
          have HX := Lib.hid (And.intro hall hgr)
          clear hall hgr hb
          rw [h3]
          refine ⟨_, ?_, HX.out.2, HX.out.1, trivial⟩
          simp only [execOp]
          go_simp
        case hend =>
          intro v w' hg hb h
          simp only [AllOps, Nat.zero_add, Nat.reduceAdd, and_true] at h
          obtain ⟨-, -, -, -, -, -, -, -, -, h9, h10⟩ := h
          rw [h10]
          rw [h9] at hb
          have HI8 : Hid (PInv w w2.heap.size w3.heap.size w4.heap.size b (i + 1) q6 q6 A6 c6 w') := HS7.out.2.1.newg hg hb (HS7.out.2.2.1) (HS7.out.2.2.1.ne hn6 HS7.out.2.1.x (by simp))
          clear hb h9 h10
          have hcc8 := HI8.out.x.c4
          go_wp2_with fail
          refine (pages_of w' w2.heap.size (i + 1) b q6 HI8.out.pool).mono ?_
          intro e w9 hI9
          obtain ⟨AP, cP, rfl, hoP, hB9⟩ := hI9
          have HI9 := Lib.hid (HI8.out.below hB9)
          have HOP := Lib.hid hoP
          clear hB9 hoP hcc8
          go_wp2_with fail
          refine (counts_of w9 w2.heap.size (i + 1) b q6 HI9.out.pool).mono ?_
          rintro e w10 ⟨rfl, hB10⟩
          have HI10 := Lib.hid (HI9.out.below hB10)
          have HOP10 := Lib.hid (HOP.out.below hB10)
          have hcc10 := HI10.out.x.c4
          clear hB10
          go_wp2_with fail
          obtain ⟨gP, rfl⟩ : ∃ g, AP = some ⟨g, 0, none⟩ := by
            rcases HOP10.out.form with ⟨_, _, e⟩ | ⟨g, e, _⟩
            · have h0 := HI8.out.pool.good.n0
              rw [List.map_eq_nil_iff] at e
              rw [e] at h0
              simp at h0
            · exact ⟨g, e⟩
          go_loop [174] (fun jv => ∃ j : Nat, j ≤ (q6).L.length ∧ jv = .int .i64 j) (fun jv => (q6).L.length - (intOf jv).toNat)
          case atStart => exact ⟨0, by omega, rfl⟩
          case round =>
            obtain ⟨j, hj, rfl⟩ := hrel
            by_cases hjl : j < (q6).L.length
            · have hji : (j : Int) < ((q6).L.length : Int) := by omega
              have hj64 : (j : Int) ≤ 64 := by omega
              obtain ⟨bx, ox, hAx, hbx, r0, -, -⟩ := rf_at HI10.out.row.1 hjl
              have hp0 := HOP10.out.cell (j := j) (k := 0) (by simpa using hjl) rfl
              have hp : w10.cell? ⟨gP, j, none⟩ = some (.int .i64 (q6).L[j].page) := by simpa [eInt] using hp0
              subst hAx
              clear hp0
              go_wp2_with fail
              go_round
              case rel => exact ⟨j + 1, by omega, by go_num⟩
              case measure => simp [intOf]; omega
            · have hji : ¬ (j : Int) < ((q6).L.length : Int) := by omega
              go_wp2_with fail
              go_roundw
              case rel => exact ⟨i + 1, q6, A6, c6, by omega, by go_num, HI10.out⟩
              case measure => simp [intOf]; omega
      · go_upto_region 20 with (at_builtin; refine wpList_append_bytes rfl (.tmp 108) (.tmp 110) rfl 0 rfl (BOwn.new (B := W1.heap.size) W1 [] (by simp) (Nat.le_refl _)) rfl _ rfl ((HBR.out.below (HI1.out.bel)).below (fresh1 rfl).2.2) rfl (by simp; omega) (by simp) ?_; intro A5 c5 w5 ho5 hb5 hg5 hor5)
        obtain ⟨gX, rfl, hgX, hgX2⟩ : ∃ gX, A5 = some ⟨gX, 0, none⟩ ∧ W1.heap.size ≤ gX ∧ gX < w5.heap.size := by
          rcases ho5.form with ⟨rfl, _, _⟩ | ⟨g, h1, h2, h3, _⟩
          · simp at hor5
          · exact ⟨g, h1, h2, h3⟩
        rw [List.nil_append] at ho5
        have hb5' : Below W1.heap.size W1 w5 := ((Below.refl _ _).alloc (Nat.le_refl _) _).trans hb5
        have HI5 := Lib.hid (HI1.out.below hb5')
        have HBO5 := Lib.hid (HBO.out.below hb5')
        have HX5 := Lib.hid ((HI1.out.pool.toX (X := fun k => k = gX) (fun k hk => by subst hk; exact hgX)).below hb5')
        have hcc5 := And.intro HBO5.out.c3 HI5.out.x.c4
        have HO5 := Lib.hid ho5
        have hgo5 : ¬ b.own gX := fun ho => by have h1 := HI1.out.own _ ho; have h2 := HI1.out.log; omega
        have hAx5 : ∀ a, Ax = some a → a.block ≠ gX := fun a ha => by have := HI1.out.row.lt HI1.out.pool.good.n0 a ha; omega
        have hsz5 : w4.heap.size < w5.heap.size := HI5.out.x.lt
        clear hcc hb5 hb5' ho5 hg5 hor5
        go_wp2_with fail
        refine (put_anyx (fun k => k = gX) w5 w2.heap.size i b q HX5.out (fun k hk => by subst hk; exact hgX2) hN pn hn2 (some ⟨gX, 0, none⟩) c5 pl HO5.out.row (by omega) (fun a ha => by obtain rfl := Option.some.inj ha; exact hgo5)).mono ?_
        intro e w6 hI6
        obtain ⟨rfl, hP6, hK6⟩ := hI6
        have HI6 := Lib.hid (HI5.out.pooled hP6.toOf hK6)
        have HBO6 := Lib.hid (HBO5.out.kept hK6 (fun ho => by have := HI1.out.own _ ho; omega))
        have HO6 : Hid (BOwn w6 W1.heap.size (some ⟨gX, 0, none⟩) c5 pl) := HO5.out.keptK hK6 (fun a ha => by obtain rfl := Option.some.inj ha; exact hgo5)
        have HX6 := Lib.hid hP6
        have hcc6 := And.intro HBO6.out.c3 HI6.out.x.c4
        have hcv := run_string_bytes w6 pc (HBR.out.below HI6.out.bel)
        unfold txt at hcv
        have hK6s := hK6.size
        clear hcc5 hP6 hK6
        have hrp := refput_any w6 w3.heap.size (by have := HI6.out.x.lt; omega) q HI1.out.pool.good Ax cx HI6.out.row pn pl
        generalize hq6 : q.putAny pn pl = mq at HI6 HX6 hrp ⊢
        unfold RefPutAny at hrp
        rw [hq6] at hrp
        clear hq6
        obtain ⟨m6, q6⟩ := mq
        simp only at HI6 HX6 hrp ⊢
        unfold rpv txt at hrp
        have HRP := Lib.hid hrp
        clear hrp
        go_wp2_with fail
        refine HRP.out.mono ?_
        intro e w7 hI7
        obtain ⟨⟨A7, c7, rfl, hr7, hfr7⟩, hB7⟩ := hI7
        have HI7 := Lib.hid (HI6.out.below hB7)
        have HBO7 := Lib.hid (HBO6.out.below hB7)
        have HO7 := Lib.hid (HO6.out.below hB7)
        have HX7 := Lib.hid (HX6.out.below hB7)
        have HR7 := Lib.hid hr7
        have hA7 : ∀ a, A7 = some a → a.block ≠ gX := fun a ha => by
          rcases hfr7 a ha with h | h
          · exact hAx5 a (h ▸ ha)
          · omega
        clear hcc6 hB7 hr7 hfr7 hcv
        go_wp2_with fail
        generalize hW8 : World.alloc w7 (.cells _ _) = W8
        obtain ⟨ba8, hz8, hB8⟩ := fresh1 hW8
        clear hW8
        have HS8 := Lib.hid (And.intro ba8 (And.intro (HI7.out.below hB8) (And.intro (HR7.out.below hB8) (And.intro (HO7.out.below hB8) (HX7.out.below hB8)))))
        have h78 : w4.heap.size < w7.heap.size := HI7.out.x.lt
        have hn6 := HI6.out.pool.good.n0
        have hm6 := HI6.out.pool.good.n1
        have hwX : w.heap.size ≤ gX := by have := HI1.out.bel.size; omega
        have hgXg : w4.heap.size ≠ gX := by have := HI1.out.x.lt; omega
        clear ba8 hB8
        apply wp_region_blk (g := w4.heap.size) (T := 46) (pre := _) (post := fun x => match x with | .agg #[a, b, c, d] => [a, b, c, d] | _ => []) (s := 5) (c := 3)
          (R := fun j x w' => match j with
            | 0 => x = .int .i64 m6
            | 1 => x = .int .i64 m6
            | 2 => x = .bool true
            | 3 => x = .agg #[.slice A7 q6.L.length c7, .int .i64 (q6.hand : Nat), .int .i64 q6.hits, .int .i64 q6.misses]
            | 4 => x = .bool true
            | _ => True)
        case hG => (intro v; simp only [regFrame, List.zipIdx_cons, List.zipIdx_nil, List.foldl_cons, List.foldl_nil, Act.put, List.setIfInBounds_toArray, List.set_cons_zero, List.set_cons_succ, Nat.reduceAdd]; rfl)
        case hm => kernel_rfl
        case honce => rfl
        case hlow => kernel_rfl
        case hs => decide
        case ho => rfl
        case hog => rfl
        case hod => rfl
        case hsc => kernel_rfl
        case hne => decide
        case hR =>
          intro j x w' w'' hg h
          split at h <;> exact h
        case h0 => exact HS8.out.2.1.x
        case hstep =>
          refine ⟨?_, ?_, ?_, ?_, ?_, ?_, trivial⟩ <;> (intro _hne v w' hg hd; simp only [Deps, Region.binds, ↓reduceIte, and_true] at hd) <;> (try exact absurd rfl _hne) <;> (try (have bA := HS8.out.1.grown hg (by simp; omega); obtain ⟨e0, e1, e2, e3, -⟩ := bA.c4; clear bA; first | exact opDoes_move _ rfl rfl ⟨Below.refl _ _, rfl⟩ | exact opDoes_assign _ rfl rfl ⟨Below.refl _ _, rfl⟩ | (refine opDoes_run rfl ?_ ⟨Below.refl _ _, rfl⟩; go_simp; done) | exact opDoes_gmove _ (wanted_guard rfl rfl rfl (by simp only [hd]; rfl)) rfl ⟨Below.refl _ _, rfl⟩ | (refine opDoes_grun (wanted_guard rfl rfl rfl (by simp only [hd]; rfl)) ?_ ⟨Below.refl _ _, rfl⟩; go_simp; done) | (refine opDoes_assign _ rfl rfl ⟨Below.refl _ _, ?_⟩; go_simp; done)))
        case hstore =>
          intro v w' hg hb h3 hd
          have hall := hb.all4 (u := .slice A7 q6.L.length c7) (v := .int .i64 (q6.hand : Nat)) (x := .int .i64 q6.hits) (y := .int .i64 q6.misses)
          have hgr := (((grown_store w' (w4.heap.size) 0 (.slice A7 q6.L.length c7)).set_ ⟨w4.heap.size, 1, none⟩ rfl (.int .i64 (q6.hand : Nat))).set_ ⟨w4.heap.size, 2, none⟩ rfl (.int .i64 q6.hits)).set_ ⟨w4.heap.size, 3, none⟩ rfl (.int .i64 q6.misses)
          obtain ⟨e0, e1, e2, e3, f0, f1, f2, f3, -⟩ := hb.c4
          have HX := Lib.hid (And.intro hall hgr)
          clear hall hgr hb
          rw [h3]
          refine ⟨_, ?_, HX.out.2, HX.out.1, trivial⟩
          simp only [execOp]
          go_simp
        case hend =>
          intro v w' hg hb h
          simp only [AllOps, Nat.zero_add, Nat.reduceAdd, and_true] at h
          obtain ⟨-, -, -, h3, h4⟩ := h
          rw [h4]
          rw [h3] at hb
          have HI9 : Hid (PInv w w2.heap.size w3.heap.size w4.heap.size b (i + 1) q6 q6 A7 c7 w') := HS8.out.2.1.newg hg hb (HS8.out.2.2.1) (HS8.out.2.2.1.ne hn6 HS8.out.2.1.x (by simp))
          have HO9 : Hid (BOwn w' W1.heap.size (some ⟨gX, 0, none⟩) c5 pl) := HS8.out.2.2.2.1.kept hg (.inr (by simp; exact fun e => hgXg e.symm))
          have HX9 : Hid (PoolX (fun k => k = gX) w' w2.heap.size b (i + 1) q6) := HS8.out.2.2.2.2.atg HS8.out.2.1 hg
          clear hb h3 h4 HI6 HI5 HX5 HX6 HX7 HI7 HS8
          go_wp2_with fail
          go_loopw [133] (fun jv wr2 => ∃ j : Nat, j ≤ pl.length ∧ jv = .int .i64 j ∧ Hid (∃ l' : List UInt8, l'.length = pl.length ∧ BOwn wr2 W1.heap.size (some ⟨gX, 0, none⟩) c5 l' ∧ PoolX (fun k => k = gX) wr2 w2.heap.size b (i + 1) q6 ∧ PInv w w2.heap.size w3.heap.size w4.heap.size b (i + 1) q6 q6 A7 c7 wr2)) (fun jv _ => pl.length - (intOf jv).toNat)
          case atStart => exact ⟨0, by omega, rfl, pl, rfl, HO9.out, HX9.out, HI9.out⟩
          case round =>
            obtain ⟨j, hj, rfl, HJ⟩ := hrel
            by_cases hjl : j < pl.length
            · have hji : (j : Int) < (pl.length : Int) := by omega
              obtain ⟨l', hl', ho', hx', hi'⟩ := HJ.out
              have hc0 := ho'.cell (j := j) (by omega)
              have hf0 := ho'.free j
              have hjl' : j < l'.length := by omega
              have hb0 := bump_byte l'[j]
              have hst := ho'.store j (UInt8.ofNat (l'[j].toNat + 1)) _ hb0
              have hK := (Keeps.refl wr (fun k => k = gX)).set ⟨gX, j, none⟩ (.inl rfl) (.int .u8 (((l'[j].toNat : Int) + 1) % 256))
              have HF : Hid (BOwn _ _ _ _ _ ∧ _) := And.intro hst (And.intro (hx'.scribble hK hgo5) (hi'.scribble hx' hK hgo5 hgXg hwX hA7))
              generalize l'[j].toNat = cb at hc0 HF
              clear ho' hx' hi' hb0 hst hK
              go_wp2_with fail
              go_roundw
              case rel => exact ⟨j + 1, by omega, by go_num, _, by rw [List.length_set]; exact hl', HF.out⟩
              case measure => simp [intOf]; omega
            · have hji : ¬ (j : Int) < (pl.length : Int) := by omega
              have HI8 : Hid (PInv w w2.heap.size w3.heap.size w4.heap.size b (i + 1) q6 q6 A7 c7 wr) := by obtain ⟨_, _, _, _, h⟩ := HJ.out; exact h
              have hcc8 := HI8.out.x.c4
              go_wp2_with fail
              refine (pages_of wr w2.heap.size (i + 1) b q6 HI8.out.pool).mono ?_
              intro e w9 hI9
              obtain ⟨AP, cP, rfl, hoP, hB9⟩ := hI9
              have HI9 := Lib.hid (HI8.out.below hB9)
              have HOP := Lib.hid hoP
              clear hB9 hoP hcc8
              go_wp2_with fail
              refine (counts_of w9 w2.heap.size (i + 1) b q6 HI9.out.pool).mono ?_
              rintro e w10 ⟨rfl, hB10⟩
              have HI10 := Lib.hid (HI9.out.below hB10)
              have HOP10 := Lib.hid (HOP.out.below hB10)
              have hcc10 := HI10.out.x.c4
              clear hB10
              go_wp2_with fail
              obtain ⟨gP, rfl⟩ : ∃ g, AP = some ⟨g, 0, none⟩ := by
                rcases HOP10.out.form with ⟨_, _, e⟩ | ⟨g, e, _⟩
                · have h0 := HI8.out.pool.good.n0
                  rw [List.map_eq_nil_iff] at e
                  rw [e] at h0
                  simp at h0
                · exact ⟨g, e⟩
              go_loop [174] (fun jv => ∃ j : Nat, j ≤ (q6).L.length ∧ jv = .int .i64 j) (fun jv => (q6).L.length - (intOf jv).toNat)
              case atStart => exact ⟨0, by omega, rfl⟩
              case round =>
                obtain ⟨j, hj, rfl⟩ := hrel
                by_cases hjl : j < (q6).L.length
                · have hji : (j : Int) < ((q6).L.length : Int) := by omega
                  have hj64 : (j : Int) ≤ 64 := by omega
                  obtain ⟨bx, ox, hAx, hbx, r0, -, -⟩ := rf_at HI10.out.row.1 hjl
                  have hp0 := HOP10.out.cell (j := j) (k := 0) (by simpa using hjl) rfl
                  have hp : w10.cell? ⟨gP, j, none⟩ = some (.int .i64 (q6).L[j].page) := by simpa [eInt] using hp0
                  subst hAx
                  clear hp0
                  go_wp2_with fail
                  go_round
                  case rel => exact ⟨j + 1, by omega, by go_num⟩
                  case measure => simp [intOf]; omega
                · have hji : ¬ (j : Int) < ((q6).L.length : Int) := by omega
                  go_wp2_with fail
                  go_roundw
                  case rel => exact ⟨i + 1, q6, A7, c7, by omega, by go_num, HI10.out⟩
                  case measure => simp [intOf]; omega
      · go_wp2_with fail
        have hrd := refdrop_any W1 w3.heap.size (by have := HI1.out.x.lt; omega) q Ax cx HI1.out.row HI1.out.pool.good.n1 pn
        have hdr := fun wq (hP : PoolOf wq w2.heap.size b i q) => drop_of wq w2.heap.size i b q hP pn hn1 hn2
        unfold RefDropped rpv at hrd
        unfold DropIs at hdr
        have hgd := HI1.out.pool.good
        generalize hq6 : q.drop pn = mq at hrd hdr ⊢
        obtain ⟨m6, q6⟩ := mq
        simp only at hrd hdr
        have HDR := Lib.hid hdr
        have HRD := Lib.hid hrd
        have HQ6 := Lib.hid hq6
        clear hrd hdr hq6
        refine HRD.out.mono ?_
        intro e w5 hI5
        obtain ⟨⟨A5, c5, rfl, hr5⟩, hB5⟩ := hI5
        have HI5 := Lib.hid (HI1.out.below hB5)
        have HBO5 := Lib.hid (HBO.out.below hB5)
        have HR5 := Lib.hid hr5
        have hcc5 := And.intro HBO5.out.c3 HI5.out.x.c4
        clear hcc hB5 hr5
        go_wp2_with fail
        generalize hW8 : World.alloc w5 (.cells _ _) = W8
        obtain ⟨ba8, hz8, hB8⟩ := fresh1 hW8
        clear hW8
        have h58 : w4.heap.size < w5.heap.size := HI5.out.x.lt
        have hro : wr.heap.size < w5.heap.size := HBO5.out.lt
        have hnO : ∀ k, b.own k → k < w4.heap.size := fun k hk => Nat.lt_of_lt_of_le (HI1.out.own k hk) HI1.out.log
        have hn6 : 0 < q6.L.length ∧ q6.L.length ≤ 64 := by
          have h := drop_len q pn
          rw [HQ6.out] at h
          have h1 := hgd.n0
          have h2 := hgd.n1
          simp only at h
          omega
        have HS8 : Hid (PInv w w2.heap.size w3.heap.size w4.heap.size b i q q Ax cx W8 ∧ Blk W8 wr.heap.size 41 [.int .i64 pk, .int .i64 pn, .slice pA pl.length pc] ∧
            Blk W8 w5.heap.size 46 [.slice A5 q6.L.length c5, .int .i64 (q6.hand : Nat), .int .i64 q6.hits, .int .i64 q6.misses] ∧ RRow W8 w3.heap.size A5 q6.L) := ⟨HI5.out.below hB8, HBO5.out.below hB8, ba8, HR5.out.below hB8⟩
        clear ba8 hB8 hcc5 HRD
        apply wp_region_st (fun D w' => PInv w w2.heap.size w3.heap.size w4.heap.size b (if D 3 then i + 1 else i) (if D 3 then q6 else q) (if D 8 then q6 else q) (if D 8 then A5 else Ax) (if D 8 then c5 else cx) w' ∧
            Blk w' wr.heap.size 41 [.int .i64 pk, .int .i64 pn, .slice pA pl.length pc] ∧
            Blk w' w5.heap.size 46 [.slice A5 q6.L.length c5, .int .i64 (q6.hand : Nat), .int .i64 q6.hits, .int .i64 q6.misses] ∧ RRow w' w3.heap.size A5 q6.L) (fun _ _ => True) (fun j x _ => match j with
            | 0 => x = .pointer (some ⟨b.gp, 0, none⟩)
            | 1 => x = .pointer (some ⟨wr.heap.size, 1, none⟩)
            | 2 => x = .int .i64 pn
            | 3 => x = .bool m6
            | 4 => x = .bool m6
            | 5 => x = .bool true
            | 6 => x = .agg #[.slice A5 q6.L.length c5, .int .i64 (q6.hand : Nat), .int .i64 q6.hits, .int .i64 q6.misses]
            | 7 => x = .bool true
            | _ => True)
        case hG => (intro v; simp only [regFrame, List.zipIdx_cons, List.zipIdx_nil, List.foldl_cons, List.foldl_nil, Act.put, List.setIfInBounds_toArray, List.set_cons_zero, List.set_cons_succ, Nat.reduceAdd]; rfl)
        case hm => kernel_rfl
        case honce => rfl
        case hlow => kernel_rfl
        case hR => (intro i x w1 w2 _ h; split at h <;> exact h)
        case h0 => exact ⟨HS8.out.1.below (w' := W8.drew) ⟨rfl, rfl, rfl, Nat.le_refl _, fun _ _ => rfl⟩, HS8.out.2.1, HS8.out.2.2.1, HS8.out.2.2.2⟩
        case hstep =>
          refine ⟨?_, ?_, ?_, ?_, ?_, ?_, ?_, ?_, ?_, trivial⟩ <;> (intro D v w1 hI hf hd hc; simp only [Deps, Region.binds, ↓reduceIte] at hd)
          · (first | exact opDoes_move _ rfl rfl ⟨(by first | trivial | exact fun _ _ h => h | exact Below.refl _ _), rfl, by (first | exact hI | simpa using hI)⟩ | exact opDoes_gmove _ (wanted_guard rfl rfl rfl (by simp only [hd]; rfl)) rfl ⟨(by first | trivial | exact fun _ _ h => h | exact Below.refl _ _), rfl, by (first | exact hI | simpa using hI)⟩ | (refine opDoes_move _ rfl rfl ⟨(by first | trivial | exact fun _ _ h => h | exact Below.refl _ _), ?_, by (first | exact hI | simpa using hI)⟩; go_simp; done) | (refine opDoes_gmove _ (wanted_guard rfl rfl rfl (by simp only [hd]; rfl)) rfl ⟨(by first | trivial | exact fun _ _ h => h | exact Below.refl _ _), ?_, by (first | exact hI | simpa using hI)⟩; go_simp; done) | (refine opDoes_assign _ rfl rfl ⟨(by first | trivial | exact fun _ _ h => h | exact Below.refl _ _), ?_, by (first | exact hI | simpa using hI)⟩; go_simp; done))
          · (first | (refine opDoes_run (x := (.pointer (some ⟨wr.heap.size, 1, none⟩))) rfl ?_ ⟨(by first | trivial | exact fun _ _ h => h | exact Below.refl _ _), rfl, by (first | exact hI | simpa using hI)⟩; go_simp; done) | (refine opDoes_grun (x := (.pointer (some ⟨wr.heap.size, 1, none⟩))) (wanted_guard rfl rfl rfl (by simp only [hd]; rfl)) ?_ ⟨(by first | trivial | exact fun _ _ h => h | exact Below.refl _ _), rfl, by (first | exact hI | simpa using hI)⟩; go_simp; done))
          · have bA := hI.2.1.c3
            obtain ⟨e0, e1, e2, -⟩ := bA
            have HI := Lib.hid hI
            clear hI
            refine opDoes_run (x := .int .i64 pn) rfl ?_ ⟨trivial, rfl, by simpa using HI.out⟩
            go_simp
          · refine opDoes_call _ _ _ #[.pointer (some ⟨b.gp, 0, none⟩), .int .i64 pn] rfl rfl (by go_simp) (Try.call14 _ _) ?_
            obtain ⟨i1, i2, i3, i4⟩ := hI
            simp only [hf, Bool.false_eq_true, if_false] at i1
            refine (HDR.out w1 i1.pool).mono fun e w2' ⟨he, hP, hK⟩ => ⟨_, he, trivial, rfl, ?_⟩
            have j1 := i1.pooled hP hK
            refine ⟨by simpa using j1, i2.kept hK (fun ho => by have := hnO _ ho; omega), i3.kept hK (fun ho => by have := hnO _ ho; omega), ⟨i4.1.keep hK.size (fun a ha hl => hK.block _ hl (fun ho => by have := i1.own _ ho; have := i4.2 a ha; omega)), i4.2⟩⟩
          · (first | exact opDoes_move _ rfl rfl ⟨(by first | trivial | exact fun _ _ h => h | exact Below.refl _ _), rfl, by (first | exact hI | simpa using hI)⟩ | exact opDoes_gmove _ (wanted_guard rfl rfl rfl (by simp only [hd]; rfl)) rfl ⟨(by first | trivial | exact fun _ _ h => h | exact Below.refl _ _), rfl, by (first | exact hI | simpa using hI)⟩ | (refine opDoes_move _ rfl rfl ⟨(by first | trivial | exact fun _ _ h => h | exact Below.refl _ _), ?_, by (first | exact hI | simpa using hI)⟩; go_simp; done) | (refine opDoes_gmove _ (wanted_guard rfl rfl rfl (by simp only [hd]; rfl)) rfl ⟨(by first | trivial | exact fun _ _ h => h | exact Below.refl _ _), ?_, by (first | exact hI | simpa using hI)⟩; go_simp; done) | (refine opDoes_assign _ rfl rfl ⟨(by first | trivial | exact fun _ _ h => h | exact Below.refl _ _), ?_, by (first | exact hI | simpa using hI)⟩; go_simp; done))
          · have HI := Lib.hid hI
            clear hI
            refine opDoes_run (x := .bool true) rfl ?_ ⟨trivial, rfl, by simpa using HI.out⟩
            go_simp
          · have bA := hI.2.2.1.c4
            obtain ⟨e0, e1, e2, e3, -⟩ := bA
            have HI := Lib.hid hI
            clear hI
            refine opDoes_run (x := .agg #[.slice A5 q6.L.length c5, .int .i64 (q6.hand : Nat), .int .i64 q6.hits, .int .i64 q6.misses]) rfl ?_ ⟨trivial, rfl, by simpa using HI.out⟩
            go_simp
          · (first | exact opDoes_move _ rfl rfl ⟨(by first | trivial | exact fun _ _ h => h | exact Below.refl _ _), rfl, by (first | exact hI | simpa using hI)⟩ | exact opDoes_gmove _ (wanted_guard rfl rfl rfl (by simp only [hd]; rfl)) rfl ⟨(by first | trivial | exact fun _ _ h => h | exact Below.refl _ _), rfl, by (first | exact hI | simpa using hI)⟩ | (refine opDoes_move _ rfl rfl ⟨(by first | trivial | exact fun _ _ h => h | exact Below.refl _ _), ?_, by (first | exact hI | simpa using hI)⟩; go_simp; done) | (refine opDoes_gmove _ (wanted_guard rfl rfl rfl (by simp only [hd]; rfl)) rfl ⟨(by first | trivial | exact fun _ _ h => h | exact Below.refl _ _), ?_, by (first | exact hI | simpa using hI)⟩; go_simp; done) | (refine opDoes_assign _ rfl rfl ⟨(by first | trivial | exact fun _ _ h => h | exact Below.refl _ _), ?_, by (first | exact hI | simpa using hI)⟩; go_simp; done))
          · obtain ⟨i1, i2, i3, i4⟩ := hI
            simp only [hf, Bool.false_eq_true, if_false] at i1
            have hgr := (((grown_store w1 w4.heap.size 0 (.slice A5 q6.L.length c5))).set_ ⟨w4.heap.size, 1, none⟩ rfl (.int .i64 (q6.hand : Nat))).set_ ⟨w4.heap.size, 2, none⟩ rfl (.int .i64 q6.hits) |>.set_ ⟨w4.heap.size, 3, none⟩ rfl (.int .i64 q6.misses)
            have hne5 := i4.ne hn6.1 i1.x (by simp)
            have j1 := i1.newg hgr i1.x.all4 i4 hne5
            have j2 := i2.grown hgr (by simp; omega)
            have j3 := i3.grown hgr (by simp; omega)
            have j4 : RRow _ w3.heap.size A5 q6.L := ⟨i4.1.keep hgr.size (fun a ha hl => hgr.block _ hl (by simp; exact hne5 a ha)), i4.2⟩
            obtain ⟨e0, e1, e2, e3, f0, f1, f2, f3, -⟩ := i1.x.c4
            have HX := Lib.hid (And.intro j1 (And.intro j2 (And.intro j3 j4)))
            clear j1 j2 j3 j4 hgr i1 i2 i3 i4
            refine opDoes_skip rfl (w' := (((w1.setCell ⟨w4.heap.size, 0, none⟩ (.slice A5 q6.L.length c5)).setCell ⟨w4.heap.size, 1, none⟩ (.int .i64 (q6.hand : Nat))).setCell ⟨w4.heap.size, 2, none⟩ (.int .i64 q6.hits)).setCell ⟨w4.heap.size, 3, none⟩ (.int .i64 q6.misses)) ?_ ⟨trivial, trivial, by simpa using HX.out⟩
            go_simp
        case hend =>
          intro D v w' hI h
          simp only [AllOps, Nat.zero_add, Nat.reduceAdd, and_true] at h
          have hD3 := h.2.2.2.1.1
          have hD8 := h.2.2.2.2.2.2.2.2
          have h7 := h.2.2.2.2.2.2.2.1.2
          rw [h7]
          simp only [hD3, hD8, if_true] at hI
          have HI8 : Hid (PInv w w2.heap.size w3.heap.size w4.heap.size b (i + 1) q6 q6 A5 c5 w') := hI.1
          clear hI h hD3 hD8 h7
          have hcc8 := HI8.out.x.c4
          go_wp2_with fail
          refine (pages_of w' w2.heap.size (i + 1) b q6 HI8.out.pool).mono ?_
          intro e w9 hI9
          obtain ⟨AP, cP, rfl, hoP, hB9⟩ := hI9
          have HI9 := Lib.hid (HI8.out.below hB9)
          have HOP := Lib.hid hoP
          clear hB9 hoP hcc8
          go_wp2_with fail
          refine (counts_of w9 w2.heap.size (i + 1) b q6 HI9.out.pool).mono ?_
          rintro e w10 ⟨rfl, hB10⟩
          have HI10 := Lib.hid (HI9.out.below hB10)
          have HOP10 := Lib.hid (HOP.out.below hB10)
          have hcc10 := HI10.out.x.c4
          clear hB10
          go_wp2_with fail
          obtain ⟨gP, rfl⟩ : ∃ g, AP = some ⟨g, 0, none⟩ := by
            rcases HOP10.out.form with ⟨_, _, e⟩ | ⟨g, e, _⟩
            · have h0 := HI8.out.pool.good.n0
              rw [List.map_eq_nil_iff] at e
              rw [e] at h0
              simp at h0
            · exact ⟨g, e⟩
          go_loop [174] (fun jv => ∃ j : Nat, j ≤ (q6).L.length ∧ jv = .int .i64 j) (fun jv => (q6).L.length - (intOf jv).toNat)
          case atStart => exact ⟨0, by omega, rfl⟩
          case round =>
            obtain ⟨j, hj, rfl⟩ := hrel
            by_cases hjl : j < (q6).L.length
            · have hji : (j : Int) < ((q6).L.length : Int) := by omega
              have hj64 : (j : Int) ≤ 64 := by omega
              obtain ⟨bx, ox, hAx, hbx, r0, -, -⟩ := rf_at HI10.out.row.1 hjl
              have hp0 := HOP10.out.cell (j := j) (k := 0) (by simpa using hjl) rfl
              have hp : w10.cell? ⟨gP, j, none⟩ = some (.int .i64 (q6).L[j].page) := by simpa [eInt] using hp0
              subst hAx
              clear hp0
              go_wp2_with fail
              go_round
              case rel => exact ⟨j + 1, by omega, by go_num⟩
              case measure => simp [intOf]; omega
            · have hji : ¬ (j : Int) < ((q6).L.length : Int) := by omega
              go_wp2_with fail
              go_roundw
              case rel => exact ⟨i + 1, q6, A5, c5, by omega, by go_num, HI10.out⟩
              case measure => simp [intOf]; omega
    · obtain rfl : i = L.length := by omega
      have hlti : ¬ (L.length : Int) < (L.length : Int) := by omega
      go_wp2_with fail
      go_ret
      exact ⟨rfl, HS.out.bel⟩

set_option maxRecDepth 20000 in
set_option maxHeartbeats 1000000 in
theorem poolPlays_walk (w : World) (n : Int) (wf : (Lit.int .i64 n).wf = true) (v : Value) (hv : ScriptIn w v) :
    Calls Try.prog 6 #[.int .i64 n, v] w fun e w' => e = .returned (.bool true) ∧ Below w.heap.size w w' := by
  obtain ⟨A, c, L, rfl, hr, hf, hlc, hcm⟩ := hv
  have hfl : ∀ o ∈ L, o.l.length ≤ maxLen := fun o ho => Nat.le_trans (hf o ho).2.2.2.1 (hf o ho).2.2.2.2
  by_cases hfit : fitsB L = true
  · by_cases hn : n < 1 ∨ 64 < n
    · have HF := Lib.hid hfit
      have HR := Lib.hid hr
      have HL := Lib.hid hfl
      have HN := Lib.hid hn
      clear hfit hr hfl hf hn
      go_enter Try.func6, Try.ntmps6
      go_wp2_with fail
      refine (lives_any w).mono ?_
      rintro e w1 ⟨rfl, hB1⟩
      have HB1 := Lib.hid hB1
      clear hB1
      go_wp2_with fail
      refine (fits_any w1 A c L (HR.out.below HB1.out) (Nat.le_trans hlc hcm) HL.out).mono ?_
      rintro e w2 ⟨rfl, hB2⟩
      rw [HF.out]
      have HB2 := Lib.hid (HB1.out.trans (hB2.mono HB1.out.size))
      clear hB2
      go_wp2_with fail
      refine (new_refused w2 n HN.out).mono ?_
      rintro e w3 ⟨rfl, rfl⟩
      rcases HN.out with hn | hn
      · go_wp2_with fail
        go_ret
        exact ⟨rfl, HB2.out⟩
      · have hn1 : ¬ n < 1 := by omega
        go_wp2_with fail
        go_ret
        exact ⟨rfl, HB2.out⟩
    · obtain ⟨m, rfl⟩ : ∃ m : Nat, n = (m : Int) := ⟨n.toNat, by omega⟩
      exact poolPlays_main w m (by omega) (by omega) A c L hr hf hfit
  · have hff : fitsB L = false := by simpa using hfit
    have HF := Lib.hid hff
    have HR := Lib.hid hr
    have HL := Lib.hid hfl
    clear hfit hr hfl hf hff
    go_enter Try.func6, Try.ntmps6
    go_wp2_with fail
    refine (lives_any w).mono ?_
    rintro e w1 ⟨rfl, hB1⟩
    have HB1 := Lib.hid hB1
    clear hB1
    go_wp2_with fail
    refine (fits_any w1 A c L (HR.out.below HB1.out) (Nat.le_trans hlc hcm) HL.out).mono ?_
    rintro e w2 ⟨rfl, hB2⟩
    rw [HF.out]
    have HB2 := Lib.hid (HB1.out.trans (hB2.mono HB1.out.size))
    clear hB2
    go_wp2_with fail
    refine (lives_any w2).mono ?_
    rintro e w3 ⟨rfl, hB3⟩
    go_wp2_with fail
    go_ret
    exact ⟨rfl, HB2.out.trans (hB3.mono HB2.out.size)⟩
end Go.Proofs.Ytjaopecjmmnbiaa
