/-
  Texts of a proof, one behind the other (each with its own head).
-/
import Derived.Test.YthbanhedjfpmaaaPartEghhdddag
import Derived.Laws.IdiomStrings
section
/-
  One thing is done to both: records are added, the journal is emptied.
-/
namespace Go.Proofs.Ythbanhedjfpmaaa
set_option linter.unusedSimpArgs false
set_option linter.unusedVariables false
open Go.RowKit

theorem lgood_fine {w : World} {B : Nat} {k : KB} {g : Nat} {l : LS} (h : LogAt w B k g l) : LFine l := fun _ => by
  have h1 := h.good.at_
  have h2 := h.good.seq
  have h3 := h.good.data
  have h4 := h.good.room
  have h5 := h.good.count
  exact ⟨h1, h2, by omega, h4, by omega⟩
/-- The journal is there, or it is not. -/
def JCase (w0 w : World) (k : KB) (gb : Nat) (o : Option Nat) (l : LS) (lp : Option Addr) : Prop := (∃ g, lp = some ⟨g, 0, none⟩ ∧ o = some g ∧ g ≠ gb ∧ LogAt w w0.heap.size k g l) ∨ (lp = none ∧ o = none ∧ l.broken = true)
theorem JCase.below {w0 w w' : World} {k : KB} {gb : Nat} {o : Option Nat} {l : LS} {lp : Option Addr} (h : JCase w0 w k gb o l lp) (hb : Below w.heap.size w w') : JCase w0 w' k gb o l lp := by
  rcases h with ⟨g, h2, h3, h4, h5⟩ | h
  · exact .inl ⟨g, h2, h3, h4, h5.below hb⟩
  · exact .inr h
theorem JCase.store {w0 w w' : World} {k : KB} {gb : Nat} {o : Option Nat} {l : LS} {lp : Option Addr} (h : JCase w0 w k gb o l lp) {cs : List Value} (hb : Blk w gb 77 cs) (hg : w.grownBy w' (some gb)) : JCase w0 w' k gb o l lp := by
  rcases h with ⟨g, h2, h3, h4, h5⟩ | h
  · exact .inl ⟨g, h2, h3, h4, h5.other hb (by decide) h4 hg⟩
  · exact .inr h
theorem JCase.disk {w0 w w' : World} {k : KB} {gb : Nat} {o : Option Nat} {l : LS} {lp : Option Addr} (h : JCase w0 w k gb o l lp) (hk : Keeps w w' k.own) : JCase w0 w' k gb o l lp := by
  rcases h with ⟨g, h2, h3, h4, h5⟩ | h
  · exact .inl ⟨g, h2, h3, h4, h5.kept hk⟩
  · exact .inr h
theorem JCase.lt {w0 w : World} {k : KB} {gb : Nat} {o : Option Nat} {l : LS} {lp : Option Addr} (h : JCase w0 w k gb o l lp) : ∀ g, o = some g → g < w.heap.size := fun g e => by
  rcases h with ⟨g', -, e2, -, hl⟩ | ⟨-, e2, -⟩
  · rw [e2] at e
    obtain rfl := Option.some.inj e
    obtain ⟨cs9, hb9⟩ := hl.blk
    exact hb9.lt
  · rw [e2] at e; cases e
theorem JCase.fine {w0 w : World} {k : KB} {gb : Nat} {o : Option Nat} {l : LS} {lp : Option Addr} (h : JCase w0 w k gb o l lp) : LFine l := by
  rcases h with ⟨g', -, -, -, hl⟩ | ⟨-, -, e2⟩
  · exact lgood_fine hl
  · intro e; rw [e2] at e; cases e
/-- The program's Add, whichever. -/
theorem badd_any (w0 w : World) (k : KB) (gb : Nat) (o : Option Nat) (d : DS) (lp : Option Addr) (c : List Value) (x : RX) (l : LS) (n : Nat) (H : BotAt w0 w k gb o d lp c x l n) (hj : JCase w0 w k gb o l lp) (hn : n + 1010 < 90000) (A : Option Addr) (ca : Nat) (ps : List Part) (hr : ERow ePart w A ps) (hp : ∀ p ∈ ps, p.ok w) (hps : ps.length ≤ 1000000) :
    Calls Try.prog 39 #[.pointer lp, .slice A ps.length ca] w fun e w' => e = .returned (.int .i64 (d.add l (ps.map (·.l))).e) ∧ BotAt w0 w' k gb o (d.add l (ps.map (·.l))).d lp c x l (n + 1010) ∧ JCase w0 w' k gb o (d.add l (ps.map (·.l))).l lp ∧ Keeps w w' (fun i => k.own i ∨ o = some i) := by
  rcases hj with ⟨g, rfl, rfl, hgg, hl⟩ | ⟨rfl, rfl, hb⟩
  · refine (wadd_any w0 w k g n d l ⟨H.dl, hl⟩ (by omega) A ca ps hr hp hps).mono ?_
    rintro e w' ⟨rfl, hw, hk⟩
    refine ⟨rfl, H.prog hw.dl hk fun i hi => ?_, .inl ⟨g, rfl, rfl, hgg, hw.log⟩, hk.mono fun i hi => by rcases hi with hi | rfl; exact .inl hi; exact .inr rfl⟩
    rcases hi with hi | rfl
    · exact ⟨.inl hi, fun e => H.own (e ▸ hi)⟩
    · exact ⟨.inr (.inr rfl), hgg⟩
  · refine (wadd_nil w A ps.length ca).mono ?_
    rintro e w' ⟨rfl, rfl⟩
    rw [add_broken hb]
    exact ⟨rfl, H.more (by omega), .inr ⟨rfl, rfl, hb⟩, Keeps.refl _ _⟩
theorem breset_any (w0 w : World) (k : KB) (gb : Nat) (o : Option Nat) (d : DS) (lp : Option Addr) (c : List Value) (x : RX) (l : LS) (n : Nat) (H : BotAt w0 w k gb o d lp c x l n) (hj : JCase w0 w k gb o l lp) (hn : n + 1010 < 90000) :
    Calls Try.prog 43 #[.pointer lp] w fun e w' => e = .returned (.int .i64 (d.reset l).e) ∧ BotAt w0 w' k gb o (d.reset l).d lp c x l (n + 1010) ∧ JCase w0 w' k gb o (d.reset l).l lp ∧ Keeps w w' (fun i => k.own i ∨ o = some i) := by
  rcases hj with ⟨g, rfl, rfl, hgg, hl⟩ | ⟨rfl, rfl, hb⟩
  · refine (wreset_any w0 w k g n d l ⟨H.dl, hl⟩ (by omega)).mono ?_
    rintro e w' ⟨rfl, hw, hk⟩
    refine ⟨rfl, H.prog (hw.dl.more (by omega)) hk fun i hi => ?_, .inl ⟨g, rfl, rfl, hgg, hw.log⟩, hk.mono fun i hi => by rcases hi with hi | rfl; exact .inl hi; exact .inr rfl⟩
    rcases hi with hi | rfl
    · exact ⟨.inl hi, fun e => H.own (e ▸ hi)⟩
    · exact ⟨.inr (.inr rfl), hgg⟩
  · refine (wreset_nil w).mono ?_
    rintro e w' ⟨rfl, rfl⟩
    rw [reset_broken hb]
    exact ⟨rfl, H.more (by omega), .inr ⟨rfl, rfl, hb⟩, Keeps.refl _ _⟩
theorem refadd_any (S : Nat → Prop) (w : World) (hS : ∀ i, S i → i < w.heap.size) (d : DS) (l : LS) (c : List Value) (h : RefX S w c d.rx) (hG : DGood d) (hch : d.changes < 100000) (hpl : d.pending.length < 90000) (hl : LFine l)
    (A : Option Addr) (ca : Nat) (recs : List (List UInt8)) (m : Nat) (hm : m = recs.length) (hr : ERow eStr w A recs) (hrl : ∀ s ∈ recs, s.length ≤ 3000) (hn : recs.length ≤ 1000) :
    Calls Try.prog 67 #[.agg (c ++ xlTail l).toArray, .slice A m ca] w (RetL S w (d.add l recs).d (d.add l recs).l (d.add l recs).e) := by
  subst hm
  cases hb : l.broken with
  | true => exact refadd_broken S w hS d l c h hb A ca recs
  | false =>
    by_cases hne : recs = []
    · subst hne
      exact refadd_none S w hS d l c h hb A ca
    · exact refadd_some S w hS d l c h hG hch hpl hb hl A ca recs hr hrl hn hne
/-- One thing was done. -/
def Stepped (w0 : World) (k : KB) (gb : Nat) (d : DS) (l : LS) (n : Nat) (e : Ending) (w' : World) : Prop := e = .returned (.bool true) ∧ ∃ d' l', BotOk w0 w' k gb d' l' (n + 1010) ∧ l'.at_ = l.at_ ∧ d'.blocks.length = d.blocks.length
theorem add_at (d : DS) (l : LS) (recs : List (List UInt8)) : (d.add l recs).l.at_ = l.at_ := by
  unfold DS.add DS.addW
  split
  · rfl
  · split
    · rfl
    · split
      · rfl
      · split
        · rfl
        · split
          · rfl
          · split <;> rfl
theorem reset_at (d : DS) (l : LS) : (d.reset l).l.at_ = l.at_ := by
  unfold DS.reset
  split
  · rfl
  · split
    · rfl
    · split <;> rfl
set_option maxRecDepth 20000 in
set_option maxHeartbeats 2000000 in
theorem bstep0 (w0 w : World) (k : KB) (gb : Nat) (d : DS) (l : LS) (n : Nat) (H : BotOk w0 w k gb d l n) (hn : n + 1010 < 80000) (q : OpW) (hq : q.Fine w0) (h6 : q.ps.length ≤ 6) (h3 : ∀ p ∈ q.ps, p.l.length ≤ 3000) (blocks : Nat) (hk : (IntKind.u64.wrap q.k).tmod 5 = 0) :
    Calls Try.prog 46 #[.pointer (some ⟨gb, 0, none⟩), .agg #[.int .i64 q.k, .slice q.A q.ps.length q.cap, .int .i64 q.f.at_, .int .u64 (q.f.keep : Nat), .int .i64 q.f.torn], .int .i64 (blocks : Nat)] w (Stepped w0 k gb d l n) := by
  obtain ⟨hN, lp, c, o, hB, hcase⟩ := H
  obtain ⟨As, cs, Ap, cp, Af, cf, rfl⟩ := hB.rx.open_
  have hw0 : 0 ≤ IntKind.u64.wrap q.k := by simp [IntKind.wrap, IntKind.signed, IntKind.bits]; omega
  have hk5 : IntKind.u64.wrap q.k % 5 = 0 := by rw [← Int.tmod_eq_emod_of_nonneg hw0]; exact hk
  have HQ := Lib.hid (And.intro hq.ps h3)
  have HN := Lib.hid hN
  have H0 : Hid (BotAt w0 w k gb o d lp [.slice As d.rx.sure.length cs, .slice Ap d.rx.pend.length cp, .slice Af d.rx.falls.length cf, .int .i64 (d.rx.ch : Nat), .bool d.rx.down] d.rx l n ∧ JCase w0 w k gb o l lp) := ⟨hB, hcase⟩
  clear hq h3 hB hcase hN
  go_enter Try.func46, Try.ntmps46
  go_upto_region 1 with (fail)
  generalize hW1 : World.alloc w (.cells _ _) = W1
  obtain ⟨ba1, hz1, hB1⟩ := fresh1 hW1
  clear hW1
  have H1 : Hid (BotAt w0 W1 k gb o d lp [.slice As d.rx.sure.length cs, .slice Ap d.rx.pend.length cp, .slice Af d.rx.falls.length cf, .int .i64 (d.rx.ch : Nat), .bool d.rx.down] d.rx l n ∧ JCase w0 W1 k gb o l lp ∧ Below w.heap.size w W1) := ⟨H0.out.1.below hB1, H0.out.2.below hB1, hB1⟩
  have HBX := Lib.hid ba1
  have hx0 := ba1.cell 0
  have hx1 := ba1.cell 1
  simp only [List.getElem?_cons_zero, List.getElem?_cons_succ] at hx0 hx1
  have hxl := ba1.lt
  have hc := H1.out.1.blk.c13
  have H0L : Hid ((∀ i, k.own i → i < w.heap.size) ∧ ∀ i, o = some i → i < w.heap.size) := ⟨H0.out.1.dl.own_lt, H0.out.2.lt⟩
  clear ba1 hB1 hz1 H0
  go_wp2_with fail
  refine wp_region_plan (.take 0 (.take 1 (.take 2 (.take 3 (.take 4 (.take 5 (.run 6 [] (.take 7 .fin)))))))) (by kernel_rfl) (by kernel_rfl) (by kernel_rfl) (by kernel_rfl) ?_
  repeat' (first | (refine hZ _ _ ?_; clear hZ) | (refine hZ _ ?_; clear hZ) | (refine hZ ?_; clear hZ) | rw [again_nil] | rw [walk_fin] | ((first | rw [walk_take] | rw [walk_run] | rw [again_cons]); intro Z hZ; simp only [sel, List.getElem?_toArray, List.getElem?_cons_zero, List.getElem?_cons_succ]; go_wp2_with (fail)))
  have hpx := HQ.out.1.below (H1.out.1.below (below_drew W1)).dl.bel
  have ha := badd_any w0 W1.drew k gb o d lp _ d.rx l n (H1.out.1.below (below_drew W1)) (H1.out.2.1.below (below_drew W1)) (by omega) q.A q.cap q.ps hpx.row hpx.ok (by omega)
  have HRA := Lib.hid (fun S' W' hS' cc hx m (hm : m = (q.ps.map (·.l)).length) (A : Option Addr) (ca : Nat) (hr : ERow eStr W' A (q.ps.map (·.l))) => refadd_any S' W' hS' d l cc hx H1.out.1.dl.good (Nat.lt_of_le_of_lt H1.out.1.dl.ch (by omega)) (Nat.lt_of_le_of_lt H1.out.1.dl.pe (by omega)) H1.out.2.1.fine A ca (q.ps.map (·.l)) m hm hr (fun s hs => by obtain ⟨p, hp, rfl⟩ := List.mem_map.1 hs; exact HQ.out.2 p hp) (by rw [List.length_map]; omega))
  have HNA := Lib.hid (HN.out.add l (q.ps.map (·.l)))
  have HAT := Lib.hid (And.intro (add_at d l (q.ps.map (·.l))) (add_length d l (q.ps.map (·.l))))
  generalize d.add l (q.ps.map (·.l)) = r at ha HRA HNA HAT
  refine ha.mono ?_
  rintro e w2 ⟨rfl, hb2, hj2, hk2⟩
  have HGQ : Hid (Blk w2 w.heap.size 66 [.int .i64 q.k, .slice q.A q.ps.length q.cap, .int .i64 q.f.at_, .int .u64 (q.f.keep : Nat), .int .i64 q.f.torn]) := (HBX.out.below (below_drew W1)).kept hk2 (by
    rintro (hi | hi)
    · have := H0L.out.1 _ hi; omega
    · have := H0L.out.2 _ hi; omega)
  have H2 := Lib.hid (And.intro hb2 hj2)
  clear ha hpx hb2 hj2 hk2 hx0 hx1 hxl hc H1 HBX
  have hx1 := HGQ.out.cell 1
  simp only [List.getElem?_cons_zero, List.getElem?_cons_succ] at hx1
  have hc := H2.out.1.blk.c13
  unfold txt at hc
  go_wp2_with fail
  repeat' (first | (refine hZ _ _ ?_; clear hZ) | (refine hZ _ ?_; clear hZ) | (refine hZ ?_; clear hZ) | rw [again_nil] | rw [walk_fin] | ((first | rw [walk_take] | rw [walk_run] | rw [again_cons]); intro Z hZ; simp only [sel, List.getElem?_toArray, List.getElem?_cons_zero, List.getElem?_cons_succ]; go_wp2_with (fail)))
  go_wp2_with fail
  refine wp_region_plan (.take 0 (.take 1 (.take 2 (.take 3 (.take 4 (.take 5 (.take 6 (.run 7 [0, 1, 2, 3, 4] (.run 8 [0] (.take 9 (.take 10 (.take 11 (.take 12 (.take 13 (.run 14 [11] (.take 15 .fin)))))))))))))))) (by kernel_rfl) (by kernel_rfl) (by kernel_rfl) (by kernel_rfl) ?_
  repeat' (first | (refine hZ _ _ ?_; clear hZ) | (refine hZ _ ?_; clear hZ) | (refine hZ ?_; clear hZ) | rw [again_nil] | rw [walk_fin] | ((first | rw [walk_take] | rw [walk_run] | rw [again_cons]); intro Z hZ; simp only [sel, List.getElem?_toArray, List.getElem?_cons_zero, List.getElem?_cons_succ]; go_wp2_with (fail)))
  have H3 := Lib.hid (And.intro (H2.out.1.below (below_drew w2)) (H2.out.2.below (below_drew w2)))
  have hpx := HQ.out.1.below H3.out.1.dl.bel
  refine (texts_any w2.drew q.A q.cap q.ps hpx.row hpx.ok (by omega)).mono ?_
  rintro e w4 ⟨A4, c4, rfl, ho4, hb4⟩
  have H4 := Lib.hid (And.intro (H3.out.1.below hb4) (And.intro (H3.out.2.below hb4) ho4))
  have HGQ4 := Lib.hid ((HGQ.out.below (below_drew w2)).below hb4)
  clear hpx ho4 hb4 hx1 hc H2 H3 HGQ
  have hx1 := HGQ4.out.cell 1
  simp only [List.getElem?_cons_zero, List.getElem?_cons_succ] at hx1
  have hc := H4.out.1.blk.c13
  unfold txt at hc
  go_wp2_with fail
  repeat' (first | (refine hZ _ _ ?_; clear hZ) | (refine hZ _ ?_; clear hZ) | (refine hZ ?_; clear hZ) | rw [again_nil] | rw [walk_fin] | ((first | rw [walk_take] | rw [walk_run] | rw [again_cons]); intro Z hZ; simp only [sel, List.getElem?_toArray, List.getElem?_cons_zero, List.getElem?_cons_succ]; go_wp2_with (fail)))
  have hra := HRA.out (inB k gb o) w4 (H4.out.1.lt H4.out.2.1.lt) _ H4.out.1.rx q.ps.length (List.length_map ..).symm A4 c4 H4.out.2.2.row
  refine hra.mono ?_
  rintro e w5 ⟨c5, rfl, hx5, hb5⟩
  have H5 := Lib.hid (And.intro (H4.out.1.below hb5) (And.intro (H4.out.2.1.below hb5) hx5))
  obtain ⟨As5, cs5, Ap5, cp5, Af5, cf5, rfl⟩ := hx5.open_
  clear hra hx5 hb5 hx1 hc H4 HRA HGQ4
  have hc := H5.out.1.blk.c13
  simp only [xlTail, txt, List.cons_append, List.nil_append]
  unfold txt at hc
  go_wp2_with fail
  repeat' (first | (refine hZ _ _ ?_; clear hZ) | (refine hZ _ ?_; clear hZ) | (refine hZ ?_; clear hZ) | rw [again_nil] | rw [walk_fin] | ((first | rw [walk_take] | rw [walk_run] | rw [again_cons]); intro Z hZ; simp only [sel, List.getElem?_toArray, List.getElem?_cons_zero, List.getElem?_cons_succ]; go_wp2_with (fail)))
  have g6 := grown_setCells w5 gb 2 [.slice As5 r.d.rx.sure.length cs5, .slice Ap5 r.d.rx.pend.length cp5, .slice Af5 r.d.rx.falls.length cf5, .int .i64 (r.d.rx.ch : Nat), .bool r.d.rx.down, .int .i64 (r.l.at_ : Nat), .int .i64 (r.l.room : Nat), .int .u64 (r.l.seq : Nat), .string ⟨r.l.data.toArray⟩, .int .i64 (r.l.count : Nat), .bool r.l.broken]
  have H6 : Hid (BotOk w0 (w5.setCells gb 2 [.slice As5 r.d.rx.sure.length cs5, .slice Ap5 r.d.rx.pend.length cp5, .slice Af5 r.d.rx.falls.length cf5, .int .i64 (r.d.rx.ch : Nat), .bool r.d.rx.down, .int .i64 (r.l.at_ : Nat), .int .i64 (r.l.room : Nat), .int .u64 (r.l.seq : Nat), .string ⟨r.l.data.toArray⟩, .int .i64 (r.l.count : Nat), .bool r.l.broken]) k gb r.d r.l (n + 1010)) := ⟨HNA.out, lp, _, o, H5.out.1.store 2 [.slice As5 r.d.rx.sure.length cs5, .slice Ap5 r.d.rx.pend.length cp5, .slice Af5 r.d.rx.falls.length cf5, .int .i64 (r.d.rx.ch : Nat), .bool r.d.rx.down, .int .i64 (r.l.at_ : Nat), .int .i64 (r.l.room : Nat), .int .u64 (r.l.seq : Nat), .string ⟨r.l.data.toArray⟩, .int .i64 (r.l.count : Nat), .bool r.l.broken] rfl H5.out.2.2, H5.out.2.1.store H5.out.1.blk g6⟩
  clear g6 hc H5
  simp only [World.setCells, Nat.zero_add, Nat.reduceAdd] at H6
  generalize (World.setCell (World.setCell _ _ _) _ _) = W6 at H6 ⊢
  have HLK := Lib.hid (blike_any w0 W6 k gb r.d r.l _ H6.out)
  go_wp2_with fail
  refine HLK.out.mono ?_
  rintro e w7 ⟨rfl, hb7⟩
  have H7 : Hid (BotOk w0 w7 k gb r.d r.l (n + 1010)) := by
    obtain ⟨h1, lp', c', o', h2, h3⟩ := H6.out
    exact ⟨h1, lp', c', o', h2.below hb7, JCase.below h3 hb7⟩
  clear hb7 HLK H6
  go_wp2_with fail
  go_ret
  exact ⟨rfl, _, _, H7.out, HAT.out.1, HAT.out.2⟩
set_option maxRecDepth 20000 in
set_option maxHeartbeats 2000000 in
theorem bstep1 (w0 w : World) (k : KB) (gb : Nat) (d : DS) (l : LS) (n : Nat) (H : BotOk w0 w k gb d l n) (hn : n + 1010 < 80000) (q : OpW) (blocks : Nat) (hk : (IntKind.u64.wrap q.k).tmod 5 = 1) :
    Calls Try.prog 46 #[.pointer (some ⟨gb, 0, none⟩), .agg #[.int .i64 q.k, .slice q.A q.ps.length q.cap, .int .i64 q.f.at_, .int .u64 (q.f.keep : Nat), .int .i64 q.f.torn], .int .i64 (blocks : Nat)] w (Stepped w0 k gb d l n) := by
  obtain ⟨hN, lp, c, o, hB, hcase⟩ := H
  obtain ⟨As, cs, Ap, cp, Af, cf, rfl⟩ := hB.rx.open_
  have hw0 : 0 ≤ IntKind.u64.wrap q.k := by simp [IntKind.wrap, IntKind.signed, IntKind.bits]; omega
  have hk5 : IntKind.u64.wrap q.k % 5 = 1 := by rw [← Int.tmod_eq_emod_of_nonneg hw0]; exact hk
  have HN := Lib.hid hN
  have H0 : Hid (BotAt w0 w k gb o d lp [.slice As d.rx.sure.length cs, .slice Ap d.rx.pend.length cp, .slice Af d.rx.falls.length cf, .int .i64 (d.rx.ch : Nat), .bool d.rx.down] d.rx l n ∧ JCase w0 w k gb o l lp) := ⟨hB, hcase⟩
  clear hB hcase hN
  go_enter Try.func46, Try.ntmps46
  go_upto_region 1 with (fail)
  generalize hW1 : World.alloc w (.cells _ _) = W1
  obtain ⟨ba1, hz1, hB1⟩ := fresh1 hW1
  clear hW1
  have H1 : Hid (BotAt w0 W1 k gb o d lp [.slice As d.rx.sure.length cs, .slice Ap d.rx.pend.length cp, .slice Af d.rx.falls.length cf, .int .i64 (d.rx.ch : Nat), .bool d.rx.down] d.rx l n ∧ JCase w0 W1 k gb o l lp) := ⟨H0.out.1.below hB1, H0.out.2.below hB1⟩
  have hx0 := ba1.cell 0
  simp only [List.getElem?_cons_zero, List.getElem?_cons_succ] at hx0
  have hc := H1.out.1.blk.c13
  clear ba1 hB1 hz1 H0
  have ha := breset_any w0 W1 k gb o d lp _ d.rx l n H1.out.1 H1.out.2 (by omega)
  have HRA := Lib.hid (fun S' W' hS' cc hx => refreset_any S' W' hS' d l cc hx H1.out.1.dl.good (Nat.lt_of_le_of_lt H1.out.1.dl.ch (by omega)) (Nat.lt_of_le_of_lt H1.out.1.dl.pe (by omega)) H1.out.2.fine)
  have HNA := Lib.hid (HN.out.reset l)
  have HAT := Lib.hid (And.intro (reset_at d l) (reset_length d l))
  generalize d.reset l = r at ha HRA HNA HAT
  go_wp2_with fail
  refine ha.mono ?_
  rintro e w2 ⟨rfl, hb2, hj2, -⟩
  have H2 := Lib.hid (And.intro hb2 hj2)
  clear ha hb2 hj2 hx0 hc H1
  have hc := H2.out.1.blk.c13
  unfold txt at hc
  go_wp2_with fail
  have hra := HRA.out (inB k gb o) w2 (H2.out.1.lt H2.out.2.lt) _ H2.out.1.rx
  refine hra.mono ?_
  rintro e w5 ⟨c5, rfl, hx5, hb5⟩
  have H5 := Lib.hid (And.intro (H2.out.1.below hb5) (And.intro (H2.out.2.below hb5) hx5))
  obtain ⟨As5, cs5, Ap5, cp5, Af5, cf5, rfl⟩ := hx5.open_
  clear hra hx5 hb5 hc H2 HRA
  have hc := H5.out.1.blk.c13
  simp only [xlTail, txt, List.cons_append, List.nil_append]
  unfold txt at hc
  go_upto_region 23 with (fail)
  have g6 := grown_setCells w5 gb 2 [.slice As5 r.d.rx.sure.length cs5, .slice Ap5 r.d.rx.pend.length cp5, .slice Af5 r.d.rx.falls.length cf5, .int .i64 (r.d.rx.ch : Nat), .bool r.d.rx.down, .int .i64 (r.l.at_ : Nat), .int .i64 (r.l.room : Nat), .int .u64 (r.l.seq : Nat), .string ⟨r.l.data.toArray⟩, .int .i64 (r.l.count : Nat), .bool r.l.broken]
  have H6 : Hid (BotOk w0 (w5.setCells gb 2 [.slice As5 r.d.rx.sure.length cs5, .slice Ap5 r.d.rx.pend.length cp5, .slice Af5 r.d.rx.falls.length cf5, .int .i64 (r.d.rx.ch : Nat), .bool r.d.rx.down, .int .i64 (r.l.at_ : Nat), .int .i64 (r.l.room : Nat), .int .u64 (r.l.seq : Nat), .string ⟨r.l.data.toArray⟩, .int .i64 (r.l.count : Nat), .bool r.l.broken]) k gb r.d r.l (n + 1010)) := ⟨HNA.out, lp, _, o, H5.out.1.store 2 [.slice As5 r.d.rx.sure.length cs5, .slice Ap5 r.d.rx.pend.length cp5, .slice Af5 r.d.rx.falls.length cf5, .int .i64 (r.d.rx.ch : Nat), .bool r.d.rx.down, .int .i64 (r.l.at_ : Nat), .int .i64 (r.l.room : Nat), .int .u64 (r.l.seq : Nat), .string ⟨r.l.data.toArray⟩, .int .i64 (r.l.count : Nat), .bool r.l.broken] rfl H5.out.2.2, H5.out.2.1.store H5.out.1.blk g6⟩
  clear g6 hc H5
  simp only [World.setCells, Nat.zero_add, Nat.reduceAdd] at H6
  generalize (World.setCell (World.setCell _ _ _) _ _) = W6 at H6 ⊢
  have HLK := Lib.hid (blike_any w0 W6 k gb r.d r.l _ H6.out)
  go_wp2_with fail
  refine HLK.out.mono ?_
  rintro e w7 ⟨rfl, hb7⟩
  have H7 : Hid (BotOk w0 w7 k gb r.d r.l (n + 1010)) := by
    obtain ⟨h1, lp', c', o', h2, h3⟩ := H6.out
    exact ⟨h1, lp', c', o', h2.below hb7, JCase.below h3 hb7⟩
  clear hb7 HLK H6
  go_wp2_with fail
  go_ret
  exact ⟨rfl, _, _, H7.out, HAT.out.1, HAT.out.2⟩
end Go.Proofs.Ythbanhedjfpmaaa
end

section
/-
  One thing is done to both: the power fails or comes, a fall is planned, the journal is opened.
-/
namespace Go.Proofs.Ythbanhedjfpmaaa
set_option linter.unusedSimpArgs false
set_option linter.unusedVariables false
open Go.RowKit

theorem RefX.setDown {S : Nat → Prop} {w : World} {a b c n : Value} {u v : Bool} {x : RX} (h : RefX S w [a, b, c, n, .bool u] x) : RefX S w [a, b, c, n, .bool v] { x with down := v } := by
  obtain ⟨As, cs, Ap, cp, Af, cf, e, h1, h2, h3⟩ := h
  simp only [List.cons.injEq, and_true] at e
  obtain ⟨rfl, rfl, rfl, rfl, -⟩ := e
  exact ⟨As, cs, Ap, cp, Af, cf, rfl, h1, h2, h3⟩
theorem RefX.setFalls {S : Nat → Prop} {w : World} {a b c n u : Value} {x : RX} (h : RefX S w [a, b, c, n, u] x) {A : Option Addr} {cf' m : Nat} {L : List DF} (hm : m = L.length) (hr : RowX S eDF w A L) : RefX S w [a, b, .slice A m cf', n, u] { x with falls := L } := by
  obtain ⟨As, cs, Ap, cp, Af, cf, e, h1, h2, h3⟩ := h
  simp only [List.cons.injEq, and_true] at e
  obtain ⟨rfl, rfl, -, rfl, rfl⟩ := e
  subst hm
  exact ⟨As, cs, Ap, cp, A, cf', rfl, h1, h2, hr⟩
set_option maxRecDepth 20000 in
set_option maxHeartbeats 2000000 in
theorem bstep4 (w0 w : World) (k : KB) (gb : Nat) (d : DS) (l : LS) (n : Nat) (H : BotOk w0 w k gb d l n) (hn : n + 1010 < 80000) (q : OpW) (blocks : Nat) (h3 : 3 ≤ blocks) (h1000 : blocks ≤ 1000) (hin : l.at_ + blocks ≤ d.blocks.length) (hk : (IntKind.u64.wrap q.k).tmod 5 = 4) :
    Calls Try.prog 46 #[.pointer (some ⟨gb, 0, none⟩), .agg #[.int .i64 q.k, .slice q.A q.ps.length q.cap, .int .i64 q.f.at_, .int .u64 (q.f.keep : Nat), .int .i64 q.f.torn], .int .i64 (blocks : Nat)] w (Stepped w0 k gb d l n) := by
  obtain ⟨hN, lp, c, o, hB, hcase⟩ := H
  obtain ⟨As, cs, Ap, cp, Af, cf, rfl⟩ := hB.rx.open_
  have hw0 : 0 ≤ IntKind.u64.wrap q.k := by simp [IntKind.wrap, IntKind.signed, IntKind.bits]; omega
  have hk5 : IntKind.u64.wrap q.k % 5 = 4 := by rw [← Int.tmod_eq_emod_of_nonneg hw0]; exact hk
  have HN := Lib.hid hN
  have HIN := Lib.hid hin
  have H0 := Lib.hid hB
  clear hB hcase hN hin
  go_enter Try.func46, Try.ntmps46
  go_upto_region 1 with (fail)
  generalize hW1 : World.alloc w (.cells _ _) = W1
  obtain ⟨ba1, hz1, hB1⟩ := fresh1 hW1
  clear hW1
  have H1 := Lib.hid (H0.out.below hB1)
  have hx0 := ba1.cell 0
  simp only [List.getElem?_cons_zero, List.getElem?_cons_succ] at hx0
  have hc := H1.out.blk.c13
  clear ba1 hB1 hz1 H0
  go_wp2_with fail
  refine H1.out.dl.up.mono ?_
  rintro e w2 ⟨rfl, hL2, hK2⟩
  have H2 := Lib.hid (H1.out.prog hL2 hK2 fun i hi => ⟨.inl hi, fun e => H1.out.own (e ▸ hi)⟩)
  clear hL2 hK2 hx0 hc H1
  have hc := H2.out.blk.c13
  go_upto_region 5 with (fail)
  have H6 : Hid (BotAt w0 (w2.setCells gb 6 [.bool false]) k gb o { d with down := false } lp [.slice As d.rx.sure.length cs, .slice Ap d.rx.pend.length cp, .slice Af d.rx.falls.length cf, .int .i64 (d.rx.ch : Nat), .bool false] ({ d with down := false } : DS).rx l n ∧ NowAt { d with down := false }) := ⟨H2.out.store 6 [.bool false] rfl H2.out.rx.setDown, HN.out.up false⟩
  have HLN : Hid (({ d with down := false } : DS).blocks.length = d.blocks.length) := rfl
  simp only [World.setCells] at H6
  clear H2
  generalize (World.setCell w2 _ _) = W6 at H6 ⊢
  generalize hd3 : ({ d with down := false } : DS) = d3 at H6 HLN
  have HO := Lib.hid (bopen_any w0 W6 k gb o d3 lp _ l n H6.out.1 H6.out.2 (by omega) blocks h3 h1000 (by rw [HLN.out]; exact HIN.out))
  clear hc
  go_wp2_with fail
  refine HO.out.mono ?_
  rintro e w8 ⟨rfl, l8, hb8, hat8, -⟩
  go_wp2_with fail
  go_ret
  refine ⟨rfl, ((d3).openW l.at_ ((blocks - 2) * 512)).d, l8, ?_, hat8, by rw [openW_length, HLN.out]⟩
  obtain ⟨q1, lp8, c8, o8, q2, q3⟩ := hb8
  exact ⟨q1, lp8, c8, o8, q2.more (by omega), q3⟩
set_option maxRecDepth 20000 in
set_option maxHeartbeats 2000000 in
theorem bstep2 (w0 w : World) (k : KB) (gb : Nat) (d : DS) (l : LS) (n : Nat) (H : BotOk w0 w k gb d l n) (hn : n + 1010 < 80000) (q : OpW) (hf : q.f.Fine) (blocks : Nat) (h3 : 3 ≤ blocks) (h1000 : blocks ≤ 1000) (hin : l.at_ + blocks ≤ d.blocks.length) (hk : (IntKind.u64.wrap q.k).tmod 5 = 2) :
    Calls Try.prog 46 #[.pointer (some ⟨gb, 0, none⟩), .agg #[.int .i64 q.k, .slice q.A q.ps.length q.cap, .int .i64 q.f.at_, .int .u64 (q.f.keep : Nat), .int .i64 q.f.torn], .int .i64 (blocks : Nat)] w (Stepped w0 k gb d l n) := by
  obtain ⟨hN, lp, c, o, hB, hcase⟩ := H
  obtain ⟨As, cs, Ap, cp, Af, cf, rfl⟩ := hB.rx.open_
  have hw0 : 0 ≤ IntKind.u64.wrap q.k := by simp [IntKind.wrap, IntKind.signed, IntKind.bits]; omega
  have hk5 : IntKind.u64.wrap q.k % 5 = 2 := by rw [← Int.tmod_eq_emod_of_nonneg hw0]; exact hk
  have HN := Lib.hid hN
  have HIN := Lib.hid hin
  have HF := Lib.hid hf
  have H0 : Hid (BotAt w0 w k gb o d lp [.slice As d.rx.sure.length cs, .slice Ap d.rx.pend.length cp, .slice Af d.rx.falls.length cf, .int .i64 (d.rx.ch : Nat), .bool d.rx.down] d.rx l n ∧ (∀ i, inB k gb o i → i < w.heap.size)) := ⟨hB, hB.lt (JCase.lt hcase)⟩
  clear hB hcase hN hin hf
  go_enter Try.func46, Try.ntmps46
  go_upto_region 1 with (fail)
  generalize hW1 : World.alloc w (.cells _ _) = W1
  obtain ⟨ba1, hz1, hB1⟩ := fresh1 hW1
  clear hW1
  have H1 := Lib.hid (H0.out.1.below hB1)
  have HBX := Lib.hid (And.intro ba1 hB1.size)
  have hx0 := ba1.cell 0
  have hx2 := ba1.cell 2
  have hx3 := ba1.cell 3
  have hx4 := ba1.cell 4
  have hxl := ba1.lt
  simp only [List.getElem?_cons_zero, List.getElem?_cons_succ] at hx0 hx2 hx3 hx4
  have hc := H1.out.blk.c13
  clear ba1 hB1 hz1
  go_wp2_with fail
  refine wp_region_plan (.take 0 (.take 1 (.take 2 (.take 3 (.take 4 (.take 5 (.run 6 [] .fin))))))) (by kernel_rfl) (by kernel_rfl) (by kernel_rfl) (by kernel_rfl) ?_
  repeat' (first | (refine hZ _ _ ?_; clear hZ) | (refine hZ _ ?_; clear hZ) | (refine hZ ?_; clear hZ) | rw [again_nil] | rw [walk_fin] | ((first | rw [walk_take] | rw [walk_run] | rw [again_cons]); intro Z hZ; simp only [sel, List.getElem?_toArray, List.getElem?_cons_zero, List.getElem?_cons_succ]; go_wp2_with (fail)))
  refine ((H1.out.below (below_drew W1)).dl.crash q.f HF.out.1).mono ?_
  rintro e w2 ⟨rfl, hL2, hK2⟩
  have H2 := Lib.hid ((H1.out.below (below_drew W1)).prog hL2 hK2 fun i hi => ⟨.inl hi, fun e => H1.out.own (e ▸ hi)⟩)
  have HB2 : Hid (Blk w2 w.heap.size 66 [.int .i64 q.k, .slice q.A q.ps.length q.cap, .int .i64 q.f.at_, .int .u64 (q.f.keep : Nat), .int .i64 q.f.torn]) := (HBX.out.1.below (below_drew W1)).kept hK2 (fun hi => by have := H0.out.2 _ (.inl hi); omega)
  have HLT : Hid (∀ i, inB k gb o i → i < w2.heap.size) := fun i hi => Nat.lt_of_lt_of_le (H0.out.2 i hi) (Nat.le_trans HBX.out.2 hK2.size)
  have HGD := Lib.hid H1.out.dl.good
  clear hL2 hK2 hx0 hx2 hx3 hx4 hxl hc H1 HBX
  have hc := H2.out.blk.c13
  have hx2 := HB2.out.cell 2
  have hx3 := HB2.out.cell 3
  have hx4 := HB2.out.cell 4
  have hxl := HB2.out.lt
  simp only [List.getElem?_cons_zero, List.getElem?_cons_succ] at hx2 hx3 hx4
  go_wp2_with fail
  repeat' (first | (refine hZ _ _ ?_; clear hZ) | (refine hZ _ ?_; clear hZ) | (refine hZ ?_; clear hZ) | rw [again_nil] | rw [walk_fin] | ((first | rw [walk_take] | rw [walk_run] | rw [again_cons]); intro Z hZ; simp only [sel, List.getElem?_toArray, List.getElem?_cons_zero, List.getElem?_cons_succ]; go_wp2_with (fail)))
  go_wp2_with fail
  refine H2.out.dl.up.mono ?_
  rintro e w3 ⟨rfl, hL3, hK3⟩
  have H3 := Lib.hid (H2.out.prog hL3 hK3 fun i hi => ⟨.inl hi, fun e => H2.out.own (e ▸ hi)⟩)
  have HB3 := Lib.hid (HB2.out.kept hK3 (fun hi => by have := H0.out.2 _ (.inl hi); omega))
  have HLT3 : Hid (∀ i, inB k gb o i → i < w3.heap.size) := fun i hi => Nat.lt_of_lt_of_le (HLT.out i hi) hK3.size
  clear hL3 hK3 hx2 hx3 hx4 hxl hc H2 HB2 HLT
  have hc := H3.out.blk.c13
  have hx2 := HB3.out.cell 2
  have hx3 := HB3.out.cell 3
  have hx4 := HB3.out.cell 4
  have hxl := HB3.out.lt
  simp only [List.getElem?_cons_zero, List.getElem?_cons_succ] at hx2 hx3 hx4
  go_wp2_with fail
  refine wp_region_plan (.take 0 (.take 1 (.take 2 (.take 3 (.take 4 (.take 5 (.take 6 (.take 7 (.run 8 [0] (.take 9 (.take 10 (.take 11 (.run 12 [] .fin))))))))))))) (by kernel_rfl) (by kernel_rfl) (by kernel_rfl) (by kernel_rfl) ?_
  repeat' (first | (refine hZ _ _ ?_; clear hZ) | (refine hZ _ ?_; clear hZ) | (refine hZ ?_; clear hZ) | rw [again_nil] | rw [walk_fin] | ((first | rw [walk_take] | rw [walk_run] | rw [again_cons]); intro Z hZ; simp only [sel, List.getElem?_toArray, List.getElem?_cons_zero, List.getElem?_cons_succ]; go_wp2_with (fail)))
  refine (refcrash_any (inB k gb o) w3.drew HLT3.out d _ (H3.out.below (below_drew w3)).rx HGD.out q.f HF.out.1).mono ?_
  rintro e w4 ⟨c4, rfl, hx, hb4⟩
  have H4 := Lib.hid (And.intro ((H3.out.below (below_drew w3)).below hb4) hx)
  obtain ⟨As4, cs4, Ap4, cp4, Af4, cf4, rfl⟩ := hx.open_
  clear hx hb4 hc hx2 hx3 hx4 hxl H3 HB3
  have hc := H4.out.1.blk.c13
  go_wp2_with fail
  repeat' (first | (refine hZ _ _ ?_; clear hZ) | (refine hZ _ ?_; clear hZ) | (refine hZ ?_; clear hZ) | rw [again_nil] | rw [walk_fin] | ((first | rw [walk_take] | rw [walk_run] | rw [again_cons]); intro Z hZ; simp only [sel, List.getElem?_toArray, List.getElem?_cons_zero, List.getElem?_cons_succ]; go_wp2_with (fail)))
  have H5 : Hid (BotAt w0 (w4.setCells gb 2 [.slice As4 (d.crash q.f).rx.sure.length cs4, .slice Ap4 (d.crash q.f).rx.pend.length cp4, .slice Af4 (d.crash q.f).rx.falls.length cf4, .int .i64 ((d.crash q.f).rx.ch : Nat), .bool (d.crash q.f).rx.down]) k gb o { d.crash q.f with down := false } lp [.slice As4 (d.crash q.f).rx.sure.length cs4, .slice Ap4 (d.crash q.f).rx.pend.length cp4, .slice Af4 (d.crash q.f).rx.falls.length cf4, .int .i64 ((d.crash q.f).rx.ch : Nat), .bool (d.crash q.f).rx.down] (d.crash q.f).rx l n) := H4.out.1.store 2 [.slice As4 (d.crash q.f).rx.sure.length cs4, .slice Ap4 (d.crash q.f).rx.pend.length cp4, .slice Af4 (d.crash q.f).rx.falls.length cf4, .int .i64 ((d.crash q.f).rx.ch : Nat), .bool (d.crash q.f).rx.down] rfl H4.out.2
  clear hc H4
  simp only [World.setCells, Nat.reduceAdd] at H5
  generalize (((((World.setCell w4 _ _).setCell _ _).setCell _ _).setCell _ _).setCell _ _) = W5 at H5 ⊢
  have hc := H5.out.blk.c13
  go_upto_region 17 with (fail)
  have H6 : Hid (BotAt w0 (W5.setCells gb 6 [.bool false]) k gb o { d.crash q.f with down := false } lp [.slice As4 (d.crash q.f).rx.sure.length cs4, .slice Ap4 (d.crash q.f).rx.pend.length cp4, .slice Af4 (d.crash q.f).rx.falls.length cf4, .int .i64 ((d.crash q.f).rx.ch : Nat), .bool false] ({ d.crash q.f with down := false } : DS).rx l n ∧ NowAt { d.crash q.f with down := false }) := ⟨H5.out.store 6 [.bool false] rfl H5.out.rx.setDown, (HN.out.crash q.f).up false⟩
  have HLN : Hid (({ d.crash q.f with down := false } : DS).blocks.length = d.blocks.length) := crash_length d q.f
  simp only [World.setCells] at H6
  clear H5
  generalize (World.setCell W5 _ _) = W6 at H6 ⊢
  generalize hd3 : ({ d.crash q.f with down := false } : DS) = d3 at H6 HLN
  have HO := Lib.hid (bopen_any w0 W6 k gb o d3 lp _ l n H6.out.1 H6.out.2 (by omega) blocks h3 h1000 (by rw [HLN.out]; exact HIN.out))
  clear hc
  go_wp2_with fail
  refine HO.out.mono ?_
  rintro e w8 ⟨rfl, l8, hb8, hat8, -⟩
  go_wp2_with fail
  go_ret
  refine ⟨rfl, ((d3).openW l.at_ ((blocks - 2) * 512)).d, l8, ?_, hat8, by rw [openW_length, HLN.out]⟩
  obtain ⟨q1, lp8, c8, o8, q2, q3⟩ := hb8
  exact ⟨q1, lp8, c8, o8, q2.more (by omega), q3⟩
set_option maxRecDepth 20000 in
set_option maxHeartbeats 2000000 in
theorem bstep3 (w0 w : World) (k : KB) (gb : Nat) (d : DS) (l : LS) (n : Nat) (H : BotOk w0 w k gb d l n) (hn : n + 1010 < 80000) (q : OpW) (hf : q.f.Fine) (blocks : Nat) (hk : (IntKind.u64.wrap q.k).tmod 5 = 3) :
    Calls Try.prog 46 #[.pointer (some ⟨gb, 0, none⟩), .agg #[.int .i64 q.k, .slice q.A q.ps.length q.cap, .int .i64 q.f.at_, .int .u64 (q.f.keep : Nat), .int .i64 q.f.torn], .int .i64 (blocks : Nat)] w (Stepped w0 k gb d l n) := by
  obtain ⟨hN, lp, c, o, hB, hcase⟩ := H
  obtain ⟨As, cs, Ap, cp, Af, cf, rfl⟩ := hB.rx.open_
  have hw0 : 0 ≤ IntKind.u64.wrap q.k := by simp [IntKind.wrap, IntKind.signed, IntKind.bits]; omega
  have hk5 : IntKind.u64.wrap q.k % 5 = 3 := by rw [← Int.tmod_eq_emod_of_nonneg hw0]; exact hk
  have hw9 : 0 ≤ IntKind.u64.wrap q.f.at_ := by simp [IntKind.wrap, IntKind.signed, IntKind.bits]; omega
  have h9 : (IntKind.u64.wrap q.f.at_).tmod 9 = IntKind.u64.wrap q.f.at_ % 9 := Int.tmod_eq_emod_of_nonneg hw9
  have hm0 : 0 ≤ IntKind.u64.wrap q.f.at_ % 9 ∧ IntKind.u64.wrap q.f.at_ % 9 < 9 := by omega
  have hch : d.changes ≤ 80000 := by have := hB.dl.ch; omega
  have HN := Lib.hid hN
  have HF := Lib.hid hf
  have H0 : Hid (BotAt w0 w k gb o d lp [.slice As d.rx.sure.length cs, .slice Ap d.rx.pend.length cp, .slice Af d.rx.falls.length cf, .int .i64 (d.rx.ch : Nat), .bool d.rx.down] d.rx l n ∧ JCase w0 w k gb o l lp) := ⟨hB, hcase⟩
  clear hB hcase hN hf
  go_enter Try.func46, Try.ntmps46
  go_upto_region 1 with (fail)
  generalize hW1 : World.alloc w (.cells _ _) = W1
  obtain ⟨ba1, hz1, hB1⟩ := fresh1 hW1
  clear hW1
  have H1 : Hid (BotAt w0 W1 k gb o d lp [.slice As d.rx.sure.length cs, .slice Ap d.rx.pend.length cp, .slice Af d.rx.falls.length cf, .int .i64 (d.rx.ch : Nat), .bool d.rx.down] d.rx l n ∧ JCase w0 W1 k gb o l lp) := ⟨H0.out.1.below hB1, H0.out.2.below hB1⟩
  have hx0 := ba1.cell 0
  have hx2 := ba1.cell 2
  have hx3 := ba1.cell 3
  have hx4 := ba1.cell 4
  have hxl := ba1.lt
  simp only [List.getElem?_cons_zero, List.getElem?_cons_succ] at hx0 hx2 hx3 hx4
  clear ba1 hB1 hz1 H0
  go_upto_region 20 with (fail)
  generalize hW2 : World.alloc W1 (.cells _ _) = W2
  obtain ⟨ba2, hz2, hB2⟩ := fresh1 hW2
  clear hW2
  have H2 : Hid (Blk W2 W1.heap.size 25 [.int .i64 q.f.at_, .int .u64 (q.f.keep : Nat), .int .i64 q.f.torn] ∧ Below W1.heap.size W1 W2) := ⟨ba2, hB2⟩
  have hf0 := ba2.cell 0
  have hf1 := ba2.cell 1
  have hf2 := ba2.cell 2
  have hf3 := ba2.free 0
  have hfl := ba2.lt
  simp only [List.getElem?_cons_zero, List.getElem?_cons_succ] at hf0 hf1 hf2
  have hc := (H1.out.1.below hB2).blk.c13
  have HCH := Lib.hid (changes_any W2.drew _ k d ((H1.out.1.below hB2).dl.at_.below (below_drew W2)))
  clear ba2 hB2 hz2 hx0 hx2 hx3 hx4 hxl
  go_wp2_with fail
  refine wp_region_plan (.take 0 (.take 1 (.take 2 (.take 3 (.take 5 (.take 6 (.take 7 (.take 8 (.take 9 (.run 4 [5, 6, 7, 8, 9] (.take 10 (.take 11 (.run 12 [] .fin))))))))))))) (by kernel_rfl) (by kernel_rfl) (by kernel_rfl) (by kernel_rfl) ?_
  repeat' (first | (refine hZ _ _ ?_; clear hZ) | (refine hZ _ ?_; clear hZ) | (refine hZ ?_; clear hZ) | rw [again_nil] | rw [walk_fin] | ((first | rw [walk_take] | rw [walk_run] | rw [again_cons]); intro Z hZ; simp only [sel, List.getElem?_toArray, List.getElem?_cons_zero, List.getElem?_cons_succ]; go_wp2_with (fail)))
  refine HCH.out.mono ?_
  rintro e w3 ⟨rfl, rfl⟩
  go_wp2_with fail
  repeat' (first | (refine hZ _ _ ?_; clear hZ) | (refine hZ _ ?_; clear hZ) | (refine hZ ?_; clear hZ) | rw [again_nil] | rw [walk_fin] | ((first | rw [walk_take] | rw [walk_run] | rw [again_cons]); intro Z hZ; simp only [sel, List.getElem?_toArray, List.getElem?_cons_zero, List.getElem?_cons_succ]; go_wp2_with (fail)))
  have hf' : q.f.keep < 18446744073709551616 ∧ (-9223372036854775808 ≤ q.f.torn ∧ q.f.torn ≤ 9223372036854775807) := ⟨HF.out.1, HF.out.2⟩
  obtain ⟨at', hat'⟩ : ∃ a : Int, a = (d.changes : Int) + IntKind.u64.wrap q.f.at_ % 9 := ⟨_, rfl⟩
  have H3 : Hid (BotAt w0 (W2.setCell ⟨W1.heap.size, 0, none⟩ (.int .i64 at')).drew k gb o d lp [.slice As d.rx.sure.length cs, .slice Ap d.rx.pend.length cp, .slice Af d.rx.falls.length cf, .int .i64 (d.rx.ch : Nat), .bool d.rx.down] d.rx l n ∧ JCase w0 (W2.setCell ⟨W1.heap.size, 0, none⟩ (.int .i64 at')).drew k gb o l lp ∧
      Blk (W2.setCell ⟨W1.heap.size, 0, none⟩ (.int .i64 at')).drew W1.heap.size 25 [.int .i64 at', .int .u64 (q.f.keep : Nat), .int .i64 q.f.torn]) := by
    have hb3 : Below W1.heap.size W1 (W2.setCell ⟨W1.heap.size, 0, none⟩ (.int .i64 at')).drew := (H2.out.2.setCell (p := ⟨W1.heap.size, 0, none⟩) (Nat.le_refl _) _).drewR
    exact ⟨H1.out.1.below hb3, H1.out.2.below hb3, (H2.out.1.set 0 _).below (Below.refl _ _).drewR⟩
  have HN1 : Hid (∀ i, inB k gb o i → i ≠ W1.heap.size) := fun i hi e => by have := H1.out.1.lt H1.out.2.lt i hi; omega
  rw [← hat']
  generalize hgf : W1.heap.size = gf at H3 HN1 ⊢
  clear hc hf0 hf1 hf2 hf3 hfl hat' HCH H1 H2 hw0 hk5 hw9 h9 hm0
  generalize (World.setCell _ _ _).drew = W3 at H3 ⊢
  have hc := H3.out.1.blk.c13
  have hf0 := H3.out.2.2.cell 0
  have hf1 := H3.out.2.2.cell 1
  have hf2 := H3.out.2.2.cell 2
  have hfl := H3.out.2.2.lt
  simp only [List.getElem?_cons_zero, List.getElem?_cons_succ] at hf0 hf1 hf2
  go_wp2_with fail
  refine wp_region_plan (.take 0 (.take 1 (.take 2 (.take 3 (.take 4 (.run 5 [0, 1, 2, 3] (.run 6 [] .fin))))))) (by kernel_rfl) (by kernel_rfl) (by kernel_rfl) (by kernel_rfl) ?_
  repeat' (first | (refine hZ _ _ ?_; clear hZ) | (refine hZ _ ?_; clear hZ) | (refine hZ ?_; clear hZ) | rw [again_nil] | rw [walk_fin] | ((first | rw [walk_take] | rw [walk_run] | rw [again_cons]); intro Z hZ; simp only [sel, List.getElem?_toArray, List.getElem?_cons_zero, List.getElem?_cons_succ]; go_wp2_with (fail)))
  have hbp : Below W3.heap.size W3 (W3.alloc (.cells #[.int .i64 at', .int .u64 (q.f.keep : Nat), .int .i64 q.f.torn] 25)).drew := (Below.alloc1 W3 _).drewR
  have hrow : ERow eDF (W3.alloc (.cells #[.int .i64 at', .int .u64 (q.f.keep : Nat), .int .i64 q.f.torn] 25)).drew (some ⟨W3.heap.size, 0, none⟩) [⟨at', q.f.keep, q.f.torn⟩] := (ERow.lit eDF _ ⟨at', q.f.keep, q.f.torn⟩ #[.int .i64 at', .int .u64 (q.f.keep : Nat), .int .i64 q.f.torn] rfl _ rfl).below (Below.refl _ _).drewR
  have H4 : Hid (BotAt w0 (W3.alloc (.cells #[.int .i64 at', .int .u64 (q.f.keep : Nat), .int .i64 q.f.torn] 25)).drew k gb o d lp [.slice As d.rx.sure.length cs, .slice Ap d.rx.pend.length cp, .slice Af d.rx.falls.length cf, .int .i64 (d.rx.ch : Nat), .bool d.rx.down] d.rx l n ∧ JCase w0 (W3.alloc (.cells #[.int .i64 at', .int .u64 (q.f.keep : Nat), .int .i64 q.f.torn] 25)).drew k gb o l lp ∧
      Blk (W3.alloc (.cells #[.int .i64 at', .int .u64 (q.f.keep : Nat), .int .i64 q.f.torn] 25)).drew gf 25 [.int .i64 at', .int .u64 (q.f.keep : Nat), .int .i64 q.f.torn]) := ⟨H3.out.1.below hbp, H3.out.2.1.below hbp, H3.out.2.2.below hbp⟩
  clear hbp hc hf0 hf1 hf2 hfl H3
  generalize hss : W3.heap.size = ss at hrow H4 ⊢
  generalize (World.alloc _ _).drew = W4 at hrow H4 ⊢
  refine (H4.out.1.dl.plan (some ⟨ss, 0, none⟩) 1 [⟨at', q.f.keep, q.f.torn⟩] hrow (by simp) (by intro x hx; simp at hx; subst hx; exact hf')).mono ?_
  rintro e w5 ⟨rfl, hL5, hK5⟩
  have H5 : Hid (BotAt w0 w5 k gb o { d with falls := [⟨at', q.f.keep, q.f.torn⟩] } lp [.slice As d.rx.sure.length cs, .slice Ap d.rx.pend.length cp, .slice Af d.rx.falls.length cf, .int .i64 (d.rx.ch : Nat), .bool d.rx.down] d.rx l n ∧ JCase w0 w5 k gb o l lp ∧
      Blk w5 gf 25 [.int .i64 at', .int .u64 (q.f.keep : Nat), .int .i64 q.f.torn]) := ⟨H4.out.1.prog hL5 hK5 fun i hi => ⟨.inl hi, fun e => H4.out.1.own (e ▸ hi)⟩, H4.out.2.1.disk hK5, H4.out.2.2.kept hK5 (fun h => HN1.out gf (.inl h) rfl)⟩
  clear hrow hL5 hK5 H4
  have hc := H5.out.1.blk.c13
  have hf0 := H5.out.2.2.cell 0
  have hf1 := H5.out.2.2.cell 1
  have hf2 := H5.out.2.2.cell 2
  have hfl := H5.out.2.2.lt
  simp only [List.getElem?_cons_zero, List.getElem?_cons_succ] at hf0 hf1 hf2
  go_wp2_with fail
  repeat' (first | (refine hZ _ _ ?_; clear hZ) | (refine hZ _ ?_; clear hZ) | (refine hZ ?_; clear hZ) | rw [again_nil] | rw [walk_fin] | ((first | rw [walk_take] | rw [walk_run] | rw [again_cons]); intro Z hZ; simp only [sel, List.getElem?_toArray, List.getElem?_cons_zero, List.getElem?_cons_succ]; go_wp2_with (fail)))
  go_upto_region 23 with (fail)
  have hbq : Below w5.heap.size w5 (w5.alloc (.cells #[.int .i64 at', .int .u64 (q.f.keep : Nat), .int .i64 q.f.torn] 25)) := Below.alloc1 w5 _
  have hrow : ERow eDF (w5.alloc (.cells #[.int .i64 at', .int .u64 (q.f.keep : Nat), .int .i64 q.f.torn] 25)) (some ⟨w5.heap.size, 0, none⟩) [⟨at', q.f.keep, q.f.torn⟩] := ERow.lit eDF _ ⟨at', q.f.keep, q.f.torn⟩ #[.int .i64 at', .int .u64 (q.f.keep : Nat), .int .i64 q.f.torn] rfl _ rfl
  rw [← World.setCell_alloc_past _ _ _ _ H5.out.1.blk.lt]
  have H6 : Hid (BotAt w0 (w5.alloc (.cells #[.int .i64 at', .int .u64 (q.f.keep : Nat), .int .i64 q.f.torn] 25)) k gb o { d with falls := [⟨at', q.f.keep, q.f.torn⟩] } lp [.slice As d.rx.sure.length cs, .slice Ap d.rx.pend.length cp, .slice Af d.rx.falls.length cf, .int .i64 (d.rx.ch : Nat), .bool d.rx.down] d.rx l n ∧ JCase w0 (w5.alloc (.cells #[.int .i64 at', .int .u64 (q.f.keep : Nat), .int .i64 q.f.torn] 25)) k gb o l lp ∧ (∀ i, inB k gb o i → i ≠ w5.heap.size)) :=
    ⟨H5.out.1.below hbq, H5.out.2.1.below hbq, fun i hi e => by have := H5.out.1.lt H5.out.2.1.lt i hi; omega⟩
  clear hbq hc hf0 hf1 hf2 hfl H5 HN1
  generalize w5.heap.size = ss5 at hrow H6 ⊢
  generalize (World.alloc w5 _) = W6 at hrow H6 ⊢
  have H7 : Hid (BotOk w0 (W6.setCells gb 4 [.slice (some ⟨ss5, 0, none⟩) 1 1]) k gb { d with falls := [⟨at', q.f.keep, q.f.torn⟩] } l n) := by
    have g6 := grown_setCells W6 gb 4 [.slice (some ⟨ss5, 0, none⟩) 1 1]
    refine ⟨HN.out.plan _, lp, _, o, H6.out.1.store 4 [.slice (some ⟨ss5, 0, none⟩) 1 1] rfl (H6.out.1.rx.setFalls (L := [⟨at', q.f.keep, q.f.torn⟩]) (cf' := 1) (m := 1) rfl ⟨hrow, fun _ a ha hs => ?_⟩), H6.out.2.1.store H6.out.1.blk g6⟩
    obtain rfl := Option.some.inj ha
    exact H6.out.2.2 _ hs rfl
  simp only [World.setCells] at H7
  clear hrow H6
  generalize hdd : ({ d with falls := [⟨at', q.f.keep, q.f.torn⟩] } : DS) = dd at H7
  have HDL : Hid (dd.blocks.length = d.blocks.length) := by rw [← hdd]; exact Lib.hid rfl
  clear hdd
  generalize (World.setCell W6 _ _) = W7 at H7 ⊢
  have HLK := Lib.hid (blike_any w0 W7 k gb dd l _ H7.out)
  go_wp2_with fail
  refine HLK.out.mono ?_
  rintro e w7 ⟨rfl, hb7⟩
  have H8 : Hid (BotOk w0 w7 k gb dd l (n + 1010)) := by
    obtain ⟨h1, lp', c', o', h2, h3⟩ := H7.out
    exact ⟨h1, lp', c', o', (h2.below hb7).more (by omega), JCase.below h3 hb7⟩
  clear hb7 HLK H7
  go_wp2_with fail
  go_ret
  exact ⟨rfl, _, _, H8.out, rfl, HDL.out⟩
end Go.Proofs.Ythbanhedjfpmaaa
end

section
/-
  The walk of WalPlays.
-/
namespace Go.Proofs.Ythbanhedjfpmaaa
set_option linter.unusedSimpArgs false
set_option linter.unusedVariables false
open Go.RowKit

theorem bstep_any (w0 w : World) (k : KB) (gb : Nat) (d : DS) (l : LS) (n : Nat) (H : BotOk w0 w k gb d l n) (hn : n + 1010 < 80000) (q : OpW) (hq : q.Fine w0) (h6 : q.ps.length ≤ 6) (hp3 : ∀ p ∈ q.ps, p.l.length ≤ 3000) (blocks : Nat) (h3 : 3 ≤ blocks) (h1000 : blocks ≤ 1000) (hin : l.at_ + blocks ≤ d.blocks.length) :
    Calls Try.prog 46 #[.pointer (some ⟨gb, 0, none⟩), .agg #[.int .i64 q.k, .slice q.A q.ps.length q.cap, .int .i64 q.f.at_, .int .u64 (q.f.keep : Nat), .int .i64 q.f.torn], .int .i64 (blocks : Nat)] w (Stepped w0 k gb d l n) := by
  have h0 : 0 ≤ IntKind.u64.wrap q.k := by simp [IntKind.wrap, IntKind.signed, IntKind.bits]; omega
  have h5 : (IntKind.u64.wrap q.k).tmod 5 = IntKind.u64.wrap q.k % 5 := Int.tmod_eq_emod_of_nonneg h0
  have hc : (IntKind.u64.wrap q.k).tmod 5 = 0 ∨ (IntKind.u64.wrap q.k).tmod 5 = 1 ∨ (IntKind.u64.wrap q.k).tmod 5 = 2 ∨ (IntKind.u64.wrap q.k).tmod 5 = 3 ∨ (IntKind.u64.wrap q.k).tmod 5 = 4 := by
    rw [h5]
    generalize IntKind.u64.wrap q.k = y at h0
    omega
  rcases hc with h | h | h | h | h
  · exact bstep0 w0 w k gb d l n H hn q hq h6 hp3 blocks h
  · exact bstep1 w0 w k gb d l n H hn q blocks h
  · exact bstep2 w0 w k gb d l n H hn q hq.f blocks h3 h1000 hin h
  · exact bstep3 w0 w k gb d l n H hn q hq.f blocks h
  · exact bstep4 w0 w k gb d l n H hn q blocks h3 h1000 hin h
theorem fitsW_all {n : Int} {L : List OpW} (h : fitsW n L = true) : (3 ≤ n ∧ n ≤ 7 ∧ L.length ≤ 30) ∧ ∀ o ∈ L, o.ps.length ≤ 6 ∧ ∀ p ∈ o.ps, p.l.length ≤ 3000 := by
  unfold fitsW at h
  simp only [Bool.and_eq_true, decide_eq_true_eq, List.all_eq_true] at h
  refine ⟨⟨h.1.1.1, h.1.1.2, h.1.2⟩, fun o ho => ?_⟩
  have h2 := h.2 o ho
  unfold OpW.fit short3 at h2
  simpa only [Bool.and_eq_true, decide_eq_true_eq, List.all_eq_true] using h2
theorem rx_fresh (n : Nat) : (DS.new n).rx = RX.fresh n := by
  unfold DS.new DS.rx RX.fresh
  simp only [List.map_replicate, List.map_nil]
  rfl
theorem BotOk.below {w0 w w' : World} {k : KB} {gb : Nat} {d : DS} {l : LS} {n : Nat} (h : BotOk w0 w k gb d l n) (hb : Below w.heap.size w w') : BotOk w0 w' k gb d l n := by
  obtain ⟨h1, lp, c, o, h2, h3⟩ := h
  exact ⟨h1, lp, c, o, h2.below hb, JCase.below h3 hb⟩
theorem BotOk.bel {w0 w : World} {k : KB} {gb : Nat} {d : DS} {l : LS} {n : Nat} (h : BotOk w0 w k gb d l n) : Below w0.heap.size w0 w := by
  obtain ⟨h1, lp, c, o, h2, h3⟩ := h
  exact h2.dl.bel
set_option maxRecDepth 20000 in
set_option maxHeartbeats 4000000 in
theorem walPlays_fit (w : World) (n : Nat) (fr : Bool) (A1 : Option Addr) (c1 : Nat) (L1 : List OpW) (hr1 : ERow eOpW w A1 L1) (hf1 : ∀ o ∈ L1, o.Fine w) (h1 : fitsW n L1 = true) :
    Calls Try.prog 12 #[.int .i64 n, .bool fr, .slice A1 L1.length c1] w fun e w' => e = .returned (.bool true) ∧ Below w.heap.size w w' := by
  have HF1 := Lib.hid (fun w' (hb : Below w.heap.size w w') => wfits_any w' n A1 c1 L1 (hr1.below hb) (fun o ho => (hf1 o ho).ps.below hb))
  obtain ⟨⟨hn1, hn2, hl1⟩, hall⟩ := fitsW_all h1
  rw [h1] at HF1
  have HR := Lib.hid (And.intro hr1 (And.intro hf1 hall))
  clear hr1 hf1 h1 hall
  go_enter Try.func12, Try.ntmps12
  go_wp2_with fail
  refine (wlives_any w).mono ?_
  rintro e w1 ⟨rfl, hB⟩
  have HB1 := Lib.hid hB
  clear hB
  go_wp2_with fail
  refine (HF1.out w1 HB1.out).mono ?_
  rintro e w3 ⟨rfl, hB⟩
  have HB3 := Lib.hid (HB1.out.trans (hB.mono HB1.out.size))
  clear hB HB1
  cases fr with
  | false =>
    go_wp2_with fail
    have hD := DL.new (w0 := w) (n) (by omega) (by omega) HB3.out
    try rw [show ((n + 2 : Nat) : Int) = (n : Int) + 2 from rfl] at hD
    refine hD.mono ?_
    rintro e w4 ⟨k, rfl, hL, -⟩
    have HL := Lib.hid hL
    clear hL HB3 HF1 hD
    have hX := refnew_any k.own w4 HL.out.own_lt (n) (by omega)
    try rw [show ((n + 2 : Nat) : Int) = (n : Int) + 2 from rfl] at hX
    have HX := Lib.hid hX
    clear hX
    go_wp2_with fail
    refine HX.out.mono ?_
    rintro e w5 ⟨c5, rfl, hx5, hb5⟩
    have H5 : Hid (DL w w5 k (DS.new (n)) 0 ∧ RefX k.own w5 c5 (DS.new (n)).rx) := ⟨HL.out.below hb5, by rw [rx_fresh]; exact hx5⟩
    obtain ⟨As, cs, Ap, cp, Af, cf, rfl⟩ := hx5.open_
    clear hx5 hb5 HL HX
    go_upto_region 8 with (fail)
    generalize hW6 : World.alloc w5 (.cells _ _) = W6
    obtain ⟨ba6, hz6, hB6⟩ := fresh1 hW6
    clear hW6
    have H6 : Hid (BotAt w W6 k w5.heap.size none (DS.new (n)) none _ (DS.new (n)).rx ⟨0, 0, 0, [], 0, false⟩ 0) := ⟨H5.out.1.below hB6, ba6, (H5.out.2.extend (fun i hi => by
      rcases hi with hi | hi | hi
      · exact .inl hi
      · exact .inr (Nat.le_of_eq hi.symm)
      · cases hi)).below hB6, H5.out.1.bel.size, fun h => Nat.lt_irrefl _ (H5.out.1.own_lt _ h)⟩
    obtain ⟨gx, hgx⟩ : ∃ gx, gx = w5.heap.size := ⟨_, rfl⟩
    rw [← hgx] at H6 ⊢
    clear ba6 hB6 H5 hz6 hgx
    have HOP := Lib.hid (bopen_any w W6 k gx none (DS.new (n)) none _ ⟨0, 0, 0, [], 0, false⟩ 0 H6.out (NowAt.fresh _) (by decide) n (by omega) (by omega) (by simp [DS.new] <;> omega))
    have hln : (DS.new (n)).blocks.length = n := by simp [DS.new]
    have HLN := Lib.hid hln
    clear hln
    go_wp2_with fail
    refine HOP.out.mono ?_
    rintro e w7 ⟨rfl, l7, hb7, hat7, -⟩
    have H7 : ∃ d l, Hid (BotOk w w7 k gx d l 2 ∧ l.at_ = 0 ∧ d.blocks.length = n) := ⟨_, l7, hb7, hat7, by rw [openW_length]; exact HLN.out⟩
    clear hb7 hat7 HOP H6
    go_wp2_with fail
    go_loopw [48] (fun iv wr => ∃ i : Nat, i ≤ L1.length ∧ iv = .int .i64 i ∧ ∃ d l, Hid (BotOk w wr k gx d l (2 + i * 1010) ∧ l.at_ = 0 ∧ d.blocks.length = n)) (fun iv _ => L1.length - (intOf iv).toNat)
    case atStart => exact ⟨0, by omega, rfl, H7⟩
    case round =>
      obtain ⟨i, hi, rfl, d, l, HJ⟩ := hrel
      clear H7
      by_cases hlt : i < L1.length
      · have hii : (i : Int) < (L1.length : Int) := by omega
        obtain ⟨b, o, rfl, hb, hcc⟩ := opw_at (HR.out.1.below HJ.out.1.bel) hlt
        have HQ := Lib.hid (And.intro (HR.out.2.1 L1[i] (List.getElem_mem hlt)) (HR.out.2.2 L1[i] (List.getElem_mem hlt)))
        generalize L1[i] = q at hcc HQ
        go_upto_region 13 with (fail)
        generalize hW7 : World.alloc wr (.cells _ _) = W7
        obtain ⟨ba7, hz7, hB7⟩ := fresh1 hW7
        clear hW7
        have HP := Lib.hid (bstep_any w W7 k gx d l _ (HJ.out.1.below hB7) (by omega) q HQ.out.1 HQ.out.2.1 HQ.out.2.2 n (by omega) (by omega) (by have h1 := HJ.out.2.1; have h2 := HJ.out.2.2; omega))
        have hcq := And.intro (ba7.cell 0) (And.intro (ba7.cell 1) (And.intro (ba7.cell 2) (And.intro (ba7.cell 3) (ba7.cell 4))))
        simp only [List.getElem?_cons_zero, List.getElem?_cons_succ] at hcq
        clear ba7 hB7 hcc hz7
        go_wp2_with fail
        refine HP.out.mono ?_
        rintro e w8 ⟨rfl, d8, l8, hb8, ha8, hl8⟩
        have H8 : Hid (BotOk w w8 k gx d8 l8 (2 + (i + 1) * 1010) ∧ l8.at_ = 0 ∧ d8.blocks.length = n) := ⟨by rw [show 2 + (i + 1) * 1010 = 2 + i * 1010 + 1010 by omega]; exact hb8, by rw [ha8]; exact HJ.out.2.1, by rw [hl8]; exact HJ.out.2.2⟩
        clear hb8 ha8 hl8 HP hcq HJ
        go_wp2_with fail
        go_roundw
        case rel => exact ⟨i + 1, by omega, by go_num, d8, l8, H8⟩
        case measure => simp [intOf]; omega
      · obtain rfl : i = L1.length := by omega
        have hii : ¬ (L1.length : Int) < (L1.length : Int) := by omega
        obtain ⟨nn, hnn⟩ : ∃ nn, nn = 2 + L1.length * 1010 := ⟨_, rfl⟩
        rw [← hnn] at HJ
        obtain ⟨⟨hN, lp, c, o, hB, hcase⟩, -, hlen⟩ := HJ.out
        obtain ⟨As, cs, Ap, cp, Af, cf, rfl⟩ := hB.rx.open_
        have HB := Lib.hid hB
        have HN := Lib.hid (And.intro hN hlen)
        clear hlt hB hcase hN hlen HJ hnn
        have hc := HB.out.blk.c13
        go_wp2_with fail
        refine HB.out.dl.up.mono ?_
        rintro e w8 ⟨rfl, hL8, hK8⟩
        have H8 := Lib.hid (HB.out.prog hL8 hK8 fun i hi => ⟨.inl hi, fun e => HB.out.own (e ▸ hi)⟩)
        clear hL8 hK8 hc HB
        have hc := H8.out.blk.c13
        go_upto_region 18 with (fail)
        have H9 : Hid (BotAt w (w8.setCells gx 6 [.bool false]) k gx o { d with down := false } lp [.slice As d.rx.sure.length cs, .slice Ap d.rx.pend.length cp, .slice Af d.rx.falls.length cf, .int .i64 (d.rx.ch : Nat), .bool false] ({ d with down := false } : DS).rx l nn) := H8.out.store 6 [.bool false] rfl H8.out.rx.setDown
        have HND : Hid (NowAt ({ d with down := false } : DS) ∧ ({ d with down := false } : DS).down = false ∧ ({ d with down := false } : DS).blocks.length = n) := ⟨HN.out.1.up false, rfl, HN.out.2⟩
        simp only [World.setCells] at H9
        clear hc H8 HN
        generalize (World.setCell w8 _ _) = W9 at H9 ⊢
        generalize d.rx = x at H9
        generalize ({ d with down := false } : DS) = d3 at H9 HND
        go_wp2_with fail
        go_loopw [71] (fun iv wr => ∃ i : Nat, i ≤ n ∧ iv = .int .i64 i ∧ Hid (BotAt w wr k gx o d3 lp [.slice As x.sure.length cs, .slice Ap x.pend.length cp, .slice Af x.falls.length cf, .int .i64 (x.ch : Nat), .bool false] d3.rx l nn)) (fun iv _ => n - (intOf iv).toNat)
        case atStart => exact ⟨0, by omega, rfl, H9⟩
        case round =>
          obtain ⟨i, hi, rfl, HK⟩ := hrel
          clear H9
          by_cases hlt : i < n
          · have hii : (i : Int) < (n : Int) + 0 := by omega
            try rw [Int.add_zero] at hii
            have hil : i < d3.blocks.length := by rw [HND.out.2.2]; exact hlt
            have HRD := Lib.hid (read_ok wr _ k d3 HK.out.dl.at_ i hil HND.out.2.1)
            have HNW := Lib.hid (HND.out.1.now i hil)
            have HP := Lib.hid HK.out.dl.good.p1
            have HH5 := Lib.hid d3.blocks[i].now.h
            have HRN : Hid (∀ w', RefX (inB k gx o) w' [.slice As x.sure.length cs, .slice Ap x.pend.length cp, .slice Af x.falls.length cf, .int .i64 (x.ch : Nat), .bool false] d3.rx → Calls Try.prog 30 #[.agg #[.slice As x.sure.length cs, .slice Ap x.pend.length cp, .slice Af x.falls.length cf, .int .i64 (x.ch : Nat), .bool false], .int .i64 i] w' fun e w'' => e = .returned (.string ⟨d3.blocks[i].now.l.toArray⟩) ∧ Below w'.heap.size w' w'') := fun w' h => by
              have := refnow_any (inB k gx o) w' d3 _ h i hil HP.out
              rw [← HNW.out] at this
              exact this
            generalize d3.blocks[i].now.l = nl at HRD HRN HH5
            have hc := HK.out.blk.c13
            go_wp2_with fail
            refine HRD.out.mono ?_
            rintro e w9 ⟨A9, c9, rfl, ho9, hb9⟩
            have H10 := Lib.hid (And.intro (HK.out.below hb9.drewR) ho9.drew)
            clear hc ho9 hb9 HRD HK
            have hc := H10.out.1.blk.c13
            have hcv := run_string_bytes w9.drew c9 H10.out.2.row
            rw [HH5.out] at hcv
            unfold txt at hcv
            have HCN := Lib.hid (HRN.out w9.drew H10.out.1.rx)
            go_wp2_with fail
            refine wp_region_plan (.take 0 (.take 1 (.take 2 (.take 3 (.take 4 (.take 5 (.take 6 (.take 7 (.take 8 (.take 9 (.take 10 (.run 11 [3, 4] (.take 12 (.take 13 .fin)))))))))))))) (by kernel_rfl) (by kernel_rfl) (by kernel_rfl) (by kernel_rfl) ?_
            repeat' (first | (refine hZ _ _ ?_; clear hZ) | (refine hZ _ ?_; clear hZ) | (refine hZ ?_; clear hZ) | rw [again_nil] | rw [walk_fin] | ((first | rw [walk_take] | rw [walk_run] | rw [again_cons]); intro Z hZ; simp only [sel, List.getElem?_toArray, List.getElem?_cons_zero, List.getElem?_cons_succ]; go_wp2_with (fail)))
            refine HCN.out.mono ?_
            rintro e w10 ⟨rfl, hb10⟩
            have H11 := Lib.hid (H10.out.1.below hb10)
            clear hcv hc
            have hcv := run_string_bytes w10 c9 (H10.out.2.row.below hb10)
            rw [HH5.out] at hcv
            unfold txt at hcv
            clear hb10 HCN HRN
            go_wp2_with fail
            repeat' (first | (refine hZ _ _ ?_; clear hZ) | (refine hZ _ ?_; clear hZ) | (refine hZ ?_; clear hZ) | rw [again_nil] | rw [walk_fin] | ((first | rw [walk_take] | rw [walk_run] | rw [again_cons]); intro Z hZ; simp only [sel, List.getElem?_toArray, List.getElem?_cons_zero, List.getElem?_cons_succ]; go_wp2_with (fail)))
            go_wp2_with fail
            go_roundw
            case rel => exact ⟨i + 1, by omega, by go_num, H11⟩
            case measure => simp [intOf]; omega
          · have hii : ¬ (i : Int) < (n : Int) + 0 := by omega
            try rw [Int.add_zero] at hii
            go_wp2_with fail
            go_ret
            exact ⟨rfl, HK.out.dl.bel⟩
  | true =>
    go_wp2_with fail
    have hD := DL.new (w0 := w) (n + 2) (by omega) (by omega) HB3.out
    try rw [show ((n + 2 : Nat) : Int) = (n : Int) + 2 from rfl] at hD
    refine hD.mono ?_
    rintro e w4 ⟨k, rfl, hL, -⟩
    have HL := Lib.hid hL
    clear hL HB3 HF1 hD
    have hX := refnew_any k.own w4 HL.out.own_lt (n + 2) (by omega)
    try rw [show ((n + 2 : Nat) : Int) = (n : Int) + 2 from rfl] at hX
    have HX := Lib.hid hX
    clear hX
    go_wp2_with fail
    refine HX.out.mono ?_
    rintro e w5 ⟨c5, rfl, hx5, hb5⟩
    have H5 : Hid (DL w w5 k (DS.new (n + 2)) 0 ∧ RefX k.own w5 c5 (DS.new (n + 2)).rx) := ⟨HL.out.below hb5, by rw [rx_fresh]; exact hx5⟩
    obtain ⟨As, cs, Ap, cp, Af, cf, rfl⟩ := hx5.open_
    clear hx5 hb5 HL HX
    go_upto_region 8 with (fail)
    generalize hW6 : World.alloc w5 (.cells _ _) = W6
    obtain ⟨ba6, hz6, hB6⟩ := fresh1 hW6
    clear hW6
    have H6 : Hid (BotAt w W6 k w5.heap.size none (DS.new (n + 2)) none _ (DS.new (n + 2)).rx ⟨2, 0, 0, [], 0, false⟩ 0) := ⟨H5.out.1.below hB6, ba6, (H5.out.2.extend (fun i hi => by
      rcases hi with hi | hi | hi
      · exact .inl hi
      · exact .inr (Nat.le_of_eq hi.symm)
      · cases hi)).below hB6, H5.out.1.bel.size, fun h => Nat.lt_irrefl _ (H5.out.1.own_lt _ h)⟩
    obtain ⟨gx, hgx⟩ : ∃ gx, gx = w5.heap.size := ⟨_, rfl⟩
    rw [← hgx] at H6 ⊢
    clear ba6 hB6 H5 hz6 hgx
    have HOP := Lib.hid (bopen_any w W6 k gx none (DS.new (n + 2)) none _ ⟨2, 0, 0, [], 0, false⟩ 0 H6.out (NowAt.fresh _) (by decide) n (by omega) (by omega) (by simp [DS.new] <;> omega))
    have hln : (DS.new (n + 2)).blocks.length = n + 2 := by simp [DS.new]
    have HLN := Lib.hid hln
    clear hln
    go_wp2_with fail
    refine HOP.out.mono ?_
    rintro e w7 ⟨rfl, l7, hb7, hat7, -⟩
    have H7 : ∃ d l, Hid (BotOk w w7 k gx d l 2 ∧ l.at_ = 2 ∧ d.blocks.length = n + 2) := ⟨_, l7, hb7, hat7, by rw [openW_length]; exact HLN.out⟩
    clear hb7 hat7 HOP H6
    go_wp2_with fail
    go_loopw [48] (fun iv wr => ∃ i : Nat, i ≤ L1.length ∧ iv = .int .i64 i ∧ ∃ d l, Hid (BotOk w wr k gx d l (2 + i * 1010) ∧ l.at_ = 2 ∧ d.blocks.length = n + 2)) (fun iv _ => L1.length - (intOf iv).toNat)
    case atStart => exact ⟨0, by omega, rfl, H7⟩
    case round =>
      obtain ⟨i, hi, rfl, d, l, HJ⟩ := hrel
      clear H7
      by_cases hlt : i < L1.length
      · have hii : (i : Int) < (L1.length : Int) := by omega
        obtain ⟨b, o, rfl, hb, hcc⟩ := opw_at (HR.out.1.below HJ.out.1.bel) hlt
        have HQ := Lib.hid (And.intro (HR.out.2.1 L1[i] (List.getElem_mem hlt)) (HR.out.2.2 L1[i] (List.getElem_mem hlt)))
        generalize L1[i] = q at hcc HQ
        go_upto_region 13 with (fail)
        generalize hW7 : World.alloc wr (.cells _ _) = W7
        obtain ⟨ba7, hz7, hB7⟩ := fresh1 hW7
        clear hW7
        have HP := Lib.hid (bstep_any w W7 k gx d l _ (HJ.out.1.below hB7) (by omega) q HQ.out.1 HQ.out.2.1 HQ.out.2.2 n (by omega) (by omega) (by have h1 := HJ.out.2.1; have h2 := HJ.out.2.2; omega))
        have hcq := And.intro (ba7.cell 0) (And.intro (ba7.cell 1) (And.intro (ba7.cell 2) (And.intro (ba7.cell 3) (ba7.cell 4))))
        simp only [List.getElem?_cons_zero, List.getElem?_cons_succ] at hcq
        clear ba7 hB7 hcc hz7
        go_wp2_with fail
        refine HP.out.mono ?_
        rintro e w8 ⟨rfl, d8, l8, hb8, ha8, hl8⟩
        have H8 : Hid (BotOk w w8 k gx d8 l8 (2 + (i + 1) * 1010) ∧ l8.at_ = 2 ∧ d8.blocks.length = n + 2) := ⟨by rw [show 2 + (i + 1) * 1010 = 2 + i * 1010 + 1010 by omega]; exact hb8, by rw [ha8]; exact HJ.out.2.1, by rw [hl8]; exact HJ.out.2.2⟩
        clear hb8 ha8 hl8 HP hcq HJ
        go_wp2_with fail
        go_roundw
        case rel => exact ⟨i + 1, by omega, by go_num, d8, l8, H8⟩
        case measure => simp [intOf]; omega
      · obtain rfl : i = L1.length := by omega
        have hii : ¬ (L1.length : Int) < (L1.length : Int) := by omega
        obtain ⟨nn, hnn⟩ : ∃ nn, nn = 2 + L1.length * 1010 := ⟨_, rfl⟩
        rw [← hnn] at HJ
        obtain ⟨⟨hN, lp, c, o, hB, hcase⟩, -, hlen⟩ := HJ.out
        obtain ⟨As, cs, Ap, cp, Af, cf, rfl⟩ := hB.rx.open_
        have HB := Lib.hid hB
        have HN := Lib.hid (And.intro hN hlen)
        clear hlt hB hcase hN hlen HJ hnn
        have hc := HB.out.blk.c13
        go_wp2_with fail
        refine HB.out.dl.up.mono ?_
        rintro e w8 ⟨rfl, hL8, hK8⟩
        have H8 := Lib.hid (HB.out.prog hL8 hK8 fun i hi => ⟨.inl hi, fun e => HB.out.own (e ▸ hi)⟩)
        clear hL8 hK8 hc HB
        have hc := H8.out.blk.c13
        go_upto_region 18 with (fail)
        have H9 : Hid (BotAt w (w8.setCells gx 6 [.bool false]) k gx o { d with down := false } lp [.slice As d.rx.sure.length cs, .slice Ap d.rx.pend.length cp, .slice Af d.rx.falls.length cf, .int .i64 (d.rx.ch : Nat), .bool false] ({ d with down := false } : DS).rx l nn) := H8.out.store 6 [.bool false] rfl H8.out.rx.setDown
        have HND : Hid (NowAt ({ d with down := false } : DS) ∧ ({ d with down := false } : DS).down = false ∧ ({ d with down := false } : DS).blocks.length = n + 2) := ⟨HN.out.1.up false, rfl, HN.out.2⟩
        simp only [World.setCells] at H9
        clear hc H8 HN
        generalize (World.setCell w8 _ _) = W9 at H9 ⊢
        generalize d.rx = x at H9
        generalize ({ d with down := false } : DS) = d3 at H9 HND
        go_wp2_with fail
        go_loopw [71] (fun iv wr => ∃ i : Nat, i ≤ n + 2 ∧ iv = .int .i64 i ∧ Hid (BotAt w wr k gx o d3 lp [.slice As x.sure.length cs, .slice Ap x.pend.length cp, .slice Af x.falls.length cf, .int .i64 (x.ch : Nat), .bool false] d3.rx l nn)) (fun iv _ => n + 2 - (intOf iv).toNat)
        case atStart => exact ⟨0, by omega, rfl, H9⟩
        case round =>
          obtain ⟨i, hi, rfl, HK⟩ := hrel
          clear H9
          by_cases hlt : i < n + 2
          · have hii : (i : Int) < (n : Int) + 2 := by omega
            try rw [Int.add_zero] at hii
            have hil : i < d3.blocks.length := by rw [HND.out.2.2]; exact hlt
            have HRD := Lib.hid (read_ok wr _ k d3 HK.out.dl.at_ i hil HND.out.2.1)
            have HNW := Lib.hid (HND.out.1.now i hil)
            have HP := Lib.hid HK.out.dl.good.p1
            have HH5 := Lib.hid d3.blocks[i].now.h
            have HRN : Hid (∀ w', RefX (inB k gx o) w' [.slice As x.sure.length cs, .slice Ap x.pend.length cp, .slice Af x.falls.length cf, .int .i64 (x.ch : Nat), .bool false] d3.rx → Calls Try.prog 30 #[.agg #[.slice As x.sure.length cs, .slice Ap x.pend.length cp, .slice Af x.falls.length cf, .int .i64 (x.ch : Nat), .bool false], .int .i64 i] w' fun e w'' => e = .returned (.string ⟨d3.blocks[i].now.l.toArray⟩) ∧ Below w'.heap.size w' w'') := fun w' h => by
              have := refnow_any (inB k gx o) w' d3 _ h i hil HP.out
              rw [← HNW.out] at this
              exact this
            generalize d3.blocks[i].now.l = nl at HRD HRN HH5
            have hc := HK.out.blk.c13
            go_wp2_with fail
            refine HRD.out.mono ?_
            rintro e w9 ⟨A9, c9, rfl, ho9, hb9⟩
            have H10 := Lib.hid (And.intro (HK.out.below hb9.drewR) ho9.drew)
            clear hc ho9 hb9 HRD HK
            have hc := H10.out.1.blk.c13
            have hcv := run_string_bytes w9.drew c9 H10.out.2.row
            rw [HH5.out] at hcv
            unfold txt at hcv
            have HCN := Lib.hid (HRN.out w9.drew H10.out.1.rx)
            go_wp2_with fail
            refine wp_region_plan (.take 0 (.take 1 (.take 2 (.take 3 (.take 4 (.take 5 (.take 6 (.take 7 (.take 8 (.take 9 (.take 10 (.run 11 [3, 4] (.take 12 (.take 13 .fin)))))))))))))) (by kernel_rfl) (by kernel_rfl) (by kernel_rfl) (by kernel_rfl) ?_
            repeat' (first | (refine hZ _ _ ?_; clear hZ) | (refine hZ _ ?_; clear hZ) | (refine hZ ?_; clear hZ) | rw [again_nil] | rw [walk_fin] | ((first | rw [walk_take] | rw [walk_run] | rw [again_cons]); intro Z hZ; simp only [sel, List.getElem?_toArray, List.getElem?_cons_zero, List.getElem?_cons_succ]; go_wp2_with (fail)))
            refine HCN.out.mono ?_
            rintro e w10 ⟨rfl, hb10⟩
            have H11 := Lib.hid (H10.out.1.below hb10)
            clear hcv hc
            have hcv := run_string_bytes w10 c9 (H10.out.2.row.below hb10)
            rw [HH5.out] at hcv
            unfold txt at hcv
            clear hb10 HCN HRN
            go_wp2_with fail
            repeat' (first | (refine hZ _ _ ?_; clear hZ) | (refine hZ _ ?_; clear hZ) | (refine hZ ?_; clear hZ) | rw [again_nil] | rw [walk_fin] | ((first | rw [walk_take] | rw [walk_run] | rw [again_cons]); intro Z hZ; simp only [sel, List.getElem?_toArray, List.getElem?_cons_zero, List.getElem?_cons_succ]; go_wp2_with (fail)))
            go_wp2_with fail
            go_roundw
            case rel => exact ⟨i + 1, by omega, by go_num, H11⟩
            case measure => simp [intOf]; omega
          · have hii : ¬ (i : Int) < (n : Int) + 2 := by omega
            try rw [Int.add_zero] at hii
            go_wp2_with fail
            go_ret
            exact ⟨rfl, HK.out.dl.bel⟩
end Go.Proofs.Ythbanhedjfpmaaa
end

section
/-
  The plan rule, where an operation writes what one ahead of it, for which it waits, looks at.
-/
namespace Go.Proofs.Ythbanhedjfpmaaa
set_option linter.unusedSimpArgs false
set_option linter.unusedVariables false
open Go

def okC (l : List Oper) : Bool → Plan → Nat → Array Bool → List Nat → Bool
  | _, .fin, _, listed, _ => (Region.ready .any l.toArray listed).isEmpty
  | _, .take i p, fuel + 1, listed, Y => (Region.ready .any l.toArray listed).contains i && Region.free .any l.toArray listed i &&
      (match l[i]? with | some o => valueB o && (match o.dst with | some d => !(o.looksAt l.toArray).contains d | none => false) | none => false) &&
      Y.all (fun k => wApart l k i) && okC l true p fuel (listed.setIfInBounds i true) (i :: Y)
  | top, .run e ag p, fuel + 1, listed, Y => (!top || (Region.ready .any l.toArray listed).all (fun j => e == j)) && (l[e]?).isSome && (Region.ready .any l.toArray listed).contains e &&
      Y.all (fun k => dep l l.length e k || (wApart l k e && ag.contains k)) && okC l true p fuel (listed.setIfInBounds e true) (Y.filter fun k => !dep l l.length e k)
  | top, .fork p q, fuel, listed, Y => (heads p).any (fun j => (Region.ready .any l.toArray listed).contains j) && (!top || (Region.ready .any l.toArray listed).all (fun j => (heads p ++ heads q).contains j)) && okC l false p fuel listed Y && okC l false q fuel listed Y
  | _, _, _, _, _ => false
section
variable {P : Program} {ops : Array Oper} {Q : Exit → Act → World → Prop}
/-- The rule, by induction on the plan. -/
theorem wpAnyY_of_walkC {l : List Oper} (hsel : ∀ (j : Nat) (o : Oper) cs b, l.toArray[j]? = some o → o.op ≠ .select cs b) :
    ∀ (p : Plan) (top : Bool) (fuel : Nat) (Y : List (Nat × (World → Prop))) (listed : Array Bool) (a : Act) (w : World), okC l top p fuel listed (Y.map (·.1)) = true → Closed l.toArray listed → (∀ y ∈ Y, y.2 w) → (∀ y ∈ Y, Taken P l.toArray a y) →
      (∀ (i : Nat) (o : Oper) (t : Tmp), l[i]? = some o → o.dst = some t → t < a.tmps.size) → walk P l.toArray Q p a w →
      (top = true → wpAnyY P l.toArray (dep l l.length) (Only Q) fuel Y listed a w) ∧
      ∀ j ∈ heads p, j ∈ Region.ready .any l.toArray listed → ∃ n, fuel = n + 1 ∧ wpOp P l.toArray (Only Q) j (fun a' w' => (∀ y ∈ Y, dep l l.length j y.1 = false → y.2 w') ∧
        wpAnyY P l.toArray (dep l l.length) (Only Q) n (Y.filter fun y => !dep l l.length j y.1) (listed.setIfInBounds j true) a' w') a w := by
  intro p
  induction p with
  | fin =>
    intro top fuel Y listed a w hok hcl hYw hT hsz hw
    refine ⟨fun _ => wpAnyY_done (by simpa [okC] using hok) ⟨rfl, hw⟩ fuel, fun j hj => by simp [heads] at hj⟩
  | take i p ih =>
    intro top fuel Y listed a w hok hcl hYw hT hsz hw
    refine ⟨fun _ => ?_, fun j hj => by simp [heads] at hj⟩
    cases fuel with
    | zero => simp [okC] at hok
    | succ n =>
      simp only [okC, Bool.and_eq_true] at hok
      obtain ⟨⟨⟨⟨hr, hf⟩, hv⟩, hY⟩, hok⟩ := hok
      cases hi : l[i]? with
      | none => rw [hi] at hv; cases hv
      | some oi =>
        have hia : l.toArray[i]? = some oi := by simpa using hi
        rw [hi] at hv
        simp only [Bool.and_eq_true] at hv
        obtain ⟨hv, hd⟩ := hv
        cases ht : oi.dst with
        | none => rw [ht] at hd; cases hd
        | some t =>
          rw [ht] at hd
          have hself : ∀ d, oi.dst = some d → d ∉ oi.looksAt l.toArray := by
            intro d hd'
            rw [ht] at hd'
            obtain rfl := Option.some.inj hd'
            simpa using hd
          have hlt := hsz i oi t hi ht
          have h0 : wpList P l.toArray (Only fun _ a1 w1 => w1 = w ∧ walk P l.toArray Q p a1 w) (sel l.toArray i) a w := hw _ fun a' h => ⟨rfl, rfl, h⟩
          rw [sel_some hia] at h0
          have hready : i ∈ Region.ready .any l.toArray listed := by simpa using hr
          -- its value
          obtain ⟨v, hy, hwk⟩ : ∃ v, YieldsIf P l.toArray (Cond P l.toArray oi v a) oi v a ∧ Cond P l.toArray oi v a w ∧ walk P l.toArray Q p (a.put oi.dst v) w := by
            unfold wpList at h0
            by_cases hw : Region.wanted oi (yielded l.toArray a.tmps) = true
            · rw [if_pos hw] at h0
              have h1 := h0.resolve_right fun h => not_letsOut _ h.2
              have h2 := upon_cases (fun a w h => by cases h.1) (fun c a w h => by cases h.1) h1
              simp only [wpList, Only, true_and] at h2
              rcases h2 with ⟨v, w', hr, h⟩ | ⟨_, hr, h⟩ | ⟨_, _, hr, h⟩ | ⟨f, args, w', hr, h⟩ | ⟨row, args, w', hr, h⟩
              · exact ⟨v, .inl ⟨hw, fun w' h => h hw⟩, fun _ => by rw [hr, h.1], h.2⟩
              · obtain ⟨v, hv⟩ := valueB_spec hv hr; cases hv
              · obtain ⟨v, hv⟩ := valueB_spec hv hr; cases hv
              · obtain ⟨v, hv⟩ := valueB_spec hv hr; cases hv
              · obtain ⟨v, hv⟩ := valueB_spec hv hr; cases hv
            · rw [if_neg hw] at h0
              exact ⟨undef, .inr ⟨by simpa using hw, rfl⟩, fun h => absurd h hw, h0.2.2⟩
          refine wpAnyY_first hia hsel (fun c a w h => by cases h.1) n Y listed a w hcl (Region.free_spec hia hf) hready hy hwk.1 hYw ?_
          refine (ih true n ((i, Cond P l.toArray oi v a) :: Y) _ _ w (by simpa using hok) (hcl.set hready) (fun y hy => ?_) (fun y hy => ?_) (fun i' o t h1 h2 => by rw [put_size]; exact hsz i' o t h1 h2) hwk.2).1 rfl
          · cases hy with
            | head => exact hwk.1
            | tail _ hy => exact hYw y hy
          · cases hy with
            | head =>
              refine ⟨oi, t, hia, ht, by rw [put_size]; exact hlt, hv, fun w' hc => ?_⟩
              rw [ht, slot_put v hlt, ← ht] at hc
              exact Cond.put (ds := a.defers) (hsel _ _ · · hia) hself hc
            | tail _ hy =>
              have hap := List.all_eq_true.1 hY y.1 (List.mem_map.2 ⟨y, hy, rfl⟩)
              exact Taken.put (hT y hy) hsel hi hap a.defers v
  | run e ag p ih =>
    intro top fuel Y listed a w hok hcl hYw hT hsz hw
    cases fuel with
    | zero => simp [okC] at hok
    | succ n =>
      simp only [okC, Bool.and_eq_true] at hok
      obtain ⟨⟨⟨⟨htop, hsome⟩, hre⟩, hY⟩, hok⟩ := hok
      have hB : ∀ j ∈ heads (.run e ag p), j ∈ Region.ready .any l.toArray listed → ∃ n', n + 1 = n' + 1 ∧ wpOp P l.toArray (Only Q) j (fun a' w' => (∀ y ∈ Y, dep l l.length j y.1 = false → y.2 w') ∧
          wpAnyY P l.toArray (dep l l.length) (Only Q) n' (Y.filter fun y => !dep l l.length j y.1) (listed.setIfInBounds j true) a' w') a w := by
        intro j hj hjr
        obtain rfl : j = e := by simpa [heads] using hj
        refine ⟨n, rfl, ?_⟩
        cases hi : l[j]? with
        | none => rw [hi] at hsome; cases hsome
        | some oj =>
          have hja : l.toArray[j]? = some oj := by simpa using hi
          have h0 : wpList P l.toArray (Only fun _ a1 w1 => again P l.toArray (walk P l.toArray Q p) ag a1 w1) (sel l.toArray j) a w := hw _ fun a' w' h => ⟨rfl, h⟩
          rw [sel_some hja] at h0
          refine wpOp_of_list hja (fun ds v w' h => ?_) h0
          obtain ⟨hwalk, hag⟩ := again_spec h
          have hT' : ∀ y ∈ Y, dep l l.length j y.1 = false → Taken P l.toArray ({ a with defers := ds }.put oj.dst v) y := fun y hy hd => by
            have hap := List.all_eq_true.1 hY y.1 (List.mem_map.2 ⟨y, hy, rfl⟩)
            rw [hd, Bool.false_or, Bool.and_eq_true] at hap
            exact Taken.put (hT y hy) hsel hi hap.1 ds v
          have hobl : ∀ y ∈ Y, dep l l.length j y.1 = false → y.2 w' := fun y hy hd => by
            have hap := List.all_eq_true.1 hY y.1 (List.mem_map.2 ⟨y, hy, rfl⟩)
            rw [hd, Bool.false_or, Bool.and_eq_true] at hap
            obtain ⟨o, t, ho, ht, hlt, hv, hS⟩ := hT' y hy hd
            exact hS w' (hag y.1 (by simpa using hap.2) o t ho ht hlt hv)
          refine ⟨hobl, (ih true n _ _ _ w' ?_ (hcl.set hjr) (fun y hy => ?_) (fun y hy => hT' y (List.mem_filter.1 hy).1 (by simpa using (List.mem_filter.1 hy).2)) (fun i' o t h1 h2 => by rw [put_size]; exact hsz i' o t h1 h2) hwalk).1 rfl⟩
          · rw [List.filter_map] at hok
            exact hok
          · rw [List.mem_filter] at hy
            exact hobl y hy.1 (by simpa using hy.2)
      refine ⟨fun ht => ⟨fun h0 => ?_, fun j hj => ?_⟩, hB⟩
      · rw [h0] at hre; cases hre
      · rw [ht] at htop
        have : e = j := by
          have h2 : ((Region.ready .any l.toArray listed).all fun j => e == j) = true := by simpa using htop
          have h1 := List.all_eq_true.1 h2 j hj
          simpa using h1
        subst this
        obtain ⟨n', hn, h⟩ := hB e (by simp [heads]) hj
        obtain rfl : n = n' := by omega
        exact h
  | fork p q ihp ihq =>
    intro top fuel Y listed a w hok hcl hYw hT hsz hw
    simp only [okC, Bool.and_eq_true] at hok
    obtain ⟨⟨⟨hany, htop⟩, hp⟩, hq⟩ := hok
    have h1 := (ihp false fuel Y listed a w hp hcl hYw hT hsz hw.1).2
    have h2 := (ihq false fuel Y listed a w hq hcl hYw hT hsz hw.2).2
    have hB : ∀ j ∈ heads (.fork p q), j ∈ Region.ready .any l.toArray listed → ∃ n, fuel = n + 1 ∧ wpOp P l.toArray (Only Q) j (fun a' w' => (∀ y ∈ Y, dep l l.length j y.1 = false → y.2 w') ∧
        wpAnyY P l.toArray (dep l l.length) (Only Q) n (Y.filter fun y => !dep l l.length j y.1) (listed.setIfInBounds j true) a' w') a w := by
      intro j hj hjr
      rcases List.mem_append.1 hj with h | h
      · exact h1 j h hjr
      · exact h2 j h hjr
    refine ⟨fun ht => ?_, hB⟩
    obtain ⟨j, hj, hjr⟩ := List.any_eq_true.1 hany
    have hjr' : j ∈ Region.ready .any l.toArray listed := by simpa using hjr
    obtain ⟨n, rfl, _⟩ := h1 j hj hjr'
    rw [ht] at htop
    have h3 : ((Region.ready .any l.toArray listed).all fun j => (heads p ++ heads q).contains j) = true := by simpa using htop
    refine ⟨fun h0 => (by rw [h0] at hjr'; cases hjr'), fun k hk => ?_⟩
    obtain ⟨n', hn, h⟩ := hB k (by have := List.all_eq_true.1 h3 k hk; simpa [heads] using this) hk
    obtain rfl : n = n' := by omega
    exact h

/-- **The rule.** -/
theorem wp_region_planC {id : Nat} {l : List Oper} {a : Act} {w : World} (p : Plan) (hm : P.follows .mixedOrders = true) (hs : Region.noSelect l.toArray = true) (hz : sizesB l a.tmps.size = true)
    (hok : okC l true p l.length (Array.replicate l.length false) [] = true) (h : walk P l.toArray Q p a w.drew) : (Code.region id l.toArray true).wp P Q a w := by
  refine wp_region_any hm (wpAny_only _ _ _ _ (wpAny_of_Y (dp := dep l l.length) _ [] _ _ _ ?_))
  have hsz : ∀ (i : Nat) (o : Oper) (t : Tmp), l[i]? = some o → o.dst = some t → t < a.tmps.size := by
    intro i o t hi ht
    have := List.all_eq_true.1 hz o (List.mem_of_getElem? hi)
    rw [ht] at this
    simpa using this
  have := (wpAnyY_of_walkC (P := P) (Q := Q) (l := l) (Region.noSelect_spec hs) p true l.length [] (Array.replicate l.length false) a w.drew (by simpa using hok) (fun j o _ hj => by
      simp [Array.getD_eq_getD_getElem?, Array.getElem?_replicate] at hj
      split at hj <;> simp at hj) (fun y hy => by cases hy) (fun y hy => by cases hy) hsz h).1 rfl
  simpa using this
end
end Go.Proofs.Ythbanhedjfpmaaa
end

section
/-
  A text's bytes as a new row ([]byte(s)); a byte of a row is written.
-/
namespace Go.Proofs.Ythbanhedjfpmaaa
set_option linter.unusedSimpArgs false
set_option linter.unusedVariables false
open Go.RowKit

theorem run_str_bytes (w : World) (l : List UInt8) : ∃ c W, (convert 9 33 (txt l)).run Try.prog w = .ok (.slice (some ⟨w.heap.size, 0, none⟩) l.length c) W ∧ BRow W (some ⟨w.heap.size, 0, none⟩) l ∧ Below w.heap.size w W ∧ w.heap.size < W.heap.size ∧ ∀ j, j < l.length → W.frozen? ⟨w.heap.size, j, none⟩ = false := by
  have h := run_bytes_of_string (P := Try.prog) w 9 33 5 ⟨l.toArray⟩ Try.underlying9 Try.underlying33 Try.underlying5
  have hs : (ByteArray.mk l.toArray).size = l.length := by simp [ByteArray.size]
  rw [hs] at h
  generalize hC : grownCap w l.length 0 5 = cap at h
  clear hC
  have hB : bytesRow ⟨l.toArray⟩ cap = (l.map bv ++ List.replicate (cap - l.length) (Value.int .u8 0)).toArray := by
    unfold bytesRow
    rw [hs]
    apply Array.ext'
    simp [bv]
  refine ⟨cap, _, h, ?_, (Below.refl _ w).drewR.alloc (Nat.le_refl _) _, by simp [World.alloc], fun j hj => ?_⟩
  · intro hl
    refine ⟨w.heap.size, 0, rfl, by simp [World.alloc], fun j hj => ?_⟩
    have hjl : j < l.length := by simpa using hj
    unfold World.cell? World.alloc
    have hd : w.drew.heap = w.heap := rfl
    simp [hB, hd]
    rw [List.getElem?_append_left (by simpa using hjl)]
    simp [hjl]
  · unfold World.frozen? World.alloc
    have hd : w.drew.heap = w.heap := rfl
    simp [hB, hd]
    omega
theorem BRow.set {w : World} {g : Nat} {l : List UInt8} (h : BRow w (some ⟨g, 0, none⟩) l) {j : Nat} (hj : j < l.length) (x : UInt8) : BRow (w.setCell ⟨g, j, none⟩ (bv x)) (some ⟨g, 0, none⟩) (l.set j x) := by
  intro hl
  obtain ⟨b, o, e, hb, hc⟩ := h (by simp; omega)
  simp only [Option.some.injEq, Addr.mk.injEq, and_true] at e
  obtain ⟨rfl, rfl⟩ := e
  refine ⟨g, 0, rfl, by simpa using hb, fun i hi => ?_⟩
  have hil : i < l.length := by simpa using hi
  have h0 := hc i (by simpa using hil)
  by_cases hij : i = j
  · subst hij
    rw [Nat.zero_add] at h0 ⊢
    rw [World.cell?_setCell_same _ _ _ h0]
    simp
  · rw [World.cell?_setCell_other w _ _ _ (by intro e; simp at e <;> omega), h0]
    simp [List.getElem_set, Ne.symm hij]
end Go.Proofs.Ythbanhedjfpmaaa
end

section
/-
  The walk of WalOpens.
-/
namespace Go.Proofs.Ythbanhedjfpmaaa
set_option linter.unusedSimpArgs false
set_option linter.unusedVariables false
open Go.RowKit

/-- A head as it may lie there. -/
structure HD where
  s : Nat
  n : Nat
  o : UInt8
def HD.Fine (h : HD) : Prop := h.s < two64 ∧ h.n < two64
def ArgsO (w : World) (A : Option Addr) (c : Nat) (l : List UInt8) : Prop := BRow w A l ∧ l.length ≤ c ∧ c ≤ maxLen
theorem nd_rx4 : notDisk 54 := by refine ⟨?_, ?_, ?_, ?_⟩ <;> decide
theorem nd_heads : notDisk 62 := by refine ⟨?_, ?_, ?_, ?_⟩ <;> decide
def slen : Value → Nat
  | .string s => s.size
  | _ => 0
structure OpenJ (w0 w : World) (k : KB) (gx gh : Nat) (h0 h1 : HD) (d : DS) (c : List Value) (i : Nat) : Prop where
  dl : DL w0 w k d i
  rx : RefX k.own w c d.rx
  blk : Blk w gx 54 c
  hd : Blk w gh 62 [.int .u64 (h0.s : Nat), .int .u64 (h0.n : Nat), .int .u8 (h0.o.toNat : Nat), .int .u64 (h1.s : Nat), .int .u64 (h1.n : Nat), .int .u8 (h1.o.toNat : Nat)]
  now : NowAt d
  len : d.blocks.length = 5
  falls : d.falls = []
  down : d.down = false
theorem OpenJ.below {w0 w w' : World} {k : KB} {gx gh : Nat} {h0 h1 : HD} {d : DS} {c : List Value} {i : Nat} (h : OpenJ w0 w k gx gh h0 h1 d c i) (hb : Below w.heap.size w w') : OpenJ w0 w' k gx gh h0 h1 d c i :=
  ⟨h.dl.below hb, h.rx.below hb, h.blk.below hb, h.hd.below hb, h.now, h.len, h.falls, h.down⟩
theorem cut_cut2 (u : List UInt8) (a : Nat) : ((ByteArray.mk u.toArray).extract a u.length).extract 0 512 = ⟨((u.drop a).take 512).toArray⟩ := by
  apply ByteArray.ext
  simp
  rw [List.take_of_length_le (l := List.drop a u) (by rw [List.length_drop]; exact Nat.le_refl _)]
theorem write_calm {d : DS} (hf : d.falls = []) (hd : d.down = false) {i : Nat} (hi : i < d.blocks.length) {l : List UInt8} (hl : l.length = 512) :
    (d.write (i : Int) l).2 = 0 ∧ (d.write (i : Int) l).1.blocks.length = d.blocks.length ∧ (d.write (i : Int) l).1.falls = [] ∧ (d.write (i : Int) l).1.down = false := by
  rw [write_plain hf hd hi hl]
  exact ⟨rfl, by simp, hf, hd⟩
theorem bv_xor (x o : UInt8) : bv (x ^^^ o) = .int .u8 (Go.bits .xor .u8 (x.toNat : Int) (o.toNat : Int)) := by
  rw [u8_xor_nat _ _ x.toNat_lt o.toNat_lt]
  unfold bv
  rw [UInt8.toNat_xor]
theorem brow_at0 {w : World} {g : Nat} {l : List UInt8} (h : BRow w (some ⟨g, 0, none⟩) l) {j : Nat} (hj : j < l.length) : w.cell? ⟨g, j, none⟩ = some (.int .u8 (l[j].toNat : Int)) := by
  obtain ⟨b, o, e, hb, hc⟩ := h.at_ hj
  simp only [Option.some.injEq, Addr.mk.injEq, and_true] at e
  obtain ⟨rfl, rfl⟩ := e
  rw [Nat.zero_add] at hc
  exact hc
set_option maxRecDepth 20000 in
set_option maxHeartbeats 4000000 in
theorem walOpens_fit (w : World) (h0 h1 : HD) (hh0 : h0.Fine) (hh1 : h1.Fine) (A : Option Addr) (c : Nat) (l : List UInt8) (hr : BRow w A l) (hl : l.length ≤ 1500) (hlc : l.length ≤ c) (hcm : c ≤ maxLen) (A' : Option Addr) (c' : Nat) (ps : List Part) (hp : PartsIn w A' c' ps) (h6 : ps.length ≤ 6) (hs : ∀ p ∈ ps, p.l.length ≤ 3000) (h : fitsW 3 [⟨0, A', c', ps, ⟨0, 0, 0⟩⟩] = true) :
    Calls Try.prog 8 #[.agg #[.int .u64 (h0.s : Nat), .int .u64 (h0.n : Nat), .int .u8 (h0.o.toNat : Nat), .int .u64 (h1.s : Nat), .int .u64 (h1.n : Nat), .int .u8 (h1.o.toNat : Nat)], .slice A l.length c, .slice A' ps.length c'] w (args_ok w) := by
  have HP := Lib.hid (And.intro hp hs)
  have HF := Lib.hid h
  have HR := Lib.hid hr
  have HH := Lib.hid (And.intro hh0 hh1)
  have hli : ¬ (1500 : Int) < (l.length : Int) := by omega
  clear hp hs h hr hh0 hh1
  go_enter Try.func8, Try.ntmps8
  go_upto_region 1 with (fail)
  generalize hW1 : World.alloc w (.cells _ _) = W1
  obtain ⟨ba1, hz1, hB1⟩ := fresh1 hW1
  clear hW1
  obtain ⟨gh, hgh⟩ : ∃ gh, gh = w.heap.size := ⟨_, rfl⟩
  rw [← hgh] at ba1 ⊢
  have H1 := Lib.hid (And.intro ba1 hB1)
  have HGL := Lib.hid ba1.lt
  clear ba1 hB1 hz1 hgh
  go_wp2_with fail
  refine (wlives_any W1).mono ?_
  rintro e w1 ⟨rfl, hB⟩
  have HB1 := Lib.hid hB
  clear hB
  go_wp2_with fail
  have hb2 := Below.alloc1 w1 (.cells #[.int .i64 0, .slice A' ps.length c', .int .i64 0, .int .u64 0, .int .i64 0] eOpW.e)
  have hft := wfits_any _ 3 _ 1 _ (op_lit (w := w1) A' c' ps _ rfl) (by intro o ho; simp at ho; subst ho; exact ((HP.out.1.below H1.out.2).below HB1.out).below hb2)
  rw [HF.out] at hft
  refine hft.mono ?_
  rintro e w3 ⟨rfl, hB⟩
  have HB3 := Lib.hid ((HB1.out.then hb2).then hB)
  have H3 := Lib.hid (And.intro (H1.out.1.below HB3.out) (H1.out.2.then HB3.out))
  have HGL3 : Hid (gh < w3.heap.size) := Nat.lt_of_lt_of_le HGL.out HB3.out.size
  clear hB hft hb2 HB1 HB3 H1 HGL
  go_upto_region 4 with (fail)
  go_wp2_with fail
  go_loopw [7, 36] (fun sv iv wr => ∃ (i : Nat) (t : List UInt8), i ≤ ps.length ∧ iv = .int .i64 (i : Nat) ∧ sv = txt t ∧ t.length ≤ i * 4000 ∧ Hid (Below w3.heap.size w3 wr)) (fun _ iv _ => ps.length - (intOf iv).toNat)
  case atStart => exact ⟨0, [], Nat.zero_le _, rfl, rfl, Nat.le_refl _, Below.refl _ _⟩
  case round =>
    obtain ⟨i, t, hi, rfl, rfl, htl, HJ⟩ := hrel
    rcases Nat.lt_or_ge i ps.length with hlt | hge
    · have hii : (i : Int) < (ps.length : Int) := by omega
      have hPX := (HP.out.1.below H3.out.2).below HJ.out
      obtain ⟨b, o, rfl, hb, hce⟩ := part_cell hPX.row hlt
      have HOK := Lib.hid (And.intro (hPX.ok ps[i] (List.getElem_mem hlt)) (HP.out.2 ps[i] (List.getElem_mem hlt)))
      clear hPX
      generalize ps[i] = p at hce HOK
      have hcv := run_string_bytes wr p.c HOK.out.1.1
      have hfl := Wal.frame_length p.l
      have hfl2 : (Wal.frame p.l).length ≤ 4000 := by have := HOK.out.2; omega
      have HFR := Lib.hid (refframe_any wr p.l (by have := HOK.out.2; omega))
      clear hfl
      go_wp2_with fail
      refine HFR.out.mono ?_
      rintro e w4 ⟨rfl, hb4⟩
      have HJ4 := Lib.hid (HJ.out.then hb4)
      have hcat := run_cat w4 t (Wal.frame p.l) (by omega)
      clear hb4 HFR HJ hcv hce
      go_wp2_with fail
      go_roundw
      case rel => exact ⟨i + 1, _, by omega, by go_num, rfl, by rw [List.length_append]; omega, HJ4.out⟩
      case measure => simp [intOf]; omega
    · obtain rfl : i = ps.length := by omega
      have hii : ¬ ((ps.length : Nat) : Int) < ((ps.length : Nat) : Int) := by omega
      have htl2 : t.length ≤ 24000 := by omega
      have H4 := Lib.hid (And.intro (H3.out.1.below HJ.out) (H3.out.2.then HJ.out))
      have HGL4 : Hid (gh < wr.heap.size) := Nat.lt_of_lt_of_le HGL3.out HJ.out.size
      have hbr := HR.out.below H4.out.2
      by_cases hcc : c = l.length / 2
      · obtain rfl : l = [] := List.length_eq_zero_iff.1 (by omega)
        obtain rfl : c = 0 := by simpa using hcc
        have hcv1 := run_string_bytes (A := A) (l := []) wr.drew 0 BRow.nil
        have hct1 := run_cat wr.drew [] t (by simp; omega)
        have hct2 := run_cat wr.drew t [] (by simp; omega)
        simp only [List.length_nil, List.nil_append, List.append_nil] at hcv1 hct1 hct2 hli hl hlc
        have HTX : Hid (t.length ≤ 30000) := Nat.le_trans htl2 (by decide)
        clear HJ hcc
        go_upto_region 9 with (fail)
        refine wp_region_planC (.take 0 (.take 1 (.take 2 (.take 3 (.take 4 (.take 5 (.take 6 (.take 7 (.take 8 (.take 9 (.take 10 (.take 11 (.take 12 (.take 13 (.take 14 (.run 15 [] .fin)))))))))))))))) (by kernel_rfl) (by kernel_rfl) (by kernel_rfl) (by kernel_rfl) ?_
        repeat' (first | (refine hZ _ _ ?_; clear hZ) | (refine hZ _ ?_; clear hZ) | (refine hZ ?_; clear hZ) | rw [again_nil] | rw [walk_fin] | ((first | rw [walk_take] | rw [walk_run] | rw [again_cons]); intro Z hZ; simp only [sel, List.getElem?_toArray, List.getElem?_cons_zero, List.getElem?_cons_succ]; go_wp2_with (fail)))
        clear hct1 hct2
        generalize (t) = T at HTX ⊢
        have H5 := Lib.hid (And.intro (H4.out.1.below (below_drew wr)) (H4.out.2.then (below_drew wr)))
        have HGL5 : Hid (gh < wr.drew.heap.size) := Nat.lt_of_lt_of_le HGL4.out (below_drew wr).size
        clear hcv1 H4 HGL4 H3 HGL3 htl htl2 hge hi
        generalize wr.drew = W5 at H5 HGL5 ⊢
        go_wp2_with fail
        go_loopw [7] (fun sv wq => ∃ t : List UInt8, sv = txt t ∧ t.length ≤ 30000 ∧ wq = W5) (fun sv _ => 1536 - slen sv)
        case atStart => exact ⟨T, rfl, HTX.out, rfl⟩
        case round =>
          clear HTX
          obtain ⟨u, rfl, hul, rfl⟩ := hrel
          have husz : (ByteArray.mk u.toArray).size = u.length := by simp [ByteArray.size]
          rcases Nat.lt_or_ge u.length 1536 with hlt | hge
          · have hli2 : (u.length : Int) < 1536 := by omega
            have hct := run_cat wr u [0] (by simp; omega)
            unfold txt at hct ⊢
            go_wp2_with fail
            go_roundw
            case rel => exact ⟨u ++ [0], rfl, by rw [List.length_append]; simp; omega, trivial⟩
            case measure => simp [slen, ByteArray.size]; omega
          · have hli2 : ¬ (u.length : Int) < 1536 := by omega
            unfold txt
            go_wp2_with fail
            refine (DL.new (w0 := w) 5 (by omega) (by omega) H5.out.2).mono ?_
            rintro e w6 ⟨k, rfl, hL, hb6⟩
            have HL := Lib.hid (And.intro hL (H5.out.1.below hb6))
            have HGL6 : Hid (gh < w6.heap.size) := Nat.lt_of_lt_of_le HGL5.out hb6.size
            have HNO : Hid (¬ k.own gh) := HL.out.1.at_.notOwn HL.out.2 nd_heads
            clear hL hb6 H5 HGL5
            have HX := Lib.hid (refnew_any k.own w6 HL.out.1.own_lt 5 (by omega))
            go_wp2_with fail
            refine HX.out.mono ?_
            rintro e w7 ⟨c7, rfl, hx7, hb7⟩
            have H7 : Hid (DL w w7 k (DS.new 5) 0 ∧ RefX k.own w7 c7 (DS.new 5).rx ∧ Blk w7 gh 62 [.int .u64 (h0.s : Nat), .int .u64 (h0.n : Nat), .int .u8 (h0.o.toNat : Nat), .int .u64 (h1.s : Nat), .int .u64 (h1.n : Nat), .int .u8 (h1.o.toNat : Nat)]) := ⟨HL.out.1.below hb7, by rw [rx_fresh]; exact hx7, HL.out.2.below hb7⟩
            have HGL7 : Hid (gh < w7.heap.size) := Nat.lt_of_lt_of_le HGL6.out hb7.size
            obtain ⟨As, cs, Ap, cp, Af, cf, rfl⟩ := hx7.open_
            clear hx7 hb7 HL HX HGL6
            go_upto_region 14 with (fail)
            generalize hW8 : World.alloc w7 (.cells _ _) = W8
            obtain ⟨ba8, hz8, hB8⟩ := fresh1 hW8
            clear hW8
            obtain ⟨gx, hgx⟩ : ∃ gx, gx = w7.heap.size := ⟨_, rfl⟩
            rw [← hgx] at ba8 ⊢
            have H8 : Hid (OpenJ w W8 k gx gh h0 h1 (DS.new 5) _ 0) := ⟨H7.out.1.below hB8, H7.out.2.1.below hB8, ba8, H7.out.2.2.below hB8, NowAt.fresh 5, by simp [DS.new], rfl, rfl⟩
            have HG : Hid (gh ≠ gx ∧ ¬ k.own gx ∧ w.heap.size ≤ gx) := ⟨fun e => by have := HGL7.out; rw [hgx] at e; omega, fun h => by have := H7.out.1.own_lt _ h; rw [hgx] at this; omega, by rw [hgx]; exact H7.out.1.bel.size⟩
            clear ba8 hB8 hz8 H7 HGL7 hgx
            go_wp2_with fail
            go_loopw [71] (fun iv wr => ∃ i : Nat, i ≤ 5 ∧ iv = .int .i64 i ∧ ∃ d c', Hid (OpenJ w wr k gx gh h0 h1 d c' i)) (fun iv _ => 5 - (intOf iv).toNat)
            case atStart => exact ⟨0, by omega, rfl, _, _, H8.out⟩
            case round =>
              obtain ⟨i, hi, rfl, d, c', HJ⟩ := hrel
              clear H8
              by_cases hlt : i < 5
              · obtain rfl | rfl | rfl | rfl | rfl : i = 0 ∨ i = 1 ∨ i = 2 ∨ i = 3 ∨ i = 4 := by omega
                · have hcg := And.intro (HJ.out.hd.cell 0) (And.intro (HJ.out.hd.cell 1) (HJ.out.hd.cell 2))
                  have hgl := HJ.out.hd.lt
                  simp only [List.getElem?_cons_zero, List.getElem?_cons_succ] at hcg
                  have HHD := Lib.hid (refhead_any wr.drew h0.s h0.n HH.out.1.1 HH.out.1.2)
                  go_upto_region 19 with (fail)
                  refine wp_region_planC (.take 0 (.take 1 (.take 2 (.take 3 (.take 4 (.take 5 (.take 6 (.take 7 (.run 8 [] (.run 9 [] (.take 10 .fin))))))))))) (by kernel_rfl) (by kernel_rfl) (by kernel_rfl) (by kernel_rfl) ?_
                  repeat' (first | (refine hZ _ _ ?_; clear hZ) | (refine hZ _ ?_; clear hZ) | (refine hZ ?_; clear hZ) | rw [again_nil] | rw [walk_fin] | ((first | rw [walk_take] | rw [walk_run] | rw [again_cons]); intro Z hZ; simp only [sel, List.getElem?_toArray, List.getElem?_cons_zero, List.getElem?_cons_succ]; go_wp2_with (fail)))
                  refine HHD.out.mono ?_
                  rintro e w2 ⟨rfl, hb2⟩
                  have HJ2 := Lib.hid (HJ.out.below (hb2.drewL))
                  clear HHD HJ hb2 hcg hgl
                  obtain ⟨c2, W2, hcv2, hr2, hbb2, hlt2, hfz2⟩ := run_str_bytes w2 (Wal.headL h0.s h0.n)
                  unfold txt at hcv2 ⊢
                  have HJ3 := Lib.hid (HJ2.out.below hbb2)
                  go_wp2_with fail
                  repeat' (first | (refine hZ _ _ ?_; clear hZ) | (refine hZ _ ?_; clear hZ) | (refine hZ ?_; clear hZ) | rw [again_nil] | rw [walk_fin] | ((first | rw [walk_take] | rw [walk_run] | rw [again_cons]); intro Z hZ; simp only [sel, List.getElem?_toArray, List.getElem?_cons_zero, List.getElem?_cons_succ]; go_wp2_with (fail)))
                  have hL512 : (Wal.headL h0.s h0.n).length = 512 := Wal.headL_length _ _
                  have hcg := And.intro (HJ3.out.hd.cell 0) (And.intro (HJ3.out.hd.cell 1) (HJ3.out.hd.cell 2))
                  have hgl := HJ3.out.hd.lt
                  simp only [List.getElem?_cons_zero, List.getElem?_cons_succ] at hcg
                  generalize Wal.headL h0.s h0.n = L at hL512 hr2 hfz2 ⊢
                  have hm : 24 + h0.s % 24 < L.length := by rw [hL512]; omega
                  have hidx := brow_at0 hr2 hm
                  have hfz := hfz2 _ hm
                  have HX := Lib.hid (And.intro hr2 (And.intro hm (And.intro hbb2 hL512)))
                  rw [hL512]
                  clear hr2 hfz2 hcv2 hbb2 hL512
                  generalize hxx : L[24 + h0.s % 24] = xx at hidx
                  go_wp2_with fail
                  refine wp_region_planC (.take 0 (.take 1 (.take 2 (.take 3 (.take 4 (.take 5 (.take 6 (.take 7 (.take 8 (.take 9 (.take 10 (.take 11 (.take 12 (.take 13 (.take 14 (.take 15 (.run 16 [] .fin))))))))))))))))) (by kernel_rfl) (by kernel_rfl) (by kernel_rfl) (by kernel_rfl) ?_
                  repeat' (first | (refine hZ _ _ ?_; clear hZ) | (refine hZ _ ?_; clear hZ) | (refine hZ ?_; clear hZ) | rw [again_nil] | rw [walk_fin] | ((first | rw [walk_take] | rw [walk_run] | rw [again_cons]); intro Z hZ; simp only [sel, List.getElem?_toArray, List.getElem?_cons_zero, List.getElem?_cons_succ]; go_wp2_with (fail)))
                  rw [← bv_xor]
                  have HJ := Lib.hid (HJ2.out.below ((HX.out.2.2.1.setCell (p := ⟨w2.heap.size, 24 + h0.s % 24, none⟩) (Nat.le_refl _) (bv (xx ^^^ h0.o))).drewR))
                  have hrB := (HX.out.1.set HX.out.2.1 (xx ^^^ h0.o)).drew
                  obtain ⟨B, hB⟩ : ∃ B, B = L.set (24 + h0.s % 24) (xx ^^^ h0.o) := ⟨_, rfl⟩
                  have HB : Hid (B.length = 512) := by show _ = _; rw [hB, List.length_set]; exact HX.out.2.2.2
                  rw [← hB] at hrB
                  clear hB hxx hidx hfz hm hcg hgl HX HJ2 HJ3
                  generalize hgb : w2.heap.size = gb at hrB HJ hlt2 ⊢
                  generalize (World.setCell W2 _ _).drew = wr at hrB HJ ⊢
                  have hcs := run_string_bytes wr c2 hrB
                  rw [HB.out] at hcs
                  unfold txt at hcs
                  clear hrB
                  obtain ⟨cb, Wb, hcvb, hrb, hbb, -, -⟩ := run_str_bytes wr B
                  unfold txt at hcvb
                  have HJb := Lib.hid (HJ.out.below hbb)
                  have hwp := write_calm HJb.out.falls HJb.out.down (i := 0) (by rw [HJb.out.len]; decide) HB.out
                  have hw := HJb.out.dl.write (by decide) (0) _ cb B hrb
                  rw [show (d.write 0 B).2 = 0 from hwp.1] at hw
                  have HPUT := Lib.hid (fun S' W' hS' cc hx => refput_any S' W' hS' d cc hx HJb.out.dl.good (Nat.lt_of_le_of_lt HJb.out.dl.ch (by decide)) (Nat.lt_of_le_of_lt HJb.out.dl.pe (by decide)) (0) B (by rw [HB.out]; decide))
                  rw [show (d.write 0 B).2 = 0 from hwp.1] at HPUT
                  have HN2 : Hid (NowAt (d.write 0 B).1 ∧ (d.write 0 B).1.blocks.length = 5 ∧ (d.write 0 B).1.falls = [] ∧ (d.write 0 B).1.down = false) := ⟨HJb.out.now.write _ _, hwp.2.1.trans HJb.out.len, hwp.2.2.1, hwp.2.2.2⟩
                  generalize (d.write 0 B).1 = d2 at hw HPUT HN2
                  clear HJ hbb hwp
                  go_wp2_with fail
                  refine hw.mono ?_
                  rintro e w9 ⟨rfl, hL9, hK9⟩
                  obtain ⟨As, cs, Ap, cp, Af, cf, rfl⟩ := HJb.out.rx.open_
                  have H9 : Hid (DL w w9 k d2 (0 + 1) ∧ RefX k.own w9 [.slice As d.rx.sure.length cs, .slice Ap d.rx.pend.length cp, .slice Af d.rx.falls.length cf, .int .i64 (d.rx.ch : Nat), .bool d.rx.down] d.rx ∧ Blk w9 gx 54 [.slice As d.rx.sure.length cs, .slice Ap d.rx.pend.length cp, .slice Af d.rx.falls.length cf, .int .i64 (d.rx.ch : Nat), .bool d.rx.down] ∧ Blk w9 gh 62 [.int .u64 (h0.s : Nat), .int .u64 (h0.n : Nat), .int .u8 (h0.o.toNat : Nat), .int .u64 (h1.s : Nat), .int .u64 (h1.n : Nat), .int .u8 (h1.o.toNat : Nat)]) :=
                    ⟨hL9, HJb.out.rx.kept hK9, HJb.out.blk.kept hK9 HG.out.2.1, HJb.out.hd.kept hK9 HNO.out⟩
                  clear hw hL9 hK9 HJb hrb hcvb
                  have hcx := H9.out.2.2.1.c5
                  have HPT := Lib.hid (HPUT.out k.own w9 H9.out.1.own_lt _ H9.out.2.1)
                  clear HPUT
                  go_wp2_with fail
                  refine HPT.out.mono ?_
                  rintro e w10 ⟨c10, rfl, hx10, hb10⟩
                  have H10 := Lib.hid (And.intro (H9.out.1.below hb10) (And.intro hx10 (And.intro (H9.out.2.2.1.below hb10) (H9.out.2.2.2.below hb10))))
                  obtain ⟨As2, cs2, Ap2, cp2, Af2, cf2, rfl⟩ := hx10.open_
                  clear hx10 hb10 hcx HPT H9
                  have hcx := H10.out.2.2.1.c5
                  go_upto_region 26 with (fail)
                  have hgs := grown_setCells w10 gx 0 [.slice As2 d2.rx.sure.length cs2, .slice Ap2 d2.rx.pend.length cp2, .slice Af2 d2.rx.falls.length cf2, .int .i64 (d2.rx.ch : Nat), .bool d2.rx.down]
                  have H11 : Hid (OpenJ w (w10.setCells gx 0 [.slice As2 d2.rx.sure.length cs2, .slice Ap2 d2.rx.pend.length cp2, .slice Af2 d2.rx.falls.length cf2, .int .i64 (d2.rx.ch : Nat), .bool d2.rx.down]) k gx gh h0 h1 d2 [.slice As2 d2.rx.sure.length cs2, .slice Ap2 d2.rx.pend.length cp2, .slice Af2 d2.rx.falls.length cf2, .int .i64 (d2.rx.ch : Nat), .bool d2.rx.down] (0 + 1)) :=
                    ⟨H10.out.1.other H10.out.2.2.1 nd_rx4 hgs HG.out.2.2, H10.out.2.1.keptG H10.out.2.2.1 hgs, H10.out.2.2.1.setAll _ rfl, H10.out.2.2.2.keptBy hgs HG.out.1, HN2.out.1, HN2.out.2.1, HN2.out.2.2.1, HN2.out.2.2.2⟩
                  clear hgs H10 hcx HN2
                  simp only [World.setCells, Nat.zero_add, Nat.reduceAdd] at H11
                  generalize (((((World.setCell w10 _ _).setCell _ _).setCell _ _).setCell _ _).setCell _ _) = W11 at H11 ⊢
                  have HB12 := Lib.hid (Below.alloc1 W11 (.cells #[.slice As2 d2.rx.sure.length cs2, .slice Ap2 d2.rx.pend.length cp2, .slice Af2 d2.rx.falls.length cf2, .int .i64 (d2.rx.ch : Nat), .bool d2.rx.down] 54))
                  generalize (World.alloc W11 _) = W12 at HB12 ⊢
                  have H12 := Lib.hid (H11.out.below HB12.out)
                  clear H11 HB12
                  go_wp2_with fail
                  go_roundw
                  case rel => exact ⟨0 + 1, by omega, rfl, d2, _, H12⟩
                  case measure => simp [intOf]
                · have hcg := And.intro (HJ.out.hd.cell 3) (And.intro (HJ.out.hd.cell 4) (HJ.out.hd.cell 5))
                  have hgl := HJ.out.hd.lt
                  simp only [List.getElem?_cons_zero, List.getElem?_cons_succ] at hcg
                  have HHD := Lib.hid (refhead_any wr.drew h1.s h1.n HH.out.2.1 HH.out.2.2)
                  go_upto_region 19 with (fail)
                  refine wp_region_planC (.take 0 (.take 1 (.take 2 (.take 3 (.take 4 (.take 5 (.take 6 (.take 7 (.run 8 [] (.run 9 [] (.take 10 .fin))))))))))) (by kernel_rfl) (by kernel_rfl) (by kernel_rfl) (by kernel_rfl) ?_
                  repeat' (first | (refine hZ _ _ ?_; clear hZ) | (refine hZ _ ?_; clear hZ) | (refine hZ ?_; clear hZ) | rw [again_nil] | rw [walk_fin] | ((first | rw [walk_take] | rw [walk_run] | rw [again_cons]); intro Z hZ; simp only [sel, List.getElem?_toArray, List.getElem?_cons_zero, List.getElem?_cons_succ]; go_wp2_with (fail)))
                  refine HHD.out.mono ?_
                  rintro e w2 ⟨rfl, hb2⟩
                  have HJ2 := Lib.hid (HJ.out.below (hb2.drewL))
                  clear HHD HJ hb2 hcg hgl
                  obtain ⟨c2, W2, hcv2, hr2, hbb2, hlt2, hfz2⟩ := run_str_bytes w2 (Wal.headL h1.s h1.n)
                  unfold txt at hcv2 ⊢
                  have HJ3 := Lib.hid (HJ2.out.below hbb2)
                  go_wp2_with fail
                  repeat' (first | (refine hZ _ _ ?_; clear hZ) | (refine hZ _ ?_; clear hZ) | (refine hZ ?_; clear hZ) | rw [again_nil] | rw [walk_fin] | ((first | rw [walk_take] | rw [walk_run] | rw [again_cons]); intro Z hZ; simp only [sel, List.getElem?_toArray, List.getElem?_cons_zero, List.getElem?_cons_succ]; go_wp2_with (fail)))
                  have hL512 : (Wal.headL h1.s h1.n).length = 512 := Wal.headL_length _ _
                  have hcg := And.intro (HJ3.out.hd.cell 3) (And.intro (HJ3.out.hd.cell 4) (HJ3.out.hd.cell 5))
                  have hgl := HJ3.out.hd.lt
                  simp only [List.getElem?_cons_zero, List.getElem?_cons_succ] at hcg
                  generalize Wal.headL h1.s h1.n = L at hL512 hr2 hfz2 ⊢
                  have hm : 24 + h1.s % 24 < L.length := by rw [hL512]; omega
                  have hidx := brow_at0 hr2 hm
                  have hfz := hfz2 _ hm
                  have HX := Lib.hid (And.intro hr2 (And.intro hm (And.intro hbb2 hL512)))
                  rw [hL512]
                  clear hr2 hfz2 hcv2 hbb2 hL512
                  generalize hxx : L[24 + h1.s % 24] = xx at hidx
                  go_wp2_with fail
                  refine wp_region_planC (.take 0 (.take 1 (.take 2 (.take 3 (.take 4 (.take 5 (.take 6 (.take 7 (.take 8 (.take 9 (.take 10 (.take 11 (.take 12 (.take 13 (.take 14 (.take 15 (.run 16 [] .fin))))))))))))))))) (by kernel_rfl) (by kernel_rfl) (by kernel_rfl) (by kernel_rfl) ?_
                  repeat' (first | (refine hZ _ _ ?_; clear hZ) | (refine hZ _ ?_; clear hZ) | (refine hZ ?_; clear hZ) | rw [again_nil] | rw [walk_fin] | ((first | rw [walk_take] | rw [walk_run] | rw [again_cons]); intro Z hZ; simp only [sel, List.getElem?_toArray, List.getElem?_cons_zero, List.getElem?_cons_succ]; go_wp2_with (fail)))
                  rw [← bv_xor]
                  have HJ := Lib.hid (HJ2.out.below ((HX.out.2.2.1.setCell (p := ⟨w2.heap.size, 24 + h1.s % 24, none⟩) (Nat.le_refl _) (bv (xx ^^^ h1.o))).drewR))
                  have hrB := (HX.out.1.set HX.out.2.1 (xx ^^^ h1.o)).drew
                  obtain ⟨B, hB⟩ : ∃ B, B = L.set (24 + h1.s % 24) (xx ^^^ h1.o) := ⟨_, rfl⟩
                  have HB : Hid (B.length = 512) := by show _ = _; rw [hB, List.length_set]; exact HX.out.2.2.2
                  rw [← hB] at hrB
                  clear hB hxx hidx hfz hm hcg hgl HX HJ2 HJ3
                  generalize hgb : w2.heap.size = gb at hrB HJ hlt2 ⊢
                  generalize (World.setCell W2 _ _).drew = wr at hrB HJ ⊢
                  have hcs := run_string_bytes wr c2 hrB
                  rw [HB.out] at hcs
                  unfold txt at hcs
                  clear hrB
                  obtain ⟨cb, Wb, hcvb, hrb, hbb, -, -⟩ := run_str_bytes wr B
                  unfold txt at hcvb
                  have HJb := Lib.hid (HJ.out.below hbb)
                  have hwp := write_calm HJb.out.falls HJb.out.down (i := 1) (by rw [HJb.out.len]; decide) HB.out
                  have hw := HJb.out.dl.write (by decide) (1) _ cb B hrb
                  rw [show (d.write 1 B).2 = 0 from hwp.1] at hw
                  have HPUT := Lib.hid (fun S' W' hS' cc hx => refput_any S' W' hS' d cc hx HJb.out.dl.good (Nat.lt_of_le_of_lt HJb.out.dl.ch (by decide)) (Nat.lt_of_le_of_lt HJb.out.dl.pe (by decide)) (1) B (by rw [HB.out]; decide))
                  rw [show (d.write 1 B).2 = 0 from hwp.1] at HPUT
                  have HN2 : Hid (NowAt (d.write 1 B).1 ∧ (d.write 1 B).1.blocks.length = 5 ∧ (d.write 1 B).1.falls = [] ∧ (d.write 1 B).1.down = false) := ⟨HJb.out.now.write _ _, hwp.2.1.trans HJb.out.len, hwp.2.2.1, hwp.2.2.2⟩
                  generalize (d.write 1 B).1 = d2 at hw HPUT HN2
                  clear HJ hbb hwp
                  go_wp2_with fail
                  refine hw.mono ?_
                  rintro e w9 ⟨rfl, hL9, hK9⟩
                  obtain ⟨As, cs, Ap, cp, Af, cf, rfl⟩ := HJb.out.rx.open_
                  have H9 : Hid (DL w w9 k d2 (1 + 1) ∧ RefX k.own w9 [.slice As d.rx.sure.length cs, .slice Ap d.rx.pend.length cp, .slice Af d.rx.falls.length cf, .int .i64 (d.rx.ch : Nat), .bool d.rx.down] d.rx ∧ Blk w9 gx 54 [.slice As d.rx.sure.length cs, .slice Ap d.rx.pend.length cp, .slice Af d.rx.falls.length cf, .int .i64 (d.rx.ch : Nat), .bool d.rx.down] ∧ Blk w9 gh 62 [.int .u64 (h0.s : Nat), .int .u64 (h0.n : Nat), .int .u8 (h0.o.toNat : Nat), .int .u64 (h1.s : Nat), .int .u64 (h1.n : Nat), .int .u8 (h1.o.toNat : Nat)]) :=
                    ⟨hL9, HJb.out.rx.kept hK9, HJb.out.blk.kept hK9 HG.out.2.1, HJb.out.hd.kept hK9 HNO.out⟩
                  clear hw hL9 hK9 HJb hrb hcvb
                  have hcx := H9.out.2.2.1.c5
                  have HPT := Lib.hid (HPUT.out k.own w9 H9.out.1.own_lt _ H9.out.2.1)
                  clear HPUT
                  go_wp2_with fail
                  refine HPT.out.mono ?_
                  rintro e w10 ⟨c10, rfl, hx10, hb10⟩
                  have H10 := Lib.hid (And.intro (H9.out.1.below hb10) (And.intro hx10 (And.intro (H9.out.2.2.1.below hb10) (H9.out.2.2.2.below hb10))))
                  obtain ⟨As2, cs2, Ap2, cp2, Af2, cf2, rfl⟩ := hx10.open_
                  clear hx10 hb10 hcx HPT H9
                  have hcx := H10.out.2.2.1.c5
                  go_upto_region 26 with (fail)
                  have hgs := grown_setCells w10 gx 0 [.slice As2 d2.rx.sure.length cs2, .slice Ap2 d2.rx.pend.length cp2, .slice Af2 d2.rx.falls.length cf2, .int .i64 (d2.rx.ch : Nat), .bool d2.rx.down]
                  have H11 : Hid (OpenJ w (w10.setCells gx 0 [.slice As2 d2.rx.sure.length cs2, .slice Ap2 d2.rx.pend.length cp2, .slice Af2 d2.rx.falls.length cf2, .int .i64 (d2.rx.ch : Nat), .bool d2.rx.down]) k gx gh h0 h1 d2 [.slice As2 d2.rx.sure.length cs2, .slice Ap2 d2.rx.pend.length cp2, .slice Af2 d2.rx.falls.length cf2, .int .i64 (d2.rx.ch : Nat), .bool d2.rx.down] (1 + 1)) :=
                    ⟨H10.out.1.other H10.out.2.2.1 nd_rx4 hgs HG.out.2.2, H10.out.2.1.keptG H10.out.2.2.1 hgs, H10.out.2.2.1.setAll _ rfl, H10.out.2.2.2.keptBy hgs HG.out.1, HN2.out.1, HN2.out.2.1, HN2.out.2.2.1, HN2.out.2.2.2⟩
                  clear hgs H10 hcx HN2
                  simp only [World.setCells, Nat.zero_add, Nat.reduceAdd] at H11
                  generalize (((((World.setCell w10 _ _).setCell _ _).setCell _ _).setCell _ _).setCell _ _) = W11 at H11 ⊢
                  have HB12 := Lib.hid (Below.alloc1 W11 (.cells #[.slice As2 d2.rx.sure.length cs2, .slice Ap2 d2.rx.pend.length cp2, .slice Af2 d2.rx.falls.length cf2, .int .i64 (d2.rx.ch : Nat), .bool d2.rx.down] 54))
                  generalize (World.alloc W11 _) = W12 at HB12 ⊢
                  have H12 := Lib.hid (H11.out.below HB12.out)
                  clear H11 HB12
                  go_wp2_with fail
                  go_roundw
                  case rel => exact ⟨1 + 1, by omega, rfl, d2, _, H12⟩
                  case measure => simp [intOf]
                · obtain ⟨B, hB⟩ : ∃ B, B = (u.drop 0).take 512 := ⟨_, rfl⟩
                  have hcu := cut_cut2 u 0
                  rw [← hB] at hcu
                  have HB : Hid (B.length = 512) := by show _ = _; rw [hB, List.length_take, List.length_drop]; omega
                  clear hB
                  obtain ⟨cb, Wb, hcvb, hrb, hbb, -, -⟩ := run_str_bytes wr B
                  unfold txt at hcvb
                  have HJb := Lib.hid (HJ.out.below hbb)
                  have hwp := write_calm HJb.out.falls HJb.out.down (i := 2) (by rw [HJb.out.len]; decide) HB.out
                  have hw := HJb.out.dl.write (by decide) (2) _ cb B hrb
                  rw [show (d.write 2 B).2 = 0 from hwp.1] at hw
                  have HPUT := Lib.hid (fun S' W' hS' cc hx => refput_any S' W' hS' d cc hx HJb.out.dl.good (Nat.lt_of_le_of_lt HJb.out.dl.ch (by decide)) (Nat.lt_of_le_of_lt HJb.out.dl.pe (by decide)) (2) B (by rw [HB.out]; decide))
                  rw [show (d.write 2 B).2 = 0 from hwp.1] at HPUT
                  have HN2 : Hid (NowAt (d.write 2 B).1 ∧ (d.write 2 B).1.blocks.length = 5 ∧ (d.write 2 B).1.falls = [] ∧ (d.write 2 B).1.down = false) := ⟨HJb.out.now.write _ _, hwp.2.1.trans HJb.out.len, hwp.2.2.1, hwp.2.2.2⟩
                  generalize (d.write 2 B).1 = d2 at hw HPUT HN2
                  clear HJ hbb hwp
                  go_wp2_with fail
                  refine hw.mono ?_
                  rintro e w9 ⟨rfl, hL9, hK9⟩
                  obtain ⟨As, cs, Ap, cp, Af, cf, rfl⟩ := HJb.out.rx.open_
                  have H9 : Hid (DL w w9 k d2 (2 + 1) ∧ RefX k.own w9 [.slice As d.rx.sure.length cs, .slice Ap d.rx.pend.length cp, .slice Af d.rx.falls.length cf, .int .i64 (d.rx.ch : Nat), .bool d.rx.down] d.rx ∧ Blk w9 gx 54 [.slice As d.rx.sure.length cs, .slice Ap d.rx.pend.length cp, .slice Af d.rx.falls.length cf, .int .i64 (d.rx.ch : Nat), .bool d.rx.down] ∧ Blk w9 gh 62 [.int .u64 (h0.s : Nat), .int .u64 (h0.n : Nat), .int .u8 (h0.o.toNat : Nat), .int .u64 (h1.s : Nat), .int .u64 (h1.n : Nat), .int .u8 (h1.o.toNat : Nat)]) :=
                    ⟨hL9, HJb.out.rx.kept hK9, HJb.out.blk.kept hK9 HG.out.2.1, HJb.out.hd.kept hK9 HNO.out⟩
                  clear hw hL9 hK9 HJb hrb hcvb
                  have hcx := H9.out.2.2.1.c5
                  have HPT := Lib.hid (HPUT.out k.own w9 H9.out.1.own_lt _ H9.out.2.1)
                  clear HPUT
                  go_wp2_with fail
                  refine HPT.out.mono ?_
                  rintro e w10 ⟨c10, rfl, hx10, hb10⟩
                  have H10 := Lib.hid (And.intro (H9.out.1.below hb10) (And.intro hx10 (And.intro (H9.out.2.2.1.below hb10) (H9.out.2.2.2.below hb10))))
                  obtain ⟨As2, cs2, Ap2, cp2, Af2, cf2, rfl⟩ := hx10.open_
                  clear hx10 hb10 hcx HPT H9
                  have hcx := H10.out.2.2.1.c5
                  go_upto_region 26 with (fail)
                  have hgs := grown_setCells w10 gx 0 [.slice As2 d2.rx.sure.length cs2, .slice Ap2 d2.rx.pend.length cp2, .slice Af2 d2.rx.falls.length cf2, .int .i64 (d2.rx.ch : Nat), .bool d2.rx.down]
                  have H11 : Hid (OpenJ w (w10.setCells gx 0 [.slice As2 d2.rx.sure.length cs2, .slice Ap2 d2.rx.pend.length cp2, .slice Af2 d2.rx.falls.length cf2, .int .i64 (d2.rx.ch : Nat), .bool d2.rx.down]) k gx gh h0 h1 d2 [.slice As2 d2.rx.sure.length cs2, .slice Ap2 d2.rx.pend.length cp2, .slice Af2 d2.rx.falls.length cf2, .int .i64 (d2.rx.ch : Nat), .bool d2.rx.down] (2 + 1)) :=
                    ⟨H10.out.1.other H10.out.2.2.1 nd_rx4 hgs HG.out.2.2, H10.out.2.1.keptG H10.out.2.2.1 hgs, H10.out.2.2.1.setAll _ rfl, H10.out.2.2.2.keptBy hgs HG.out.1, HN2.out.1, HN2.out.2.1, HN2.out.2.2.1, HN2.out.2.2.2⟩
                  clear hgs H10 hcx HN2
                  simp only [World.setCells, Nat.zero_add, Nat.reduceAdd] at H11
                  generalize (((((World.setCell w10 _ _).setCell _ _).setCell _ _).setCell _ _).setCell _ _) = W11 at H11 ⊢
                  have HB12 := Lib.hid (Below.alloc1 W11 (.cells #[.slice As2 d2.rx.sure.length cs2, .slice Ap2 d2.rx.pend.length cp2, .slice Af2 d2.rx.falls.length cf2, .int .i64 (d2.rx.ch : Nat), .bool d2.rx.down] 54))
                  generalize (World.alloc W11 _) = W12 at HB12 ⊢
                  have H12 := Lib.hid (H11.out.below HB12.out)
                  clear H11 HB12
                  go_wp2_with fail
                  go_roundw
                  case rel => exact ⟨2 + 1, by omega, rfl, d2, _, H12⟩
                  case measure => simp [intOf]
                · obtain ⟨B, hB⟩ : ∃ B, B = (u.drop 512).take 512 := ⟨_, rfl⟩
                  have hcu := cut_cut2 u 512
                  rw [← hB] at hcu
                  have HB : Hid (B.length = 512) := by show _ = _; rw [hB, List.length_take, List.length_drop]; omega
                  clear hB
                  obtain ⟨cb, Wb, hcvb, hrb, hbb, -, -⟩ := run_str_bytes wr B
                  unfold txt at hcvb
                  have HJb := Lib.hid (HJ.out.below hbb)
                  have hwp := write_calm HJb.out.falls HJb.out.down (i := 3) (by rw [HJb.out.len]; decide) HB.out
                  have hw := HJb.out.dl.write (by decide) (3) _ cb B hrb
                  rw [show (d.write 3 B).2 = 0 from hwp.1] at hw
                  have HPUT := Lib.hid (fun S' W' hS' cc hx => refput_any S' W' hS' d cc hx HJb.out.dl.good (Nat.lt_of_le_of_lt HJb.out.dl.ch (by decide)) (Nat.lt_of_le_of_lt HJb.out.dl.pe (by decide)) (3) B (by rw [HB.out]; decide))
                  rw [show (d.write 3 B).2 = 0 from hwp.1] at HPUT
                  have HN2 : Hid (NowAt (d.write 3 B).1 ∧ (d.write 3 B).1.blocks.length = 5 ∧ (d.write 3 B).1.falls = [] ∧ (d.write 3 B).1.down = false) := ⟨HJb.out.now.write _ _, hwp.2.1.trans HJb.out.len, hwp.2.2.1, hwp.2.2.2⟩
                  generalize (d.write 3 B).1 = d2 at hw HPUT HN2
                  clear HJ hbb hwp
                  go_wp2_with fail
                  refine hw.mono ?_
                  rintro e w9 ⟨rfl, hL9, hK9⟩
                  obtain ⟨As, cs, Ap, cp, Af, cf, rfl⟩ := HJb.out.rx.open_
                  have H9 : Hid (DL w w9 k d2 (3 + 1) ∧ RefX k.own w9 [.slice As d.rx.sure.length cs, .slice Ap d.rx.pend.length cp, .slice Af d.rx.falls.length cf, .int .i64 (d.rx.ch : Nat), .bool d.rx.down] d.rx ∧ Blk w9 gx 54 [.slice As d.rx.sure.length cs, .slice Ap d.rx.pend.length cp, .slice Af d.rx.falls.length cf, .int .i64 (d.rx.ch : Nat), .bool d.rx.down] ∧ Blk w9 gh 62 [.int .u64 (h0.s : Nat), .int .u64 (h0.n : Nat), .int .u8 (h0.o.toNat : Nat), .int .u64 (h1.s : Nat), .int .u64 (h1.n : Nat), .int .u8 (h1.o.toNat : Nat)]) :=
                    ⟨hL9, HJb.out.rx.kept hK9, HJb.out.blk.kept hK9 HG.out.2.1, HJb.out.hd.kept hK9 HNO.out⟩
                  clear hw hL9 hK9 HJb hrb hcvb
                  have hcx := H9.out.2.2.1.c5
                  have HPT := Lib.hid (HPUT.out k.own w9 H9.out.1.own_lt _ H9.out.2.1)
                  clear HPUT
                  go_wp2_with fail
                  refine HPT.out.mono ?_
                  rintro e w10 ⟨c10, rfl, hx10, hb10⟩
                  have H10 := Lib.hid (And.intro (H9.out.1.below hb10) (And.intro hx10 (And.intro (H9.out.2.2.1.below hb10) (H9.out.2.2.2.below hb10))))
                  obtain ⟨As2, cs2, Ap2, cp2, Af2, cf2, rfl⟩ := hx10.open_
                  clear hx10 hb10 hcx HPT H9
                  have hcx := H10.out.2.2.1.c5
                  go_upto_region 26 with (fail)
                  have hgs := grown_setCells w10 gx 0 [.slice As2 d2.rx.sure.length cs2, .slice Ap2 d2.rx.pend.length cp2, .slice Af2 d2.rx.falls.length cf2, .int .i64 (d2.rx.ch : Nat), .bool d2.rx.down]
                  have H11 : Hid (OpenJ w (w10.setCells gx 0 [.slice As2 d2.rx.sure.length cs2, .slice Ap2 d2.rx.pend.length cp2, .slice Af2 d2.rx.falls.length cf2, .int .i64 (d2.rx.ch : Nat), .bool d2.rx.down]) k gx gh h0 h1 d2 [.slice As2 d2.rx.sure.length cs2, .slice Ap2 d2.rx.pend.length cp2, .slice Af2 d2.rx.falls.length cf2, .int .i64 (d2.rx.ch : Nat), .bool d2.rx.down] (3 + 1)) :=
                    ⟨H10.out.1.other H10.out.2.2.1 nd_rx4 hgs HG.out.2.2, H10.out.2.1.keptG H10.out.2.2.1 hgs, H10.out.2.2.1.setAll _ rfl, H10.out.2.2.2.keptBy hgs HG.out.1, HN2.out.1, HN2.out.2.1, HN2.out.2.2.1, HN2.out.2.2.2⟩
                  clear hgs H10 hcx HN2
                  simp only [World.setCells, Nat.zero_add, Nat.reduceAdd] at H11
                  generalize (((((World.setCell w10 _ _).setCell _ _).setCell _ _).setCell _ _).setCell _ _) = W11 at H11 ⊢
                  have HB12 := Lib.hid (Below.alloc1 W11 (.cells #[.slice As2 d2.rx.sure.length cs2, .slice Ap2 d2.rx.pend.length cp2, .slice Af2 d2.rx.falls.length cf2, .int .i64 (d2.rx.ch : Nat), .bool d2.rx.down] 54))
                  generalize (World.alloc W11 _) = W12 at HB12 ⊢
                  have H12 := Lib.hid (H11.out.below HB12.out)
                  clear H11 HB12
                  go_wp2_with fail
                  go_roundw
                  case rel => exact ⟨3 + 1, by omega, rfl, d2, _, H12⟩
                  case measure => simp [intOf]
                · obtain ⟨B, hB⟩ : ∃ B, B = (u.drop 1024).take 512 := ⟨_, rfl⟩
                  have hcu := cut_cut2 u 1024
                  rw [← hB] at hcu
                  have HB : Hid (B.length = 512) := by show _ = _; rw [hB, List.length_take, List.length_drop]; omega
                  clear hB
                  obtain ⟨cb, Wb, hcvb, hrb, hbb, -, -⟩ := run_str_bytes wr B
                  unfold txt at hcvb
                  have HJb := Lib.hid (HJ.out.below hbb)
                  have hwp := write_calm HJb.out.falls HJb.out.down (i := 4) (by rw [HJb.out.len]; decide) HB.out
                  have hw := HJb.out.dl.write (by decide) (4) _ cb B hrb
                  rw [show (d.write 4 B).2 = 0 from hwp.1] at hw
                  have HPUT := Lib.hid (fun S' W' hS' cc hx => refput_any S' W' hS' d cc hx HJb.out.dl.good (Nat.lt_of_le_of_lt HJb.out.dl.ch (by decide)) (Nat.lt_of_le_of_lt HJb.out.dl.pe (by decide)) (4) B (by rw [HB.out]; decide))
                  rw [show (d.write 4 B).2 = 0 from hwp.1] at HPUT
                  have HN2 : Hid (NowAt (d.write 4 B).1 ∧ (d.write 4 B).1.blocks.length = 5 ∧ (d.write 4 B).1.falls = [] ∧ (d.write 4 B).1.down = false) := ⟨HJb.out.now.write _ _, hwp.2.1.trans HJb.out.len, hwp.2.2.1, hwp.2.2.2⟩
                  generalize (d.write 4 B).1 = d2 at hw HPUT HN2
                  clear HJ hbb hwp
                  go_wp2_with fail
                  refine hw.mono ?_
                  rintro e w9 ⟨rfl, hL9, hK9⟩
                  obtain ⟨As, cs, Ap, cp, Af, cf, rfl⟩ := HJb.out.rx.open_
                  have H9 : Hid (DL w w9 k d2 (4 + 1) ∧ RefX k.own w9 [.slice As d.rx.sure.length cs, .slice Ap d.rx.pend.length cp, .slice Af d.rx.falls.length cf, .int .i64 (d.rx.ch : Nat), .bool d.rx.down] d.rx ∧ Blk w9 gx 54 [.slice As d.rx.sure.length cs, .slice Ap d.rx.pend.length cp, .slice Af d.rx.falls.length cf, .int .i64 (d.rx.ch : Nat), .bool d.rx.down] ∧ Blk w9 gh 62 [.int .u64 (h0.s : Nat), .int .u64 (h0.n : Nat), .int .u8 (h0.o.toNat : Nat), .int .u64 (h1.s : Nat), .int .u64 (h1.n : Nat), .int .u8 (h1.o.toNat : Nat)]) :=
                    ⟨hL9, HJb.out.rx.kept hK9, HJb.out.blk.kept hK9 HG.out.2.1, HJb.out.hd.kept hK9 HNO.out⟩
                  clear hw hL9 hK9 HJb hrb hcvb
                  have hcx := H9.out.2.2.1.c5
                  have HPT := Lib.hid (HPUT.out k.own w9 H9.out.1.own_lt _ H9.out.2.1)
                  clear HPUT
                  go_wp2_with fail
                  refine HPT.out.mono ?_
                  rintro e w10 ⟨c10, rfl, hx10, hb10⟩
                  have H10 := Lib.hid (And.intro (H9.out.1.below hb10) (And.intro hx10 (And.intro (H9.out.2.2.1.below hb10) (H9.out.2.2.2.below hb10))))
                  obtain ⟨As2, cs2, Ap2, cp2, Af2, cf2, rfl⟩ := hx10.open_
                  clear hx10 hb10 hcx HPT H9
                  have hcx := H10.out.2.2.1.c5
                  go_upto_region 26 with (fail)
                  have hgs := grown_setCells w10 gx 0 [.slice As2 d2.rx.sure.length cs2, .slice Ap2 d2.rx.pend.length cp2, .slice Af2 d2.rx.falls.length cf2, .int .i64 (d2.rx.ch : Nat), .bool d2.rx.down]
                  have H11 : Hid (OpenJ w (w10.setCells gx 0 [.slice As2 d2.rx.sure.length cs2, .slice Ap2 d2.rx.pend.length cp2, .slice Af2 d2.rx.falls.length cf2, .int .i64 (d2.rx.ch : Nat), .bool d2.rx.down]) k gx gh h0 h1 d2 [.slice As2 d2.rx.sure.length cs2, .slice Ap2 d2.rx.pend.length cp2, .slice Af2 d2.rx.falls.length cf2, .int .i64 (d2.rx.ch : Nat), .bool d2.rx.down] (4 + 1)) :=
                    ⟨H10.out.1.other H10.out.2.2.1 nd_rx4 hgs HG.out.2.2, H10.out.2.1.keptG H10.out.2.2.1 hgs, H10.out.2.2.1.setAll _ rfl, H10.out.2.2.2.keptBy hgs HG.out.1, HN2.out.1, HN2.out.2.1, HN2.out.2.2.1, HN2.out.2.2.2⟩
                  clear hgs H10 hcx HN2
                  simp only [World.setCells, Nat.zero_add, Nat.reduceAdd] at H11
                  generalize (((((World.setCell w10 _ _).setCell _ _).setCell _ _).setCell _ _).setCell _ _) = W11 at H11 ⊢
                  have HB12 := Lib.hid (Below.alloc1 W11 (.cells #[.slice As2 d2.rx.sure.length cs2, .slice Ap2 d2.rx.pend.length cp2, .slice Af2 d2.rx.falls.length cf2, .int .i64 (d2.rx.ch : Nat), .bool d2.rx.down] 54))
                  generalize (World.alloc W11 _) = W12 at HB12 ⊢
                  have H12 := Lib.hid (H11.out.below HB12.out)
                  clear H11 HB12
                  go_wp2_with fail
                  go_roundw
                  case rel => exact ⟨4 + 1, by omega, rfl, d2, _, H12⟩
                  case measure => simp [intOf]
              · obtain rfl : i = 5 := by omega
                obtain ⟨As, cs, Ap, cp, Af, cf, rfl⟩ := HJ.out.rx.open_
                have hcx := HJ.out.blk.c5
                go_upto_region 30 with (fail)
                generalize hW9 : World.alloc wr (.cells _ _) = W9
                obtain ⟨ba9, hz9, hB9⟩ := fresh1 hW9
                clear hW9
                have H9 : Hid (BotAt w W9 k wr.heap.size none d none _ d.rx ⟨0, 0, 0, [], 0, false⟩ 5) := ⟨HJ.out.dl.below hB9, ba9, (HJ.out.rx.extend (fun i hi => by
                  rcases hi with hi | hi | hi
                  · exact .inl hi
                  · exact .inr (Nat.le_of_eq hi.symm)
                  · cases hi)).below hB9, HJ.out.dl.bel.size, fun h => Nat.lt_irrefl _ (HJ.out.dl.own_lt _ h)⟩
                have HOP := Lib.hid (bopen_any w W9 k wr.heap.size none d none _ ⟨0, 0, 0, [], 0, false⟩ 5 H9.out HJ.out.now (by decide) 5 (by decide) (by decide) (by rw [HJ.out.len]; decide))
                clear ba9 hB9 hz9 hcx HJ H9
                go_wp2_with fail
                refine HOP.out.mono ?_
                rintro e w10 ⟨rfl, l10, hb10, -, -⟩
                have HB10 := Lib.hid hb10
                clear hb10 HOP
                have HLK := Lib.hid (blike_any w w10 k _ _ l10 _ HB10.out)
                go_wp2_with fail
                refine HLK.out.mono ?_
                rintro e w11 ⟨rfl, hb11⟩
                have HB11 := Lib.hid (HB10.out.bel.then hb11)
                clear hb11 HLK HB10
                go_wp2_with fail
                go_ret
                exact ⟨rfl, HB11.out⟩
      · have hbr := HR.out.below H4.out.2
        have hcv1 := run_string_bytes wr.drew c (hbr.drew.take (l.length / 2))
        have hlt1 : (l.take (l.length / 2)).length = l.length / 2 := by rw [List.length_take]; omega
        rw [hlt1] at hcv1
        have hcv2 := run_string_bytes wr.drew (c - l.length / 2) (hbr.drew.drop (l.length / 2))
        have hlt2 : (l.drop (l.length / 2)).length = l.length - l.length / 2 := List.length_drop ..
        rw [hlt2] at hcv2
        have hct1 := run_cat wr.drew (l.take (l.length / 2)) t (by omega)
        have hct2 := run_cat wr.drew (l.take (l.length / 2) ++ t) (l.drop (l.length / 2)) (by rw [List.length_append]; omega)
        have htx : (l.take (l.length / 2) ++ (t ++ l.drop (l.length / 2))).length ≤ 30000 := by
          rw [List.length_append, List.length_append, List.length_take, List.length_drop]; omega
        have HTX := Lib.hid htx
        clear htx hbr HJ
        go_upto_region 9 with (fail)
        refine wp_region_planC (.take 0 (.take 1 (.take 2 (.take 3 (.take 4 (.take 5 (.take 6 (.take 7 (.take 8 (.take 9 (.take 10 (.take 11 (.take 12 (.take 13 (.take 14 (.run 15 [] .fin)))))))))))))))) (by kernel_rfl) (by kernel_rfl) (by kernel_rfl) (by kernel_rfl) ?_
        repeat' (first | (refine hZ _ _ ?_; clear hZ) | (refine hZ _ ?_; clear hZ) | (refine hZ ?_; clear hZ) | rw [again_nil] | rw [walk_fin] | ((first | rw [walk_take] | rw [walk_run] | rw [again_cons]); intro Z hZ; simp only [sel, List.getElem?_toArray, List.getElem?_cons_zero, List.getElem?_cons_succ]; go_wp2_with (fail)))
        clear hct1 hct2 hlt1 hlt2 hcv2
        generalize (l.take (l.length / 2) ++ (t ++ l.drop (l.length / 2))) = T at HTX ⊢
        have H5 := Lib.hid (And.intro (H4.out.1.below (below_drew wr)) (H4.out.2.then (below_drew wr)))
        have HGL5 : Hid (gh < wr.drew.heap.size) := Nat.lt_of_lt_of_le HGL4.out (below_drew wr).size
        clear hcv1 H4 HGL4 H3 HGL3 htl htl2 hge hi
        generalize wr.drew = W5 at H5 HGL5 ⊢
        go_wp2_with fail
        go_loopw [7] (fun sv wq => ∃ t : List UInt8, sv = txt t ∧ t.length ≤ 30000 ∧ wq = W5) (fun sv _ => 1536 - slen sv)
        case atStart => exact ⟨T, rfl, HTX.out, rfl⟩
        case round =>
          clear HTX
          obtain ⟨u, rfl, hul, rfl⟩ := hrel
          have husz : (ByteArray.mk u.toArray).size = u.length := by simp [ByteArray.size]
          rcases Nat.lt_or_ge u.length 1536 with hlt | hge
          · have hli2 : (u.length : Int) < 1536 := by omega
            have hct := run_cat wr u [0] (by simp; omega)
            unfold txt at hct ⊢
            go_wp2_with fail
            go_roundw
            case rel => exact ⟨u ++ [0], rfl, by rw [List.length_append]; simp; omega, trivial⟩
            case measure => simp [slen, ByteArray.size]; omega
          · have hli2 : ¬ (u.length : Int) < 1536 := by omega
            unfold txt
            go_wp2_with fail
            refine (DL.new (w0 := w) 5 (by omega) (by omega) H5.out.2).mono ?_
            rintro e w6 ⟨k, rfl, hL, hb6⟩
            have HL := Lib.hid (And.intro hL (H5.out.1.below hb6))
            have HGL6 : Hid (gh < w6.heap.size) := Nat.lt_of_lt_of_le HGL5.out hb6.size
            have HNO : Hid (¬ k.own gh) := HL.out.1.at_.notOwn HL.out.2 nd_heads
            clear hL hb6 H5 HGL5
            have HX := Lib.hid (refnew_any k.own w6 HL.out.1.own_lt 5 (by omega))
            go_wp2_with fail
            refine HX.out.mono ?_
            rintro e w7 ⟨c7, rfl, hx7, hb7⟩
            have H7 : Hid (DL w w7 k (DS.new 5) 0 ∧ RefX k.own w7 c7 (DS.new 5).rx ∧ Blk w7 gh 62 [.int .u64 (h0.s : Nat), .int .u64 (h0.n : Nat), .int .u8 (h0.o.toNat : Nat), .int .u64 (h1.s : Nat), .int .u64 (h1.n : Nat), .int .u8 (h1.o.toNat : Nat)]) := ⟨HL.out.1.below hb7, by rw [rx_fresh]; exact hx7, HL.out.2.below hb7⟩
            have HGL7 : Hid (gh < w7.heap.size) := Nat.lt_of_lt_of_le HGL6.out hb7.size
            obtain ⟨As, cs, Ap, cp, Af, cf, rfl⟩ := hx7.open_
            clear hx7 hb7 HL HX HGL6
            go_upto_region 14 with (fail)
            generalize hW8 : World.alloc w7 (.cells _ _) = W8
            obtain ⟨ba8, hz8, hB8⟩ := fresh1 hW8
            clear hW8
            obtain ⟨gx, hgx⟩ : ∃ gx, gx = w7.heap.size := ⟨_, rfl⟩
            rw [← hgx] at ba8 ⊢
            have H8 : Hid (OpenJ w W8 k gx gh h0 h1 (DS.new 5) _ 0) := ⟨H7.out.1.below hB8, H7.out.2.1.below hB8, ba8, H7.out.2.2.below hB8, NowAt.fresh 5, by simp [DS.new], rfl, rfl⟩
            have HG : Hid (gh ≠ gx ∧ ¬ k.own gx ∧ w.heap.size ≤ gx) := ⟨fun e => by have := HGL7.out; rw [hgx] at e; omega, fun h => by have := H7.out.1.own_lt _ h; rw [hgx] at this; omega, by rw [hgx]; exact H7.out.1.bel.size⟩
            clear ba8 hB8 hz8 H7 HGL7 hgx
            go_wp2_with fail
            go_loopw [71] (fun iv wr => ∃ i : Nat, i ≤ 5 ∧ iv = .int .i64 i ∧ ∃ d c', Hid (OpenJ w wr k gx gh h0 h1 d c' i)) (fun iv _ => 5 - (intOf iv).toNat)
            case atStart => exact ⟨0, by omega, rfl, _, _, H8.out⟩
            case round =>
              obtain ⟨i, hi, rfl, d, c', HJ⟩ := hrel
              clear H8
              by_cases hlt : i < 5
              · obtain rfl | rfl | rfl | rfl | rfl : i = 0 ∨ i = 1 ∨ i = 2 ∨ i = 3 ∨ i = 4 := by omega
                · have hcg := And.intro (HJ.out.hd.cell 0) (And.intro (HJ.out.hd.cell 1) (HJ.out.hd.cell 2))
                  have hgl := HJ.out.hd.lt
                  simp only [List.getElem?_cons_zero, List.getElem?_cons_succ] at hcg
                  have HHD := Lib.hid (refhead_any wr.drew h0.s h0.n HH.out.1.1 HH.out.1.2)
                  go_upto_region 19 with (fail)
                  refine wp_region_planC (.take 0 (.take 1 (.take 2 (.take 3 (.take 4 (.take 5 (.take 6 (.take 7 (.run 8 [] (.run 9 [] (.take 10 .fin))))))))))) (by kernel_rfl) (by kernel_rfl) (by kernel_rfl) (by kernel_rfl) ?_
                  repeat' (first | (refine hZ _ _ ?_; clear hZ) | (refine hZ _ ?_; clear hZ) | (refine hZ ?_; clear hZ) | rw [again_nil] | rw [walk_fin] | ((first | rw [walk_take] | rw [walk_run] | rw [again_cons]); intro Z hZ; simp only [sel, List.getElem?_toArray, List.getElem?_cons_zero, List.getElem?_cons_succ]; go_wp2_with (fail)))
                  refine HHD.out.mono ?_
                  rintro e w2 ⟨rfl, hb2⟩
                  have HJ2 := Lib.hid (HJ.out.below (hb2.drewL))
                  clear HHD HJ hb2 hcg hgl
                  obtain ⟨c2, W2, hcv2, hr2, hbb2, hlt2, hfz2⟩ := run_str_bytes w2 (Wal.headL h0.s h0.n)
                  unfold txt at hcv2 ⊢
                  have HJ3 := Lib.hid (HJ2.out.below hbb2)
                  go_wp2_with fail
                  repeat' (first | (refine hZ _ _ ?_; clear hZ) | (refine hZ _ ?_; clear hZ) | (refine hZ ?_; clear hZ) | rw [again_nil] | rw [walk_fin] | ((first | rw [walk_take] | rw [walk_run] | rw [again_cons]); intro Z hZ; simp only [sel, List.getElem?_toArray, List.getElem?_cons_zero, List.getElem?_cons_succ]; go_wp2_with (fail)))
                  have hL512 : (Wal.headL h0.s h0.n).length = 512 := Wal.headL_length _ _
                  have hcg := And.intro (HJ3.out.hd.cell 0) (And.intro (HJ3.out.hd.cell 1) (HJ3.out.hd.cell 2))
                  have hgl := HJ3.out.hd.lt
                  simp only [List.getElem?_cons_zero, List.getElem?_cons_succ] at hcg
                  generalize Wal.headL h0.s h0.n = L at hL512 hr2 hfz2 ⊢
                  have hm : 24 + h0.s % 24 < L.length := by rw [hL512]; omega
                  have hidx := brow_at0 hr2 hm
                  have hfz := hfz2 _ hm
                  have HX := Lib.hid (And.intro hr2 (And.intro hm (And.intro hbb2 hL512)))
                  rw [hL512]
                  clear hr2 hfz2 hcv2 hbb2 hL512
                  generalize hxx : L[24 + h0.s % 24] = xx at hidx
                  go_wp2_with fail
                  refine wp_region_planC (.take 0 (.take 1 (.take 2 (.take 3 (.take 4 (.take 5 (.take 6 (.take 7 (.take 8 (.take 9 (.take 10 (.take 11 (.take 12 (.take 13 (.take 14 (.take 15 (.run 16 [] .fin))))))))))))))))) (by kernel_rfl) (by kernel_rfl) (by kernel_rfl) (by kernel_rfl) ?_
                  repeat' (first | (refine hZ _ _ ?_; clear hZ) | (refine hZ _ ?_; clear hZ) | (refine hZ ?_; clear hZ) | rw [again_nil] | rw [walk_fin] | ((first | rw [walk_take] | rw [walk_run] | rw [again_cons]); intro Z hZ; simp only [sel, List.getElem?_toArray, List.getElem?_cons_zero, List.getElem?_cons_succ]; go_wp2_with (fail)))
                  rw [← bv_xor]
                  have HJ := Lib.hid (HJ2.out.below ((HX.out.2.2.1.setCell (p := ⟨w2.heap.size, 24 + h0.s % 24, none⟩) (Nat.le_refl _) (bv (xx ^^^ h0.o))).drewR))
                  have hrB := (HX.out.1.set HX.out.2.1 (xx ^^^ h0.o)).drew
                  obtain ⟨B, hB⟩ : ∃ B, B = L.set (24 + h0.s % 24) (xx ^^^ h0.o) := ⟨_, rfl⟩
                  have HB : Hid (B.length = 512) := by show _ = _; rw [hB, List.length_set]; exact HX.out.2.2.2
                  rw [← hB] at hrB
                  clear hB hxx hidx hfz hm hcg hgl HX HJ2 HJ3
                  generalize hgb : w2.heap.size = gb at hrB HJ hlt2 ⊢
                  generalize (World.setCell W2 _ _).drew = wr at hrB HJ ⊢
                  have hcs := run_string_bytes wr c2 hrB
                  rw [HB.out] at hcs
                  unfold txt at hcs
                  clear hrB
                  obtain ⟨cb, Wb, hcvb, hrb, hbb, -, -⟩ := run_str_bytes wr B
                  unfold txt at hcvb
                  have HJb := Lib.hid (HJ.out.below hbb)
                  have hwp := write_calm HJb.out.falls HJb.out.down (i := 0) (by rw [HJb.out.len]; decide) HB.out
                  have hw := HJb.out.dl.write (by decide) (0) _ cb B hrb
                  rw [show (d.write 0 B).2 = 0 from hwp.1] at hw
                  have HPUT := Lib.hid (fun S' W' hS' cc hx => refput_any S' W' hS' d cc hx HJb.out.dl.good (Nat.lt_of_le_of_lt HJb.out.dl.ch (by decide)) (Nat.lt_of_le_of_lt HJb.out.dl.pe (by decide)) (0) B (by rw [HB.out]; decide))
                  rw [show (d.write 0 B).2 = 0 from hwp.1] at HPUT
                  have HN2 : Hid (NowAt (d.write 0 B).1 ∧ (d.write 0 B).1.blocks.length = 5 ∧ (d.write 0 B).1.falls = [] ∧ (d.write 0 B).1.down = false) := ⟨HJb.out.now.write _ _, hwp.2.1.trans HJb.out.len, hwp.2.2.1, hwp.2.2.2⟩
                  generalize (d.write 0 B).1 = d2 at hw HPUT HN2
                  clear HJ hbb hwp
                  go_wp2_with fail
                  refine hw.mono ?_
                  rintro e w9 ⟨rfl, hL9, hK9⟩
                  obtain ⟨As, cs, Ap, cp, Af, cf, rfl⟩ := HJb.out.rx.open_
                  have H9 : Hid (DL w w9 k d2 (0 + 1) ∧ RefX k.own w9 [.slice As d.rx.sure.length cs, .slice Ap d.rx.pend.length cp, .slice Af d.rx.falls.length cf, .int .i64 (d.rx.ch : Nat), .bool d.rx.down] d.rx ∧ Blk w9 gx 54 [.slice As d.rx.sure.length cs, .slice Ap d.rx.pend.length cp, .slice Af d.rx.falls.length cf, .int .i64 (d.rx.ch : Nat), .bool d.rx.down] ∧ Blk w9 gh 62 [.int .u64 (h0.s : Nat), .int .u64 (h0.n : Nat), .int .u8 (h0.o.toNat : Nat), .int .u64 (h1.s : Nat), .int .u64 (h1.n : Nat), .int .u8 (h1.o.toNat : Nat)]) :=
                    ⟨hL9, HJb.out.rx.kept hK9, HJb.out.blk.kept hK9 HG.out.2.1, HJb.out.hd.kept hK9 HNO.out⟩
                  clear hw hL9 hK9 HJb hrb hcvb
                  have hcx := H9.out.2.2.1.c5
                  have HPT := Lib.hid (HPUT.out k.own w9 H9.out.1.own_lt _ H9.out.2.1)
                  clear HPUT
                  go_wp2_with fail
                  refine HPT.out.mono ?_
                  rintro e w10 ⟨c10, rfl, hx10, hb10⟩
                  have H10 := Lib.hid (And.intro (H9.out.1.below hb10) (And.intro hx10 (And.intro (H9.out.2.2.1.below hb10) (H9.out.2.2.2.below hb10))))
                  obtain ⟨As2, cs2, Ap2, cp2, Af2, cf2, rfl⟩ := hx10.open_
                  clear hx10 hb10 hcx HPT H9
                  have hcx := H10.out.2.2.1.c5
                  go_upto_region 26 with (fail)
                  have hgs := grown_setCells w10 gx 0 [.slice As2 d2.rx.sure.length cs2, .slice Ap2 d2.rx.pend.length cp2, .slice Af2 d2.rx.falls.length cf2, .int .i64 (d2.rx.ch : Nat), .bool d2.rx.down]
                  have H11 : Hid (OpenJ w (w10.setCells gx 0 [.slice As2 d2.rx.sure.length cs2, .slice Ap2 d2.rx.pend.length cp2, .slice Af2 d2.rx.falls.length cf2, .int .i64 (d2.rx.ch : Nat), .bool d2.rx.down]) k gx gh h0 h1 d2 [.slice As2 d2.rx.sure.length cs2, .slice Ap2 d2.rx.pend.length cp2, .slice Af2 d2.rx.falls.length cf2, .int .i64 (d2.rx.ch : Nat), .bool d2.rx.down] (0 + 1)) :=
                    ⟨H10.out.1.other H10.out.2.2.1 nd_rx4 hgs HG.out.2.2, H10.out.2.1.keptG H10.out.2.2.1 hgs, H10.out.2.2.1.setAll _ rfl, H10.out.2.2.2.keptBy hgs HG.out.1, HN2.out.1, HN2.out.2.1, HN2.out.2.2.1, HN2.out.2.2.2⟩
                  clear hgs H10 hcx HN2
                  simp only [World.setCells, Nat.zero_add, Nat.reduceAdd] at H11
                  generalize (((((World.setCell w10 _ _).setCell _ _).setCell _ _).setCell _ _).setCell _ _) = W11 at H11 ⊢
                  have HB12 := Lib.hid (Below.alloc1 W11 (.cells #[.slice As2 d2.rx.sure.length cs2, .slice Ap2 d2.rx.pend.length cp2, .slice Af2 d2.rx.falls.length cf2, .int .i64 (d2.rx.ch : Nat), .bool d2.rx.down] 54))
                  generalize (World.alloc W11 _) = W12 at HB12 ⊢
                  have H12 := Lib.hid (H11.out.below HB12.out)
                  clear H11 HB12
                  go_wp2_with fail
                  go_roundw
                  case rel => exact ⟨0 + 1, by omega, rfl, d2, _, H12⟩
                  case measure => simp [intOf]
                · have hcg := And.intro (HJ.out.hd.cell 3) (And.intro (HJ.out.hd.cell 4) (HJ.out.hd.cell 5))
                  have hgl := HJ.out.hd.lt
                  simp only [List.getElem?_cons_zero, List.getElem?_cons_succ] at hcg
                  have HHD := Lib.hid (refhead_any wr.drew h1.s h1.n HH.out.2.1 HH.out.2.2)
                  go_upto_region 19 with (fail)
                  refine wp_region_planC (.take 0 (.take 1 (.take 2 (.take 3 (.take 4 (.take 5 (.take 6 (.take 7 (.run 8 [] (.run 9 [] (.take 10 .fin))))))))))) (by kernel_rfl) (by kernel_rfl) (by kernel_rfl) (by kernel_rfl) ?_
                  repeat' (first | (refine hZ _ _ ?_; clear hZ) | (refine hZ _ ?_; clear hZ) | (refine hZ ?_; clear hZ) | rw [again_nil] | rw [walk_fin] | ((first | rw [walk_take] | rw [walk_run] | rw [again_cons]); intro Z hZ; simp only [sel, List.getElem?_toArray, List.getElem?_cons_zero, List.getElem?_cons_succ]; go_wp2_with (fail)))
                  refine HHD.out.mono ?_
                  rintro e w2 ⟨rfl, hb2⟩
                  have HJ2 := Lib.hid (HJ.out.below (hb2.drewL))
                  clear HHD HJ hb2 hcg hgl
                  obtain ⟨c2, W2, hcv2, hr2, hbb2, hlt2, hfz2⟩ := run_str_bytes w2 (Wal.headL h1.s h1.n)
                  unfold txt at hcv2 ⊢
                  have HJ3 := Lib.hid (HJ2.out.below hbb2)
                  go_wp2_with fail
                  repeat' (first | (refine hZ _ _ ?_; clear hZ) | (refine hZ _ ?_; clear hZ) | (refine hZ ?_; clear hZ) | rw [again_nil] | rw [walk_fin] | ((first | rw [walk_take] | rw [walk_run] | rw [again_cons]); intro Z hZ; simp only [sel, List.getElem?_toArray, List.getElem?_cons_zero, List.getElem?_cons_succ]; go_wp2_with (fail)))
                  have hL512 : (Wal.headL h1.s h1.n).length = 512 := Wal.headL_length _ _
                  have hcg := And.intro (HJ3.out.hd.cell 3) (And.intro (HJ3.out.hd.cell 4) (HJ3.out.hd.cell 5))
                  have hgl := HJ3.out.hd.lt
                  simp only [List.getElem?_cons_zero, List.getElem?_cons_succ] at hcg
                  generalize Wal.headL h1.s h1.n = L at hL512 hr2 hfz2 ⊢
                  have hm : 24 + h1.s % 24 < L.length := by rw [hL512]; omega
                  have hidx := brow_at0 hr2 hm
                  have hfz := hfz2 _ hm
                  have HX := Lib.hid (And.intro hr2 (And.intro hm (And.intro hbb2 hL512)))
                  rw [hL512]
                  clear hr2 hfz2 hcv2 hbb2 hL512
                  generalize hxx : L[24 + h1.s % 24] = xx at hidx
                  go_wp2_with fail
                  refine wp_region_planC (.take 0 (.take 1 (.take 2 (.take 3 (.take 4 (.take 5 (.take 6 (.take 7 (.take 8 (.take 9 (.take 10 (.take 11 (.take 12 (.take 13 (.take 14 (.take 15 (.run 16 [] .fin))))))))))))))))) (by kernel_rfl) (by kernel_rfl) (by kernel_rfl) (by kernel_rfl) ?_
                  repeat' (first | (refine hZ _ _ ?_; clear hZ) | (refine hZ _ ?_; clear hZ) | (refine hZ ?_; clear hZ) | rw [again_nil] | rw [walk_fin] | ((first | rw [walk_take] | rw [walk_run] | rw [again_cons]); intro Z hZ; simp only [sel, List.getElem?_toArray, List.getElem?_cons_zero, List.getElem?_cons_succ]; go_wp2_with (fail)))
                  rw [← bv_xor]
                  have HJ := Lib.hid (HJ2.out.below ((HX.out.2.2.1.setCell (p := ⟨w2.heap.size, 24 + h1.s % 24, none⟩) (Nat.le_refl _) (bv (xx ^^^ h1.o))).drewR))
                  have hrB := (HX.out.1.set HX.out.2.1 (xx ^^^ h1.o)).drew
                  obtain ⟨B, hB⟩ : ∃ B, B = L.set (24 + h1.s % 24) (xx ^^^ h1.o) := ⟨_, rfl⟩
                  have HB : Hid (B.length = 512) := by show _ = _; rw [hB, List.length_set]; exact HX.out.2.2.2
                  rw [← hB] at hrB
                  clear hB hxx hidx hfz hm hcg hgl HX HJ2 HJ3
                  generalize hgb : w2.heap.size = gb at hrB HJ hlt2 ⊢
                  generalize (World.setCell W2 _ _).drew = wr at hrB HJ ⊢
                  have hcs := run_string_bytes wr c2 hrB
                  rw [HB.out] at hcs
                  unfold txt at hcs
                  clear hrB
                  obtain ⟨cb, Wb, hcvb, hrb, hbb, -, -⟩ := run_str_bytes wr B
                  unfold txt at hcvb
                  have HJb := Lib.hid (HJ.out.below hbb)
                  have hwp := write_calm HJb.out.falls HJb.out.down (i := 1) (by rw [HJb.out.len]; decide) HB.out
                  have hw := HJb.out.dl.write (by decide) (1) _ cb B hrb
                  rw [show (d.write 1 B).2 = 0 from hwp.1] at hw
                  have HPUT := Lib.hid (fun S' W' hS' cc hx => refput_any S' W' hS' d cc hx HJb.out.dl.good (Nat.lt_of_le_of_lt HJb.out.dl.ch (by decide)) (Nat.lt_of_le_of_lt HJb.out.dl.pe (by decide)) (1) B (by rw [HB.out]; decide))
                  rw [show (d.write 1 B).2 = 0 from hwp.1] at HPUT
                  have HN2 : Hid (NowAt (d.write 1 B).1 ∧ (d.write 1 B).1.blocks.length = 5 ∧ (d.write 1 B).1.falls = [] ∧ (d.write 1 B).1.down = false) := ⟨HJb.out.now.write _ _, hwp.2.1.trans HJb.out.len, hwp.2.2.1, hwp.2.2.2⟩
                  generalize (d.write 1 B).1 = d2 at hw HPUT HN2
                  clear HJ hbb hwp
                  go_wp2_with fail
                  refine hw.mono ?_
                  rintro e w9 ⟨rfl, hL9, hK9⟩
                  obtain ⟨As, cs, Ap, cp, Af, cf, rfl⟩ := HJb.out.rx.open_
                  have H9 : Hid (DL w w9 k d2 (1 + 1) ∧ RefX k.own w9 [.slice As d.rx.sure.length cs, .slice Ap d.rx.pend.length cp, .slice Af d.rx.falls.length cf, .int .i64 (d.rx.ch : Nat), .bool d.rx.down] d.rx ∧ Blk w9 gx 54 [.slice As d.rx.sure.length cs, .slice Ap d.rx.pend.length cp, .slice Af d.rx.falls.length cf, .int .i64 (d.rx.ch : Nat), .bool d.rx.down] ∧ Blk w9 gh 62 [.int .u64 (h0.s : Nat), .int .u64 (h0.n : Nat), .int .u8 (h0.o.toNat : Nat), .int .u64 (h1.s : Nat), .int .u64 (h1.n : Nat), .int .u8 (h1.o.toNat : Nat)]) :=
                    ⟨hL9, HJb.out.rx.kept hK9, HJb.out.blk.kept hK9 HG.out.2.1, HJb.out.hd.kept hK9 HNO.out⟩
                  clear hw hL9 hK9 HJb hrb hcvb
                  have hcx := H9.out.2.2.1.c5
                  have HPT := Lib.hid (HPUT.out k.own w9 H9.out.1.own_lt _ H9.out.2.1)
                  clear HPUT
                  go_wp2_with fail
                  refine HPT.out.mono ?_
                  rintro e w10 ⟨c10, rfl, hx10, hb10⟩
                  have H10 := Lib.hid (And.intro (H9.out.1.below hb10) (And.intro hx10 (And.intro (H9.out.2.2.1.below hb10) (H9.out.2.2.2.below hb10))))
                  obtain ⟨As2, cs2, Ap2, cp2, Af2, cf2, rfl⟩ := hx10.open_
                  clear hx10 hb10 hcx HPT H9
                  have hcx := H10.out.2.2.1.c5
                  go_upto_region 26 with (fail)
                  have hgs := grown_setCells w10 gx 0 [.slice As2 d2.rx.sure.length cs2, .slice Ap2 d2.rx.pend.length cp2, .slice Af2 d2.rx.falls.length cf2, .int .i64 (d2.rx.ch : Nat), .bool d2.rx.down]
                  have H11 : Hid (OpenJ w (w10.setCells gx 0 [.slice As2 d2.rx.sure.length cs2, .slice Ap2 d2.rx.pend.length cp2, .slice Af2 d2.rx.falls.length cf2, .int .i64 (d2.rx.ch : Nat), .bool d2.rx.down]) k gx gh h0 h1 d2 [.slice As2 d2.rx.sure.length cs2, .slice Ap2 d2.rx.pend.length cp2, .slice Af2 d2.rx.falls.length cf2, .int .i64 (d2.rx.ch : Nat), .bool d2.rx.down] (1 + 1)) :=
                    ⟨H10.out.1.other H10.out.2.2.1 nd_rx4 hgs HG.out.2.2, H10.out.2.1.keptG H10.out.2.2.1 hgs, H10.out.2.2.1.setAll _ rfl, H10.out.2.2.2.keptBy hgs HG.out.1, HN2.out.1, HN2.out.2.1, HN2.out.2.2.1, HN2.out.2.2.2⟩
                  clear hgs H10 hcx HN2
                  simp only [World.setCells, Nat.zero_add, Nat.reduceAdd] at H11
                  generalize (((((World.setCell w10 _ _).setCell _ _).setCell _ _).setCell _ _).setCell _ _) = W11 at H11 ⊢
                  have HB12 := Lib.hid (Below.alloc1 W11 (.cells #[.slice As2 d2.rx.sure.length cs2, .slice Ap2 d2.rx.pend.length cp2, .slice Af2 d2.rx.falls.length cf2, .int .i64 (d2.rx.ch : Nat), .bool d2.rx.down] 54))
                  generalize (World.alloc W11 _) = W12 at HB12 ⊢
                  have H12 := Lib.hid (H11.out.below HB12.out)
                  clear H11 HB12
                  go_wp2_with fail
                  go_roundw
                  case rel => exact ⟨1 + 1, by omega, rfl, d2, _, H12⟩
                  case measure => simp [intOf]
                · obtain ⟨B, hB⟩ : ∃ B, B = (u.drop 0).take 512 := ⟨_, rfl⟩
                  have hcu := cut_cut2 u 0
                  rw [← hB] at hcu
                  have HB : Hid (B.length = 512) := by show _ = _; rw [hB, List.length_take, List.length_drop]; omega
                  clear hB
                  obtain ⟨cb, Wb, hcvb, hrb, hbb, -, -⟩ := run_str_bytes wr B
                  unfold txt at hcvb
                  have HJb := Lib.hid (HJ.out.below hbb)
                  have hwp := write_calm HJb.out.falls HJb.out.down (i := 2) (by rw [HJb.out.len]; decide) HB.out
                  have hw := HJb.out.dl.write (by decide) (2) _ cb B hrb
                  rw [show (d.write 2 B).2 = 0 from hwp.1] at hw
                  have HPUT := Lib.hid (fun S' W' hS' cc hx => refput_any S' W' hS' d cc hx HJb.out.dl.good (Nat.lt_of_le_of_lt HJb.out.dl.ch (by decide)) (Nat.lt_of_le_of_lt HJb.out.dl.pe (by decide)) (2) B (by rw [HB.out]; decide))
                  rw [show (d.write 2 B).2 = 0 from hwp.1] at HPUT
                  have HN2 : Hid (NowAt (d.write 2 B).1 ∧ (d.write 2 B).1.blocks.length = 5 ∧ (d.write 2 B).1.falls = [] ∧ (d.write 2 B).1.down = false) := ⟨HJb.out.now.write _ _, hwp.2.1.trans HJb.out.len, hwp.2.2.1, hwp.2.2.2⟩
                  generalize (d.write 2 B).1 = d2 at hw HPUT HN2
                  clear HJ hbb hwp
                  go_wp2_with fail
                  refine hw.mono ?_
                  rintro e w9 ⟨rfl, hL9, hK9⟩
                  obtain ⟨As, cs, Ap, cp, Af, cf, rfl⟩ := HJb.out.rx.open_
                  have H9 : Hid (DL w w9 k d2 (2 + 1) ∧ RefX k.own w9 [.slice As d.rx.sure.length cs, .slice Ap d.rx.pend.length cp, .slice Af d.rx.falls.length cf, .int .i64 (d.rx.ch : Nat), .bool d.rx.down] d.rx ∧ Blk w9 gx 54 [.slice As d.rx.sure.length cs, .slice Ap d.rx.pend.length cp, .slice Af d.rx.falls.length cf, .int .i64 (d.rx.ch : Nat), .bool d.rx.down] ∧ Blk w9 gh 62 [.int .u64 (h0.s : Nat), .int .u64 (h0.n : Nat), .int .u8 (h0.o.toNat : Nat), .int .u64 (h1.s : Nat), .int .u64 (h1.n : Nat), .int .u8 (h1.o.toNat : Nat)]) :=
                    ⟨hL9, HJb.out.rx.kept hK9, HJb.out.blk.kept hK9 HG.out.2.1, HJb.out.hd.kept hK9 HNO.out⟩
                  clear hw hL9 hK9 HJb hrb hcvb
                  have hcx := H9.out.2.2.1.c5
                  have HPT := Lib.hid (HPUT.out k.own w9 H9.out.1.own_lt _ H9.out.2.1)
                  clear HPUT
                  go_wp2_with fail
                  refine HPT.out.mono ?_
                  rintro e w10 ⟨c10, rfl, hx10, hb10⟩
                  have H10 := Lib.hid (And.intro (H9.out.1.below hb10) (And.intro hx10 (And.intro (H9.out.2.2.1.below hb10) (H9.out.2.2.2.below hb10))))
                  obtain ⟨As2, cs2, Ap2, cp2, Af2, cf2, rfl⟩ := hx10.open_
                  clear hx10 hb10 hcx HPT H9
                  have hcx := H10.out.2.2.1.c5
                  go_upto_region 26 with (fail)
                  have hgs := grown_setCells w10 gx 0 [.slice As2 d2.rx.sure.length cs2, .slice Ap2 d2.rx.pend.length cp2, .slice Af2 d2.rx.falls.length cf2, .int .i64 (d2.rx.ch : Nat), .bool d2.rx.down]
                  have H11 : Hid (OpenJ w (w10.setCells gx 0 [.slice As2 d2.rx.sure.length cs2, .slice Ap2 d2.rx.pend.length cp2, .slice Af2 d2.rx.falls.length cf2, .int .i64 (d2.rx.ch : Nat), .bool d2.rx.down]) k gx gh h0 h1 d2 [.slice As2 d2.rx.sure.length cs2, .slice Ap2 d2.rx.pend.length cp2, .slice Af2 d2.rx.falls.length cf2, .int .i64 (d2.rx.ch : Nat), .bool d2.rx.down] (2 + 1)) :=
                    ⟨H10.out.1.other H10.out.2.2.1 nd_rx4 hgs HG.out.2.2, H10.out.2.1.keptG H10.out.2.2.1 hgs, H10.out.2.2.1.setAll _ rfl, H10.out.2.2.2.keptBy hgs HG.out.1, HN2.out.1, HN2.out.2.1, HN2.out.2.2.1, HN2.out.2.2.2⟩
                  clear hgs H10 hcx HN2
                  simp only [World.setCells, Nat.zero_add, Nat.reduceAdd] at H11
                  generalize (((((World.setCell w10 _ _).setCell _ _).setCell _ _).setCell _ _).setCell _ _) = W11 at H11 ⊢
                  have HB12 := Lib.hid (Below.alloc1 W11 (.cells #[.slice As2 d2.rx.sure.length cs2, .slice Ap2 d2.rx.pend.length cp2, .slice Af2 d2.rx.falls.length cf2, .int .i64 (d2.rx.ch : Nat), .bool d2.rx.down] 54))
                  generalize (World.alloc W11 _) = W12 at HB12 ⊢
                  have H12 := Lib.hid (H11.out.below HB12.out)
                  clear H11 HB12
                  go_wp2_with fail
                  go_roundw
                  case rel => exact ⟨2 + 1, by omega, rfl, d2, _, H12⟩
                  case measure => simp [intOf]
                · obtain ⟨B, hB⟩ : ∃ B, B = (u.drop 512).take 512 := ⟨_, rfl⟩
                  have hcu := cut_cut2 u 512
                  rw [← hB] at hcu
                  have HB : Hid (B.length = 512) := by show _ = _; rw [hB, List.length_take, List.length_drop]; omega
                  clear hB
                  obtain ⟨cb, Wb, hcvb, hrb, hbb, -, -⟩ := run_str_bytes wr B
                  unfold txt at hcvb
                  have HJb := Lib.hid (HJ.out.below hbb)
                  have hwp := write_calm HJb.out.falls HJb.out.down (i := 3) (by rw [HJb.out.len]; decide) HB.out
                  have hw := HJb.out.dl.write (by decide) (3) _ cb B hrb
                  rw [show (d.write 3 B).2 = 0 from hwp.1] at hw
                  have HPUT := Lib.hid (fun S' W' hS' cc hx => refput_any S' W' hS' d cc hx HJb.out.dl.good (Nat.lt_of_le_of_lt HJb.out.dl.ch (by decide)) (Nat.lt_of_le_of_lt HJb.out.dl.pe (by decide)) (3) B (by rw [HB.out]; decide))
                  rw [show (d.write 3 B).2 = 0 from hwp.1] at HPUT
                  have HN2 : Hid (NowAt (d.write 3 B).1 ∧ (d.write 3 B).1.blocks.length = 5 ∧ (d.write 3 B).1.falls = [] ∧ (d.write 3 B).1.down = false) := ⟨HJb.out.now.write _ _, hwp.2.1.trans HJb.out.len, hwp.2.2.1, hwp.2.2.2⟩
                  generalize (d.write 3 B).1 = d2 at hw HPUT HN2
                  clear HJ hbb hwp
                  go_wp2_with fail
                  refine hw.mono ?_
                  rintro e w9 ⟨rfl, hL9, hK9⟩
                  obtain ⟨As, cs, Ap, cp, Af, cf, rfl⟩ := HJb.out.rx.open_
                  have H9 : Hid (DL w w9 k d2 (3 + 1) ∧ RefX k.own w9 [.slice As d.rx.sure.length cs, .slice Ap d.rx.pend.length cp, .slice Af d.rx.falls.length cf, .int .i64 (d.rx.ch : Nat), .bool d.rx.down] d.rx ∧ Blk w9 gx 54 [.slice As d.rx.sure.length cs, .slice Ap d.rx.pend.length cp, .slice Af d.rx.falls.length cf, .int .i64 (d.rx.ch : Nat), .bool d.rx.down] ∧ Blk w9 gh 62 [.int .u64 (h0.s : Nat), .int .u64 (h0.n : Nat), .int .u8 (h0.o.toNat : Nat), .int .u64 (h1.s : Nat), .int .u64 (h1.n : Nat), .int .u8 (h1.o.toNat : Nat)]) :=
                    ⟨hL9, HJb.out.rx.kept hK9, HJb.out.blk.kept hK9 HG.out.2.1, HJb.out.hd.kept hK9 HNO.out⟩
                  clear hw hL9 hK9 HJb hrb hcvb
                  have hcx := H9.out.2.2.1.c5
                  have HPT := Lib.hid (HPUT.out k.own w9 H9.out.1.own_lt _ H9.out.2.1)
                  clear HPUT
                  go_wp2_with fail
                  refine HPT.out.mono ?_
                  rintro e w10 ⟨c10, rfl, hx10, hb10⟩
                  have H10 := Lib.hid (And.intro (H9.out.1.below hb10) (And.intro hx10 (And.intro (H9.out.2.2.1.below hb10) (H9.out.2.2.2.below hb10))))
                  obtain ⟨As2, cs2, Ap2, cp2, Af2, cf2, rfl⟩ := hx10.open_
                  clear hx10 hb10 hcx HPT H9
                  have hcx := H10.out.2.2.1.c5
                  go_upto_region 26 with (fail)
                  have hgs := grown_setCells w10 gx 0 [.slice As2 d2.rx.sure.length cs2, .slice Ap2 d2.rx.pend.length cp2, .slice Af2 d2.rx.falls.length cf2, .int .i64 (d2.rx.ch : Nat), .bool d2.rx.down]
                  have H11 : Hid (OpenJ w (w10.setCells gx 0 [.slice As2 d2.rx.sure.length cs2, .slice Ap2 d2.rx.pend.length cp2, .slice Af2 d2.rx.falls.length cf2, .int .i64 (d2.rx.ch : Nat), .bool d2.rx.down]) k gx gh h0 h1 d2 [.slice As2 d2.rx.sure.length cs2, .slice Ap2 d2.rx.pend.length cp2, .slice Af2 d2.rx.falls.length cf2, .int .i64 (d2.rx.ch : Nat), .bool d2.rx.down] (3 + 1)) :=
                    ⟨H10.out.1.other H10.out.2.2.1 nd_rx4 hgs HG.out.2.2, H10.out.2.1.keptG H10.out.2.2.1 hgs, H10.out.2.2.1.setAll _ rfl, H10.out.2.2.2.keptBy hgs HG.out.1, HN2.out.1, HN2.out.2.1, HN2.out.2.2.1, HN2.out.2.2.2⟩
                  clear hgs H10 hcx HN2
                  simp only [World.setCells, Nat.zero_add, Nat.reduceAdd] at H11
                  generalize (((((World.setCell w10 _ _).setCell _ _).setCell _ _).setCell _ _).setCell _ _) = W11 at H11 ⊢
                  have HB12 := Lib.hid (Below.alloc1 W11 (.cells #[.slice As2 d2.rx.sure.length cs2, .slice Ap2 d2.rx.pend.length cp2, .slice Af2 d2.rx.falls.length cf2, .int .i64 (d2.rx.ch : Nat), .bool d2.rx.down] 54))
                  generalize (World.alloc W11 _) = W12 at HB12 ⊢
                  have H12 := Lib.hid (H11.out.below HB12.out)
                  clear H11 HB12
                  go_wp2_with fail
                  go_roundw
                  case rel => exact ⟨3 + 1, by omega, rfl, d2, _, H12⟩
                  case measure => simp [intOf]
                · obtain ⟨B, hB⟩ : ∃ B, B = (u.drop 1024).take 512 := ⟨_, rfl⟩
                  have hcu := cut_cut2 u 1024
                  rw [← hB] at hcu
                  have HB : Hid (B.length = 512) := by show _ = _; rw [hB, List.length_take, List.length_drop]; omega
                  clear hB
                  obtain ⟨cb, Wb, hcvb, hrb, hbb, -, -⟩ := run_str_bytes wr B
                  unfold txt at hcvb
                  have HJb := Lib.hid (HJ.out.below hbb)
                  have hwp := write_calm HJb.out.falls HJb.out.down (i := 4) (by rw [HJb.out.len]; decide) HB.out
                  have hw := HJb.out.dl.write (by decide) (4) _ cb B hrb
                  rw [show (d.write 4 B).2 = 0 from hwp.1] at hw
                  have HPUT := Lib.hid (fun S' W' hS' cc hx => refput_any S' W' hS' d cc hx HJb.out.dl.good (Nat.lt_of_le_of_lt HJb.out.dl.ch (by decide)) (Nat.lt_of_le_of_lt HJb.out.dl.pe (by decide)) (4) B (by rw [HB.out]; decide))
                  rw [show (d.write 4 B).2 = 0 from hwp.1] at HPUT
                  have HN2 : Hid (NowAt (d.write 4 B).1 ∧ (d.write 4 B).1.blocks.length = 5 ∧ (d.write 4 B).1.falls = [] ∧ (d.write 4 B).1.down = false) := ⟨HJb.out.now.write _ _, hwp.2.1.trans HJb.out.len, hwp.2.2.1, hwp.2.2.2⟩
                  generalize (d.write 4 B).1 = d2 at hw HPUT HN2
                  clear HJ hbb hwp
                  go_wp2_with fail
                  refine hw.mono ?_
                  rintro e w9 ⟨rfl, hL9, hK9⟩
                  obtain ⟨As, cs, Ap, cp, Af, cf, rfl⟩ := HJb.out.rx.open_
                  have H9 : Hid (DL w w9 k d2 (4 + 1) ∧ RefX k.own w9 [.slice As d.rx.sure.length cs, .slice Ap d.rx.pend.length cp, .slice Af d.rx.falls.length cf, .int .i64 (d.rx.ch : Nat), .bool d.rx.down] d.rx ∧ Blk w9 gx 54 [.slice As d.rx.sure.length cs, .slice Ap d.rx.pend.length cp, .slice Af d.rx.falls.length cf, .int .i64 (d.rx.ch : Nat), .bool d.rx.down] ∧ Blk w9 gh 62 [.int .u64 (h0.s : Nat), .int .u64 (h0.n : Nat), .int .u8 (h0.o.toNat : Nat), .int .u64 (h1.s : Nat), .int .u64 (h1.n : Nat), .int .u8 (h1.o.toNat : Nat)]) :=
                    ⟨hL9, HJb.out.rx.kept hK9, HJb.out.blk.kept hK9 HG.out.2.1, HJb.out.hd.kept hK9 HNO.out⟩
                  clear hw hL9 hK9 HJb hrb hcvb
                  have hcx := H9.out.2.2.1.c5
                  have HPT := Lib.hid (HPUT.out k.own w9 H9.out.1.own_lt _ H9.out.2.1)
                  clear HPUT
                  go_wp2_with fail
                  refine HPT.out.mono ?_
                  rintro e w10 ⟨c10, rfl, hx10, hb10⟩
                  have H10 := Lib.hid (And.intro (H9.out.1.below hb10) (And.intro hx10 (And.intro (H9.out.2.2.1.below hb10) (H9.out.2.2.2.below hb10))))
                  obtain ⟨As2, cs2, Ap2, cp2, Af2, cf2, rfl⟩ := hx10.open_
                  clear hx10 hb10 hcx HPT H9
                  have hcx := H10.out.2.2.1.c5
                  go_upto_region 26 with (fail)
                  have hgs := grown_setCells w10 gx 0 [.slice As2 d2.rx.sure.length cs2, .slice Ap2 d2.rx.pend.length cp2, .slice Af2 d2.rx.falls.length cf2, .int .i64 (d2.rx.ch : Nat), .bool d2.rx.down]
                  have H11 : Hid (OpenJ w (w10.setCells gx 0 [.slice As2 d2.rx.sure.length cs2, .slice Ap2 d2.rx.pend.length cp2, .slice Af2 d2.rx.falls.length cf2, .int .i64 (d2.rx.ch : Nat), .bool d2.rx.down]) k gx gh h0 h1 d2 [.slice As2 d2.rx.sure.length cs2, .slice Ap2 d2.rx.pend.length cp2, .slice Af2 d2.rx.falls.length cf2, .int .i64 (d2.rx.ch : Nat), .bool d2.rx.down] (4 + 1)) :=
                    ⟨H10.out.1.other H10.out.2.2.1 nd_rx4 hgs HG.out.2.2, H10.out.2.1.keptG H10.out.2.2.1 hgs, H10.out.2.2.1.setAll _ rfl, H10.out.2.2.2.keptBy hgs HG.out.1, HN2.out.1, HN2.out.2.1, HN2.out.2.2.1, HN2.out.2.2.2⟩
                  clear hgs H10 hcx HN2
                  simp only [World.setCells, Nat.zero_add, Nat.reduceAdd] at H11
                  generalize (((((World.setCell w10 _ _).setCell _ _).setCell _ _).setCell _ _).setCell _ _) = W11 at H11 ⊢
                  have HB12 := Lib.hid (Below.alloc1 W11 (.cells #[.slice As2 d2.rx.sure.length cs2, .slice Ap2 d2.rx.pend.length cp2, .slice Af2 d2.rx.falls.length cf2, .int .i64 (d2.rx.ch : Nat), .bool d2.rx.down] 54))
                  generalize (World.alloc W11 _) = W12 at HB12 ⊢
                  have H12 := Lib.hid (H11.out.below HB12.out)
                  clear H11 HB12
                  go_wp2_with fail
                  go_roundw
                  case rel => exact ⟨4 + 1, by omega, rfl, d2, _, H12⟩
                  case measure => simp [intOf]
              · obtain rfl : i = 5 := by omega
                obtain ⟨As, cs, Ap, cp, Af, cf, rfl⟩ := HJ.out.rx.open_
                have hcx := HJ.out.blk.c5
                go_upto_region 30 with (fail)
                generalize hW9 : World.alloc wr (.cells _ _) = W9
                obtain ⟨ba9, hz9, hB9⟩ := fresh1 hW9
                clear hW9
                have H9 : Hid (BotAt w W9 k wr.heap.size none d none _ d.rx ⟨0, 0, 0, [], 0, false⟩ 5) := ⟨HJ.out.dl.below hB9, ba9, (HJ.out.rx.extend (fun i hi => by
                  rcases hi with hi | hi | hi
                  · exact .inl hi
                  · exact .inr (Nat.le_of_eq hi.symm)
                  · cases hi)).below hB9, HJ.out.dl.bel.size, fun h => Nat.lt_irrefl _ (HJ.out.dl.own_lt _ h)⟩
                have HOP := Lib.hid (bopen_any w W9 k wr.heap.size none d none _ ⟨0, 0, 0, [], 0, false⟩ 5 H9.out HJ.out.now (by decide) 5 (by decide) (by decide) (by rw [HJ.out.len]; decide))
                clear ba9 hB9 hz9 hcx HJ H9
                go_wp2_with fail
                refine HOP.out.mono ?_
                rintro e w10 ⟨rfl, l10, hb10, -, -⟩
                have HB10 := Lib.hid hb10
                clear hb10 HOP
                have HLK := Lib.hid (blike_any w w10 k _ _ l10 _ HB10.out)
                go_wp2_with fail
                refine HLK.out.mono ?_
                rintro e w11 ⟨rfl, hb11⟩
                have HB11 := Lib.hid (HB10.out.bel.then hb11)
                clear hb11 HLK HB10
                go_wp2_with fail
                go_ret
                exact ⟨rfl, HB11.out⟩
end Go.Proofs.Ythbanhedjfpmaaa
end

section
/-
  The walk of WalOpens, whatever comes in.
-/
namespace Go.Proofs.Ythbanhedjfpmaaa
set_option linter.unusedSimpArgs false
set_option linter.unusedVariables false
open Go.RowKit Go.Deep Go.WideShapes Go.ChangeShapes

def HD.code (h : HD) : List Value := [.int .u64 (h.s : Nat), .int .u64 (h.n : Nat), .int .u8 (h.o.toNat : Nat)]
def HeadsW (v : Value) : Prop := ∃ h0 h1 : HD, v = .agg (h0.code ++ h1.code).toArray ∧ h0.Fine ∧ h1.Fine
section
variable {H : Type} {enc : TypeId × Value → H} {w : World} {base : Nat} {spare : Nat → Bool} {held : Bool} {fuel : Nat} {cs : List Value} {x : DataW H × List MemPlace}
set_option maxRecDepth 20000 in
theorem open_head (h : DataW.trod enc Try.prog w base spare held fuel 61 cs = some x) (hlen : cs.length = 3) : ∃ f : HD, cs = f.code ∧ f.Fine := by
  obtain ⟨xs, k, rfl, rfl, _, hxl, hfs⟩ := DataW.trod_struct Try.underlying61 h
  match xs, hxl, cs, hlen with
  | [y0, y1, y2], _, [v0, v1, v2], _ =>
    have g0 := hfs 0 _ rfl
    have g1 := hfs 1 _ rfl
    have g2 := hfs 2 _ rfl
    obtain ⟨n0, e0, b0⟩ := open_u64 Try.underlying23 (by simpa using g0)
    obtain ⟨n1, e1, b1⟩ := open_u64 Try.underlying23 (by simpa using g1)
    obtain ⟨n2, e2⟩ := open_u8 Try.underlying5 (by simpa using g2)
    have q4 : Try.prog.cellsOf 23 = 1 := by kernel_rfl
    have q5 : Try.prog.cellsOf 5 = 1 := by kernel_rfl
    have e0' : v0 = .int .u64 (n0 : Int) := by simpa [q4] using e0
    have e1' : v1 = .int .u64 (n1 : Int) := by simpa [q4] using e1
    have e2' : v2 = bv n2 := by simpa [q4, q5] using e2
    subst e0' e1' e2'
    exact ⟨⟨n0, n1, n2⟩, rfl, b0, b1⟩
end
set_option maxRecDepth 20000 in
theorem heads_in {H : Type} {enc : TypeId × Value → H} {w : World} {base : Nat} {v : Value} {d : DataW H} {p : List MemPlace}
    (hv : Value.okWide Try.prog w .any base 62 v) (h : DataW.Trod enc Try.prog w 0 (fun _ => true) true 62 v d p) : HeadsW v := by
  have hag : ∃ cs : Array Value, v = .agg cs := by
    simp only [Value.okWide, Try.underlying62] at hv
    obtain ⟨cs, h1, _⟩ := hv
    exact ⟨cs, h1⟩
  obtain ⟨cs, rfl⟩ := hag
  obtain ⟨fuel, hf⟩ := h
  have h3 : Try.prog.cellsOf 61 = 3 := by kernel_rfl
  have h6 : Try.prog.cellsOf 62 = 6 := by kernel_rfl
  obtain ⟨xs, m, rfl, _, hlen, hxl, hx⟩ := DataW.trod_array Try.underlying62 hf
  rw [h6] at hlen
  have hlen' : cs.toList.length = 6 := by simpa [Value.cells] using hlen
  have e0 := hx 0 (by decide)
  have e1 := hx 1 (by decide)
  rw [h3, List.getElem?_eq_getElem (by omega)] at e0 e1
  simp only [Value.cells, Nat.zero_mul, Nat.one_mul, List.drop_zero] at e0 e1
  obtain ⟨f0, g0, q0⟩ := open_head e0 (by rw [List.length_take, hlen']; rfl)
  obtain ⟨f1, g1, q1⟩ := open_head e1 (by rw [List.length_take, List.length_drop, hlen']; rfl)
  refine ⟨f0, f1, ?_, q0, q1⟩
  rw [← g0, ← g1]
  congr 1
  apply Array.ext'
  have : (cs.toList.drop 3).take 3 = cs.toList.drop 3 := List.take_of_length_le (by rw [List.length_drop, hlen']; exact Nat.le_refl _)
  rw [this]
  simp
set_option maxRecDepth 20000 in
set_option maxHeartbeats 1000000 in
theorem walOpens_long (w : World) (h0 h1 : HD) (A : Option Addr) (c : Nat) (l : List UInt8) (hl : 1500 < l.length) (A' : Option Addr) (c' n : Nat) :
    Calls Try.prog 8 #[.agg #[.int .u64 (h0.s : Nat), .int .u64 (h0.n : Nat), .int .u8 (h0.o.toNat : Nat), .int .u64 (h1.s : Nat), .int .u64 (h1.n : Nat), .int .u8 (h1.o.toNat : Nat)], .slice A l.length c, .slice A' n c'] w (args_ok w) := by
  have hli : (1500 : Int) < (l.length : Int) := by omega
  go_enter Try.func8, Try.ntmps8
  go_upto_region 1 with (fail)
  generalize hW1 : World.alloc w (.cells _ _) = W1
  obtain ⟨ba1, hz1, hB1⟩ := fresh1 hW1
  clear hW1
  have HB0 := Lib.hid hB1
  clear ba1 hB1 hz1
  go_wp2_with fail
  refine (wlives_any W1).mono ?_
  rintro e w1 ⟨rfl, hB⟩
  have HB1 := Lib.hid (HB0.out.then hB)
  clear hB HB0
  go_wp2_with fail
  refine (wlives_any w1).mono ?_
  rintro e w4 ⟨rfl, hB⟩
  have HB4 := Lib.hid (HB1.out.then hB)
  clear hB
  go_wp2_with fail
  go_ret
  exact ⟨rfl, HB4.out⟩
set_option maxRecDepth 20000 in
set_option maxHeartbeats 1000000 in
theorem walOpens_no (w : World) (h0 h1 : HD) (A : Option Addr) (c : Nat) (l : List UInt8) (hl : l.length ≤ 1500) (A' : Option Addr) (c' : Nat) (ps : List Part) (hp : PartsIn w A' c' ps) (h : fitsW 3 [⟨0, A', c', ps, ⟨0, 0, 0⟩⟩] = false) :
    Calls Try.prog 8 #[.agg #[.int .u64 (h0.s : Nat), .int .u64 (h0.n : Nat), .int .u8 (h0.o.toNat : Nat), .int .u64 (h1.s : Nat), .int .u64 (h1.n : Nat), .int .u8 (h1.o.toNat : Nat)], .slice A l.length c, .slice A' ps.length c'] w (args_ok w) := by
  have HP := Lib.hid hp
  have HF := Lib.hid h
  have hli : ¬ (1500 : Int) < (l.length : Int) := by omega
  clear hp h
  go_enter Try.func8, Try.ntmps8
  go_upto_region 1 with (fail)
  generalize hW1 : World.alloc w (.cells _ _) = W1
  obtain ⟨ba1, hz1, hB1⟩ := fresh1 hW1
  clear hW1
  have HB0 := Lib.hid hB1
  clear ba1 hB1 hz1
  go_wp2_with fail
  refine (wlives_any W1).mono ?_
  rintro e w1 ⟨rfl, hB⟩
  have HB1 := Lib.hid (HB0.out.then hB)
  clear hB HB0
  go_wp2_with fail
  have hb2 := Below.alloc1 w1 (.cells #[.int .i64 0, .slice A' ps.length c', .int .i64 0, .int .u64 0, .int .i64 0] eOpW.e)
  have hft := wfits_any _ 3 _ 1 _ (op_lit (w := w1) A' c' ps _ rfl) (by intro o ho; simp at ho; subst ho; exact (HP.out.below HB1.out).below hb2)
  rw [HF.out] at hft
  refine hft.mono ?_
  rintro e w3 ⟨rfl, hB⟩
  have HB3 := Lib.hid ((HB1.out.then hb2).then hB)
  clear hB hft hb2
  go_wp2_with fail
  refine (wlives_any w3).mono ?_
  rintro e w4 ⟨rfl, hB⟩
  have HB4 := Lib.hid (HB3.out.then hB)
  clear hB
  go_wp2_with fail
  go_ret
  exact ⟨rfl, HB4.out⟩
theorem walOpens_walk (w : World) (v : Value) (hv : HeadsW v) (A : Option Addr) (c : Nat) (l : List UInt8) (hr : BRow w A l) (hc : l.length ≤ c) (hm : c ≤ maxLen) (v' : Value) (hv' : PartsW w v') :
    Calls Try.prog 8 #[v, .slice A l.length c, v'] w fun e w' => e = .returned (.bool true) ∧ Below w.heap.size w w' := by
  obtain ⟨h0, h1, rfl, q0, q1⟩ := hv
  obtain ⟨A', c', ps, rfl, hp⟩ := hv'
  by_cases hl : 1500 < l.length
  · exact walOpens_long w h0 h1 A c l hl A' c' ps.length
  · cases h : fitsW 3 [⟨0, A', c', ps, ⟨0, 0, 0⟩⟩] with
    | false => exact walOpens_no w h0 h1 A c l (by omega) A' c' ps hp h
    | true =>
      have h' := h
      unfold fitsW OpW.fit at h'
      simp only [Bool.and_eq_true, decide_eq_true_eq, List.all_cons, List.all_nil, Bool.and_true, List.length_cons, List.length_nil] at h'
      exact walOpens_fit w h0 h1 q0 q1 A c l hr (by omega) hc hm A' c' ps hp h'.2.1 (all_short h'.2.2) h
end Go.Proofs.Ythbanhedjfpmaaa
end

