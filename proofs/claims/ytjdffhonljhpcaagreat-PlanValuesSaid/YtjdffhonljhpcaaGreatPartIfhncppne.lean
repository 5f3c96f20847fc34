/-
  Texts of a proof, one behind the other (each with its own head).
-/
import Derived.Test.YtjdffhonljhpcaaGreatPartHhjhpbell
section
/-
  What comes into the planner's laws; the contracts of the laws' size and small.
-/
namespace Go.Proofs.YtjdffhonljhpcaaGreat
set_option linter.unusedSimpArgs false
set_option linter.unusedVariables false
open Go.RowKit Go.Deep Go.WideShapes Go.ChangeShapes

instance : Inhabited Cs := ⟨Cs.nul⟩
/-- A query as it comes in: of any size. -/
structure QpRaw (w : World) (p : Qp) : Prop where
  t : ERow eInt w p.ta p.x.T
  tin : ∀ n ∈ p.x.T, Ev.inB n
  tl : p.x.T.length ≤ p.tc
  tm : p.tc ≤ maxLen
  b : ERow eInt w p.ba p.x.B
  bin : ∀ n ∈ p.x.B, Ev.inB n
  bl : p.x.B.length ≤ p.bc
  bm : p.bc ≤ maxLen
  win : Ev.inB p.x.W
  wn : ERow eNd w p.wa p.x.wh
  nin : ∀ n ∈ p.x.wh, NodeIn w n
  wl : p.x.wh.length ≤ p.wc
  wm : p.wc ≤ maxLen
  o : ERow eSo w p.oa p.x.ord
  oin : ∀ s ∈ p.x.ord, Ev.inB s.at_
  ol : p.x.ord.length ≤ p.oc
  om : p.oc ≤ maxLen
theorem QpRaw.below {w W : World} {p : Qp} (h : QpRaw w p) (hB : Below w.heap.size w W) : QpRaw W p :=
  ⟨h.t.below hB, h.tin, h.tl, h.tm, h.b.below hB, h.bin, h.bl, h.bm, h.win, h.wn.below hB, fun n hn => nd_below15 (h.nin n hn) hB, h.wl, h.wm, h.o.below hB, h.oin, h.ol, h.om⟩
/-- What is known of a column, as it comes in. -/
def CsRw (w : World) (c : Cs) : Prop := ERow eI64 w c.a c.b ∧ c.b.length ≤ c.c ∧ c.c ≤ maxLen
def SttRaw (w : World) (t : Stt) : Prop := ERow eCs w t.a t.cols ∧ (∀ c ∈ t.cols, CsRw w c) ∧ t.cols.length ≤ t.c ∧ t.c ≤ maxLen
def DfRaw (w : World) (d : Df) : Prop := ERow eInt w d.a d.cols ∧ (∀ c ∈ d.cols, Ev.inB c) ∧ d.cols.length ≤ d.c ∧ d.c ≤ maxLen
theorem SttRaw.below {w W : World} {t : Stt} (h : SttRaw w t) (hB : Below w.heap.size w W) : SttRaw W t := ⟨h.1.below hB, fun c hc => ⟨(h.2.1 c hc).1.below hB, (h.2.1 c hc).2⟩, h.2.2⟩
theorem DfRaw.below {w W : World} {d : Df} (h : DfRaw w d) (hB : Below w.heap.size w W) : DfRaw W d := ⟨h.1.below hB, h.2⟩
def QpW (w : World) (v : Value) : Prop := ∃ p : Qp, v = p.v ∧ QpRaw w p
def SttsW (w : World) (v : Value) : Prop := ∃ A c L, v = .slice A (List.length L) c ∧ ERow eStt w A L ∧ (∀ t ∈ L, SttRaw w t) ∧ L.length ≤ c ∧ c ≤ maxLen
def DfsW (w : World) (v : Value) : Prop := ∃ A c L, v = .slice A (List.length L) c ∧ ERow eDf w A L ∧ (∀ d ∈ L, DfRaw w d) ∧ L.length ≤ c ∧ c ≤ maxLen
section
variable {H : Type} {enc : TypeId × Value → H} {w : World} {base : Nat} {spare : Nat → Bool} {held : Bool} {fuel : Nat} {cs : List Value} {x : DataW H × List MemPlace}
theorem open_i64s17 (h : DataW.trod enc Tryz.prog w base spare held fuel 49 cs = some x) : ∃ A L c, cs = [.slice A (List.length L) c] ∧ ERow eI64 w A L ∧ (∀ n ∈ L, -9223372036854775808 ≤ n ∧ n ≤ 9223372036854775807) ∧ L.length ≤ c ∧ c ≤ maxLen :=
  open_elems eI64 (by kernel_rfl) _ (fun fuel cs x h _ => by
    obtain ⟨n, rfl, h1, h2⟩ := open_i64 Tryz.underlying2 h
    exact ⟨n, rfl, h1, h2⟩) h
set_option maxRecDepth 20000 in
theorem open_cs17 (h : DataW.trod enc Tryz.prog w base spare held fuel 51 cs = some x) (hlen : cs.length = 3) : ∃ c : Cs, cs = eCs.code c ∧ CsRw w c := by
  obtain ⟨xs, k, hk, rfl, _, hxl, hfs⟩ := DataW.trod_struct Tryz.underlying51 h
  match xs, hxl, cs, hlen with
  | [y0, y1, y2], _, [v0, v1, v2], _ =>
    have g0 := hfs 0 _ rfl
    have g1 := hfs 1 _ rfl
    have g2 := hfs 2 _ rfl
    have q0 : Tryz.prog.cellsOf 2 = 1 := by kernel_rfl
    have q1 : Tryz.prog.cellsOf 49 = 1 := by kernel_rfl
    simp [q0, q1] at g0 g1 g2
    obtain ⟨n0, e0, _⟩ := open_i64 Tryz.underlying2 g0
    obtain ⟨n1, e1, _⟩ := open_i64 Tryz.underlying2 g1
    obtain ⟨A, L, c, e2, r2, i2, l2, m2⟩ := open_i64s17 g2
    have e0' : v0 = .int .i64 n0 := by simpa using e0
    have e1' : v1 = .int .i64 n1 := by simpa using e1
    have e2' : v2 = .slice A L.length c := by simpa using e2
    subst e0' e1' e2'
    exact ⟨⟨n0, n1, A, L, c⟩, rfl, r2, l2, m2⟩
set_option maxRecDepth 20000 in
theorem open_stt (h : DataW.trod enc Tryz.prog w base spare held fuel 54 cs = some x) (hlen : cs.length = 2) : ∃ t : Stt, cs = eStt.code t ∧ SttRaw w t := by
  obtain ⟨xs, k, hk, rfl, _, hxl, hfs⟩ := DataW.trod_struct Tryz.underlying54 h
  match xs, hxl, cs, hlen with
  | [y0, y1], _, [v0, v1], _ =>
    have g0 := hfs 0 _ rfl
    have g1 := hfs 1 _ rfl
    have q0 : Tryz.prog.cellsOf 2 = 1 := by kernel_rfl
    have q1 : Tryz.prog.cellsOf 52 = 1 := by kernel_rfl
    simp [q0, q1] at g0 g1
    obtain ⟨n0, e0, _⟩ := open_i64 Tryz.underlying2 g0
    obtain ⟨A, L, c, e1, r1, i1, l1, m1⟩ := open_elems eCs (by kernel_rfl) (CsRw w) (fun fuel cs x h hlen => open_cs17 h hlen) g1
    have e0' : v0 = .int .i64 n0 := by simpa using e0
    have e1' : v1 = .slice A L.length c := by simpa using e1
    subst e0' e1'
    exact ⟨⟨n0, A, L, c⟩, rfl, r1, i1, l1, m1⟩
set_option maxRecDepth 20000 in
theorem open_df (h : DataW.trod enc Tryz.prog w base spare held fuel 40 cs = some x) (hlen : cs.length = 3) : ∃ d : Df, cs = eDf.code d ∧ DfRaw w d := by
  obtain ⟨xs, k, hk, rfl, _, hxl, hfs⟩ := DataW.trod_struct Tryz.underlying40 h
  match xs, hxl, cs, hlen with
  | [y0, y1, y2], _, [v0, v1, v2], _ =>
    have g0 := hfs 0 _ rfl
    have g1 := hfs 1 _ rfl
    have g2 := hfs 2 _ rfl
    have q0 : Tryz.prog.cellsOf 3 = 1 := by kernel_rfl
    have q1 : Tryz.prog.cellsOf 33 = 1 := by kernel_rfl
    have q2 : Tryz.prog.cellsOf 4 = 1 := by kernel_rfl
    simp [q0, q1, q2] at g0 g1 g2
    obtain ⟨n0, e0, _⟩ := open_i64 Tryz.underlying3 g0
    obtain ⟨A, L, c, e1, r1, i1, l1, m1⟩ := open_intlist g1
    obtain ⟨b, e2, _⟩ := DataW.trod_bool Tryz.underlying4 g2
    have e0' : v0 = .int .i64 n0 := by simpa using e0
    have e1' : v1 = .slice A L.length c := by simpa using e1
    have e2' : v2 = .bool b := by simpa using e2
    subst e0' e1' e2'
    exact ⟨⟨n0, A, L, c, b⟩, rfl, r1, i1, l1, m1⟩
set_option maxRecDepth 20000 in
theorem open_qp (h : DataW.trod enc Tryz.prog w base spare held fuel 36 cs = some x) (hlen : cs.length = 9) : ∃ p : Qp, cs = p.cells ∧ QpRaw w p := by
  obtain ⟨xs, k, hk, rfl, _, hxl, hfs⟩ := DataW.trod_struct Tryz.underlying36 h
  match xs, hxl, cs, hlen with
  | [y0, y1, y2, y3, y4, y5, y6, y7, y8], _, [v0, v1, v2, v3, v4, v5, v6, v7, v8], _ =>
    have g0 := hfs 0 _ rfl
    have g1 := hfs 1 _ rfl
    have g2 := hfs 2 _ rfl
    have g3 := hfs 3 _ rfl
    have g4 := hfs 4 _ rfl
    have g5 := hfs 5 _ rfl
    have g6 := hfs 6 _ rfl
    have g7 := hfs 7 _ rfl
    have g8 := hfs 8 _ rfl
    have q0 : Tryz.prog.cellsOf 3 = 1 := by kernel_rfl
    have q1 : Tryz.prog.cellsOf 33 = 1 := by kernel_rfl
    have q2 : Tryz.prog.cellsOf 34 = 1 := by kernel_rfl
    have q3 : Tryz.prog.cellsOf 4 = 1 := by kernel_rfl
    have q4 : Tryz.prog.cellsOf 25 = 1 := by kernel_rfl
    simp [q0, q1, q2, q3, q4] at g0 g1 g2 g3 g4 g5 g6 g7 g8
    obtain ⟨ta, tr, tc, e0, r0, i0, l0, m0⟩ := open_intlist g0
    obtain ⟨ba, br, bc, e1, r1, i1, l1, m1⟩ := open_intlist g1
    obtain ⟨n2, e2, b2⟩ := open_i64 Tryz.underlying3 g2
    obtain ⟨wa, wh, wc, e3, r3, i3, l3, m3⟩ := open_nodes g3
    obtain ⟨ga, gr, gc, e4, r4, i4, l4, m4⟩ := open_intlist g4
    obtain ⟨n5, e5, _⟩ := DataW.trod_bool Tryz.underlying4 g5
    obtain ⟨ia, it, ic, e6, r6, i6, l6, m6⟩ := open_nodes g6
    obtain ⟨oa, od, oc, e7, r7, i7, l7, m7⟩ := open_sorts g7
    obtain ⟨n8, e8, b8⟩ := open_i64 Tryz.underlying3 g8
    have e0' : v0 = .slice ta tr.length tc := by simpa using e0
    have e1' : v1 = .slice ba br.length bc := by simpa using e1
    have e2' : v2 = .int .i64 n2 := by simpa using e2
    have e3' : v3 = .slice wa wh.length wc := by simpa using e3
    have e4' : v4 = .slice ga gr.length gc := by simpa using e4
    have e5' : v5 = .bool n5 := by simpa using e5
    have e6' : v6 = .slice ia it.length ic := by simpa using e6
    have e7' : v7 = .slice oa od.length oc := by simpa using e7
    have e8' : v8 = .int .i64 n8 := by simpa using e8
    subst e0' e1' e2' e3' e4' e5' e6' e7' e8'
    exact ⟨⟨⟨tr, br, n2, wh, n5, od, [], [], []⟩, ta, tc, ba, bc, wa, wc, ga, gr, gc, ia, it, ic, oa, oc, n8⟩, rfl, r0, i0, l0, m0, r1, i1, l1, m1, b2, r3, i3, l3, m3, r7, i7, l7, m7⟩
end
set_option maxRecDepth 20000 in
theorem qp_in {H : Type} {enc : TypeId × Value → H} {w : World} {base : Nat} {v : Value} {d : DataW H} {p : List MemPlace}
    (hv : Value.okWide Tryz.prog w .any base 36 v) (h : DataW.Trod enc Tryz.prog w 0 (fun _ => true) true 36 v d p) : QpW w v := by
  have hag : ∃ cs : Array Value, v = .agg cs := by
    simp only [Value.okWide, Tryz.underlying36] at hv
    obtain ⟨cs, h1, _⟩ := hv
    exact ⟨cs, h1⟩
  obtain ⟨cs, rfl⟩ := hag
  obtain ⟨fuel, hf⟩ := h
  have h9 : Tryz.prog.cellsOf 36 = 9 := by kernel_rfl
  have hlen : cs.toList.length = 9 := by
    obtain ⟨xs, k, hk, -, hcl, hxl, hfs⟩ := DataW.trod_struct Tryz.underlying36 hf
    rw [h9] at hcl
    simpa [Value.cells] using hcl
  obtain ⟨q, e, hq⟩ := open_qp hf hlen
  refine ⟨q, ?_, hq⟩
  show Value.agg cs = .agg q.cells.toArray
  rw [← e]
  rfl
set_option maxRecDepth 20000 in
theorem stts_in {H : Type} {enc : TypeId × Value → H} {w : World} {base : Nat} {v : Value} {d : DataW H} {p : List MemPlace}
    (hv : Value.okWide Tryz.prog w .any base 37 v) (h : DataW.Trod enc Tryz.prog w 0 (fun _ => true) true 37 v d p) : SttsW w v := by
  obtain ⟨a0, len0, cap0, rfl⟩ := okWide_slice Tryz.underlying37 hv
  obtain ⟨fuel, hf⟩ := h
  obtain ⟨A, L, c, h1, h2, h3, h4, h5⟩ := open_elems eStt (by kernel_rfl) (SttRaw w) (fun fuel cs x h hlen => open_stt h hlen) hf
  simp [Value.cells] at h1
  obtain ⟨rfl, rfl, rfl⟩ := h1
  exact ⟨_, _, L, rfl, h2, h3, h4, h5⟩
set_option maxRecDepth 20000 in
theorem dfs_in {H : Type} {enc : TypeId × Value → H} {w : World} {base : Nat} {v : Value} {d : DataW H} {p : List MemPlace}
    (hv : Value.okWide Tryz.prog w .any base 38 v) (h : DataW.Trod enc Tryz.prog w 0 (fun _ => true) true 38 v d p) : DfsW w v := by
  obtain ⟨a0, len0, cap0, rfl⟩ := okWide_slice Tryz.underlying38 hv
  obtain ⟨fuel, hf⟩ := h
  obtain ⟨A, L, c, h1, h2, h3, h4, h5⟩ := open_elems eDf (by kernel_rfl) (DfRaw w) (fun fuel cs x h hlen => open_df h hlen) hf
  simp [Value.cells] at h1
  obtain ⟨rfl, rfl, rfl⟩ := h1
  exact ⟨_, _, L, rfl, h2, h3, h4, h5⟩
/-! ### an index at a place -/
theorem df_info : (Tryz.prog.info? 40).map (·.size) = some 3 := by kernel_rfl
def Df.nul : Df := ⟨0, none, [], 0, false⟩
theorem df_zero (W : World) : (zeroValue 40).run Tryz.prog W = .ok Df.nul.v W := (zero_of_info (P := Tryz.prog) (t := 40) (v := Df.nul.v) (n := 3) (by kernel_rfl)).1 W
section
variable {w : World} {ops : Array Oper} {rest : List Oper} {o : Oper} {a : Act} {Q : Exit → Act → World → Prop}
theorem wpList_alloc_df (hgd : o.guard = none) (hop : o.op = .alloc 40)
    (h : ∀ W, Blk W w.heap.size 40 Df.nul.cells → w.heap.size + 1 ≤ W.heap.size → Below w.heap.size w W → wpList Tryz.prog ops Q rest (a.put o.dst (.pointer (some ⟨w.heap.size, 0, none⟩))) W) : wpList Tryz.prog ops Q (o :: rest) a w :=
  wpList_alloc_z hgd 40 hop (df_zero _) fun W hW => by
    obtain ⟨h1, h2, h3⟩ := fresh1 (a := Df.nul.cells) hW
    exact h W h1 h2 h3
theorem wpList_store_df (hgd : o.guard = none) (hod : o.dst = none) (x y : Operand) (hop : o.op = .store 40 x y) (g : Nat) (hx : a.eval x = .pointer (some ⟨g, 0, none⟩)) (b : Df) (hy : a.eval y = b.v) {T0 : TypeId} {old : Df} (hb : Blk w g T0 old.cells)
    (h : ∀ W, Blk W g T0 b.cells → w.grownBy W (some g) → wpList Tryz.prog ops Q rest a W) : wpList Tryz.prog ops Q (o :: rest) a w :=
  wpList_store_blk hgd hod 40 x y hop g hx b.cells hy hb rfl df_info (eDf.one b) h
theorem wpList_load_df_at (hgd : o.guard = none) (x : Operand) (hop : o.op = .load 40 x) {b off : Nat} {L : List Df} (hr : ERow eDf w (some ⟨b, off, none⟩) L) {j : Nat} (hj : j < L.length) (p : Df) (hp : L[j] = p) (hx : a.eval x = .pointer (some ⟨b, off + j * 3, none⟩))
    (h : wpList Tryz.prog ops Q rest (a.put o.dst p.v) w) : wpList Tryz.prog ops Q (o :: rest) a w := by
  subst hp
  obtain ⟨b', off', e, hb, hrg⟩ := hr.range hj
  cases e
  exact wpList_load_mid hgd 40 x hop b (off + j * 3) hx L[j].cells _ hrg Tryz.underlying40 rfl df_info h
end
/-! ### size and small -/
/-- size answers some number. -/
def SizesTo17 (w : World) (n : Nd) : Prop := ∀ W, Below w.heap.size w W → ∀ m : Int, Calls Tryz.prog 6 #[n.v, .int .i64 m] W (RetNum15 W)
set_option maxRecDepth 20000 in
set_option maxHeartbeats 4000000 in
theorem size17_any (w : World) (n : Nd) (hn : NodeIn w n) : SizesTo17 w n := by
  induction hn with
  | @mk n hr hin hlit hls hk hat hc hm ih =>
  have HR := Lib.hid hr
  have HI := Lib.hid ih
  have hcm : n.args.length ≤ 9223372036854775807 := by unfold maxLen at hm; omega
  clear hr hin hlit hls hk hat hc hm ih
  intro W hB m
  have HB := Lib.hid hB
  clear hB
  go_enter Tryz.func6, Tryz.ntmps6
  go_upto_region 1 with (refine wpList_box_nd rfl (.tmp 0) rfl n rfl ?_; intro W1 hb1 hz1 hB1)
  have HB1 := Lib.hid hB1
  obtain ⟨-, -, -, -, -, -, -, -, -, c9, -⟩ := Blk.c10 hb1
  clear hB1 hb1 hz1
  generalize W.heap.size = g2 at c9 ⊢
  go_wp2_with fail
  clear c9
  go_loopw [5, 11] (fun v5 iv wr => ∃ (r : Int) (i : Nat), v5 = .int .i64 r ∧ i ≤ n.args.length ∧ iv = .int .i64 (i : Int) ∧ Hid (Below W.heap.size W wr)) (fun _ iv _ => n.args.length - (intOf iv).toNat)
  case atStart => exact ⟨_, 0, rfl, Nat.zero_le _, by go_num, HB1.out⟩
  case round =>
    obtain ⟨r, i, rfl, hi, rfl, HJ⟩ := hrel
    by_cases hlt : i < n.args.length
    · have hii : (i : Int) < (n.args.length : Int) := by omega
      obtain ⟨bb, oo, ha, -, -⟩ := HR.out.at_ hlt
      have HIW : Hid (ERow eNd wr (some ⟨bb, oo, none⟩) n.args) := by show ERow _ _ _ _; rw [← ha]; exact HR.out.below (HB.out.then HJ.out)
      rw [ha]
      clear ha
      go_upto_region 5 with (first | (refine wpList_load_nd_at rfl (.tmp 13) rfl HIW.out hlt rfl ?_) | (refine wpList_alloc_nd rfl rfl ?_; intro W6 hb6 hz6 hB6) | (refine wpList_store_nd rfl rfl (.tmp 7) (.tmp 14) rfl wr.heap.size rfl n.args[i] rfl hb6 ?_; intro W7 hb7 hg7))
      have HB7 := Lib.hid (below_of_grown (HJ.out.then hB6) hg7 HJ.out.size (Nat.le_trans HJ.out.size hB6.size))
      clear hb6 hz6 hB6 hg7 HIW
      generalize wr.heap.size = g7 at hb7 ⊢
      by_cases hrm : m < r
      · go_wp2_with fail
        go_ret
        exact ⟨r, rfl, HB7.out⟩
      · go_wp2_with (refine wpList_load_nd rfl (.tmp 7) rfl g7 rfl hb7 ?_)
        refine (HI.out _ (List.getElem_mem hlt) W7 (HB.out.then HB7.out) _).mono ?_
        rintro e W8 ⟨r2, rfl, hB8⟩
        have HB8 := Lib.hid (HB7.out.then hB8)
        clear hB8 hb7
        go_wp2_with fail
        go_roundw
        case rel => exact ⟨_, i + 1, rfl, by omega, by go_num, HB8.out⟩
        case measure => simp [intOf]; omega
    · have hii : ¬ (i : Int) < (n.args.length : Int) := by omega
      go_wp2_with fail
      go_ret
      exact ⟨r, rfl, HJ.out⟩
/-- Small enough to be tried. -/
structure SmallP (x : Pn.PX) (S : List Stt) (D : List Df) : Prop where
  wh : x.wh.length ≤ 10
  ord : x.ord.length ≤ 6
  s : S.length ≤ 6
  d : D.length ≤ 12
  t : x.T.length ≤ 6
  b : x.B.length ≤ 6
  sc : ∀ t ∈ S, t.cols.length ≤ 20 ∧ ∀ c ∈ t.cols, c.b.length ≤ 20
  dc : ∀ d ∈ D, d.cols.length ≤ 6
def RetIf17 (w : World) (P : Prop) (e : Ending) (w' : World) : Prop := ∃ b : Bool, e = .returned (.bool b) ∧ (b = true → P) ∧ Below w.heap.size w w'
set_option maxRecDepth 20000 in
set_option maxHeartbeats 4000000 in
theorem small17_any (w : World) (p : Qp) (hp : QpRaw w p) (sa : Option Addr) (S : List Stt) (sc : Nat) (hS : ERow eStt w sa S) (hSr : ∀ t ∈ S, SttRaw w t) (hSl : S.length ≤ sc) (hSm : sc ≤ maxLen)
    (da : Option Addr) (D : List Df) (dc : Nat) (hD : ERow eDf w da D) (hDr : ∀ d ∈ D, DfRaw w d) (hDl : D.length ≤ dc) (hDm : dc ≤ maxLen) :
    Calls Tryz.prog 10 #[p.v, .slice sa S.length sc, .slice da D.length dc] w (RetIf17 w (SmallP p.x S D)) := by
  have HP := Lib.hid hp
  have HS := Lib.hid hS
  have HSR := Lib.hid hSr
  have HD := Lib.hid hD
  have HDR := Lib.hid hDr
  have l1 : p.x.wh.length ≤ 9223372036854775807 := by have := hp.wl; have := hp.wm; unfold maxLen at this; omega
  have l2 : p.x.ord.length ≤ 9223372036854775807 := by have := hp.ol; have := hp.om; unfold maxLen at this; omega
  have l3 : S.length ≤ 9223372036854775807 := by unfold maxLen at hSm; omega
  have l4 : D.length ≤ 9223372036854775807 := by unfold maxLen at hDm; omega
  have l5 : p.x.T.length ≤ 9223372036854775807 := by have := hp.tl; have := hp.tm; unfold maxLen at this; omega
  have l6 : p.x.B.length ≤ 9223372036854775807 := by have := hp.bl; have := hp.bm; unfold maxLen at this; omega
  clear hp hS hSr hSl hSm hD hDr hDl hDm
  go_enter Tryz.func10, Tryz.ntmps10
  go_upto_region 1 with (refine wpList_box_qp rfl (.tmp 0) rfl p rfl ?_; intro W1 hb1 hz1 hB1)
  obtain ⟨g3, hg3⟩ : ∃ g, w.heap.size = g := ⟨_, rfl⟩
  have HB1 := Lib.hid hB1
  rw [hg3] at hb1 ⊢
  have HQ := Lib.hid hb1
  obtain ⟨c0, c1, -, c3, -, c7⟩ := Blk.qp hb1
  clear hz1 hB1 hb1 hg3
  by_cases k1 : 10 < p.x.wh.length
  · have i1 : (10 : Int) < (p.x.wh.length : Int) := by omega
    go_wp2_with fail
    go_ret
    exact ⟨false, rfl, by simp, HB1.out⟩
  have i1 : ¬ (10 : Int) < (p.x.wh.length : Int) := by omega
  by_cases k2 : 6 < p.x.ord.length
  · have i2 : (6 : Int) < (p.x.ord.length : Int) := by omega
    go_wp2_with fail
    go_ret
    exact ⟨false, rfl, by simp, HB1.out⟩
  have i2 : ¬ (6 : Int) < (p.x.ord.length : Int) := by omega
  by_cases k3 : 6 < S.length
  · have i3 : (6 : Int) < (S.length : Int) := by omega
    go_wp2_with fail
    go_ret
    exact ⟨false, rfl, by simp, HB1.out⟩
  have i3 : ¬ (6 : Int) < (S.length : Int) := by omega
  by_cases k4 : 12 < D.length
  · have i4 : (12 : Int) < (D.length : Int) := by omega
    go_wp2_with fail
    go_ret
    exact ⟨false, rfl, by simp, HB1.out⟩
  have i4 : ¬ (12 : Int) < (D.length : Int) := by omega
  by_cases k5 : 6 < p.x.T.length
  · have i5 : (6 : Int) < (p.x.T.length : Int) := by omega
    go_wp2_with fail
    go_ret
    exact ⟨false, rfl, by simp, HB1.out⟩
  have i5 : ¬ (6 : Int) < (p.x.T.length : Int) := by omega
  by_cases k6 : 6 < p.x.B.length
  · have i6 : (6 : Int) < (p.x.B.length : Int) := by omega
    go_wp2_with fail
    go_ret
    exact ⟨false, rfl, by simp, HB1.out⟩
  have i6 : ¬ (6 : Int) < (p.x.B.length : Int) := by omega
  go_upto_region 3 with fail
  go_wp2_with fail
  clear c0 c1 c3 c7
  go_loopw [50] (fun iv wr => ∃ i : Nat, i ≤ p.x.wh.length ∧ iv = .int .i64 (i : Int) ∧ Hid (Below w.heap.size w wr)) (fun iv _ => p.x.wh.length - (intOf iv).toNat)
  case atStart => exact ⟨0, Nat.zero_le _, by go_num, HB1.out⟩
  case round =>
    obtain ⟨i, hi, rfl, HJ⟩ := hrel
    by_cases hlt : i < p.x.wh.length
    · have hii : (i : Int) < (p.x.wh.length : Int) := by omega
      obtain ⟨bb, oo, ha, -, -⟩ := HP.out.wn.at_ hlt
      have HIW : Hid (ERow eNd wr (some ⟨bb, oo, none⟩) p.x.wh) := by show ERow _ _ _ _; rw [← ha]; exact HP.out.wn.below HJ.out
      have HNI := Lib.hid (HP.out.nin _ (List.getElem_mem hlt))
      rw [ha]
      clear ha
      go_upto_region 6 with (first | (refine wpList_load_nd_at rfl (.tmp 52) rfl HIW.out hlt rfl ?_) | (refine wpList_alloc_nd rfl rfl ?_; intro W6 hb6 hz6 hB6) | (refine wpList_store_nd rfl rfl (.tmp 8) (.tmp 53) rfl wr.heap.size rfl p.x.wh[i] rfl hb6 ?_; intro W7 hb7 hg7))
      have HB7 := Lib.hid (below_of_grown (HJ.out.then hB6) hg7 HJ.out.size (Nat.le_trans HJ.out.size hB6.size))
      clear hb6 hz6 hB6 hg7 HIW
      generalize wr.heap.size = g7 at hb7 ⊢
      generalize p.x.wh[i] = n at hb7 HNI
      go_wp2_with (refine wpList_load_nd rfl (.tmp 8) rfl g7 rfl hb7 ?_)
      refine (show Calls _ _ #[n.v, .int .i64 60] _ _ from size17_any w n HNI.out W7 HB7.out 60).mono ?_
      rintro e W8 ⟨r, rfl, hB8⟩
      have HB8 := Lib.hid (HB7.out.then hB8)
      clear hB8 hb7
      by_cases hr : 60 < r
      · go_wp2_with fail
        go_ret
        exact ⟨false, rfl, by simp, HB8.out⟩
      · go_wp2_with fail
        go_roundw
        case rel => exact ⟨i + 1, by omega, by go_num, HB8.out⟩
        case measure => simp [intOf]; omega
    · have hii : ¬ (i : Int) < (p.x.wh.length : Int) := by omega
      go_upto_region 9 with fail
      go_wp2_with fail
      go_loopw [60] (fun iv wr => ∃ i : Nat, i ≤ S.length ∧ iv = .int .i64 (i : Int) ∧ Hid ((∀ t ∈ S.take i, t.cols.length ≤ 20 ∧ ∀ c ∈ t.cols, c.b.length ≤ 20) ∧ Below w.heap.size w wr)) (fun iv _ => S.length - (intOf iv).toNat)
      case atStart => exact ⟨0, Nat.zero_le _, by go_num, by simp, HJ.out⟩
      case round =>
        obtain ⟨i, hi, rfl, HJ⟩ := hrel
        by_cases hlt : i < S.length
        · have hii : (i : Int) < (S.length : Int) := by omega
          obtain ⟨bb, oo, ha, -, -⟩ := HS.out.at_ hlt
          have HIW : Hid (ERow eStt wr (some ⟨bb, oo, none⟩) S) := by show ERow _ _ _ _; rw [← ha]; exact HS.out.below HJ.out.2
          have HTI := Lib.hid (HSR.out _ (List.getElem_mem hlt))
          have HTK : Hid (S.take (i + 1) = S.take i ++ [S[i]]) := List.take_succ_eq_append_getElem hlt
          rw [ha]
          clear ha
          obtain ⟨t, ht⟩ : ∃ t, S[i] = t := ⟨_, rfl⟩
          have HT := Lib.hid ht
          rw [ht] at HTI HTK
          clear ht
          go_upto_region 12 with (first | (refine wpList_load_stt_at rfl (.tmp 62) rfl HIW.out hlt t HT.out rfl ?_) | (refine wpList_alloc_stt rfl rfl ?_; intro W6 hb6 hz6 hB6) | (refine wpList_store_stt rfl rfl (.tmp 10) (.tmp 63) rfl wr.heap.size rfl t rfl hb6 ?_; intro W7 hb7 hg7))
          have HB7 := Lib.hid (below_of_grown (HJ.out.2.then hB6) hg7 HJ.out.2.size (Nat.le_trans HJ.out.2.size hB6.size))
          clear hb6 hz6 hB6 hg7 HIW
          generalize wr.heap.size = g7 at hb7 ⊢
          have tl : t.cols.length ≤ 9223372036854775807 := by have := HTI.out.2.2; unfold maxLen at this; omega
          obtain ⟨-, t1, -⟩ := Blk.c2 hb7
          by_cases h20 : 20 < t.cols.length
          · have i20 : (20 : Int) < (t.cols.length : Int) := by omega
            go_wp2_with fail
            go_ret
            exact ⟨false, rfl, by simp, HB7.out⟩
          · have i20 : ¬ (20 : Int) < (t.cols.length : Int) := by omega
            go_upto_region 14 with fail
            go_wp2_with fail
            clear t1 hb7
            go_loopw [71] (fun jv wq => ∃ j : Nat, j ≤ t.cols.length ∧ jv = .int .i64 (j : Int) ∧ Hid ((∀ c ∈ t.cols.take j, c.b.length ≤ 20) ∧ Below w.heap.size w wq)) (fun jv _ => t.cols.length - (intOf jv).toNat)
            case atStart => exact ⟨0, Nat.zero_le _, by go_num, by simp, HB7.out⟩
            case round =>
              obtain ⟨j, hj, rfl, HK⟩ := hrel
              by_cases hjt : j < t.cols.length
              · have hji : (j : Int) < (t.cols.length : Int) := by omega
                obtain ⟨b2, o2, ha, -, -⟩ := HTI.out.1.at_ hjt
                have HIC : Hid (ERow eCs wr (some ⟨b2, o2, none⟩) t.cols) := by show ERow _ _ _ _; rw [← ha]; exact HTI.out.1.below HK.out.2
                have HCI := Lib.hid (HTI.out.2.1 _ (List.getElem_mem hjt))
                have HTJ : Hid (t.cols.take (j + 1) = t.cols.take j ++ [t.cols[j]]) := List.take_succ_eq_append_getElem hjt
                rw [ha]
                clear ha
                obtain ⟨c, hc⟩ : ∃ c, t.cols[j] = c := ⟨_, rfl⟩
                have HC := Lib.hid hc
                rw [hc] at HCI HTJ
                clear hc
                go_upto_region 17 with (first | (refine wpList_load_cs_is rfl (.tmp 73) rfl HIC.out hjt c HC.out rfl ?_) | (refine wpList_alloc_cs rfl rfl ?_; intro W6 hb6 hz6 hB6) | (refine wpList_store_cs rfl rfl (.tmp 12) (.tmp 74) rfl wr.heap.size rfl c rfl hb6 ?_; intro W7 hb7 hg7))
                have HB8 := Lib.hid (below_of_grown (HK.out.2.then hB6) hg7 HK.out.2.size (Nat.le_trans HK.out.2.size hB6.size))
                clear hb6 hz6 hB6 hg7 HIC
                generalize wr.heap.size = g8 at hb7 ⊢
                have cl : c.b.length ≤ 9223372036854775807 := by have := HCI.out.2; unfold maxLen at this; omega
                have q2 := hb7.cell 2
                simp only [Cs.cells, List.getElem?_cons_zero, List.getElem?_cons_succ] at q2
                by_cases h2 : 20 < c.b.length
                · have i2 : (20 : Int) < (c.b.length : Int) := by omega
                  go_wp2_with fail
                  go_ret
                  exact ⟨false, rfl, by simp, HB8.out⟩
                · have i2 : ¬ (20 : Int) < (c.b.length : Int) := by omega
                  go_wp2_with fail
                  go_roundw
                  case rel =>
                    refine ⟨j + 1, by omega, by go_num, ?_, HB8.out⟩
                    intro u hu
                    rw [HTJ.out] at hu
                    rcases List.mem_append.1 hu with hu | hu
                    · exact HK.out.1 u hu
                    · rw [List.mem_singleton.1 hu]; omega
                  case measure => simp [intOf]; omega
              · have hji : ¬ (j : Int) < (t.cols.length : Int) := by omega
                have HALL : Hid (∀ c ∈ t.cols, c.b.length ≤ 20) := by
                  have := HK.out.1
                  rw [List.take_of_length_le (by omega)] at this
                  exact this
                go_wp2_with fail
                go_roundw
                case rel =>
                  refine ⟨i + 1, by omega, by go_num, ?_, HK.out.2⟩
                  intro u hu
                  rw [HTK.out] at hu
                  rcases List.mem_append.1 hu with hu | hu
                  · exact HJ.out.1 u hu
                  · rw [List.mem_singleton.1 hu]; exact ⟨by omega, HALL.out⟩
                case measure => simp [intOf]; omega
        · have hii : ¬ (i : Int) < (S.length : Int) := by omega
          have HSS : Hid (∀ t ∈ S, t.cols.length ≤ 20 ∧ ∀ c ∈ t.cols, c.b.length ≤ 20) := by
            have := HJ.out.1
            rw [List.take_of_length_le (by omega)] at this
            exact this
          go_upto_region 21 with fail
          go_wp2_with fail
          go_loopw [83] (fun iv wr => ∃ i : Nat, i ≤ D.length ∧ iv = .int .i64 (i : Int) ∧ Hid ((∀ d ∈ D.take i, d.cols.length ≤ 6) ∧ Below w.heap.size w wr)) (fun iv _ => D.length - (intOf iv).toNat)
          case atStart => exact ⟨0, Nat.zero_le _, by go_num, by simp, HJ.out.2⟩
          case round =>
            obtain ⟨i, hi, rfl, HJ⟩ := hrel
            by_cases hlt : i < D.length
            · have hii : (i : Int) < (D.length : Int) := by omega
              obtain ⟨bb, oo, ha, -, -⟩ := HD.out.at_ hlt
              have HIW : Hid (ERow eDf wr (some ⟨bb, oo, none⟩) D) := by show ERow _ _ _ _; rw [← ha]; exact HD.out.below HJ.out.2
              have HDI := Lib.hid (HDR.out _ (List.getElem_mem hlt))
              have HTK : Hid (D.take (i + 1) = D.take i ++ [D[i]]) := List.take_succ_eq_append_getElem hlt
              rw [ha]
              clear ha
              obtain ⟨d, hd⟩ : ∃ d, D[i] = d := ⟨_, rfl⟩
              have HDD := Lib.hid hd
              rw [hd] at HDI HTK
              clear hd
              go_upto_region 24 with (first | (refine wpList_load_df_at rfl (.tmp 85) rfl HIW.out hlt d HDD.out rfl ?_) | (refine wpList_alloc_df rfl rfl ?_; intro W6 hb6 hz6 hB6) | (refine wpList_store_df rfl rfl (.tmp 14) (.tmp 86) rfl wr.heap.size rfl d rfl hb6 ?_; intro W7 hb7 hg7))
              have HB7 := Lib.hid (below_of_grown (HJ.out.2.then hB6) hg7 HJ.out.2.size (Nat.le_trans HJ.out.2.size hB6.size))
              clear hb6 hz6 hB6 hg7 HIW
              generalize wr.heap.size = g7 at hb7 ⊢
              have dl : d.cols.length ≤ 9223372036854775807 := by have := HDI.out.2.2; unfold maxLen at this; omega
              have t1 := hb7.cell 1
              simp only [Df.cells, List.getElem?_cons_zero, List.getElem?_cons_succ] at t1
              by_cases h6 : 6 < d.cols.length
              · have i6' : (6 : Int) < (d.cols.length : Int) := by omega
                go_wp2_with fail
                go_ret
                exact ⟨false, rfl, by simp, HB7.out⟩
              · have i6' : ¬ (6 : Int) < (d.cols.length : Int) := by omega
                go_wp2_with fail
                go_roundw
                case rel =>
                  refine ⟨i + 1, by omega, by go_num, ?_, HB7.out⟩
                  intro u hu
                  rw [HTK.out] at hu
                  rcases List.mem_append.1 hu with hu | hu
                  · exact HJ.out.1 u hu
                  · rw [List.mem_singleton.1 hu]; omega
                case measure => simp [intOf]; omega
            · have hii : ¬ (i : Int) < (D.length : Int) := by omega
              have HDDD : Hid (∀ d ∈ D, d.cols.length ≤ 6) := by
                have := HJ.out.1
                rw [List.take_of_length_le (by omega)] at this
                exact this
              go_wp2_with fail
              go_ret
              exact ⟨true, rfl, fun _ => ⟨by omega, by omega, by omega, by omega, by omega, by omega, HSS.out, HDDD.out⟩, HJ.out.2⟩
end Go.Proofs.YtjdffhonljhpcaaGreat
end

section
/-
  The contract of the planner's laws' lives.
-/
namespace Go.Proofs.YtjdffhonljhpcaaGreat
set_option linter.unusedSimpArgs false
set_option linter.unusedVariables false
open Go.RowKit

def Qp.nul : Qp := ⟨⟨[], [], 0, [], false, [], [], [], []⟩, none, 0, none, 0, none, 0, none, [], 0, none, [], 0, none, 0, 0⟩
theorem qp_zero (W : World) : (zeroValue 36).run Tryz.prog W = .ok Qp.nul.v W := (zero_of_info (P := Tryz.prog) (t := 36) (v := Qp.nul.v) (n := 9) (by kernel_rfl)).1 W
section
variable {w : World} {ops : Array Oper} {rest : List Oper} {o : Oper} {a : Act} {Q : Exit → Act → World → Prop}
theorem wpList_alloc_qp (hgd : o.guard = none) (hop : o.op = .alloc 36)
    (h : ∀ W, Blk W w.heap.size 36 Qp.nul.cells → w.heap.size + 1 ≤ W.heap.size → Below w.heap.size w W → wpList Tryz.prog ops Q rest (a.put o.dst (.pointer (some ⟨w.heap.size, 0, none⟩))) W) : wpList Tryz.prog ops Q (o :: rest) a w :=
  wpList_alloc_z hgd 36 hop (qp_zero _) fun W hW => by
    obtain ⟨h1, h2, h3⟩ := fresh1 (a := Qp.nul.cells) hW
    exact h W h1 h2 h3
theorem wpList_store_qp (hgd : o.guard = none) (hod : o.dst = none) (x y : Operand) (hop : o.op = .store 36 x y) (g : Nat) (hx : a.eval x = .pointer (some ⟨g, 0, none⟩)) (b : Qp) (hy : a.eval y = b.v) {T0 : TypeId} {old : Qp} (hb : Blk w g T0 old.cells)
    (h : ∀ W, Blk W g T0 b.cells → w.grownBy W (some g) → wpList Tryz.prog ops Q rest a W) : wpList Tryz.prog ops Q (o :: rest) a w :=
  wpList_store_blk hgd hod 36 x y hop g hx b.cells hy hb rfl qp_info (by
    intro u hu
    simp [Qp.cells] at hu
    rcases hu with rfl | rfl | rfl | rfl | rfl | rfl | rfl | rfl | rfl <;> rfl) h
end
namespace L17
def na : Nd := .mk 2 [] Key.nul 0 false 1 none [] 0
def nb : Nd := .mk 1 [] ⟨1, 5, 0, []⟩ 0 false 0 none [] 0
def nn (g : Nat) : Nd := .mk 7 [61] Key.nul 0 false 0 (some ⟨g, 0, none⟩) [na, nb] 2
def ca : Cs := ⟨500, 0, none, [], 0⟩
def px (gn gd : Nat) : Pn.PX := ⟨[0], [0], 2, [nn gn], false, [], [⟨0, some ⟨gd, 0, none⟩, [0], 1, false⟩], [1000, 1000], [ca, Cs.nul]⟩
def qp (x : Pn.PX) (gt gb gw : Nat) : Qp := ⟨x, some ⟨gt, 0, none⟩, 1, some ⟨gb, 0, none⟩, 1, some ⟨gw, 0, none⟩, 1, none, [], 0, none, [], 0, none, 0, -1⟩
def st (g : Nat) : Stt := ⟨1000, some ⟨g, 0, none⟩, [ca, Cs.nul], 2⟩
theorem ok (gn gd : Nat) : Pn.chOk (px gn gd) 1 = true := by kernel_rfl
theorem op (gn gd : Nat) : (Pn.choose (px gn gd)).op = 2 := by kernel_rfl
theorem cost (gn gd : Nat) : (Pn.choose (px gn gd)).cost = 52 := by kernel_rfl
theorem rows (gn gd : Nat) : (Pn.choose (px gn gd)).rows = 2 := by kernel_rfl
theorem eq (gn gd : Nat) : (Pn.choose (px gn gd)).eq.length = 1 := by kernel_rfl
theorem fill (gn gd g : Nat) : Pn.fillT (px gn gd) 0 [st g] ([], []) = ((px gn gd).rows, (px gn gd).cols) := by kernel_rfl
end L17
namespace Pm
theorem e_rows (p : Pm) : p.e.rows = p.rows := by cases p; rfl
theorem e_eql (p : Pm) : p.e.eq = p.eq := by cases p; rfl
end Pm
set_option maxRecDepth 100000 in
set_option maxHeartbeats 8000000 in
theorem plives_any (w : World) : Calls Tryz.prog 5 #[] w fun e w' => e = .returned (.bool true) ∧ Below w.heap.size w w' := by
  go_enter Tryz.func5, Tryz.ntmps5
  go_upto_region 2 with (first | (refine wpList_alloc_nd rfl rfl ?_; intro W1 hb1 hz1 hB1) | (refine wpList_store_nd rfl rfl (.tmp 1) (.tmp 6) rfl w.heap.size rfl L17.na rfl hb1 ?_; intro W2 hb2 hg2))
  have HB2 := Lib.hid (below_of_grown hB1 hg2 (Nat.le_refl _) hB1.size)
  clear hb1 hz1 hB1 hg2
  generalize w.heap.size = g1 at hb2 ⊢
  go_upto_region 3 with (first
    | (generalize hWa : ((World.alloc W2 (.cells _ _)).alloc (.cells _ _)) = W3; obtain ⟨ba3, bb3, hz3, hB3⟩ := fresh2 hWa; clear hWa; refine wpList_load_nd rfl (.tmp 1) rfl g1 rfl (hb2.below hB3) ?_)
    | (generalize hWb : ((World.alloc W3 (.cells _ _)).alloc (.cells _ _)) = W4; obtain ⟨ba4, bb4, hz4, hB4⟩ := fresh2 hWb; clear hWb; refine wpList_alloc_qp rfl rfl ?_; intro W5 hb5 hz5 hB5)
    | (refine wpList_store_qp rfl rfl (.tmp 2) (.tmp 15) rfl _ rfl (L17.qp (L17.px W3.heap.size 0) W2.heap.size (W2.heap.size + 1) (W3.heap.size + 1)) rfl hb5 ?_; intro W6 hb6 hg6))
  have z2 := HB2.out.size
  have HB6 := Lib.hid (below_of_grown (((HB2.out.then hB3).then hB4).then hB5) hg6 (by omega) (by omega))
  have HT6 : Hid (Blk W6 W2.heap.size 3 [.int .i64 0] ∧ Blk W6 (W2.heap.size + 1) 3 [.int .i64 0] ∧ Blk W6 W3.heap.size 27 (L17.na.cells ++ L17.nb.cells) ∧ Blk W6 (W3.heap.size + 1) 27 (L17.nn W3.heap.size).cells) := by
    refine ⟨((ba3.below hB4).below hB5).grown hg6 ?_, ((bb3.below hB4).below hB5).grown hg6 ?_, (ba4.below hB5).grown hg6 ?_, (bb4.below hB5).grown hg6 ?_⟩ <;> (simp only [ne_eq, Option.some.injEq]; omega)
  have HQ6 := Lib.hid hb6
  have hz6 : W2.heap.size < W6.heap.size := by have := hb6.lt; omega
  clear hb2 ba3 bb3 hz3 hB3 ba4 bb4 hz4 hB4 hb5 hz5 hB5 hb6 hg6 z2
  obtain ⟨g4, hg4⟩ : ∃ g, W4.heap.size = g := ⟨_, rfl⟩
  obtain ⟨gt, hgt⟩ : ∃ g, W2.heap.size = g := ⟨_, rfl⟩
  obtain ⟨gn, hgn⟩ : ∃ g, W3.heap.size = g := ⟨_, rfl⟩
  rw [hg4] at HQ6
  rw [hgt, hgn] at HQ6 HT6
  rw [hg4]
  clear hg4 hgt hgn hz6 HB2
  go_upto_region 4 with (first
    | (generalize hWc : (World.alloc W6 (.cells _ _)) = W7; obtain ⟨ba7, hz7, hB7⟩ := fresh1 hWc; clear hWc; refine wpList_alloc_stt rfl rfl ?_; intro W8 hb8 hz8 hB8)
    | (refine wpList_store_stt rfl rfl (.tmp 3) (.tmp 19) rfl _ rfl (L17.st W6.heap.size) rfl hb8 ?_; intro W9 hb9 hg9))
  have z6 := HB6.out.size
  have hB69 : Below W6.heap.size W6 W9 := below_of_grown (hB7.then hB8) hg9 (by omega) (by omega)
  have HB9 := Lib.hid (HB6.out.then hB69)
  have HT9 : Hid (Blk W9 gt 3 [.int .i64 0] ∧ Blk W9 (gt + 1) 3 [.int .i64 0] ∧ Blk W9 gn 27 (L17.na.cells ++ L17.nb.cells) ∧ Blk W9 (gn + 1) 27 (L17.nn gn).cells) :=
    ⟨HT6.out.1.below hB69, HT6.out.2.1.below hB69, HT6.out.2.2.1.below hB69, HT6.out.2.2.2.below hB69⟩
  have HQ9 := Lib.hid (HQ6.out.below hB69)
  have HC9 : Hid (Blk W9 W6.heap.size 51 (L17.ca.cells ++ Cs.nul.cells)) := (ba7.below hB8).grown hg9 (by simp only [ne_eq, Option.some.injEq]; omega)
  have HS9 := Lib.hid hb9
  clear HT6 HQ6 HB6 ba7 hz7 hB7 hb8 hz8 hB8 hg9 z6 hB69 hb9
  obtain ⟨s0, s1, -⟩ := Blk.c2 HS9.out
  obtain ⟨gc, hgc⟩ : ∃ g, W6.heap.size = g := ⟨_, rfl⟩
  obtain ⟨gs, hgs⟩ : ∃ g, W7.heap.size = g := ⟨_, rfl⟩
  rw [hgs] at s0 s1
  rw [hgc] at HC9 s1
  rw [hgs]
  have s1 : W9.cell? ⟨gs, 1, none⟩ = some (.slice (some ⟨gc, 0, none⟩) 2 2) := s1
  have s0 : W9.cell? ⟨gs, 0, none⟩ = some (.int .i64 1000) := s0
  clear hgc hgs HS9
  go_wp2_with (refine wpList_load_qp0 rfl (.tmp 2) rfl g4 rfl HQ9.out ?_)
  generalize hW10 : (((World.alloc W9 (.cells _ _)).alloc (.cells _ _)).alloc (.cells _ _)) = W10
  obtain ⟨ba10, bb10, bc10, hz10, hB10⟩ := fresh3 hW10
  clear hW10
  have HQ : Hid (QpIn W10 (L17.qp (L17.px gn (W9.heap.size + 1)) gt (gt + 1) (gn + 1))) := by
    have hna : NodeIn W10 L17.na := NodeIn.mk ERow.nil (by intro m hm; cases hm) Ev.nul_ok (Nat.zero_le _) ⟨by decide, by decide⟩ ⟨by decide, by decide⟩ (Nat.le_refl _) (Nat.zero_le _)
    have hnb : NodeIn W10 L17.nb := NodeIn.mk ERow.nil (by intro m hm; cases hm) ⟨by decide, by decide, by decide, by decide, by decide⟩ (Nat.zero_le _) ⟨by decide, by decide⟩ ⟨by decide, by decide⟩ (Nat.le_refl _) (Nat.zero_le _)
    have hnn : NodeIn W10 (L17.nn gn) := NodeIn.mk (Blk.row eNd (HT9.out.2.2.1.below hB10) [L17.na, L17.nb] rfl (by simp [maxLen])) (by
      intro m hm
      rcases List.mem_cons.1 hm with rfl | hm
      · exact hna
      · rw [List.mem_singleton.1 hm]; exact hnb) Ev.nul_ok (Nat.zero_le _) (show Ev.inB 7 from ⟨by decide, by decide⟩) (show Ev.inB 0 from ⟨by decide, by decide⟩) (by show 2 ≤ 2; decide) (by show 2 ≤ maxLen; decide)
    exact ⟨Blk.row eInt (HT9.out.1.below hB10) [0] rfl (by simp [maxLen]), (by intro n hn; rw [List.mem_singleton.1 hn]; exact ⟨by decide, by decide⟩), (by show 1 ≤ 1000000; decide),
      Blk.row eInt (HT9.out.2.1.below hB10) [0] rfl (by simp [maxLen]), (by intro n hn; rw [List.mem_singleton.1 hn]; exact ⟨by decide, by decide⟩), (by show 1 ≤ 1000000; decide), (show Ev.inB 2 from ⟨by decide, by decide⟩),
      Blk.row eNd (HT9.out.2.2.2.below hB10) [L17.nn gn] rfl (by simp [maxLen]), (by intro n hn; rw [List.mem_singleton.1 hn]; exact hnn), (by show 1 ≤ 1000000; decide), ERow.nil, (by intro n hn; cases hn), Nat.zero_le _⟩
  have HS : Hid (SttsIn W10 (some ⟨W9.heap.size, 0, none⟩) [L17.st gc]) :=
    ⟨Blk.row eStt ba10 [L17.st gc] rfl (by simp [maxLen]), (by
      intro t ht
      rw [List.mem_singleton.1 ht]
      refine ⟨Blk.row eCs (HC9.out.below hB10) [L17.ca, Cs.nul] rfl (by simp [maxLen]), ?_, (by show 2 ≤ 100; decide), ?_⟩
      · intro x hx
        rcases List.mem_cons.1 hx with rfl | hx
        · exact ERow.nil
        · rw [List.mem_singleton.1 hx]; exact ERow.nil
      · intro x hx
        rcases List.mem_cons.1 hx with rfl | hx
        · exact Nat.zero_le _
        · rw [List.mem_singleton.1 hx]; exact Nat.zero_le _), (by show 1 ≤ 1000; decide)⟩
  have HD : Hid (DfsIn W10 (some ⟨W9.heap.size + 1 + 1, 0, none⟩) [⟨0, some ⟨W9.heap.size + 1, 0, none⟩, [0], 1, false⟩]) :=
    ⟨Blk.row eDf bc10 [⟨0, some ⟨W9.heap.size + 1, 0, none⟩, [0], 1, false⟩] rfl (by simp [maxLen]), (by intro d hd; rw [List.mem_singleton.1 hd]; exact Blk.row eInt bb10 [0] rfl (by simp [maxLen])), (by intro d hd; rw [List.mem_singleton.1 hd]; show 1 ≤ 1000; decide),
      (by intro d hd c hc; rw [List.mem_singleton.1 hd] at hc; rw [List.mem_singleton.1 hc]; exact ⟨by decide, by decide⟩), (by intro d hd; rw [List.mem_singleton.1 hd]; exact ⟨Nat.le_refl 1, by show 1 ≤ maxLen; decide⟩), (by show 1 ≤ 1000; decide)⟩
  have HB10 := Lib.hid (HB9.out.then hB10)
  have HC := Lib.hid (plchoose_any W10 _ HQ.out (by show 1 ≤ 1000; decide) _ [L17.st gc] 1 HS.out _ 1 HD.out (L17.fill _ _ _))
  clear ba10 bb10 bc10 hz10 hB10 HT9 HQ9 HC9 HB9 s0 s1 HQ HS HD
  refine (show Calls _ _ _ _ _ from HC.out).mono ?_
  rintro e W11 ⟨m, er, rfl, hB, -, hc⟩
  obtain ⟨rfl, he⟩ : er = 0 ∧ m.e = Pn.choose (L17.px gn (W9.heap.size + 1)) := by
    rcases hc with ⟨-, h1, h2⟩ | ⟨h1, -⟩
    · exact ⟨h1, h2⟩
    · exact absurd (h1.symm.trans (L17.ok _ _)) (by decide)
  have HOP : Hid (m.op = 2 ∧ m.cost = 52 ∧ m.rows = 2 ∧ m.eq.length = 1) := by
    refine ⟨?_, ?_, ?_, ?_⟩
    · rw [← Pm.e_op, he]; exact L17.op _ _
    · rw [← Pm.e_cost, he]; exact L17.cost _ _
    · rw [← Pm.e_rows, he]; exact L17.rows _ _
    · rw [← Pm.e_eql, he]; exact L17.eq _ _
  have HB11 := Lib.hid (HB10.out.then hB)
  clear hB hc he HC HB10
  go_upto_region 5 with (first | (refine wpList_alloc_pm rfl rfl ?_; intro W12 hb12 hz12 hB12) | (refine wpList_store_pm rfl rfl (.tmp 4) (.tmp 28) rfl _ rfl m rfl hb12 ?_; intro W13 hb13 hg13))
  have z11 := HB11.out.size
  have HB13 := Lib.hid (below_of_grown (HB11.out.then hB12) hg13 (by omega) (by omega))
  obtain ⟨p0, -, -, p3, -, -, p6, p7, -⟩ := Blk.pm hb13
  rw [HOP.out.1] at p0
  rw [HOP.out.2.1] at p6
  rw [HOP.out.2.2.1] at p7
  rw [HOP.out.2.2.2] at p3
  clear hb12 hz12 hB12 hb13 hg13 z11 HB11
  generalize W11.heap.size = gp at p0 p3 p6 p7 ⊢
  go_wp2_with fail
  go_ret
  exact ⟨rfl, HB13.out⟩
end Go.Proofs.YtjdffhonljhpcaaGreat
end

section
/-
  The contracts of both Value, and of Same at a node and itself.
-/
namespace Go.Proofs.YtjdffhonljhpcaaGreat
set_option linter.unusedSimpArgs false
set_option linter.unusedVariables false
open Go.RowKit

namespace Pn
/-- Is a node the column at a place? -/
def isCol (n : Nd) (at_ : Int) : Bool := n.k == 2 && n.at_ == at_
/-- What a part of Where holds a column against. -/
def valN (n : Nd) (at_ : Int) : Nd := match n.args with
  | [y, z] => if isCol y at_ = true ∧ isCol z at_ = false then z else y
  | _ => Nd.nil
end Pn
theorem NodeIn.kids {w : World} {n : Nd} (h : NodeIn w n) : ∀ m ∈ n.args, NodeIn w m := by cases h with | mk h1 h2 => exact h2
theorem NodeIn.row {w : World} {n : Nd} (h : NodeIn w n) : ERow eNd w n.a n.args := by cases h with | mk h1 => exact h1
theorem NodeIn.nil (w : World) : NodeIn w Nd.nil := NodeIn.mk ERow.nil (by intro m hm; cases hm) Ev.nul_ok (Nat.zero_le _) (show Ev.inB 0 from ⟨by decide, by decide⟩) (show Ev.inB 0 from ⟨by decide, by decide⟩) (Nat.le_refl _) (Nat.zero_le _)
theorem valN_in {w : World} {n : Nd} (h : NodeIn w n) (at_ : Int) : NodeIn w (Pn.valN n at_) := by
  unfold Pn.valN
  split
  · next y z e =>
    have hk := h.kids
    rw [e] at hk
    split
    · exact hk z (by simp)
    · exact hk y (by simp)
  · exact NodeIn.nil w
theorem ret_nd17 {fn : Func} {R : Ending → World → Prop} {a : Act} {w : World} {p : Tmp} {g : Nat} {T0 : TypeId} {b : Nd} (hb : Blk w g T0 b.cells) (h : fn.results = #[.cell p 27]) (hd : a.defers = [])
    (hp : a.tmps.getD p undef = .pointer (some ⟨g, 0, none⟩)) (hR : R (.returned b.v) w) : bodyPost Tryz.prog fn R .ret a w :=
  ret_mem1 h hd hp (run_loadVar_mid w g 0 27 b.cells _ (hb.range 0 b.cells fun j _ => by rw [Nat.zero_add]) Tryz.underlying27 rfl nd_info) hR
/-- The cells of a node in a row. -/
theorem nd_cells {w : World} {b o : Nat} {L : List Nd} (h : ERow eNd w (some ⟨b, o, none⟩) L) {j : Nat} (hj : j < L.length) (n : Nd) (hn : L[j] = n) :
    w.cell? ⟨b, o + j * 10, none⟩ = some (.int .i64 n.k) ∧ w.cell? ⟨b, o + j * 10 + 1, none⟩ = some (txt n.op) ∧ w.cell? ⟨b, o + j * 10 + 2, none⟩ = some (.int .i64 n.lit.k) ∧ w.cell? ⟨b, o + j * 10 + 3, none⟩ = some (.int .i64 n.lit.n) ∧ w.cell? ⟨b, o + j * 10 + 4, none⟩ = some (.float .f64 n.lit.f) ∧
    w.cell? ⟨b, o + j * 10 + 5, none⟩ = some (txt n.lit.s) ∧ w.cell? ⟨b, o + j * 10 + 6, none⟩ = some (.int .i64 n.at_) ∧ w.cell? ⟨b, o + j * 10 + 7, none⟩ = some (.bool n.no) ∧ w.cell? ⟨b, o + j * 10 + 8, none⟩ = some (.int .i64 n.ty) ∧ w.cell? ⟨b, o + j * 10 + 9, none⟩ = some (.slice n.a n.args.length n.c) := by
  subst hn
  obtain ⟨b', o', e, -, hc⟩ := h.at_ hj
  cases e
  exact ⟨hc 0 _ rfl, hc 1 _ rfl, hc 2 _ rfl, hc 3 _ rfl, hc 4 _ rfl, hc 5 _ rfl, hc 6 _ rfl, hc 7 _ rfl, hc 8 _ rfl, hc 9 _ rfl⟩
def RetNd (w : World) (n : Nd) (e : Ending) (w' : World) : Prop := e = .returned n.v ∧ Below w.heap.size w w'
set_option maxRecDepth 20000 in
set_option maxHeartbeats 4000000 in
theorem plis_any (w : World) (n : Nd) (at_ : Int) : Calls Tryz.prog 15 #[n.v, .int .i64 at_] w (RetBo w (Pn.isCol n at_)) := by
  go_enter Tryz.func15, Tryz.ntmps15
  go_upto_region 1 with (refine wpList_box_nd rfl (.tmp 0) rfl n rfl ?_; intro W1 hb1 hz1 hB1)
  obtain ⟨c0, -, -, -, -, -, c6, -⟩ := Blk.c10 hb1
  have HB1 := Lib.hid hB1
  clear hb1 hz1 hB1
  generalize w.heap.size = g at c0 c6 ⊢
  by_cases h1 : n.k = 2
  · by_cases h2 : n.at_ = at_
    · have HV : Hid (Pn.isCol n at_ = true) := by show _ = _; unfold Pn.isCol; simp [h1, h2]
      go_wp2_with fail
      go_ret
      exact ⟨by rw [HV.out]; simp [h1, h2], HB1.out⟩
    · have HV : Hid (Pn.isCol n at_ = false) := by show _ = _; unfold Pn.isCol; simp [h1, h2]
      go_wp2_with fail
      go_ret
      exact ⟨by rw [HV.out]; simp [h1, h2], HB1.out⟩
  · have HV : Hid (Pn.isCol n at_ = false) := by show _ = _; unfold Pn.isCol; simp [h1]
    go_wp2_with fail
    go_ret
    exact ⟨by rw [HV.out]; simp [h1], HB1.out⟩
set_option maxRecDepth 20000 in
set_option maxHeartbeats 4000000 in
theorem pvalue_any (w : World) (n : Nd) (hn : NodeIn w n) (at_ : Int) : Calls Tryz.prog 8 #[n.v, .int .i64 at_] w (RetNd w (Pn.valN n at_)) := by
  have HN := Lib.hid hn
  have hcm : n.args.length ≤ 9223372036854775807 := by cases hn with | mk _ _ _ _ _ _ h1 h2 => unfold maxLen at h2; omega
  clear hn
  go_enter Tryz.func8, Tryz.ntmps8
  go_upto_region 1 with (first | (refine wpList_box_nd rfl (.tmp 0) rfl n rfl ?_; intro W1 hb1 hz1 hB1) | (refine wpList_alloc_nd rfl rfl ?_; intro W2 hb2 hz2 hB2))
  have HB1 := Lib.hid hB1
  have h12 := hb1.below hB2
  obtain ⟨-, -, -, -, -, -, -, -, -, c9, -⟩ := Blk.c10 h12
  have hg12 : w.heap.size < W1.heap.size := by omega
  clear hb1 hB1 h12
  obtain ⟨g2, hg2⟩ : ∃ g, w.heap.size = g := ⟨_, rfl⟩
  obtain ⟨g4, hg4⟩ : ∃ g, W1.heap.size = g := ⟨_, rfl⟩
  rw [hg2] at c9
  rw [hg4] at hb2
  rw [hg2, hg4]
  by_cases hlen : n.args.length = 2
  · have hli : (n.args.length : Int) = 2 := by omega
    obtain ⟨y, z, hyz⟩ : ∃ y z, n.args = [y, z] := by
      cases h : n.args with
      | nil => rw [h] at hlen; cases hlen
      | cons y l => cases l with
        | nil => rw [h] at hlen; cases hlen
        | cons z l => cases l with
          | nil => exact ⟨y, z, rfl⟩
          | cons x l => rw [h] at hlen; simp at hlen
    have HRW : Hid (ERow eNd W2 n.a [y, z]) := by show ERow _ _ _ _; rw [← hyz]; exact HN.out.row.below (HB1.out.then hB2)
    have HY : Hid (Pn.valN n at_ = if Pn.isCol y at_ = true ∧ Pn.isCol z at_ = false then z else y) := by show _ = _; unfold Pn.valN; rw [hyz]
    obtain ⟨bb, oo, ha, -, -⟩ := HRW.out.at_ (j := 0) (by simp)
    have HR2 : Hid (ERow eNd W2 (some ⟨bb, oo, none⟩) [y, z]) := by show ERow _ _ _ _; rw [← ha]; exact HRW.out
    rw [ha] at c9
    obtain ⟨y0, -, -, -, -, -, y6, -⟩ := nd_cells HR2.out (j := 0) (by simp) y rfl
    obtain ⟨z0, -, -, -, -, -, z6, -⟩ := nd_cells HR2.out (j := 1) (by simp) z rfl
    rw [Nat.zero_mul, Nat.add_zero] at y0 y6
    rw [Nat.one_mul] at z0 z6
    rw [hlen] at c9
    clear hlen hli hcm HRW ha hyz
    have hl1 : 1 < [y, z].length := by simp
    have hl0 : 0 < [y, z].length := by simp
    obtain ⟨b1, k1⟩ : ∃ b, (y.k == 2) = b := ⟨_, rfl⟩
    obtain ⟨b2, k2⟩ : ∃ b, (y.at_ == at_) = b := ⟨_, rfl⟩
    obtain ⟨b3, k3⟩ : ∃ b, (z.k == 2) = b := ⟨_, rfl⟩
    obtain ⟨b4, k4⟩ : ∃ b, (z.at_ == at_) = b := ⟨_, rfl⟩
    cases b1 with
    | false =>
      have HNV : Hid (Pn.valN n at_ = y) := by show _ = _; rw [HY.out]; simp [Pn.isCol, k1]
      go_upto_region 5 with fail
      go_wp2_with (first | (refine wpList_load_nd_is (j := 0) rfl (.tmp 49) rfl HR2.out hl0 y rfl rfl ?_) | (refine wpList_store_nd rfl rfl (.tmp 4) (.tmp 50) rfl g4 rfl y rfl hb2 ?_; intro W3 hb3 hg3))
      refine ret_nd17 hb3 rfl rfl rfl ⟨?_, below_of_grown (HB1.out.then hB2) hg3 (by have := HB1.out.size; omega) (by have := HB1.out.size; have := hB2.size; omega)⟩
      rw [HNV.out]
    | true =>
      cases b2 with
      | false =>
        have HNV : Hid (Pn.valN n at_ = y) := by show _ = _; rw [HY.out]; simp [Pn.isCol, k1, k2]
        go_upto_region 5 with fail
        go_wp2_with (first | (refine wpList_load_nd_is (j := 0) rfl (.tmp 49) rfl HR2.out hl0 y rfl rfl ?_) | (refine wpList_store_nd rfl rfl (.tmp 4) (.tmp 50) rfl g4 rfl y rfl hb2 ?_; intro W3 hb3 hg3))
        refine ret_nd17 hb3 rfl rfl rfl ⟨?_, below_of_grown (HB1.out.then hB2) hg3 (by have := HB1.out.size; omega) (by have := HB1.out.size; have := hB2.size; omega)⟩
        rw [HNV.out]
      | true =>
        cases b3 with
        | false =>
          have HNV : Hid (Pn.valN n at_ = z) := by show _ = _; rw [HY.out]; simp [Pn.isCol, k1, k2, k3]
          go_upto_region 4 with fail
          go_wp2_with (first | (refine wpList_load_nd_is (j := 1) rfl (.tmp 45) rfl HR2.out hl1 z rfl rfl ?_) | (refine wpList_store_nd rfl rfl (.tmp 4) (.tmp 46) rfl g4 rfl z rfl hb2 ?_; intro W3 hb3 hg3))
          refine ret_nd17 hb3 rfl rfl rfl ⟨?_, below_of_grown (HB1.out.then hB2) hg3 (by have := HB1.out.size; omega) (by have := HB1.out.size; have := hB2.size; omega)⟩
          rw [HNV.out]
        | true =>
          cases b4 with
          | false =>
            have HNV : Hid (Pn.valN n at_ = z) := by show _ = _; rw [HY.out]; simp [Pn.isCol, k1, k2, k3, k4]
            go_upto_region 4 with fail
            go_wp2_with (first | (refine wpList_load_nd_is (j := 1) rfl (.tmp 45) rfl HR2.out hl1 z rfl rfl ?_) | (refine wpList_store_nd rfl rfl (.tmp 4) (.tmp 46) rfl g4 rfl z rfl hb2 ?_; intro W3 hb3 hg3))
            refine ret_nd17 hb3 rfl rfl rfl ⟨?_, below_of_grown (HB1.out.then hB2) hg3 (by have := HB1.out.size; omega) (by have := HB1.out.size; have := hB2.size; omega)⟩
            rw [HNV.out]
          | true =>
            have HNV : Hid (Pn.valN n at_ = y) := by show _ = _; rw [HY.out]; simp [Pn.isCol, k1, k2, k3, k4]
            go_upto_region 5 with fail
            go_wp2_with (first | (refine wpList_load_nd_is (j := 0) rfl (.tmp 49) rfl HR2.out hl0 y rfl rfl ?_) | (refine wpList_store_nd rfl rfl (.tmp 4) (.tmp 50) rfl g4 rfl y rfl hb2 ?_; intro W3 hb3 hg3))
            refine ret_nd17 hb3 rfl rfl rfl ⟨?_, below_of_grown (HB1.out.then hB2) hg3 (by have := HB1.out.size; omega) (by have := HB1.out.size; have := hB2.size; omega)⟩
            rw [HNV.out]
  · have hli : ¬ (n.args.length : Int) = 2 := by omega
    have HNV : Hid (Pn.valN n at_ = Nd.nil) := by
      show _ = _
      unfold Pn.valN
      split
      · next y z e => rw [e] at hlen; exact absurd rfl hlen
      · rfl
    go_wp2_with (refine wpList_store_nd rfl rfl (.tmp 4) (.tmp 9) rfl g4 rfl Nd.nil rfl hb2 ?_; intro W3 hb3 hg3)
    refine ret_nd17 hb3 rfl rfl rfl ⟨?_, below_of_grown (HB1.out.then hB2) hg3 (by have := HB1.out.size; omega) (by have := HB1.out.size; have := hB2.size; omega)⟩
    rw [HNV.out]
set_option maxRecDepth 20000 in
set_option maxHeartbeats 4000000 in
theorem rvalue_any (w : World) (n : Nd) (hn : NodeIn w n) (at_ : Int) : Calls Tryz.prog 9 #[n.v, .int .i64 at_] w (RetNd w (Pn.valN n at_)) := by
  have HN := Lib.hid hn
  have hcm : n.args.length ≤ 9223372036854775807 := by cases hn with | mk _ _ _ _ _ _ h1 h2 => unfold maxLen at h2; omega
  clear hn
  go_enter Tryz.func9, Tryz.ntmps9
  go_upto_region 1 with (first | (refine wpList_box_nd rfl (.tmp 0) rfl n rfl ?_; intro W1 hb1 hz1 hB1) | (refine wpList_alloc_nd rfl rfl ?_; intro W2 hb2 hz2 hB2))
  have HB1 := Lib.hid hB1
  have h12 := hb1.below hB2
  have hg12 : w.heap.size < W1.heap.size := by omega
  clear hb1 hB1
  obtain ⟨g2, hg2⟩ : ∃ g, w.heap.size = g := ⟨_, rfl⟩
  obtain ⟨g4, hg4⟩ : ∃ g, W1.heap.size = g := ⟨_, rfl⟩
  rw [hg2] at h12
  rw [hg4] at hb2
  rw [hg2, hg4]
  obtain ⟨-, -, -, -, -, -, -, -, -, c9, -⟩ := Blk.c10 h12
  by_cases hlen : n.args.length = 2
  · have hli : (n.args.length : Int) = 2 := by omega
    obtain ⟨y, z, hyz⟩ : ∃ y z, n.args = [y, z] := by
      cases h : n.args with
      | nil => rw [h] at hlen; cases hlen
      | cons y l => cases l with
        | nil => rw [h] at hlen; cases hlen
        | cons z l => cases l with
          | nil => exact ⟨y, z, rfl⟩
          | cons x l => rw [h] at hlen; simp at hlen
    have HRW : Hid (ERow eNd W2 n.a [y, z]) := by show ERow _ _ _ _; rw [← hyz]; exact HN.out.row.below (HB1.out.then hB2)
    have HY : Hid (Pn.valN n at_ = if Pn.isCol y at_ = true ∧ Pn.isCol z at_ = false then z else y) := by show _ = _; unfold Pn.valN; rw [hyz]
    obtain ⟨bb, oo, ha, -, -⟩ := HRW.out.at_ (j := 0) (by simp)
    have HR2 : Hid (ERow eNd W2 (some ⟨bb, oo, none⟩) [y, z]) := by show ERow _ _ _ _; rw [← ha]; exact HRW.out
    have HLN := Lib.hid hlen
    have HA := Lib.hid ha
    rw [ha, hlen] at c9
    clear hlen hli hcm HRW ha hyz
    have hl1 : 1 < [y, z].length := by simp
    have hl0 : 0 < [y, z].length := by simp
    have HB12 := Lib.hid (HB1.out.then hB2)
    have HZ12 : Hid (w.heap.size ≤ g4 ∧ w.heap.size ≤ W2.heap.size) := by show _ ∧ _; have := HB1.out.size; have := hB2.size; omega
    clear hB2 hz1 hz2 HB1 hg12 hg2 hg4
    go_wp2_with (refine wpList_load_nd_is (j := 0) rfl (.tmp 12) rfl HR2.out hl0 y rfl rfl ?_)
    refine (plis_any W2 y at_).mono ?_
    rintro e W3 ⟨rfl, hB3⟩
    have hb23 := hb2.below hB3
    have h13 := h12.below hB3
    have HR3 := Lib.hid (HR2.out.below hB3)
    have HB3 := Lib.hid (HB12.out.then hB3)
    have HZ3 : Hid (w.heap.size ≤ g4 ∧ w.heap.size ≤ W3.heap.size) := by show _ ∧ _; have := HZ12.out; have := hB3.size; omega
    obtain ⟨by_, hby⟩ : ∃ k, Pn.isCol y at_ = k := ⟨_, rfl⟩
    have HBY := Lib.hid hby
    rw [hby]
    clear hb2 h12 HR2 HB12 HZ12 hB3 hby c9
    obtain ⟨-, -, -, -, -, -, -, -, -, c9, -⟩ := Blk.c10 h13
    rw [HA.out, HLN.out] at c9
    cases by_ with
    | false =>
      have HNV : Hid (Pn.valN n at_ = y) := by show _ = _; rw [HY.out, HBY.out]; simp
      go_wp2_with (first | (refine wpList_load_nd_is (j := 0) rfl (.tmp 31) rfl HR3.out hl0 y rfl rfl ?_) | (refine wpList_store_nd rfl rfl (.tmp 4) (.tmp 32) rfl g4 rfl y rfl hb23 ?_; intro W5 hb5 hg5))
      exact ret_nd17 hb5 rfl rfl rfl ⟨by rw [HNV.out], below_of_grown HB3.out hg5 HZ3.out.1 HZ3.out.2⟩
    | true =>
      obtain ⟨z0, z1, z2, z3, z4, z5, z6, z7, z8, z9⟩ := nd_cells HR3.out (j := 1) (by simp) z rfl
      rw [Nat.one_mul] at z0 z1 z2 z3 z4 z5 z6 z7 z8 z9
      go_wp2_with fail
      refine (show Calls _ _ #[z.v, _] _ _ from plis_any W3 z at_).mono ?_
      rintro e W4 ⟨rfl, hB4⟩
      have hb24 := hb23.below hB4
      have h14 := h13.below hB4
      have HR4 := Lib.hid (HR3.out.below hB4)
      have HB4 := Lib.hid (HB3.out.then hB4)
      have HZ4 : Hid (w.heap.size ≤ g4 ∧ w.heap.size ≤ W4.heap.size) := by show _ ∧ _; have := HZ3.out; have := hB4.size; omega
      obtain ⟨bz, hbz⟩ : ∃ k, Pn.isCol z at_ = k := ⟨_, rfl⟩
      have HBZ := Lib.hid hbz
      rw [hbz]
      clear hb23 h13 HR3 HB3 HZ3 hB4 hbz c9 z0 z1 z2 z3 z4 z5 z6 z7 z8 z9
      obtain ⟨-, -, -, -, -, -, -, -, -, c9, -⟩ := Blk.c10 h14
      rw [HA.out, HLN.out] at c9
      cases bz with
      | false =>
        have HNV : Hid (Pn.valN n at_ = z) := by show _ = _; rw [HY.out, HBY.out, HBZ.out]; simp
        go_wp2_with (first | (refine wpList_load_nd_is (j := 1) rfl (.tmp 27) rfl HR4.out hl1 z rfl rfl ?_) | (refine wpList_store_nd rfl rfl (.tmp 4) (.tmp 28) rfl g4 rfl z rfl hb24 ?_; intro W5 hb5 hg5))
        exact ret_nd17 hb5 rfl rfl rfl ⟨by rw [HNV.out], below_of_grown HB4.out hg5 HZ4.out.1 HZ4.out.2⟩
      | true =>
        have HNV : Hid (Pn.valN n at_ = y) := by show _ = _; rw [HY.out, HBY.out, HBZ.out]; simp
        go_wp2_with (first | (refine wpList_load_nd_is (j := 0) rfl (.tmp 31) rfl HR4.out hl0 y rfl rfl ?_) | (refine wpList_store_nd rfl rfl (.tmp 4) (.tmp 32) rfl g4 rfl y rfl hb24 ?_; intro W5 hb5 hg5))
        exact ret_nd17 hb5 rfl rfl rfl ⟨by rw [HNV.out], below_of_grown HB4.out hg5 HZ4.out.1 HZ4.out.2⟩
  · have hli : ¬ (n.args.length : Int) = 2 := by omega
    have HNV : Hid (Pn.valN n at_ = Nd.nil) := by
      show _ = _
      unfold Pn.valN
      split
      · next y z e => rw [e] at hlen; exact absurd rfl hlen
      · rfl
    go_wp2_with (refine wpList_store_nd rfl rfl (.tmp 4) (.tmp 9) rfl g4 rfl Nd.nil rfl hb2 ?_; intro W3 hb3 hg3)
    refine ret_nd17 hb3 rfl rfl rfl ⟨?_, below_of_grown (HB1.out.then hB2) hg3 (by have := HB1.out.size; omega) (by have := HB1.out.size; have := hB2.size; omega)⟩
    rw [HNV.out]
/-- A node is the same as itself. -/
def SelfTo (w : World) (n : Nd) : Prop := ∀ W, Below w.heap.size w W → Calls Tryz.prog 7 #[n.v, n.v] W (RetBo W true)
set_option maxRecDepth 20000 in
set_option maxHeartbeats 4000000 in
theorem sall_any (w : World) (A : Option Addr) (c : Nat) (L : List Nd) (hL : ERow eNd w A L) (hlen : L.length ≤ 9223372036854775807) (ih : ∀ m ∈ L, SelfTo w m) (W : World) (hB : Below w.heap.size w W) :
    Calls Tryz.prog 14 #[.slice A L.length c, .slice A L.length c] W (RetBo W true) := by
  have HL := Lib.hid (hL.below hB)
  have HI := Lib.hid ih
  have HB := Lib.hid hB
  clear hL ih hB
  go_enter Tryz.func14, Tryz.ntmps14
  go_upto_region 3 with fail
  go_wp2_with fail
  go_loopw [5] (fun iv wr => ∃ i : Nat, i ≤ L.length ∧ iv = .int .i64 (i : Int) ∧ Hid (Below W.heap.size W wr)) (fun iv _ => L.length - (intOf iv).toNat)
  case atStart => exact ⟨0, Nat.zero_le _, by go_num, Below.refl _ _⟩
  case round =>
    obtain ⟨i, hi, rfl, HJ⟩ := hrel
    by_cases hlt : i < L.length
    · have hii : (i : Int) < (L.length : Int) := by omega
      obtain ⟨bb, oo, ha, -, -⟩ := HL.out.at_ hlt
      have HIW : Hid (ERow eNd wr.drew (some ⟨bb, oo, none⟩) L) := by show ERow _ _ _ _; rw [← ha]; exact HL.out.below HJ.out.drewR
      have HBD := Lib.hid HJ.out.drewR
      rw [ha]
      clear ha
      go_upto_region 6 with fail
      refine wp_region_plan (.take 0 (.take 1 (.take 2 (.take 3 (.take 4 (.take 5 (.take 6 (.take 7 (.run 8 [] (.take 9 .fin)))))))))) (by kernel_rfl) (by kernel_rfl) (by kernel_rfl) (by kernel_rfl) ?_
      repeat' (first | (refine hZ _ _ ?_; clear hZ) | (refine hZ _ ?_; clear hZ) | (refine hZ ?_; clear hZ) | rw [again_nil] | rw [walk_fin] | ((first | rw [walk_take] | rw [walk_run] | rw [again_cons]); intro Z hZ; simp only [sel, List.getElem?_toArray, List.getElem?_cons_zero, List.getElem?_cons_succ]; go_wp2_with (first | (refine wpList_load_nd_at rfl (.tmp 19) rfl HIW.out hlt rfl ?_) | (refine wpList_load_nd_at rfl (.tmp 23) rfl HIW.out hlt rfl ?_))))
      refine (HI.out _ (List.getElem_mem hlt) wr.drew (HB.out.then HBD.out)).mono ?_
      rintro e W8 ⟨rfl, hB8⟩
      have HB8 := Lib.hid (HBD.out.then hB8)
      clear hB8
      go_wp2_with fail
      repeat' (first | (refine hZ _ _ ?_; clear hZ) | (refine hZ _ ?_; clear hZ) | (refine hZ ?_; clear hZ) | rw [again_nil] | rw [walk_fin] | ((first | rw [walk_take] | rw [walk_run] | rw [again_cons]); intro Z hZ; simp only [sel, List.getElem?_toArray, List.getElem?_cons_zero, List.getElem?_cons_succ]; go_wp2_with (fail)))
      go_wp2_with fail
      go_roundw
      case rel => exact ⟨i + 1, by omega, by go_num, HB8.out⟩
      case measure => simp [intOf]; omega
    · have hii : ¬ (i : Int) < (L.length : Int) := by omega
      go_wp2_with fail
      go_ret
      exact ⟨rfl, HJ.out⟩
set_option maxRecDepth 20000 in
set_option maxHeartbeats 4000000 in
theorem nself_any (w : World) (n : Nd) (hn : NodeIn w n) : SelfTo w n := by
  induction hn with
  | @mk n hr hin hlit hls hk hat hc hm ih =>
  have HR := Lib.hid hr
  have HI := Lib.hid ih
  have HV := Lib.hid hlit
  have hcm : n.args.length ≤ 9223372036854775807 := by unfold maxLen at hm; omega
  have hcc : n.args.length ≤ n.c := hc
  clear hr hin hlit hls hk hat hc hm ih
  intro W hB
  have HB := Lib.hid hB
  clear hB
  go_enter Tryz.func7, Tryz.ntmps7
  go_upto_region 1 with (first | (refine wpList_box_nd rfl (.tmp 0) rfl n rfl ?_; intro W1 hb1 hz1 hB1) | (refine wpList_box_nd rfl (.tmp 1) rfl n rfl ?_; intro W2 hb2 hz2 hB2))
  have h12 := hb1.below hB2
  have HB2 := Lib.hid (hB1.then hB2)
  clear hb1 hB1 hB2
  obtain ⟨c0, c1, c2, c3, c4, c5, c6, c7, c8, c9, -⟩ := Blk.c10 h12
  obtain ⟨d0, d1, d2, d3, d4, d5, d6, d7, d8, d9, -⟩ := Blk.c10 hb2
  have keq := xstr_eq
  have geq := xeqg
  have hss : (n.op == n.op) = true := by simp
  go_wp2_with fail
  refine (show Calls _ _ #[n.lit.v, n.lit.v] _ _ from vself_any W2 n.lit HV.out).mono ?_
  rintro e W3 ⟨rfl, hB3⟩
  have h13 := h12.below hB3
  have h23 := hb2.below hB3
  have HB3 := Lib.hid (HB2.out.then hB3)
  clear h12 hb2 HB2 hB3 c0 c1 c2 c3 c4 c5 c6 c7 c8 c9 d0 d1 d2 d3 d4 d5 d6 d7 d8 d9
  obtain ⟨-, -, -, -, -, -, -, -, -, c9, -⟩ := Blk.c10 h13
  obtain ⟨-, -, -, -, -, -, -, -, -, d9, -⟩ := Blk.c10 h23
  go_wp2_with fail
  refine (sall_any w n.a n.c n.args HR.out hcm HI.out W3 (HB.out.then HB3.out)).mono ?_
  rintro e W4 ⟨rfl, hB4⟩
  have HB4 := Lib.hid (HB3.out.then hB4)
  clear hB4 h13 h23 c9 d9
  go_wp2_with fail
  go_ret
  exact ⟨rfl, HB4.out⟩
end Go.Proofs.YtjdffhonljhpcaaGreat
end

section
/-
  The walk of PlanValues.
-/
namespace Go.Proofs.YtjdffhonljhpcaaGreat
set_option linter.unusedSimpArgs false
set_option linter.unusedVariables false
open Go.RowKit Go.Deep Go.WideShapes Go.ChangeShapes

def NodeW17 (w : World) (v : Value) : Prop := ∃ n : Nd, v = n.v ∧ NodeIn w n
set_option maxRecDepth 20000 in
theorem node_in17 {H : Type} {enc : TypeId × Value → H} {w : World} {base : Nat} {v : Value} {d : DataW H} {p : List MemPlace}
    (hv : Value.okWide Tryz.prog w .any base 27 v) (h : DataW.Trod enc Tryz.prog w 0 (fun _ => true) true 27 v d p) : NodeW17 w v := by
  have hag : ∃ cs : Array Value, v = .agg cs := by
    simp only [Value.okWide, Tryz.underlying27] at hv
    obtain ⟨cs, h1, _⟩ := hv
    exact ⟨cs, h1⟩
  obtain ⟨cs, rfl⟩ := hag
  obtain ⟨fuel, hf⟩ := h
  have h9 : Tryz.prog.cellsOf 27 = 10 := by kernel_rfl
  have hlen : cs.toList.length = 10 := by
    obtain ⟨xs, k, hk, -, hcl, hxl, hfs⟩ := DataW.trod_struct Tryz.underlying27 hf
    rw [h9] at hcl
    simpa [Value.cells] using hcl
  obtain ⟨a, e, hq⟩ := open_node fuel _ _ hf hlen
  refine ⟨a, ?_, hq⟩
  show Value.agg cs = .agg a.cells.toArray
  have e' : cs.toList = a.cells := e
  rw [← e']
set_option maxRecDepth 100000 in
set_option maxHeartbeats 8000000 in
theorem planValues_walk (w : World) (v0 : Value) (h0 : NodeW17 w v0) (at_ : Int) (wf1 : (Lit.int .i64 at_).wf = true) :
    Calls Tryz.prog 3 #[v0, .int .i64 at_] w fun e w' => e = .returned (.bool true) ∧ Below w.heap.size w w' := by
  obtain ⟨n, rfl, hn⟩ := h0
  have HN := Lib.hid hn
  clear hn wf1
  go_enter Tryz.func3, Tryz.ntmps3
  go_upto_region 1 with (refine wpList_box_nd rfl (.tmp 0) rfl n rfl ?_; intro W1 h3 hz1 hB1)
  have HB1 := Lib.hid hB1
  obtain ⟨g3, hg3⟩ : ∃ g, w.heap.size = g := ⟨_, rfl⟩
  rw [hg3] at h3
  rw [hg3]
  clear hg3 hB1 hz1
  go_wp2_with fail
  refine (plives_any W1).mono ?_
  rintro e W2 ⟨rfl, hB⟩
  have h32 := h3.below hB
  have HB2 := Lib.hid (HB1.out.then hB)
  clear hB h3
  obtain ⟨e0, e1, e2, e3, e4, e5, e6, e7, e8, e9, -⟩ := Blk.c10 h32
  go_wp2_with fail
  refine (show Calls _ _ #[n.v, .int .i64 60] _ _ from size17_any w n HN.out W2 HB2.out 60).mono ?_
  rintro e W3 ⟨r, rfl, hB⟩
  have h33 := h32.below hB
  have HB3 := Lib.hid (HB2.out.then hB)
  clear hB h32 e0 e1 e2 e3 e4 e5 e6 e7 e8 e9
  by_cases hr2 : 60 < r
  · go_wp2_with fail
    refine (plives_any W3).mono ?_
    rintro e W9 ⟨rfl, hB⟩
    have HB9 := Lib.hid (HB3.out.then hB)
    clear hB
    go_wp2_with fail
    go_ret
    exact ⟨rfl, HB9.out⟩
  · go_upto_region 3 with fail
    have HBD := Lib.hid (HB3.out.then (Below.refl _ _).drewR)
    have hbd := h33.drew
    clear h33
    refine wp_region_plan (.take 0 (.take 1 (.take 3 (.take 4 (.run 2 [3, 4] (.run 5 [] (.run 6 [] (.take 7 .fin)))))))) (by kernel_rfl) (by kernel_rfl) (by kernel_rfl) (by kernel_rfl) ?_
    repeat' (first | (refine hZ _ _ ?_; clear hZ) | (refine hZ _ ?_; clear hZ) | (refine hZ ?_; clear hZ) | rw [again_nil] | rw [walk_fin] | ((first | rw [walk_take] | rw [walk_run] | rw [again_cons]); intro Z hZ; simp only [sel, List.getElem?_toArray, List.getElem?_cons_zero, List.getElem?_cons_succ]; go_wp2_with (refine wpList_load_nd rfl (.tmp 2) rfl g3 rfl hbd ?_)))
    refine (pvalue_any _ n (nd_below15 HN.out HBD.out) at_).mono ?_
    rintro e W4 ⟨rfl, hB4⟩
    have hb4 := hbd.below hB4
    have HB4 := Lib.hid (HBD.out.then hB4)
    clear hbd hB4
    go_wp2_with fail
    repeat' (first | (refine hZ _ _ ?_; clear hZ) | (refine hZ _ ?_; clear hZ) | (refine hZ ?_; clear hZ) | rw [again_nil] | rw [walk_fin] | ((first | rw [walk_take] | rw [walk_run] | rw [again_cons]); intro Z hZ; simp only [sel, List.getElem?_toArray, List.getElem?_cons_zero, List.getElem?_cons_succ]; go_wp2_with (refine wpList_load_nd rfl (.tmp 2) rfl g3 rfl hb4 ?_)))
    refine (rvalue_any _ n (nd_below15 HN.out HB4.out) at_).mono ?_
    rintro e W5 ⟨rfl, hB5⟩
    have HB5 := Lib.hid (HB4.out.then hB5)
    clear hB5 hb4
    obtain ⟨z, hz⟩ : ∃ z, Pn.valN n at_ = z := ⟨_, rfl⟩
    have HZ : Hid (NodeIn w z) := by show NodeIn _ _; rw [← hz]; exact valN_in HN.out at_
    rw [hz]
    clear hz
    go_wp2_with fail
    repeat' (first | (refine hZ _ _ ?_; clear hZ) | (refine hZ _ ?_; clear hZ) | (refine hZ ?_; clear hZ) | rw [again_nil] | rw [walk_fin] | ((first | rw [walk_take] | rw [walk_run] | rw [again_cons]); intro Z hZ; simp only [sel, List.getElem?_toArray, List.getElem?_cons_zero, List.getElem?_cons_succ]; go_wp2_with (fail)))
    refine (show Calls _ _ #[z.v, z.v] _ _ from nself_any w z HZ.out W5 HB5.out).mono ?_
    rintro e W6 ⟨rfl, hB6⟩
    have HB6 := Lib.hid (HB5.out.then hB6)
    clear hB6
    go_wp2_with fail
    repeat' (first | (refine hZ _ _ ?_; clear hZ) | (refine hZ _ ?_; clear hZ) | (refine hZ ?_; clear hZ) | rw [again_nil] | rw [walk_fin] | ((first | rw [walk_take] | rw [walk_run] | rw [again_cons]); intro Z hZ; simp only [sel, List.getElem?_toArray, List.getElem?_cons_zero, List.getElem?_cons_succ]; go_wp2_with (fail)))
    go_wp2_with fail
    go_ret
    exact ⟨rfl, HB6.out⟩
end Go.Proofs.YtjdffhonljhpcaaGreat
end

