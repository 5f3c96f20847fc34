/-
  Texts of a proof, one behind the other (each with its own head).
-/
import Derived.Test.YtjdffhonljhpcaaGreatPartGiabiefja
import Derived.SizedLaws
section
/-
  Indexes in literals; guarded operations.
-/
namespace Go.Proofs.YtjdffhonljhpcaaGreat
set_option linter.unusedSimpArgs false
set_option linter.unusedVariables false
open Go.RowKit Go.Deep Go.WideShapes Go.ChangeShapes

section
variable {α : Type} {E : Elem α} {w w' : World} {B c : Nat} {A : Option Addr} {L M : List α}
/-- append(row, row...) -/
theorem run_append_big {A' : Option Addr} {c' : Nat} (ty : TypeId) (ho : EOwn E w B A c L) (hr : ERow E w A' M) (hb : (L.length + M.length) * E.bytes ≤ 140737488355328) (hlm : L.length + M.length ≤ maxLen) (hB : B ≤ w.heap.size) :
    ∃ A1 c1 w1, (Builtin.append_ #[E.t, E.t] ty #[.slice A L.length c, .slice A' M.length c']).run Tryz.prog w = .ok (.slice A1 (L.length + M.length) c1) w1 ∧ EOwn E w1 B A1 c1 (L ++ M) ∧
      w.grownBy w1 (A.map (·.block)) ∧ (A1.map (·.block) = A.map (·.block) ∨ A1.map (·.block) = some w.heap.size) := by
  obtain ⟨i, hi, hz, hsi, hby⟩ := info_parts E.info
  rcases A' with _ | ad
  · have hm : M = [] := by
      cases M with
      | nil => rfl
      | cons x M => obtain ⟨b, o, h, _⟩ := hr (by simp); cases h
    subst hm
    refine ⟨A, c, w, ?_, by simpa using ho, World.grownBy.refl w _, .inl rfl⟩
    exact run_append_of_none (P := Tryz.prog) w B E.t ty E.e i E.sz E.under hi _ _ _ ho c'
  · have hcells : ∀ j u, (E.cells M)[j]? = some u → w.cell? (ad.add j) = some u := by
      intro j u hu
      have hj := (List.getElem?_eq_some_iff.1 hu).1
      rw [E.cells_length] at hj
      obtain ⟨b, o, h, _, hc⟩ := hr (by
        rcases Nat.eq_zero_or_pos M.length with h0 | h0
        · rw [h0] at hj; simp at hj
        · exact h0)
      obtain rfl := Option.some.inj h
      rw [Addr.add_lit]
      exact hc j u hu
    obtain ⟨v', w', hrun, h2, h3, _, h5⟩ := run_append_own_at (P := Tryz.prog) w B E.t ty E.e i E.zero E.sz E.bytes E.under hi hz hsi hby E.zsz E.pos _ _ _ ho ad M.length c' (E.cells M)
      (E.cells_length M) hcells (E.cells_one M) hlm hb hB
    obtain ⟨A1, c1, rfl⟩ := own_slice h2
    refine ⟨A1, c1, w', hrun, ?_, by simpa [own_block] using h3, by simpa [own_block] using h5⟩
    unfold EOwn
    rw [E.cells_append, List.length_append]
    exact h2

theorem wpList_append_big (E : Elem α) {w : World} {B c : Nat} {A A' : Option Addr} {L M : List α} {c' : Nat} {ops : Array Oper} {rest : List Oper} {o : Oper} {a : Act} {Q : Exit → Act → World → Prop} (hgd : o.guard = none) (s x : Operand)
    (hop : o.op = .call { callee := .builtin .append, args := #[s, x], argTypes := #[E.t, E.t] })
    (n : Nat) (hs : a.eval s = .slice A n c) (ho : EOwn E w B A c L) (hn : n = L.length) (k : Nat) (hx : a.eval x = .slice A' k c') (hr : ERow E w A' M) (hk : k = M.length)
    (hb : (L.length + M.length) * E.bytes ≤ 140737488355328) (hlm : L.length + M.length ≤ maxLen) (hB : B ≤ w.heap.size)
    (h : ∀ A1 c1 w1, EOwn E w1 B A1 c1 (L ++ M) → Below B w w1 → w.grownBy w1 (A.map (·.block)) → (A1.map (·.block) = A.map (·.block) ∨ A1.map (·.block) = some w.heap.size) →
      wpList Tryz.prog ops Q rest (a.put o.dst (.slice A1 (L.length + M.length) c1)) w1) : wpList Tryz.prog ops Q (o :: rest) a w := by
  subst hn hk
  obtain ⟨A1, c1, w1, hrun, h2, h3, h4⟩ := run_append_big (c' := c') o.type ho hr hb hlm hB
  refine Lib.wpList_append_run w hgd s x _ _ hop _ _ hs hx _ _ hrun ?_
  exact h A1 c1 w1 h2 (ho.below_grown h3 hB) h3 h4

end
section
variable {w : World} {ops : Array Oper} {rest : List Oper} {o : Oper} {a : Act} {Q : Exit → Act → World → Prop}
/-- An operation whose guard says yes. -/
theorem wpList_guarded {d : Option Tmp} {op : Op} {ty : TypeId} {pos : String} {after : Array Edge} {g : Option (Nat × Bool)} (hw : Region.wanted ⟨d, op, ty, pos, after, g⟩ (yielded ops a.tmps) = true)
    (h : wpList Tryz.prog ops Q (⟨d, op, ty, pos, after, none⟩ :: rest) a w) : wpList Tryz.prog ops Q (⟨d, op, ty, pos, after, g⟩ :: rest) a w := by
  unfold wpList at h ⊢
  rw [if_pos hw]
  rw [if_pos (by rfl)] at h
  exact h
theorem run_one_df (w : World) (d : Df) : (Instr.buildSlice 38 1 #[(0, d.v)]).run Tryz.prog w = .ok (.slice (some ⟨w.heap.size, 0, none⟩) 1 1) (w.alloc (.cells d.cells.toArray 40)) := by
  unfold Df.v Df.cells
  go_simp
theorem run_nil_df (w : World) : (Instr.buildSlice 38 0 #[]).run Tryz.prog w = .ok (.slice (some ⟨w.heap.size, 0, none⟩) 0 0) (w.alloc (.cells #[] 40)) := by
  go_simp
theorem wpList_one_df (hgd : o.guard = none) (x : Operand) (hop : o.op = .buildSlice 38 1 #[(0, x)]) (d : Df) (hx : a.eval x = d.v) (B : Nat) (hB : B ≤ w.heap.size)
    (h : ∀ W, EOwn eDf W B (some ⟨w.heap.size, 0, none⟩) 1 [d] → w.heap.size < W.heap.size → Below w.heap.size w W → wpList Tryz.prog ops Q rest (a.put o.dst (.slice (some ⟨w.heap.size, 0, none⟩) 1 1)) W) : wpList Tryz.prog ops Q (o :: rest) a w := by
  refine wpList_plain hgd fun K' hK' => ?_
  have e := run_one_df w d
  unfold Oper.wp
  simp [execOp, hop, hx, e, Result.andThen]
  refine hK' _ _ (h _ ?_ (by simp) (Below.alloc1 _ _))
  exact Blk.own eDf (Blk.new w d.cells.toArray 40) [d] (by simp [Elem.cells, eDf]) (by simp [maxLen]) hB
theorem wpList_nil_df (hgd : o.guard = none) (hop : o.op = .buildSlice 38 0 #[]) (B : Nat) (hB : B ≤ w.heap.size)
    (h : ∀ W, EOwn eDf W B (some ⟨w.heap.size, 0, none⟩) 0 [] → w.heap.size < W.heap.size → Below w.heap.size w W → wpList Tryz.prog ops Q rest (a.put o.dst (.slice (some ⟨w.heap.size, 0, none⟩) 0 0)) W) : wpList Tryz.prog ops Q (o :: rest) a w := by
  refine wpList_plain hgd fun K' hK' => ?_
  have e := run_nil_df w
  unfold Oper.wp
  simp [execOp, hop, e, Result.andThen]
  refine hK' _ _ (h _ ?_ (by simp) (Below.alloc1 _ _))
  exact Blk.own eDf (Blk.new w #[] 40) [] rfl (by simp [maxLen]) hB
theorem wpList_load_df (hgd : o.guard = none) (x : Operand) (hop : o.op = .load 40 x) (g : Nat) (hx : a.eval x = .pointer (some ⟨g, 0, none⟩)) {T0 : TypeId} {b : Df} (hb : Blk w g T0 b.cells)
    (h : wpList Tryz.prog ops Q rest (a.put o.dst b.v) w) : wpList Tryz.prog ops Q (o :: rest) a w :=
  wpList_load_mid hgd 40 x hop g 0 hx b.cells _ (hb.range 0 b.cells fun j _ => by rw [Nat.zero_add]) Tryz.underlying40 rfl df_info h
end
/-- Indexes as they come in, few enough for the machine. -/
def DfsW2 (w : World) (v : Value) : Prop := ∃ A c L, v = .slice A (List.length L) c ∧ ERow eDf w A L ∧ (∀ d ∈ L, DfRaw w d) ∧ L.length ≤ c ∧ c ≤ maxLen ∧ L.length * 40 ≤ 140737488355328
set_option maxRecDepth 20000 in
theorem dfs_in2 {H : Type} {enc : TypeId × Value → H} {w : World} {base : Nat} {v : Value} {d : DataW H} {p : List MemPlace}
    (hv : Value.okWide Tryz.prog w .any base 38 v) (h : DataW.Trod enc Tryz.prog w 0 (fun _ => true) true 38 v d p)
    (hz : ∀ elems spare, d = .slice elems spare → (elems.length + spare.length) * Tryz.prog.bytesOf 40 ≤ reachBytes) : DfsW2 w v := by
  obtain ⟨A, c, L, e, h2, h3, h4, h5⟩ := dfs_in hv h
  refine ⟨A, c, L, e, h2, h3, h4, h5, ?_⟩
  subst e
  obtain ⟨fuel, hf⟩ := h
  have hb : Tryz.prog.bytesOf 40 = 40 := by kernel_rfl
  rcases Deep.open_slice Tryz.underlying38 hf with ⟨h1, -⟩ | ⟨a, len, cap, m, n, D, Pl, h1, -, -, -, -, hx, -⟩
  · simp [Value.cells] at h1
    rw [h1.2.1]
    decide
  · simp [Value.cells] at h1
    have h6 := hz _ _ (congrArg Prod.fst hx)
    rw [hb] at h6
    simp only [List.length_map, List.length_range] at h6
    have h7 := reachBytes_lt
    rw [h1.2.1]
    omega
theorem small17n_any (w : World) (p : Qp) (hp : QpRaw w p) (sa : Option Addr) (S : List Stt) (sc : Nat) (hS : ERow eStt w sa S) (hSr : ∀ t ∈ S, SttRaw w t) (hSl : S.length ≤ sc) (hSm : sc ≤ maxLen)
    (da : Option Addr) (D : List Df) (dc n : Nat) (hn : D.length = n) (hD : ERow eDf w da D) (hDr : ∀ d ∈ D, DfRaw w d) (hDl : D.length ≤ dc) (hDm : dc ≤ maxLen) :
    Calls Tryz.prog 10 #[p.v, .slice sa S.length sc, .slice da n dc] w (RetIf17 w (SmallP p.x S D)) := by
  subst hn
  exact small17_any w p hp sa S sc hS hSr hSl hSm da D dc hD hDr hDl hDm
end Go.Proofs.YtjdffhonljhpcaaGreat
end

section
/-
  The walk of PlanSame.
-/
namespace Go.Proofs.YtjdffhonljhpcaaGreat
set_option linter.unusedSimpArgs false
set_option linter.unusedVariables false
open Go.RowKit

set_option maxRecDepth 100000 in
set_option maxHeartbeats 8000000 in
theorem planSame_walk (w : World) (v0 : Value) (h0 : QpW w v0) (v1 : Value) (h1 : SttsW w v1) (v2 : Value) (h2 : DfsW2 w v2) :
    Calls Tryz.prog 4 #[v0, v1, v2] w fun e w' => e = .returned (.bool true) ∧ Below w.heap.size w w' := by
  obtain ⟨p, rfl, hp⟩ := h0
  obtain ⟨sa, sc, S, rfl, hS, hSr, hSl, hSm⟩ := h1
  obtain ⟨da, dc, D, rfl, hD, hDr, hDl, hDm, hD40⟩ := h2
  have HP := Lib.hid hp
  have HS := Lib.hid hS
  have HSR := Lib.hid hSr
  have HD := Lib.hid hD
  have HDR := Lib.hid hDr
  have HSL := Lib.hid hSl
  have hl2 : D.length ≤ 9223372036854775807 := by unfold maxLen at hDm; omega
  have hdc : D.length ≤ dc := hDl
  have hdm : dc ≤ 9223372036854775807 := by unfold maxLen at hDm; omega
  have HSM := Lib.hid hSm
  have HDM := Lib.hid hDm
  clear hp hS hSr hSl hSm hD hDr hDl hDm
  go_enter Tryz.func4, Tryz.ntmps4
  go_upto_region 1 with (refine wpList_box_qp rfl (.tmp 0) rfl p rfl ?_; intro W1 hb1 hz1 hB1)
  have HB1 := Lib.hid hB1
  obtain ⟨g3, hg3⟩ : ∃ g, w.heap.size = g := ⟨_, rfl⟩
  rw [hg3] at hb1 ⊢
  have HQ1 := Lib.hid hb1
  clear hg3 hB1 hz1 hb1
  by_cases hn : D.length = 0
  · have hni : ((D.length : Int) == 0) = true := by simp [hn]
    go_wp2_with fail
    refine (plives_any W1).mono ?_
    rintro e W9 ⟨rfl, hB⟩
    have HB9 := Lib.hid (HB1.out.then hB)
    clear hB
    go_wp2_with fail
    go_ret
    exact ⟨rfl, HB9.out⟩
  · have hni : ((D.length : Int) == 0) = false := beq_eq_false_iff_ne.2 (by omega)
    obtain ⟨d0, E, hDE⟩ : ∃ d0 E, D = d0 :: E := by
      cases D with
      | nil => exact absurd rfl hn
      | cons d0 E => exact ⟨d0, E, rfl⟩
    have HDE := Lib.hid hDE
    have hE1 : D.length - 1 = E.length := by rw [hDE]; rfl
    have h0 : 0 < D.length := by omega
    have hd0 : D[0] = d0 := by simp [hDE]
    have HD0 := Lib.hid hd0
    obtain ⟨bb, oo, rfl, -, -⟩ := HD.out.at_ h0
    have h1i : (1 : Int) ≤ (D.length : Int) := by omega
    have h0i : (0 : Int) < (D.length : Int) := by omega
    clear hDE hd0
    have HE3 : Hid (∀ V, Below w.heap.size w V → ERow eDf V (some ⟨bb, oo + 3, none⟩) E) := fun V hV => by
      have h := (HD.out.below hV).drop 1
      rw [HDE.out] at h
      have e : (some (⟨bb, oo, none⟩ : Addr)).map (fun x => x.add (1 * eDf.sz)) = some ⟨bb, oo + 3, none⟩ := by
        show some (Addr.add ⟨bb, oo, none⟩ 3) = _
        rw [Addr.add_lit]
      rw [e] at h
      exact h
    go_upto_region 3 with fail
    go_cut [7, 8] from 15 to 19 (fun v7 v8 wx => Hid (∃ (eA : Option Addr) (eC g8 : Nat), v7 = .slice eA E.length eC ∧ v8 = .pointer (some ⟨g8, 0, none⟩) ∧ Blk wx g8 40 d0.cells ∧ Blk wx g3 36 p.cells ∧ Below w.heap.size w wx ∧ ERow eDf wx eA E))
    case first =>
      have HBD := Lib.hid (HB1.out.then (Below.refl _ _).drewR)
      have HDD := Lib.hid (HD.out.below HBD.out)
      refine wp_region_plan (.take 0 (.take 1 (.take 2 (.take 3 (.take 4 (.run 5 [0, 1, 2, 3, 4] (.take 6 (.run 7 [] .fin)))))))) (by kernel_rfl) (by kernel_rfl) (by kernel_rfl) (by kernel_rfl) ?_
      repeat' (first | (refine hZ _ _ ?_; clear hZ) | (refine hZ _ ?_; clear hZ) | (refine hZ ?_; clear hZ) | rw [again_nil] | rw [walk_fin] | ((first | rw [walk_take] | rw [walk_run] | rw [again_cons]); intro Z hZ; simp only [sel, List.getElem?_toArray, List.getElem?_cons_zero, List.getElem?_cons_succ]; go_wp2_with (first | (refine wpList_load_df_at (j := 0) rfl (.tmp 18) rfl HDD.out h0 d0 HD0.out rfl ?_) | (refine wpList_alloc_df rfl rfl ?_; intro W3 hb3 hz3 hB3) | (refine wpList_load_df_at (j := 0) rfl (.tmp 18) rfl (HDD.out.below hB3) h0 d0 HD0.out rfl ?_) | (refine wpList_store_df rfl rfl (.tmp 8) (.tmp 19) rfl _ rfl d0 rfl hb3 ?_; intro W4 hb4 hg4))))
      all_goals
        (try (rename dc = 1 => hdc1; subst hdc1))
        go_wp2_with fail
        go_meet
        case rel =>
          have z1 : w.heap.size ≤ W1.heap.size := HB1.out.size
          have z3 : W1.heap.size + 1 ≤ W3.heap.size := hz3
          have hq3 : Blk W3 g3 36 p.cells := HQ1.out.below (show Below W1.heap.size W1 W3 from (Below.refl _ _).drewR.then hB3)
          have hlq : g3 < W1.heap.size := HQ1.out.lt
          have hB4 : Below w.heap.size w W4 := below_of_grown (HBD.out.then hB3) hg4 z1 (by omega)
          exact ⟨_, _, _, rfl, rfl, hb4, hq3.grown hg4 (by simp only [ne_eq, Option.some.injEq]; omega), hB4, by first | exact HE3.out _ hB4 | (intro hl; exact absurd hl (by omega))⟩
    case rest =>
      obtain ⟨eA, eC, g8, rfl, rfl, h8, hq, hB, hE⟩ := hcut.out
      have HB3 := Lib.hid hB
      have H8 := Lib.hid h8
      have HQ3 := Lib.hid hq
      have HE := Lib.hid hE
      clear hcut hB h8 hq hE HE3 HQ1 HB1
      go_upto_region 4 with fail
      have hel : (E.length + 1) * 40 ≤ 140737488355328 := by rw [← hE1]; omega
      have HL1 : Hid ((([] : List Df).length + E.length) * eDf.bytes ≤ 140737488355328 ∧ ([] : List Df).length + E.length ≤ maxLen) := by
        refine ⟨?_, ?_⟩
        · rw [show eDf.bytes = 40 from rfl]; simp; omega
        · unfold maxLen; simp; omega
      have HL2 : Hid (((([] : List Df) ++ E).length + [d0].length) * eDf.bytes ≤ 140737488355328 ∧ (([] : List Df) ++ E).length + [d0].length ≤ maxLen) := by
        refine ⟨?_, ?_⟩
        · rw [show eDf.bytes = 40 from rfl]; simp; omega
        · unfold maxLen; simp; omega
      have HDR2 : Hid (∀ V, Below w.heap.size w V → ∀ d ∈ E ++ [d0], DfRaw V d) := fun V hV d hd => by
        refine (HDR.out d ?_).below hV
        rw [HDE.out]
        rcases List.mem_append.1 hd with h | h
        · exact List.mem_cons_of_mem _ h
        · rw [List.mem_singleton.1 h]; exact List.mem_cons_self ..
      have HSC : Hid (∀ V, Below wc.heap.size wc V → ∀ A c n, ERow eDf V A (E ++ [d0]) → (E ++ [d0]).length = n → n ≤ c → c ≤ maxLen → Calls Tryz.prog 10 #[p.v, .slice sa S.length sc, .slice A n c] V (RetIf17 V (SmallP p.x S (E ++ [d0])))) := fun V hV A c n h1 h2 h3 h4 =>
        small17n_any V p (HP.out.below (HB3.out.then hV)) sa S sc (HS.out.below (HB3.out.then hV)) (fun t ht => (HSR.out t ht).below (HB3.out.then hV)) HSL.out HSM.out A (E ++ [d0]) c n h2 h1 (HDR2.out V (HB3.out.then hV)) (by omega) h4
      go_cut [33] from 20 to 33 (fun v wx => Hid (∃ b : Bool, v = .bool (!b) ∧ (b = true → SmallP p.x S (E ++ [d0])) ∧ Below wc.heap.size wc wx))
      case first =>
        refine wp_region_plan (.run 0 [] (.take 1 (.take 2 (.take 3 (.take 4 (.take 6 (.take 8 (.fork (.run 5 [3, 4, 6, 8] (.fork (.run 7 [3, 4, 8] (.run 9 [3, 4] (.run 10 [3, 4] (.run 11 [] (.take 12 (.take 13 .fin)))))) (.run 9 [3, 4, 6] (.run 7 [3, 4] (.run 10 [3, 4] (.run 11 [] (.take 12 (.take 13 .fin)))))))) (.run 9 [3, 4, 6] (.run 5 [3, 4, 6] (.run 7 [3, 4] (.run 10 [3, 4] (.run 11 [] (.take 12 (.take 13 .fin))))))))))))))) (by kernel_rfl) (by kernel_rfl) (by kernel_rfl) (by kernel_rfl) ?_
        repeat' (first | (refine hZ _ _ ?_; clear hZ) | (refine hZ _ ?_; clear hZ) | (refine hZ ?_; clear hZ) | rw [again_nil] | rw [walk_fin] | ((first | rw [walk_take] | rw [walk_run] | rw [again_cons]); intro Z hZ; simp only [sel, List.getElem?_toArray, List.getElem?_cons_zero, List.getElem?_cons_succ]; go_wp2_with (fail)))
        refine (plives_any wc.drew).mono ?_
        rintro e W2 ⟨rfl, hB⟩
        have hB : Below wc.heap.size wc W2 := ((Below.refl wc.heap.size wc).drewR).then hB
        go_wp2_with fail
        repeat' (first
          | (refine hZ _ _ ?_; clear hZ)
          | (refine hZ _ ?_; clear hZ)
          | (refine hZ ?_; clear hZ)
          | rw [again_nil]
          | (rw [walk_fin]; go_wp2_with fail; go_meet; (case rel => exact ⟨b, rfl, HSB.out, hB⟩))
          | (rw [walk_fork]; refine ⟨?_, ?_⟩)
          | (refine (HSC.out _ hB _ _ _ hO.row (by simp) (by have := hO.cap; simpa using this) hO.capMax).mono ?_; rintro e W8 ⟨b, rfl, hb, hB8⟩; replace hB := hB.then hB8; have HSB := Lib.hid hb; clear hb hO hR; go_wp2_with fail)
          | ((first | rw [walk_take] | rw [walk_run] | rw [again_cons]); intro Z hZ; simp only [sel, List.getElem?_toArray, List.getElem?_cons_zero, List.getElem?_cons_succ]; go_wp2_with (first
              | (refine wpList_guarded (by kernel_rfl) ?_; refine wpList_load_qp0 rfl (.tmp 3) rfl g3 rfl (HQ3.out.below hB) ?_)
              | (refine wpList_guarded (by kernel_rfl) ?_; refine wpList_load_df rfl (.tmp 8) rfl g8 rfl (H8.out.below hB) ?_)
              | (refine wpList_guarded (by kernel_rfl) ?_; refine wpList_nil_df rfl rfl wc.heap.size hB.size ?_; intro Wn hO hlt hbn; (try replace hR := hR.below hbn); replace hB := hB.then hbn)
              | (refine wpList_guarded (by kernel_rfl) ?_; refine wpList_one_df rfl (.tmp 28) rfl d0 rfl wc.heap.size hB.size ?_; intro Wn hR hlt hbn; (try replace hO := hO.below hbn); replace hB := hB.then hbn)
              | (refine wpList_guarded (by kernel_rfl) ?_; at_builtin; refine wpList_append_big eDf rfl (.tmp 25) (.tmp 26) rfl _ rfl hO rfl _ rfl (HE.out.below hB) rfl HL1.out.1 HL1.out.2 hB.size ?_; intro A3 c3 Wn hO3 hb3 hg3 _; (try replace hR := hR.kept hg3 (.inr (by simp; omega))); replace hO := hO3; replace hB := hB.trans hb3)
              | (refine wpList_guarded (by kernel_rfl) ?_; at_builtin; refine wpList_append_big eDf rfl (.tmp 27) (.tmp 29) rfl _ rfl hO (by simp) _ rfl hR.row rfl HL2.out.1 HL2.out.2 hB.size ?_; intro A4 c4 Wn hO4 hb4 hg4 _; replace hO := hO4; replace hB := hB.trans hb4))))
      case rest =>
        obtain ⟨b, rfl, hb, hB⟩ := hcut.out
        have HB4 := Lib.hid (HB3.out.then hB)
        have H84 := Lib.hid (H8.out.below hB)
        have HQ4 := Lib.hid (HQ3.out.below hB)
        have HE4 := Lib.hid (HE.out.below hB)
        have HSB := Lib.hid hb
        clear hcut hB hb H8 HQ3 HE HB3 HSC
        cases b with
        | false =>
          go_wp2_with fail
          refine (plives_any wc).mono ?_
          rintro e W9 ⟨rfl, hB⟩
          have HB9 := Lib.hid (HB4.out.then hB)
          clear hB
          go_wp2_with fail
          go_ret
          exact ⟨rfl, HB9.out⟩
        | true =>
          have HSS := Lib.hid (HSB.out rfl)
          have hE12 : E.length ≤ 12 := by have := HSS.out.d; rw [List.length_append] at this; omega
          have HSUB : Hid (∀ d ∈ E, d ∈ E ++ [d0]) := fun d hd => List.mem_append.2 (.inl hd)
          go_wp2_with (refine wpList_load_qp0 rfl (.tmp 3) rfl g3 rfl HQ4.out ?_)
          refine (plcall_any w p HP.out sa S sc HS.out HSR.out (E ++ [d0]) (fun d hd => HDR2.out w (Below.refl _ _) d hd) HSS.out wc HB4.out eA E eC E.length HE4.out HSUB.out rfl (by omega)).mono ?_
          rintro e W5 ⟨m, er, rfl, hB5, hrd, hc⟩
          have hc : (Pn.chOk (Pn.wd (Pn.xOf p.x S) E) S.length = true ∧ er = 0 ∧ m.e = Pn.choose (Pn.wd (Pn.xOf p.x S) E)) ∨ (Pn.chOk (Pn.wd (Pn.xOf p.x S) E) S.length = false ∧ er = 1 ∧ m = Pm.nil) := hc
          have HB5 := Lib.hid (HB4.out.then hB5)
          have HQ5 := Lib.hid (HQ4.out.below hB5)
          have H85 := Lib.hid (H84.out.below hB5)
          have HE5 := Lib.hid (HE4.out.below hB5)
          clear hB5 HB4 HQ4 H84 HE4 HSB
          rcases hc with ⟨h1, rfl, he⟩ | ⟨-, rfl, -⟩
          · obtain ⟨hmay, hgood, hgv⟩ := Pn.chOk_good h1
            rw [← he] at hgood hgv
            have HRD := Lib.hid (hrd hgood.nz)
            have HMAY := Lib.hid hmay
            have HGD := Lib.hid hgood
            have HGV := Lib.hid hgv
            clear h1 he hmay hgood hgv hrd
            go_upto_region 9 with (first | (refine wpList_alloc_pm rfl rfl ?_; intro W6 hb6 hz6 hB6) | (refine wpList_store_pm rfl rfl (.tmp 9) (.tmp 40) rfl _ rfl m rfl hb6 ?_; intro W7 hb7 hg7))
            have hB57 : Below W5.heap.size W5 W7 := below_of_grown hB6 hg7 (Nat.le_refl _) (by omega)
            have HB7 := Lib.hid (HB5.out.then hB57)
            have HQ7 := Lib.hid (HQ5.out.below hB57)
            have H87 := Lib.hid (H85.out.below hB57)
            have HE7 := Lib.hid (HE5.out.below hB57)
            have HRD7 := Lib.hid (HRD.out.later hB57)
            have H97 := Lib.hid hb7
            clear hb6 hz6 hB6 hg7 hB57 hb7 HB5 HQ5 H85 HE5 HRD
            generalize W5.heap.size = g9 at H97 ⊢
            have HR1 : Hid (∀ V, Below W7.heap.size W7 V → Calls Tryz.prog 12 #[p.v, .slice eA E.length eC, m.v] V (RetBo V true)) := fun V hV =>
              plright_any V (p.full S E) (qp_full (HP.out.below (HB7.out.then hV)) HSS.out E) HMAY.out eA eC (dfs_of (HE7.out.below hV) (HDR2.out V (HB7.out.then hV)) HSUB.out HSS.out (by show E.length ≤ 1000; omega)) m (HRD7.out.later hV) HGD.out HGV.out
            have HR2 : Hid (∀ V, Below W7.heap.size W7 V → ∀ A c n, ERow eDf V A (E ++ [d0]) → (E ++ [d0]).length = n → Calls Tryz.prog 12 #[p.v, .slice A n c, m.v] V (RetBo V true)) := fun V hV A c n h1 h2 => by
              subst h2
              exact plright_any V (p.full S (E ++ [d0])) (qp_full (HP.out.below (HB7.out.then hV)) HSS.out (E ++ [d0])) ((Pn.may_wd _ _).trans ((Pn.may_wd _ _).symm.trans HMAY.out)) A c (dfs_of h1 (HDR2.out V (HB7.out.then hV)) (fun d hd => hd) HSS.out (by show (E ++ [d0]).length ≤ 1000; simp; omega)) m (HRD7.out.later hV) HGD.out.more (fun ho => (Pn.gives_more HGD.out).trans (HGV.out ho))
            have hq7 := HQ7.out.drew
            have h97 := H97.out.drew
            refine wp_region_plan (.take 0 (.take 1 (.take 2 (.run 3 [] (.take 4 (.take 5 (.take 7 (.take 9 (.take 12 (.fork (.run 6 [5, 7, 9, 12] (.fork (.run 8 [5, 9, 12] (.run 10 [5, 12] (.run 11 [5, 12] (.run 13 [] (.take 14 (.take 15 .fin)))))) (.run 10 [5, 7, 12] (.run 8 [5, 12] (.run 11 [5, 12] (.run 13 [] (.take 14 (.take 15 .fin)))))))) (.run 10 [5, 7, 12] (.run 6 [5, 7, 12] (.run 8 [5, 12] (.run 11 [5, 12] (.run 13 [] (.take 14 (.take 15 .fin))))))))))))))))) (by kernel_rfl) (by kernel_rfl) (by kernel_rfl) (by kernel_rfl) ?_
            repeat' (first | (refine hZ _ _ ?_; clear hZ) | (refine hZ _ ?_; clear hZ) | (refine hZ ?_; clear hZ) | rw [again_nil] | rw [walk_fin] | ((first | rw [walk_take] | rw [walk_run] | rw [again_cons]); intro Z hZ; simp only [sel, List.getElem?_toArray, List.getElem?_cons_zero, List.getElem?_cons_succ]; go_wp2_with (first | (refine wpList_load_qp0 rfl (.tmp 3) rfl g3 rfl hq7 ?_) | (refine wpList_load_pm rfl (.tmp 9) rfl g9 rfl h97 ?_))))
            refine (show Calls _ _ _ _ _ from HR1.out W7.drew (Below.refl W7.heap.size W7).drewR).mono ?_
            rintro e W8 ⟨rfl, hB⟩
            have hB : Below W7.heap.size W7 W8 := ((Below.refl W7.heap.size W7).drewR).then hB
            clear hq7 h97
            go_wp2_with fail
            repeat' (first
              | (refine hZ _ _ ?_; clear hZ)
              | (refine hZ _ ?_; clear hZ)
              | (refine hZ ?_; clear hZ)
              | rw [again_nil]
              | (rw [walk_fin]; go_wp2_with fail; go_ret; exact ⟨rfl, HB7.out.then hB⟩)
              | (rw [walk_fork]; refine ⟨?_, ?_⟩)
              | (refine (HR2.out _ hB _ _ _ hO.row (by simp)).mono ?_; rintro e W9 ⟨rfl, hB8⟩; replace hB := hB.then hB8; clear hO hR; go_wp2_with fail)
              | ((first | rw [walk_take] | rw [walk_run] | rw [again_cons]); intro Z hZ; simp only [sel, List.getElem?_toArray, List.getElem?_cons_zero, List.getElem?_cons_succ]; go_wp2_with (first
                  | (refine wpList_guarded (by kernel_rfl) ?_; refine wpList_load_qp0 rfl (.tmp 3) rfl g3 rfl (HQ7.out.below hB) ?_)
                  | (refine wpList_guarded (by kernel_rfl) ?_; refine wpList_load_pm rfl (.tmp 9) rfl g9 rfl (H97.out.below hB) ?_)
                  | (refine wpList_guarded (by kernel_rfl) ?_; refine wpList_load_df rfl (.tmp 8) rfl g8 rfl (H87.out.below hB) ?_)
                  | (refine wpList_guarded (by kernel_rfl) ?_; refine wpList_nil_df rfl rfl W7.heap.size hB.size ?_; intro Wn hO hlt hbn; (try replace hR := hR.below hbn); replace hB := hB.then hbn)
                  | (refine wpList_guarded (by kernel_rfl) ?_; refine wpList_one_df rfl (.tmp 55) rfl d0 rfl W7.heap.size hB.size ?_; intro Wn hR hlt hbn; (try replace hO := hO.below hbn); replace hB := hB.then hbn)
                  | (refine wpList_guarded (by kernel_rfl) ?_; at_builtin; refine wpList_append_big eDf rfl (.tmp 52) (.tmp 53) rfl _ rfl hO rfl _ rfl (HE7.out.below hB) rfl HL1.out.1 HL1.out.2 hB.size ?_; intro A3 c3 Wn hO3 hb3 hg3 _; (try replace hR := hR.kept hg3 (.inr (by simp; omega))); replace hO := hO3; replace hB := hB.trans hb3)
                  | (refine wpList_guarded (by kernel_rfl) ?_; at_builtin; refine wpList_append_big eDf rfl (.tmp 54) (.tmp 56) rfl _ rfl hO (by simp) _ rfl hR.row rfl HL2.out.1 HL2.out.2 hB.size ?_; intro A4 c4 Wn hO4 hb4 hg4 _; replace hO := hO4; replace hB := hB.trans hb4))))
          · clear hrd
            go_upto_region 7 with (first | (refine wpList_alloc_pm rfl rfl ?_; intro W6 hb6 hz6 hB6) | (refine wpList_store_pm rfl rfl (.tmp 9) (.tmp 40) rfl _ rfl m rfl hb6 ?_; intro W7 hb7 hg7))
            have z5 := HB5.out.size
            have HB7 := Lib.hid (below_of_grown (HB5.out.then hB6) hg7 (by omega) (by omega))
            clear hb6 hz6 hB6 hg7 hb7 z5
            go_wp2_with fail
            go_ret
            exact ⟨rfl, HB7.out⟩
end Go.Proofs.YtjdffhonljhpcaaGreat
end

