/-
  The document's disk: strike, Put, Flush.
-/
import Derived.Test.YthbanhedjfpmaaaRefD2
namespace Go.Proofs.Ythbanhedjfpmaaa
set_option linter.unusedSimpArgs false
set_option linter.unusedVariables false
open Go.RowKit

theorem DGood.tick {d : DS} (h : DGood d) (n : Nat) : DGood { d with changes := n } := ⟨h.b0, h.b1, h.p1, h.f1, h.at_, h.fk⟩
set_option maxRecDepth 20000 in
set_option maxHeartbeats 2000000 in
theorem refstrike_any (S : Nat → Prop) (w : World) (hS : ∀ i, S i → i < w.heap.size) (d : DS) (c : List Value) (h : RefX S w c d.rx) (hG : DGood d) (hch : d.changes < 1000000000) :
    Calls Try.prog 60 #[.agg c.toArray] w (RetXN S w (d.strike.1.rx, d.strike.2)) := by
  obtain ⟨As, cs, Ap, cp, Af, cf, rfl, h1, h2, h3⟩ := h
  simp only [DS.rx, List.length_map] at h1 h2 h3 ⊢
  have hf1 := hG.f1
  have HR := Lib.hid (And.intro h1 (And.intro h2 h3))
  have HST : Hid (d.strike = match fallFrom d.falls (d.changes : Int) 0 with
    | some f => (({ d with changes := d.changes + 1 } : DS).crash f, 6)
    | none => ({ d with changes := d.changes + 1 }, 0)) := by show _ = _; unfold DS.strike fallFrom; rfl
  clear h1 h2 h3
  go_enter Try.func60, Try.ntmps60
  go_upto_region 3 with (fail)
  generalize hW0 : ((World.alloc w (.cells _ _)).alloc (.cells _ _)) = W
  obtain ⟨ba0, bb0, hz0, hB0⟩ := fresh2 hW0
  clear hW0
  have HX := Lib.hid (And.intro ba0 (And.intro bb0 hB0))
  have hcc := And.intro ba0.c5 bb0.c5
  clear ba0 bb0 hB0
  go_wp2_with fail
  clear hcc
  go_loop [5] (fun iv => ∃ i : Nat, i ≤ d.falls.length ∧ iv = .int .i64 i ∧ Hid (fallFrom d.falls (d.changes : Int) 0 = fallFrom d.falls (d.changes : Int) i)) (fun iv => d.falls.length - (intOf iv).toNat)
  case atStart => exact ⟨0, by omega, rfl, rfl⟩
  case round =>
    obtain ⟨i, hi, rfl, HFF⟩ := hrel
    have hcc := And.intro HX.out.1.c5 HX.out.2.1.c5
    by_cases hlt2 : i < d.falls.length
    · have hii : (i : Int) < (d.falls.length : Int) := by omega
      obtain ⟨b, o, rfl, hb, d0, d1, d2⟩ := fall_at (HR.out.2.2.below HX.out.2.2).1 hlt2
      have hfk := hG.fk d.falls[i] (List.getElem_mem hlt2)
      by_cases he : d.falls[i].at_ = (d.changes : Int)
      · have heb : (d.falls[i].at_ == (d.changes : Int)) = true := by simpa using he
        have HF := Lib.hid (fallFrom_hit hlt2 he)
        clear he
        generalize d.falls[i] = f at d0 d1 d2 hfk heb HF
        have HC := Lib.hid (refcrash_any S W.drew (fun j hj => Nat.lt_of_lt_of_le (hS j hj) HX.out.2.2.size) { d with changes := d.changes + 1 } [.slice As d.blocks.length cs, .slice Ap d.pending.length cp, .slice (some ⟨b, o, none⟩) d.falls.length cf, .int .i64 ((d.changes : Int) + 1), .bool d.down] ⟨As, cs, Ap, cp, some ⟨b, o, none⟩, cf, by simp [DS.rx], HR.out.1.below HX.out.2.2.drewR, HR.out.2.1.below HX.out.2.2.drewR, HR.out.2.2.below HX.out.2.2.drewR⟩ (hG.tick _) f hfk.1)
        go_wp2_with fail
        refine wp_region_plan (.take 0 (.take 1 (.take 2 (.take 3 (.take 4 (.take 5 (.run 6 [] (.run 7 [] (.take 8 .fin))))))))) (by kernel_rfl) (by kernel_rfl) (by kernel_rfl) (by kernel_rfl) ?_
        simp only [walk, again, sel, List.getElem?_toArray, List.getElem?_cons_zero, List.getElem?_cons_succ]
        repeat (intro Z hZ; go_wp2_with (fail))
        have HXE : Hid ((d.strike.1.rx, d.strike.2) = ((({ d with changes := d.changes + 1 } : DS).crash f).rx, 6)) := by
          show _ = _
          rw [HST.out, HFF.out, HF.out]
        generalize (({ d with changes := d.changes + 1 } : DS).crash f).rx = x7 at HC HXE
        refine HC.out.mono ?_
        rintro e w7 ⟨c7, rfl, hx7, hb7⟩
        have HX7 := Lib.hid (And.intro (HX.out.2.1.drew.below hb7) (And.intro (HX.out.2.2.then ((below_drew W).trans hb7)) hx7))
        obtain ⟨As7, cs7, Ap7, cp7, Af7, cf7, rfl, -, -, -⟩ := hx7
        have hcc7 := HX7.out.1.c5
        clear hcc hb7 HC d0 d1 d2
        go_wp2_with fail
        repeat (intro Z hZ; go_wp2_with (fail))
        refine ret_set5n HX7.out.1 rfl rfl rfl rfl rfl (fun W hW => load_rx hW) fun W2 hW hg => ?_
        show RetXN S w (d.strike.1.rx, d.strike.2) _ _
        rw [HXE.out]
        exact ⟨_, rfl, HX7.out.2.2.keptG HX7.out.1 hg, below_of_grown HX7.out.2.1 hg (by omega) HX7.out.2.1.size⟩
      · have heb : (d.falls[i].at_ == (d.changes : Int)) = false := by simpa using he
        have HF := Lib.hid (fallFrom_miss hlt2 he)
        clear he
        generalize d.falls[i] = f at d0 d1 d2 hfk heb
        go_wp2_with fail
        go_round
        case rel => exact ⟨i + 1, by omega, by go_num, HFF.out.trans HF.out⟩
        case measure => simp [intOf]; omega
    · have hii : ¬ (i : Int) < (d.falls.length : Int) := by omega
      go_wp2_with fail
      refine ret_set5n HX.out.2.1 rfl rfl rfl rfl rfl (fun W hW => load_rx hW) fun W2 hW hg => ?_
      have HE : d.strike = ({ d with changes := d.changes + 1 }, 0) := by rw [HST.out, HFF.out, fallFrom_end (by omega)]
      show RetXN S w (d.strike.1.rx, d.strike.2) _ _
      rw [HE]
      exact ⟨_, rfl, ⟨As, cs, Ap, cp, Af, cf, by simp [DS.rx], HR.out.1.keptG HX.out.2.2 hg (by omega), HR.out.2.1.keptG HX.out.2.2 hg (by omega), HR.out.2.2.keptG HX.out.2.2 hg (by omega)⟩, below_of_grown HX.out.2.2 hg (by omega) (by omega)⟩
end Go.Proofs.Ythbanhedjfpmaaa
