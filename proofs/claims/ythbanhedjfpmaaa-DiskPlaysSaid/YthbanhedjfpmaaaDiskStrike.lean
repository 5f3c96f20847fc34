/-
  The contract of disk's strike.
-/
import Derived.Test.YthbanhedjfpmaaaDiskCrash
namespace Go.Proofs.Ythbanhedjfpmaaa
set_option linter.unusedSimpArgs false
set_option linter.unusedVariables false
open Go.RowKit

/-- A change counts; the power fails, if that is planned. -/
def DS.strike (d : DS) : DS × Int :=
  match d.falls.find? (fun f => f.at_ == (d.changes : Int)) with
  | some f => (({ d with changes := d.changes + 1 } : DS).crash f, 6)
  | none => ({ d with changes := d.changes + 1 }, 0)
def fallFrom (L : List DF) (n : Int) (i : Nat) : Option DF := (L.drop i).find? (fun f => f.at_ == n)
theorem fallFrom_hit {L : List DF} {n : Int} {i : Nat} (hi : i < L.length) (h : L[i].at_ = n) : fallFrom L n i = some L[i] := by
  unfold fallFrom
  rw [List.drop_eq_getElem_cons hi, List.find?_cons_of_pos (by simpa using h)]
theorem fallFrom_miss {L : List DF} {n : Int} {i : Nat} (hi : i < L.length) (h : L[i].at_ ≠ n) : fallFrom L n i = fallFrom L n (i + 1) := by
  unfold fallFrom
  rw [List.drop_eq_getElem_cons hi, List.find?_cons_of_neg (by simpa using h)]
theorem fallFrom_end {L : List DF} {n : Int} {i : Nat} (hi : L.length ≤ i) : fallFrom L n i = none := by
  unfold fallFrom
  rw [List.drop_eq_nil_of_le hi]; rfl
theorem DiskAt.setChanges {w : World} {B : Nat} {k : KB} {d : DS} (h : DiskAt w B k d) (n : Nat) (x : Int) (hx : x = (n : Int)) : DiskAt (w.setCell ⟨k.gd, 3, none⟩ (.int .i64 x)) B k { d with changes := n } := by
  subst hx
  obtain ⟨hne, hlt, hlt2, hB⟩ := h.head
  obtain ⟨⟨cb, np, cp, nf, cf, Ap, Af, rfl, rfl, h3, h4, h5, h6, h7, h8, h9, h10, h11⟩, lo⟩ := h
  refine ⟨⟨cb, _, cp, _, cf, Ap, Af, rfl, rfl, h3, h4, h5, h6.set3, ?_, ?_, ?_, h10, h11⟩, lo⟩
  · exact h7.set _ (fun a ha => by obtain rfl := Option.some.inj ha; exact fun e => hne e.symm) _
  · exact h8.keep2 (by simp) (fun a ha _ => heap_setCell_other w ⟨k.gd, 3, none⟩ _ _ (fun e => h10 a ha (.inl e)))
  · exact h9.keep2 (by simp) (fun a ha _ => heap_setCell_other w ⟨k.gd, 3, none⟩ _ _ (fun e => h11 a ha (.inl e)))
theorem df_at {w : World} {A : Option Addr} {L : List DF} (h : ERow eDF w A L) {i : Nat} (hi : i < L.length) : ∃ b o, A = some ⟨b, o, none⟩ ∧ b < w.heap.size ∧
    w.cell? ⟨b, o + i * 3, none⟩ = some (.int .i64 L[i].at_) ∧ w.cell? ⟨b, o + i * 3 + 1, none⟩ = some (.int .u64 (L[i].keep : Nat)) ∧ w.cell? ⟨b, o + i * 3 + 2, none⟩ = some (.int .i64 L[i].torn) := by
  obtain ⟨b, o, e, hb, hc⟩ := h.at_ hi
  exact ⟨b, o, e, hb, hc 0 _ rfl, hc 1 _ rfl, hc 2 _ rfl⟩
theorem DiskAt.falls_row {w : World} {B : Nat} {k : KB} {d : DS} (h : DiskAt w B k d) : ∃ cf Af, w.cell? ⟨k.gd, 2, none⟩ = some (.slice Af d.falls.length cf) ∧ ERow eDF w Af d.falls := by
  obtain ⟨⟨cb, np, cp, nf, cf, Ap, Af, rfl, rfl, h3, h4, h5, h6, h7, h8, h9, h10, h11⟩, lo⟩ := h
  exact ⟨cf, Af, h6.cell 2, h9.row⟩

set_option maxRecDepth 20000 in
set_option maxHeartbeats 1000000 in
theorem strike_any (w : World) (B : Nat) (k : KB) (d : DS) (h : DiskAt w B k d) (hG : DGood d) (hch : d.changes < 1000000000) :
    Calls Try.prog 49 #[.pointer (some ⟨k.gd, 0, none⟩)] w fun e w' => e = .returned (.int .i64 d.strike.2) ∧ DiskAt w' B k d.strike.1 ∧ Keeps w w' k.own := by
  have hf1 := hG.f1
  obtain ⟨cb, cp, cf, Ap, Af, hc⟩ := h.open_
  have HS := Lib.hid (And.intro (h.setChanges (d.changes + 1) ((d.changes : Int) + 1) (by omega)) ((Keeps.refl w k.own).set ⟨k.gd, 3, none⟩ (.inl (.inl rfl)) (.int .i64 ((d.changes : Int) + 1))))
  have HST : Hid (d.strike = match fallFrom d.falls (d.changes : Int) 0 with
    | some f => (({ d with changes := d.changes + 1 } : DS).crash f, 6)
    | none => ({ d with changes := d.changes + 1 }, 0)) := by show _ = _; unfold DS.strike fallFrom; rfl
  clear h
  go_enter Try.func49, Try.ntmps49
  go_upto_region 3 with (fail)
  generalize (World.setCell w _ _) = W at HS ⊢
  clear hc
  obtain ⟨cf', Af', hc2, hrow⟩ := HS.out.1.falls_row
  have hlt := HS.out.1.head.2.1
  have HR := Lib.hid hrow
  clear hrow
  go_wp2_with fail
  go_loopw [22] (fun iv wr => ∃ i : Nat, i ≤ d.falls.length ∧ iv = .int .i64 i ∧ Hid (Below W.heap.size W wr ∧ fallFrom d.falls (d.changes : Int) 0 = fallFrom d.falls (d.changes : Int) i)) (fun iv _ => d.falls.length - (intOf iv).toNat)
  case atStart => exact ⟨0, by omega, rfl, Below.refl _ _, rfl⟩
  case round =>
    obtain ⟨i, hi, rfl, HJ⟩ := hrel
    have hz := HJ.out.1.size
    by_cases hlt2 : i < d.falls.length
    · have hii : (i : Int) < (d.falls.length : Int) := by omega
      obtain ⟨b, o, rfl, hb, d0, d1, d2⟩ := df_at (HR.out.below HJ.out.1) hlt2
      have hfk := hG.fk d.falls[i] (List.getElem_mem hlt2)
      by_cases he : d.falls[i].at_ = (d.changes : Int)
      · have heb : (d.falls[i].at_ == (d.changes : Int)) = true := by simpa using he
        have HF := Lib.hid (fallFrom_hit hlt2 he)
        clear he
        have HG' : Hid (DGood { d with changes := d.changes + 1 }) := ⟨hG.b0, hG.b1, hG.p1, hG.f1, hG.at_, hG.fk⟩
        generalize d.falls[i] = f at d0 d1 d2 hfk heb HF
        have HC : Hid (∀ o : Obj, Calls Try.prog 19 #[.pointer (some ⟨k.gd, 0, none⟩), .agg #[.int .i64 f.at_, .int .u64 (f.keep : Nat), .int .i64 f.torn]] (wr.alloc o) fun e w' => e = .returned (.tuple #[]) ∧ DiskAt w' B k (({ d with changes := d.changes + 1 } : DS).crash f) ∧ Keeps (wr.alloc o) w' k.own) :=
          fun o => crash_any (wr.alloc o) B k _ ((HS.out.1.below HJ.out.1).below ((Below.refl _ _).alloc (Nat.le_refl _) o)) HG'.out f hfk.1
        go_wp2_with fail
        refine (HC.out _).mono ?_
        rintro e w5 ⟨rfl, hD5, hK5⟩
        have HF5 := Lib.hid (And.intro hD5 ((HS.out.2.trans (Keeps.of_below HJ.out.1)).trans ((Keeps.of_below ((Below.refl _ _).alloc (Nat.le_refl _) _)).trans hK5)))
        clear hD5 hK5
        go_wp2_with fail
        go_ret
        rw [HST.out, HJ.out.2, HF.out]
        exact ⟨rfl, HF5.out⟩
      · have heb : (d.falls[i].at_ == (d.changes : Int)) = false := by simpa using he
        have HF := Lib.hid (fallFrom_miss hlt2 he)
        clear he
        generalize d.falls[i] = f at d0 d1 d2 hfk heb
        go_wp2_with fail
        go_roundw
        case rel => exact ⟨i + 1, by omega, by go_num, HJ.out.1.alloc hz _, HJ.out.2.trans HF.out⟩
        case measure => simp [intOf]; omega
    · have hii : ¬ (i : Int) < (d.falls.length : Int) := by omega
      go_wp2_with fail
      go_ret
      rw [HST.out, HJ.out.2, fallFrom_end (by omega)]
      exact ⟨rfl, HS.out.1.below HJ.out.1, HS.out.2.trans (Keeps.of_below HJ.out.1)⟩
end Go.Proofs.Ythbanhedjfpmaaa
