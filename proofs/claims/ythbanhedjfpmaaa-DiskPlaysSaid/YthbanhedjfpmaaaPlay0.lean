/-
  DiskPlays: what holds of a disk and the document's between two things that are done.
-/
import Derived.Test.YthbanhedjfpmaaaRefD5
namespace Go.Proofs.Ythbanhedjfpmaaa
set_option linter.unusedSimpArgs false
set_option linter.unusedVariables false
open Go.RowKit

/-- What is now there is the last of the writes, or what is sure. -/
def NowOk (d : DS) : Prop := ∀ i (h : i < d.blocks.length), d.blocks[i].now.l = lastW i d.blocks[i].sure.l d.pending
theorem lastW_snoc (i : Nat) (s : List UInt8) (ws : List DW) (x : DW) : lastW i s (ws ++ [x]) = if x.at_ = (i : Int) then x.b.l else lastW i s ws := by
  unfold lastW; rw [List.foldl_append]; rfl
theorem NowOk.crash {d : DS} (h : NowOk d) (f : DF) : NowOk (d.crash f) := by
  unfold DS.crash
  split
  · exact h
  · intro i hi
    simp only [List.getElem_map]
    rfl
theorem NowOk.tick {d : DS} (h : NowOk d) (n : Nat) : NowOk { d with changes := n } := h
theorem NowOk.strike {d : DS} (h : NowOk d) : NowOk d.strike.1 := by
  unfold DS.strike
  split
  · exact (h.tick _).crash _
  · exact h.tick _
theorem NowOk.write {d : DS} (h : NowOk d) (i : Int) (l : List UInt8) : NowOk (d.write i l).1 := by
  unfold DS.write
  split
  · exact h
  · rename_i hw
    split
    · rename_i hl
      unfold DS.put
      refine NowOk.strike ?_
      obtain ⟨-, h0, h1⟩ := why_zero (Classical.not_not.1 hw)
      intro j hj
      simp only [List.length_set] at hj
      rw [lastW_snoc]
      have hlt : i.toNat < d.blocks.length := by omega
      by_cases e : i.toNat = j
      · subst e
        simp [hlt]
      · simp only [List.getElem_set_ne e]
        rw [if_neg (by simp; omega)]
        exact h j hj
    · exact h
theorem sureAll_last : ∀ (ws : List DW) (L : List DB) (i : Nat) (h : i < L.length), (∀ x ∈ ws, 0 ≤ x.at_) → ((sureAll ws L)[i]'(by rw [sureAll_length]; exact h)).sure.l = lastW i L[i].sure.l ws
  | [], _, _, _, _ => rfl
  | x :: ws, L, i, h, hp => by
    have hx := hp x (by simp)
    simp only [sureAll]
    rw [sureAll_last ws _ i (by simpa using h) (fun y hy => hp y (by simp [hy]))]
    unfold lastW
    rw [List.foldl_cons]
    congr 1
    by_cases e : x.at_.toNat = i
    · subst e
      rw [if_pos (by omega)]
      simp
    · rw [if_neg (by omega)]
      simp [List.getElem_set_ne e]
theorem NowOk.settled {d : DS} (h : NowOk d) (hG : DGood d) : NowOk d.settled := by
  intro i hi
  have hi' : i < d.blocks.length := by simpa [DS.settled, sureAll_length] using hi
  have h1 := sureAll_last d.pending d.blocks i hi' (fun x hx => (hG.at_ x hx).1)
  have h2 := sureAll_now d.pending d.blocks i
  have hl : i < (sureAll d.pending d.blocks).length := by rw [sureAll_length]; exact hi'
  simp only [List.getD_eq_getElem?_getD, List.getElem?_eq_getElem hl, List.getElem?_eq_getElem hi', Option.getD_some] at h2
  show ((sureAll d.pending d.blocks)[i]'hl).now.l = ((sureAll d.pending d.blocks)[i]'hl).sure.l
  rw [h1, h2]
  exact h i hi'
theorem NowOk.flush {d : DS} (h : NowOk d) (hG : DGood d) : NowOk d.flush.1 := by
  unfold DS.flush
  split
  · exact h
  · split
    · exact h.strike
    · exact h.strike.settled hG.strike
theorem NowOk.fresh (n : Nat) : NowOk (DS.new n) := by
  intro i hi
  have e : (DS.new n).blocks[i] = ⟨B512.zero, B512.zero⟩ := by simp [DS.new]
  rw [e]
  rfl
theorem write_length (d : DS) (i : Int) (l : List UInt8) : (d.write i l).1.blocks.length = d.blocks.length := by
  have hs : ∀ d : DS, d.strike.1.blocks.length = d.blocks.length := fun d => by
    unfold DS.strike
    split
    · rw [crash_length]
    · rfl
  unfold DS.write
  split
  · rfl
  · split
    · unfold DS.put; rw [hs]; simp
    · rfl
theorem flush_length (d : DS) : d.flush.1.blocks.length = d.blocks.length := by
  have hs : d.strike.1.blocks.length = d.blocks.length := by
    unfold DS.strike
    split
    · rw [crash_length]
    · rfl
  unfold DS.flush
  split
  · rfl
  · split
    · exact hs
    · rw [show d.strike.1.settled.blocks = sureAll d.strike.1.pending d.strike.1.blocks from rfl, sureAll_length]; exact hs

section
variable {S : Nat → Prop} {w0 w w' : World} {B : Nat} {k : KB} {d : DS} {n g : Nat} {c : List Value} {x : RX}
theorem RefX.kept (h : RefX S w c x) (hk : Keeps w w' S) : RefX S w' c x := by
  obtain ⟨As, cs, Ap, cp, Af, cf, h1, h2, h3, h4⟩ := h
  exact ⟨As, cs, Ap, cp, Af, cf, h1, h2.kept hk, h3.kept hk, h4.kept hk⟩
theorem RefX.setByte (h : RefX S w c x) {p : Addr} {m : Int} {u : Value} (hc : w.cell? p = some (.int .u8 m)) : RefX S (w.setCell p u) c x := by
  obtain ⟨As, cs, Ap, cp, Af, cf, h1, h2, h3, h4⟩ := h
  exact ⟨As, cs, Ap, cp, Af, cf, h1, h2.setCellV hc (fun x => by simp [eStr, txt]), h3.setCellV hc (fun x => by simp [eRW, txt]), h4.setCellV hc (fun x => by simp [eDF])⟩
/-- A block of another kind turns. -/
theorem EOwn.otherK {α : Type} {E : Elem α} {c : Nat} {A : Option Addr} {L : List α} {T : TypeId} (h : EOwn E w B A c L) (hk : ∃ cur, w.heap[g]? = some (.cells cur T (0, 0))) (hne : T ≠ E.e) (hg : w.grownBy w' (some g)) : EOwn E w' B A c L :=
  h.keep fun a ha => by
    obtain ⟨cur, hk2⟩ := h.kind a ha
    obtain ⟨cur', hk⟩ := hk
    refine hg.block _ (h.block a ha).2 ?_
    simp only [ne_eq, Option.some.injEq]
    rintro rfl
    rw [hk] at hk2
    simp only [Option.some.injEq, Obj.cells.injEq] at hk2
    exact hne hk2.2.1
theorem Blk.otherK {T T' : TypeId} {cs : List Value} {g' : Nat} (h : Blk w g' T' cs) (hk : ∃ cur, w.heap[g]? = some (.cells cur T (0, 0))) (hne : T ≠ T') (hg : w.grownBy w' (some g)) : Blk w' g' T' cs := by
  obtain ⟨cur', hk⟩ := hk
  refine h.grown hg ?_
  simp only [ne_eq, Option.some.injEq]
  rintro rfl
  unfold Blk at h
  rw [hk] at h
  simp only [Option.some.injEq, Obj.cells.injEq] at h
  exact hne h.2.1
theorem DiskAt.otherK {T : TypeId} (h : DiskAt w B k d) (hk : ∃ cur, w.heap[g]? = some (.cells cur T (0, 0))) (hT : notDisk T) (hg : w.grownBy w' (some g)) : DiskAt w' B k d := by
  obtain ⟨t1, t2, t3, t4⟩ := hT
  obtain ⟨⟨cb, np, cp, nf, cf, Ap, Af, h1, h2, h3, h4, h5, h6, h7, h8, h9, h10, h11⟩, lo⟩ := h
  exact ⟨⟨cb, np, cp, nf, cf, Ap, Af, h1, h2, h3, h4, h5, h6.otherK hk t1 hg, h7.otherK hk t2 hg, h8.otherK hk t3 hg, h9.otherK hk t4 hg, h10, h11⟩, lo⟩
theorem DL.otherK {T : TypeId} (h : DL w0 w k d n) (hk : ∃ cur, w.heap[g]? = some (.cells cur T (0, 0))) (hT : notDisk T) (hg : w.grownBy w' (some g)) (hlo : w0.heap.size ≤ g) : DL w0 w' k d n :=
  ⟨h.at_.otherK hk hT hg, h.good, h.ch, h.pe, (Keeps.of_grown hg).below h.bel h.bel.size (fun i hi => by subst hi; exact hlo)⟩
theorem BOwn.kind {c : Nat} {A : Option Addr} {l : List UInt8} (h : BOwn w B A c l) : ∀ a, A = some a → ∃ cur, w.heap[a.block]? = some (.cells cur 5 (0, 0)) := by
  intro a ha
  rcases h.2 with ⟨hv, h0⟩ | ⟨g, cap, cur, hv, hb, hg, hn, hm, _⟩
  · simp only [Value.slice.injEq] at hv
    rw [ha] at hv
    cases hv.1
  · simp only [Value.slice.injEq] at hv
    rw [ha] at hv
    obtain rfl := Option.some.inj hv.1
    exact ⟨_, hg⟩
end
theorem nd_u8 : notDisk 5 := by refine ⟨?_, ?_, ?_, ?_⟩ <;> decide
/-- Behind one thing that was done. -/
def PlayOk (w0 w : World) (k : KB) (d : DS) (n : Nat) (e : Ending) (w' : World) : Prop := ∃ d' c', e = .returned (.tuple #[.agg c'.toArray, .bool true]) ∧ DL w0 w' k d' (n + 1) ∧ Keeps w w' k.own ∧ RefX k.own w' c' d'.rx ∧ NowOk d' ∧ d'.blocks.length = d.blocks.length
set_option maxHeartbeats 1000000 in
theorem plan_apart (w : World) (B : Nat) (k : KB) (d : DS) (h : DiskAt w B k d) (A : Option Addr) (c : Nat) (L : List DF) (hr : ERow eDF w A L) (hl : L.length ≤ 1000000) :
    Calls Try.prog 24 #[.pointer (some ⟨k.gd, 0, none⟩), .slice A L.length c] w fun e w' => e = .returned (.tuple #[]) ∧ w.grownBy w' (some k.gd) ∧ DiskAt w' B k { d with falls := L } ∧
      ∀ g, g < w.heap.size → (∃ cur, w'.heap[g]? = some (.cells cur eDF.e (0, 0))) → ∀ W', w'.grownBy W' (some g) → DiskAt W' B k { d with falls := L } := by
  have HC := Lib.hid (clonef_any w A c L hr hl)
  have HH := Lib.hid h
  obtain ⟨hne, hlt, hlt2, hB⟩ := h.head
  clear h hr
  go_enter Try.func24, Try.ntmps24
  go_wp2_with fail
  refine HC.out.mono ?_
  intro e w1 hI
  obtain ⟨A1, c1, rfl, ho1, hb1⟩ := hI
  obtain ⟨⟨cb, np, cp, nf, cf, Ap, Af, rfl, rfl, h3, h4, h5, h6, h7, h8, h9, h10, h11⟩, lo⟩ := HH.out.below hb1
  have hc := h6.c5
  have HS := Lib.hid (And.intro h6 (And.intro h7 (And.intro h8 (And.intro ho1 hb1))))
  clear h6 h7 h8 h9 ho1 hb1
  go_wp2_with fail
  obtain ⟨h6, h7, h8, ho1, hb1⟩ := HS.out
  go_end0
  have k6 := h6.set 2 (.slice A1 L.length c1)
  have k7 := h7.set ⟨k.gd, 2, none⟩ (fun a ha => by obtain rfl := Option.some.inj ha; exact fun e => hne e.symm) (.slice A1 L.length c1)
  have k8 := h8.keep2 (w' := w1.setCell ⟨k.gd, 2, none⟩ (.slice A1 L.length c1)) (by simp) (fun a ha _ => heap_setCell_other w1 ⟨k.gd, 2, none⟩ _ _ (fun e => h10 a ha (.inl e)))
  have k9 := ho1.keep2 (w' := w1.setCell ⟨k.gd, 2, none⟩ (.slice A1 L.length c1)) (by simp) (fun a ha _ => heap_setCell_other w1 ⟨k.gd, 2, none⟩ _ _ (fun e => by have h := (ho1.block a ha).1; rw [e] at h; simp only at h; omega))
  have kA : ∀ a, A1 = some a → ¬ k.own a.block := by
    intro a ha ho
    have h := (ho1.block a ha).1
    rcases ho with e | e <;> omega
  refine ⟨rfl, (grown_of_below hb1 _).set_ ⟨k.gd, 2, none⟩ rfl _, ⟨⟨cb, _, cp, _, c1, Ap, A1, rfl, rfl, h3, h4, h5, k6, k7, k8, k9.mono (by omega), h10, kA⟩, lo⟩, fun g hg hk W' hgW => ?_⟩
  refine ⟨⟨cb, _, cp, _, c1, Ap, A1, rfl, rfl, h3, h4, h5, k6.otherK hk (by decide) hgW, k7.otherK hk (by decide) hgW, k8.otherK hk (by decide) hgW, ?_, h10, kA⟩, lo⟩
  refine (k9.keep fun a ha => hgW.block _ (k9.block a ha).2 ?_).mono (by omega)
  simp only [ne_eq, Option.some.injEq]
  intro e
  have := (k9.block a ha).1
  omega
end Go.Proofs.Ythbanhedjfpmaaa
