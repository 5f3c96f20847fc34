/-
  The contract of pool's place.
-/
import Derived.Test.YtjaopecjmmnbiaaPoolMark
namespace Go.Proofs.Ytjaopecjmmnbiaa
open Go.RowKit Go.Maps

section
variable {w w' : World} {B N c : Nat} {b : PB} {p : PS}
theorem PoolAt.below (h : PoolAt w B b N c p) (hb : Below w.heap.size w w') : PoolAt w' B b N c p :=
  ⟨h.lp, h.lf, h.lm, (hb.block _ (Array.getElem?_eq_some_iff.1 h.head).1).trans h.head, h.frames.below hb, h.map.below hb, fun f hf => (h.bytes f hf).below hb, h.far⟩
theorem PoolAt.fheap (h : PoolAt w B b N c p) (h0 : 0 < p.L.length) : ∃ cur, w.heap[b.gf]? = some (.cells cur 65 (0, 0)) := by
  rcases h.frames.2 with ⟨hv, hz⟩ | ⟨g, cap, cur, hv, _, hg, _⟩
  · omega
  · simp only [Value.slice.injEq, Option.some.injEq, Addr.mk.injEq] at hv
    obtain ⟨⟨rfl, _, _⟩, _⟩ := hv
    exact ⟨cur, hg⟩
theorem PoolAt.mheap (h : PoolAt w B b N c p) : ∃ es clock, w.heap[b.gm]? = some (.map es clock) := by
  obtain ⟨D, ⟨es, clock, h1, _⟩, _⟩ := h.map
  exact ⟨es, clock, h1⟩
theorem PoolAt.ne (h : PoolAt w B b N c p) (h0 : 0 < p.L.length) : b.gp ≠ b.gf ∧ b.gp ≠ b.gm ∧ b.gf ≠ b.gm := by
  obtain ⟨cur, hf⟩ := h.fheap h0
  obtain ⟨es, clock, hm⟩ := h.mheap
  refine ⟨fun e => ?_, fun e => ?_, fun e => ?_⟩
  · rw [← e, h.head] at hf
    simp at hf
  · rw [← e, h.head] at hm
    simp at hm
  · rw [← e, hf] at hm
    simp at hm
end

section
variable {w : World} {B N c : Nat} {b : PB} {p : PS}
theorem PoolAt.setHand (h : PoolAt w B b N c p) (h0 : 0 < p.L.length) (x : Nat) : PoolAt (w.setCell ⟨b.gp, 1, none⟩ (.int .i64 (x : Nat))) B b N c { p with hand := x } := by
  have hne := h.ne h0
  have e := set_cells h.head 1 (.int .i64 (x : Nat))
  simp at e
  refine ⟨h.lp, h.lf, h.lm, e, h.frames.set _ (fun a ha => ?_) _, h.map.set _ (fun e => hne.2.1 e.symm) _, fun f hf => (h.bytes f hf).far (fun a ha hb => h.far f hf a ha (.inl hb)) _, h.far⟩
  obtain rfl := Option.some.inj ha
  exact fun e => hne.1 e.symm
theorem PoolAt.setMark (h : PoolAt w B b N c p) {j : Nat} (hj : j < p.L.length) (x : Bool) : PoolAt (w.setCell ⟨b.gf, j * 3 + 1, none⟩ (.bool x)) B b N c { p with L := p.L.set j { p.L[j] with mark := x } } := by
  have hne := h.ne (by omega)
  have hh : (w.setCell ⟨b.gf, j * 3 + 1, none⟩ (.bool x)).heap[b.gp]? = w.heap[b.gp]? := heap_setCell_other w ⟨b.gf, j * 3 + 1, none⟩ b.gp _ hne.1
  have hset : ∀ f ∈ p.L.set j { p.L[j] with mark := x }, ∃ g ∈ p.L, f.A = g.A ∧ f.s = g.s := by
    intro f hf
    rcases List.mem_or_eq_of_mem_set hf with h1 | h1
    · exact ⟨f, h1, rfl, rfl⟩
    · subst h1
      exact ⟨p.L[j], List.getElem_mem hj, rfl, rfl⟩
  refine ⟨h.lp, h.lf, h.lm, ?_, h.frames.storeMark hj x, ?_, fun f hf => ?_, fun f hf a ha => ?_⟩
  · rw [hh, h.head, List.length_set]
  · rw [whereOf_mark _ _ hj]
    exact h.map.set _ (fun e => hne.2.2 e.symm) _
  · obtain ⟨g, hg, e1, e2⟩ := hset f hf
    rw [e1, e2]
    exact (h.bytes g hg).far (fun a ha hb => h.far g hg a ha (.inr (.inl hb))) _
  · obtain ⟨g, hg, e1, e2⟩ := hset f hf
    exact h.far g hg a (e1 ▸ ha)
end
/-- How many frames are marked, read off the memory. -/
def isMark (w : World) (gf j : Nat) : Bool := match w.cell? ⟨gf, j * 3 + 1, none⟩ with | some (.bool true) => true | _ => false
def markCount (w : World) (gf n : Nat) : Nat := ((List.range n).filter (isMark w gf)).length
theorem markCount_eq {w : World} {B c gf : Nat} {L : List Fr} (h : FOwn w B (some ⟨gf, 0, none⟩) c L) : markCount w gf L.length = marked L := by
  have e : L = (List.range L.length).map fun j => L.getD j fr0 := by
    apply List.ext_getElem (by simp)
    intro i h1 h2
    simp [h1]
  have e2 : marked L = ((List.range L.length).filter ((·.mark) ∘ fun j => L.getD j fr0)).length := by
    unfold marked
    conv => lhs; rw [e, List.filter_map, List.length_map]
  rw [e2]
  unfold markCount
  congr 1
  apply List.filter_congr
  intro j hj
  have hj' : j < L.length := List.mem_range.1 hj
  have hc := (h.cell hj').2.1
  unfold isMark
  rw [hc]
  simp [hj']
  cases L[j].mark <;> rfl

set_option maxRecDepth 20000 in
set_option maxHeartbeats 1000000 in
theorem place_any (w : World) (B N c : Nat) (b : PB) (p : PS) (hP : PoolAt w B b N c p) (hL : p.L.length ≤ 64) (h0 : 0 < p.L.length) (hh : p.hand < p.L.length) :
    Calls Try.prog 21 #[.pointer (some ⟨b.gp, 0, none⟩)] w fun e w' => e = .returned (.int .i64 (p.place.1 : Nat)) ∧ PoolAt w' B b N c p.place.2 ∧ Keeps w w' b.own := by
  have c0 : w.cell? ⟨b.gp, 0, none⟩ = some (.slice (some ⟨b.gf, 0, none⟩) p.L.length c) := by rw [cell_of_row w _ 0 _ _ _ hP.head]; rfl
  have HP := Lib.hid hP
  have HI := Lib.hid (indexFunc_any w (some ⟨b.gf, 0, none⟩) c p.L hP.frames.row (by omega))
  clear hP
  go_enter Try.func21, Try.ntmps21
  go_wp2_with fail
  refine HI.out.mono ?_
  rintro e w1 ⟨rfl, hb1⟩
  have HP1 := Lib.hid (HP.out.below hb1)
  have HK1 : Hid (Keeps w w1 b.own) := Keeps.of_below hb1
  clear hb1 c0
  by_cases hf : 0 ≤ firstEmpty p.L 0
  · have HE : Hid (p.place = ((firstEmpty p.L 0).toNat, p)) := by show _ = _; unfold PS.place; rw [if_pos hf]
    have hfn : ((firstEmpty p.L 0).toNat : Int) = firstEmpty p.L 0 := by omega
    rw [← hfn]
    have HFN := Lib.hid hfn
    clear hfn
    generalize (firstEmpty p.L 0).toNat = q at HE ⊢
    go_wp2_with fail
    go_ret
    rw [HE.out]
    exact ⟨rfl, HP1.out, HK1.out⟩
  · have HE : Hid (p.place = ((sweep (marked p.L + 1) p.L p.hand).1, { p with L := (sweep (marked p.L + 1) p.L p.hand).2.1, hand := (sweep (marked p.L + 1) p.L p.hand).2.2 })) := by show _ = _; unfold PS.place; rw [if_neg hf]
    generalize firstEmpty p.L 0 = q at hf ⊢
    go_wp2_with fail
    go_loopw [4] (fun _ wr => ∃ (L : List Fr) (h f : Nat), h < L.length ∧ L.length = p.L.length ∧ marked L < f ∧ Hid (PoolAt wr B b N c { p with L := L, hand := h }) ∧ Hid (sweep (marked p.L + 1) p.L p.hand = sweep f L h) ∧ Hid (Keeps w wr b.own)) (fun _ wr => markCount wr b.gf p.L.length)
    case atStart => exact ⟨p.L, p.hand, _, hh, rfl, Nat.lt_succ_self _, HP1, rfl, HK1⟩
    case round =>
      obtain ⟨L, h, f, hhl, hlen, hmf, HPr, HSW, HK⟩ := hrel
      have c0 : wr.cell? ⟨b.gp, 0, none⟩ = some (.slice (some ⟨b.gf, 0, none⟩) L.length c) := by rw [cell_of_row wr _ 0 _ _ _ HPr.out.head]; rfl
      have c1 : wr.cell? ⟨b.gp, 1, none⟩ = some (.int .i64 (h : Nat)) := by rw [cell_of_row wr _ 1 _ _ _ HPr.out.head]; rfl
      have f1 : wr.frozen? ⟨b.gp, 1, none⟩ = false := frozen_of_row wr _ 1 _ _ HPr.out.head
      have hne := HPr.out.ne (by show 0 < L.length; omega)
      have hmod : (((h : Int) + 1).tmod (L.length : Int)) = (((h + 1) % L.length : Nat) : Int) := by
        rw [Int.tmod_eq_emod_of_nonneg (by omega)]; simp
      have hnz : (L.length : Int) ≠ 0 := by omega
      have hnz2 : ((L.length : Int) == 0) = false := by simpa using hnz
      have hhi : (h : Int) < (L.length : Int) := by omega
      have hmk := (HPr.out.frames.cell hhl).2.1
      simp only at hmk
      have hne1 : b.gf ≠ b.gp := fun e => hne.1 e.symm
      have fm : wr.frozen? ⟨b.gf, h * 3 + 1, none⟩ = false := HPr.out.frames.free _
      have hlt2 : (h + 1) % L.length < L.length := Nat.mod_lt _ (by omega)
      obtain ⟨h', hh'⟩ : ∃ h', (h + 1) % L.length = h' := ⟨_, rfl⟩
      have hmodi : ((h : Int) + 1) % (L.length : Int) = (h' : Int) := by rw [← hh']; simp
      have HLEN := Lib.hid hlen
      have hLL : L.length ≤ 64 := by omega
      have hLLi : (L.length : Int) ≤ 64 := by omega
      rw [← hlen]
      clear hlen
      obtain ⟨f, rfl⟩ : ∃ f', f = f' + 1 := ⟨f - 1, by omega⟩
      have hP1 := HPr.out.setHand (by show 0 < L.length; omega) h'
      have HP1' := Lib.hid hP1
      have HK1' : Hid (Keeps w (wr.setCell ⟨b.gp, 1, none⟩ (.int .i64 (h' : Nat))) b.own) := HK.out.set _ (.inl (.inl rfl)) _
      clear hP1
      rw [hh'] at hlt2 hmod
      have HH := Lib.hid hh'
      clear hh'
      by_cases hm : L[h].mark = true
      · rw [hm] at hmk
        have hP2 := HP1'.out.setMark (j := h) hhl false
        have HP2 := Lib.hid hP2
        have HK2 : Hid (Keeps w ((wr.setCell ⟨b.gp, 1, none⟩ (.int .i64 (h' : Nat))).setCell ⟨b.gf, h * 3 + 1, none⟩ (.bool false)) b.own) := HK1'.out.set _ (.inl (.inr (.inl rfl))) _
        clear hP2
        have hms := marked_set L h hhl hm
        have HM := Lib.hid hm
        clear hm
        go_wp2_with fail
        go_roundw
        case rel =>
          refine ⟨L.set h { L[h] with mark := false }, h', f, by rw [List.length_set]; exact hlt2, List.length_set .., Nat.lt_of_succ_le (Nat.le_trans (Nat.le_of_eq hms) (Nat.le_of_lt_succ hmf)), HP2.out, ?_, HK2.out⟩
          show _ = _
          rw [HSW.out]
          conv => lhs; unfold sweep
          rw [dif_pos hhl, if_pos HM.out, HH.out]
        case measure =>
          have e1 := markCount_eq HPr.out.frames
          have e2 := markCount_eq HP2.out.frames
          simp only [List.length_set] at e1 e2
          rw [e1, e2]
          exact Nat.lt_of_succ_le (Nat.le_of_eq hms)
      · have hmf' : L[h].mark = false := by simpa using hm
        rw [hmf'] at hmk
        have HM := Lib.hid hm
        clear hm hmf'
        go_wp2_with fail
        go_ret
        have hsw : sweep (f + 1) L h = (h, L, h') := by
          unfold sweep
          rw [dif_pos hhl, if_neg HM.out, HH.out]
        rw [HE.out, HSW.out, hsw]
        exact ⟨rfl, HP1'.out, HK1'.out⟩
end Go.Proofs.Ytjaopecjmmnbiaa
