/-
  The contracts of the document's pool: At, with, New.
-/
import Derived.Test.YtjaopecjmmnbiaaPoolLives
import Derived.Test.YtjaopecjmmnbiaaBlocks
namespace Go.Proofs.Ytjaopecjmmnbiaa
set_option linter.unusedSimpArgs false
set_option linter.unusedVariables false
open Go.RowKit Go.Maps

/-- A frame of the document's. -/
def eRF : Elem Fr where
  e := 57
  t := 44
  sz := 3
  bytes := 32
  zero := .agg #[.int .i64 0, .bool false, .string ⟨#[]⟩]
  code := fun f => [.int .i64 f.page, .bool f.mark, txt f.s]
  pos := by decide
  few := by decide
  len := fun _ => rfl
  one := by
    intro x u hu
    simp at hu
    rcases hu with rfl | rfl | rfl <;> rfl
  zsz := rfl
  info := by kernel_rfl
  under := Try.underlying44
/-- A frame by value. -/
def rfv (f : Fr) : Value := .agg #[.int .i64 f.page, .bool f.mark, txt f.s]
/-- A pool by value. -/
def rpv (q : PS) (A : Option Addr) (c : Nat) : Value := .agg #[.slice A q.L.length c, .int .i64 (q.hand : Nat), .int .i64 q.hits, .int .i64 q.misses]
def rpcells (q : PS) (A : Option Addr) (c : Nat) : Array Value := #[.slice A q.L.length c, .int .i64 (q.hand : Nat), .int .i64 q.hits, .int .i64 q.misses]

/-- The frame of a page. -/
def atOf (L : List Fr) (k : Int) : Int := match L.findIdx? (fun f => f.page == k) with | some i => (i : Int) | none => -1
theorem atOf_nil (k : Int) : atOf [] k = -1 := rfl
/-- Searched from frame i on. -/
def atFrom (L : List Fr) (k : Int) (i : Nat) : Int := match (L.drop i).findIdx? (fun f => f.page == k) with | some j => ((i + j : Nat) : Int) | none => -1
theorem atFrom_zero (L : List Fr) (k : Int) : atFrom L k 0 = atOf L k := by simp [atFrom, atOf]
theorem atFrom_hit {L : List Fr} {k : Int} {i : Nat} (hi : i < L.length) (h : L[i].page = k) : atFrom L k i = (i : Int) := by
  unfold atFrom
  rw [List.drop_eq_getElem_cons hi, List.findIdx?_cons]
  simp [h]
theorem atFrom_miss {L : List Fr} {k : Int} {i : Nat} (hi : i < L.length) (h : L[i].page ≠ k) : atFrom L k i = atFrom L k (i + 1) := by
  unfold atFrom
  rw [List.drop_eq_getElem_cons hi, List.findIdx?_cons]
  simp only [beq_iff_eq, h, if_false]
  cases (L.drop (i + 1)).findIdx? (fun f => f.page == k) with
  | none => rfl
  | some j => simp; omega
theorem atFrom_end {L : List Fr} {k : Int} {i : Nat} (hi : L.length ≤ i) : atFrom L k i = -1 := by
  unfold atFrom
  rw [List.drop_eq_nil_of_le hi]
  rfl

/-- Element i's three cells. -/
theorem rf_at {w : World} {A : Option Addr} {L : List Fr} (h : ERow eRF w A L) {i : Nat} (hi : i < L.length) : ∃ b o, A = some ⟨b, o, none⟩ ∧ b < w.heap.size ∧
    w.cell? ⟨b, o + i * 3, none⟩ = some (.int .i64 L[i].page) ∧ w.cell? ⟨b, o + i * 3 + 1, none⟩ = some (.bool L[i].mark) ∧ w.cell? ⟨b, o + i * 3 + 2, none⟩ = some (.string ⟨L[i].s.toArray⟩) := by
  obtain ⟨b, o, e, hb, hc⟩ := h.at_ hi
  refine ⟨b, o, e, hb, ?_, ?_, ?_⟩
  · exact hc 0 _ rfl
  · exact hc 1 _ rfl
  · exact hc 2 _ rfl

set_option maxRecDepth 20000 in
set_option maxHeartbeats 1000000 in
theorem refat_any (w : World) (q : PS) (A : Option Addr) (c : Nat) (hr : ERow eRF w A q.L) (hl : q.L.length ≤ 64) (k : Int) :
    Calls Try.prog 23 #[rpv q A c, .int .i64 k] w fun e w' => e = .returned (.int .i64 (atOf q.L k)) ∧ Below w.heap.size w w' := by
  have HR := Lib.hid (hr.below ((Below.refl w.heap.size w).alloc (Nat.le_refl _) (.cells (rpcells q A c) 46)))
  unfold rpcells at HR
  unfold rpv
  clear hr
  go_enter Try.func23, Try.ntmps23
  go_wp2_with fail
  go_loop [5] (fun iv => ∃ i : Nat, i ≤ q.L.length ∧ iv = .int .i64 i ∧ Hid (atOf q.L k = atFrom q.L k i)) (fun iv => q.L.length - (intOf iv).toNat)
  case atStart => exact ⟨0, by omega, rfl, (atFrom_zero _ _).symm⟩
  case round =>
    obtain ⟨i, hi, rfl, HA⟩ := hrel
    by_cases hlt : i < q.L.length
    · have hlti : (i : Int) < (q.L.length : Int) := by omega
      obtain ⟨b, o, rfl, hb, d0, -, -⟩ := rf_at HR.out hlt
      by_cases hp : q.L[i].page = k
      · have hpb : (q.L[i].page == k) = true := by simpa using hp
        have HF := Lib.hid (atFrom_hit hlt hp)
        clear hp
        go_wp2_with fail
        go_ret
        rw [HA.out, HF.out]
        exact ⟨rfl, (Below.refl _ _).alloc (Nat.le_refl _) _⟩
      · have hpb : (q.L[i].page == k) = false := by simpa using hp
        have HF := Lib.hid (atFrom_miss hlt hp)
        clear hp
        go_wp2_with fail
        go_round
        case rel => exact ⟨i + 1, by omega, by go_num, HA.out.trans HF.out⟩
        case measure => simp [intOf]; omega
    · have hlti : ¬ (i : Int) < (q.L.length : Int) := by omega
      go_wp2_with fail
      go_ret
      rw [HA.out, atFrom_end (by omega)]
      exact ⟨rfl, (Below.refl _ _).alloc (Nat.le_refl _) _⟩

theorem load_rp {w : World} {g : Nat} {a b c d : Value} (h : Blk w g 46 [a, b, c, d]) : (loadVar 46 ⟨g, 0, none⟩).run Try.prog w = .ok (.agg #[a, b, c, d]) w := by
  obtain ⟨h0, h1, h2, h3, -⟩ := h.c4
  clear h
  go_simp
set_option maxRecDepth 20000 in
set_option maxHeartbeats 1000000 in
theorem refwith_any (w : World) (q : PS) (A : Option Addr) (c : Nat) (hr : ERow eRF w A q.L) (hl : q.L.length ≤ 64) (i : Nat) (hi : i < q.L.length) (f : Fr) :
    Calls Try.prog 24 #[rpv q A c, .int .i64 (i : Nat), rfv f] w fun e w' => (∃ A' c', e = .returned (rpv { q with L := q.L.set i f } A' c') ∧ EOwn eRF w' w.heap.size A' c' (q.L.set i f)) ∧ Below w.heap.size w w' := by
  unfold rpv rfv txt
  have HR := Lib.hid hr
  clear hr
  have hii : (i : Int) < (q.L.length : Int) := by omega
  go_enter Try.func24, Try.ntmps24
  go_upto_region 1 with (fail)
  generalize hW0 : (((World.alloc w (.cells _ _)).alloc (.cells _ _)).alloc (.cells _ _)) = W
  obtain ⟨ba0, bb0, bc0, hz0, hB0⟩ := fresh3 hW0
  clear hW0
  have HR1 := Lib.hid (HR.out.below hB0)
  have HB0 := Lib.hid hB0
  have hcc := And.intro ba0.c4 bb0.c3
  have BA := Lib.hid (And.intro ba0 (And.intro bb0 bc0))
  clear ba0 bb0 bc0 hB0
  go_upto_region 2 with (at_builtin; refine wpList_append_elems eRF rfl (.tmp 8) (.tmp 10) rfl 0 rfl ((fresh1 rfl).1.own eRF (B := W.heap.size) [] rfl (by simp) (Nat.le_refl _)) rfl _ rfl (HR1.out.below (fresh1 rfl).2.2) rfl (by simp; omega) (by simp) ?_; intro A3 c3 w3 ho3 hb3 _ _)
  have hB3 : Below W.heap.size W w3 := ((Below.refl _ _).alloc (Nat.le_refl _) _).trans hb3
  obtain ⟨g3, rfl, hg3, -, -, -, -⟩ : ∃ g, A3 = some ⟨g, 0, none⟩ ∧ W.heap.size ≤ g ∧ g < w3.heap.size ∧ q.L.length ≤ c3 ∧ c3 ≤ maxLen ∧ True := by
    rcases ho3.form with ⟨_, _, e⟩ | ⟨g, h1, h2, h3, h4, h5, _⟩
    · rw [List.nil_append] at e; rw [e] at hi; simp at hi
    · exact ⟨g, h1, h2, h3, by simpa using h4, h5, trivial⟩
  rw [List.nil_append] at ho3
  obtain ⟨ba0, bb0, bc0⟩ := BA.out
  have hf3 := bb0.below hB3
  have hcc2 := And.intro (ba0.below hB3).c4 hf3.c3
  have h0 := ho3.free (i * 3)
  have h1 := ho3.free (i * 3 + 1)
  have h2 := ho3.free (i * 3 + 2)
  have d0 := ho3.cell (k := 0) hi rfl
  have d1 := ho3.cell (k := 1) hi rfl
  have d2 := ho3.cell (k := 2) hi rfl
  simp only [eRF, Nat.add_zero] at d0 d1 d2
  have HO3 := Lib.hid ho3
  have HB3 := Lib.hid hB3
  clear ho3 hB3 hf3 ba0 bb0 bc0 hb3 hcc
  go_upto_region 3 with (fail)
  generalize hW4 : (((World.setCell w3 _ _).setCell _ _).setCell _ _) = W4
  have ho4 : EOwn eRF W4 W.heap.size (some ⟨g3, 0, none⟩) c3 (q.L.set i f) := by rw [← hW4]; exact HO3.out.storeAll hi f
  have hB4 : Below W.heap.size W W4 := by rw [← hW4]; exact below_storeFrom (g := g3) hg3 (eRF.code f) (i * 3) HB3.out
  obtain ⟨ba0, bb0, bc0⟩ := BA.out
  have ba4 := ba0.below hB4
  have bc4 := bc0.below hB4
  have hcc4 := And.intro ba4.c4 bc4.c4
  have HF := Lib.hid (And.intro ho4 (And.intro hB4 (And.intro ba4 bc4)))
  clear hW4 ho4 hB4 ba4 bc4 ba0 bb0 bc0 hcc2 d0 d1 d2 h0 h1 h2
  go_wp2_with fail
  obtain ⟨ho4, hB4, ba4, bc4⟩ := HF.out
  clear hcc4
  have ba5 := ba4.set0 (u := .slice (some ⟨g3, 0, none⟩) q.L.length c3)
  have bc5 := bc4.other ⟨w.heap.size, 0, none⟩ (by show w.heap.size + 1 + 1 ≠ w.heap.size; omega) (.slice (some ⟨g3, 0, none⟩) q.L.length c3)
  have bc6 := bc5.all4 (u := .slice (some ⟨g3, 0, none⟩) q.L.length c3) (v := .int .i64 (q.hand : Nat)) (x := .int .i64 q.hits) (y := .int .i64 q.misses)
  have hne : ∀ a : Addr, some (⟨g3, 0, none⟩ : Addr) = some a → a.block ≠ w.heap.size := fun a ha => by obtain rfl := Option.some.inj ha; show g3 ≠ _; omega
  have hne2 : ∀ a : Addr, some (⟨g3, 0, none⟩ : Addr) = some a → a.block ≠ w.heap.size + 1 + 1 := fun a ha => by obtain rfl := Option.some.inj ha; show g3 ≠ _; omega
  have ho6 := ((((ho4.set ⟨w.heap.size, 0, none⟩ hne (.slice (some ⟨g3, 0, none⟩) q.L.length c3)).set ⟨w.heap.size + 1 + 1, 0, none⟩ hne2 (.slice (some ⟨g3, 0, none⟩) q.L.length c3)).set ⟨w.heap.size + 1 + 1, 1, none⟩ hne2 (.int .i64 (q.hand : Nat))).set ⟨w.heap.size + 1 + 1, 2, none⟩ hne2 (.int .i64 q.hits)).set ⟨w.heap.size + 1 + 1, 3, none⟩ hne2 (.int .i64 q.misses)
  have hB6 : Below w.heap.size w (((((W4.setCell ⟨w.heap.size, 0, none⟩ (.slice (some ⟨g3, 0, none⟩) q.L.length c3)).setCell ⟨w.heap.size + 1 + 1, 0, none⟩ (.slice (some ⟨g3, 0, none⟩) q.L.length c3)).setCell ⟨w.heap.size + 1 + 1, 1, none⟩ (.int .i64 (q.hand : Nat))).setCell ⟨w.heap.size + 1 + 1, 2, none⟩ (.int .i64 q.hits)).setCell ⟨w.heap.size + 1 + 1, 3, none⟩ (.int .i64 q.misses)) := by
    refine (((((HB0.out.trans (hB4.mono (by omega))).setCell ?_ _).setCell ?_ _).setCell ?_ _).setCell ?_ _).setCell ?_ _ <;> show w.heap.size ≤ _ <;> simp only <;> omega
  refine ret_mem1 rfl rfl rfl (load_rp bc6) ?_
  exact ⟨⟨some ⟨g3, 0, none⟩, c3, by simp [rpv], ho6.up (fun a ha => by obtain rfl := Option.some.inj ha; show w.heap.size ≤ g3; omega)⟩, hB6⟩
end Go.Proofs.Ytjaopecjmmnbiaa
