/-
  Texts of a proof, one behind the other (each with its own head).
-/
import Derived.Test.YthbanhedjfpmaaaPartAdobminjd
import Derived.Laws.BitsAllLaws
import Derived.Deep.LoopGhost
import Derived.ArgAppend
import Derived.Lib.LazyBuf
import Derived.Test.YthbanhedjfpmaaaProg
import Derived.Lib.AppendZeros
import Derived.OrdersHeld
section
/-
  The contracts of slices.Clone of falls, of writes, of blocks; of disk's Plan; of the methods of a nil disk.
-/
namespace Go.Proofs.Ythbanhedjfpmaaa
set_option linter.unusedSimpArgs false
set_option linter.unusedVariables false
open Go.RowKit

/-- What a call answers that hands back a new row and leaves all that was there alone. -/
def RetE {α : Type} (E : Elem α) (W : World) (L : List α) (e : Ending) (w' : World) : Prop :=
  ∃ A c, e = .returned (.slice A L.length c) ∧ EOwn E w' W.heap.size A c L ∧ Below W.heap.size W w'
theorem ERow.none_nil {α : Type} {E : Elem α} {w : World} {L : List α} (h : ERow E w none L) : L = [] := by
  cases L with
  | nil => rfl
  | cons x L => obtain ⟨b, o, h, _⟩ := h (by simp); cases h

set_option maxRecDepth 20000 in
set_option maxHeartbeats 400000 in
theorem clonef_any (w : World) (A : Option Addr) (c : Nat) (L : List DF) (hr : ERow eDF w A L) (hl : L.length ≤ 1000000) : Calls Try.prog 53 #[.slice A L.length c] w (RetE eDF w L) := by
  cases A with
  | none =>
    have hl0 := hr.none_nil
    subst hl0
    have hq := Lib.run_eql_slice_nil (P := Try.prog) w 34 25 none 0 c 0 0 Try.underlying34
    go_enter Try.func53, Try.ntmps53
    go_wp2_with fail
    go_ret
    exact ⟨none, 0, rfl, EOwn.nil _ _, Below.refl _ _⟩
  | some a =>
    have hq := Lib.run_eql_slice_nil (P := Try.prog) w 34 25 (some a) L.length c 0 0 Try.underlying34
    have HR := Lib.hid (hr.below (fresh1 (w := w) (a := []) (t := 25) rfl).2.2)
    clear hr
    go_enter Try.func53, Try.ntmps53
    go_wp2_with (at_builtin; refine wpList_append_elems eDF rfl (.tmp 5) (.tmp 6) rfl 0 rfl ((fresh1 rfl).1.own eDF (B := w.heap.size) [] rfl (by simp) (Nat.le_refl _)) rfl _ rfl HR.out rfl (by simp; omega) (by simp) ?_; intro A3 c3 w3 ho3 hb3 _ _)
    go_ret
    rw [List.nil_append] at ho3
    exact ⟨A3, c3, by simp, ho3, ((Below.refl _ _).alloc (Nat.le_refl _) _).trans hb3⟩
set_option maxRecDepth 20000 in
set_option maxHeartbeats 400000 in
theorem clonew_any (w : World) (A : Option Addr) (c : Nat) (L : List DW) (hr : ERow eDW w A L) (hl : L.length ≤ 1000000) : Calls Try.prog 52 #[.slice A L.length c] w (RetE eDW w L) := by
  cases A with
  | none =>
    have hl0 := hr.none_nil
    subst hl0
    have hq := Lib.run_eql_slice_nil (P := Try.prog) w 91 97 none 0 c 0 0 Try.underlying91
    go_enter Try.func52, Try.ntmps52
    go_wp2_with fail
    go_ret
    exact ⟨none, 0, rfl, EOwn.nil _ _, Below.refl _ _⟩
  | some a =>
    have hq := Lib.run_eql_slice_nil (P := Try.prog) w 91 97 (some a) L.length c 0 0 Try.underlying91
    have HR := Lib.hid (hr.below (fresh1 (w := w) (a := []) (t := 97) rfl).2.2)
    clear hr
    go_enter Try.func52, Try.ntmps52
    go_wp2_with (at_builtin; refine wpList_append_elems eDW rfl (.tmp 5) (.tmp 6) rfl 0 rfl ((fresh1 rfl).1.own eDW (B := w.heap.size) [] rfl (by simp) (Nat.le_refl _)) rfl _ rfl HR.out rfl (by simp; omega) (by simp) ?_; intro A3 c3 w3 ho3 hb3 _ _)
    go_ret
    rw [List.nil_append] at ho3
    exact ⟨A3, c3, by simp, ho3, ((Below.refl _ _).alloc (Nat.le_refl _) _).trans hb3⟩
set_option maxRecDepth 20000 in
set_option maxHeartbeats 400000 in
theorem cloneb_any (w : World) (A : Option Addr) (c : Nat) (L : List DB) (hr : ERow eDB w A L) (hl : L.length ≤ 1000000) : Calls Try.prog 51 #[.slice A L.length c] w (RetE eDB w L) := by
  cases A with
  | none =>
    have hl0 := hr.none_nil
    subst hl0
    have hq := Lib.run_eql_slice_nil (P := Try.prog) w 90 99 none 0 c 0 0 Try.underlying90
    go_enter Try.func51, Try.ntmps51
    go_wp2_with fail
    go_ret
    exact ⟨none, 0, rfl, EOwn.nil _ _, Below.refl _ _⟩
  | some a =>
    have hq := Lib.run_eql_slice_nil (P := Try.prog) w 90 99 (some a) L.length c 0 0 Try.underlying90
    have HR := Lib.hid (hr.below (fresh1 (w := w) (a := []) (t := 99) rfl).2.2)
    clear hr
    go_enter Try.func51, Try.ntmps51
    go_wp2_with (at_builtin; refine wpList_append_elems eDB rfl (.tmp 5) (.tmp 6) rfl 0 rfl ((fresh1 rfl).1.own eDB (B := w.heap.size) [] rfl (by simp) (Nat.le_refl _)) rfl _ rfl HR.out rfl (by simp; omega) (by simp) ?_; intro A3 c3 w3 ho3 hb3 _ _)
    go_ret
    rw [List.nil_append] at ho3
    exact ⟨A3, c3, by simp, ho3, ((Below.refl _ _).alloc (Nat.le_refl _) _).trans hb3⟩

set_option maxRecDepth 20000 in
set_option maxHeartbeats 1000000 in
theorem plan_any (w : World) (B : Nat) (k : KB) (d : DS) (h : DiskAt w B k d) (A : Option Addr) (c : Nat) (L : List DF) (hr : ERow eDF w A L) (hl : L.length ≤ 1000000) :
    Calls Try.prog 24 #[.pointer (some ⟨k.gd, 0, none⟩), .slice A L.length c] w fun e w' => e = .returned (.tuple #[]) ∧ DiskAt w' B k { d with falls := L } ∧ w.grownBy w' (some k.gd) := by
  have HC := Lib.hid (clonef_any w A c L hr hl)
  have HH := Lib.hid h
  obtain ⟨hne, hlt, hlt2, hB⟩ := h.head
  clear h hr
  go_enter Try.func24, Try.ntmps24
  go_wp2_with fail
  refine HC.out.mono ?_
  intro e w1 hI
  obtain ⟨A1, c1, rfl, ho1, hb1⟩ := hI
  obtain ⟨⟨cb, np, cp, nf, cf, Ap, Af, rfl, rfl, h3, h4, h5, h6, h7, h8, h9, h10, h11⟩, lo⟩ := HH.out.below hb1
  have hc := h6.c5
  have HS := Lib.hid (And.intro h6 (And.intro h7 (And.intro h8 (And.intro ho1 hb1))))
  clear h6 h7 h8 h9 ho1 hb1
  go_wp2_with fail
  obtain ⟨h6, h7, h8, ho1, hb1⟩ := HS.out
  go_end0
  refine ⟨rfl, ⟨⟨cb, _, cp, _, c1, Ap, A1, rfl, rfl, h3, h4, h5, h6.set 2 (.slice A1 L.length c1), ?_, ?_, ?_, h10, ?_⟩, lo⟩, (grown_of_below hb1 _).set_ ⟨k.gd, 2, none⟩ rfl _⟩
  · exact h7.set _ (fun a ha => by obtain rfl := Option.some.inj ha; exact fun e => hne e.symm) _
  · exact h8.keep2 (by simp) (fun a ha _ => heap_setCell_other w1 ⟨k.gd, 2, none⟩ _ _ (fun e => h10 a ha (.inl e)))
  · exact (ho1.mono (show B ≤ w.heap.size by omega)).keep2 (by simp) (fun a ha _ => heap_setCell_other w1 ⟨k.gd, 2, none⟩ _ _ (fun e => by have h := (ho1.block a ha).1; rw [e] at h; simp only at h; omega))
  · intro a ha ho
    have h := (ho1.block a ha).1
    rcases ho with e | e <;> omega

/-! A nil disk -/
set_option maxHeartbeats 400000 in
theorem down_nil (w : World) : Calls Try.prog 25 #[.pointer none] w fun e w' => e = .returned (.bool true) ∧ w = w' := by
  go_enter Try.func25, Try.ntmps25
  go_wp2_with fail
  go_ret
  exact ⟨rfl, rfl⟩
set_option maxHeartbeats 400000 in
theorem up_nil (w : World) : Calls Try.prog 20 #[.pointer none] w fun e w' => e = .returned (.bool false) ∧ w = w' := by
  go_enter Try.func20, Try.ntmps20
  go_wp2_with fail
  go_ret
  exact ⟨rfl, rfl⟩
set_option maxHeartbeats 400000 in
theorem pending_nil (w : World) : Calls Try.prog 22 #[.pointer none] w fun e w' => e = .returned (.int .i64 0) ∧ w = w' := by
  go_enter Try.func22, Try.ntmps22
  go_wp2_with fail
  go_ret
  exact ⟨rfl, rfl⟩
set_option maxHeartbeats 400000 in
theorem changes_nil (w : World) : Calls Try.prog 26 #[.pointer none] w fun e w' => e = .returned (.int .i64 0) ∧ w = w' := by
  go_enter Try.func26, Try.ntmps26
  go_wp2_with fail
  go_ret
  exact ⟨rfl, rfl⟩
set_option maxHeartbeats 400000 in
theorem blocks_nil (w : World) : Calls Try.prog 27 #[.pointer none] w fun e w' => e = .returned (.int .i64 0) ∧ w = w' := by
  go_enter Try.func27, Try.ntmps27
  go_wp2_with fail
  go_ret
  exact ⟨rfl, rfl⟩
set_option maxHeartbeats 400000 in
theorem dclone_nil (w : World) : Calls Try.prog 23 #[.pointer none] w fun e w' => e = .returned (.pointer none) ∧ w = w' := by
  go_enter Try.func23, Try.ntmps23
  go_wp2_with fail
  go_ret
  exact ⟨rfl, rfl⟩
set_option maxHeartbeats 400000 in
theorem has_nil (w : World) (i : Int) : Calls Try.prog 47 #[.pointer none, .int .i64 i] w fun e w' => e = .returned (.int .i64 6) ∧ w = w' := by
  go_enter Try.func47, Try.ntmps47
  go_wp2_with fail
  refine (down_nil w).mono ?_
  rintro e w1 ⟨rfl, rfl⟩
  go_wp2_with fail
  go_ret
  exact ⟨rfl, rfl⟩
set_option maxHeartbeats 400000 in
theorem read_nil (w : World) (i : Int) : Calls Try.prog 21 #[.pointer none, .int .i64 i] w fun e w' => e = .returned (.tuple #[.slice none 0 0, .int .i64 6]) ∧ w = w' := by
  go_enter Try.func21, Try.ntmps21
  go_wp2_with fail
  refine (has_nil w i).mono ?_
  rintro e w1 ⟨rfl, rfl⟩
  go_wp2_with fail
  go_ret2
  exact ⟨rfl, rfl⟩
set_option maxHeartbeats 400000 in
theorem write_nil (w : World) (i : Int) (A : Option Addr) (l c : Nat) : Calls Try.prog 17 #[.pointer none, .int .i64 i, .slice A l c] w fun e w' => e = .returned (.int .i64 6) ∧ w = w' := by
  go_enter Try.func17, Try.ntmps17
  go_wp2_with fail
  refine (has_nil w i).mono ?_
  rintro e w1 ⟨rfl, rfl⟩
  go_wp2_with fail
  go_ret
  exact ⟨rfl, rfl⟩
set_option maxHeartbeats 400000 in
theorem flush_nil (w : World) : Calls Try.prog 18 #[.pointer none] w fun e w' => e = .returned (.int .i64 6) ∧ w = w' := by
  go_enter Try.func18, Try.ntmps18
  go_wp2_with fail
  refine (down_nil w).mono ?_
  rintro e w1 ⟨rfl, rfl⟩
  go_wp2_with fail
  go_ret
  exact ⟨rfl, rfl⟩
set_option maxHeartbeats 400000 in
theorem plan_nil (w : World) (A : Option Addr) (l c : Nat) : Calls Try.prog 24 #[.pointer none, .slice A l c] w fun e w' => e = .returned (.tuple #[]) ∧ Below w.heap.size w w' := by
  go_enter Try.func24, Try.ntmps24
  go_wp2_with fail
  refine bodyPost_end (v := .tuple #[]) ?_ ?_ ?_
  · exact results_none rfl _ _ _
  · rfl
  · exact ⟨rfl, Below.refl _ _⟩
set_option maxHeartbeats 400000 in
theorem crash_nil (w : World) (a k t : Int) : Calls Try.prog 19 #[.pointer none, .agg #[.int .i64 a, .int .u64 k, .int .i64 t]] w fun e w' => e = .returned (.tuple #[]) ∧ Below w.heap.size w w' := by
  go_enter Try.func19, Try.ntmps19
  go_wp2_with fail
  refine (down_nil _).mono ?_
  rintro e w1 ⟨rfl, rfl⟩
  go_wp2_with fail
  exact bodyPost_ret (v := .tuple #[]) (results_none rfl _ _ _) rfl ⟨rfl, (Below.refl _ _).alloc (Nat.le_refl _) _⟩
end Go.Proofs.Ythbanhedjfpmaaa
end

section
/-
  Plain: what a loss of power leaves.
-/
namespace Go.Proofs.Ythbanhedjfpmaaa
set_option linter.unusedSimpArgs false
set_option linter.unusedVariables false
open Go.RowKit

/-- So many bytes of a torn write. -/
def tornN (t : Int) : Nat := (max 0 (min t 512)).toNat
theorem tornN_le (t : Int) : tornN t ≤ 512 := by unfold tornN; omega
/-- One block's bytes laid over another's, so many of them. -/
def B512.over (b s : B512) (n : Nat) : B512 := ⟨b.l.take n ++ s.l.drop n, by rw [List.length_append, List.length_take, List.length_drop, b.h, s.h]; omega⟩
def keepB (f : DF) (i : Nat) : Bool := decide (i < 64) && (f.keep.testBit i)
/-- What a write that is not sure does to the sure bytes: number i of them, of which the last one is number m. -/
def DB.hit (x : DB) (f : DF) (m : Int) (i : Nat) (w : DW) : DB :=
  if keepB f i = true then { x with sure := w.b } else if (i : Int) = m then { x with sure := w.b.over x.sure (tornN f.torn) } else x
def hitAll (f : DF) (m : Int) : List DW → Nat → List DB → List DB
  | [], _, L => L
  | w :: ws, i, L => hitAll f m ws (i + 1) (L.set w.at_.toNat ((L.getD w.at_.toNat default).hit f m i w))
def DS.crash (d : DS) (f : DF) : DS :=
  if d.down = true then d else { d with blocks := (hitAll f ((d.pending.length : Int) - 1) d.pending 0 d.blocks).map (fun x => ⟨x.sure, x.sure⟩), pending := [], down := true }
theorem hitAll_length (f : DF) (m : Int) : ∀ (ws : List DW) (i : Nat) (L : List DB), (hitAll f m ws i L).length = L.length
  | [], _, _ => rfl
  | w :: ws, i, L => by rw [hitAll, hitAll_length f m ws]; simp
theorem crash_length (d : DS) (f : DF) : (d.crash f).blocks.length = d.blocks.length := by
  unfold DS.crash
  split
  · rfl
  · simp [hitAll_length]
theorem hitAll_take (f : DF) (m : Int) (ws : List DW) (i : Nat) (L : List DB) (hi : i < ws.length) : hitAll f m (ws.take (i + 1)) 0 L =
    (hitAll f m (ws.take i) 0 L).set ws[i].at_.toNat (((hitAll f m (ws.take i) 0 L).getD ws[i].at_.toNat default).hit f m i ws[i]) := by
  have key : ∀ (ws : List DW) (w : DW) (k : Nat) (L : List DB), hitAll f m (ws ++ [w]) k L = (hitAll f m ws k L).set w.at_.toNat (((hitAll f m ws k L).getD w.at_.toNat default).hit f m (k + ws.length) w) := by
    intro ws
    induction ws with
    | nil => intro w k L; rfl
    | cons x ws ih => intro w k L; rw [List.cons_append, hitAll, ih, hitAll, List.length_cons, show k + 1 + ws.length = k + (ws.length + 1) from by omega]
  rw [List.take_succ_eq_append_getElem hi, key]
  simp only [Nat.zero_add, List.length_take, Nat.min_eq_left (Nat.le_of_lt hi)]

theorem code_sure (x : DB) (b : B512) : eDB.code { x with sure := b } = setFrom (eDB.code x) 512 b.v := by
  have := setFrom_part b.v x.now.v x.sure.v [] (by rw [b.v_length, x.sure.v_length])
  rw [x.now.v_length, List.append_nil, List.append_nil] at this
  exact this.symm
theorem code_now (x : DB) (b : B512) : eDB.code { x with now := b } = setFrom (eDB.code x) 0 b.v := by
  have := setFrom_part b.v [] x.now.v x.sure.v (by rw [b.v_length, x.now.v_length])
  exact this.symm
theorem code_torn (x : DB) (b : B512) (n : Nat) (hn : n ≤ 512) : eDB.code { x with sure := b.over x.sure n } = setFrom (eDB.code x) 512 (b.v.take n) := by
  have hx : x.sure.v = x.sure.v.take n ++ x.sure.v.drop n := (List.take_append_drop n _).symm
  have := setFrom_part (b.v.take n) x.now.v (x.sure.v.take n) (x.sure.v.drop n) (by rw [List.length_take, List.length_take, b.v_length, x.sure.v_length])
  rw [x.now.v_length, List.append_assoc, ← hx] at this
  rw [show eDB.code x = x.now.v ++ x.sure.v from rfl, this]
  show x.now.v ++ (b.over x.sure n).v = _
  rw [List.append_assoc]
  congr 1
  simp [B512.v, B512.over, List.map_take, List.map_drop]
/-- The first i blocks are as they surely are. -/
def settle (L : List DB) (i : Nat) : List DB := (L.take i).map (fun x => ⟨x.sure, x.sure⟩) ++ L.drop i
theorem settle_length (L : List DB) (i : Nat) : (settle L i).length = L.length := by
  unfold settle
  rw [List.length_append, List.length_map, ← List.length_append, List.take_append_drop]
theorem settle_get (L : List DB) (i : Nat) (hi : i < L.length) : (settle L i)[i]? = some L[i] := by
  unfold settle
  rw [List.getElem?_append_right (by simp; omega)]
  simp [Nat.min_eq_left (Nat.le_of_lt hi), hi]
theorem settle_succ (L : List DB) (i : Nat) (hi : i < L.length) : settle L (i + 1) = (settle L i).set i { L[i] with now := L[i].sure } := by
  unfold settle
  rw [List.take_succ_eq_append_getElem hi, List.map_append, List.append_assoc, List.set_append_right _ _ (by simp; omega)]
  congr 1
  rw [List.length_map, List.length_take, Nat.min_eq_left (Nat.le_of_lt hi), Nat.sub_self, List.drop_eq_getElem_cons hi]
  rfl
theorem keep_bit (n i : Nat) (h : n < 18446744073709551616) : (bits BinOp.and IntKind.u64 ((n : Int) / 2 ^ i) 1 == 1) = n.testBit i := by
  have hd : n / 2 ^ i ≤ n := Nat.div_le_self _ _
  have e : ((n : Int) / 2 ^ i) = ((n / 2 ^ i : Nat) : Int) := by simp
  have h1 := u64_and_nat (n / 2 ^ i) 1 (by omega) (by decide)
  rw [Nat.and_one_is_mod] at h1
  rw [e, show (1 : Int) = ((1 : Nat) : Int) from rfl, h1, Nat.testBit_eq_decide_div_mod_eq]
  by_cases hb : n / 2 ^ i % 2 = 1
  · rw [hb]; simp
  · have h0 : n / 2 ^ i % 2 = 0 := by omega
    rw [h0]; simp
end Go.Proofs.Ythbanhedjfpmaaa
end

section
/-
  The contract of disk's Crash.
-/
namespace Go.Proofs.Ythbanhedjfpmaaa
set_option linter.unusedSimpArgs false
set_option linter.unusedVariables false
open Go.RowKit

/-- A disk as it may be. -/
structure DGood (d : DS) : Prop where
  b0 : 0 < d.blocks.length
  b1 : d.blocks.length ≤ 4096
  p1 : d.pending.length ≤ 1000000
  f1 : d.falls.length ≤ 1000000
  at_ : ∀ w ∈ d.pending, 0 ≤ w.at_ ∧ w.at_ < d.blocks.length
  fk : ∀ f ∈ d.falls, f.keep < 18446744073709551616 ∧ (-9223372036854775808 ≤ f.torn ∧ f.torn ≤ 9223372036854775807)
theorem zeroDW (w : World) : (zeroValue 97).run Try.prog w = .ok eDW.zero w := (zero_of_info (P := Try.prog) (t := 97) (v := eDW.zero) (n := 513) (by kernel_rfl)).1 w
theorem infoDW : (Try.prog.info? 97).map (·.size) = some 513 := by kernel_rfl
theorem infoArr : (Try.prog.info? 95).map (·.size) = some 512 := by kernel_rfl
theorem crash_down (w : World) (B : Nat) (k : KB) (d : DS) (h : DiskAt w B k d) (f : DF) (hd : d.down = true) :
    Calls Try.prog 19 #[.pointer (some ⟨k.gd, 0, none⟩), .agg #[.int .i64 f.at_, .int .u64 (f.keep : Nat), .int .i64 f.torn]] w fun e w' => e = .returned (.tuple #[]) ∧ Below w.heap.size w w' := by
  have HD := Lib.hid (fun w' hb => down_any w' B k d (h.below hb))
  rw [hd] at HD
  clear h hd
  go_enter Try.func19, Try.ntmps19
  go_wp2_with fail
  refine (HD.out _ ((Below.refl _ _).alloc (Nat.le_refl _) _)).mono ?_
  rintro e w1 ⟨rfl, rfl⟩
  go_wp2_with fail
  exact bodyPost_ret (v := .tuple #[]) (results_none rfl _ _ _) rfl ⟨rfl, (Below.refl _ _).alloc (Nat.le_refl _) _⟩

/-- What holds while the writes are gone through. -/
def Crashing (w : World) (B : Nat) (k : KB) (f : DF) (cb : Nat) (L : List DB) (wr : World) : Prop :=
  w.grownBy wr (some k.gb) ∧ EOwn eDB wr B (some ⟨k.gb, 0, none⟩) cb L ∧ Blk wr w.heap.size 25 [.int .i64 f.at_, .int .u64 (f.keep : Nat), .int .i64 f.torn]
set_option maxRecDepth 20000 in
set_option maxHeartbeats 2000000 in
theorem crash_up (w : World) (B : Nat) (k : KB) (d : DS) (h : DiskAt w B k d) (hG : DGood d) (f : DF) (hfk : f.keep < 18446744073709551616) (hd : d.down = false) :
    Calls Try.prog 19 #[.pointer (some ⟨k.gd, 0, none⟩), .agg #[.int .i64 f.at_, .int .u64 (f.keep : Nat), .int .i64 f.torn]] w fun e w' => e = .returned (.tuple #[]) ∧ DiskAt w' B k (d.crash f) ∧ Keeps w w' k.own := by
  have HD := Lib.hid (fun w' hb => down_any w' B k d (h.below hb))
  rw [hd] at HD
  have hp1 := hG.p1
  have hb1 := hG.b1
  obtain ⟨hne, hlt, hlt2, hBk⟩ := h.head
  obtain ⟨⟨cb, np, cp, nf, cf, Ap, Af, rfl, rfl, h3, h4, h5, h6, h7, h8, h9, h10, h11⟩, lo⟩ := h
  rw [hd] at h6
  have HDN := Lib.hid hd
  have HAP := Lib.hid (And.intro h10 h11)
  have HW0 := Lib.hid (And.intro h6 (And.intro h8 h9))
  clear hd h10 h11
  go_enter Try.func19, Try.ntmps19
  go_upto_region 1 with (fail)
  generalize hW0 : World.alloc w (.cells _ _) = W
  obtain ⟨ba0, hz0, hB0⟩ := fresh1 hW0
  clear hW0
  have HS := Lib.hid (And.intro (h6.below hB0) (And.intro (h7.below hB0) (And.intro (h8.below hB0) (And.intro (h9.below hB0) (And.intro ba0 hB0)))))
  have hcc := (h6.below hB0).c5
  clear h6 h7 h8 h9 ba0
  go_wp2_with fail
  refine (HD.out _ hB0).mono ?_
  rintro e w1 ⟨rfl, rfl⟩
  clear hB0
  go_wp2_with fail
  clear hcc
  obtain ⟨s1, s2, s3, s4, s5, s6⟩ := HS.out
  have HI : Hid (Crashing w B k f cb d.blocks W) := ⟨grown_of_below s6 _, s2, s5⟩
  clear s1 s2 s3 s4 s5 s6
  go_loopw [22] (fun iv wr => ∃ i : Nat, i ≤ d.pending.length ∧ iv = .int .i64 i ∧ Hid (Crashing w B k f cb (hitAll f ((d.pending.length : Int) - 1) (d.pending.take i) 0 d.blocks) wr)) (fun iv _ => d.pending.length - (intOf iv).toNat)
  case atStart => exact ⟨0, by omega, rfl, HI.out⟩
  case round =>
    obtain ⟨i, hi, rfl, HJ⟩ := hrel
    clear HI
    obtain ⟨c1, c2, c3⟩ := HJ.out
    have hcc := (HW0.out.1.grown c1 (by simp; exact hne)).c5
    by_cases hlt : i < d.pending.length
    · have hii : (i : Int) < (d.pending.length : Int) := by omega
      obtain ⟨bp, op, rfl, hbp, hrg⟩ := (HW0.out.2.1.keep2 c1.size (fun a ha _ => c1.block _ (by assumption) (by simp; exact fun e => HAP.out.1 a ha (.inr e)))).row.range hlt
      have hat := hG.at_ d.pending[i] (List.getElem_mem hlt)
      have HTK := Lib.hid (hitAll_take f ((d.pending.length : Int) - 1) d.pending i d.blocks hlt)
      have hLlen : (hitAll f ((d.pending.length : Int) - 1) (d.pending.take i) 0 d.blocks).length = d.blocks.length := hitAll_length ..
      generalize d.pending[i] = p at hrg hat HTK
      obtain ⟨pat, pb⟩ := p
      simp only at hat
      obtain ⟨m, rfl⟩ : ∃ m : Nat, pat = (m : Int) := ⟨pat.toNat, by omega⟩
      have hr0 : wr.rangeAt bp (op + i * 513) (Value.int .i64 (m : Int) :: pb.v) := hrg
      have HC := Lib.hid (And.intro c1 (And.intro c2 c3))
      have HR := Lib.hid hr0
      clear hrg hr0 c1 c2 c3
      go_upto_region 6 with (first | (refine wpList_load_mid rfl 97 (.tmp 25) rfl bp (op + i * 513) rfl _ _ HR.out Try.underlying97 rfl (infoDW.trans (by rw [List.length_cons, pb.v_length])) ?_) | (refine wpList_alloc_z rfl 97 rfl (zeroDW _) ?_; intro W6 hW6; obtain ⟨ba6, hz6, hB6⟩ := fresh1 (a := Value.int .i64 0 :: zBytes 512) hW6; clear hW6) | (refine wpList_store_blk rfl rfl 97 (.tmp 6) (.tmp 26) rfl wr.heap.size rfl _ rfl ba6 (by simp [B512.v_length, zBytes]) (infoDW.trans (by simp [zBytes])) (eDW.one ⟨(m : Int), pb⟩) ?_; intro W7 hb7 hg7))
      have hc7 := And.intro (hb7.cell 0) (hb7.lt)
      simp only [List.getElem?_cons_zero] at hc7
      obtain ⟨c1, c2, c3⟩ := HC.out
      have g17 : wr.grownBy W7 (some wr.heap.size) := (grown_of_below hB6 _).trans' hg7
      have hz7 : wr.heap.size < W7.heap.size := hb7.lt
      have hgw : w.grownBy W7 (some k.gb) := grown_then c1 ⟨g17.os, g17.tape, g17.output, g17.size, fun i hi _ => g17.block i hi (by simp; omega)⟩
      have hlt3 : k.gb < wr.heap.size := Nat.lt_of_lt_of_le hlt2 c1.size
      have ho7 := c2.keep (fun a ha => by obtain rfl := Option.some.inj ha; exact g17.block _ hlt3 (by simp; omega))
      have hbx7 := c3.grown g17 (by have := c3.lt; simp; omega)
      have hcc7 := And.intro (HW0.out.1.grown hgw (by simp; exact hne)).c5 (And.intro hc7 hbx7.c3)
      have HS7 := Lib.hid (And.intro hgw (And.intro ho7 (And.intro hbx7 hb7)))
      clear hcc hc7 c1 c2 c3 ba6 hB6 hg7 g17 hgw ho7 hbx7 hb7
      have hmi : (m : Int) < (d.blocks.length : Int) := hat.2
      apply wp_region_read (R := fun j x => match j with
        | 0 => x = .pointer (some ⟨k.gd, 0, none⟩)
        | 1 => x = .pointer (some ⟨k.gd, 0, none⟩)
        | 2 => x = .pointer (some ⟨k.gd, 0, none⟩)
        | 3 => x = .slice (some ⟨k.gb, 0, none⟩) d.blocks.length cb
        | 4 => x = .pointer (some ⟨wr.heap.size, 0, none⟩)
        | 5 => x = .int .i64 (m : Int)
        | 6 => x = .pointer (some ⟨k.gb, m * 1024, none⟩)
        | 7 => x = .pointer (some ⟨k.gb, m * 1024 + 512, none⟩)
        | 8 => x = .pointer (some ⟨k.gb, m * 1024 + 512, none⟩)
        | _ => True)
      case hG => (intro v; simp only [regFrame, List.zipIdx_cons, List.zipIdx_nil, List.foldl_cons, List.foldl_nil, Act.put, List.setIfInBounds_toArray, List.set_cons_zero, List.set_cons_succ, Nat.reduceAdd]; rfl)
      case hm => kernel_rfl
      case honce => rfl
      case hlow => kernel_rfl
      case hstep =>
        refine ⟨?_, ?_, ?_, ?_, ?_, ?_, ?_, ?_, ?_, trivial⟩ <;> (intro v hd; simp only [Deps, Region.binds, ↓reduceIte, and_true] at hd) <;> (try (first | exact opDoes_move _ rfl rfl ⟨rfl, rfl⟩ | exact opDoes_assign _ rfl rfl ⟨rfl, rfl⟩ | (refine opDoes_run rfl ?_ ⟨rfl, rfl⟩; go_simp; done) | exact opDoes_gmove _ (wanted_guard rfl rfl rfl (by simp only [hd]; rfl)) rfl ⟨rfl, rfl⟩ | (refine opDoes_grun (wanted_guard rfl rfl rfl (by simp only [hd]; rfl)) ?_ ⟨rfl, rfl⟩; go_simp; done) | exact opDoes_skipped rfl rfl rfl (by simp only [hd]; rfl) ⟨rfl, trivial⟩ | (refine opDoes_assign _ rfl rfl ⟨rfl, ?_⟩; go_simp; done)))
      case hend =>
        intro v h
        simp only [AllOps, Nat.zero_add, Nat.reduceAdd, and_true] at h
        rw [h.2.2.2.2.2.2.2.2]
        clear h
        have HS8 : Hid (w.grownBy W7.drew (some k.gb) ∧ EOwn eDB W7.drew B (some ⟨k.gb, 0, none⟩) cb (hitAll f ((d.pending.length : Int) - 1) (d.pending.take i) 0 d.blocks) ∧ Blk W7.drew w.heap.size 25 [.int .i64 f.at_, .int .u64 (f.keep : Nat), .int .i64 f.torn] ∧ Blk W7.drew wr.heap.size 97 (.int .i64 (m : Int) :: pb.v)) := ⟨⟨HS7.out.1.os, HS7.out.1.tape, HS7.out.1.output, HS7.out.1.size, HS7.out.1.block⟩, HS7.out.2⟩
        generalize W7.drew = W8 at HS8 ⊢
        have hcc8 := HS8.out.2.2.1.c3
        have hz8 : wr.heap.size < W8.heap.size := HS8.out.2.2.2.lt
        clear hcc7 HS7
        have hmL : m < (hitAll f ((d.pending.length : Int) - 1) (d.pending.take i) 0 d.blocks).length := by rw [hLlen]; omega
        have hgetD : (hitAll f ((d.pending.length : Int) - 1) (d.pending.take i) 0 d.blocks).getD m default = (hitAll f ((d.pending.length : Int) - 1) (d.pending.take i) 0 d.blocks)[m] := by simp [hmL]
        have HTK2 : Hid (hitAll f ((d.pending.length : Int) - 1) (d.pending.take (i + 1)) 0 d.blocks = (hitAll f ((d.pending.length : Int) - 1) (d.pending.take i) 0 d.blocks).set m ((hitAll f ((d.pending.length : Int) - 1) (d.pending.take i) 0 d.blocks)[m].hit f ((d.pending.length : Int) - 1) i ⟨(m : Int), pb⟩)) := by
          have := HTK.out
          simp only [Int.toNat_natCast] at this
          rw [hgetD] at this
          exact this
        clear hgetD HTK hLlen
        generalize hLi : hitAll f ((d.pending.length : Int) - 1) (d.pending.take i) 0 d.blocks = Li at HS8 hmL HTK2
        clear hLi
        by_cases hkb : keepB f i = true
        · have h64i : (i : Int) < 64 := by unfold keepB at hkb; simp at hkb; omega
          have hbit : (bits BinOp.and IntKind.u64 ((f.keep : Int) / 2 ^ i) 1 == 1) = true := by
            rw [keep_bit _ _ hfk]; unfold keepB at hkb; simp at hkb; exact hkb.2
          have HX : Hid (Li[m].hit f ((d.pending.length : Int) - 1) i ⟨(m : Int), pb⟩ = { Li[m] with sure := pb }) := by show _ = _; unfold DB.hit; rw [if_pos hkb]
          clear hkb
          go_wp2_with (first | (refine wpList_load_mid rfl 95 (.tmp 47) rfl wr.heap.size 1 rfl pb.v _ (HS8.out.2.2.2.range 1 pb.v (fun j hj => by rw [Nat.add_comm]; rfl)) Try.underlying95 rfl (infoArr.trans (by rw [pb.v_length])) ?_) | (refine wpList_store_part eDB rfl rfl 95 (.tmp 49) (.tmp 48) rfl k.gb m 512 (m * 1024 + 512) rfl rfl pb.v rfl HS8.out.2.1 hmL { Li[m] with sure := pb } (by rw [pb.v_length]; decide) (code_sure _ _) (infoArr.trans (by rw [pb.v_length])) pb.v_one ?_; intro W9 ho9 hg9; have HS9 : Hid (Crashing w B k f cb (Li.set m { Li[m] with sure := pb }) W9) := ⟨HS8.out.1.trans' hg9, ho9, HS8.out.2.2.1.grown hg9 (by simp; omega)⟩; clear ho9 hg9))
          go_roundw
          case rel => exact ⟨i + 1, by omega, by go_num, by rw [HTK2.out, HX.out]; exact HS9.out⟩
          case measure => simp [intOf]; omega
        · have HKB := Lib.hid hkb
          by_cases h64 : i < 64
          · have h64i : (i : Int) < 64 := by omega
            have hbit : (bits BinOp.and IntKind.u64 ((f.keep : Int) / 2 ^ i) 1 == 1) = false := by
              rw [keep_bit _ _ hfk]; unfold keepB at hkb; simpa [h64] using hkb
            clear hkb h64
            by_cases hil : (i : Int) = (d.pending.length : Int) - 1
            · have hilb : ((i : Int) == (d.pending.length : Int) - 1) = true := by simpa using hil
              have HX : Hid (Li[m].hit f ((d.pending.length : Int) - 1) i ⟨(m : Int), pb⟩ = { Li[m] with sure := pb.over Li[m].sure (tornN f.torn) }) := by show _ = _; unfold DB.hit; rw [if_neg HKB.out, if_pos hil]
              clear hil
              have hn5 := tornN_le f.torn
              obtain ⟨n5, hn5e⟩ : ∃ n5, tornN f.torn = n5 := ⟨_, rfl⟩
              obtain ⟨mn, hmin⟩ : ∃ mn : Int, (if 512 < f.torn then 512 else f.torn) = mn := ⟨_, rfl⟩
              have hmax : (if 0 < mn then mn else 0) = (n5 : Int) := by
                rw [← hn5e]; unfold tornN
                split at hmin <;> split <;> omega
              rw [hn5e] at hn5 HX
              clear hn5e
              have hn5i2 : (n5 : Int) ≤ 512 := by omega
              go_wp2_with fail
              apply wp_region_lastv (n := 9) (R := fun j x w' => match j with
                | 0 => x = .pointer (some ⟨k.gb, m * 1024 + 512, none⟩)
                | 1 => x = .pointer (some ⟨k.gb, m * 1024 + 512, none⟩)
                | 2 => x = .pointer (some ⟨w.heap.size, 2, none⟩)
                | 3 => x = .int .i64 f.torn
                | 4 => x = .int .i64 mn
                | 5 => x = .int .i64 (n5 : Int)
                | 6 => x = .slice (some ⟨k.gb, m * 1024 + 512, none⟩) n5 512
                | 7 => x = .pointer (some ⟨wr.heap.size, 1, none⟩)
                | 8 => x = .slice (some ⟨wr.heap.size, 1, none⟩) 512 512
                | _ => True) (W := fun w' => w' = W8.drew) (Gr := fun w1 w2 => w2 = w1)
              case hG => (intro v; simp only [regFrame, List.zipIdx_cons, List.zipIdx_nil, List.foldl_cons, List.foldl_nil, Act.put, List.setIfInBounds_toArray, List.set_cons_zero, List.set_cons_succ, Nat.reduceAdd]; rfl)
              case hm => kernel_rfl
              case honce => rfl
              case hlow => kernel_rfl
              case hall => kernel_rfl
              case hn => rfl
              case ho => rfl
              case hog => rfl
              case hR =>
                intro j x w' w'' hb h
                exact h
              case hW => exact fun w w' h hb => hb.trans h
              case h0 => rfl
              case hstep =>
                refine ⟨?_, ?_, ?_, ?_, ?_, ?_, ?_, ?_, ?_, trivial⟩ <;> (intro v w' hw' hd; subst hw'; simp only [Deps, Region.binds, ↓reduceIte, and_true] at hd) <;> (try (first | exact opDoes_move _ rfl rfl ⟨rfl, rfl⟩ | (refine opDoes_run rfl ?_ ⟨rfl, rfl⟩; go_simp; done)))
              case hend =>
                intro v w' hw' h
                subst hw'
                simp only [List.take, AllOps, Nat.zero_add, Nat.reduceAdd, and_true] at h
                obtain ⟨-, -, -, -, -, -, h6, -, h8⟩ := h
                have hcp := run_copy_cells (P := Try.prog) W8.drew 33 33 3 5 k.gb (m * 1024 + 512) n5 512 ⟨wr.heap.size, 1, none⟩ 512 512 (pb.v.take n5) Try.underlying33 (by kernel_rfl) (by rw [List.length_take, pb.v_length]; exact (Nat.min_comm ..)) (fun j u hu => by
                  rw [Addr.add_mid]
                  refine (HS8.out.2.2.2.range 1 pb.v (fun j hj => by rw [Nat.add_comm]; rfl)) j u ?_
                  rw [List.getElem?_take] at hu
                  split at hu
                  · exact hu
                  · cases hu) (fun j hj => (HS8.out.2.1.there hmL 512 512 (by decide) j (by rw [List.length_take] at hj; omega)).1) (fun j hj => (HS8.out.2.1.there hmL 512 512 (by decide) j (by rw [List.length_take] at hj; omega)).2) (fun u hu => pb.v_one u (List.mem_of_mem_take hu))
                have HS9 : Hid (Crashing w B k f cb (Li.set m { Li[m] with sure := pb.over Li[m].sure n5 }) (W8.drew.setCells k.gb (m * 1024 + 512) (pb.v.take n5))) := by
                  have hg9 := grown_setCells W8.drew k.gb (m * 1024 + 512) (pb.v.take n5)
                  have ho9 := EOwn.storePart (w := W8.drew) (show EOwn eDB W8.drew B (some ⟨k.gb, 0, none⟩) cb Li from HS8.out.2.1) hmL { Li[m] with sure := pb.over Li[m].sure n5 } 512 (pb.v.take n5) (by rw [List.length_take, pb.v_length]; show 512 + min n5 512 ≤ 1024; omega) (code_torn _ _ _ hn5)
                  exact ⟨(⟨HS8.out.1.os, HS8.out.1.tape, HS8.out.1.output, HS8.out.1.size, HS8.out.1.block⟩ : w.grownBy W8.drew (some k.gb)).trans' hg9, ho9, Blk.grown (w := W8.drew) HS8.out.2.2.1 hg9 (by simp; omega)⟩
                refine ⟨goInt (pb.v.take n5).length, W8.drew.setCells k.gb (m * 1024 + 512) (pb.v.take n5), ?_, ?_⟩
                · exact exec_copy rfl h6 h8 hcp
                · clear hcp h6 h8 hcc8
                  generalize (World.setCells W8.drew _ _ _) = W9 at HS9 ⊢
                  go_wp2_with fail
                  go_roundw
                  case rel => exact ⟨i + 1, by omega, by go_num, by rw [HTK2.out, HX.out]; exact HS9.out⟩
                  case measure => simp [intOf]; omega
            · have hilb : ((i : Int) == (d.pending.length : Int) - 1) = false := by simpa using hil
              have HX : Hid (Li[m].hit f ((d.pending.length : Int) - 1) i ⟨(m : Int), pb⟩ = Li[m]) := by show _ = _; unfold DB.hit; rw [if_neg HKB.out, if_neg hil]
              clear hil
              go_wp2_with fail
              go_roundw
              case rel => exact ⟨i + 1, by omega, by go_num, by rw [HTK2.out, HX.out, List.set_getElem_self]; exact ⟨HS8.out.1, HS8.out.2.1, HS8.out.2.2.1⟩⟩
              case measure => simp [intOf]; omega
          · have h64i : ¬ (i : Int) < 64 := by omega
            clear hkb h64
            by_cases hil : (i : Int) = (d.pending.length : Int) - 1
            · have hilb : ((i : Int) == (d.pending.length : Int) - 1) = true := by simpa using hil
              have HX : Hid (Li[m].hit f ((d.pending.length : Int) - 1) i ⟨(m : Int), pb⟩ = { Li[m] with sure := pb.over Li[m].sure (tornN f.torn) }) := by show _ = _; unfold DB.hit; rw [if_neg HKB.out, if_pos hil]
              clear hil
              have hn5 := tornN_le f.torn
              obtain ⟨n5, hn5e⟩ : ∃ n5, tornN f.torn = n5 := ⟨_, rfl⟩
              obtain ⟨mn, hmin⟩ : ∃ mn : Int, (if 512 < f.torn then 512 else f.torn) = mn := ⟨_, rfl⟩
              have hmax : (if 0 < mn then mn else 0) = (n5 : Int) := by
                rw [← hn5e]; unfold tornN
                split at hmin <;> split <;> omega
              rw [hn5e] at hn5 HX
              clear hn5e
              have hn5i2 : (n5 : Int) ≤ 512 := by omega
              go_wp2_with fail
              apply wp_region_lastv (n := 9) (R := fun j x w' => match j with
                | 0 => x = .pointer (some ⟨k.gb, m * 1024 + 512, none⟩)
                | 1 => x = .pointer (some ⟨k.gb, m * 1024 + 512, none⟩)
                | 2 => x = .pointer (some ⟨w.heap.size, 2, none⟩)
                | 3 => x = .int .i64 f.torn
                | 4 => x = .int .i64 mn
                | 5 => x = .int .i64 (n5 : Int)
                | 6 => x = .slice (some ⟨k.gb, m * 1024 + 512, none⟩) n5 512
                | 7 => x = .pointer (some ⟨wr.heap.size, 1, none⟩)
                | 8 => x = .slice (some ⟨wr.heap.size, 1, none⟩) 512 512
                | _ => True) (W := fun w' => w' = W8.drew) (Gr := fun w1 w2 => w2 = w1)
              case hG => (intro v; simp only [regFrame, List.zipIdx_cons, List.zipIdx_nil, List.foldl_cons, List.foldl_nil, Act.put, List.setIfInBounds_toArray, List.set_cons_zero, List.set_cons_succ, Nat.reduceAdd]; rfl)
              case hm => kernel_rfl
              case honce => rfl
              case hlow => kernel_rfl
              case hall => kernel_rfl
              case hn => rfl
              case ho => rfl
              case hog => rfl
              case hR =>
                intro j x w' w'' hb h
                exact h
              case hW => exact fun w w' h hb => hb.trans h
              case h0 => rfl
              case hstep =>
                refine ⟨?_, ?_, ?_, ?_, ?_, ?_, ?_, ?_, ?_, trivial⟩ <;> (intro v w' hw' hd; subst hw'; simp only [Deps, Region.binds, ↓reduceIte, and_true] at hd) <;> (try (first | exact opDoes_move _ rfl rfl ⟨rfl, rfl⟩ | (refine opDoes_run rfl ?_ ⟨rfl, rfl⟩; go_simp; done)))
              case hend =>
                intro v w' hw' h
                subst hw'
                simp only [List.take, AllOps, Nat.zero_add, Nat.reduceAdd, and_true] at h
                obtain ⟨-, -, -, -, -, -, h6, -, h8⟩ := h
                have hcp := run_copy_cells (P := Try.prog) W8.drew 33 33 3 5 k.gb (m * 1024 + 512) n5 512 ⟨wr.heap.size, 1, none⟩ 512 512 (pb.v.take n5) Try.underlying33 (by kernel_rfl) (by rw [List.length_take, pb.v_length]; exact (Nat.min_comm ..)) (fun j u hu => by
                  rw [Addr.add_mid]
                  refine (HS8.out.2.2.2.range 1 pb.v (fun j hj => by rw [Nat.add_comm]; rfl)) j u ?_
                  rw [List.getElem?_take] at hu
                  split at hu
                  · exact hu
                  · cases hu) (fun j hj => (HS8.out.2.1.there hmL 512 512 (by decide) j (by rw [List.length_take] at hj; omega)).1) (fun j hj => (HS8.out.2.1.there hmL 512 512 (by decide) j (by rw [List.length_take] at hj; omega)).2) (fun u hu => pb.v_one u (List.mem_of_mem_take hu))
                have HS9 : Hid (Crashing w B k f cb (Li.set m { Li[m] with sure := pb.over Li[m].sure n5 }) (W8.drew.setCells k.gb (m * 1024 + 512) (pb.v.take n5))) := by
                  have hg9 := grown_setCells W8.drew k.gb (m * 1024 + 512) (pb.v.take n5)
                  have ho9 := EOwn.storePart (w := W8.drew) (show EOwn eDB W8.drew B (some ⟨k.gb, 0, none⟩) cb Li from HS8.out.2.1) hmL { Li[m] with sure := pb.over Li[m].sure n5 } 512 (pb.v.take n5) (by rw [List.length_take, pb.v_length]; show 512 + min n5 512 ≤ 1024; omega) (code_torn _ _ _ hn5)
                  exact ⟨(⟨HS8.out.1.os, HS8.out.1.tape, HS8.out.1.output, HS8.out.1.size, HS8.out.1.block⟩ : w.grownBy W8.drew (some k.gb)).trans' hg9, ho9, Blk.grown (w := W8.drew) HS8.out.2.2.1 hg9 (by simp; omega)⟩
                refine ⟨goInt (pb.v.take n5).length, W8.drew.setCells k.gb (m * 1024 + 512) (pb.v.take n5), ?_, ?_⟩
                · exact exec_copy rfl h6 h8 hcp
                · clear hcp h6 h8 hcc8
                  generalize (World.setCells W8.drew _ _ _) = W9 at HS9 ⊢
                  go_wp2_with fail
                  go_roundw
                  case rel => exact ⟨i + 1, by omega, by go_num, by rw [HTK2.out, HX.out]; exact HS9.out⟩
                  case measure => simp [intOf]; omega
            · have hilb : ((i : Int) == (d.pending.length : Int) - 1) = false := by simpa using hil
              have HX : Hid (Li[m].hit f ((d.pending.length : Int) - 1) i ⟨(m : Int), pb⟩ = Li[m]) := by show _ = _; unfold DB.hit; rw [if_neg HKB.out, if_neg hil]
              clear hil
              go_wp2_with fail
              go_roundw
              case rel => exact ⟨i + 1, by omega, by go_num, by rw [HTK2.out, HX.out, List.set_getElem_self]; exact ⟨HS8.out.1, HS8.out.2.1, HS8.out.2.2.1⟩⟩
              case measure => simp [intOf]; omega
    · obtain rfl : i = d.pending.length := by omega
      have hii : ¬ (d.pending.length : Int) < (d.pending.length : Int) := by omega
      rw [List.take_length] at c2
      have hLlen : (hitAll f ((d.pending.length : Int) - 1) d.pending 0 d.blocks).length = d.blocks.length := hitAll_length ..
      have HE : Hid ((d.crash f).blocks = (hitAll f ((d.pending.length : Int) - 1) d.pending 0 d.blocks).map (fun x => ⟨x.sure, x.sure⟩) ∧ d.crash f = { d with blocks := (hitAll f ((d.pending.length : Int) - 1) d.pending 0 d.blocks).map (fun x => ⟨x.sure, x.sure⟩), pending := [], down := true }) := by
        constructor <;> (unfold DS.crash; rw [if_neg (by rw [HDN.out]; decide)])
      generalize hitAll f ((d.pending.length : Int) - 1) d.pending 0 d.blocks = L at c2 hLlen HE
      have HC : Hid (w.grownBy wr (some k.gb) ∧ EOwn eDB wr B (some ⟨k.gb, 0, none⟩) cb L) := ⟨c1, c2⟩
      clear c1 c2 c3 HJ
      go_wp2_with fail
      go_loopw [70] (fun iv wr => ∃ i : Nat, i ≤ d.blocks.length ∧ iv = .int .i64 i ∧ Hid (w.grownBy wr (some k.gb) ∧ EOwn eDB wr B (some ⟨k.gb, 0, none⟩) cb (settle L i))) (fun iv _ => d.blocks.length - (intOf iv).toNat)
      case atStart => exact ⟨0, by omega, rfl, HC.out⟩
      case round =>
        obtain ⟨i, hi, rfl, HJ⟩ := hrel
        clear HC hcc
        have hcc := (HW0.out.1.grown HJ.out.1 (by simp; exact hne)).c5
        by_cases hlt : i < d.blocks.length
        · have hii2 : (i : Int) < (d.blocks.length : Int) := by omega
          have hiL : i < L.length := by omega
          have hiS : i < (settle L i).length := by rw [settle_length]; exact hiL
          have hget := settle_get L i hiL
          rw [List.getElem?_eq_getElem hiS] at hget
          have HGET := Lib.hid (Option.some.inj hget)
          have HSUC := Lib.hid (settle_succ L i hiL)
          clear hget
          go_wp2_with fail
          apply wp_region_last (n := 15) (R := fun j x w' => match j with
            | 0 => x = .pointer (some ⟨k.gd, 0, none⟩)
            | 1 => x = .pointer (some ⟨k.gd, 0, none⟩)
            | 2 => x = .pointer (some ⟨k.gd, 0, none⟩)
            | 3 => x = .slice (some ⟨k.gb, 0, none⟩) d.blocks.length cb
            | 4 => x = .int .i64 (i : Nat)
            | 5 => x = .pointer (some ⟨k.gd, 0, none⟩)
            | 6 => x = .pointer (some ⟨k.gd, 0, none⟩)
            | 7 => x = .pointer (some ⟨k.gd, 0, none⟩)
            | 8 => x = .slice (some ⟨k.gb, 0, none⟩) d.blocks.length cb
            | 9 => x = .int .i64 (i : Nat)
            | 10 => x = .pointer (some ⟨k.gb, i * 1024, none⟩)
            | 11 => x = .pointer (some ⟨k.gb, i * 1024 + 512, none⟩)
            | 12 => x = .agg L[i].sure.v.toArray
            | 13 => x = .pointer (some ⟨k.gb, i * 1024, none⟩)
            | 14 => x = .pointer (some ⟨k.gb, i * 1024, none⟩)
            | _ => True) (W := fun w' => w' = wr.drew) (Gr := fun w1 w2 => w2 = w1)
          case hG => (intro v; simp only [regFrame, List.zipIdx_cons, List.zipIdx_nil, List.foldl_cons, List.foldl_nil, Act.put, List.setIfInBounds_toArray, List.set_cons_zero, List.set_cons_succ, Nat.reduceAdd]; rfl)
          case hm => kernel_rfl
          case honce => rfl
          case hlow => kernel_rfl
          case hall => kernel_rfl
          case hn => rfl
          case ho => rfl
          case hog => rfl
          case hod => rfl
          case hR =>
            intro j x w' w'' hb h
            exact h
          case hW => exact fun w w' h hb => hb.trans h
          case h0 => rfl
          case hstep =>
            have hld := run_loadAt_mid (P := Try.prog) wr.drew k.gb (i * 1024 + 512) 95 L[i].sure.v _ (EOwn.range (w := wr.drew) (show EOwn eDB wr.drew B (some ⟨k.gb, 0, none⟩) cb (settle L i) from HJ.out.2) hiS 512 L[i].sure.v (fun j hj => by
              rw [HGET.out]
              show (L[i].now.v ++ L[i].sure.v)[512 + j]? = _
              rw [List.getElem?_append_right (by rw [L[i].now.v_length]; omega), L[i].now.v_length, show 512 + j - 512 = j from by omega])) Try.underlying95 rfl (infoArr.trans (by rw [L[i].sure.v_length]))
            refine ⟨?_, ?_, ?_, ?_, ?_, ?_, ?_, ?_, ?_, ?_, ?_, ?_, ?_, ?_, ?_, trivial⟩ <;> (intro v w' hw' hd; subst hw'; simp only [Deps, Region.binds, ↓reduceIte, and_true] at hd) <;> (try (first | exact opDoes_move _ rfl rfl ⟨rfl, rfl⟩ | (refine opDoes_run rfl ?_ ⟨rfl, rfl⟩; go_simp; done)))
            exact opDoes_run rfl (exec_load rfl hd hld) ⟨rfl, rfl⟩
          case hend =>
            intro v w' hw' h
            subst hw'
            simp only [List.take, AllOps, Nat.zero_add, Nat.reduceAdd, and_true] at h
            obtain ⟨-, -, -, -, -, -, -, -, -, -, -, -, h12, -, h14⟩ := h
            have ho' : EOwn eDB wr.drew B (some ⟨k.gb, 0, none⟩) cb (settle L i) := HJ.out.2
            have hst := run_store_part (P := Try.prog) 95 k.gb i 0 L[i].sure.v ho' hiS (by rw [L[i].sure.v_length]; decide) (infoArr.trans (by rw [L[i].sure.v_length])) L[i].sure.v_one
            have ho9 := ho'.storePart hiS { L[i] with now := L[i].sure } 0 L[i].sure.v (by rw [L[i].sure.v_length]; decide) (by rw [HGET.out]; exact code_now _ _)
            have HS9 : Hid (w.grownBy (wr.drew.setCells k.gb (i * 1024 + 0) L[i].sure.v) (some k.gb) ∧ EOwn eDB (wr.drew.setCells k.gb (i * 1024 + 0) L[i].sure.v) B (some ⟨k.gb, 0, none⟩) cb (settle L (i + 1))) :=
              ⟨(⟨HJ.out.1.os, HJ.out.1.tape, HJ.out.1.output, HJ.out.1.size, HJ.out.1.block⟩ : w.grownBy wr.drew (some k.gb)).trans' (grown_setCells _ _ _ _), by rw [HSUC.out]; exact ho9⟩
            refine ⟨wr.drew.setCells k.gb (i * 1024 + 0) L[i].sure.v, exec_store rfl h14 h12 hst, ?_⟩
            clear hst ho9 h12 h14 ho'
            generalize (World.setCells wr.drew _ _ _) = W9 at HS9 ⊢
            go_wp2_with fail
            go_roundw
            case rel => exact ⟨i + 1, by omega, by go_num, HS9.out⟩
            case measure => simp [intOf]; omega
        · obtain rfl : i = d.blocks.length := by omega
          have hii2 : ¬ (d.blocks.length : Int) < (d.blocks.length : Int) := by omega
          have hset : settle L d.blocks.length = L.map (fun x => ⟨x.sure, x.sure⟩) := by
            unfold settle
            rw [← hLlen, List.take_length, List.drop_length, List.append_nil]
          have HF : Hid (w.grownBy wr (some k.gb) ∧ EOwn eDB wr B (some ⟨k.gb, 0, none⟩) cb (L.map (fun x => ⟨x.sure, x.sure⟩))) := by rw [← hset]; exact HJ.out
          clear hset
          go_wp2_with fail
          go_end0
          obtain ⟨hg, ho⟩ := HF.out
          have hlen2 : (L.map (fun x => (⟨x.sure, x.sure⟩ : DB))).length = d.blocks.length := by rw [List.length_map]; exact hLlen
          have b1 := (((HW0.out.1.grown hg (by simp; exact hne)).set1 (u := .slice none 0 0)).set 4 (.bool true))
          have hne' : ∀ a : Addr, some (⟨k.gb, 0, none⟩ : Addr) = some a → a.block ≠ k.gd := fun a ha => by obtain rfl := Option.some.inj ha; exact fun e => hne e.symm
          have o1 := (ho.set ⟨k.gd, 1, none⟩ hne' (.slice none 0 0)).set ⟨k.gd, 4, none⟩ hne' (.bool true)
          have r1 := (HW0.out.2.2.keep2 hg.size (fun a ha _ => hg.block _ (by assumption) (by simp; exact fun e => HAP.out.2 a ha (.inr e))))
          have r2 := (r1.keep2 (w' := wr.setCell ⟨k.gd, 1, none⟩ (.slice none 0 0)) (by simp) (fun a ha _ => heap_setCell_other wr ⟨k.gd, 1, none⟩ _ _ (fun e => HAP.out.2 a ha (.inl e)))).keep2 (w' := (wr.setCell ⟨k.gd, 1, none⟩ (.slice none 0 0)).setCell ⟨k.gd, 4, none⟩ (.bool true)) (by simp) (fun a ha _ => heap_setCell_other _ ⟨k.gd, 4, none⟩ _ _ (fun e => HAP.out.2 a ha (.inl e)))
          refine ⟨rfl, ?_, (((Keeps.of_grown hg).mono (fun k' e => .inr e)).set ⟨k.gd, 1, none⟩ (.inl (.inl rfl)) _).set ⟨k.gd, 4, none⟩ (.inl (.inl rfl)) _⟩
          rw [HE.out.2]
          exact ⟨⟨cb, 0, 0, _, cf, none, Af, rfl, rfl, Nat.le_refl _, Nat.zero_le _, fun _ => rfl, by simpa [hlen2] using b1, o1, EOwn.nil _ _, r2, (fun a ha => by cases ha), HAP.out.2⟩, lo⟩
/-- A loss of power, of any disk. -/
theorem crash_any (w : World) (B : Nat) (k : KB) (d : DS) (h : DiskAt w B k d) (hG : DGood d) (f : DF) (hfk : f.keep < 18446744073709551616) :
    Calls Try.prog 19 #[.pointer (some ⟨k.gd, 0, none⟩), .agg #[.int .i64 f.at_, .int .u64 (f.keep : Nat), .int .i64 f.torn]] w fun e w' => e = .returned (.tuple #[]) ∧ DiskAt w' B k (d.crash f) ∧ Keeps w w' k.own := by
  cases hd : d.down with
  | false => exact crash_up w B k d h hG f hfk hd
  | true =>
    refine (crash_down w B k d h f hd).mono fun e w' ⟨he, hb⟩ => ⟨he, ?_, Keeps.of_below hb⟩
    have e : d.crash f = d := by unfold DS.crash; rw [if_pos hd]
    rw [e]; exact h.below hb
end Go.Proofs.Ythbanhedjfpmaaa
end

section
/-
  The contract of disk's strike.
-/
namespace Go.Proofs.Ythbanhedjfpmaaa
set_option linter.unusedSimpArgs false
set_option linter.unusedVariables false
open Go.RowKit

/-- A change counts; the power fails, if that is planned. -/
def DS.strike (d : DS) : DS × Int :=
  match d.falls.find? (fun f => f.at_ == (d.changes : Int)) with
  | some f => (({ d with changes := d.changes + 1 } : DS).crash f, 6)
  | none => ({ d with changes := d.changes + 1 }, 0)
def fallFrom (L : List DF) (n : Int) (i : Nat) : Option DF := (L.drop i).find? (fun f => f.at_ == n)
theorem fallFrom_hit {L : List DF} {n : Int} {i : Nat} (hi : i < L.length) (h : L[i].at_ = n) : fallFrom L n i = some L[i] := by
  unfold fallFrom
  rw [List.drop_eq_getElem_cons hi, List.find?_cons_of_pos (by simpa using h)]
theorem fallFrom_miss {L : List DF} {n : Int} {i : Nat} (hi : i < L.length) (h : L[i].at_ ≠ n) : fallFrom L n i = fallFrom L n (i + 1) := by
  unfold fallFrom
  rw [List.drop_eq_getElem_cons hi, List.find?_cons_of_neg (by simpa using h)]
theorem fallFrom_end {L : List DF} {n : Int} {i : Nat} (hi : L.length ≤ i) : fallFrom L n i = none := by
  unfold fallFrom
  rw [List.drop_eq_nil_of_le hi]; rfl
theorem DiskAt.setChanges {w : World} {B : Nat} {k : KB} {d : DS} (h : DiskAt w B k d) (n : Nat) (x : Int) (hx : x = (n : Int)) : DiskAt (w.setCell ⟨k.gd, 3, none⟩ (.int .i64 x)) B k { d with changes := n } := by
  subst hx
  obtain ⟨hne, hlt, hlt2, hB⟩ := h.head
  obtain ⟨⟨cb, np, cp, nf, cf, Ap, Af, rfl, rfl, h3, h4, h5, h6, h7, h8, h9, h10, h11⟩, lo⟩ := h
  refine ⟨⟨cb, _, cp, _, cf, Ap, Af, rfl, rfl, h3, h4, h5, h6.set3, ?_, ?_, ?_, h10, h11⟩, lo⟩
  · exact h7.set _ (fun a ha => by obtain rfl := Option.some.inj ha; exact fun e => hne e.symm) _
  · exact h8.keep2 (by simp) (fun a ha _ => heap_setCell_other w ⟨k.gd, 3, none⟩ _ _ (fun e => h10 a ha (.inl e)))
  · exact h9.keep2 (by simp) (fun a ha _ => heap_setCell_other w ⟨k.gd, 3, none⟩ _ _ (fun e => h11 a ha (.inl e)))
theorem df_at {w : World} {A : Option Addr} {L : List DF} (h : ERow eDF w A L) {i : Nat} (hi : i < L.length) : ∃ b o, A = some ⟨b, o, none⟩ ∧ b < w.heap.size ∧
    w.cell? ⟨b, o + i * 3, none⟩ = some (.int .i64 L[i].at_) ∧ w.cell? ⟨b, o + i * 3 + 1, none⟩ = some (.int .u64 (L[i].keep : Nat)) ∧ w.cell? ⟨b, o + i * 3 + 2, none⟩ = some (.int .i64 L[i].torn) := by
  obtain ⟨b, o, e, hb, hc⟩ := h.at_ hi
  exact ⟨b, o, e, hb, hc 0 _ rfl, hc 1 _ rfl, hc 2 _ rfl⟩
theorem DiskAt.falls_row {w : World} {B : Nat} {k : KB} {d : DS} (h : DiskAt w B k d) : ∃ cf Af, w.cell? ⟨k.gd, 2, none⟩ = some (.slice Af d.falls.length cf) ∧ ERow eDF w Af d.falls := by
  obtain ⟨⟨cb, np, cp, nf, cf, Ap, Af, rfl, rfl, h3, h4, h5, h6, h7, h8, h9, h10, h11⟩, lo⟩ := h
  exact ⟨cf, Af, h6.cell 2, h9.row⟩

set_option maxRecDepth 20000 in
set_option maxHeartbeats 1000000 in
theorem strike_any (w : World) (B : Nat) (k : KB) (d : DS) (h : DiskAt w B k d) (hG : DGood d) (hch : d.changes < 1000000000) :
    Calls Try.prog 49 #[.pointer (some ⟨k.gd, 0, none⟩)] w fun e w' => e = .returned (.int .i64 d.strike.2) ∧ DiskAt w' B k d.strike.1 ∧ Keeps w w' k.own := by
  have hf1 := hG.f1
  obtain ⟨cb, cp, cf, Ap, Af, hc⟩ := h.open_
  have HS := Lib.hid (And.intro (h.setChanges (d.changes + 1) ((d.changes : Int) + 1) (by omega)) ((Keeps.refl w k.own).set ⟨k.gd, 3, none⟩ (.inl (.inl rfl)) (.int .i64 ((d.changes : Int) + 1))))
  have HST : Hid (d.strike = match fallFrom d.falls (d.changes : Int) 0 with
    | some f => (({ d with changes := d.changes + 1 } : DS).crash f, 6)
    | none => ({ d with changes := d.changes + 1 }, 0)) := by show _ = _; unfold DS.strike fallFrom; rfl
  clear h
  go_enter Try.func49, Try.ntmps49
  go_upto_region 3 with (fail)
  generalize (World.setCell w _ _) = W at HS ⊢
  clear hc
  obtain ⟨cf', Af', hc2, hrow⟩ := HS.out.1.falls_row
  have hlt := HS.out.1.head.2.1
  have HR := Lib.hid hrow
  clear hrow
  go_wp2_with fail
  go_loopw [22] (fun iv wr => ∃ i : Nat, i ≤ d.falls.length ∧ iv = .int .i64 i ∧ Hid (Below W.heap.size W wr ∧ fallFrom d.falls (d.changes : Int) 0 = fallFrom d.falls (d.changes : Int) i)) (fun iv _ => d.falls.length - (intOf iv).toNat)
  case atStart => exact ⟨0, by omega, rfl, Below.refl _ _, rfl⟩
  case round =>
    obtain ⟨i, hi, rfl, HJ⟩ := hrel
    have hz := HJ.out.1.size
    by_cases hlt2 : i < d.falls.length
    · have hii : (i : Int) < (d.falls.length : Int) := by omega
      obtain ⟨b, o, rfl, hb, d0, d1, d2⟩ := df_at (HR.out.below HJ.out.1) hlt2
      have hfk := hG.fk d.falls[i] (List.getElem_mem hlt2)
      by_cases he : d.falls[i].at_ = (d.changes : Int)
      · have heb : (d.falls[i].at_ == (d.changes : Int)) = true := by simpa using he
        have HF := Lib.hid (fallFrom_hit hlt2 he)
        clear he
        have HG' : Hid (DGood { d with changes := d.changes + 1 }) := ⟨hG.b0, hG.b1, hG.p1, hG.f1, hG.at_, hG.fk⟩
        generalize d.falls[i] = f at d0 d1 d2 hfk heb HF
        have HC : Hid (∀ o : Obj, Calls Try.prog 19 #[.pointer (some ⟨k.gd, 0, none⟩), .agg #[.int .i64 f.at_, .int .u64 (f.keep : Nat), .int .i64 f.torn]] (wr.alloc o) fun e w' => e = .returned (.tuple #[]) ∧ DiskAt w' B k (({ d with changes := d.changes + 1 } : DS).crash f) ∧ Keeps (wr.alloc o) w' k.own) :=
          fun o => crash_any (wr.alloc o) B k _ ((HS.out.1.below HJ.out.1).below ((Below.refl _ _).alloc (Nat.le_refl _) o)) HG'.out f hfk.1
        go_wp2_with fail
        refine (HC.out _).mono ?_
        rintro e w5 ⟨rfl, hD5, hK5⟩
        have HF5 := Lib.hid (And.intro hD5 ((HS.out.2.trans (Keeps.of_below HJ.out.1)).trans ((Keeps.of_below ((Below.refl _ _).alloc (Nat.le_refl _) _)).trans hK5)))
        clear hD5 hK5
        go_wp2_with fail
        go_ret
        rw [HST.out, HJ.out.2, HF.out]
        exact ⟨rfl, HF5.out⟩
      · have heb : (d.falls[i].at_ == (d.changes : Int)) = false := by simpa using he
        have HF := Lib.hid (fallFrom_miss hlt2 he)
        clear he
        generalize d.falls[i] = f at d0 d1 d2 hfk heb
        go_wp2_with fail
        go_roundw
        case rel => exact ⟨i + 1, by omega, by go_num, HJ.out.1.alloc hz _, HJ.out.2.trans HF.out⟩
        case measure => simp [intOf]; omega
    · have hii : ¬ (i : Int) < (d.falls.length : Int) := by omega
      go_wp2_with fail
      go_ret
      rw [HST.out, HJ.out.2, fallFrom_end (by omega)]
      exact ⟨rfl, HS.out.1.below HJ.out.1, HS.out.2.trans (Keeps.of_below HJ.out.1)⟩
end Go.Proofs.Ythbanhedjfpmaaa
end

section
/-
  Values of many cells that are built; a slice of one of them; append to a full row.
-/
namespace Go.Proofs.Ythbanhedjfpmaaa
set_option linter.unusedSimpArgs false
set_option linter.unusedVariables false
open Go.RowKit

theorem fold_set : ∀ (vs : List Value) (cells : Array Value) (off k : Nat), ((vs.zipIdx k).foldl (fun (cs : Array Value) (p : Value × Nat) => cs.setIfInBounds (off + p.2) p.1) cells).toList = setFrom cells.toList (off + k) vs
  | [], cells, off, k => rfl
  | v :: vs, cells, off, k => by
    rw [List.zipIdx_cons, List.foldl_cons, fold_set vs _ off (k + 1), setFrom]
    simp only [Array.toList_setIfInBounds]
    rw [Nat.add_assoc]
theorem fold_set_arr (v : Value) (cells : Array Value) (off : Nat) : v.cells.zipIdx.foldl (fun (cs : Array Value) (p : Value × Nat) => cs.setIfInBounds (off + p.2) p.1) cells = (setFrom cells.toList off v.cells.toList).toArray := by
  have h := fold_set v.cells.toList cells off 0
  rw [Nat.add_zero] at h
  rw [← h, Array.toArray_toList]
  rw [← Array.foldl_toList]
  congr 1
  simp [Array.toList_zipIdx]
/-- []T{x} of one element of many cells. -/
theorem run_buildSlice_one {α : Type} (E : Elem α) (x : α) (v : Value) (hv : v.cells.toList = E.code x) (hbig : E.sz ≤ 65536) (w : World) :
    (Instr.buildSlice E.t 1 #[(0, v)]).run Try.prog w = .ok (.slice (some ⟨w.heap.size, 0, none⟩) 1 1) (w.alloc (.cells (E.code x).toArray E.e)) := by
  obtain ⟨i, hi, hz, hsi, hby⟩ := info_parts E.info
  have hsz : v.cells.size = E.sz := by rw [← Array.length_toList, hv, E.len]
  have hpos := E.pos
  have hzero : ((Array.range E.sz).map fun j => E.zero.cells[j % E.zero.cells.size]!).size = E.sz := by simp
  have hfill : Instr.fill (fun i => some (i * E.sz, E.sz)) ((Array.range E.sz).map fun j => E.zero.cells[j % E.zero.cells.size]!) [(0, v)] = some (E.code x).toArray := by
    unfold Instr.fill
    simp only [Nat.zero_mul]
    rw [if_neg (by rw [hsz, hzero]; simp)]
    unfold Instr.fill
    have := fold_set_arr v ((Array.range E.sz).map fun j => E.zero.cells[j % E.zero.cells.size]!) 0
    have e := setFrom_all (E.code x) ((Array.range E.sz).map fun j => E.zero.cells[j % E.zero.cells.size]!).toList [] (by rw [E.len, Array.length_toList, hzero])
    simp only [List.nil_append, List.length_nil] at e
    rw [this, hv, e]
  simp only [Instr.buildSlice, Sem.run_bind, run_underlying E.under, Result.andThen_ok, sizeOf, typeInfo, Sem.run_pure]
  simp [hi, hsi, zeroValue, typeInfo, hz, newRow]
  rw [if_neg (by omega), if_neg (by omega), hfill]
  simp
theorem exec_buildSlice {P : Program} {o : Oper} {a : Act} {w w' : World} {T : TypeId} {x : Operand} {v r : Value} (hop : o.op = .buildSlice T 1 #[(0, x)]) (hx : a.eval x = v) (hrun : (Instr.buildSlice T 1 #[(0, v)]).run P w = .ok r w') : (execOp a.eval o).run P w = .ok (.value r) w' := by
  simp [execOp, hop, hx, hrun, Sem.run_bind]
theorem exec_append {P : Program} {o : Oper} {a : Act} {w w' : World} {d s : Operand} {ts : Array TypeId} {x y r : Value} (hop : o.op = .call { callee := .builtin .append, args := #[d, s], argTypes := ts })
    (hd : a.eval d = x) (hs : a.eval s = y) (hrun : (Builtin.append_ ts o.type #[x, y]).run P w = .ok r w') : (execOp a.eval o).run P w = .ok (.value r) w' := by
  simp [execOp, hop, resolve, invoke, builtin, hd, hs, hrun, Result.andThen]
/-- append to a row that is full, whoever's it is: a new one. -/
theorem run_append_full {α : Type} (E : Elem α) {w : World} {A A' : Option Addr} {c' : Nat} {L M : List α} (ty : TypeId) (hr : ERow E w A L) (hr' : ERow E w A' M) (hM : 0 < M.length) (hb : L.length + M.length ≤ 1073741824) (hnone : A = none → L = []) :
    ∃ A1 c1 w1, (Builtin.append_ #[E.t, E.t] ty #[.slice A L.length L.length, .slice A' M.length c']).run Try.prog w = .ok (.slice A1 (L.length + M.length) c1) w1 ∧ EOwn E w1 w.heap.size A1 c1 (L ++ M) ∧ Below w.heap.size w w1 := by
  obtain ⟨i, hi, hz, hsi, hby⟩ := info_parts E.info
  obtain ⟨b, o, rfl, hlt, hc⟩ := hr' hM
  have hcells : ∀ j u, (E.cells M)[j]? = some u → w.cell? ((⟨b, o, none⟩ : Addr).add j) = some u := fun j u hu => by rw [Addr.add_lit]; exact hc j u hu
  have hbig : (L.length + M.length) * E.bytes ≤ 140737488355328 := by
    have h1 := Nat.mul_le_mul hb E.few
    omega
  cases A with
  | some ad =>
    have hold : ∀ j u, (E.cells L)[j]? = some u → w.cell? (ad.add j) = some u := by
      intro j u hu
      have hj := (List.getElem?_eq_some_iff.1 hu).1
      rw [E.cells_length] at hj
      obtain ⟨b', o', h, _, hc'⟩ := hr (by
        rcases Nat.eq_zero_or_pos L.length with h0 | h0
        · rw [h0] at hj; simp at hj
        · exact h0)
      obtain rfl := Option.some.inj h
      rw [Addr.add_lit]
      exact hc' j u hu
    obtain ⟨v', w', hrun, r1, r2⟩ := run_append_arg_grows (P := Try.prog) w E.t ty E.e i E.zero E.sz E.bytes E.under hi hz hsi hby E.zsz E.pos ad L.length L.length (E.cells L) (E.cells_length L) hold ⟨b, o, none⟩ M.length c' (E.cells M) (E.cells_length M) hcells (by omega) (by simp [maxLen]; omega) hbig
    obtain ⟨A1, c1, rfl⟩ := own_slice r1
    refine ⟨A1, c1, w', hrun, ?_, (Below.refl _ w).grown r2 (Nat.le_refl _) (fun k hk => by cases hk)⟩
    unfold EOwn
    rw [E.cells_append, List.length_append]
    exact r1
  | none =>
    have hl := hnone rfl
    subst hl
    obtain ⟨v', w', hrun, r1, r2, _⟩ := run_append_own (P := Try.prog) w w.heap.size E.t ty E.e i E.zero E.sz E.bytes E.under hi hz hsi hby E.zsz E.pos (.slice none 0 0) 0 [] (World.ownsRow_nil w _ E.e E.sz) ⟨b, o, none⟩ M.length c' (E.cells M) (E.cells_length M) hcells (E.cells_one M) (by simp [maxLen]; omega) (by simpa using hbig) (Nat.le_refl _)
    obtain ⟨A1, c1, rfl⟩ := own_slice r1
    refine ⟨A1, c1, w', by simpa using hrun, ?_, (Below.refl _ w).grown r2 (Nat.le_refl _) (fun k hk => by simp [Value.ownBlock] at hk)⟩
    unfold EOwn
    simpa using r1
end Go.Proofs.Ythbanhedjfpmaaa
end

section
/-
  Parts of disk's Write: the write that is built, Clip.
-/
namespace Go.Proofs.Ythbanhedjfpmaaa
set_option linter.unusedSimpArgs false
set_option linter.unusedVariables false
open Go.RowKit

theorem infoInt : (Try.prog.info? 3).map (·.size) = some 1 := by kernel_rfl
theorem sizeOfDW (w : World) : (sizeOf 3).run Try.prog w = .ok 1 w ∧ (sizeOf 95).run Try.prog w = .ok 512 w := by
  constructor
  · cases hq : Try.prog.info? 3 with
    | none => have := infoInt; rw [hq] at this; cases this
    | some i => have := infoInt; rw [hq] at this; simp [sizeOf, typeInfo, hq]; simpa using this
  · cases hq : Try.prog.info? 95 with
    | none => have := infoArr; rw [hq] at this; cases this
    | some i => have := infoArr; rw [hq] at this; simp [sizeOf, typeInfo, hq]; simpa using this
theorem build_write (w : World) (n : Int) : (Instr.build 97 #[(0, .int .i64 n)]).run Try.prog w = .ok (.agg (Value.int .i64 n :: zBytes 512).toArray) w := by
  obtain ⟨h1, h2⟩ := sizeOfDW w
  have hf : Instr.fill (fun x => ([(0, 1), (1, 512)] : List (Nat × Nat))[x]?) eDW.zero.cells [(0, .int .i64 n)] = some (Value.int .i64 n :: zBytes 512).toArray := by
    unfold Instr.fill
    simp only [List.getElem?_cons_zero]
    rw [if_neg (by rw [eDW.zsz]; exact (by decide : ¬(decide ((1 : Nat) ≠ 1) || decide (0 + 1 > 513)) = true))]
    unfold Instr.fill
    have := fold_set_arr (.int .i64 n) eDW.zero.cells 0
    rw [this]
    rfl
  simp only [Instr.build, Sem.run_bind, zeroDW, Result.andThen_ok, run_underlying Try.underlying97]
  simp [List.mapM_cons, Sem.run_bind, h1, h2, hf]

set_option maxHeartbeats 400000 in
theorem clip_any (w : World) (A : Option Addr) (n c : Nat) (hn : n ≤ c) (hc : c ≤ maxLen) (h0 : A = none → c = 0) :
    Calls Try.prog 48 #[.slice A n c] w fun e w' => e = .returned (.slice A n n) ∧ w = w' := by
  unfold maxLen at hc
  cases A with
  | none =>
    obtain rfl := h0 rfl
    obtain rfl : n = 0 := by omega
    go_enter Try.func48, Try.ntmps48
    go_wp2_with fail
    go_ret
    exact ⟨rfl, rfl⟩
  | some a =>
    have hni : (n : Int) ≤ (c : Int) := by omega
    clear h0
    go_enter Try.func48, Try.ntmps48
    go_wp2_with fail
    go_ret
    exact ⟨rfl, rfl⟩
end Go.Proofs.Ythbanhedjfpmaaa
end

section
/-
  The contract of disk's Write.
-/
namespace Go.Proofs.Ythbanhedjfpmaaa
set_option linter.unusedSimpArgs false
set_option linter.unusedVariables false
open Go.RowKit

/-- A write: the disk behind it, and why it is refused. -/
def DS.put (d : DS) (i : Nat) (b : B512) : DS × Int :=
  ({ d with blocks := d.blocks.set i { (d.blocks.getD i default) with now := b }, pending := d.pending ++ [⟨(i : Int), b⟩] } : DS).strike
def DS.write (d : DS) (i : Int) (l : List UInt8) : DS × Int :=
  if d.why i ≠ 0 then (d, d.why i) else if h : l.length = 512 then d.put i.toNat ⟨l, h⟩ else (d, 1)

set_option maxRecDepth 20000 in
set_option maxHeartbeats 1000000 in
theorem write_bad (w : World) (B : Nat) (k : KB) (d : DS) (h : DiskAt w B k d) (i : Int) (A : Option Addr) (c : Nat) (l : List UInt8) (hw : d.why i ≠ 0) :
    Calls Try.prog 17 #[.pointer (some ⟨k.gd, 0, none⟩), .int .i64 i, .slice A l.length c] w fun e w' => e = .returned (.int .i64 (d.why i)) ∧ w = w' := by
  have HH := Lib.hid (has_any w B k d h i)
  have hb : (d.why i != 0) = true := by simpa using hw
  generalize d.why i = e at HH hb hw ⊢
  clear h hw
  go_enter Try.func17, Try.ntmps17
  go_wp2_with fail
  refine HH.out.mono ?_
  rintro e1 w1 ⟨rfl, rfl⟩
  go_wp2_with fail
  go_ret
  exact ⟨rfl, rfl⟩
set_option maxRecDepth 20000 in
set_option maxHeartbeats 1000000 in
theorem write_long (w : World) (B : Nat) (k : KB) (d : DS) (h : DiskAt w B k d) (i : Int) (A : Option Addr) (c : Nat) (l : List UInt8) (hw : d.why i = 0) (hl : l.length ≠ 512) :
    Calls Try.prog 17 #[.pointer (some ⟨k.gd, 0, none⟩), .int .i64 i, .slice A l.length c] w fun e w' => e = .returned (.int .i64 1) ∧ w = w' := by
  have HH := Lib.hid (has_any w B k d h i)
  rw [hw] at HH
  have hlb : ((l.length : Int) != 512) = true := by simp; omega
  clear h hw hl
  go_enter Try.func17, Try.ntmps17
  go_wp2_with fail
  refine HH.out.mono ?_
  rintro e1 w1 ⟨rfl, rfl⟩
  go_wp2_with fail
  go_ret
  exact ⟨rfl, rfl⟩
set_option maxRecDepth 20000 in
theorem DiskAt.setNow {w : World} {B : Nat} {k : KB} {d : DS} (h : DiskAt w B k d) {i : Nat} (hi : i < d.blocks.length) (b : B512) :
    (Instr.storeAt 95 (.pointer (some ⟨k.gb, i * 1024 + 0, none⟩)) (.agg b.v.toArray)).run Try.prog w = .ok () (w.setCells k.gb (i * 1024 + 0) b.v) ∧
    DiskAt (w.setCells k.gb (i * 1024 + 0) b.v) B k { d with blocks := d.blocks.set i { (d.blocks.getD i default) with now := b } } ∧ Keeps w (w.setCells k.gb (i * 1024 + 0) b.v) k.own := by
  obtain ⟨hne, hlt, hlt2, hB⟩ := h.head
  obtain ⟨⟨cb, np, cp, nf, cf, Ap, Af, rfl, rfl, h3, h4, h5, h6, h7, h8, h9, h10, h11⟩, lo⟩ := h
  have hg := grown_setCells w k.gb (i * 1024 + 0) b.v
  have hgd : d.blocks.getD i default = d.blocks[i] := by simp [hi]
  have hst := run_store_part (P := Try.prog) 95 k.gb i 0 b.v h7 hi (by rw [b.v_length]; decide) (infoArr.trans (by rw [b.v_length])) b.v_one
  have ho9 := h7.storePart hi { d.blocks[i] with now := b } 0 b.v (by rw [b.v_length]; decide) (code_now _ _)
  rw [hgd]
  refine ⟨hst, ⟨⟨cb, _, cp, _, cf, Ap, Af, rfl, rfl, h3, h4, h5, ?_, ho9, ?_, ?_, h10, h11⟩, lo⟩, (Keeps.of_grown hg).mono (fun k' e => .inr e)⟩
  · rw [List.length_set]; exact h6.grown hg (by simp; exact hne)
  · exact h8.keep2 hg.size (fun a ha _ => hg.block _ (by assumption) (by simp; exact fun e => h10 a ha (.inr e)))
  · exact h9.keep2 hg.size (fun a ha _ => hg.block _ (by assumption) (by simp; exact fun e => h11 a ha (.inr e)))
theorem copy_src {w : World} {g o : Nat} {vs : List Value} (h : ∀ j (h : j < vs.length), w.cell? ⟨g, o + j, none⟩ = some vs[j]) : ∀ j v, vs[j]? = some v → w.cell? ((⟨g, o, none⟩ : Addr).add j) = some v := fun j v hv => by
  obtain ⟨hj, e⟩ := List.getElem?_eq_some_iff.1 hv
  rw [Addr.add_mid, h j hj, e]
set_option maxRecDepth 20000 in
set_option maxHeartbeats 2000000 in
theorem write_ok (w : World) (B : Nat) (k : KB) (d : DS) (h : DiskAt w B k d) (hG : DGood d) (hch : d.changes < 1000000000) (hpl : d.pending.length < 1000000) (i : Nat) (hi : i < d.blocks.length) (hd : d.down = false) (A : Option Addr) (c : Nat) (b : B512) (hr : BRow w A b.l) :
    Calls Try.prog 17 #[.pointer (some ⟨k.gd, 0, none⟩), .int .i64 i, .slice A 512 c] w fun e w' => e = .returned (.int .i64 (d.put i b).2) ∧ DiskAt w' B k (d.put i b).1 ∧ Keeps w w' k.own := by
  have hwhy : d.why i = 0 := by unfold DS.why; rw [if_neg (by simp [hd]), if_neg (by omega)]
  have HH := Lib.hid (has_any w B k d h i)
  rw [hwhy] at HH
  have HD := Lib.hid h
  have HR := Lib.hid hr
  have hp1 := hG.p1
  have hii : (i : Int) < (d.blocks.length : Int) := by omega
  have hb4 := hG.b1
  clear h hwhy hd hr
  go_enter Try.func17, Try.ntmps17
  go_wp2_with fail
  refine HH.out.mono ?_
  rintro e1 w1 ⟨rfl, rfl⟩
  have hbuild := fun w => build_write w (i : Int)
  obtain ⟨ba, oa, hA, hba, hbc⟩ := HR.out (by rw [List.length_map, b.h]; decide)
  subst hA
  have HBC := Lib.hid hbc
  have HB : Hid (∀ {W6 W7 : World}, Below w.heap.size w W6 → W6.grownBy W7 (some w.heap.size) → ∀ j (h : j < b.v.length), W7.cell? ⟨ba, oa + j, none⟩ = some b.v[j]) := fun hB hg j hj => by
    rw [World.cell?_of_block (a := ⟨ba, oa + j, none⟩) (hg.block ba (Nat.lt_of_lt_of_le hba hB.size) (by simp; omega)), World.cell?_of_block (a := ⟨ba, oa + j, none⟩) (hB.block ba hba)]
    exact HBC.out j hj
  clear hbc
  go_wp2_with (first | (refine wpList_alloc_z rfl 97 rfl (zeroDW _) ?_; intro W6 hW6; obtain ⟨ba6, hz6, hB6⟩ := fresh1 (a := Value.int .i64 0 :: zBytes 512) hW6; clear hW6) | (refine wpList_store_blk rfl rfl 97 (.tmp 8) (.tmp 19) rfl w.heap.size rfl (Value.int .i64 (i : Int) :: zBytes 512) rfl ba6 (by simp [zBytes]) (infoDW.trans (by simp [zBytes])) (eDW.one ⟨(i : Int), B512.zero⟩) ?_; intro W7 hb7 hg7; have hcp := (run_copy_cells (P := Try.prog) W7 33 33 3 5 w.heap.size 1 512 512 ⟨ba, oa, none⟩ 512 c b.v Try.underlying33 (by kernel_rfl) (by rw [b.v_length]; rfl) (copy_src (HB.out hB6 hg7)) (fun j hj => (hb7.there 1 512 (by simp [zBytes]) j (by rw [b.v_length] at hj; exact hj)).1) (fun j hj => (hb7.there 1 512 (by simp [zBytes]) j (by rw [b.v_length] at hj; exact hj)).2) b.v_one)) | (refine wpList_runv rfl (exec_copy (d := .tmp 21) (s := .tmp 22) rfl rfl rfl hcp) ?_; have hb8 := hb7.setCells 1 b.v; have hg8 := grown_setCells W7 w.heap.size 1 b.v; generalize (World.setCells W7 _ _ _) = W8 at hb8 hg8 ⊢))
  have hb8' : Blk W8 w.heap.size 97 (Value.int .i64 (i : Int) :: b.v) := by
    have := setFrom_part b.v [Value.int .i64 (i : Int)] (zBytes 512) [] (by rw [b.v_length]; simp [zBytes])
    rw [List.append_nil, List.append_nil] at this
    rw [← show setFrom (Value.int .i64 (i : Int) :: zBytes 512) 1 b.v = Value.int .i64 (i : Int) :: b.v from this]
    exact hb8
  have hB8 : Below w.heap.size w W8 := (hB6.grown hg7 hB6.size (fun k hk => by simp at hk; omega)).grown hg8 (Nat.le_trans hB6.size hg7.size) (fun k hk => by simp at hk; omega)
  have HS8 := Lib.hid (And.intro (HD.out.below hB8) (And.intro hb8' hB8))
  obtain ⟨cb, cp, cf, Ap, Af, hc8⟩ := HS8.out.1.open_
  have hz8 : w.heap.size < W8.heap.size := hb8'.lt
  clear hb8 hb8' hB8 hg7 hg8 hcp hb7 ba6 hB6
  apply wp_region_last (n := 9) (R := fun j x w' => match j with
    | 0 => x = .pointer (some ⟨k.gd, 0, none⟩)
    | 1 => x = .pointer (some ⟨k.gd, 0, none⟩)
    | 2 => x = .pointer (some ⟨k.gd, 0, none⟩)
    | 3 => x = .slice (some ⟨k.gb, 0, none⟩) d.blocks.length cb
    | 4 => x = .int .i64 (i : Nat)
    | 5 => x = .pointer (some ⟨w.heap.size, 1, none⟩)
    | 6 => x = .agg b.v.toArray
    | 7 => x = .pointer (some ⟨k.gb, i * 1024, none⟩)
    | 8 => x = .pointer (some ⟨k.gb, i * 1024, none⟩)
    | _ => True) (W := fun w' => w' = W8.drew) (Gr := fun w1 w2 => w2 = w1)
  case hG => (intro v; simp only [regFrame, List.zipIdx_cons, List.zipIdx_nil, List.foldl_cons, List.foldl_nil, Act.put, List.setIfInBounds_toArray, List.set_cons_zero, List.set_cons_succ, Nat.reduceAdd]; rfl)
  case hm => kernel_rfl
  case honce => rfl
  case hlow => kernel_rfl
  case hall => kernel_rfl
  case hn => rfl
  case ho => rfl
  case hog => rfl
  case hod => rfl
  case hR =>
    intro j x w' w'' hb h
    exact h
  case hW => exact fun w w' h hb => hb.trans h
  case h0 => rfl
  case hstep =>
    have hld := run_loadAt_mid (P := Try.prog) W8.drew w.heap.size 1 95 b.v _ (Blk.range (w := W8.drew) HS8.out.2.1 1 b.v (fun j hj => by rw [Nat.add_comm]; rfl)) Try.underlying95 rfl (infoArr.trans (by rw [b.v_length]))
    refine ⟨?_, ?_, ?_, ?_, ?_, ?_, ?_, ?_, ?_, trivial⟩ <;> (intro v w' hw' hd; subst hw'; simp only [Deps, Region.binds, ↓reduceIte, and_true] at hd) <;> (try (first | exact opDoes_move _ rfl rfl ⟨rfl, rfl⟩ | (refine opDoes_run rfl ?_ ⟨rfl, rfl⟩; go_simp; done)))
    exact opDoes_run rfl (exec_load rfl hd hld) ⟨rfl, rfl⟩
  case hend =>
    intro v w' hw' h
    subst hw'
    simp only [List.take, AllOps, Nat.zero_add, Nat.reduceAdd, and_true] at h
    obtain ⟨-, -, -, -, -, -, h6, -, h8⟩ := h
    obtain ⟨hst, hD9, hK9⟩ := DiskAt.setNow (w := W8.drew) (HS8.out.1.below (below_drew W8)) hi b
    have hb9 : Blk (W8.drew.setCells k.gb (i * 1024 + 0) b.v) w.heap.size 97 (Value.int .i64 (i : Int) :: b.v) := Blk.grown (w := W8.drew) HS8.out.2.1 (grown_setCells _ _ _ _) (by have := HD.out.head.2.2.1; simp; omega)
    have hK : Keeps w (W8.drew.setCells k.gb (i * 1024 + 0) b.v) k.own := (Keeps.of_below (HS8.out.2.2.drew)).trans hK9
    refine ⟨W8.drew.setCells k.gb (i * 1024 + 0) b.v, exec_store rfl h8 h6 hst, ?_⟩
    have HS9 := Lib.hid (And.intro hD9 (And.intro hb9 hK))
    clear hst hD9 hK9 hb9 hK h6 h8 hc8
    generalize (World.setCells W8.drew _ _ _) = W9 at HS9 ⊢
    obtain ⟨⟨cb2, np, cp2, nf, cf2, Ap2, Af2, rfl, rfl, q3, q4, q5, q6, q7, q8, q9, q10, q11⟩, lo⟩ := HS9.out.1
    have hc9 := q6.c5
    have HQ := Lib.hid (And.intro q6 q8)
    clear q6 q7 q8 q9 q10 q11
    go_wp2_with fail
    have hcl := Lib.hid (fun w' => clip_any w' Ap2 d.pending.length cp2 q3 q4 q5)
    have hlt9 : w.heap.size < W9.heap.size := HS9.out.2.1.lt
    apply wp_region_last (n := 11) (R := fun j x w' => match j with
      | 0 => x = .pointer (some ⟨k.gd, 0, none⟩)
      | 1 => x = .pointer (some ⟨k.gd, 0, none⟩)
      | 2 => x = .pointer (some ⟨k.gd, 0, none⟩)
      | 3 => x = .pointer (some ⟨k.gd, 1, none⟩)
      | 4 => x = .slice Ap2 d.pending.length cp2
      | 5 => x = .slice Ap2 d.pending.length d.pending.length
      | 6 => x = .agg (Value.int .i64 (i : Int) :: b.v).toArray
      | 7 => ∃ g', x = .slice (some ⟨g', 0, none⟩) 1 1 ∧ ERow eDW w' (some ⟨g', 0, none⟩) [⟨(i : Int), b⟩]
      | 8 => ∃ A1 c1, x = .slice A1 (d.pending.length + 1) c1 ∧ EOwn eDW w' W9.heap.size A1 c1 (d.pending ++ [⟨(i : Int), b⟩])
      | 9 => x = .pointer (some ⟨k.gd, 0, none⟩)
      | 10 => x = .pointer (some ⟨k.gd, 1, none⟩)
      | _ => True) (W := fun w' => Below W9.heap.size W9 w') (Gr := fun w1 w2 => Below w1.heap.size w1 w2)
    case hG => (intro v; simp only [regFrame, List.zipIdx_cons, List.zipIdx_nil, List.foldl_cons, List.foldl_nil, Act.put, List.setIfInBounds_toArray, List.set_cons_zero, List.set_cons_succ, Nat.reduceAdd]; rfl)
    case hm => kernel_rfl
    case honce => rfl
    case hlow => kernel_rfl
    case hall => kernel_rfl
    case hn => rfl
    case ho => rfl
    case hog => rfl
    case hod => rfl
    case hR =>
      intro j x w' w'' hb h
      split at h <;> try exact h
      · obtain ⟨g', h1, h2⟩ := h
        exact ⟨g', h1, h2.below hb⟩
      · obtain ⟨A1, c1, h1, h2⟩ := h
        exact ⟨A1, c1, h1, h2.below hb⟩
    case hW => exact fun w w' h hb => h.trans (hb.mono h.size)
    case h0 => exact below_drew W9
    case hstep =>
      clear hc9
      refine ⟨?_, ?_, ?_, ?_, ?_, ?_, ?_, ?_, ?_, ?_, ?_, trivial⟩ <;> (intro v w' hw' hd; simp only [Deps, Region.binds, ↓reduceIte, and_true] at hd; have hc9 := (HQ.out.1.below hw').c5) <;> (try (first | exact opDoes_move _ rfl rfl ⟨Below.refl _ _, rfl⟩ | (refine opDoes_run rfl ?_ ⟨Below.refl _ _, rfl⟩; clear hw'; go_simp; done)))
      · refine opDoes_call _ _ _ #[.slice Ap2 d.pending.length cp2] rfl rfl (by clear hw'; go_simp) (Try.call48 _ _) ?_
        exact (hcl.out w').mono fun e w'' ⟨he, hw⟩ => ⟨_, he, hw ▸ Below.refl _ _, rfl⟩
      · exact opDoes_run rfl (exec_load rfl rfl (run_loadAt_mid (P := Try.prog) w' w.heap.size 0 97 (Value.int .i64 (i : Int) :: b.v) _ ((HS9.out.2.1.below hw').range 0 _ (fun j hj => by rw [Nat.zero_add])) Try.underlying97 rfl (infoDW.trans (by rw [List.length_cons, b.v_length])))) ⟨Below.refl _ _, rfl⟩
      · exact opDoes_run rfl (exec_buildSlice rfl hd (run_buildSlice_one eDW ⟨(i : Int), b⟩ (.agg (Value.int .i64 (i : Int) :: b.v).toArray) rfl (by decide) w')) ⟨(fresh1 rfl).2.2, _, rfl, ERow.lit eDW w' ⟨(i : Int), b⟩ _ rfl _ rfl⟩
      · obtain ⟨h5, ⟨g', h7, hrow⟩, -⟩ := hd
        obtain ⟨A1, c1, w2, hrun, ho2, hb2⟩ := run_append_full eDW (c' := 1) 91 (HQ.out.2.below hw').row hrow (by simp) (by simp; omega) (fun h => by have := q5 h; exact List.eq_nil_of_length_eq_zero (by omega))
        exact opDoes_run rfl (exec_append rfl h5 h7 hrun) ⟨hb2, A1, c1, rfl, ho2.mono hw'.size⟩
    case hend =>
      intro v w' hw' h
      simp only [List.take, AllOps, Nat.zero_add, Nat.reduceAdd, and_true] at h
      obtain ⟨-, -, -, -, -, -, -, -, ⟨A1, c1, h8, ho8⟩, -, h10⟩ := h
      obtain ⟨⟨cb3, np, cp3, nf, cf3, Ap3, Af3, rfl, rfl, s3, s4, s5, s6, s7, s8, s9, s10, s11⟩, lo3⟩ := HS9.out.1.below hw'
      obtain ⟨hne, hlt, hlt2, hBk⟩ := (HS9.out.1.below hw').head
      have hgd9 := HS9.out.1.head
      have hfree := (s6.c5).2.2.2.2.2.2.1
      have hcell := (s6.c5).2.1
      have hst : (Instr.storeAt 91 (.pointer (some ⟨k.gd, 1, none⟩)) (.slice A1 (d.pending.length + 1) c1)).run Try.prog w' = .ok () (w'.setCell ⟨k.gd, 1, none⟩ (.slice A1 (d.pending.length + 1) c1)) := by
        clear h8 ho8 h10 s6 s7 s8 s9
        go_simp
      have hD : DiskAt (w'.setCell ⟨k.gd, 1, none⟩ (.slice A1 (d.pending.length + 1) c1)) B k { d with blocks := d.blocks.set i { (d.blocks.getD i default) with now := b }, pending := d.pending ++ [⟨(i : Int), b⟩] } := by
        have hA1 : ∀ a, A1 = some a → ¬ k.own a.block := fun a ha ho => by
          have h1 := (ho8.block a ha).1
          rcases ho with e | e <;> omega
        refine ⟨⟨cb3, _, c1, _, cf3, A1, Af3, rfl, rfl, ho8.cap, ho8.capMax, fun hn => ?_, by simpa using s6.set1 (u := .slice A1 (d.pending.length + 1) c1), ?_, ?_, ?_, hA1, s11⟩, lo3⟩
        · rcases ho8.form with ⟨_, h, _⟩ | ⟨g, h, _⟩
          · exact h
          · rw [hn] at h; cases h
        · exact s7.set _ (fun a ha => by obtain rfl := Option.some.inj ha; exact fun e => hne e.symm) _
        · exact (ho8.mono (by have := hgd9.2.2; omega)).keep2 (by simp) (fun a ha _ => heap_setCell_other w' ⟨k.gd, 1, none⟩ _ _ (fun e => hA1 a ha (.inl e)))
        · exact s9.keep2 (by simp) (fun a ha _ => heap_setCell_other w' ⟨k.gd, 1, none⟩ _ _ (fun e => s11 a ha (.inl e)))
      have hK := (HS9.out.2.2.trans (Keeps.of_below hw')).set ⟨k.gd, 1, none⟩ (.inl (.inl rfl)) (.slice A1 (d.pending.length + 1) c1)
      refine ⟨_, exec_store rfl h10 h8 hst, ?_⟩
      have HF := Lib.hid (And.intro hD hK)
      clear hD hK hst h8 h10 ho8 s6 s7 s8 s9 s10 s11 hc9
      generalize (World.setCell w' _ _) = W12 at HF ⊢
      have hG2 : DGood { d with blocks := d.blocks.set i { (d.blocks.getD i default) with now := b }, pending := d.pending ++ [⟨(i : Int), b⟩] } := by
        refine ⟨by simpa using hG.b0, by simpa using hG.b1, by simp; omega, hG.f1, fun x hx => ?_, hG.fk⟩
        simp only [List.length_set]
        rcases List.mem_append.1 hx with h | h
        · exact hG.at_ x h
        · simp only [List.mem_singleton] at h
          subst h
          exact ⟨by simp, by simpa using hi⟩
      have HST := Lib.hid (strike_any W12 B k _ HF.out.1 hG2 hch)
      clear hG2
      go_wp2_with fail
      refine HST.out.mono ?_
      rintro e w13 ⟨he, hD13, hK13⟩
      have HF2 : Hid (DiskAt w13 B k (d.put i b).1 ∧ Keeps w w13 k.own) := Lib.hid (And.intro hD13 (HF.out.2.trans hK13))
      replace he : e = .returned (.int .i64 (d.put i b).2) := he
      clear hD13 hK13 HST
      generalize hdp : d.put i b = dp at he HF2
      subst he
      go_wp2_with fail
      go_ret
      exact ⟨congrArg (fun x : DS × Int => Ending.returned (.int .i64 x.2)) hdp.symm, hdp ▸ HF2.out⟩
end Go.Proofs.Ythbanhedjfpmaaa
end

section
/-
  The contract of disk's Flush.
-/
namespace Go.Proofs.Ythbanhedjfpmaaa
set_option linter.unusedSimpArgs false
set_option linter.unusedVariables false
open Go.RowKit

theorem DGood.crash {d : DS} (h : DGood d) (f : DF) : DGood (d.crash f) := by
  unfold DS.crash
  split
  · exact h
  · exact ⟨by simpa [hitAll_length] using h.b0, by simpa [hitAll_length] using h.b1, by simp, h.f1, fun x hx => by simp at hx, h.fk⟩
theorem DGood.strike {d : DS} (h : DGood d) : DGood d.strike.1 := by
  have h1 : DGood { d with changes := d.changes + 1 } := ⟨h.b0, h.b1, h.p1, h.f1, h.at_, h.fk⟩
  unfold DS.strike
  split
  · exact h1.crash _
  · exact h1
/-- All writes are sure. -/
def sureAll : List DW → List DB → List DB
  | [], L => L
  | w :: ws, L => sureAll ws (L.set w.at_.toNat { (L.getD w.at_.toNat default) with sure := w.b })
theorem sureAll_length : ∀ (ws : List DW) (L : List DB), (sureAll ws L).length = L.length
  | [], _ => rfl
  | w :: ws, L => by rw [sureAll, sureAll_length ws]; simp
theorem sureAll_snoc : ∀ (ws : List DW) (w : DW) (L : List DB), sureAll (ws ++ [w]) L = (sureAll ws L).set w.at_.toNat { ((sureAll ws L).getD w.at_.toNat default) with sure := w.b }
  | [], _, _ => rfl
  | x :: ws, w, L => by rw [List.cons_append, sureAll, sureAll_snoc ws, sureAll]
theorem sureAll_take (ws : List DW) (i : Nat) (L : List DB) (hi : i < ws.length) : sureAll (ws.take (i + 1)) L = (sureAll (ws.take i) L).set ws[i].at_.toNat { ((sureAll (ws.take i) L).getD ws[i].at_.toNat default) with sure := ws[i].b } := by
  rw [List.take_succ_eq_append_getElem hi, sureAll_snoc]
def DS.settled (d : DS) : DS := { d with blocks := sureAll d.pending d.blocks, pending := [] }
def DS.flush (d : DS) : DS × Int := if d.down = true then (d, 6) else if d.strike.2 ≠ 0 then d.strike else (d.strike.1.settled, 0)
theorem DGood.settled {d : DS} (h : DGood d) : DGood d.settled :=
  ⟨by simpa [DS.settled, sureAll_length] using h.b0, by simpa [DS.settled, sureAll_length] using h.b1, by simp [DS.settled], h.f1, fun x hx => by simp [DS.settled] at hx, h.fk⟩
theorem DGood.flush {d : DS} (h : DGood d) : DGood d.flush.1 := by
  unfold DS.flush
  split
  · exact h
  · split
    · exact h.strike
    · exact h.strike.settled
set_option maxHeartbeats 400000 in
theorem flush_down (w : World) (B : Nat) (k : KB) (d : DS) (h : DiskAt w B k d) (hd : d.down = true) :
    Calls Try.prog 18 #[.pointer (some ⟨k.gd, 0, none⟩)] w fun e w' => e = .returned (.int .i64 6) ∧ w = w' := by
  have HD := Lib.hid (down_any w B k d h)
  rw [hd] at HD
  clear h hd
  go_enter Try.func18, Try.ntmps18
  go_wp2_with fail
  refine HD.out.mono ?_
  rintro e w1 ⟨rfl, rfl⟩
  go_wp2_with fail
  go_ret
  exact ⟨rfl, rfl⟩
/-- What holds while the writes are gone through. -/
def Flushing (w : World) (B : Nat) (k : KB) (cb : Nat) (L : List DB) (wr : World) : Prop :=
  w.grownBy wr (some k.gb) ∧ EOwn eDB wr B (some ⟨k.gb, 0, none⟩) cb L
set_option maxRecDepth 20000 in
set_option maxHeartbeats 2000000 in
theorem flush_up (w : World) (B : Nat) (k : KB) (d : DS) (h : DiskAt w B k d) (hG : DGood d) (hch : d.changes < 1000000000) (hd : d.down = false) :
    Calls Try.prog 18 #[.pointer (some ⟨k.gd, 0, none⟩)] w fun e w' => e = .returned (.int .i64 d.flush.2) ∧ DiskAt w' B k d.flush.1 ∧ Keeps w w' k.own := by
  have HD := Lib.hid (down_any w B k d h)
  rw [hd] at HD
  have HST := Lib.hid (strike_any w B k d h hG hch)
  have hGs := hG.strike
  have HF : Hid (d.flush = if d.strike.2 ≠ 0 then d.strike else (d.strike.1.settled, 0)) := by show _ = _; unfold DS.flush; rw [if_neg (by simp [hd])]
  generalize d.flush = fl at HF ⊢
  generalize d.strike = s at HST HF hGs
  obtain ⟨s, e⟩ := s
  simp only at HST HF hGs
  clear h hd hG hch
  by_cases he : e = 0
  · subst he
    have HF2 : Hid (fl = (s.settled, 0)) := by show _ = _; rw [HF.out, if_neg (by simp)]
    clear HF
    go_enter Try.func18, Try.ntmps18
    go_wp2_with fail
    refine HD.out.mono ?_
    rintro e w1 ⟨rfl, rfl⟩
    go_wp2_with fail
    refine HST.out.mono ?_
    rintro e w1 ⟨rfl, hD1, hK1⟩
    have hp1 := hGs.p1
    have hb1 := hGs.b1
    obtain ⟨hne, hlt, hlt2, hBk⟩ := hD1.head
    obtain ⟨⟨cb, np, cp, nf, cf, Ap, Af, rfl, rfl, h3, h4, h5, h6, h7, h8, h9, h10, h11⟩, lo⟩ := hD1
    have HAP := Lib.hid (And.intro h10 (And.intro h11 hK1))
    have HW0 := Lib.hid (And.intro h6 (And.intro h8 h9))
    have HI : Hid (Flushing w1 B k cb s.blocks w1) := ⟨World.grownBy.refl _ _, h7⟩
    have hcc := h6.c5
    clear h6 h7 h8 h9 h10 h11 hK1 HST HD
    go_wp2_with fail
    go_loopw [18] (fun iv wr => ∃ i : Nat, i ≤ s.pending.length ∧ iv = .int .i64 i ∧ Hid (Flushing w1 B k cb (sureAll (s.pending.take i) s.blocks) wr)) (fun iv _ => s.pending.length - (intOf iv).toNat)
    case atStart => exact ⟨0, by omega, rfl, HI.out⟩
    case round =>
      obtain ⟨i, hi, rfl, HJ⟩ := hrel
      clear HI hcc
      obtain ⟨c1, c2⟩ := HJ.out
      have hcc := (HW0.out.1.grown c1 (by simp; exact hne)).c5
      by_cases hlt : i < s.pending.length
      · have hii : (i : Int) < (s.pending.length : Int) := by omega
        obtain ⟨bp, op, rfl, hbp, hrg⟩ := (HW0.out.2.1.keep2 c1.size (fun a ha _ => c1.block _ (by assumption) (by simp; exact fun e => HAP.out.1 a ha (.inr e)))).row.range hlt
        have hat := hGs.at_ s.pending[i] (List.getElem_mem hlt)
        have HTK := Lib.hid (sureAll_take s.pending i s.blocks hlt)
        have hLlen : (sureAll (s.pending.take i) s.blocks).length = s.blocks.length := sureAll_length ..
        generalize s.pending[i] = p at hrg hat HTK
        obtain ⟨pat, pb⟩ := p
        simp only at hat
        obtain ⟨m, rfl⟩ : ∃ m : Nat, pat = (m : Int) := ⟨pat.toNat, by omega⟩
        have hr0 : wr.rangeAt bp (op + i * 513) (Value.int .i64 (m : Int) :: pb.v) := hrg
        have HC := Lib.hid (And.intro c1 c2)
        have HR := Lib.hid hr0
        clear hrg hr0 c1 c2
        go_upto_region 9 with (first | (refine wpList_load_mid rfl 97 (.tmp 20) rfl bp (op + i * 513) rfl _ _ HR.out Try.underlying97 rfl (infoDW.trans (by rw [List.length_cons, pb.v_length])) ?_) | (refine wpList_alloc_z rfl 97 rfl (zeroDW _) ?_; intro W6 hW6; obtain ⟨ba6, hz6, hB6⟩ := fresh1 (a := Value.int .i64 0 :: zBytes 512) hW6; clear hW6) | (refine wpList_store_blk rfl rfl 97 (.tmp 5) (.tmp 21) rfl wr.heap.size rfl _ rfl ba6 (by simp [B512.v_length, zBytes]) (infoDW.trans (by simp [zBytes])) (eDW.one ⟨(m : Int), pb⟩) ?_; intro W7 hb7 hg7))
        have hc7 := And.intro (hb7.cell 0) (hb7.lt)
        simp only [List.getElem?_cons_zero] at hc7
        obtain ⟨c1, c2⟩ := HC.out
        have g17 : wr.grownBy W7 (some wr.heap.size) := (grown_of_below hB6 _).trans' hg7
        have hz7 : wr.heap.size < W7.heap.size := hb7.lt
        have hgw : w1.grownBy W7 (some k.gb) := grown_then c1 ⟨g17.os, g17.tape, g17.output, g17.size, fun i hi _ => g17.block i hi (by simp; omega)⟩
        have hlt3 : k.gb < wr.heap.size := Nat.lt_of_lt_of_le hlt2 c1.size
        have ho7 := c2.keep (fun a ha => by obtain rfl := Option.some.inj ha; exact g17.block _ hlt3 (by simp; omega))
        have hcc7 := And.intro (HW0.out.1.grown hgw (by simp; exact hne)).c5 hc7
        have HS7 := Lib.hid (And.intro hgw (And.intro ho7 hb7))
        clear hcc hc7 c1 c2 ba6 hB6 hg7 g17 hgw ho7 hb7
        have hmi : (m : Int) < (s.blocks.length : Int) := hat.2
        apply wp_region_last (n := 10) (R := fun j x w' => match j with
          | 0 => x = .pointer (some ⟨k.gd, 0, none⟩)
          | 1 => x = .pointer (some ⟨k.gd, 0, none⟩)
          | 2 => x = .pointer (some ⟨k.gd, 0, none⟩)
          | 3 => x = .slice (some ⟨k.gb, 0, none⟩) s.blocks.length cb
          | 4 => x = .pointer (some ⟨wr.heap.size, 0, none⟩)
          | 5 => x = .int .i64 (m : Int)
          | 6 => x = .pointer (some ⟨wr.heap.size, 1, none⟩)
          | 7 => x = .agg pb.v.toArray
          | 8 => x = .pointer (some ⟨k.gb, m * 1024, none⟩)
          | 9 => x = .pointer (some ⟨k.gb, m * 1024 + 512, none⟩)
          | _ => True) (W := fun w' => w' = W7.drew) (Gr := fun w1 w2 => w2 = w1)
        case hG => (intro v; simp only [regFrame, List.zipIdx_cons, List.zipIdx_nil, List.foldl_cons, List.foldl_nil, Act.put, List.setIfInBounds_toArray, List.set_cons_zero, List.set_cons_succ, Nat.reduceAdd]; rfl)
        case hm => kernel_rfl
        case honce => rfl
        case hlow => kernel_rfl
        case hall => kernel_rfl
        case hn => rfl
        case ho => rfl
        case hog => rfl
        case hod => rfl
        case hR =>
          intro j x w' w'' hb h
          exact h
        case hW => exact fun w w' h hb => hb.trans h
        case h0 => rfl
        case hstep =>
          have hld := run_loadAt_mid (P := Try.prog) W7.drew wr.heap.size 1 95 pb.v _ (Blk.range (w := W7.drew) HS7.out.2.2 1 pb.v (fun j hj => by rw [Nat.add_comm]; rfl)) Try.underlying95 rfl (infoArr.trans (by rw [pb.v_length]))
          refine ⟨?_, ?_, ?_, ?_, ?_, ?_, ?_, ?_, ?_, ?_, trivial⟩ <;> (intro v w' hw' hd; subst hw'; simp only [Deps, Region.binds, ↓reduceIte, and_true] at hd) <;> (try (first | exact opDoes_move _ rfl rfl ⟨rfl, rfl⟩ | (refine opDoes_run rfl ?_ ⟨rfl, rfl⟩; go_simp; done)))
          exact opDoes_run rfl (exec_load rfl hd hld) ⟨rfl, rfl⟩
        case hend =>
          intro v w' hw' h
          subst hw'
          simp only [List.take, AllOps, Nat.zero_add, Nat.reduceAdd, and_true] at h
          obtain ⟨-, -, -, -, -, -, -, h7, -, h9⟩ := h
          have HS8 : Hid (w1.grownBy W7.drew (some k.gb) ∧ EOwn eDB W7.drew B (some ⟨k.gb, 0, none⟩) cb (sureAll (s.pending.take i) s.blocks)) := ⟨⟨HS7.out.1.os, HS7.out.1.tape, HS7.out.1.output, HS7.out.1.size, HS7.out.1.block⟩, HS7.out.2.1⟩
          have hmL : m < (sureAll (s.pending.take i) s.blocks).length := by rw [hLlen]; omega
          have hgetD : (sureAll (s.pending.take i) s.blocks).getD m default = (sureAll (s.pending.take i) s.blocks)[m] := by simp [hmL]
          have HTK2 : Hid (sureAll (s.pending.take (i + 1)) s.blocks = (sureAll (s.pending.take i) s.blocks).set m { (sureAll (s.pending.take i) s.blocks)[m] with sure := pb }) := by
            have := HTK.out
            simp only [Int.toNat_natCast] at this
            rw [hgetD] at this
            exact this
          clear hgetD HTK hLlen
          generalize hLi : sureAll (s.pending.take i) s.blocks = Li at HS8 hmL HTK2
          clear hLi
          have hst := run_store_part (P := Try.prog) 95 k.gb m 512 pb.v HS8.out.2 hmL (by rw [pb.v_length]; decide) (infoArr.trans (by rw [pb.v_length])) pb.v_one
          have ho9 := EOwn.storePart HS8.out.2 hmL { Li[m] with sure := pb } 512 pb.v (by rw [pb.v_length]; decide) (code_sure _ _)
          have HS9 : Hid (Flushing w1 B k cb (Li.set m { Li[m] with sure := pb }) (W7.drew.setCells k.gb (m * 1024 + 512) pb.v)) := ⟨HS8.out.1.trans' (grown_setCells _ _ _ _), ho9⟩
          refine ⟨W7.drew.setCells k.gb (m * 1024 + 512) pb.v, exec_store rfl h9 h7 hst, ?_⟩
          clear hst ho9 h7 h9 hcc7
          generalize (World.setCells W7.drew _ _ _) = W9 at HS9 ⊢
          go_wp2_with fail
          go_roundw
          case rel => exact ⟨i + 1, by omega, by go_num, by rw [HTK2.out]; exact HS9.out⟩
          case measure => simp [intOf]; omega
      · obtain rfl : i = s.pending.length := by omega
        have hii : ¬ (s.pending.length : Int) < (s.pending.length : Int) := by omega
        rw [List.take_length] at c2
        have HC : Hid (w1.grownBy wr (some k.gb) ∧ EOwn eDB wr B (some ⟨k.gb, 0, none⟩) cb (sureAll s.pending s.blocks)) := ⟨c1, c2⟩
        clear c1 c2 HJ
        go_wp2_with fail
        go_ret
        rw [HF2.out]
        obtain ⟨hg, ho⟩ := HC.out
        have hlen2 : (sureAll s.pending s.blocks).length = s.blocks.length := sureAll_length ..
        have b1 := (HW0.out.1.grown hg (by simp; exact hne)).set1 (u := .slice none 0 0)
        have hne' : ∀ a : Addr, some (⟨k.gb, 0, none⟩ : Addr) = some a → a.block ≠ k.gd := fun a ha => by obtain rfl := Option.some.inj ha; exact fun e => hne e.symm
        have o1 := ho.set ⟨k.gd, 1, none⟩ hne' (.slice none 0 0)
        have r1 := (HW0.out.2.2.keep2 hg.size (fun a ha _ => hg.block _ (by assumption) (by simp; exact fun e => HAP.out.2.1 a ha (.inr e))))
        have r2 := r1.keep2 (w' := wr.setCell ⟨k.gd, 1, none⟩ (.slice none 0 0)) (by simp) (fun a ha _ => heap_setCell_other wr ⟨k.gd, 1, none⟩ _ _ (fun e => HAP.out.2.1 a ha (.inl e)))
        refine ⟨rfl, ?_, (HAP.out.2.2.trans ((Keeps.of_grown hg).mono (fun k' e => .inr e))).set ⟨k.gd, 1, none⟩ (.inl (.inl rfl)) _⟩
        exact ⟨⟨cb, 0, 0, _, cf, none, Af, rfl, rfl, Nat.le_refl _, Nat.zero_le _, fun _ => rfl, by show Blk _ _ _ [.slice _ (sureAll s.pending s.blocks).length _, _, _, _, _]; rw [hlen2]; exact b1, o1, EOwn.nil _ _, r2, (fun a ha => by cases ha), HAP.out.2.1⟩, lo⟩
  · have HF2 : Hid (fl = (s, e)) := by show _ = _; rw [HF.out, if_pos he]
    have hb : (e != 0) = true := by simpa using he
    clear HF he
    go_enter Try.func18, Try.ntmps18
    go_wp2_with fail
    refine HD.out.mono ?_
    rintro e w1 ⟨rfl, rfl⟩
    go_wp2_with fail
    refine HST.out.mono ?_
    rintro e w1 ⟨rfl, hD1, hK1⟩
    have HX := Lib.hid (And.intro hD1 hK1)
    clear hD1 hK1
    go_wp2_with fail
    go_ret
    rw [HF2.out]
    exact ⟨rfl, HX.out⟩
theorem flush_any (w : World) (B : Nat) (k : KB) (d : DS) (h : DiskAt w B k d) (hG : DGood d) (hch : d.changes < 1000000000) :
    Calls Try.prog 18 #[.pointer (some ⟨k.gd, 0, none⟩)] w fun e w' => e = .returned (.int .i64 d.flush.2) ∧ DiskAt w' B k d.flush.1 ∧ Keeps w w' k.own := by
  cases hd : d.down with
  | false => exact flush_up w B k d h hG hch hd
  | true =>
    refine (flush_down w B k d h hd).mono fun e w' ⟨he, hb⟩ => ?_
    have e1 : d.flush = (d, 6) := by unfold DS.flush; rw [if_pos hd]
    subst hb
    rw [e1]; exact ⟨he, h, Keeps.refl _ _⟩
/-- A write, whatever is written. -/
theorem write_any (w : World) (B : Nat) (k : KB) (d : DS) (h : DiskAt w B k d) (hG : DGood d) (hch : d.changes < 1000000000) (hpl : d.pending.length < 1000000) (i : Int) (A : Option Addr) (c : Nat) (l : List UInt8) (hr : BRow w A l) :
    Calls Try.prog 17 #[.pointer (some ⟨k.gd, 0, none⟩), .int .i64 i, .slice A l.length c] w fun e w' => e = .returned (.int .i64 (d.write i l).2) ∧ DiskAt w' B k (d.write i l).1 ∧ Keeps w w' k.own := by
  by_cases hw : d.why i = 0
  · by_cases hl : l.length = 512
    · have hdn : d.down = false := by
        cases hd : d.down with
        | false => rfl
        | true => unfold DS.why at hw; rw [if_pos hd] at hw; exact absurd hw (by decide)
      have hir : 0 ≤ i ∧ i < d.blocks.length := by
        unfold DS.why at hw
        rw [if_neg (by simp [hdn])] at hw
        split at hw
        · exact absurd hw (by decide)
        · omega
      obtain ⟨m, rfl⟩ : ∃ m : Nat, i = (m : Int) := ⟨i.toNat, by omega⟩
      have e : d.write (m : Int) l = d.put m ⟨l, hl⟩ := by unfold DS.write; rw [if_neg (by simp [hw]), dif_pos hl, Int.toNat_natCast]
      rw [e, hl]
      exact write_ok w B k d h hG hch hpl m (by omega) hdn A c ⟨l, hl⟩ hr
    · refine (write_long w B k d h i A c l hw hl).mono fun e w' ⟨he, hb⟩ => ?_
      have e1 : d.write i l = (d, 1) := by unfold DS.write; rw [if_neg (by simp [hw]), dif_neg hl]
      subst hb
      rw [e1]; exact ⟨he, h, Keeps.refl _ _⟩
  · refine (write_bad w B k d h i A c l hw).mono fun e w' ⟨he, hb⟩ => ?_
    have e1 : d.write i l = (d, d.why i) := by unfold DS.write; rw [if_pos hw]
    subst hb
    rw [e1]; exact ⟨he, h, Keeps.refl _ _⟩
end Go.Proofs.Ythbanhedjfpmaaa
end

section
/-
  A rule for a region that draws its order, with any number of stores: what the world keeps hangs on which operations were carried out and on their values.
-/
namespace Go.Proofs.Ythbanhedjfpmaaa
set_option linter.unusedSimpArgs false
set_option linter.unusedVariables false
open Go Go.RowKit

section
variable {P : Program} {Q : Exit → Act → World → Prop}
theorem wp_region_many {id : Nat} {l : List Oper} {a : Act} {w : World} (S : (Nat → Bool) → (Nat → Value) → World → Prop) (R : Nat → Value → World → Prop) (Gr : World → World → Prop)
    (G : (Nat → Value) → Act) (hG : ∀ v, regFrame l v a = G v) (hm : P.follows .mixedOrders = true) (honce : onceB l = true) (hlow : lowerB l = true)
    (hR : ∀ i x w w', Gr w w' → R i x w → R i x w')
    (h0 : ∀ v, S (fun _ => false) v w.drew)
    (hstep : AllOps (fun i o => ∀ D v w', S D v w' → (∀ j, waitsB l l.length j i = true → D j = false) → Deps (fun j => D j = true ∧ R j (v j) w') o.after.toList →
      opDoes P l o Q (G v) w' fun x w'' => Gr w' w'' ∧ R i x w'' ∧ S (fun j => if j = i then true else D j) (fun j => if j = i then x else v j) w'') l 0)
    (hend : ∀ D v w', S D v w' → (∀ i, i < l.length → D i = true) → AllOps (fun i _ => R i (v i) w') l 0 → Q .normal (G v) w') :
    (Code.region id l.toArray true).wp P Q a w := by
  refine wp_region_sv0 hm honce hlow (fun D v w' => S D v w' ∧ ∀ i, D i = true → R i (v i) w') (fun _ _ => True) (fun _ _ _ => True) (fun _ _ _ _ _ _ => trivial)
    (fun v => ⟨h0 v, fun i h => by simp at h⟩) (fun i p hi D v w' hS hf hd hc => ?_) (fun D v w' hS hD _ => by
      rw [hG]
      exact hend D v w' hS.1 hD (AllOps.of' 0 fun i q hi => by simpa using hS.2 i (hD i (List.getElem?_eq_some_iff.1 hi).1)))
  obtain ⟨hS, hRs⟩ := hS
  have hc' : ∀ j o', l[j]? = some o' → D j = true → Deps (fun j => D j = true) o'.after.toList := fun j o' h1 h2 => Deps.of fun e he hb => hc j o' h1 h2 e (by simpa using he) hb
  have hdep : Deps (fun j => D j = true ∧ R j (v j) w') p.after.toList := Deps.of fun e he hb => ⟨(hd e (by simpa using he) hb).1, hRs _ (hd e (by simpa using he) hb).1⟩
  rw [hG]
  have hst := hstep.get i p hi
  simp only [Nat.zero_add] at hst
  refine fun K hK => hst D v w' hS (fun j hj => ?_) hdep K fun x w'' ⟨hg, hr, hs⟩ => hK x w'' ⟨trivial, trivial, hs, fun j hj => ?_⟩
  · cases hDj : D j with
    | false => rfl
    | true =>
      have := done_of hc' l.length i hDj hj
      rw [hf] at this
      cases this
  · by_cases hji : j = i
    · subst hji; simpa using hr
    · simp only [if_neg hji] at hj ⊢
      exact hR j _ _ _ hg (hRs j hj)
end
end Go.Proofs.Ythbanhedjfpmaaa
end

section
/-
  The contracts of disk's Clone and New.
-/
namespace Go.Proofs.Ythbanhedjfpmaaa
set_option linter.unusedSimpArgs false
set_option linter.unusedVariables false
open Go.RowKit

theorem EOwn.kind {α : Type} {E : Elem α} {w : World} {B c : Nat} {A : Option Addr} {L : List α} (h : EOwn E w B A c L) : ∀ a, A = some a → ∃ cur, w.heap[a.block]? = some (.cells cur E.e (0, 0)) := by
  intro a ha
  rcases h.form with ⟨h1, _⟩ | ⟨g, h1, _, _, _, _, cur, hh⟩
  · rw [h1] at ha; cases ha
  · rw [h1] at ha; obtain rfl := Option.some.inj ha; exact ⟨cur, hh⟩
theorem EOwn.apart {α β : Type} {E : Elem α} {F : Elem β} {w : World} {B c c' : Nat} {A A' : Option Addr} {L : List α} {M : List β} (h : EOwn E w B A c L) (h' : EOwn F w B A' c' M) (hne : E.e ≠ F.e) : ∀ a a', A = some a → A' = some a' → a.block ≠ a'.block := by
  intro a a' ha ha' e
  obtain ⟨cur, h1⟩ := h.kind a ha
  obtain ⟨cur', h2⟩ := h'.kind a' ha'
  rw [e, h2] at h1
  simp at h1
  exact hne h1.2.symm
theorem EOwn.grown1 {α : Type} {E : Elem α} {w w' : World} {g c : Nat} {A : Option Addr} {L : List α} (h : EOwn E w (g + 1) A c L) (hg : w.grownBy w' (some g)) : EOwn E w' (g + 1) A c L :=
  h.keep fun a ha => hg.block _ (h.block a ha).2 (by have := (h.block a ha).1; simp; omega)
theorem EOwn.none_cap {α : Type} {E : Elem α} {w : World} {B c : Nat} {A : Option Addr} {L : List α} (h : EOwn E w B A c L) (hA : A = none) : c = 0 := by
  rcases h.form with ⟨_, h, _⟩ | ⟨g, h, _⟩
  · exact h
  · rw [hA] at h; cases h
/-- A disk out of its parts. -/
theorem DiskAt.mk' {w : World} {B : Nat} {g cb cp cf : Nat} {Ab Ap Af : Option Addr} {d : DS} (hb0 : 0 < d.blocks.length) (hB : B ≤ g) (ob : EOwn eDB w (g + 1) Ab cb d.blocks) (op : EOwn eDW w (g + 1) Ap cp d.pending) (of : EOwn eDF w (g + 1) Af cf d.falls)
    (h : Blk w g 93 [.slice Ab d.blocks.length cb, .slice Ap d.pending.length cp, .slice Af d.falls.length cf, .int .i64 (d.changes : Nat), .bool d.down]) :
    ∃ gb, g < gb ∧ DiskAt w B ⟨g, gb⟩ d := by
  rcases ob.form with ⟨_, _, e⟩ | ⟨gb, rfl, hgb, _⟩
  · rw [e] at hb0; simp at hb0
  · refine ⟨gb, by omega, ⟨cb, _, cp, _, cf, Ap, Af, rfl, rfl, op.cap, op.capMax, op.none_cap, h, ob.mono (by omega), op.mono (by omega), of.mono (by omega), fun a ha ho => ?_, fun a ha ho => ?_⟩, hB⟩
    · rcases ho with e | e
      · have := (op.block a ha).1; simp only at e; omega
      · exact ob.apart op (by decide) _ a rfl ha e.symm
    · rcases ho with e | e
      · have := (of.block a ha).1; simp only at e; omega
      · exact ob.apart of (by decide) _ a rfl ha e.symm
set_option maxRecDepth 20000 in
set_option maxHeartbeats 2000000 in
theorem dclone_any (w : World) (B : Nat) (k : KB) (d : DS) (h : DiskAt w B k d) (hG : DGood d) :
    Calls Try.prog 23 #[.pointer (some ⟨k.gd, 0, none⟩)] w fun e w' => ∃ k', e = .returned (.pointer (some ⟨k'.gd, 0, none⟩)) ∧ DiskAt w' w.heap.size k' d ∧ Below w.heap.size w w' := by
  have hp1 := hG.p1
  have hb1 := hG.b1
  have hf1 := hG.f1
  have hb0 := hG.b0
  obtain ⟨hne, hlt, hlt2, hBk⟩ := h.head
  obtain ⟨⟨cb, np, cp, nf, cf, Ap, Af, rfl, rfl, h3, h4, h5, h6, h7, h8, h9, h10, h11⟩, lo⟩ := h
  have hcc := h6.c5
  have HS0 := Lib.hid (And.intro h6 (And.intro h7 (And.intro h8 h9)))
  clear h6 h7 h8 h9 h10 h11 hG
  go_enter Try.func23, Try.ntmps23
  go_upto_region 4 with (fail)
  obtain ⟨ba, hz, hB⟩ := fresh1 (w := w) (a := [.slice (some ⟨k.gb, 0, none⟩) d.blocks.length cb, .slice Ap d.pending.length cp, .slice Af d.falls.length cf, .int .i64 (d.changes : Nat), .bool d.down]) (t := 93) rfl
  generalize (World.alloc w _) = W at ba hz hB ⊢
  have HW := Lib.hid (And.intro ba hB)
  -- what a world behind the stores keeps
  have HK : Hid (∀ w', W.grownBy w' (some w.heap.size) → Blk w' k.gd 93 [.slice (some ⟨k.gb, 0, none⟩) d.blocks.length cb, .slice Ap d.pending.length cp, .slice Af d.falls.length cf, .int .i64 (d.changes : Nat), .bool d.down] ∧
      ERow eDB w' (some ⟨k.gb, 0, none⟩) d.blocks ∧ ERow eDW w' Ap d.pending ∧ ERow eDF w' Af d.falls) := fun w' hg => by
    have hk : ∀ i, i < w.heap.size → w'.heap[i]? = w.heap[i]? := fun i hi => (hg.block i (by omega) (by simp; omega)).trans (HW.out.2.block i hi)
    have hsz : w.heap.size ≤ w'.heap.size := Nat.le_trans HW.out.2.size hg.size
    exact ⟨(hk _ hlt).trans HS0.out.1, HS0.out.2.1.row.keep hsz (fun a _ h => hk _ h), HS0.out.2.2.1.row.keep hsz (fun a _ h => hk _ h), HS0.out.2.2.2.row.keep hsz (fun a _ h => hk _ h)⟩
  clear ba hcc hB
  apply wp_region_many (S := fun D v w' => W.grownBy w' (some w.heap.size) ∧ Blk w' w.heap.size 93 [if D 16 = true then v 4 else .slice (some ⟨k.gb, 0, none⟩) d.blocks.length cb, if D 18 = true then v 9 else .slice Ap d.pending.length cp, if D 20 = true then v 14 else .slice Af d.falls.length cf, .int .i64 (d.changes : Nat), .bool d.down]) (R := fun j x w' => match j with
    | 0 => x = .pointer (some ⟨k.gd, 0, none⟩)
    | 1 => x = .pointer (some ⟨k.gd, 0, none⟩)
    | 2 => x = .pointer (some ⟨k.gd, 0, none⟩)
    | 3 => x = .slice (some ⟨k.gb, 0, none⟩) d.blocks.length cb
    | 4 => ∃ A c, x = .slice A d.blocks.length c ∧ EOwn eDB w' (w.heap.size + 1) A c d.blocks
    | 5 => x = .pointer (some ⟨k.gd, 0, none⟩)
    | 6 => x = .pointer (some ⟨k.gd, 0, none⟩)
    | 7 => x = .pointer (some ⟨k.gd, 1, none⟩)
    | 8 => x = .slice Ap d.pending.length cp
    | 9 => ∃ A c, x = .slice A d.pending.length c ∧ EOwn eDW w' (w.heap.size + 1) A c d.pending
    | 10 => x = .pointer (some ⟨k.gd, 0, none⟩)
    | 11 => x = .pointer (some ⟨k.gd, 0, none⟩)
    | 12 => x = .pointer (some ⟨k.gd, 2, none⟩)
    | 13 => x = .slice Af d.falls.length cf
    | 14 => ∃ A c, x = .slice A d.falls.length c ∧ EOwn eDF w' (w.heap.size + 1) A c d.falls
    | 15 => x = .pointer (some ⟨w.heap.size, 0, none⟩)
    | 17 => x = .pointer (some ⟨w.heap.size, 1, none⟩)
    | 19 => x = .pointer (some ⟨w.heap.size, 2, none⟩)
    | _ => True) (Gr := fun w1 w2 => w1.grownBy w2 (some w.heap.size))
  case hG => (intro v; simp only [regFrame, List.zipIdx_cons, List.zipIdx_nil, List.foldl_cons, List.foldl_nil, Act.put, List.setIfInBounds_toArray, List.set_cons_zero, List.set_cons_succ, Nat.reduceAdd]; rfl)
  case hm => kernel_rfl
  case honce => rfl
  case hlow => kernel_rfl
  case hR =>
    intro j x w' w'' hb h
    split at h <;> try exact h
    all_goals
      obtain ⟨A1, c1, h1, h2⟩ := h
      exact ⟨A1, c1, h1, h2.grown1 hb⟩
  case h0 => exact fun v => ⟨⟨rfl, rfl, rfl, Nat.le_refl _, fun _ _ _ => rfl⟩, HW.out.1⟩
  case hstep =>
    refine ⟨?_, ?_, ?_, ?_, ?_, ?_, ?_, ?_, ?_, ?_, ?_, ?_, ?_, ?_, ?_, ?_, ?_, ?_, ?_, ?_, ?_, trivial⟩ <;> (intro D v w' hS hbef hd; simp only [Deps, Region.binds, ↓reduceIte, and_true] at hd; have hcc := (HK.out w' hS.1).1.c5)
    all_goals (try (first | exact opDoes_move _ rfl rfl ⟨World.grownBy.refl _ _, rfl, hS⟩ | (refine opDoes_run rfl ?_ ⟨World.grownBy.refl _ _, rfl, hS⟩; clear hbef; go_simp; done)))
    · refine opDoes_call _ _ _ #[.slice (some ⟨k.gb, 0, none⟩) d.blocks.length cb] rfl rfl (by clear hbef; go_simp) (Try.call51 _ _) ?_
      exact (cloneb_any w' _ cb d.blocks (HK.out w' hS.1).2.1 (by omega)).mono fun e w'' ⟨A1, c1, he, ho, hb⟩ => ⟨_, he, grown_of_below hb _, ⟨A1, c1, rfl, ho.mono (by have := hS.1.size; omega)⟩, grown_then hS.1 (grown_of_below hb _), by
        have e1 := hbef 16 rfl
        have e2 := hbef 18 rfl
        have e3 := hbef 20 rfl
        have := hS.2.below hb
        rw [e1, e2, e3] at this
        show Blk _ _ _ [if D 16 = true then _ else _, if D 18 = true then _ else _, if D 20 = true then _ else _, _, _]
        rw [e1, e2, e3]
        exact this⟩
    · refine opDoes_call _ _ _ #[.slice Ap d.pending.length cp] rfl rfl (by clear hbef; go_simp) (Try.call52 _ _) ?_
      exact (clonew_any w' _ cp d.pending (HK.out w' hS.1).2.2.1 (by omega)).mono fun e w'' ⟨A1, c1, he, ho, hb⟩ => ⟨_, he, grown_of_below hb _, ⟨A1, c1, rfl, ho.mono (by have := hS.1.size; omega)⟩, grown_then hS.1 (grown_of_below hb _), by
        have e2 := hbef 18 rfl
        have e3 := hbef 20 rfl
        have := hS.2.below hb
        rw [e2, e3] at this
        show Blk _ _ _ [if D 16 = true then _ else _, if D 18 = true then _ else _, if D 20 = true then _ else _, _, _]
        rw [e2, e3]
        exact this⟩
    · refine opDoes_call _ _ _ #[.slice Af d.falls.length cf] rfl rfl (by clear hbef; go_simp) (Try.call53 _ _) ?_
      exact (clonef_any w' _ cf d.falls (HK.out w' hS.1).2.2.2 (by omega)).mono fun e w'' ⟨A1, c1, he, ho, hb⟩ => ⟨_, he, grown_of_below hb _, ⟨A1, c1, rfl, ho.mono (by have := hS.1.size; omega)⟩, grown_then hS.1 (grown_of_below hb _), by
        have e3 := hbef 20 rfl
        have := hS.2.below hb
        rw [e3] at this
        show Blk _ _ _ [if D 16 = true then _ else _, if D 18 = true then _ else _, if D 20 = true then _ else _, _, _]
        rw [e3]
        exact this⟩
    · obtain ⟨⟨-, hp⟩, ⟨-, A1, c1, hv, ho⟩, -⟩ := hd
      have hgc : w.heap.size < w'.heap.size := hS.2.lt
      have hfr := hS.2.free 0
      have hce := hS.2.cell 0
      have hst : (Instr.storeAt 90 (.pointer (some ⟨w.heap.size, 0, none⟩)) (.slice A1 d.blocks.length c1)).run Try.prog w' = .ok () (w'.setCell ⟨w.heap.size, 0, none⟩ (.slice A1 d.blocks.length c1)) := by
        clear hbef hp hv ho hcc hS
        simp only [List.getElem?_cons_zero, List.getElem?_cons_succ] at hce
        go_simp
      have hbl := hS.2.set0 (u := .slice A1 d.blocks.length c1)
      have hgs := grown_store w' w.heap.size 0 (.slice A1 d.blocks.length c1)
      refine opDoes_skip rfl (exec_store rfl hp hv hst) ⟨hgs, trivial, grown_then hS.1 hgs, ?_⟩
      rw [← hv] at hbl ⊢
      exact hbl
    · obtain ⟨⟨-, hp⟩, ⟨-, A1, c1, hv, ho⟩, -⟩ := hd
      have hgc : w.heap.size < w'.heap.size := hS.2.lt
      have hfr := hS.2.free 1
      have hce := hS.2.cell 1
      have hst : (Instr.storeAt 91 (.pointer (some ⟨w.heap.size, 1, none⟩)) (.slice A1 d.pending.length c1)).run Try.prog w' = .ok () (w'.setCell ⟨w.heap.size, 1, none⟩ (.slice A1 d.pending.length c1)) := by
        clear hbef hp hv ho hcc hS
        simp only [List.getElem?_cons_zero, List.getElem?_cons_succ] at hce
        go_simp
      have hbl := hS.2.set1 (u := .slice A1 d.pending.length c1)
      have hgs := grown_store w' w.heap.size 1 (.slice A1 d.pending.length c1)
      refine opDoes_skip rfl (exec_store rfl hp hv hst) ⟨hgs, trivial, grown_then hS.1 hgs, ?_⟩
      rw [← hv] at hbl ⊢
      exact hbl
    · obtain ⟨⟨-, hp⟩, ⟨-, A1, c1, hv, ho⟩, -⟩ := hd
      have hgc : w.heap.size < w'.heap.size := hS.2.lt
      have hfr := hS.2.free 2
      have hce := hS.2.cell 2
      have hst : (Instr.storeAt 34 (.pointer (some ⟨w.heap.size, 2, none⟩)) (.slice A1 d.falls.length c1)).run Try.prog w' = .ok () (w'.setCell ⟨w.heap.size, 2, none⟩ (.slice A1 d.falls.length c1)) := by
        clear hbef hp hv ho hcc hS
        simp only [List.getElem?_cons_zero, List.getElem?_cons_succ] at hce
        go_simp
      have hbl := hS.2.set2 (u := .slice A1 d.falls.length c1)
      have hgs := grown_store w' w.heap.size 2 (.slice A1 d.falls.length c1)
      refine opDoes_skip rfl (exec_store rfl hp hv hst) ⟨hgs, trivial, grown_then hS.1 hgs, ?_⟩
      rw [← hv] at hbl ⊢
      exact hbl
  case hend =>
    intro D v w' hS hD h
    simp only [AllOps, Nat.zero_add, Nat.reduceAdd, and_true] at h
    obtain ⟨-, -, -, -, ⟨A1, c1, h1, o1⟩, -, -, -, -, ⟨A2, c2, h2, o2⟩, -, -, -, -, ⟨A3, c3, h3, o3⟩, -⟩ := h
    have hbl := hS.2
    rw [hD 16 (by decide), hD 18 (by decide), hD 20 (by decide), if_pos rfl, if_pos rfl, if_pos rfl, h1, h2, h3] at hbl
    obtain ⟨gb, hgb, hDA⟩ := DiskAt.mk' hb0 (Nat.le_refl _) o1 o2 o3 hbl
    have HF : Hid (DiskAt w' w.heap.size ⟨w.heap.size, gb⟩ d ∧ Below w.heap.size w w') := ⟨hDA, HW.out.2.grown hS.1 HW.out.2.size (fun k hk => by simp at hk; omega)⟩
    clear hbl hDA o1 o2 o3 h1 h2 h3 hS hD
    go_wp2_with fail
    go_ret
    exact ⟨⟨w.heap.size, gb⟩, rfl, HF.out⟩
end Go.Proofs.Ythbanhedjfpmaaa
end

section
/-
  The contract of disk's New.
-/
namespace Go.Proofs.Ythbanhedjfpmaaa
set_option linter.unusedSimpArgs false
set_option linter.unusedVariables false
open Go.RowKit

theorem madeCells_elems {α : Type} (E : Elem α) (x : α) (hx : E.zero.cells.toList = E.code x) : ∀ n, (madeCells E.zero.cells (n * E.sz)).toList = E.cells (List.replicate n x) := by
  intro n
  have hpos := E.pos
  have hz := E.zsz
  apply List.ext_getElem?
  intro j
  by_cases hj : j < n * E.sz
  · rw [E.cells_get' _ j (by simpa using hj)]
    simp only [List.getElem_replicate]
    have hm : j % E.sz < E.sz := Nat.mod_lt _ hpos
    rw [← hx]
    have hm' : j % E.sz < E.zero.cells.size := by omega
    simp [madeCells, hj, hz]
    rw [getElem!_pos E.zero.cells (j % E.sz) hm', Array.getElem?_eq_getElem hm']
  · rw [List.getElem?_eq_none (by simp [size_madeCells]; omega), List.getElem?_eq_none (by rw [E.cells_length]; simp; omega)]
theorem wpList_make_elems {α : Type} (E : Elem α) (x0 : α) (hx0 : E.zero.cells.toList = E.code x0) {w : World} {B : Nat} {ops : Array Oper} {rest : List Oper} {o : Oper} {a : Act} {Q : Exit → Act → World → Prop} (hgd : o.guard = none) (x y : Operand) (hop : o.op = .makeSlice E.t x y)
    (kl kc : IntKind) (L C : Int) (n : Nat) (hx : a.eval x = .int kl L) (hy : a.eval y = .int kc C) (hL : L = (n : Int)) (hC : C = (n : Int)) (hb : n ≤ 1000000000) (hB : B ≤ w.heap.size)
    (h : ∀ w1, EOwn E w1 B (some ⟨w.heap.size, 0, none⟩) n (List.replicate n x0) → Below w.heap.size w w1 → wpList Try.prog ops Q rest (a.put o.dst (.slice (some ⟨w.heap.size, 0, none⟩) n n)) w1) :
    wpList Try.prog ops Q (o :: rest) a w := by
  obtain ⟨i, hi, hz, hs, hby⟩ := info_parts E.info
  have hbig : i.bytes * n ≤ 281474976710656 := by
    have h1 := Nat.mul_le_mul (show i.bytes ≤ 65536 by rw [hby]; exact E.few) hb
    omega
  refine wpList_make_full w hgd x y E.t hop B E.e i _ E.sz E.under hi hz hs kl kc L C n hx hy hL hC hbig (by simp [maxLen]; omega) hB fun w1 h1 h2 => ?_
  refine h w1 ?_ ((Below.refl _ w).grown h2 (Nat.le_refl _) (fun k hk => by cases hk))
  rw [madeCells_elems E x0 hx0] at h1
  have hl : (List.replicate n x0).length = n := List.length_replicate
  show w1.ownsRow B E.e E.sz (.slice _ (List.replicate n x0).length n) (List.replicate n x0).length _
  rw [hl]
  exact h1
def DS.new (n : Nat) : DS := { blocks := List.replicate n ⟨B512.zero, B512.zero⟩, pending := [], falls := [], changes := 0, down := false }
theorem dgood_new (n : Nat) (h0 : 0 < n) (hn : n ≤ 4096) : DGood (DS.new n) :=
  ⟨by simpa [DS.new] using h0, by simpa [DS.new] using hn, by simp [DS.new], by simp [DS.new], fun x hx => by simp [DS.new] at hx, fun x hx => by simp [DS.new] at hx⟩
theorem zeroDB : eDB.zero.cells.toList = eDB.code ⟨B512.zero, B512.zero⟩ := by
  show List.replicate 1024 (Value.int .u8 0) = (List.replicate 512 (0 : UInt8)).map bv ++ (List.replicate 512 (0 : UInt8)).map bv
  rw [List.map_replicate, List.replicate_append_replicate]
  exact congrArg (List.replicate 1024) (rfl : Value.int .u8 0 = bv 0)
set_option maxHeartbeats 400000 in
theorem dnew_refused (w : World) (n : Int) (h : n < 1 ∨ 4096 < n) :
    Calls Try.prog 15 #[.int .i64 n] w fun e w' => e = .returned (.tuple #[.pointer none, .int .i64 1]) ∧ w = w' := by
  by_cases h1 : n < 1
  · go_enter Try.func15, Try.ntmps15
    go_wp2_with fail
    go_ret2
    exact ⟨rfl, rfl⟩
  · have h2 : 4096 < n := by omega
    go_enter Try.func15, Try.ntmps15
    go_wp2_with fail
    go_ret2
    exact ⟨rfl, rfl⟩
set_option maxRecDepth 20000 in
set_option maxHeartbeats 1000000 in
theorem dnew_any (w : World) (n : Nat) (h0 : 0 < n) (hn : n ≤ 4096) :
    Calls Try.prog 15 #[.int .i64 n] w fun e w' => ∃ k, e = .returned (.tuple #[.pointer (some ⟨k.gd, 0, none⟩), .int .i64 0]) ∧ DiskAt w' w.heap.size k (DS.new n) ∧ Below w.heap.size w w' := by
  have hlo : ¬ (n : Int) < 1 := by omega
  have hhi : ¬ (4096 : Int) < (n : Int) := by omega
  go_enter Try.func15, Try.ntmps15
  go_wp2_with (refine wpList_make_elems eDB ⟨B512.zero, B512.zero⟩ zeroDB rfl (.tmp 10) (.tmp 10) rfl _ _ _ _ n rfl rfl rfl rfl (by omega) (Nat.le_refl _) ?_; intro w1 ho hb)
  go_ret2
  obtain ⟨ba, hz, hB⟩ := fresh1 (w := w1) (a := [.slice (some ⟨w.heap.size, 0, none⟩) n n, .slice none 0 0, .slice none 0 0, .int .i64 0, .bool false]) (t := 93) rfl
  have hlt := (ho.block _ rfl).2
  refine ⟨⟨w1.heap.size, w.heap.size⟩, rfl, ⟨⟨n, 0, 0, 0, 0, none, none, rfl, rfl, Nat.le_refl _, Nat.zero_le _, fun _ => rfl, ?_, ho.below hB, EOwn.nil _ _, EOwn.nil _ _, (fun a ha => by cases ha), (fun a ha => by cases ha)⟩, hb.size⟩, hb.trans (hB.mono hb.size)⟩
  show Blk _ _ _ [.slice _ (List.replicate n (_ : DB)).length _, _, _, _, _]
  rw [List.length_replicate]
  exact ba
end Go.Proofs.Ythbanhedjfpmaaa
end

section
/-
  The contract of the law's fill.
-/
namespace Go.Proofs.Ythbanhedjfpmaaa
set_option linter.unusedSimpArgs false
set_option linter.unusedVariables false
open Go.RowKit

theorem BOwn.setCells {B c g : Nat} : ∀ (m : List UInt8) {w : World} (pre l : List UInt8), BOwn w B (some ⟨g, 0, none⟩) c (pre ++ l) → m.length ≤ l.length → BOwn (w.setCells g pre.length (m.map bv)) B (some ⟨g, 0, none⟩) c (pre ++ (m ++ l.drop m.length))
  | [], w, pre, l, h, _ => by simpa [World.setCells] using h
  | x :: m, w, pre, [], h, hl => by simp at hl
  | x :: m, w, pre, y :: l, h, hl => by
    have h1 := h.store pre.length x (bv x) rfl
    have e : (pre ++ y :: l).set pre.length x = (pre ++ [x]) ++ l := by rw [List.set_append_right _ _ (Nat.le_refl _), Nat.sub_self, List.set_cons_zero, List.append_assoc]; rfl
    rw [e] at h1
    have h2 := BOwn.setCells m (pre ++ [x]) l h1 (by simpa using hl)
    rw [List.length_append, List.append_assoc] at h2
    exact h2
/-- copy(dst, s), s a string of any length. -/
theorem run_copy_text (w : World) (dT sT ty elem : TypeId) (b o dLen dCap : Nat) (s : List UInt8)
    (hu : Try.prog.underlying dT = some (.slice elem)) (hz : ∀ w, (Go.sizeOf elem).run Try.prog w = .ok 1 w)
    (hc : ∀ j, j < (s.take dLen).length → (w.cell? ⟨b, o + j, none⟩).isSome = true) (hf : ∀ j, j < (s.take dLen).length → w.frozen? ⟨b, o + j, none⟩ = false) :
    (Builtin.copy_ #[dT, sT] ty #[.slice (some ⟨b, o, none⟩) dLen dCap, txt s]).run Try.prog w = .ok (goInt (s.take dLen).length) (w.setCells b o ((s.take dLen).map bv)) := by
  have hst := run_storeCells_cells (P := Try.prog) b o ((s.take dLen).map bv) 0 w (by simpa using hc) (by simpa using hf) (by
    intro v hv
    obtain ⟨x, _, rfl⟩ := List.mem_map.1 hv
    rfl)
  have hsz : (ByteArray.mk s.toArray).size = s.length := by simp [ByteArray.size]
  have hmin : Nat.min s.length dLen = (s.take dLen).length := by rw [List.length_take, Nat.min_comm]
  have htk : List.take (s.take dLen).length (List.map (fun b : UInt8 => Value.int IntKind.u8 (b.toNat : Int)) s) = (s.take dLen).map bv := by
    show List.take _ (List.map bv s) = _
    rw [List.map_take, List.length_take, List.take_eq_take_iff]
    simp
  unfold txt
  simp [Builtin.copy_, run_underlying hu, Builtin.lenOf, Builtin.firstCells, hz, hsz]
  rw [hmin, htk, hst, List.map_take, List.length_take]
  rfl
def fillL (c : UInt8) (s : List UInt8) : List UInt8 := s.take 512 ++ (List.replicate 512 c).drop (s.take 512).length
theorem fillL_length (c : UInt8) (s : List UInt8) : (fillL c s).length = 512 := by
  unfold fillL
  rw [List.length_append, List.length_drop, List.length_replicate, List.length_take]; omega
def fillB (c : UInt8) (s : List UInt8) : B512 := ⟨fillL c s, fillL_length c s⟩
theorem fill_step (c : UInt8) (i : Nat) (hi : i < 512) : (List.replicate i c ++ List.replicate (512 - i) (0 : UInt8)).set i c = List.replicate (i + 1) c ++ List.replicate (512 - (i + 1)) 0 := by
  rw [List.set_append_right _ _ (by simp), List.length_replicate, Nat.sub_self, show 512 - i = (512 - (i + 1)) + 1 from by omega, List.replicate_succ, List.set_cons_zero, List.replicate_succ', List.append_assoc]
  rfl
set_option maxRecDepth 20000 in
set_option maxHeartbeats 1000000 in
theorem fill_any (w : World) (c : UInt8) (s : List UInt8) :
    Calls Try.prog 16 #[.int .u8 (c.toNat : Int), txt s] w fun e w' => ∃ A cap, e = .returned (.slice A 512 cap) ∧ BOwn w' w.heap.size A cap (fillL c s) ∧ Below w.heap.size w w' := by
  go_enter Try.func16, Try.ntmps16
  go_wp2_with (refine wpList_make_zeros rfl (.const (.int .i64 512)) (.const (.int .i64 512)) rfl _ _ _ _ 512 rfl rfl rfl rfl (by decide) (Nat.le_refl _) ?_; intro w1 ho hb)
  have HI : Hid (BOwn w1 w.heap.size (some ⟨w.heap.size, 0, none⟩) 512 (List.replicate 0 c ++ List.replicate (512 - 0) 0) ∧ Below w.heap.size w w1) := ⟨by simpa using ho, hb⟩
  clear ho hb
  go_loopw [10] (fun iv wr => ∃ i : Nat, i ≤ 512 ∧ iv = .int .i64 i ∧ Hid (BOwn wr w.heap.size (some ⟨w.heap.size, 0, none⟩) 512 (List.replicate i c ++ List.replicate (512 - i) 0) ∧ Below w.heap.size w wr)) (fun iv _ => 512 - (intOf iv).toNat)
  case atStart => exact ⟨0, by omega, rfl, HI.out⟩
  case round =>
    obtain ⟨i, hi, rfl, HJ⟩ := hrel
    clear HI
    by_cases hlt : i < 512
    · have hii : (i : Int) < 512 := by omega
      have hl : (List.replicate i c ++ List.replicate (512 - i) (0 : UInt8)).length = 512 := by simp; omega
      have hcell : (wr.cell? ⟨w.heap.size, i, none⟩).isSome = true := by rw [HJ.out.1.cell (by rw [hl]; exact hlt)]; rfl
      have hce := HJ.out.1.cell (j := i) (by rw [hl]; exact hlt)
      have hfr := HJ.out.1.free i
      go_wp2_with fail
      go_roundw
      case rel =>
        refine ⟨i + 1, by omega, by go_num, ?_, HJ.out.2.setCell (p := ⟨w.heap.size, i, none⟩) (Nat.le_refl _) _⟩
        rw [← fill_step c i hlt]
        exact HJ.out.1.store i c _ rfl
      case measure => simp [intOf]; omega
    · obtain rfl : i = 512 := by omega
      have HC : Hid (BOwn wr w.heap.size (some ⟨w.heap.size, 0, none⟩) 512 (List.replicate 512 c) ∧ Below w.heap.size w wr) := ⟨by simpa using HJ.out.1, HJ.out.2⟩
      clear HJ hlt
      have hl : (List.replicate 512 c).length = 512 := List.length_replicate
      have hts : (s.take 512).length ≤ 512 := by rw [List.length_take]; omega
      have hcp := run_copy_text wr 33 9 3 5 w.heap.size 0 512 512 s Try.underlying33 (fun _ => rfl) (fun j hj => by rw [Nat.zero_add, HC.out.1.cell (by rw [hl]; omega)]; rfl) (fun j hj => HC.out.1.free _)
      have HB := Lib.hid (BOwn.setCells (s.take 512) [] (List.replicate 512 c) HC.out.1 (by rw [hl]; exact hts))
      have HG := Lib.hid (HC.out.2.grown (grown_setCells wr w.heap.size 0 ((s.take 512).map bv)) HC.out.2.size (fun k hk => by simp at hk; omega))
      clear hl hts
      go_wp2_with (refine wpList_runv rfl (exec_copy (d := .tmp 18) (s := .tmp 19) rfl rfl rfl hcp) ?_)
      go_ret
      exact ⟨_, 512, rfl, by rw [← List.map_take]; exact HB.out, by rw [← List.map_take]; exact HG.out⟩
end Go.Proofs.Ythbanhedjfpmaaa
end

section
/-
  A disk that a law's walk holds: what stays true from call to call.
-/
namespace Go.Proofs.Ythbanhedjfpmaaa
set_option linter.unusedSimpArgs false
set_option linter.unusedVariables false
open Go.RowKit

theorem crash_changes (d : DS) (f : DF) : (d.crash f).changes = d.changes := by unfold DS.crash; split <;> rfl
theorem crash_pending (d : DS) (f : DF) : (d.crash f).pending.length ≤ d.pending.length := by unfold DS.crash; split <;> simp
theorem strike_changes (d : DS) : d.strike.1.changes = d.changes + 1 := by
  unfold DS.strike
  split
  · exact crash_changes _ _
  · rfl
theorem strike_pending (d : DS) : d.strike.1.pending.length ≤ d.pending.length := by
  unfold DS.strike
  split
  · exact crash_pending _ _
  · exact Nat.le_refl _
theorem write_changes (d : DS) (i : Int) (l : List UInt8) : (d.write i l).1.changes ≤ d.changes + 1 := by
  unfold DS.write
  split
  · exact Nat.le_succ _
  · split
    · unfold DS.put; rw [strike_changes]; exact Nat.le_refl _
    · exact Nat.le_succ _
theorem write_pending (d : DS) (i : Int) (l : List UInt8) : (d.write i l).1.pending.length ≤ d.pending.length + 1 := by
  unfold DS.write
  split
  · exact Nat.le_succ _
  · split
    · unfold DS.put; refine Nat.le_trans (strike_pending _) ?_; simp
    · exact Nat.le_succ _
theorem flush_changes (d : DS) : d.flush.1.changes ≤ d.changes + 1 := by
  unfold DS.flush
  split
  · exact Nat.le_succ _
  · split
    · rw [strike_changes]; exact Nat.le_refl _
    · show d.strike.1.changes ≤ _; rw [strike_changes]; exact Nat.le_refl _
theorem flush_pending (d : DS) : d.flush.1.pending.length ≤ d.pending.length := by
  unfold DS.flush
  split
  · exact Nat.le_refl _
  · split
    · exact strike_pending _
    · simp [DS.settled]
theorem why_zero {d : DS} {i : Int} (h : d.why i = 0) : d.down = false ∧ 0 ≤ i ∧ i < d.blocks.length := by
  unfold DS.why at h
  cases hd : d.down with
  | true => rw [if_pos hd] at h; exact absurd h (by decide)
  | false =>
    rw [if_neg (by simp [hd])] at h
    split at h
    · exact absurd h (by decide)
    · exact ⟨rfl, by omega, by omega⟩
theorem DGood.write {d : DS} (h : DGood d) (hpl : d.pending.length < 1000000) (i : Int) (l : List UInt8) : DGood (d.write i l).1 := by
  unfold DS.write
  split
  · exact h
  · split
    · rename_i hw hl
      obtain ⟨-, h0, h1⟩ := why_zero (Classical.not_not.1 hw)
      unfold DS.put
      refine DGood.strike ⟨by simpa using h.b0, by simpa using h.b1, by simp; omega, h.f1, fun x hx => ?_, h.fk⟩
      simp only [List.length_set]
      rcases List.mem_append.1 hx with h' | h'
      · exact h.at_ x h'
      · simp only [List.mem_singleton] at h'
        subst h'
        exact ⟨by show (0 : Int) ≤ (i.toNat : Int); omega, by show ((i.toNat : Nat) : Int) < _; omega⟩
    · exact h
theorem DGood.up {d : DS} (h : DGood d) (b : Bool) : DGood { d with down := b } := ⟨h.b0, h.b1, h.p1, h.f1, h.at_, h.fk⟩
theorem DGood.plan {d : DS} (h : DGood d) (L : List DF) (hl : L.length ≤ 1000000) (hk : ∀ f ∈ L, f.keep < 18446744073709551616 ∧ (-9223372036854775808 ≤ f.torn ∧ f.torn ≤ 9223372036854775807)) : DGood { d with falls := L } := ⟨h.b0, h.b1, h.p1, hl, h.at_, hk⟩

/-- The disk d, made since w0: n changes at most were asked of it. -/
structure DL (w0 w : World) (k : KB) (d : DS) (n : Nat) : Prop where
  at_ : DiskAt w w0.heap.size k d
  good : DGood d
  ch : d.changes ≤ n
  pe : d.pending.length ≤ n
  bel : Below w0.heap.size w0 w
section
variable {w0 w w' : World} {k : KB} {d : DS} {n : Nat}
theorem DL.own_lo (h : DL w0 w k d n) : ∀ i, k.own i → w0.heap.size ≤ i := fun i hi => by
  rcases hi with rfl | rfl
  · exact h.at_.lo
  · exact h.at_.head.2.2.2
theorem DL.below (h : DL w0 w k d n) (hb : Below w.heap.size w w') : DL w0 w' k d n := ⟨h.at_.below hb, h.good, h.ch, h.pe, h.bel.trans (hb.mono h.bel.size)⟩
theorem DL.more (h : DL w0 w k d n) {m : Nat} (hm : n ≤ m) : DL w0 w k d m := ⟨h.at_, h.good, Nat.le_trans h.ch hm, Nat.le_trans h.pe hm, h.bel⟩
theorem DL.step (h : DL w0 w k d n) {e : DS} {m : Nat} (ha : DiskAt w' w0.heap.size k e) (hk : Keeps w w' k.own) (hg : DGood e) (hc : e.changes ≤ m) (hp : e.pending.length ≤ m) : DL w0 w' k e m :=
  ⟨ha, hg, hc, hp, hk.below h.bel h.bel.size h.own_lo⟩
theorem DL.write (h : DL w0 w k d n) (hn : n < 1000000) (i : Int) (A : Option Addr) (c : Nat) (l : List UInt8) (hr : BRow w A l) :
    Calls Try.prog 17 #[.pointer (some ⟨k.gd, 0, none⟩), .int .i64 i, .slice A l.length c] w fun e w' => e = .returned (.int .i64 (d.write i l).2) ∧ DL w0 w' k (d.write i l).1 (n + 1) ∧ Keeps w w' k.own := by
  have hc := h.ch
  have hp := h.pe
  refine (write_any w _ k d h.at_ h.good (by omega) (by omega) i A c l hr).mono fun e w' ⟨he, hD, hK⟩ => ⟨he, h.step hD hK (h.good.write (by omega) i l) ?_ ?_, hK⟩
  · exact Nat.le_trans (write_changes d i l) (by omega)
  · exact Nat.le_trans (write_pending d i l) (by omega)
theorem DL.flush (h : DL w0 w k d n) (hn : n < 1000000) :
    Calls Try.prog 18 #[.pointer (some ⟨k.gd, 0, none⟩)] w fun e w' => e = .returned (.int .i64 d.flush.2) ∧ DL w0 w' k d.flush.1 (n + 1) ∧ Keeps w w' k.own := by
  have hc := h.ch
  have hp := h.pe
  refine (flush_any w _ k d h.at_ h.good (by omega)).mono fun e w' ⟨he, hD, hK⟩ => ⟨he, h.step hD hK h.good.flush ?_ ?_, hK⟩
  · exact Nat.le_trans (flush_changes d) (by omega)
  · exact Nat.le_trans (flush_pending d) (by omega)
theorem DL.crash (h : DL w0 w k d n) (f : DF) (hf : f.keep < 18446744073709551616) :
    Calls Try.prog 19 #[.pointer (some ⟨k.gd, 0, none⟩), .agg #[.int .i64 f.at_, .int .u64 (f.keep : Nat), .int .i64 f.torn]] w fun e w' => e = .returned (.tuple #[]) ∧ DL w0 w' k (d.crash f) n ∧ Keeps w w' k.own := by
  refine (crash_any w _ k d h.at_ h.good f hf).mono fun e w' ⟨he, hD, hK⟩ => ⟨he, h.step hD hK (h.good.crash f) ?_ ?_, hK⟩
  · rw [crash_changes]; exact h.ch
  · exact Nat.le_trans (crash_pending d f) h.pe
theorem DL.up (h : DL w0 w k d n) :
    Calls Try.prog 20 #[.pointer (some ⟨k.gd, 0, none⟩)] w fun e w' => e = .returned (.bool d.down) ∧ DL w0 w' k { d with down := false } n ∧ Keeps w w' k.own := by
  refine (up_any w _ k d h.at_).mono fun e w' ⟨he, hD, hg⟩ => ?_
  have hK : Keeps w w' k.own := (Keeps.of_grown hg).mono fun i hi => .inl hi
  exact ⟨he, h.step hD hK (h.good.up false) h.ch h.pe, hK⟩
theorem DL.plan (h : DL w0 w k d n) (A : Option Addr) (c : Nat) (L : List DF) (hr : ERow eDF w A L) (hl : L.length ≤ 1000000) (hk : ∀ f ∈ L, f.keep < 18446744073709551616 ∧ (-9223372036854775808 ≤ f.torn ∧ f.torn ≤ 9223372036854775807)) :
    Calls Try.prog 24 #[.pointer (some ⟨k.gd, 0, none⟩), .slice A L.length c] w fun e w' => e = .returned (.tuple #[]) ∧ DL w0 w' k { d with falls := L } n ∧ Keeps w w' k.own := by
  refine (plan_any w _ k d h.at_ A c L hr hl).mono fun e w' ⟨he, hD, hg⟩ => ?_
  have hK : Keeps w w' k.own := (Keeps.of_grown hg).mono fun i hi => .inl hi
  exact ⟨he, h.step hD hK (h.good.plan L hl hk) h.ch h.pe, hK⟩
theorem DL.new (m : Nat) (h0 : 0 < m) (hm : m ≤ 4096) (hb : Below w0.heap.size w0 w) :
    Calls Try.prog 15 #[.int .i64 m] w fun e w' => ∃ k, e = .returned (.tuple #[.pointer (some ⟨k.gd, 0, none⟩), .int .i64 0]) ∧ DL w0 w' k (DS.new m) 0 ∧ Below w.heap.size w w' := by
  refine (dnew_any w m h0 hm).mono fun e w' ⟨k, he, hD, hB⟩ => ⟨k, he, ⟨?_, dgood_new m h0 hm, Nat.le_refl _, Nat.le_refl _, hb.trans (hB.mono hb.size)⟩, hB⟩
  obtain ⟨⟨cb, np, cp, nf, cf, Ap, Af, h1, h2, h3, h4, h5, h6, h7, h8, h9, h10⟩, lo⟩ := hD
  exact ⟨⟨cb, np, cp, nf, cf, Ap, Af, h1, h2, h3, h4, h5, h6, h7.mono hb.size, h8.mono hb.size, h9.mono hb.size, h10⟩, Nat.le_trans hb.size lo⟩
end
end Go.Proofs.Ythbanhedjfpmaaa
end

section
/-
  The journal on a disk, plain: what each call does.
-/
namespace Go.Proofs.Ythbanhedjfpmaaa
set_option linter.unusedSimpArgs false
set_option linter.unusedVariables false
open Go.RowKit

structure LS where
  at_ : Nat
  room : Nat
  seq : Nat
  data : List UInt8
  count : Nat
  broken : Bool

/-- A head is written, and made sure. -/
def DS.head (d : DS) (at_ seq n : Nat) : DS × Int :=
  if (d.write ((at_ + seq % 2 : Nat) : Int) (Wal.headL seq n)).2 ≠ 0 then d.write ((at_ + seq % 2 : Nat) : Int) (Wal.headL seq n)
  else (d.write ((at_ + seq % 2 : Nat) : Int) (Wal.headL seq n)).1.flush
def LS.headed (l : LS) (seq : Nat) (e : Int) : LS := if e = 0 then { l with seq := seq } else { l with broken := true }
def DS.block (d : DS) (i : Nat) : List UInt8 := (d.blocks.getD i default).now.l
theorem DS.block_length (d : DS) (i : Nat) : (d.block i).length = 512 := (d.blocks.getD i default).now.h
/-- The head that counts. -/
def DS.pick (d : DS) (at_ room : Nat) : Nat × Nat :=
  if (Wal.right (d.block at_) room).1 < (Wal.right (d.block (at_ + 1)) room).1 then Wal.right (d.block (at_ + 1)) room else Wal.right (d.block at_) room
/-- The bytes of n blocks. -/
def DS.bytes (d : DS) (at_ : Nat) (n : Nat) : List UInt8 := (List.range n).flatMap fun j => d.block (at_ + j)
theorem DS.bytes_succ (d : DS) (at_ n : Nat) : d.bytes at_ (n + 1) = d.bytes at_ n ++ d.block (at_ + n) := by simp [DS.bytes, List.range_succ]
theorem DS.bytes_length (d : DS) (at_ n : Nat) : (d.bytes at_ n).length = n * 512 := by
  induction n with
  | zero => simp [DS.bytes]
  | succ n ih => rw [DS.bytes_succ, List.length_append, ih, DS.block_length]; omega
def DS.body (d : DS) (at_ n : Nat) : List UInt8 := (d.bytes (at_ + 2) ((n + 511) / 512)).take n
theorem DS.body_length (d : DS) (at_ n : Nat) : (d.body at_ n).length = n := by rw [DS.body, List.length_take, DS.bytes_length]; omega
/-- What an opening comes to. -/
structure OR where
  d : DS
  l : LS
  recs : List (List UInt8)
  e : Int
def LS.dead (at_ room : Nat) : LS := ⟨at_, room, 0, [], 0, true⟩
def DS.openW (d : DS) (at_ room : Nat) : OR :=
  if d.down = true then ⟨d, .dead at_ room, [], 6⟩
  else if (d.pick at_ room).1 = 0 then
    if (d.head at_ 1 0).2 ≠ 0 then ⟨(d.head at_ 1 0).1, .dead at_ room, [], (d.head at_ 1 0).2⟩ else ⟨(d.head at_ 1 0).1, ⟨at_, room, 1, [], 0, false⟩, [], 0⟩
  else if (Wal.records (d.body at_ (d.pick at_ room).2)).2 ≠ 0 then ⟨d, .dead at_ room, [], (Wal.records (d.body at_ (d.pick at_ room).2)).2⟩
  else ⟨d, ⟨at_, room, (d.pick at_ room).1, d.body at_ (d.pick at_ room).2, (Wal.records (d.body at_ (d.pick at_ room).2)).1.length, false⟩, (Wal.records (d.body at_ (d.pick at_ room).2)).1, 0⟩
/-- Block number i of bytes, filled up with noughts. -/
def padB (l : List UInt8) (i : Nat) : List UInt8 := (l.drop (i * 512)).take 512 ++ List.replicate (512 - ((l.drop (i * 512)).take 512).length) 0
theorem padB_length (l : List UInt8) (i : Nat) : (padB l i).length = 512 := by
  unfold padB
  rw [List.length_append, List.length_replicate, List.length_take]
  omega
/-- The blocks of bytes from number i on are written. -/
def DS.lay (at_ : Nat) (all : List UInt8) : Nat → Nat → DS → DS × Int
  | 0, _, d => (d, 0)
  | f + 1, i, d =>
    if all.length ≤ i * 512 then (d, 0)
    else if (d.write ((at_ + 2 + i : Nat) : Int) (padB all i)).2 ≠ 0 then d.write ((at_ + 2 + i : Nat) : Int) (padB all i)
    else DS.lay at_ all f (i + 1) (d.write ((at_ + 2 + i : Nat) : Int) (padB all i)).1
structure AR where
  d : DS
  l : LS
  e : Int
/-- All is written that an Add writes, the head last. -/
def DS.addW (d : DS) (l : LS) (all : List UInt8) (many : Nat) : AR :=
  if (DS.lay l.at_ all all.length (l.data.length / 512) d).2 ≠ 0 then ⟨(DS.lay l.at_ all all.length (l.data.length / 512) d).1, { l with broken := true }, (DS.lay l.at_ all all.length (l.data.length / 512) d).2⟩
  else if (DS.lay l.at_ all all.length (l.data.length / 512) d).1.flush.2 ≠ 0 then ⟨(DS.lay l.at_ all all.length (l.data.length / 512) d).1.flush.1, { l with broken := true }, (DS.lay l.at_ all all.length (l.data.length / 512) d).1.flush.2⟩
  else if ((DS.lay l.at_ all all.length (l.data.length / 512) d).1.flush.1.head l.at_ (l.seq + 1) all.length).2 ≠ 0 then ⟨((DS.lay l.at_ all all.length (l.data.length / 512) d).1.flush.1.head l.at_ (l.seq + 1) all.length).1, { l with broken := true }, ((DS.lay l.at_ all all.length (l.data.length / 512) d).1.flush.1.head l.at_ (l.seq + 1) all.length).2⟩
  else ⟨((DS.lay l.at_ all all.length (l.data.length / 512) d).1.flush.1.head l.at_ (l.seq + 1) all.length).1, { l with seq := l.seq + 1, data := all, count := l.count + many }, 0⟩
def DS.add (d : DS) (l : LS) (recs : List (List UInt8)) : AR :=
  if l.broken = true then ⟨d, l, 3⟩
  else if recs = [] then ⟨d, l, 0⟩
  else if l.room < (l.data ++ Wal.frames recs).length ∨ l.seq = Wal.last62 then ⟨d, l, 40⟩
  else d.addW l (l.data ++ Wal.frames recs) recs.length
def DS.reset (d : DS) (l : LS) : AR :=
  if l.broken = true then ⟨d, l, 3⟩
  else if l.seq = Wal.last62 then ⟨d, l, 40⟩
  else if (d.head l.at_ (l.seq + 1) 0).2 ≠ 0 then ⟨(d.head l.at_ (l.seq + 1) 0).1, { l with broken := true }, (d.head l.at_ (l.seq + 1) 0).2⟩
  else ⟨(d.head l.at_ (l.seq + 1) 0).1, { l with seq := l.seq + 1, data := [], count := 0 }, 0⟩

/-- Bounds. -/
structure LGood (l : LS) : Prop where
  at_ : l.at_ ≤ 5000
  room : l.room ≤ 511000
  seq : l.seq ≤ Wal.last62
  data : l.data.length ≤ l.room
  count : l.count ≤ l.data.length
end Go.Proofs.Ythbanhedjfpmaaa
end

section
/-
  The contract of crc.Sum: the sum of all parts, one behind the other; nothing is written.
-/
namespace Go.Proofs.Ythbanhedjfpmaaa
set_option linter.unusedSimpArgs false
set_option linter.unusedVariables false
open Go.RowKit

/-- A part of what is summed: its address, its room, its bytes. -/
structure Part where
  a : Option Addr
  c : Nat
  l : List UInt8
def Part.v (p : Part) : Value := .slice p.a p.l.length p.c
def Part.ok (w : World) (p : Part) : Prop := BRow w p.a p.l ∧ p.l.length ≤ 9223372036854775807

theorem crc_and (s : Nat) (h : s < 4294967296) : Go.bits .and .u32 (s : Int) 1 = ((s % 2 : Nat) : Int) := by
  rw [show (1 : Int) = ((1 : Nat) : Int) from rfl, u32_and_nat _ _ h (by omega), nat_mask1]
theorem crc_xor (s c : Nat) (h : s < 4294967296) (hc : c < 256) : Go.bits .xor .u32 (s : Int) (c : Int) = ((s ^^^ c : Nat) : Int) := u32_xor_nat _ _ h (by omega)
theorem crc_poly (s : Nat) (h : s < 4294967296) (h1 : s % 2 = 1) : Go.bits .xor .u32 ((s : Int) / 2) 3988292384 = ((Crc.bit s : Nat) : Int) := by
  rw [show (3988292384 : Int) = ((3988292384 : Nat) : Int) from rfl, show (s : Int) / 2 = ((s / 2 : Nat) : Int) from rfl, u32_xor_nat _ _ (by omega) (by omega), Crc.bit, if_pos h1]
theorem crc_shr (s : Nat) (h1 : s % 2 ≠ 1) : ((s : Int) / 2) = ((Crc.bit s : Nat) : Int) := by
  rw [Crc.bit, if_neg h1]; rfl
theorem crc_not (s : Nat) (h : s < 4294967296) : Go.bits .xor .u32 IntKind.u32.max (s : Int) = ((s ^^^ 4294967295 : Nat) : Int) := by
  rw [show IntKind.u32.max = ((4294967295 : Nat) : Int) from rfl, u32_xor_nat _ _ (by omega) h, Nat.xor_comm]
theorem take_flat (ps : List Part) (k : Nat) (hk : k < ps.length) : (ps.take (k + 1)).flatMap (·.l) = (ps.take k).flatMap (·.l) ++ ps[k].l := by
  rw [List.take_succ_eq_append_getElem hk, List.flatMap_append]; simp

set_option maxHeartbeats 800000 in
theorem sum_any (w : World) (A : Option Addr) (c : Nat) (ps : List Part) (hrow : Row w A (ps.map Part.v)) (hps : ∀ p ∈ ps, p.ok w) (hn : ps.length ≤ 9223372036854775807) :
    Calls Try.prog 81 #[.slice A ps.length c] w fun e w' => e = .returned (.int .u32 (Crc.sum (ps.flatMap (·.l)) : Nat)) ∧ w = w' := by
  have HP := Lib.hid hps
  clear hps
  go_enter Try.func81, Try.ntmps81
  go_wp2
  go_loop [3, 11] (fun s i => ∃ k : Nat, k ≤ ps.length ∧ i = .int .i64 k ∧ s = .int .u32 (Crc.run 4294967295 ((ps.take k).flatMap (·.l)) : Nat)) (fun _ i => ps.length - (intOf i).toNat)
  case atStart => exact ⟨0, Nat.zero_le _, rfl, by simp [Crc.run_nil]⟩
  case round =>
    obtain ⟨k, hk, rfl, rfl⟩ := hrel
    by_cases hlt : k < ps.length
    · have HT := Lib.hid (take_flat ps k hlt)
      have hc : ∃ b o a c l, A = some ⟨b, o, none⟩ ∧ ps[k].l = l ∧ w.cell? ⟨b, o + k, none⟩ = some (.slice a l.length c) ∧ BRow w a l ∧ l.length ≤ 9223372036854775807 := by
        obtain ⟨b, o, e, _, hc⟩ := Row.at_ (k := k) hrow (by simpa using hlt)
        have hp := HP.out ps[k] (List.getElem_mem hlt)
        exact ⟨b, o, ps[k].a, ps[k].c, ps[k].l, e, rfl, by simpa [Part.v] using hc, hp.1, hp.2⟩
      obtain ⟨b, o, a, c', l, rfl, hl, hc, hb, hll⟩ := hc
      have HL := Lib.hid hl
      clear hl hrow
      have hs : Crc.run 4294967295 ((ps.take k).flatMap (·.l)) < 4294967296 := Crc.run_lt _ (by omega)
      generalize hS : Crc.run 4294967295 ((ps.take k).flatMap (·.l)) = s at hs
      have HS0 := Lib.hid hS
      clear hS
      go_wp2
      go_loop [3, 17] (fun r i => ∃ j : Nat, j ≤ l.length ∧ i = .int .i64 j ∧ r = .int .u32 (Crc.run s (l.take j) : Nat)) (fun _ i => l.length - (intOf i).toNat)
      case atStart => exact ⟨0, Nat.zero_le _, rfl, by simp [Crc.run_nil]⟩
      case round =>
        obtain ⟨j, hj, rfl, rfl⟩ := hrel
        by_cases hjl : j < l.length
        · obtain ⟨b', o', rfl, _, hcj⟩ := BRow.at_ hb hjl
          have hcl := l[j].toNat_lt
          have HS : Hid (Crc.run s (l.take (j + 1)) = Crc.bits 8 (Crc.run s (l.take j) ^^^ l[j].toNat)) := by
            rw [List.take_succ_eq_append_getElem hjl, Crc.run_snoc]; rfl
          have hr : Crc.run s (l.take j) < 4294967296 := Crc.run_lt _ hs
          generalize Crc.run s (l.take j) = r at hr HS ⊢
          generalize l[j].toNat = cc at hcl hcj HS ⊢
          have hx := crc_xor r cc hr hcl
          have hxl : r ^^^ cc < 4294967296 := Crc.xor_lt hr (by omega)
          have HX := Lib.hid hx
          clear hx
          generalize r ^^^ cc = y at HX hxl HS
          go_wp2
          go_loop [3, 25] (fun r i => ∃ m : Nat, m ≤ 8 ∧ i = .int .i64 m ∧ r = .int .u32 (Crc.bits m y : Nat)) (fun _ i => 8 - (intOf i).toNat)
          case atStart => exact ⟨0, Nat.zero_le _, rfl, by rw [HX.out]; rfl⟩
          case round =>
            obtain ⟨m, hm, rfl, rfl⟩ := hrel
            by_cases hm8 : m < 8
            · have HB : Hid (Crc.bits (m + 1) y = Crc.bit (Crc.bits m y)) := rfl
              have hz : Crc.bits m y < 4294967296 := Crc.bits_lt m hxl
              generalize Crc.bits m y = z at hz HB
              have ha := crc_and z hz
              by_cases h1 : z % 2 = 1
              · have hp := crc_poly z hz h1
                rw [h1] at ha
                have H1 := Lib.hid h1
                clear h1
                go_wp2
                go_round
                case rel => exact ⟨m + 1, by omega, by go_num, by rw [HB.out]⟩
                case measure => simp [intOf]; omega
              · have h0 : z % 2 = 0 := by omega
                have HP2 := Lib.hid (crc_shr z h1)
                rw [h0] at ha
                clear h1 h0
                go_wp2
                go_round
                case rel => exact ⟨m + 1, by omega, by go_num, by rw [HB.out, HP2.out]⟩
                case measure => simp [intOf]; omega
            · obtain rfl : m = 8 := by omega
              go_wp2
              go_round
              case rel => exact ⟨j + 1, by omega, by go_num, by rw [HS.out]⟩
              case measure => simp [intOf]; omega
        · obtain rfl : j = l.length := by omega
          have HR : Hid (List.take l.length l = l) := List.take_length
          go_wp2
          go_round
          case rel => exact ⟨k + 1, by omega, by go_num, by rw [HR.out, HT.out, HL.out, Crc.run_append, HS0.out]⟩
          case measure => simp [intOf]; omega
    · have hs : Crc.run 4294967295 ((ps.take k).flatMap (·.l)) < 4294967296 := Crc.run_lt _ (by omega)
      have hx := crc_not _ hs
      go_wp2
      go_ret
      have : ps.take k = ps := List.take_of_length_le (by omega)
      exact ⟨by rw [this]; rfl, rfl⟩
end Go.Proofs.Ythbanhedjfpmaaa
end

section
/-
  The contracts of slices.Grow (of nil) and slices.Concat, of bytes.
-/
namespace Go.Proofs.Ythbanhedjfpmaaa
set_option linter.unusedSimpArgs false
set_option linter.unusedVariables false
open Go.RowKit

set_option maxHeartbeats 1000000 in
theorem bgrow_any (w : World) (n : Nat) (hn : n ≤ 1000000) :
    Calls Try.prog 86 #[.slice none 0 0, .int .i64 n] w fun e w' => ∃ A c, e = .returned (.slice A 0 c) ∧ BOwn w' w.heap.size A c [] ∧ Below w.heap.size w w' := by
  rcases Nat.eq_zero_or_pos n with rfl | h0
  · go_enter Try.func86, Try.ntmps86
    go_wp2_with fail
    go_ret
    exact ⟨none, 0, rfl, BOwn.nil _ _, Below.refl _ _⟩
  obtain ⟨i, hi, hz, hsi, hby⟩ := info_parts info8
  have hrun := Lib.run_append_nil_zeros (P := Try.prog) w 33 3 33 5 i _ .i64 .i64 Try.underlying33 Try.underlying3 hi hz n h0 (by omega) (by omega) (by rw [hby]; omega)
  have hni : ¬ (n : Int) < 0 := by omega
  have hpos : (0 : Int) < (n : Int) := by omega
  have hc1 := grownCap_ge w n 0 5
  have hc2 := grownCap_le_maxLen w n 0 5 (by simp [maxLen]; omega)
  generalize grownCap w n 0 5 = c at hrun hc1 hc2
  go_enter Try.func86, Try.ntmps86
  go_wp2_with (at_builtin; refine Lib.wpList_append_run w rfl (.tmp 20) (.tmp 21) 33 3 rfl _ _ rfl rfl _ _ hrun ?_)
  go_ret
  refine ⟨some ⟨w.heap.size, 0, none⟩, c, rfl, ?_, ((Below.refl _ _).drew).alloc (Nat.le_refl _) _⟩
  exact World.ownsRow_made w.drew _ c (Nat.le_refl _) hc2 (by simp [Builtin.zeroCells]; omega)

def blens (ps : List Part) : Nat := (ps.map fun p => p.l.length).sum
theorem blens_take (ps : List Part) (i : Nat) (h : i < ps.length) : blens (ps.take (i + 1)) = blens (ps.take i) + ps[i].l.length := by
  unfold blens
  rw [List.take_succ_eq_append_getElem h, List.map_append, List.sum_append]
  simp
theorem blens_le (ps : List Part) (i : Nat) : blens (ps.take i) ≤ blens ps := by
  have e : blens ps = blens (ps.take i) + blens (ps.drop i) := by
    unfold blens
    rw [← List.sum_append, ← List.map_append, List.take_append_drop]
  omega
theorem bflat_length (ps : List Part) : (ps.flatMap (·.l)).length = blens ps := by simp [blens, List.length_flatMap]

set_option maxHeartbeats 1000000 in
theorem bconcat_any (w : World) (A : Option Addr) (c : Nat) (ps : List Part) (hr : Row w A (ps.map Part.v)) (hp : ∀ p ∈ ps, p.ok w) (hn : ps.length ≤ 1000) (h1 : blens ps ≤ 1000000) :
    Calls Try.prog 76 #[.slice A ps.length c] w (RetB w (ps.flatMap (·.l))) := by
  have HP := Lib.hid hp
  clear hp
  go_enter Try.func76, Try.ntmps76
  go_wp2_with fail
  go_loop [3, 11] (fun sv iv => ∃ i n : Nat, i ≤ ps.length ∧ iv = .int .i64 i ∧ sv = .int .i64 n ∧ Hid (n = blens (ps.take i))) (fun _ iv => ps.length - (intOf iv).toNat)
  case atStart => exact ⟨0, 0, by omega, rfl, rfl, rfl⟩
  case round =>
    obtain ⟨i, n, hi, rfl, rfl, HN⟩ := hrel
    have hnle : n ≤ 1000000 := by rw [HN.out]; exact Nat.le_trans (blens_le ps i) h1
    by_cases hlt : i < ps.length
    · obtain ⟨b, o, rfl, hb, hc⟩ := Row.at_ (k := i) hr (by simpa using hlt)
      rw [List.getElem_map] at hc
      have hl := Lib.hid (blens_take ps i hlt)
      have hn2 : n + ps[i].l.length ≤ 1000000 := by rw [HN.out, ← hl.out]; exact Nat.le_trans (blens_le ps (i + 1)) h1
      generalize ps[i] = q at hc hl hn2
      obtain ⟨qA, qc, qL⟩ := q
      simp only [Part.v] at hc hl hn2
      have hneg : ¬ ((n : Int) + (qL.length : Int)) < 0 := by omega
      have hlti : (i : Int) < (ps.length : Int) := by omega
      have hw : IntKind.i64.wrap ((n : Int) + (qL.length : Int)) = (n : Int) + (qL.length : Int) := by rw [IntWalk.i64_in _ (by omega)]
      clear hr
      go_wp2_with fail
      go_round
      case rel => exact ⟨i + 1, n + qL.length, by omega, by go_num, by go_num, by show _ = _; rw [hl.out, HN.out]⟩
      case measure => simp [intOf]; omega
    · obtain rfl : i = ps.length := by omega
      go_wp2_with fail
      refine (bgrow_any w n hnle).mono ?_
      rintro e w1 ⟨A0, c1, rfl, ho1, hb1⟩
      go_wp2_with fail
      go_loopw [6, 27] (fun nv iv wr => ∃ (i : Nat) (A1 : Option Addr) (c1 : Nat) (L : List UInt8), i ≤ ps.length ∧ iv = .int .i64 i ∧ nv = .slice A1 L.length c1 ∧ Hid (L = (ps.take i).flatMap (·.l)) ∧ BOwn wr w.heap.size A1 c1 L ∧ Below w.heap.size w wr) (fun _ iv _ => ps.length - (intOf iv).toNat)
      case atStart => exact ⟨0, _, c1, [], by omega, rfl, rfl, rfl, ho1, hb1⟩
      case round =>
        obtain ⟨i, A1, c1, L, hi, rfl, rfl, HL, ho, hB⟩ := hrel
        by_cases hlt : i < ps.length
        · have hrx : Row wr A (ps.map Part.v) := Row.below hr hB
          obtain ⟨b, o, rfl, hb, hc⟩ := Row.at_ (k := i) hrx (by simpa using hlt)
          rw [List.getElem_map] at hc
          have hl := Lib.hid (take_flat ps i hlt)
          have hfr := (HP.out ps[i] (List.getElem_mem hlt)).1.below hB
          have hn2 : L.length + ps[i].l.length ≤ 1000000 := by
            have := blens_le ps (i + 1)
            rw [← bflat_length, take_flat ps i hlt, ← HL.out, List.length_append] at this
            omega
          generalize ps[i] = q at hc hl hn2 hfr
          obtain ⟨qA, qc, qL⟩ := q
          simp only [Part.v] at hc hl hn2 hfr
          have hz := hB.size
          go_wp2_with (at_builtin; refine wpList_append_bytes rfl (.tmp 31) (.tmp 32) rfl _ rfl ho rfl _ rfl hfr rfl (by omega) hz ?_; intro A3 c3 w3 ho3 hb3 _ _)
          go_roundw
          case rel => exact ⟨i + 1, A3, c3, L ++ qL, by omega, by go_num, by rw [List.length_append], by show _ = _; rw [hl.out, HL.out], ho3, hB.trans hb3⟩
          case measure => simp [intOf]; omega
        · obtain rfl : i = ps.length := by omega
          go_wp2_with fail
          go_ret
          have e := HL.out
          rw [List.take_length] at e
          rw [← e]
          exact ⟨A1, c1, rfl, ho, hB⟩
/-- Of two, of three texts. -/
theorem bconcat2 (w : World) (g : Nat) (c : Nat) (p q : Part) (hr : Row w (some ⟨g, 0, none⟩) [p.v, q.v]) (hp : p.ok w) (hq : q.ok w) (h : p.l.length + q.l.length ≤ 1000000) :
    Calls Try.prog 76 #[.slice (some ⟨g, 0, none⟩) 2 c] w (RetB w (p.l ++ q.l)) := by
  have := bconcat_any w (some ⟨g, 0, none⟩) c [p, q] hr (by simp; exact ⟨hp, hq⟩) (by simp) (by simp [blens]; omega)
  simpa using this
theorem bconcat3 (w : World) (g : Nat) (c : Nat) (p q r : Part) (hr : Row w (some ⟨g, 0, none⟩) [p.v, q.v, r.v]) (hp : p.ok w) (hq : q.ok w) (hx : r.ok w) (h : p.l.length + q.l.length + r.l.length ≤ 1000000) :
    Calls Try.prog 76 #[.slice (some ⟨g, 0, none⟩) 3 c] w (RetB w (p.l ++ (q.l ++ r.l))) := by
  have := bconcat_any w (some ⟨g, 0, none⟩) c [p, q, r] hr (by simp; exact ⟨hp, hq, hx⟩) (by simp) (by simp [blens]; omega)
  simpa using this
end Go.Proofs.Ythbanhedjfpmaaa
end

section
/-
  A rule for a region that draws its order: one walk of an order of one's own serves every order. Operations that leave the world as it is are taken as soon as they may be; behind each other operation, those of them that do not precede it are run once more and must come to the same value.
-/
namespace Go.Proofs.Ythbanhedjfpmaaa
set_option linter.unusedSimpArgs false
set_option linter.unusedVariables false
open Go

/-- A plan: which operations are taken first, which are run, which are run once more behind it. -/
inductive Plan where
  | fin
  | take (i : Nat) (p : Plan)
  | run (e : Nat) (ag : List Nat) (p : Plan)
  | fork (p q : Plan)

/-- Operation j waits for operation i, through others. -/
def dep (l : List Oper) : Nat → Nat → Nat → Bool
  | 0, _, _ => false
  | f + 1, j, i => Nat.blt i j && (match l[j]? with | some o => o.after.toList.any fun e => Region.binds .any e && (e.on == i || dep l f e.on i) | none => false)
/-- An operation whose run comes to a value, or to none at all. -/
def valueB (o : Oper) : Bool := match o.op with
  | .move _ | .assign _ | .pick .. | .alloc _ | .box .. | .build .. | .buildSlice .. | .load .. | .nilCheck _ | .binOp .. | .unOp .. | .convert .. | .makeInterface .. | .makeSlice .. | .slice .. | .fieldAddr .. | .field .. | .indexAddr .. | .index .. | .lookup .. | .typeAssert .. | .extract .. => true
  | .call { callee := .builtin b, .. } => (match b with | .len | .cap | .max | .min => true | _ => false)
  | _ => false
/-- Operation k writes nothing that operation i looks at or writes. -/
def wApart (l : List Oper) (i k : Nat) : Bool := match l[i]?, l[k]? with
  | some oi, some ok => (match ok.dst with | some d => !(oi.looksAt l.toArray).contains d && oi.dst != some d | none => true)
  | _, _ => false
def heads : Plan → List Nat
  | .run e _ _ => [e]
  | .fork p q => heads p ++ heads q
  | _ => []
def okB (l : List Oper) : Bool → Plan → Nat → Array Bool → List Nat → Bool
  | _, .fin, _, listed, _ => (Region.ready .any l.toArray listed).isEmpty
  | _, .take i p, fuel + 1, listed, Y => (Region.ready .any l.toArray listed).contains i && Region.free .any l.toArray listed i &&
      (match l[i]? with | some o => valueB o && (match o.dst with | some d => !(o.looksAt l.toArray).contains d | none => false) | none => false) &&
      Y.all (fun k => wApart l k i) && okB l true p fuel (listed.setIfInBounds i true) (i :: Y)
  | top, .run e ag p, fuel + 1, listed, Y => (!top || (Region.ready .any l.toArray listed).all (fun j => e == j)) && (l[e]?).isSome && (Region.ready .any l.toArray listed).contains e &&
      Y.all (fun k => wApart l k e && (dep l l.length e k || ag.contains k)) && okB l true p fuel (listed.setIfInBounds e true) (Y.filter fun k => !dep l l.length e k)
  | top, .fork p q, fuel, listed, Y => (heads p).any (fun j => (Region.ready .any l.toArray listed).contains j) && (!top || (Region.ready .any l.toArray listed).all (fun j => (heads p ++ heads q).contains j)) && okB l false p fuel listed Y && okB l false q fuel listed Y
  | _, _, _, _, _ => false

section
variable (P : Program) (ops : Array Oper) (Q : Exit → Act → World → Prop)
/-- The operation numbered i. -/
def sel (i : Nat) : List Oper := match ops[i]? with | some o => [o] | none => []
/-- The operations ag are run once more, and come to what the frame holds. -/
def again (T : Act → World → Prop) : List Nat → Act → World → Prop
  | [], a, w => T a w
  | i :: r, a, w => ∀ Z : Exit → Act → World → Prop, (again T r a w → Z .normal a w) → wpList P ops Z (sel ops i) a w
def walk : Plan → Act → World → Prop
  | .fin, a, w => Q .normal a w
  | .take i p, a, w => ∀ Z : Exit → Act → World → Prop, (∀ a', walk p a' w → Z .normal a' w) → wpList P ops Z (sel ops i) a w
  | .run e ag p, a, w => ∀ Z : Exit → Act → World → Prop, (∀ a' w', again P ops (walk p) ag a' w' → Z .normal a' w') → wpList P ops Z (sel ops e) a w
  | .fork p q, a, w => walk p a w ∧ walk q a w
end

/-! ### The rule's proof -/
section
variable {P : Program} {ops : Array Oper} {Q : Exit → Act → World → Prop}

/-- Q, and nothing but the normal end. -/
def Only (Q : Exit → Act → World → Prop) : Exit → Act → World → Prop := fun e a w => e = .normal ∧ Q .normal a w
theorem not_letsOut (Q : Exit → Act → World → Prop) : ¬ LetsOut (Only Q) := fun ⟨_, _, h, _⟩ => by cases h

theorem upon_cases {o : Oper} {a : Act} {K : Act → World → Prop} {Z : Exit → Act → World → Prop} {r : Result Next} (hZ : ∀ a w, ¬ Z .outgrown a w) (hp : ∀ c a w, ¬ Z (.panic c) a w)
    (h : o.upon P a K Z r) : (∃ v w', r = .ok (.value v) w' ∧ K (a.put o.dst v) w') ∨ (∃ w', r = .ok .skip w' ∧ K (a.put o.dst undef) w') ∨ (∃ d w', r = .ok (.defer d) w' ∧ K ({ a with defers := d :: a.defers }.put o.dst undef) w') ∨
      (∃ f args w', r = .ok (.enter f args) w' ∧ Calls P f args w' fun e w'' => ∃ v, e = .returned v ∧ K (a.put o.dst v) w'') ∨ (∃ row args w', r = .ok (.row row args) w' ∧ Rows P row args w' fun v w'' => K (a.put o.dst v) w'') := by
  cases r with
  | ok n w' =>
    cases n <;> simp only [Oper.upon] at h
    case value v => exact .inl ⟨v, w', rfl, h⟩
    case skip => exact .inr (.inl ⟨w', rfl, h⟩)
    case defer d => exact .inr (.inr (.inl ⟨d, w', rfl, h⟩))
    case enter f args =>
      refine .inr (.inr (.inr (.inl ⟨f, args, w', rfl, h.mono fun e w'' he => ?_⟩)))
      cases e with
      | returned v => exact ⟨v, rfl, he⟩
      | panicked c => exact absurd he (hp _ _ _)
      | outgrown => obtain ⟨_, _, h⟩ := he; exact absurd h (hZ _ _)
    case row row args => exact .inr (.inr (.inr (.inr ⟨row, args, w', rfl, h⟩)))
  | halt x w' =>
    cases x <;> simp only [Oper.upon] at h
    exact absurd h (hp _ _ _)

/-- From a walk that ends normally to any Q', with what is known of the frame. -/
theorem upon_back {o : Oper} {a : Act} {K K' : Act → World → Prop} {Q' : Exit → Act → World → Prop} {r : Result Next} (hK : ∀ ds v w', K ({ a with defers := ds }.put o.dst v) w' → K' ({ a with defers := ds }.put o.dst v) w')
    (h : (∃ v w', r = .ok (.value v) w' ∧ K (a.put o.dst v) w') ∨ (∃ w', r = .ok .skip w' ∧ K (a.put o.dst undef) w') ∨ (∃ d w', r = .ok (.defer d) w' ∧ K ({ a with defers := d :: a.defers }.put o.dst undef) w') ∨
      (∃ f args w', r = .ok (.enter f args) w' ∧ Calls P f args w' fun e w'' => ∃ v, e = .returned v ∧ K (a.put o.dst v) w'') ∨ (∃ row args w', r = .ok (.row row args) w' ∧ Rows P row args w' fun v w'' => K (a.put o.dst v) w'')) :
    o.upon P a K' Q' r := by
  rcases h with ⟨v, w', rfl, h⟩ | ⟨w', rfl, h⟩ | ⟨d, w', rfl, h⟩ | ⟨f, args, w', rfl, h⟩ | ⟨row, args, w', rfl, h⟩
  · exact hK a.defers _ _ h
  · exact hK a.defers _ _ h
  · exact hK _ _ _ h
  · refine Calls.mono h fun e w'' he => ?_
    obtain ⟨v, rfl, hk⟩ := he
    exact hK a.defers _ _ hk
  · exact Rows.mono h fun v w'' hk => hK a.defers _ _ hk

/-- One operation, walked to a normal end. -/
theorem wpOp_of_list {i : Nat} {o : Oper} {a : Act} {w : World} {Z : Exit → Act → World → Prop} {K' : Act → World → Prop} {Q' : Exit → Act → World → Prop} (hi : ops[i]? = some o)
    (hK : ∀ ds v w', Z .normal ({ a with defers := ds }.put o.dst v) w' → K' ({ a with defers := ds }.put o.dst v) w') (h : wpList P ops (Only Z) [o] a w) : wpOp P ops Q' i K' a w := by
  unfold wpOp
  simp only [hi]
  unfold wpList at h
  split
  · rename_i hw
    rw [if_pos hw] at h
    rcases h with h | h
    · refine .inl (upon_back (K := fun a w => Z .normal a w) hK ?_)
      have h2 := upon_cases (fun a w h => by cases h.1) (fun c a w h => by cases h.1) h
      simpa only [wpList, Only, true_and] using h2
    · exact absurd h.2 (not_letsOut Z)
  · rename_i hw
    rw [if_neg hw] at h
    exact hK a.defers _ _ h.2

theorem run_value {α : Type} {s : Sem α} {f : α → Next} {w w' : World} {n : Next} (hf : ∀ x, ∃ v, f x = .value v) (h : (s >>= fun x => (pure (f x) : Sem Next)).run P w = .ok n w') : ∃ v, n = .value v := by
  rw [Sem.run_bind] at h
  cases hs : s.run P w with
  | ok x w1 =>
    rw [hs] at h
    simp only [Result.andThen_ok, Sem.run_pure, Result.ok.injEq] at h
    obtain ⟨v, hv⟩ := hf x
    exact ⟨v, by rw [← h.1, hv]⟩
  | halt e w1 => rw [hs] at h; cases h
theorem valueB_spec {ρ : Operand → Value} {o : Oper} (hv : valueB o = true) {w w' : World} {n : Next} (h : (execOp ρ o).run P w = .ok n w') : ∃ v, n = .value v := by
  obtain ⟨dst, op, type, pos, after, guard⟩ := o
  cases op <;> simp only [valueB] at hv <;> (try (cases hv; done)) <;> simp only [execOp] at h
  case move => simp only [Sem.run_pure, Result.ok.injEq] at h; exact ⟨_, h.1.symm⟩
  case assign => simp only [Sem.run_pure, Result.ok.injEq] at h; exact ⟨_, h.1.symm⟩
  case nilCheck x =>
    generalize ρ x = y at h
    split at h <;> (try (simp only [Sem.run_pure, Result.ok.injEq] at h; exact ⟨_, h.1.symm⟩)) <;> (try (simp only [runtimePanic, goPanic, Sem.run_bind, run_program, Result.andThen_ok, Sem.run_halt] at h; cases h; done))
    split at h <;> (try (simp only [Sem.run_pure, Result.ok.injEq] at h; exact ⟨_, h.1.symm⟩)) <;> (try (simp only [runtimePanic, goPanic, Sem.run_bind, run_program, Result.andThen_ok, Sem.run_halt] at h; cases h; done))
    rw [Sem.run_bind] at h
    simp only [run_program, Result.andThen_ok] at h
    rw [Sem.run_bind] at h
    cases hn : (nilAhead (P.types.size + Made.depth) _ _ _).run P w with
    | halt e w1 => rw [hn] at h; cases h
    | ok r w1 =>
      rw [hn] at h
      simp only [Result.andThen_ok] at h
      split at h
      · cases h
      · simp only [Sem.run_pure, Result.ok.injEq] at h; exact ⟨_, h.1.symm⟩
  case call c =>
    obtain ⟨callee, args, argTypes⟩ := c
    cases callee <;> simp only [valueB] at hv <;> (try (cases hv; done))
    rename_i b
    simp only [resolve, Sem.run_bind, Sem.run_pure, Result.andThen_ok, invoke] at h
    cases b <;> simp only at hv <;> (try (cases hv; done)) <;> simp only [builtin] at h <;> exact run_value (fun x => ⟨_, rfl⟩) h
  all_goals exact run_value (fun x => ⟨_, rfl⟩) h

theorem put_size (a : Act) (d : Option Tmp) (v : Value) : (a.put d v).tmps.size = a.tmps.size := by cases d <;> simp [Act.put]
theorem slot_put {a : Act} {t : Tmp} (v : Value) (h : t < a.tmps.size) : slotOf (a.put (some t) v) (some t) = v := by simp [slotOf, Act.put, h]
theorem slot_put_ne {a : Act} {t : Tmp} {d : Option Tmp} (v : Value) (h : d ≠ some t) : slotOf (a.put d v) (some t) = slotOf a (some t) := by
  cases d with
  | none => rfl
  | some d =>
    have hne : d ≠ t := fun e => h (by rw [e])
    simp [slotOf, Act.put, Array.getElem?_setIfInBounds_ne hne]

/-- In the frame a and the world w' the operation comes to v, if it is wanted. -/
def Cond (P : Program) (ops : Array Oper) (o : Oper) (v : Value) (a : Act) (w' : World) : Prop := Region.wanted o (yielded ops a.tmps) = true → (execOp a.eval o).run P w' = .ok (.value v) w'

theorem Cond.put {o : Oper} {v : Value} {a : Act} {w' : World} {ds : List Deferred} {d : Option Tmp} {u : Value} (hs : ∀ cs b, o.op ≠ .select cs b) (h : ∀ t, d = some t → t ∉ o.looksAt ops)
    (hc : Cond P ops o v ({ a with defers := ds }.put d u) w') : Cond P ops o v a w' := by
  unfold Cond at *
  rw [execOp_put o hs { a with defers := ds } d u h, wanted_put o { a with defers := ds } d u h] at hc
  exact hc

/-- What is known of an operation that was taken. -/
def Taken (P : Program) (ops : Array Oper) (a : Act) (y : Nat × (World → Prop)) : Prop :=
  ∃ o t, ops[y.1]? = some o ∧ o.dst = some t ∧ t < a.tmps.size ∧ valueB o = true ∧ ∀ w', Cond P ops o (slotOf a (some t)) a w' → y.2 w'

theorem Taken.put {l : List Oper} {a : Act} {y : Nat × (World → Prop)} (h : Taken P l.toArray a y) (hsel : ∀ (j : Nat) (o : Oper) cs b, l.toArray[j]? = some o → o.op ≠ .select cs b) {k : Nat} {ok : Oper} (hk : l[k]? = some ok) (hw : wApart l y.1 k = true)
    (ds : List Deferred) (u : Value) : Taken P l.toArray ({ a with defers := ds }.put ok.dst u) y := by
  obtain ⟨o, t, ho, ht, hlt, hv, hS⟩ := h
  have hol : l[y.1]? = some o := by simpa using ho
  have hap : ∀ d, ok.dst = some d → d ∉ o.looksAt l.toArray ∧ o.dst ≠ some d := by
    intro d hd
    simp only [wApart, hol, hk, hd] at hw
    simpa using hw
  refine ⟨o, t, ho, ht, by rw [put_size]; exact hlt, hv, fun w' hc => hS w' ?_⟩
  rw [slot_put_ne (a := { a with defers := ds }) u (by intro e; exact (hap t e).2 ht)] at hc
  exact Cond.put (hsel _ _ · · ho) (fun d hd => (hap d hd).1) hc

/-- Whatever order is picked from here on; the conditions Y (each of an operation that was taken first) hold behind every operation that is carried out, until one that waits for it is. -/
def wpAnyY (P : Program) (ops : Array Oper) (dp : Nat → Nat → Bool) (Q : Exit → Act → World → Prop) : Nat → List (Nat × (World → Prop)) → Array Bool → Act → World → Prop
  | 0, _, listed, a, w => Region.ready .any ops listed = [] ∧ Q .normal a w
  | fuel + 1, Y, listed, a, w =>
    (Region.ready .any ops listed = [] → Q .normal a w) ∧
    ∀ j ∈ Region.ready .any ops listed, wpOp P ops Q j (fun a' w' => (∀ y ∈ Y, dp j y.1 = false → y.2 w') ∧ wpAnyY P ops dp Q fuel (Y.filter fun y => !dp j y.1) (listed.setIfInBounds j true) a' w') a w

theorem wpAny_of_Y {dp : Nat → Nat → Bool} : ∀ (fuel : Nat) (Y : List (Nat × (World → Prop))) (listed : Array Bool) (a : Act) (w : World), wpAnyY P ops dp Q fuel Y listed a w → wpAny P .any ops Q fuel listed a w
  | 0, _, _, _, _, h => h
  | fuel + 1, _, _, _, _, h => ⟨h.1, fun i hi => wpOp_mono (fun a' w' h' => wpAny_of_Y fuel _ _ a' w' h'.2) (h.2 i hi)⟩
theorem wpAnyY_less {dp : Nat → Nat → Bool} : ∀ (fuel : Nat) (Y Y' : List (Nat × (World → Prop))) (listed : Array Bool) (a : Act) (w : World), (∀ y ∈ Y', y ∈ Y) → wpAnyY P ops dp Q fuel Y listed a w → wpAnyY P ops dp Q fuel Y' listed a w
  | 0, _, _, _, _, _, _, h => h
  | fuel + 1, Y, Y', _, _, _, hY, h => ⟨h.1, fun i hi => wpOp_mono (fun a' w' h' => ⟨fun y hy hd => h'.1 y (hY y hy) hd, wpAnyY_less fuel _ _ _ a' w' (fun y hy => by
      rw [List.mem_filter] at hy ⊢
      exact ⟨hY y hy.1, hy.2⟩) h'.2⟩) (h.2 i hi)⟩

/-- Whoever is listed has those listed that it waits for. -/
def Closed (ops : Array Oper) (listed : Array Bool) : Prop := ∀ j o, ops[j]? = some o → listed.getD j false = true → ∀ e ∈ o.after, Region.binds .any e = true → listed.getD e.on false = true
theorem Closed.set {listed : Array Bool} (h : Closed ops listed) {i : Nat} (hi : i ∈ Region.ready .any ops listed) : Closed ops (listed.setIfInBounds i true) := by
  intro j o hj hl e he hb
  by_cases hij : i = j
  · subst hij
    obtain ⟨_, o', ho', hall⟩ := mem_ready.1 hi
    obtain rfl : o' = o := by rw [hj] at ho'; exact (Option.some.inj ho').symm
    exact getD_set_true (hall e he hb)
  · rw [getD_set_ne false hij] at hl
    exact getD_set_true (h j o hj hl e he hb)
theorem dep_closed {l : List Oper} {listed : Array Bool} (h : Closed l.toArray listed) : ∀ (f j i : Nat), listed.getD j false = true → dep l f j i = true → listed.getD i false = true
  | 0, _, _, _, hd => by cases hd
  | f + 1, j, i, hj, hd => by
    simp only [dep, Bool.and_eq_true] at hd
    obtain ⟨-, hd⟩ := hd
    split at hd
    · rename_i o ho
      obtain ⟨e, he, hb⟩ := List.any_eq_true.1 hd
      rw [Bool.and_eq_true, Bool.or_eq_true] at hb
      have h1 := h j o (by simpa using ho) hj e (by simpa using he) hb.1
      rcases hb.2 with h2 | h2
      · have : e.on = i := by simpa using h2
        rwa [this] at h1
      · exact dep_closed h f e.on i h1 h2
    · cases hd
theorem dep_ready {l : List Oper} {listed : Array Bool} (h : Closed l.toArray listed) {f j i : Nat} (hj : j ∈ Region.ready .any l.toArray listed) (hi : listed.getD i true = false) (hne : j ≠ i) : dep l f j i = false := by
  cases hd : dep l f j i with
  | false => rfl
  | true =>
    have hjl : (listed.setIfInBounds j true).getD j false = true := by
      have h0 := (mem_ready.1 hj).1
      rcases Nat.lt_or_ge j listed.size with h' | h'
      · simp [h']
      · simp [Array.getElem?_eq_none h'] at h0
    have h1 := dep_closed (h.set hj) f j i hjl hd
    rw [getD_set_ne false hne] at h1
    rcases Nat.lt_or_ge i listed.size with h' | h'
    · simp [h'] at h1 hi; rw [h1] at hi; cases hi
    · simp [Array.getElem?_eq_none h'] at hi

/-- An operation that may come up now may be taken first. -/
theorem wpAnyY_first {l : List Oper} {f : Nat} {i : Nat} {oi : Oper} {v : Value} {S : World → Prop} (hi : l.toArray[i]? = some oi) (hsel : ∀ (j : Nat) (o : Oper) cs b, l.toArray[j]? = some o → o.op ≠ .select cs b)
    (hQ : ∀ c a w, Q (.panic c) (a.put oi.dst v) w → Q (.panic c) a w) :
    ∀ (fuel : Nat) (Y : List (Nat × (World → Prop))) (listed : Array Bool) (a : Act) (w : World), Closed l.toArray listed →
      (∀ j oj, l.toArray[j]? = some oj → j ≠ i → listed.getD j true = false → (∀ e ∈ oj.after, Region.binds .any e = true → e.on ≠ i) → oi.apart l.toArray oj = true) →
      i ∈ Region.ready .any l.toArray listed → YieldsIf P l.toArray S oi v a → S w → (∀ y ∈ Y, y.2 w) →
      wpAnyY P l.toArray (dep l f) Q fuel ((i, S) :: Y) (listed.setIfInBounds i true) (a.put oi.dst v) w → wpAnyY P l.toArray (dep l f) Q (fuel + 1) Y listed a w := by
  intro fuel
  induction fuel with
  | zero =>
    intro Y listed a w hcl _ hr hy hS hYw H
    refine ⟨fun h => (by rw [h] at hr; cases hr), fun j hj => ?_⟩
    by_cases hji : j = i
    · subst hji; exact hy.wpOp hi hS ⟨fun y hy _ => hYw y hy, H⟩
    · have := ready_mono hj hji
      rw [H.1] at this
      cases this
  | succ fuel ih =>
    intro Y listed a w hcl hfree hr hy hS hYw H
    refine ⟨fun h => (by rw [h] at hr; cases hr), fun j hj => ?_⟩
    by_cases hji : j = i
    · subst hji
      exact hy.wpOp hi hS ⟨fun y hy _ => hYw y hy, wpAnyY_less _ _ _ _ _ _ (fun y hy => List.mem_cons_of_mem _ ((List.mem_filter.1 hy).1)) H⟩
    · have h1 := H.2 j (ready_mono hj hji)
      obtain ⟨hjun, oj, hoj, hall⟩ := mem_ready.1 hj
      have hdep : dep l f j i = false := dep_ready hcl hj (mem_ready.1 hr).1 hji
      have hnot : ∀ e ∈ oj.after, Region.binds .any e = true → e.on ≠ i := fun e he hb heq => by
        have h1 := hall e he hb
        have h0 := (mem_ready.1 hr).1
        rw [heq] at h1
        rcases Nat.lt_or_ge i listed.size with h' | h'
        · simp [h'] at h0 h1; rw [h0] at h1; cases h1
        · simp [Array.getElem?_eq_none h'] at h1
      have h2 := wpOp_putIf hoj (hfree j oj hoj hji hjun hnot) (fun cs b => hsel i oi cs b hi) (fun cs b => hsel j oj cs b hoj) hQ hy h1
      have hfree' : ∀ k ok, l.toArray[k]? = some ok → k ≠ i → (listed.setIfInBounds j true).getD k true = false →
          (∀ e ∈ ok.after, Region.binds .any e = true → e.on ≠ i) → oi.apart l.toArray ok = true := fun k ok hk hki hun hno => by
        refine hfree k ok hk hki ?_ hno
        by_cases hjk : j = k
        · subst hjk; exact hjun
        · rw [getD_set_ne true hjk] at hun; exact hun
      refine wpOp_mono (fun a' w' h3 => ?_) h2
      obtain ⟨h4, h5, h6⟩ := h3
      refine ⟨fun y hy hd => h5 y (List.mem_cons_of_mem _ hy) hd, ?_⟩
      refine ih _ (listed.setIfInBounds j true) a' w' (hcl.set hj) hfree' (ready_mono hr (Ne.symm hji)) h4 (h5 (i, S) (List.mem_cons_self ..) hdep) (fun y hy => ?_) ?_
      · rw [List.mem_filter] at hy
        exact h5 y (List.mem_cons_of_mem _ hy.1) (by simpa using hy.2)
      · rw [Array.setIfInBounds_comm _ _ hji, List.filter_cons_of_pos (by simp [hdep])] at *
        exact h6

theorem sel_some {i : Nat} {o : Oper} (h : ops[i]? = some o) : sel ops i = [o] := by simp [sel, h]
/-- What 'again' says of each. -/
theorem again_spec {T : Act → World → Prop} {a : Act} {w : World} : ∀ {ag : List Nat}, again P ops T ag a w → T a w ∧ ∀ i ∈ ag, ∀ o t, ops[i]? = some o → o.dst = some t → t < a.tmps.size → valueB o = true → Cond P ops o (slotOf a (some t)) a w
  | [], h => ⟨h, fun i hi => by cases hi⟩
  | i :: r, h => by
    have h0 : wpList P ops (Only fun _ a1 w1 => a1 = a ∧ w1 = w ∧ again P ops T r a w) (sel ops i) a w := h _ fun hr => ⟨rfl, rfl, rfl, hr⟩
    have key : again P ops T r a w ∧ ∀ o t, ops[i]? = some o → o.dst = some t → t < a.tmps.size → valueB o = true → Cond P ops o (slotOf a (some t)) a w := by
      cases hi : ops[i]? with
      | none =>
        have : sel ops i = [] := by simp [sel, hi]
        rw [this] at h0
        exact ⟨h0.2.2.2, fun o t ho => by cases ho⟩
      | some o =>
        rw [sel_some hi] at h0
        unfold wpList at h0
        by_cases hw : Region.wanted o (yielded ops a.tmps) = true
        · rw [if_pos hw] at h0
          have h1 := h0.resolve_right fun h => not_letsOut _ h.2
          have h2 := upon_cases (fun a w h => by cases h.1) (fun c a w h => by cases h.1) h1
          simp only [wpList, Only, true_and] at h2
          have h3 : again P ops T r a w := by
            rcases h2 with ⟨_, _, _, h⟩ | ⟨_, _, h⟩ | ⟨_, _, _, h⟩ | ⟨f, args, w', _, h⟩ | ⟨row, args, w', _, h⟩
            · exact h.2.2
            · exact h.2.2
            · exact h.2.2
            · obtain ⟨_, _, _, ⟨_, _, _, _, h⟩, _⟩ := h []
              exact h
            · obtain ⟨_, _, ⟨_, _, h⟩, _⟩ := h default []
              exact h
          refine ⟨h3, fun o' t ho ht hlt hv _ => ?_⟩
          obtain rfl : o = o' := Option.some.inj ho
          have hnv : ∀ {n : Next} {w' : World}, (execOp a.eval o).run P w = .ok n w' → ∃ v, n = .value v := fun h => valueB_spec hv h
          have hval : ∀ v w', (execOp a.eval o).run P w = .ok (.value v) w' → a.put o.dst v = a → w' = w → (execOp a.eval o).run P w = .ok (.value (slotOf a (some t))) w := by
            intro v w' hr hp hw'
            have : slotOf (a.put (some t) v) (some t) = v := slot_put v hlt
            rw [ht] at hp
            rw [hp] at this
            rw [hr, this, hw']
          rcases h2 with ⟨v, w', hr, h⟩ | ⟨_, hr, h⟩ | ⟨_, _, hr, h⟩ | ⟨f, args, w', hr, h⟩ | ⟨row, args, w', hr, h⟩
          · exact hval v w' hr h.1 h.2.1
          · obtain ⟨v, hv⟩ := hnv hr; cases hv
          · obtain ⟨v, hv⟩ := hnv hr; cases hv
          · obtain ⟨v, hv⟩ := hnv hr; cases hv
          · obtain ⟨v, hv⟩ := hnv hr; cases hv
        · rw [if_neg hw] at h0
          exact ⟨h0.2.2.2, fun o' t ho _ _ _ hw' => by obtain rfl : o = o' := Option.some.inj ho; exact absurd hw' hw⟩
    obtain ⟨h1, h2⟩ := again_spec key.1
    refine ⟨h1, fun k hk => ?_⟩
    cases hk with
    | head => exact key.2
    | tail _ hk => exact h2 k hk

theorem wpAnyY_done {dp : Nat → Nat → Bool} {listed : Array Bool} {Y : List (Nat × (World → Prop))} {a : Act} {w : World} (hr : Region.ready .any ops listed = []) (h : Q .normal a w) : ∀ fuel, wpAnyY P ops dp Q fuel Y listed a w
  | 0 => ⟨hr, h⟩
  | _ + 1 => ⟨fun _ => h, by rw [hr]; simp⟩
/-- The rule, by induction on the plan. -/
theorem wpAnyY_of_walk {l : List Oper} (hsel : ∀ (j : Nat) (o : Oper) cs b, l.toArray[j]? = some o → o.op ≠ .select cs b) :
    ∀ (p : Plan) (top : Bool) (fuel : Nat) (Y : List (Nat × (World → Prop))) (listed : Array Bool) (a : Act) (w : World), okB l top p fuel listed (Y.map (·.1)) = true → Closed l.toArray listed → (∀ y ∈ Y, y.2 w) → (∀ y ∈ Y, Taken P l.toArray a y) →
      (∀ (i : Nat) (o : Oper) (t : Tmp), l[i]? = some o → o.dst = some t → t < a.tmps.size) → walk P l.toArray Q p a w →
      (top = true → wpAnyY P l.toArray (dep l l.length) (Only Q) fuel Y listed a w) ∧
      ∀ j ∈ heads p, j ∈ Region.ready .any l.toArray listed → ∃ n, fuel = n + 1 ∧ wpOp P l.toArray (Only Q) j (fun a' w' => (∀ y ∈ Y, dep l l.length j y.1 = false → y.2 w') ∧
        wpAnyY P l.toArray (dep l l.length) (Only Q) n (Y.filter fun y => !dep l l.length j y.1) (listed.setIfInBounds j true) a' w') a w := by
  intro p
  induction p with
  | fin =>
    intro top fuel Y listed a w hok hcl hYw hT hsz hw
    refine ⟨fun _ => wpAnyY_done (by simpa [okB] using hok) ⟨rfl, hw⟩ fuel, fun j hj => by simp [heads] at hj⟩
  | take i p ih =>
    intro top fuel Y listed a w hok hcl hYw hT hsz hw
    refine ⟨fun _ => ?_, fun j hj => by simp [heads] at hj⟩
    cases fuel with
    | zero => simp [okB] at hok
    | succ n =>
      simp only [okB, Bool.and_eq_true] at hok
      obtain ⟨⟨⟨⟨hr, hf⟩, hv⟩, hY⟩, hok⟩ := hok
      cases hi : l[i]? with
      | none => rw [hi] at hv; cases hv
      | some oi =>
        have hia : l.toArray[i]? = some oi := by simpa using hi
        rw [hi] at hv
        simp only [Bool.and_eq_true] at hv
        obtain ⟨hv, hd⟩ := hv
        cases ht : oi.dst with
        | none => rw [ht] at hd; cases hd
        | some t =>
          rw [ht] at hd
          have hself : ∀ d, oi.dst = some d → d ∉ oi.looksAt l.toArray := by
            intro d hd'
            rw [ht] at hd'
            obtain rfl := Option.some.inj hd'
            simpa using hd
          have hlt := hsz i oi t hi ht
          have h0 : wpList P l.toArray (Only fun _ a1 w1 => w1 = w ∧ walk P l.toArray Q p a1 w) (sel l.toArray i) a w := hw _ fun a' h => ⟨rfl, rfl, h⟩
          rw [sel_some hia] at h0
          have hready : i ∈ Region.ready .any l.toArray listed := by simpa using hr
          -- its value
          obtain ⟨v, hy, hwk⟩ : ∃ v, YieldsIf P l.toArray (Cond P l.toArray oi v a) oi v a ∧ Cond P l.toArray oi v a w ∧ walk P l.toArray Q p (a.put oi.dst v) w := by
            unfold wpList at h0
            by_cases hw : Region.wanted oi (yielded l.toArray a.tmps) = true
            · rw [if_pos hw] at h0
              have h1 := h0.resolve_right fun h => not_letsOut _ h.2
              have h2 := upon_cases (fun a w h => by cases h.1) (fun c a w h => by cases h.1) h1
              simp only [wpList, Only, true_and] at h2
              rcases h2 with ⟨v, w', hr, h⟩ | ⟨_, hr, h⟩ | ⟨_, _, hr, h⟩ | ⟨f, args, w', hr, h⟩ | ⟨row, args, w', hr, h⟩
              · exact ⟨v, .inl ⟨hw, fun w' h => h hw⟩, fun _ => by rw [hr, h.1], h.2⟩
              · obtain ⟨v, hv⟩ := valueB_spec hv hr; cases hv
              · obtain ⟨v, hv⟩ := valueB_spec hv hr; cases hv
              · obtain ⟨v, hv⟩ := valueB_spec hv hr; cases hv
              · obtain ⟨v, hv⟩ := valueB_spec hv hr; cases hv
            · rw [if_neg hw] at h0
              exact ⟨undef, .inr ⟨by simpa using hw, rfl⟩, fun h => absurd h hw, h0.2.2⟩
          refine wpAnyY_first hia hsel (fun c a w h => by cases h.1) n Y listed a w hcl (Region.free_spec hia hf) hready hy hwk.1 hYw ?_
          refine (ih true n ((i, Cond P l.toArray oi v a) :: Y) _ _ w (by simpa using hok) (hcl.set hready) (fun y hy => ?_) (fun y hy => ?_) (fun i' o t h1 h2 => by rw [put_size]; exact hsz i' o t h1 h2) hwk.2).1 rfl
          · cases hy with
            | head => exact hwk.1
            | tail _ hy => exact hYw y hy
          · cases hy with
            | head =>
              refine ⟨oi, t, hia, ht, by rw [put_size]; exact hlt, hv, fun w' hc => ?_⟩
              rw [ht, slot_put v hlt, ← ht] at hc
              exact Cond.put (ds := a.defers) (hsel _ _ · · hia) hself hc
            | tail _ hy =>
              have hap := List.all_eq_true.1 hY y.1 (List.mem_map.2 ⟨y, hy, rfl⟩)
              exact Taken.put (hT y hy) hsel hi hap a.defers v
  | run e ag p ih =>
    intro top fuel Y listed a w hok hcl hYw hT hsz hw
    cases fuel with
    | zero => simp [okB] at hok
    | succ n =>
      simp only [okB, Bool.and_eq_true] at hok
      obtain ⟨⟨⟨⟨htop, hsome⟩, hre⟩, hY⟩, hok⟩ := hok
      have hB : ∀ j ∈ heads (.run e ag p), j ∈ Region.ready .any l.toArray listed → ∃ n', n + 1 = n' + 1 ∧ wpOp P l.toArray (Only Q) j (fun a' w' => (∀ y ∈ Y, dep l l.length j y.1 = false → y.2 w') ∧
          wpAnyY P l.toArray (dep l l.length) (Only Q) n' (Y.filter fun y => !dep l l.length j y.1) (listed.setIfInBounds j true) a' w') a w := by
        intro j hj hjr
        obtain rfl : j = e := by simpa [heads] using hj
        refine ⟨n, rfl, ?_⟩
        cases hi : l[j]? with
        | none => rw [hi] at hsome; cases hsome
        | some oj =>
          have hja : l.toArray[j]? = some oj := by simpa using hi
          have h0 : wpList P l.toArray (Only fun _ a1 w1 => again P l.toArray (walk P l.toArray Q p) ag a1 w1) (sel l.toArray j) a w := hw _ fun a' w' h => ⟨rfl, h⟩
          rw [sel_some hja] at h0
          refine wpOp_of_list hja (fun ds v w' h => ?_) h0
          obtain ⟨hwalk, hag⟩ := again_spec h
          have hT' : ∀ y ∈ Y, Taken P l.toArray ({ a with defers := ds }.put oj.dst v) y := fun y hy => by
            have hap := List.all_eq_true.1 hY y.1 (List.mem_map.2 ⟨y, hy, rfl⟩)
            rw [Bool.and_eq_true] at hap
            exact Taken.put (hT y hy) hsel hi hap.1 ds v
          have hobl : ∀ y ∈ Y, dep l l.length j y.1 = false → y.2 w' := fun y hy hd => by
            have hap := List.all_eq_true.1 hY y.1 (List.mem_map.2 ⟨y, hy, rfl⟩)
            rw [Bool.and_eq_true, hd, Bool.false_or] at hap
            obtain ⟨o, t, ho, ht, hlt, hv, hS⟩ := hT' y hy
            exact hS w' (hag y.1 (by simpa using hap.2) o t ho ht hlt hv)
          refine ⟨hobl, (ih true n _ _ _ w' ?_ (hcl.set hjr) (fun y hy => ?_) (fun y hy => hT' y (List.mem_filter.1 hy).1) (fun i' o t h1 h2 => by rw [put_size]; exact hsz i' o t h1 h2) hwalk).1 rfl⟩
          · rw [List.filter_map] at hok
            exact hok
          · rw [List.mem_filter] at hy
            exact hobl y hy.1 (by simpa using hy.2)
      refine ⟨fun ht => ⟨fun h0 => ?_, fun j hj => ?_⟩, hB⟩
      · rw [h0] at hre; cases hre
      · rw [ht] at htop
        have : e = j := by
          have h2 : ((Region.ready .any l.toArray listed).all fun j => e == j) = true := by simpa using htop
          have h1 := List.all_eq_true.1 h2 j hj
          simpa using h1
        subst this
        obtain ⟨n', hn, h⟩ := hB e (by simp [heads]) hj
        obtain rfl : n = n' := by omega
        exact h
  | fork p q ihp ihq =>
    intro top fuel Y listed a w hok hcl hYw hT hsz hw
    simp only [okB, Bool.and_eq_true] at hok
    obtain ⟨⟨⟨hany, htop⟩, hp⟩, hq⟩ := hok
    have h1 := (ihp false fuel Y listed a w hp hcl hYw hT hsz hw.1).2
    have h2 := (ihq false fuel Y listed a w hq hcl hYw hT hsz hw.2).2
    have hB : ∀ j ∈ heads (.fork p q), j ∈ Region.ready .any l.toArray listed → ∃ n, fuel = n + 1 ∧ wpOp P l.toArray (Only Q) j (fun a' w' => (∀ y ∈ Y, dep l l.length j y.1 = false → y.2 w') ∧
        wpAnyY P l.toArray (dep l l.length) (Only Q) n (Y.filter fun y => !dep l l.length j y.1) (listed.setIfInBounds j true) a' w') a w := by
      intro j hj hjr
      rcases List.mem_append.1 hj with h | h
      · exact h1 j h hjr
      · exact h2 j h hjr
    refine ⟨fun ht => ?_, hB⟩
    obtain ⟨j, hj, hjr⟩ := List.any_eq_true.1 hany
    have hjr' : j ∈ Region.ready .any l.toArray listed := by simpa using hjr
    obtain ⟨n, rfl, _⟩ := h1 j hj hjr'
    rw [ht] at htop
    have h3 : ((Region.ready .any l.toArray listed).all fun j => (heads p ++ heads q).contains j) = true := by simpa using htop
    refine ⟨fun h0 => (by rw [h0] at hjr'; cases hjr'), fun k hk => ?_⟩
    obtain ⟨n', hn, h⟩ := hB k (by have := List.all_eq_true.1 h3 k hk; simpa [heads] using this) hk
    obtain rfl : n = n' := by omega
    exact h

theorem wpOp_only {i : Nat} {a : Act} {w : World} {K : Act → World → Prop} (h : wpOp P ops (Only Q) i K a w) : wpOp P ops Q i K a w := by
  unfold wpOp at *
  split
  · rename_i ho; simp only [ho] at h; exact h
  · rename_i o ho
    simp only [ho] at h
    split
    · rename_i hw
      simp only [hw, if_true] at h
      have h1 := h.resolve_right fun h => not_letsOut _ h.2
      exact .inl (upon_back (fun _ _ _ h => h) (upon_cases (fun a w h => by cases h.1) (fun c a w h => by cases h.1) h1))
    · rename_i hw
      simp only [hw] at h
      exact h
theorem wpAny_only : ∀ (fuel : Nat) (listed : Array Bool) (a : Act) (w : World), wpAny P .any ops (Only Q) fuel listed a w → wpAny P .any ops Q fuel listed a w
  | 0, _, _, _, h => ⟨h.1, h.2.2⟩
  | fuel + 1, _, _, _, h => ⟨fun h0 => (h.1 h0).2, fun i hi => wpOp_mono (fun a' w' h' => wpAny_only fuel _ a' w' h') (wpOp_only (h.2 i hi))⟩

/-- All slots that the operations write are there. -/
def sizesB (l : List Oper) (n : Nat) : Bool := l.all fun o => match o.dst with | some t => Nat.blt t n | none => true
/-- **The rule.** -/
theorem wp_region_plan {id : Nat} {l : List Oper} {a : Act} {w : World} (p : Plan) (hm : P.follows .mixedOrders = true) (hs : Region.noSelect l.toArray = true) (hz : sizesB l a.tmps.size = true)
    (hok : okB l true p l.length (Array.replicate l.length false) [] = true) (h : walk P l.toArray Q p a w.drew) : (Code.region id l.toArray true).wp P Q a w := by
  refine wp_region_any hm (wpAny_only _ _ _ _ (wpAny_of_Y (dp := dep l l.length) _ [] _ _ _ ?_))
  have hsz : ∀ (i : Nat) (o : Oper) (t : Tmp), l[i]? = some o → o.dst = some t → t < a.tmps.size := by
    intro i o t hi ht
    have := List.all_eq_true.1 hz o (List.mem_of_getElem? hi)
    rw [ht] at this
    simpa using this
  have := (wpAnyY_of_walk (P := P) (Q := Q) (l := l) (Region.noSelect_spec hs) p true l.length [] (Array.replicate l.length false) a w.drew (by simpa using hok) (fun j o _ hj => by
      simp [Array.getD_eq_getD_getElem?, Array.getElem?_replicate] at hj
      split at hj <;> simp at hj) (fun y hy => by cases hy) (fun y hy => by cases hy) hsz h).1 rfl
  simpa using this
end
end Go.Proofs.Ythbanhedjfpmaaa
end

section
/-
  More on rows and blocks: what is never the same block; a row that is stored one cell at a time.
-/
namespace Go.Proofs.Ythbanhedjfpmaaa
set_option linter.unusedSimpArgs false
set_option linter.unusedVariables false
open Go.RowKit

theorem EOwn.ne_blk {α : Type} {E : Elem α} {w : World} {B c g : Nat} {A : Option Addr} {L : List α} {T : TypeId} {cs : List Value} (h : EOwn E w B A c L) (hb : Blk w g T cs) (hT : T ≠ E.e) : ∀ a, A = some a → a.block ≠ g := by
  rintro a ha rfl
  rcases h.form with ⟨rfl, _⟩ | ⟨g', rfl, _, _, _, _, cur, hg⟩
  · cases ha
  · obtain rfl := Option.some.inj ha
    rw [hb] at hg
    simp at hg
    exact hT hg.2
theorem map_block_ne {A : Option Addr} {g : Nat} (h : ∀ a, A = some a → a.block ≠ g) : some g ≠ A.map (·.block) := by
  cases A with
  | none => simp
  | some a => simpa using fun e => h a rfl e.symm
/-- A call that returns a new row. -/
def RetRow {α : Type} (E : Elem α) (w : World) (L : List α) (e : Ending) (w' : World) : Prop := ∃ A c, e = .returned (.slice A L.length c) ∧ EOwn E w' w.heap.size A c L ∧ Below w.heap.size w w'
theorem Below.alloc1 (w : World) (o : Obj) : Below w.heap.size w (w.alloc o) := (Below.refl _ _).alloc (Nat.le_refl _) o
theorem _root_.Go.RowKit.Below.drewR {B : Nat} {w W : World} (h : Below B w W) : Below B w W.drew := ⟨h.os, h.tape, h.output, h.size, h.block⟩
theorem _root_.Go.RowKit.Below.then {w w1 w2 : World} (h : Below w.heap.size w w1) (k : Below w1.heap.size w1 w2) : Below w.heap.size w w2 := h.trans (k.mono h.size)
/-- A result of five cells that was stored in memory. -/
theorem ret_set5 {P : Program} {fn : Func} {R : Ending → World → Prop} {a : Act} {w : World} {p : Tmp} {T : TypeId} {g : Nat} {old : List Value} {u v x y z : Value} (hb : Blk w g T old) (hl : old.length = 5) (h : fn.results = #[.cell p T]) (hd : a.defers = [])
    (hp : a.tmps.getD p undef = .pointer (some ⟨g, 0, none⟩)) (hload : ∀ W : World, Blk W g T [u, v, x, y, z] → (loadVar T ⟨g, 0, none⟩).run P W = .ok (.agg #[u, v, x, y, z]) W)
    (hR : ∀ W, Blk W g T [u, v, x, y, z] → w.grownBy W (some g) → R (.returned (.agg #[u, v, x, y, z])) W) :
    bodyPost P fn R .ret a (((((w.setCell ⟨g, 0, none⟩ u).setCell ⟨g, 1, none⟩ v).setCell ⟨g, 2, none⟩ x).setCell ⟨g, 3, none⟩ y).setCell ⟨g, 4, none⟩ z) := by
  have hW : Blk (((((w.setCell ⟨g, 0, none⟩ u).setCell ⟨g, 1, none⟩ v).setCell ⟨g, 2, none⟩ x).setCell ⟨g, 3, none⟩ y).setCell ⟨g, 4, none⟩ z) g T [u, v, x, y, z] := hb.setAll [u, v, x, y, z] (by rw [hl]; rfl)
  have hg : w.grownBy (((((w.setCell ⟨g, 0, none⟩ u).setCell ⟨g, 1, none⟩ v).setCell ⟨g, 2, none⟩ x).setCell ⟨g, 3, none⟩ y).setCell ⟨g, 4, none⟩ z) (some g) := grown_setCells w g 0 [u, v, x, y, z]
  exact ret_mem1 h hd hp (hload _ hW) (hR _ hW hg)
theorem ret_set5n {P : Program} {fn : Func} {R : Ending → World → Prop} {a : Act} {w : World} {p q : Tmp} {T : TypeId} {g : Nat} {old : List Value} {u v x y z r : Value} (hb : Blk w g T old) (hl : old.length = 5) (h : fn.results = #[.cell p T, .tmp q]) (hd : a.defers = [])
    (hp : a.tmps.getD p undef = .pointer (some ⟨g, 0, none⟩)) (hq : a.tmps.getD q undef = r) (hload : ∀ W : World, Blk W g T [u, v, x, y, z] → (loadVar T ⟨g, 0, none⟩).run P W = .ok (.agg #[u, v, x, y, z]) W)
    (hR : ∀ W, Blk W g T [u, v, x, y, z] → w.grownBy W (some g) → R (.returned (.tuple #[.agg #[u, v, x, y, z], r])) W) :
    bodyPost P fn R .ret a (((((w.setCell ⟨g, 0, none⟩ u).setCell ⟨g, 1, none⟩ v).setCell ⟨g, 2, none⟩ x).setCell ⟨g, 3, none⟩ y).setCell ⟨g, 4, none⟩ z) := by
  have hW : Blk (((((w.setCell ⟨g, 0, none⟩ u).setCell ⟨g, 1, none⟩ v).setCell ⟨g, 2, none⟩ x).setCell ⟨g, 3, none⟩ y).setCell ⟨g, 4, none⟩ z) g T [u, v, x, y, z] := hb.setAll [u, v, x, y, z] (by rw [hl]; rfl)
  have hg : w.grownBy (((((w.setCell ⟨g, 0, none⟩ u).setCell ⟨g, 1, none⟩ v).setCell ⟨g, 2, none⟩ x).setCell ⟨g, 3, none⟩ y).setCell ⟨g, 4, none⟩ z) (some g) := grown_setCells w g 0 [u, v, x, y, z]
  exact ret_mem2 h hd hp hq (hload _ hW) (hR _ hW hg)
theorem below_of_grown {B : Nat} {w0 w w' : World} {g : Nat} (h : Below B w0 w) (hg : w.grownBy w' (some g)) (hB : B ≤ g) (hs : B ≤ w.heap.size) : Below B w0 w' :=
  h.grown hg hs fun k hk => by obtain rfl := Option.some.inj hk; exact hB
theorem EOwn.keptG {α : Type} {E : Elem α} {w w' : World} {B c g : Nat} {A : Option Addr} {L : List α} {T : TypeId} {cs : List Value} (h : EOwn E w B A c L) (hb : Blk w g T cs) (hT : T ≠ E.e) (hg : w.grownBy w' (some g)) : EOwn E w' B A c L :=
  h.kept hg (.inr (fun e => map_block_ne (h.ne_blk hb hT) e.symm))
/-- A row that was there before block g. -/
theorem ERow.keptG {α : Type} {E : Elem α} {w0 w w' : World} {A : Option Addr} {L : List α} {g : Nat} (h : ERow E w0 A L) (hb : Below w0.heap.size w0 w) (hg : w.grownBy w' (some g)) (hlt : w0.heap.size ≤ g) : ERow E w' A L :=
  h.below (below_of_grown hb hg hlt hb.size)
/-! Texts that are cut and joined -/
theorem cut_head (l : List UInt8) (n : Nat) : (ByteArray.mk l.toArray).extract 0 n = ⟨(l.take n).toArray⟩ := by
  apply ByteArray.ext
  simp
theorem cut_end (l : List UInt8) (k : Nat) : (ByteArray.mk l.toArray).extract k l.length = ⟨(l.drop k).toArray⟩ := by
  apply ByteArray.ext
  simp
  exact List.take_of_length_le (by simp)
theorem cut_join (l m : List UInt8) : ByteArray.mk l.toArray ++ ByteArray.mk m.toArray = ⟨(l ++ m).toArray⟩ := by
  apply ByteArray.ext
  simp
/-- A row and a block of other values are apart. -/
theorem ERow.keptV {α : Type} {E : Elem α} {w w' : World} {A : Option Addr} {L : List α} {g : Nat} {T : TypeId} {cs : List Value} (h : ERow E w A L) (hb : Blk w g T cs) (k : Nat) (hv : ∀ x, ∃ v, (E.code x)[k]? = some v ∧ v ∉ cs) (hg : w.grownBy w' (some g)) : ERow E w' A L := by
  cases L with
  | nil => exact ERow.nil
  | cons y L =>
    refine h.keep hg.size fun a ha hlt => hg.block _ hlt ?_
    simp only [ne_eq, Option.some.injEq]
    intro e
    obtain ⟨b, o, e2, _, hc⟩ := h.at_ (j := 0) (by simp)
    rw [ha] at e2
    obtain rfl := Option.some.inj e2
    simp only at e
    subst e
    obtain ⟨v, hv1, hv2⟩ := hv y
    have h1 := hc k v hv1
    rw [hb.cell] at h1
    exact hv2 (List.mem_of_getElem? h1)
/-- A row that does not lie in a block of S. -/
def RowX {α : Type} (S : Nat → Prop) (E : Elem α) (w : World) (A : Option Addr) (L : List α) : Prop := ERow E w A L ∧ (L ≠ [] → ∀ a, A = some a → ¬ S a.block)
section
variable {α : Type} {S : Nat → Prop} {E : Elem α} {w w' w0 : World} {A : Option Addr} {L : List α} {g : Nat}
theorem RowX.nil : RowX S E w A ([] : List α) := ⟨ERow.nil, fun h => absurd rfl h⟩
theorem RowX.below (h : RowX S E w A L) (hb : Below w.heap.size w w') : RowX S E w' A L := ⟨h.1.below hb, h.2⟩
theorem RowX.own {B c : Nat} (h : EOwn E w B A c L) (hS : ∀ i, S i → i < B) : RowX S E w A L := ⟨h.row, fun _ a ha hs => by have := (h.block a ha).1; have := hS _ hs; omega⟩
theorem RowX.keptG (h : RowX S E w0 A L) (hb : Below w0.heap.size w0 w) (hg : w.grownBy w' (some g)) (hlt : w0.heap.size ≤ g) : RowX S E w' A L := ⟨h.1.keptG hb hg hlt, h.2⟩
theorem RowX.keptV {T : TypeId} {cs : List Value} (h : RowX S E w A L) (hb : Blk w g T cs) (k : Nat) (hv : ∀ x, ∃ v, (E.code x)[k]? = some v ∧ v ∉ cs) (hg : w.grownBy w' (some g)) : RowX S E w' A L := ⟨h.1.keptV hb k hv hg, h.2⟩
theorem RowX.kept (h : RowX S E w A L) (hk : Keeps w w' S) : RowX S E w' A L := ⟨h.1.kept hk h.2, h.2⟩
/-- A cell is stored that held no part of such an element. -/
theorem ERow.setCellV (h : ERow E w A L) {p : Addr} {v u : Value} (hc : w.cell? p = some v) (hv : ∀ x, v ∉ E.code x) : ERow E (w.setCell p u) A L := fun hl => by
  obtain ⟨b, o, e, hb, hcell⟩ := h hl
  refine ⟨b, o, e, by simpa using hb, fun j x hx => ?_⟩
  have h1 := hcell j x hx
  rw [World.cell?_setCell_other w p ⟨b, o + j, none⟩ u ?_]
  · exact h1
  · intro e2
    rw [← e2] at h1
    rw [hc] at h1
    obtain rfl := Option.some.inj h1
    have := List.mem_of_getElem? hx
    obtain ⟨y, -, hy⟩ := List.mem_flatMap.1 this
    exact hv y hy
theorem RowX.setCellV (h : RowX S E w A L) {p : Addr} {v u : Value} (hc : w.cell? p = some v) (hv : ∀ x, v ∉ E.code x) : RowX S E (w.setCell p u) A L := ⟨h.1.setCellV hc hv, h.2⟩
end
end Go.Proofs.Ythbanhedjfpmaaa
end

section
/-
  The contracts of the journal's small functions: numbers of eight bytes, heads' halves, what a head says, a record's frame.
-/
namespace Go.Proofs.Ythbanhedjfpmaaa
set_option linter.unusedSimpArgs false
set_option linter.unusedVariables false
open Go.RowKit

theorem hi_step (n k : Nat) (h : k < 8) : (List.replicate (8 - k) (0 : UInt8) ++ Wal.hiR k n).set (7 - k) (UInt8.ofNat (n / 256 ^ k)) = List.replicate (8 - (k + 1)) 0 ++ Wal.hiR (k + 1) n := by
  rw [Wal.hiR_cons, List.set_append_left _ _ (by simp; omega), show 8 - k = (7 - k) + 1 from by omega, List.replicate_succ', List.set_append_right _ _ (by simp)]
  simp [show 8 - (k + 1) = 7 - k from by omega]
set_option maxHeartbeats 1000000 in
theorem high_any (w : World) (n : Nat) (hn : n < two64) : Calls Try.prog 85 #[.int .u64 (n : Int)] w (RetB w (Wal.hi8 n)) := by
  have HN := Lib.hid hn
  clear hn
  go_enter Try.func85, Try.ntmps85
  go_wp2_with (at_make; refine wpList_make_zeros rfl (.const (.int .i64 8)) (.const (.int .i64 8)) rfl _ _ _ _ 8 rfl rfl rfl rfl (by decide) (Nat.le_refl _) ?_; intro w1 ho hb)
  have HI : Hid (BOwn w1 w.heap.size (some ⟨w.heap.size, 0, none⟩) 8 (List.replicate (8 - 0) 0 ++ Wal.hiR 0 n) ∧ Below w.heap.size w w1) := ⟨by simpa [Wal.hiR] using ho, hb⟩
  clear ho hb
  go_loopw [0, 6] (fun nv iv wr => ∃ k m : Nat, k ≤ 8 ∧ iv = .int .i64 k ∧ nv = .int .u64 (m : Int) ∧ Hid (m = n / 256 ^ k) ∧ Hid (BOwn wr w.heap.size (some ⟨w.heap.size, 0, none⟩) 8 (List.replicate (8 - k) 0 ++ Wal.hiR k n) ∧ Below w.heap.size w wr)) (fun _ iv _ => 8 - (intOf iv).toNat)
  case atStart => exact ⟨0, n, by omega, rfl, rfl, by show _ = _; simp, HI.out⟩
  case round =>
    obtain ⟨k, m, hk, rfl, rfl, HM, HJ⟩ := hrel
    clear HI
    by_cases hlt : k < 8
    · have hii : (k : Int) < 8 := by omega
      have h7 : (7 - (k : Int)).toNat = 7 - k := by omega
      have h70 : (0 : Int) ≤ 7 - (k : Int) := by omega
      have h78 : 7 - (k : Int) < 8 := by omega
      have hl : (List.replicate (8 - k) (0 : UInt8) ++ Wal.hiR k n).length = 8 := by simp [Wal.hiR_length]; omega
      obtain ⟨v0, hce⟩ : ∃ v, wr.cell? ⟨w.heap.size, 7 - k, none⟩ = some v := ⟨_, HJ.out.1.cell (j := 7 - k) (by rw [hl]; omega)⟩
      have hfr := HJ.out.1.free (7 - k)
      clear hl
      go_wp2_with fail
      go_roundw
      case rel =>
        refine ⟨k + 1, m / 256, by omega, by go_num, by go_num, ?_, ?_, HJ.out.2.setCell (p := ⟨w.heap.size, 7 - k, none⟩) (Nat.le_refl _) _⟩
        · show _ = _; rw [HM.out, Nat.pow_succ, Nat.div_div_eq_div_mul]
        · rw [← hi_step n k hlt, ← HM.out]
          exact HJ.out.1.store (7 - k) (UInt8.ofNat m) _ (by simp [bv])
      case measure => simp [intOf]; omega
    · obtain rfl : k = 8 := by omega
      go_wp2_with fail
      go_ret
      exact ⟨_, 8, by rw [Wal.hi8_length]; rfl, by simpa [Wal.hi8] using HJ.out.1, HJ.out.2⟩

/-- n<<8 | c. -/
theorem shl_or (m c : Nat) (hm : m < 256 ^ 7) (hc : c < 256) : Go.bits .or .u64 (IntKind.u64.wrap ((m : Int) * 256)) (c : Int) = ((m * 256 + c : Nat) : Int) := by
  have e : IntKind.u64.wrap ((m : Int) * 256) = ((m * 256 : Nat) : Int) := by
    rw [show (m : Int) * 256 = ((m * 256 : Nat) : Int) from by simp]
    exact IntWalk.u64_in _ (by have : (256 : Nat) ^ 7 = 72057594037927936 := by decide
                               omega)
  have h7 : (256 : Nat) ^ 7 = 72057594037927936 := by decide
  have key := Nat.two_pow_add_eq_or_of_lt (show c < 2 ^ 8 by omega) m
  rw [e, u64_or_nat _ _ (by omega) (by omega), Nat.mul_comm m 256, ← key]
theorem lo_take (l : List UInt8) (k : Nat) (hk : k < l.length) : Wal.lo (l.take (k + 1)) = Wal.lo (l.take k) * 256 + l[k].toNat := by
  rw [List.take_succ_eq_append_getElem hk, Wal.lo_snoc]
set_option maxHeartbeats 1000000 in
theorem low_any (w : World) (A : Option Addr) (c : Nat) (l : List UInt8) (hr : BRow w A l) (hl : l.length = 8) : Calls Try.prog 74 #[.slice A 8 c] w fun e w' => e = .returned (.int .u64 (Wal.lo l : Nat)) ∧ w = w' := by
  have HL := Lib.hid hl
  clear hl
  go_enter Try.func74, Try.ntmps74
  go_wp2_with fail
  go_loop [3, 8] (fun nv iv => ∃ k m : Nat, k ≤ 8 ∧ iv = .int .i64 k ∧ nv = .int .u64 (m : Int) ∧ Hid (m = Wal.lo (l.take k))) (fun _ iv => 8 - (intOf iv).toNat)
  case atStart => exact ⟨0, 0, by omega, rfl, rfl, rfl⟩
  case round =>
    obtain ⟨k, m, hk, rfl, rfl, HM⟩ := hrel
    by_cases hlt : k < 8
    · have hii : (k : Int) < 8 := by omega
      have hkl : k < l.length := by rw [HL.out]; exact hlt
      obtain ⟨b, o, rfl, hb, hc⟩ := hr.at_ hkl
      have hm : m < 256 ^ 7 := by
        have h1 := Wal.lo_lt (l.take k)
        rw [← HM.out, List.length_take] at h1
        exact Nat.lt_of_lt_of_le h1 (Nat.pow_le_pow_right (by omega) (by omega))
      have HS := Lib.hid (lo_take l k hkl)
      have hx := l[k].toNat_lt
      generalize l[k].toNat = x at hc HS hx
      have HO := Lib.hid (shl_or m x hm (by omega))
      clear hr hm hkl
      go_wp2_with fail
      go_round
      case rel => exact ⟨k + 1, m * 256 + x, by omega, by go_num, by rw [HO.out], by show _ = _; rw [HS.out, HM.out]⟩
      case measure => simp [intOf]; omega
    · obtain rfl : k = 8 := by omega
      have hlt2 : l.take 8 = l := List.take_of_length_le (by rw [HL.out]; exact Nat.le_refl _)
      rw [hlt2] at HM
      clear hlt2
      go_wp2_with fail
      go_ret
      exact ⟨by rw [HM.out]; rfl, rfl⟩

set_option maxRecDepth 20000 in
set_option maxHeartbeats 1000000 in
theorem half_any (w : World) (a b : Nat) (ha : a < two64) (hb : b < two64) : Calls Try.prog 75 #[.int .u64 (a : Int), .int .u64 (b : Int)] w (RetB w (Wal.half a b)) := by
  have HA := Lib.hid ha
  have HB := Lib.hid hb
  clear ha hb
  have kc := run_const_bytes
  go_enter Try.func75, Try.ntmps75
  go_wp2_with fail
  clear kc
  have HM : Hid (BRow (w.alloc (.cells #[.int .u8 100, .int .u8 111, .int .u8 119, .int .u8 115, .int .u8 101, .int .u8 114, .int .u8 32, .int .u8 108] 5 (8, 9))) (some ⟨w.heap.size, 0, none⟩) Wal.magic ∧
      Below w.heap.size w (w.alloc (.cells #[.int .u8 100, .int .u8 111, .int .u8 119, .int .u8 115, .int .u8 101, .int .u8 114, .int .u8 32, .int .u8 108] 5 (8, 9)))) :=
    ⟨Row.newMark w (Wal.magic.map bv) _ _, Below.alloc1 _ _⟩
  generalize (World.alloc w _) = w1 at HM ⊢
  refine (high_any _ a HA.out).mono ?_
  rintro e w2 ⟨A2, c2, rfl, ho2, hb2⟩
  have H2 := Lib.hid (And.intro (HM.out.1.below hb2) (And.intro (HM.out.2.trans (hb2.mono HM.out.2.size)) ho2.row))
  clear ho2 hb2 HM
  go_wp2_with fail
  refine (high_any _ b HB.out).mono ?_
  rintro e w3 ⟨A3, c3, rfl, ho3, hb3⟩
  have H3 := Lib.hid (And.intro (H2.out.1.below hb3) (And.intro (H2.out.2.2.below hb3) (And.intro ho3.row (H2.out.2.1.trans (hb3.mono H2.out.2.1.size)))))
  clear ho3 hb3 H2
  go_wp2_with fail
  refine (bconcat3 _ _ _ ⟨some ⟨w.heap.size, 0, none⟩, 8, Wal.magic⟩ ⟨A2, c2, Wal.hi8 a⟩ ⟨A3, c3, Wal.hi8 b⟩ (Row.new _ _ _) ⟨H3.out.1.alloc _, ?_⟩ ⟨H3.out.2.1.alloc _, ?_⟩ ⟨H3.out.2.2.1.alloc _, ?_⟩ ?_).mono ?_
  · show Wal.magic.length ≤ _; decide
  · simp [Wal.hi8_length]
  · simp [Wal.hi8_length]
  · simp [Wal.hi8_length, Wal.magic]
  rintro e w4 ⟨A4, c4, rfl, ho4, hb4⟩
  go_wp2_with fail
  go_ret
  have e : Wal.half a b = Wal.magic ++ (Wal.hi8 a ++ Wal.hi8 b) := by unfold Wal.half; rw [List.append_assoc]
  rw [e]
  have hz := H3.out.2.2.2.size
  exact ⟨A4, c4, rfl, ho4.mono (by simp; omega), (H3.out.2.2.2.alloc hz _).trans (hb4.mono (by simp; omega))⟩
end Go.Proofs.Ythbanhedjfpmaaa
end

