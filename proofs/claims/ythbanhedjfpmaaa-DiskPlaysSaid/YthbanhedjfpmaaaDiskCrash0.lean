/-
  Plain: what a loss of power leaves.
-/
import Derived.Test.YthbanhedjfpmaaaDiskClones
import Derived.Laws.BitsAllLaws
namespace Go.Proofs.Ythbanhedjfpmaaa
set_option linter.unusedSimpArgs false
set_option linter.unusedVariables false
open Go.RowKit

/-- So many bytes of a torn write. -/
def tornN (t : Int) : Nat := (max 0 (min t 512)).toNat
theorem tornN_le (t : Int) : tornN t ≤ 512 := by unfold tornN; omega
/-- One block's bytes laid over another's, so many of them. -/
def B512.over (b s : B512) (n : Nat) : B512 := ⟨b.l.take n ++ s.l.drop n, by rw [List.length_append, List.length_take, List.length_drop, b.h, s.h]; omega⟩
def keepB (f : DF) (i : Nat) : Bool := decide (i < 64) && (f.keep.testBit i)
/-- What a write that is not sure does to the sure bytes: number i of them, of which the last one is number m. -/
def DB.hit (x : DB) (f : DF) (m : Int) (i : Nat) (w : DW) : DB :=
  if keepB f i = true then { x with sure := w.b } else if (i : Int) = m then { x with sure := w.b.over x.sure (tornN f.torn) } else x
def hitAll (f : DF) (m : Int) : List DW → Nat → List DB → List DB
  | [], _, L => L
  | w :: ws, i, L => hitAll f m ws (i + 1) (L.set w.at_.toNat ((L.getD w.at_.toNat default).hit f m i w))
def DS.crash (d : DS) (f : DF) : DS :=
  if d.down = true then d else { d with blocks := (hitAll f ((d.pending.length : Int) - 1) d.pending 0 d.blocks).map (fun x => ⟨x.sure, x.sure⟩), pending := [], down := true }
theorem hitAll_length (f : DF) (m : Int) : ∀ (ws : List DW) (i : Nat) (L : List DB), (hitAll f m ws i L).length = L.length
  | [], _, _ => rfl
  | w :: ws, i, L => by rw [hitAll, hitAll_length f m ws]; simp
theorem crash_length (d : DS) (f : DF) : (d.crash f).blocks.length = d.blocks.length := by
  unfold DS.crash
  split
  · rfl
  · simp [hitAll_length]
theorem hitAll_take (f : DF) (m : Int) (ws : List DW) (i : Nat) (L : List DB) (hi : i < ws.length) : hitAll f m (ws.take (i + 1)) 0 L =
    (hitAll f m (ws.take i) 0 L).set ws[i].at_.toNat (((hitAll f m (ws.take i) 0 L).getD ws[i].at_.toNat default).hit f m i ws[i]) := by
  have key : ∀ (ws : List DW) (w : DW) (k : Nat) (L : List DB), hitAll f m (ws ++ [w]) k L = (hitAll f m ws k L).set w.at_.toNat (((hitAll f m ws k L).getD w.at_.toNat default).hit f m (k + ws.length) w) := by
    intro ws
    induction ws with
    | nil => intro w k L; rfl
    | cons x ws ih => intro w k L; rw [List.cons_append, hitAll, ih, hitAll, List.length_cons, show k + 1 + ws.length = k + (ws.length + 1) from by omega]
  rw [List.take_succ_eq_append_getElem hi, key]
  simp only [Nat.zero_add, List.length_take, Nat.min_eq_left (Nat.le_of_lt hi)]

theorem code_sure (x : DB) (b : B512) : eDB.code { x with sure := b } = setFrom (eDB.code x) 512 b.v := by
  have := setFrom_part b.v x.now.v x.sure.v [] (by rw [b.v_length, x.sure.v_length])
  rw [x.now.v_length, List.append_nil, List.append_nil] at this
  exact this.symm
theorem code_now (x : DB) (b : B512) : eDB.code { x with now := b } = setFrom (eDB.code x) 0 b.v := by
  have := setFrom_part b.v [] x.now.v x.sure.v (by rw [b.v_length, x.now.v_length])
  exact this.symm
theorem code_torn (x : DB) (b : B512) (n : Nat) (hn : n ≤ 512) : eDB.code { x with sure := b.over x.sure n } = setFrom (eDB.code x) 512 (b.v.take n) := by
  have hx : x.sure.v = x.sure.v.take n ++ x.sure.v.drop n := (List.take_append_drop n _).symm
  have := setFrom_part (b.v.take n) x.now.v (x.sure.v.take n) (x.sure.v.drop n) (by rw [List.length_take, List.length_take, b.v_length, x.sure.v_length])
  rw [x.now.v_length, List.append_assoc, ← hx] at this
  rw [show eDB.code x = x.now.v ++ x.sure.v from rfl, this]
  show x.now.v ++ (b.over x.sure n).v = _
  rw [List.append_assoc]
  congr 1
  simp [B512.v, B512.over, List.map_take, List.map_drop]
/-- The first i blocks are as they surely are. -/
def settle (L : List DB) (i : Nat) : List DB := (L.take i).map (fun x => ⟨x.sure, x.sure⟩) ++ L.drop i
theorem settle_length (L : List DB) (i : Nat) : (settle L i).length = L.length := by
  unfold settle
  rw [List.length_append, List.length_map, ← List.length_append, List.take_append_drop]
theorem settle_get (L : List DB) (i : Nat) (hi : i < L.length) : (settle L i)[i]? = some L[i] := by
  unfold settle
  rw [List.getElem?_append_right (by simp; omega)]
  simp [Nat.min_eq_left (Nat.le_of_lt hi), hi]
theorem settle_succ (L : List DB) (i : Nat) (hi : i < L.length) : settle L (i + 1) = (settle L i).set i { L[i] with now := L[i].sure } := by
  unfold settle
  rw [List.take_succ_eq_append_getElem hi, List.map_append, List.append_assoc, List.set_append_right _ _ (by simp; omega)]
  congr 1
  rw [List.length_map, List.length_take, Nat.min_eq_left (Nat.le_of_lt hi), Nat.sub_self, List.drop_eq_getElem_cons hi]
  rfl
theorem keep_bit (n i : Nat) (h : n < 18446744073709551616) : (bits BinOp.and IntKind.u64 ((n : Int) / 2 ^ i) 1 == 1) = n.testBit i := by
  have hd : n / 2 ^ i ≤ n := Nat.div_le_self _ _
  have e : ((n : Int) / 2 ^ i) = ((n / 2 ^ i : Nat) : Int) := by simp
  have h1 := u64_and_nat (n / 2 ^ i) 1 (by omega) (by decide)
  rw [Nat.and_one_is_mod] at h1
  rw [e, show (1 : Int) = ((1 : Nat) : Int) from rfl, h1, Nat.testBit_eq_decide_div_mod_eq]
  by_cases hb : n / 2 ^ i % 2 = 1
  · rw [hb]; simp
  · have h0 : n / 2 ^ i % 2 = 0 := by omega
    rw [h0]; simp
end Go.Proofs.Ythbanhedjfpmaaa
