/-
  Texts of a proof, one behind the other (each with its own head).
-/
import Derived.Test.YtjdffhonljhpcaaGreatPartBieopbkka
import Derived.Lib.BytesEntry
import Derived.Lib.IndexLaws
import Derived.Laws.Externs
import Derived.Laws.CopyOwn
section
/-
  bytes.Count, bytes.Index, bytes.Replace and bytes.ReplaceAll at a byte 0, for which 0 255 is put.
-/
namespace Go.Proofs.YtjdffhonljhpcaaGreat
set_option linter.unusedSimpArgs false
set_option linter.unusedVariables false
open Go.RowKit

theorem numsOf_bytes (l : List UInt8) : Lib.bytesOf (l.map fun c => (c.toNat : Int)) = l := by
  unfold Lib.bytesOf
  rw [List.map_map]
  conv => rhs; rw [← List.map_id l]
  congr 1
  funext c
  simp
/-- The entries that take bytes take a row's as they take a text's. -/
theorem run_rowBytes {w : World} {A : Option Addr} {l : List UInt8} (c : Nat) (hr : BRow w A l) : (Extern.Bytes.bytesOf (.slice A l.length c)).run Tryz.prog w = .ok ⟨l.toArray⟩ w := by
  rcases A with _ | a
  · have : l = [] := by
      cases l with
      | nil => rfl
      | cons x l => obtain ⟨b, o, h, _⟩ := hr (by simp); cases h
    subst this
    rfl
  · have h := Lib.run_loadBytesX (P := Tryz.prog) w (l.map fun c => (c.toNat : Int)) a .empty (fun j x hx => by
      rw [List.getElem?_map] at hx
      obtain ⟨hj, e⟩ := List.getElem?_eq_some_iff.1 (show (l.map fun c => (c.toNat : Int))[j]? = some x by rw [List.getElem?_map]; exact hx)
      have hjl : j < l.length := by simpa using hj
      obtain ⟨b, o, h, _, hc⟩ := hr (by simp; omega)
      obtain rfl := Option.some.inj h
      rw [Addr.add_lit, hc j (by simpa using hjl), ← e]
      simp [bv])
    rw [List.length_map, numsOf_bytes] at h
    show (Extern.Bytes.loadBytes a l.length .empty).run Tryz.prog w = _
    rw [h]
    congr 1
    apply ByteArray.ext
    simp
theorem run_countRow {w : World} {A : Option Addr} {l : List UInt8} (c : Nat) (hr : BRow w A l) (z : Int) : (Extern.BytealgCount.count #[.slice A l.length c, .int .u8 z]).run Tryz.prog w = .ok (.int .i64 (l.count z.toNat.toUInt8 : Nat)) w := by
  have hs := Lib.run_countString (P := Tryz.prog) ⟨l.toArray⟩ z w
  change Sem.run Tryz.prog (do
    let b ← Extern.Bytes.bytesOf (.slice A l.length c)
    let c' ← Extern.Bytes.asByte (.int .u8 z)
    pure (goInt (b.foldl (fun n x => if x == c' then n + 1 else n) (0 : Nat)))) w = _
  change Sem.run Tryz.prog (do
    let b ← Extern.Bytes.bytesOf (.string ⟨l.toArray⟩)
    let c' ← Extern.Bytes.asByte (.int .u8 z)
    pure (goInt (b.foldl (fun n x => if x == c' then n + 1 else n) (0 : Nat)))) w = _ at hs
  simp only [Sem.run_bind, run_rowBytes c hr, Result.andThen] at hs ⊢
  simp only [Extern.Bytes.bytesOf, Sem.run_pure] at hs
  exact hs
theorem run_indexRow {w : World} {A : Option Addr} {l : List UInt8} (c : Nat) (hr : BRow w A l) (z : Int) : (Extern.BytealgIndexByte.indexByte #[.slice A l.length c, .int .u8 z]).run Tryz.prog w = .ok (.int .i64 (Lib.indexByte l z.toNat.toUInt8)) w := by
  have hs := Lib.run_indexByteString (P := Tryz.prog) ⟨l.toArray⟩ z w
  change Sem.run Tryz.prog (do
    let b ← Extern.Bytes.bytesOf (.slice A l.length c)
    let c' ← Extern.Bytes.asByte (.int .u8 z)
    match (List.range b.size).find? fun i => b[i]! == c' with
    | some i => pure (goInt i)
    | none => pure (goInt (-1))) w = _
  change Sem.run Tryz.prog (do
    let b ← Extern.Bytes.bytesOf (.string ⟨l.toArray⟩)
    let c' ← Extern.Bytes.asByte (.int .u8 z)
    match (List.range b.size).find? fun i => b[i]! == c' with
    | some i => pure (goInt i)
    | none => pure (goInt (-1))) w = _ at hs
  simp only [Sem.run_bind, run_rowBytes c hr, Result.andThen] at hs ⊢
  simp only [Extern.Bytes.bytesOf, Sem.run_pure] at hs
  exact hs

theorem BOwn.setCellsR {B c g : Nat} : ∀ (m : List UInt8) {w : World} (pre l : List UInt8), BOwn w B (some ⟨g, 0, none⟩) c (pre ++ l) → m.length ≤ l.length → BOwn (w.setCells g pre.length (m.map bv)) B (some ⟨g, 0, none⟩) c (pre ++ m ++ l.drop m.length)
  | [], w, pre, l, h, _ => by simpa [World.setCells] using h
  | x :: m, w, pre, [], h, hl => by simp at hl
  | x :: m, w, pre, y :: l, h, hl => by
    have h1 := h.store pre.length x (bv x) rfl
    have e : (pre ++ y :: l).set pre.length x = (pre ++ [x]) ++ l := by rw [List.set_append_right _ _ (Nat.le_refl _), Nat.sub_self, List.set_cons_zero, List.append_assoc]; rfl
    rw [e] at h1
    have h2 := BOwn.setCellsR m (pre ++ [x]) l h1 (by simpa using hl)
    rw [List.length_append, List.append_assoc] at h2
    simpa [World.setCells] using h2
/-! What is put for a byte 0 -/
theorem esc_none : ∀ (l : List UInt8), l.count 0 = 0 → Key.esc l = l
  | [], _ => rfl
  | c :: l, h => by
    rw [List.count_cons] at h
    by_cases hc : c = 0
    · subst hc; simp at h
    · rw [Key.esc_cons, if_neg hc, esc_none l (by omega)]; rfl
theorem esc_len : ∀ (l : List UInt8), (Key.esc l).length = l.length + l.count 0
  | [] => rfl
  | c :: l => by
    rw [Key.esc_cons, List.count_cons, List.length_append, esc_len l]
    by_cases hc : c = 0
    · subst hc; simp; omega
    · rw [if_neg hc]; simp [hc]; omega
/-- Where the next 0 stands: what it cuts off. -/
theorem next_zero {l : List UInt8} (h : 0 < l.count 0) : ∃ j : Nat, Lib.indexByte l 0 = (j : Int) ∧ j < l.length ∧ (l.take j).count 0 = 0 ∧ Key.esc (l.take (j + 1)) = l.take j ++ [0, 255] ∧ (l.drop (j + 1)).count 0 + 1 = l.count 0 := by
  induction l with
  | nil => simp at h
  | cons c l ih =>
    by_cases hc : c = 0
    · subst hc
      refine ⟨0, rfl, by simp, rfl, rfl, by simp⟩
    · have hl : 0 < l.count 0 := by rw [List.count_cons] at h; simpa [hc] using h
      obtain ⟨j, e, h1, h2, h3, h4⟩ := ih hl
      refine ⟨j + 1, ?_, by simpa using h1, ?_, ?_, ?_⟩
      · show (if c == 0 then (0 : Int) else if Lib.indexByte l 0 == -1 then -1 else Lib.indexByte l 0 + 1) = _
        rw [e, if_neg (by simpa using hc), if_neg (by simp)]
        omega
      · simp [List.take_succ_cons, List.count_cons, h2, hc]
      · rw [List.take_succ_cons, Key.esc_cons, if_neg hc, h3]; simp
      · rw [List.drop_succ_cons, List.count_cons, if_neg (by simpa using hc)]; exact h4

/-- What holds throughout the loop: st bytes of l are done, i zeros among them. -/
structure RIn (w W : World) (g N : Nat) (l : List UInt8) (i st : Nat) : Prop where
  le : st ≤ l.length
  cnt : (l.drop st).count 0 + i = l.count 0
  len : (Key.esc (l.take st)).length = st + i
  own : BOwn W w.heap.size (some ⟨g, 0, none⟩) N (Key.esc (l.take st) ++ List.replicate (N - (st + i)) 0)
  bel : Below w.heap.size w W
theorem rin_last {w W : World} {g N i st : Nat} {l : List UInt8} (h : RIn w W g N l i st) (hz : l.count 0 = i) : Key.esc l = Key.esc (l.take st) ++ l.drop st := by
  have h1 := h.cnt
  have h2 : (l.drop st).count 0 = 0 := by omega
  rw [← esc_none _ h2, ← Key.esc_append, List.take_append_drop]
theorem rin_end {w W w5 : World} {g i st : Nat} {l : List UInt8} (h : RIn w W g (l.length + i) l i st) (he : Key.esc l = Key.esc (l.take st) ++ l.drop st) (hB : w.heap.size ≤ g)
    (ho : BOwn w5 w.heap.size (some ⟨g, 0, none⟩) (l.length + i) (Key.esc (l.take st) ++ l.drop st ++ (List.replicate (l.length + i - (st + i)) (0 : UInt8)).drop (l.drop st).length)) (hg : W.drew.grownBy w5 (some g)) :
    BOwn w5 w.heap.size (some ⟨g, 0, none⟩) (l.length + i) (Key.esc l) ∧ Below w.heap.size w w5 ∧ (Key.esc l).length = l.length + i := by
  have e : (List.replicate (l.length + i - (st + i)) (0 : UInt8)).drop (l.drop st).length = [] := by
    rw [List.drop_eq_nil_iff, List.length_replicate, List.length_drop]; omega
  rw [e, List.append_nil, ← he] at ho
  refine ⟨ho, below_of_grown h.bel.drewR hg hB h.bel.size, ?_⟩
  have := h.le
  rw [he, List.length_append, h.len, List.length_drop]; omega
/-- What is known of the next 0 behind st. -/
structure RNx (l : List UInt8) (st j : Nat) : Prop where
  ix : Lib.indexByte (l.drop st) 0 = (j : Int)
  lt : st + j + 1 ≤ l.length
  esc : Key.esc ((l.drop st).take (j + 1)) = (l.drop st).take j ++ [0, 255]
  cnt : ((l.drop st).drop (j + 1)).count 0 + 1 = (l.drop st).count 0
theorem rnx_of {l : List UInt8} {st : Nat} (h : 0 < (l.drop st).count 0) : ∃ j, RNx l st j := by
  obtain ⟨j, h1, h2, h3, h4, h5⟩ := next_zero h
  rw [List.length_drop] at h2
  exact ⟨j, h1, by omega, h4, h5⟩
theorem RNx.len {l : List UInt8} {st j : Nat} (h : RNx l st j) : ((l.drop st).take j).length = j := by
  have := h.lt
  rw [List.length_take, List.length_drop]; omega
/-- Between the two copies. -/
structure RMid (w W : World) (g N : Nat) (l : List UInt8) (i st j : Nat) : Prop where
  len : (Key.esc (l.take st) ++ (l.drop st).take j).length = st + i + j
  own : BOwn W w.heap.size (some ⟨g, 0, none⟩) N ((Key.esc (l.take st) ++ (l.drop st).take j) ++ List.replicate (N - (st + i + j)) 0)
  bel : Below w.heap.size w W
theorem rmid_of {w w2 w3 : World} {g N i st j : Nat} {l : List UInt8} (h : RIn w w2 g N l i st) (hx : RNx l st j) (hB : w.heap.size ≤ g)
    (ho3 : BOwn w3 w.heap.size (some ⟨g, 0, none⟩) N (Key.esc (l.take st) ++ (l.drop st).take j ++ (List.replicate (N - (st + i)) (0 : UInt8)).drop ((l.drop st).take j).length)) (hg : w2.drew.grownBy w3 (some g)) : RMid w w3 g N l i st j := by
  refine ⟨by rw [List.length_append, h.len, hx.len], ?_, below_of_grown h.bel.drewR hg hB h.bel.size⟩
  rw [hx.len, List.drop_replicate] at ho3
  have e : N - (st + i) - j = N - (st + i + j) := by omega
  rw [e] at ho3
  exact ho3
theorem rin_next {w w3 w4 : World} {g N i st j : Nat} {l : List UInt8} (hc : (l.drop st).count 0 + i = l.count 0) (h : RMid w w3 g N l i st j) (hx : RNx l st j) (hB : w.heap.size ≤ g)
    (ho4 : BOwn w4 w.heap.size (some ⟨g, 0, none⟩) N (Key.esc (l.take st) ++ (l.drop st).take j ++ [0, 255] ++ (List.replicate (N - (st + i + j)) (0 : UInt8)).drop ([0, 255] : List UInt8).length)) (hg : w3.grownBy w4 (some g)) : RIn w w4 g N l (i + 1) (st + j + 1) := by
  have hd : l.take (st + j + 1) = l.take st ++ (l.drop st).take (j + 1) := by rw [Nat.add_assoc, List.take_add]
  have he : Key.esc (l.take (st + j + 1)) = Key.esc (l.take st) ++ (l.drop st).take j ++ [0, 255] := by rw [hd, Key.esc_append, hx.esc, List.append_assoc]
  refine ⟨hx.lt, ?_, ?_, ?_, below_of_grown h.bel hg hB h.bel.size⟩
  · have h1 := hx.cnt
    rw [List.drop_drop] at h1
    rw [show st + j + 1 = st + (j + 1) from by omega]
    omega
  · rw [he, List.length_append, h.len]; simp; omega
  · rw [List.drop_replicate] at ho4
    have e : N - (st + i + j) - ([0, 255] : List UInt8).length = N - (st + j + 1 + (i + 1)) := by simp; omega
    rw [e] at ho4
    rw [he]
    exact ho4
end Go.Proofs.YtjdffhonljhpcaaGreat
end

