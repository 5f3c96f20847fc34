/-
  Texts of a proof, one behind the other (each with its own head).
-/
import Derived.Test.YtpahkaffknnjhaaGreatDoorPartAplikdnok
import Derived.Lib.BytesEntry
import Derived.Lib.IndexLaws
import Derived.Laws.Externs
import Derived.Laws.CopyOwn
section
namespace Go.Proofs.YtpahkaffknnjhaaGreatDoor
set_option linter.unusedSimpArgs false
set_option linter.unusedVariables false
open Go.RowKit
theorem numsOf_bytes (l : List UInt8) : Lib.bytesOf (l.map fun c => (c.toNat : Int)) = l := by
  unfold Lib.bytesOf
  rw [List.map_map]
  conv => rhs; rw [← List.map_id l]
  congr 1
  funext c
  simp
theorem run_rowBytes {w : World} {A : Option Addr} {l : List UInt8} (c : Nat) (hr : BRow w A l) : (Extern.Bytes.bytesOf (.slice A l.length c)).run Tryz.prog w = .ok ⟨l.toArray⟩ w := by
  rcases A with _ | a
  · have : l = [] := by
      cases l with
      | nil => rfl
      | cons x l => obtain ⟨b, o, h, _⟩ := hr (by simp); cases h
    subst this
    rfl
  · have h := Lib.run_loadBytesX (P := Tryz.prog) w (l.map fun c => (c.toNat : Int)) a .empty (fun j x hx => by
      rw [List.getElem?_map] at hx
      obtain ⟨hj, e⟩ := List.getElem?_eq_some_iff.1 (show (l.map fun c => (c.toNat : Int))[j]? = some x by rw [List.getElem?_map]; exact hx)
      have hjl : j < l.length := by simpa using hj
      obtain ⟨b, o, h, _, hc⟩ := hr (by simp; omega)
      obtain rfl := Option.some.inj h
      rw [Addr.add_lit, hc j (by simpa using hjl), ← e]
      simp [bv])
    rw [List.length_map, numsOf_bytes] at h
    show (Extern.Bytes.loadBytes a l.length .empty).run Tryz.prog w = _
    rw [h]
    congr 1
    apply ByteArray.ext
    simp
theorem run_countRow {w : World} {A : Option Addr} {l : List UInt8} (c : Nat) (hr : BRow w A l) (z : Int) : (Extern.BytealgCount.count #[.slice A l.length c, .int .u8 z]).run Tryz.prog w = .ok (.int .i64 (l.count z.toNat.toUInt8 : Nat)) w := by
  have hs := Lib.run_countString (P := Tryz.prog) ⟨l.toArray⟩ z w
  change Sem.run Tryz.prog (do
    let b ← Extern.Bytes.bytesOf (.slice A l.length c)
    let c' ← Extern.Bytes.asByte (.int .u8 z)
    pure (goInt (b.foldl (fun n x => if x == c' then n + 1 else n) (0 : Nat)))) w = _
  change Sem.run Tryz.prog (do
    let b ← Extern.Bytes.bytesOf (.string ⟨l.toArray⟩)
    let c' ← Extern.Bytes.asByte (.int .u8 z)
    pure (goInt (b.foldl (fun n x => if x == c' then n + 1 else n) (0 : Nat)))) w = _ at hs
  simp only [Sem.run_bind, run_rowBytes c hr, Result.andThen] at hs ⊢
  simp only [Extern.Bytes.bytesOf, Sem.run_pure] at hs
  exact hs
theorem run_indexRow {w : World} {A : Option Addr} {l : List UInt8} (c : Nat) (hr : BRow w A l) (z : Int) : (Extern.BytealgIndexByte.indexByte #[.slice A l.length c, .int .u8 z]).run Tryz.prog w = .ok (.int .i64 (Lib.indexByte l z.toNat.toUInt8)) w := by
  have hs := Lib.run_indexByteString (P := Tryz.prog) ⟨l.toArray⟩ z w
  change Sem.run Tryz.prog (do
    let b ← Extern.Bytes.bytesOf (.slice A l.length c)
    let c' ← Extern.Bytes.asByte (.int .u8 z)
    match (List.range b.size).find? fun i => b[i]! == c' with
    | some i => pure (goInt i)
    | none => pure (goInt (-1))) w = _
  change Sem.run Tryz.prog (do
    let b ← Extern.Bytes.bytesOf (.string ⟨l.toArray⟩)
    let c' ← Extern.Bytes.asByte (.int .u8 z)
    match (List.range b.size).find? fun i => b[i]! == c' with
    | some i => pure (goInt i)
    | none => pure (goInt (-1))) w = _ at hs
  simp only [Sem.run_bind, run_rowBytes c hr, Result.andThen] at hs ⊢
  simp only [Extern.Bytes.bytesOf, Sem.run_pure] at hs
  exact hs
set_option maxRecDepth 20000 in
set_option maxHeartbeats 1000000 in
theorem bcount_any (w : World) (A B : Option Addr) (c d : Nat) (l : List UInt8) (hr : BRow w A l) (hs : BRow w B [0]) (hl : l.length ≤ 1000000) :
    Calls Tryz.prog 132 #[.slice A l.length c, .slice B 1 d] w fun e w' => e = .returned (.int .i64 (l.count 0 : Nat)) ∧ w' = w := by
  obtain ⟨b, o, rfl, hb, hc⟩ := hs.at_ (k := 0) (by decide)
  have hc' : w.cell? ⟨b, o, none⟩ = some (.int .u8 0) := by simpa using hc
  have HR := Lib.hid hr
  clear hr hs hc
  go_enter Tryz.func132, Tryz.ntmps132
  go_wp2_with fail
  rw [run_callFunc_extern Tryz.func156 (by kernel_rfl) (by kernel_rfl) (by kernel_rfl) (e := Extern.BytealgCount.count) (by kernel_rfl), run_countRow c HR.out]
  simp only [Result.andThen]
  rw [Oper.upon_value]
  go_wp2
  go_ret
  exact ⟨rfl, rfl⟩
set_option maxRecDepth 20000 in
set_option maxHeartbeats 1000000 in
theorem bindexbyte_any (w : World) (A : Option Addr) (c : Nat) (l : List UInt8) (hr : BRow w A l) :
    Calls Tryz.prog 157 #[.slice A l.length c, .int .u8 0] w fun e w' => e = .returned (.int .i64 (Lib.indexByte l 0)) ∧ w' = w := by
  have HR := Lib.hid hr
  clear hr
  go_enter Tryz.func157, Tryz.ntmps157
  go_wp2_with fail
  rw [run_callFunc_extern Tryz.func176 (by kernel_rfl) (by kernel_rfl) (by kernel_rfl) (e := Extern.BytealgIndexByte.indexByte) (by kernel_rfl), run_indexRow c HR.out]
  simp only [Result.andThen]
  rw [Oper.upon_value]
  go_wp2
  go_ret
  exact ⟨rfl, rfl⟩
set_option maxRecDepth 20000 in
set_option maxHeartbeats 1000000 in
theorem bindex_any (w : World) (A B : Option Addr) (c d : Nat) (l : List UInt8) (hr : BRow w A l) (hs : BRow w B [0]) :
    Calls Tryz.prog 133 #[.slice A l.length c, .slice B 1 d] w fun e w' => e = .returned (.int .i64 (Lib.indexByte l 0)) ∧ w' = w := by
  obtain ⟨b, o, rfl, hb, hc⟩ := hs.at_ (k := 0) (by decide)
  have hc' : w.cell? ⟨b, o, none⟩ = some (.int .u8 0) := by simpa using hc
  have HR := Lib.hid hr
  clear hr hs hc
  go_enter Tryz.func133, Tryz.ntmps133
  go_wp2_with fail
  refine (bindexbyte_any _ A c l HR.out).mono ?_
  rintro e w1 ⟨rfl, rfl⟩
  go_wp2_with fail
  go_ret
  exact ⟨rfl, rfl⟩
theorem BOwn.setCellsR {B c g : Nat} : ∀ (m : List UInt8) {w : World} (pre l : List UInt8), BOwn w B (some ⟨g, 0, none⟩) c (pre ++ l) → m.length ≤ l.length → BOwn (w.setCells g pre.length (m.map bv)) B (some ⟨g, 0, none⟩) c (pre ++ m ++ l.drop m.length)
  | [], w, pre, l, h, _ => by simpa [World.setCells] using h
  | x :: m, w, pre, [], h, hl => by simp at hl
  | x :: m, w, pre, y :: l, h, hl => by
    have h1 := h.store pre.length x (bv x) rfl
    have e : (pre ++ y :: l).set pre.length x = (pre ++ [x]) ++ l := by rw [List.set_append_right _ _ (Nat.le_refl _), Nat.sub_self, List.set_cons_zero, List.append_assoc]; rfl
    rw [e] at h1
    have h2 := BOwn.setCellsR m (pre ++ [x]) l h1 (by simpa using hl)
    rw [List.length_append, List.append_assoc] at h2
    simpa [World.setCells] using h2
theorem wpList_copy_at {w : World} {B c cd c' g : Nat} {At A' : Option Addr} {pre post m : List UInt8} {ops : Array Oper} {rest : List Oper} {o : Oper} {a : Act} {Q : Exit → Act → World → Prop} (hgd : o.guard = none) (d s : Operand)
    (hop : o.op = .call { callee := .builtin .copy, args := #[d, s], argTypes := #[32, 32] }) (n k off : Nat) (hd : a.eval d = .slice At n cd) (hs : a.eval s = .slice A' k c') (hAt : 0 < m.length → At = some ⟨g, off, none⟩) (hoff : off = pre.length) (hn : n = post.length) (hk : k = m.length)
    (ho : BOwn w B (some ⟨g, 0, none⟩) c (pre ++ post)) (hr : BRow w A' m) (hm : m.length ≤ post.length)
    (h : ∀ w', BOwn w' B (some ⟨g, 0, none⟩) c (pre ++ m ++ post.drop m.length) → w.grownBy w' (some g) → wpList Tryz.prog ops Q rest (a.put o.dst (.int .i64 (k : Int))) w') : wpList Tryz.prog ops Q (o :: rest) a w := by
  subst hn hk hoff
  have hmin : Nat.min m.length post.length = m.length := Nat.min_eq_left hm
  cases hm0 : m with
  | nil =>
    subst hm0
    refine wpList_copy_nothing hgd d s _ _ hop 5 Tryz.underlying32 (by kernel_rfl) _ A' _ _ _ _ hd hs hmin ?_
    exact h w (by simpa using ho) (World.grownBy.refl w _)
  | cons x m' =>
    have hpos : 0 < m.length := by rw [hm0]; simp
    obtain rfl := hAt hpos
    obtain ⟨b, o', rfl, hlt, hc⟩ := hr (by simpa using hpos)
    have hrun := run_copy_cells (P := Tryz.prog) w 32 32 o.type 5 g pre.length post.length cd ⟨b, o', none⟩ m.length c' (m.map bv) Tryz.underlying32 (by kernel_rfl) (by rw [List.length_map, hmin]) (fun j u hu => by
        obtain ⟨hj, he⟩ := List.getElem?_eq_some_iff.1 hu
        rw [Addr.add_lit, hc j hj, he]) (fun j hj => by
        rw [ho.cell (by simp at hj ⊢; omega)]; rfl) (fun j hj => ho.free _) (one_bytes m)
    refine wpList_runv hgd (exec_copy hop hd hs hrun) ?_
    rw [List.length_map]
    exact h _ (BOwn.setCellsR m pre post ho hm) (grown_setCells w g _ _)
theorem cut_own (g len c : Nat) (lo : Int) (i : Nat) (e1 : lo = (i : Int)) (hi : i ≤ len) (hc : len ≤ c) :
    ∃ At ct, (∀ w, (Instr.slice 32 (.slice (some ⟨g, 0, none⟩) len c) (some (.int .i64 lo)) none none).run Tryz.prog w = .ok (.slice At (len - i) ct) w) ∧ (i < len → At = some ⟨g, i, none⟩) := by
  subst e1
  refine ⟨if c = i then some ⟨g, 0, none⟩ else (some (⟨g, 0, none⟩ : Addr)).map (·.add (i * 1)), c - i, fun w => ?_, fun h => ?_⟩
  · rw [run_slice_l (P := Tryz.prog) w 32 (some ⟨g, 0, none⟩) len c (by rw [elem_u8]; exact Tryz.underlying32) .i64 i (by omega) (by omega), elem_u8, sizeOf_u8]
    simp [sliced]
  · rw [if_neg (by omega)]
    simp [Addr.add_lit]
theorem esc_none : ∀ (l : List UInt8), l.count 0 = 0 → Key.esc l = l
  | [], _ => rfl
  | c :: l, h => by
    rw [List.count_cons] at h
    by_cases hc : c = 0
    · subst hc; simp at h
    · rw [Key.esc_cons, if_neg hc, esc_none l (by omega)]; rfl
theorem esc_len : ∀ (l : List UInt8), (Key.esc l).length = l.length + l.count 0
  | [] => rfl
  | c :: l => by
    rw [Key.esc_cons, List.count_cons, List.length_append, esc_len l]
    by_cases hc : c = 0
    · subst hc; simp; omega
    · rw [if_neg hc]; simp [hc]; omega
theorem next_zero {l : List UInt8} (h : 0 < l.count 0) : ∃ j : Nat, Lib.indexByte l 0 = (j : Int) ∧ j < l.length ∧ (l.take j).count 0 = 0 ∧ Key.esc (l.take (j + 1)) = l.take j ++ [0, 255] ∧ (l.drop (j + 1)).count 0 + 1 = l.count 0 := by
  induction l with
  | nil => simp at h
  | cons c l ih =>
    by_cases hc : c = 0
    · subst hc
      refine ⟨0, rfl, by simp, rfl, rfl, by simp⟩
    · have hl : 0 < l.count 0 := by rw [List.count_cons] at h; simpa [hc] using h
      obtain ⟨j, e, h1, h2, h3, h4⟩ := ih hl
      refine ⟨j + 1, ?_, by simpa using h1, ?_, ?_, ?_⟩
      · show (if c == 0 then (0 : Int) else if Lib.indexByte l 0 == -1 then -1 else Lib.indexByte l 0 + 1) = _
        rw [e, if_neg (by simpa using hc), if_neg (by simp)]
        omega
      · simp [List.take_succ_cons, List.count_cons, h2, hc]
      · rw [List.take_succ_cons, Key.esc_cons, if_neg hc, h3]; simp
      · rw [List.drop_succ_cons, List.count_cons, if_neg (by simpa using hc)]; exact h4
structure RIn (w W : World) (g N : Nat) (l : List UInt8) (i st : Nat) : Prop where
  le : st ≤ l.length
  cnt : (l.drop st).count 0 + i = l.count 0
  len : (Key.esc (l.take st)).length = st + i
  own : BOwn W w.heap.size (some ⟨g, 0, none⟩) N (Key.esc (l.take st) ++ List.replicate (N - (st + i)) 0)
  bel : Below w.heap.size w W
theorem rin_last {w W : World} {g N i st : Nat} {l : List UInt8} (h : RIn w W g N l i st) (hz : l.count 0 = i) : Key.esc l = Key.esc (l.take st) ++ l.drop st := by
  have h1 := h.cnt
  have h2 : (l.drop st).count 0 = 0 := by omega
  rw [← esc_none _ h2, ← Key.esc_append, List.take_append_drop]
theorem rin_end {w W w5 : World} {g i st : Nat} {l : List UInt8} (h : RIn w W g (l.length + i) l i st) (he : Key.esc l = Key.esc (l.take st) ++ l.drop st) (hB : w.heap.size ≤ g)
    (ho : BOwn w5 w.heap.size (some ⟨g, 0, none⟩) (l.length + i) (Key.esc (l.take st) ++ l.drop st ++ (List.replicate (l.length + i - (st + i)) (0 : UInt8)).drop (l.drop st).length)) (hg : W.drew.grownBy w5 (some g)) :
    BOwn w5 w.heap.size (some ⟨g, 0, none⟩) (l.length + i) (Key.esc l) ∧ Below w.heap.size w w5 ∧ (Key.esc l).length = l.length + i := by
  have e : (List.replicate (l.length + i - (st + i)) (0 : UInt8)).drop (l.drop st).length = [] := by
    rw [List.drop_eq_nil_iff, List.length_replicate, List.length_drop]; omega
  rw [e, List.append_nil, ← he] at ho
  refine ⟨ho, below_of_grown h.bel.drewR hg hB h.bel.size, ?_⟩
  have := h.le
  rw [he, List.length_append, h.len, List.length_drop]; omega
structure RNx (l : List UInt8) (st j : Nat) : Prop where
  ix : Lib.indexByte (l.drop st) 0 = (j : Int)
  lt : st + j + 1 ≤ l.length
  esc : Key.esc ((l.drop st).take (j + 1)) = (l.drop st).take j ++ [0, 255]
  cnt : ((l.drop st).drop (j + 1)).count 0 + 1 = (l.drop st).count 0
theorem rnx_of {l : List UInt8} {st : Nat} (h : 0 < (l.drop st).count 0) : ∃ j, RNx l st j := by
  obtain ⟨j, h1, h2, h3, h4, h5⟩ := next_zero h
  rw [List.length_drop] at h2
  exact ⟨j, h1, by omega, h4, h5⟩
theorem RNx.len {l : List UInt8} {st j : Nat} (h : RNx l st j) : ((l.drop st).take j).length = j := by
  have := h.lt
  rw [List.length_take, List.length_drop]; omega
structure RMid (w W : World) (g N : Nat) (l : List UInt8) (i st j : Nat) : Prop where
  len : (Key.esc (l.take st) ++ (l.drop st).take j).length = st + i + j
  own : BOwn W w.heap.size (some ⟨g, 0, none⟩) N ((Key.esc (l.take st) ++ (l.drop st).take j) ++ List.replicate (N - (st + i + j)) 0)
  bel : Below w.heap.size w W
theorem rmid_of {w w2 w3 : World} {g N i st j : Nat} {l : List UInt8} (h : RIn w w2 g N l i st) (hx : RNx l st j) (hB : w.heap.size ≤ g)
    (ho3 : BOwn w3 w.heap.size (some ⟨g, 0, none⟩) N (Key.esc (l.take st) ++ (l.drop st).take j ++ (List.replicate (N - (st + i)) (0 : UInt8)).drop ((l.drop st).take j).length)) (hg : w2.drew.grownBy w3 (some g)) : RMid w w3 g N l i st j := by
  refine ⟨by rw [List.length_append, h.len, hx.len], ?_, below_of_grown h.bel.drewR hg hB h.bel.size⟩
  rw [hx.len, List.drop_replicate] at ho3
  have e : N - (st + i) - j = N - (st + i + j) := by omega
  rw [e] at ho3
  exact ho3
theorem rin_next {w w3 w4 : World} {g N i st j : Nat} {l : List UInt8} (hc : (l.drop st).count 0 + i = l.count 0) (h : RMid w w3 g N l i st j) (hx : RNx l st j) (hB : w.heap.size ≤ g)
    (ho4 : BOwn w4 w.heap.size (some ⟨g, 0, none⟩) N (Key.esc (l.take st) ++ (l.drop st).take j ++ [0, 255] ++ (List.replicate (N - (st + i + j)) (0 : UInt8)).drop ([0, 255] : List UInt8).length)) (hg : w3.grownBy w4 (some g)) : RIn w w4 g N l (i + 1) (st + j + 1) := by
  have hd : l.take (st + j + 1) = l.take st ++ (l.drop st).take (j + 1) := by rw [Nat.add_assoc, List.take_add]
  have he : Key.esc (l.take (st + j + 1)) = Key.esc (l.take st) ++ (l.drop st).take j ++ [0, 255] := by rw [hd, Key.esc_append, hx.esc, List.append_assoc]
  refine ⟨hx.lt, ?_, ?_, ?_, below_of_grown h.bel hg hB h.bel.size⟩
  · have h1 := hx.cnt
    rw [List.drop_drop] at h1
    rw [show st + j + 1 = st + (j + 1) from by omega]
    omega
  · rw [he, List.length_append, h.len]; simp; omega
  · rw [List.drop_replicate] at ho4
    have e : N - (st + i + j) - ([0, 255] : List UInt8).length = N - (st + j + 1 + (i + 1)) := by simp; omega
    rw [e] at ho4
    rw [he]
    exact ho4
set_option maxRecDepth 20000 in
set_option maxHeartbeats 20000000 in
theorem breplace_any (w : World) (A B C : Option Addr) (c d k : Nat) (l : List UInt8) (hr : BRow w A l) (hs : BRow w B [0]) (hy : BRow w C [0, 255]) (hl : l.length ≤ 1000000) (hlc : l.length ≤ c) :
    Calls Tryz.prog 101 #[.slice A l.length c, .slice B 1 d, .slice C 2 k, .int .i64 (-1)] w (RetB w (Key.esc l)) := by
  have HR := Lib.hid hr
  have HS := Lib.hid hs
  have HY := Lib.hid hy
  have hcnt := List.count_le_length (a := (0 : UInt8)) (l := l)
  clear hr hs hy
  go_enter Tryz.func101, Tryz.ntmps101
  go_wp2_with fail
  refine (bcount_any _ A B c d l HR.out HS.out hl).mono ?_
  rintro e w1 ⟨rfl, rfl⟩
  by_cases h0 : l.count 0 = 0
  · have hi : ((l.count 0 : Nat) : Int) = 0 := by omega
    rw [hi]
    have HE := Lib.hid (esc_none l h0)
    go_wp2_with (refine wpList_append_bytes (B := w1.heap.size) (A := none) (c := 0) (l := []) rfl (.const (.slice none 0 0)) (.tmp 24) rfl 0 rfl (BOwn.nil _ _) rfl _ rfl HR.out rfl (by simp; omega) (Nat.le_refl _) ?_; intro A1 c1 w2 ho1 hb1 hg1 _)
    go_ret
    exact ⟨A1, c1, by rw [HE.out]; rfl, by rw [HE.out]; exact ho1, hb1⟩
  · have hz0 : 0 < l.count 0 := by omega
    have hlp : 0 < l.length := by omega
    obtain ⟨b, o, rfl, hb, -⟩ := HR.out.at_ (k := 0) hlp
    obtain ⟨b2, o2, rfl, hb2, -⟩ := HY.out.at_ (k := 0) (by decide)
    generalize hz : l.count 0 = z at h0 hz0 hcnt
    have HZ := Lib.hid hz
    have HEL := Lib.hid (esc_len l)
    clear hz
    have hzi : ¬ (z : Int) = 0 := by omega
    go_wp2_with (at_make; refine wpList_make_zeros rfl (.tmp 43) (.tmp 43) rfl _ _ _ _ (l.length + z) rfl rfl (by omega) (by omega) (by omega) (Nat.le_refl _) ?_; intro W hW hbW)
    have HI : Hid (RIn w1 W w1.heap.size (l.length + z) l 0 0) := ⟨by omega, by simp, by simp [Key.esc_nil], by simpa [Key.esc_nil] using hW, hbW⟩
    clear hW hbW hzi
    go_loopw [11, 12, 49] (fun wv sv iv wr => ∃ i st : Nat, i ≤ z ∧ st ≤ l.length ∧ wv = .int .i64 ((st + i : Nat) : Int) ∧ sv = .int .i64 (st : Int) ∧ iv = .int .i64 (i : Int) ∧ Hid (RIn w1 wr w1.heap.size (l.length + z) l i st)) (fun _ _ iv _ => z - (intOf iv).toNat)
    case atStart => exact ⟨0, 0, by omega, by omega, rfl, rfl, rfl, HI.out⟩
    case round =>
      obtain ⟨i, st, hi, hst, rfl, rfl, rfl, HJ⟩ := hrel
      clear HI
      by_cases hlt : i < z
      · have hii : (i : Int) < (z : Int) := by omega
        have hd0 : 0 < (l.drop st).count 0 := by have := HJ.out.cnt; have := HZ.out; omega
        obtain ⟨j, hx⟩ := rnx_of hd0
        have hsj := hx.lt
        have HX := Lib.hid hx
        have hsc : (st : Int) < (c : Int) := by omega
        have hsc3 : ¬ c = st := by omega
        clear hd0 hx
        have HRD : Hid (∀ wq, Below w1.heap.size w1 wq → BRow wq (some ⟨b, o + st, none⟩) (l.drop st)) := fun wq hq => by simpa [Addr.add_lit] using (HR.out.below hq).drop st
        have K := bindex_any wr (some ⟨b, o + st, none⟩) B (c - st) d (l.drop st) (HRD.out _ HJ.out.bel) (HS.out.below HJ.out.bel)
        rw [List.length_drop, HX.out.ix] at K
        have HK := Lib.hid K
        have hst3 : ((st + i : Nat) : Int) < ((l.length + z : Nat) : Int) := by omega
        have hst4 : ¬ l.length + z = st + i := by omega
        have hj1 : st + j ≤ c := by omega
        have hsm : st + i + j + 2 ≤ l.length + z := by omega
        clear K
        go_wp2_with fail
        refine HK.out.mono ?_
        rintro e w2 ⟨rfl, rfl⟩
        clear HK
        go_upto_region 15 with fail
        have HO := Lib.hid HJ.out.own.drew
        have HN1 := Lib.hid HJ.out.len.symm
        have HMJ := Lib.hid HX.out.len.symm
        have HRM := Lib.hid ((HRD.out _ HJ.out.bel).take j).drew
        have HPL : Hid (l.length + z - (st + i) = (List.replicate (l.length + z - (st + i)) (0 : UInt8)).length) := List.length_replicate.symm
        have HLE : Hid (((l.drop st).take j).length ≤ (List.replicate (l.length + z - (st + i)) (0 : UInt8)).length) := by show _ ≤ _; rw [HX.out.len, List.length_replicate]; omega
        refine wp_region_planC (.take 0 (.take 1 (.take 2 (.take 3 (.take 4 (.take 5 (.take 6 (.take 7 (.run 8 [0] (.take 9 (.run 10 [] .fin))))))))))) (by kernel_rfl) (by kernel_rfl) (by kernel_rfl) (by kernel_rfl) ?_
        repeat' (first | (refine hZ _ _ ?_; clear hZ) | (refine hZ _ ?_; clear hZ) | (refine hZ ?_; clear hZ) | rw [again_nil] | rw [walk_fin] | ((first | rw [walk_take] | rw [walk_run] | rw [again_cons]); intro Z hZ; simp only [sel, List.getElem?_toArray, List.getElem?_cons_zero, List.getElem?_cons_succ]; go_wp2_with (first | (refine wpList_copy_at (o := ⟨some 66, _, _, _, _, _⟩) rfl (.tmp 61) (.tmp 65) rfl _ _ _ rfl rfl (fun _ => rfl) (by rw [← HN1.out]; try omega) (by rw [← HPL.out]; try omega) (by rw [← HMJ.out]; try omega) HO.out HRM.out HLE.out ?_; intro w3 ho3 hg3))))
        have HM := Lib.hid (rmid_of HJ.out HX.out (Nat.le_refl _) ho3 hg3)
        have HC := Lib.hid HJ.out.cnt
        clear ho3 hg3 HO HRM HPL HLE HJ HRD HMJ HN1 hst3 hst4 hsc hsc3 hj1 hst hlc h0 hz0 hlp
        have HO2 := Lib.hid HM.out.own
        have HN2 := Lib.hid HM.out.len.symm
        have HPL2 : Hid (l.length + z - (st + i + j) = (List.replicate (l.length + z - (st + i + j)) (0 : UInt8)).length) := List.length_replicate.symm
        have HLE2 : Hid (([0, 255] : List UInt8).length ≤ (List.replicate (l.length + z - (st + i + j)) (0 : UInt8)).length) := by show _ ≤ _; rw [List.length_replicate]; show 2 ≤ _; omega
        have HR2 := Lib.hid (HY.out.below HM.out.bel)
        have HI2 : Hid (i + 1 ≤ z ∧ st + j + 1 ≤ l.length) := ⟨by omega, by omega⟩
        have hst5 : ((st + i + j : Nat) : Int) < ((l.length + z : Nat) : Int) := by omega
        have hst6 : ¬ l.length + z = st + i + j := by omega
        go_wp2_with (first | (refine wpList_copy_at (m := [0, 255]) (o := ⟨some 73, _, _, _, _, _⟩) rfl (.tmp 71) (.tmp 72) rfl _ _ _ rfl rfl (fun _ => rfl) (by rw [← HN2.out]; try omega) (by rw [← HPL2.out]; try omega) (show 2 = ([0, 255] : List UInt8).length from rfl) HO2.out HR2.out HLE2.out ?_; intro w4 ho4 hg4))
        go_roundw
        case rel => exact ⟨i + 1, st + j + 1, HI2.out.1, HI2.out.2, by go_num, by go_num, by go_num, rin_next HC.out HM.out HX.out (Nat.le_refl _) ho4 hg4⟩
        case measure => have := HI2.out.1; simp [intOf]; omega
      · obtain rfl : i = z := by omega
        have HLN := Lib.hid (rin_last HJ.out HZ.out)
        obtain ⟨A1, c1, hsl1, hA1⟩ := cut_own w1.heap.size (l.length + i) (l.length + i) ((st : Int) + (i : Int)) (st + i) (by omega) (by omega) (Nat.le_refl _)
        obtain ⟨A2, c2, hsl2, hr2, -⟩ := cut_l (HR.out.below HJ.out.bel) c (st : Int) st rfl hst hlc
        have HRA := Lib.hid hr2.drew
        have HAT := Lib.hid hA1
        have HO := Lib.hid HJ.out.own.drew
        have HN1 := Lib.hid HJ.out.len.symm
        have HPL : Hid (l.length + i - (st + i) = (List.replicate (l.length + i - (st + i)) (0 : UInt8)).length) := List.length_replicate.symm
        have HDL : Hid (l.length - st = (l.drop st).length) := List.length_drop.symm
        have HLE : Hid ((l.drop st).length ≤ (List.replicate (l.length + i - (st + i)) (0 : UInt8)).length) := by show _ ≤ _; rw [List.length_drop, List.length_replicate]; omega
        have HAT2 : Hid (0 < (l.drop st).length → A1 = some ⟨w1.heap.size, st + i, none⟩) := fun h => hA1 (by rw [List.length_drop] at h; omega)
        have hNz : ¬ l.length + i = 0 := by omega
        clear hr2 hA1 hlt hlc h0
        go_upto_region 28 with fail
        refine wp_region_planC (.take 0 (.take 1 (.take 2 (.take 3 (.take 4 (.take 5 (.take 6 (.run 7 [0] (.take 8 (.run 9 [] .fin)))))))))) (by kernel_rfl) (by kernel_rfl) (by kernel_rfl) (by kernel_rfl) ?_
        repeat' (first | (refine hZ _ _ ?_; clear hZ) | (refine hZ _ ?_; clear hZ) | (refine hZ ?_; clear hZ) | rw [again_nil] | rw [walk_fin] | ((first | rw [walk_take] | rw [walk_run] | rw [again_cons]); intro Z hZ; simp only [sel, List.getElem?_toArray, List.getElem?_cons_zero, List.getElem?_cons_succ]; go_wp2_with (first | (refine wpList_copy_at (o := ⟨some 127, _, _, _, _, _⟩) rfl (.tmp 123) (.tmp 126) rfl _ _ _ rfl rfl HAT2.out (by rw [← HN1.out]) (by rw [← HPL.out]) (by rw [← HDL.out]) HO.out HRA.out HLE.out ?_; intro w5 ho5 hg5))))
        have HE := Lib.hid (rin_end HJ.out HLN.out (Nat.le_refl _) ho5 hg5)
        clear ho5 hg5 HJ HO HRA
        go_wp2_with fail
        go_ret
        refine ⟨_, l.length + i, ?_, HE.out.1, HE.out.2.1⟩
        rw [HE.out.2.2]
        first | rfl | (show Ending.returned (.slice _ _ _) = .returned (.slice _ _ _); congr 2; omega) | (simp; omega)
end Go.Proofs.YtpahkaffknnjhaaGreatDoor
end

