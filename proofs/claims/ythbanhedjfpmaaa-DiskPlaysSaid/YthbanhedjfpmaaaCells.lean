/-
  Many cells at once: stores in the midst of a row, new blocks of many cells.
-/
import Derived.Test.YthbanhedjfpmaaaRegionRead
import Derived.Test.YthbanhedjfpmaaaKeeps
import Derived.Deep.MidRow
import Derived.Deep.WholeRow
namespace Go.Proofs.Ythbanhedjfpmaaa
set_option linter.unusedSimpArgs false
set_option linter.unusedVariables false
open Go.RowKit

theorem storeFrom_eq : ∀ (vs : List Value) (w : World) (g i : Nat), storeFrom w g i vs = w.setCells g i vs
  | [], _, _, _ => rfl
  | v :: vs, w, g, i => storeFrom_eq vs _ g (i + 1)

section
variable {α : Type} {E : Elem α} {w w' : World} {B c : Nat} {A : Option Addr} {L : List α}
theorem Elem.cells_setPart (L : List α) (j : Nat) (hj : j < L.length) (x : α) (k : Nat) (vs : List Value) (hk : k + vs.length ≤ E.sz) (hx : E.code x = setFrom (E.code L[j]) k vs) :
    E.cells (L.set j x) = setFrom (E.cells L) (j * E.sz + k) vs := by
  have hlen : j * E.sz + E.sz ≤ L.length * E.sz := by
    have := Nat.mul_le_mul_right E.sz (show j + 1 ≤ L.length from hj)
    rw [Nat.succ_mul] at this
    exact this
  rw [E.cells_setAll L j hj x, hx]
  apply List.ext_getElem?
  intro i
  have g1 : ∀ xs : List Value, xs.length = E.sz → ∀ i, (setFrom (E.cells L) (j * E.sz) xs)[i]? = if j * E.sz ≤ i ∧ i < j * E.sz + xs.length then xs[i - j * E.sz]? else (E.cells L)[i]? := fun xs h i => setFrom_get xs _ _ i (by rw [h, E.cells_length]; exact hlen)
  have g2 := setFrom_get vs (E.cells L) (j * E.sz + k) i (by rw [E.cells_length]; omega)
  have g3 : ∀ i, (setFrom (E.code L[j]) k vs)[i]? = if k ≤ i ∧ i < k + vs.length then vs[i - k]? else (E.code L[j])[i]? := fun i => setFrom_get vs _ k i (by rw [E.len]; exact hk)
  have hl : (setFrom (E.code L[j]) k vs).length = E.sz := by rw [setFrom_length, E.len]
  rw [g1 _ hl, g2, hl]
  by_cases h : j * E.sz ≤ i ∧ i < j * E.sz + E.sz
  · rw [if_pos h, g3]
    by_cases h2 : j * E.sz + k ≤ i ∧ i < j * E.sz + k + vs.length
    · rw [if_pos (by omega), if_pos h2, show i - j * E.sz - k = i - (j * E.sz + k) from by omega]
    · rw [if_neg (by omega), if_neg h2, ← E.cells_get L j (i - j * E.sz) hj (by omega), show j * E.sz + (i - j * E.sz) = i from by omega]
  · rw [if_neg h, if_neg (by omega)]
/-- A part of an element is stored. -/
theorem EOwn.storePart {g : Nat} (h : EOwn E w B (some ⟨g, 0, none⟩) c L) {j : Nat} (hj : j < L.length) (x : α) (k : Nat) (vs : List Value) (hk : k + vs.length ≤ E.sz) (hx : E.code x = setFrom (E.code L[j]) k vs) :
    EOwn E (w.setCells g (j * E.sz + k) vs) B (some ⟨g, 0, none⟩) c (L.set j x) := by
  rw [← storeFrom_eq]
  unfold EOwn
  rw [E.cells_setPart L j hj x k vs hk hx, List.length_set]
  exact owns_storeFrom _ _ h
theorem setCells_other (w : World) (g i : Nat) (vs : List Value) (k : Nat) (h : k ≠ g) : (w.setCells g i vs).heap[k]? = w.heap[k]? := by
  rw [← storeFrom_eq]; exact storeFrom_other vs w i k h
theorem setCells_size : ∀ (vs : List Value) (w : World) (g i : Nat), (w.setCells g i vs).heap.size = w.heap.size
  | [], _, _, _ => rfl
  | v :: vs, w, g, i => by rw [World.setCells, setCells_size vs]; simp
theorem grown_setCells (w : World) (g i : Nat) (vs : List Value) : w.grownBy (w.setCells g i vs) (some g) := by
  have key : ∀ (vs : List Value) (w0 w : World) (i : Nat), w0.grownBy w (some g) → w0.grownBy (w.setCells g i vs) (some g) := by
    intro vs
    induction vs with
    | nil => exact fun _ _ _ h => h
    | cons v vs ih => exact fun w0 w i h => ih w0 _ (i + 1) (h.set_ ⟨g, i, none⟩ rfl v)
  exact key vs w w i ⟨rfl, rfl, rfl, Nat.le_refl _, fun _ _ _ => rfl⟩
theorem Blk.setCells {g : Nat} {T : TypeId} {cs : List Value} (h : Blk w g T cs) (i : Nat) (vs : List Value) : Blk (w.setCells g i vs) g T (setFrom cs i vs) := by
  have key : ∀ (vs : List Value) (w : World) (cs : List Value) (i : Nat), Blk w g T cs → Blk (w.setCells g i vs) g T (setFrom cs i vs) := by
    intro vs
    induction vs with
    | nil => exact fun _ _ _ h => h
    | cons v vs ih => exact fun w cs i h => ih _ _ (i + 1) (h.set i v)
  exact key vs w cs i h
theorem setFrom_all : ∀ (vs cs pre : List Value), vs.length = cs.length → setFrom (pre ++ cs) pre.length vs = pre ++ vs
  | [], cs, pre, h => by
    have : cs = [] := List.eq_nil_of_length_eq_zero (by simpa using h.symm)
    subst this; rfl
  | v :: vs, [], pre, h => by simp at h
  | v :: vs, x :: cs, pre, h => by
    rw [setFrom, List.set_append_right _ _ (Nat.le_refl _), Nat.sub_self]
    show setFrom (pre ++ v :: cs) (pre.length + 1) vs = _
    have := setFrom_all vs cs (pre ++ [v]) (by simpa using h)
    simpa using this
theorem Blk.setAll {g : Nat} {T : TypeId} {cs : List Value} (h : Blk w g T cs) (vs : List Value) (hl : vs.length = cs.length) : Blk (w.setCells g 0 vs) g T vs := by
  have := h.setCells 0 vs
  rwa [show setFrom cs 0 vs = vs from by simpa using setFrom_all vs cs [] hl] at this
theorem setFrom_part : ∀ (vs : List Value) (pre cs post : List Value), vs.length = cs.length → setFrom (pre ++ cs ++ post) pre.length vs = pre ++ vs ++ post
  | [], pre, cs, post, h => by
    have : cs = [] := List.eq_nil_of_length_eq_zero (by simpa using h.symm)
    subst this; rfl
  | v :: vs, pre, [], post, h => by simp at h
  | v :: vs, pre, x :: cs, post, h => by
    rw [setFrom, List.append_assoc, List.set_append_right _ _ (Nat.le_refl _), Nat.sub_self]
    have := setFrom_part vs (pre ++ [v]) cs post (by simpa using h)
    simpa using this
theorem Blk.there {g : Nat} {T : TypeId} {cs : List Value} (h : Blk w g T cs) (i n : Nat) (hn : i + n ≤ cs.length) : w.there g i n := fun j hj => by
  rw [h.cell, List.getElem?_eq_getElem (by omega)]
  exact ⟨rfl, h.free _⟩
theorem Blk.range {g : Nat} {T : TypeId} {cs : List Value} (h : Blk w g T cs) (i : Nat) (vs : List Value) (hv : ∀ j, j < vs.length → cs[i + j]? = vs[j]?) : w.rangeAt g i vs := fun j v hj => by
  have hl := (List.getElem?_eq_some_iff.1 hj).1
  rw [h.cell, hv j hl, hj]
theorem EOwn.range {g : Nat} (h : EOwn E w B (some ⟨g, 0, none⟩) c L) {j : Nat} (hj : j < L.length) (k : Nat) (vs : List Value) (hv : ∀ i, i < vs.length → (E.code L[j])[k + i]? = vs[i]?) : w.rangeAt g (j * E.sz + k) vs := fun i v hi => by
  have hl := (List.getElem?_eq_some_iff.1 hi).1
  have := h.cell (j := j) (k := k + i) hj (v := v) (by rw [hv i hl, hi])
  rw [Nat.add_assoc]; exact this
theorem EOwn.there {g : Nat} (h : EOwn E w B (some ⟨g, 0, none⟩) c L) {j : Nat} (hj : j < L.length) (k n : Nat) (hk : k + n ≤ E.sz) : w.there g (j * E.sz + k) n := fun i hi => by
  have hlt : k + i < (E.code L[j]).length := by rw [E.len]; omega
  have := h.cell (j := j) (k := k + i) hj (List.getElem?_eq_getElem hlt)
  rw [Nat.add_assoc, this]
  exact ⟨rfl, h.free _⟩
theorem ERow.range {j : Nat} (h : ERow E w A L) (hj : j < L.length) : ∃ b o, A = some ⟨b, o, none⟩ ∧ b < w.heap.size ∧ w.rangeAt b (o + j * E.sz) (E.code L[j]) := by
  obtain ⟨b, o, e, hb, hc⟩ := h.at_ hj
  exact ⟨b, o, e, hb, fun i v hi => by rw [Nat.add_assoc]; exact hc i v hi⟩
end
/-! New blocks of many cells -/
theorem run_alloc {P : Program} {w : World} {T : TypeId} {z : Value} (hz : (zeroValue T).run P w = .ok z w) : (Instr.alloc T true (.tuple #[])).run P w = .ok (.pointer (some ⟨w.heap.size, 0, none⟩)) (w.alloc (.cells z.cells T)) := by
  simp [Instr.alloc, Sem.run_bind, hz, newVar, newRow]
theorem wpList_alloc_z {P : Program} {w : World} {ops : Array Oper} {rest : List Oper} {o : Oper} {a : Act} {Q : Exit → Act → World → Prop} (hgd : o.guard = none) (T : TypeId) (hop : o.op = .alloc T) {z : Value} (hz : (zeroValue T).run P w = .ok z w)
    (h : ∀ W, w.alloc (.cells z.cells T) = W → wpList P ops Q rest (a.put o.dst (.pointer (some ⟨w.heap.size, 0, none⟩))) W) : wpList P ops Q (o :: rest) a w :=
  wpList_plain hgd fun _ hK => by
    unfold Oper.wp execOp
    simp only [hop, Sem.run_bind, run_alloc hz, Result.andThen_ok, Sem.run_pure]
    exact hK _ _ (h _ rfl)

/-- A whole block is stored anew. -/
theorem wpList_store_blk {P : Program} {w : World} {ops : Array Oper} {rest : List Oper} {o : Oper} {a : Act} {Q : Exit → Act → World → Prop} (hgd : o.guard = none) (hod : o.dst = none) (T : TypeId) (x y : Operand) (hop : o.op = .store T x y) (g : Nat) (hx : a.eval x = .pointer (some ⟨g, 0, none⟩))
    (cs : List Value) (hy : a.eval y = .agg cs.toArray) {T0 : TypeId} {old : List Value} (hb : Blk w g T0 old) (hl : cs.length = old.length) (hi : (P.info? T).map (·.size) = some old.length) (hone : ∀ v ∈ cs, v.oneCell' = true)
    (h : ∀ W, Blk W g T0 cs → w.grownBy W (some g) → wpList P ops Q rest a W) : wpList P ops Q (o :: rest) a w := by
  have hput : a.put o.dst undef = a := by rw [hod]; rfl
  refine wpList_store_mid hgd T x y hop g 0 cs.toArray hx hy ?_ (hi.trans (by rw [← hl, List.size_toArray])) (all_oneCell_toArray hone) ?_
  · rw [List.size_toArray]
    exact hb.there 0 _ (by omega)
  · rw [hput]
    exact h _ (hb.setAll cs hl) (grown_setCells w g 0 cs)
/-- A part of an element of an owned row is stored. -/
theorem wpList_store_part {P : Program} {w : World} {α : Type} (E : Elem α) {B c : Nat} {L : List α} {ops : Array Oper} {rest : List Oper} {o : Oper} {a : Act} {Q : Exit → Act → World → Prop} (hgd : o.guard = none) (hod : o.dst = none) (T : TypeId) (x y : Operand) (hop : o.op = .store T x y) (g j k : Nat) (off : Nat) (hoff : off = j * E.sz + k)
    (hx : a.eval x = .pointer (some ⟨g, off, none⟩)) (cs : List Value) (hy : a.eval y = .agg cs.toArray) (ho : EOwn E w B (some ⟨g, 0, none⟩) c L) (hj : j < L.length) (X : α) (hk : k + cs.length ≤ E.sz) (hX : E.code X = setFrom (E.code L[j]) k cs)
    (hi : (P.info? T).map (·.size) = some cs.length) (hone : ∀ v ∈ cs, v.oneCell' = true)
    (h : ∀ W, EOwn E W B (some ⟨g, 0, none⟩) c (L.set j X) → w.grownBy W (some g) → wpList P ops Q rest a W) : wpList P ops Q (o :: rest) a w := by
  have hput : a.put o.dst undef = a := by rw [hod]; rfl
  subst hoff
  refine wpList_store_mid hgd T x y hop g _ cs.toArray hx hy ?_ (hi.trans (by rw [List.size_toArray])) (all_oneCell_toArray hone) ?_
  · rw [List.size_toArray]
    exact ho.there hj k _ hk
  · rw [hput]
    exact h _ (ho.storePart hj X k cs hk hX) (grown_setCells w g _ cs)
/-- The same, as one operation's run. -/
theorem run_store_part {P : Program} {w : World} {α : Type} {E : Elem α} {B c : Nat} {L : List α} (T : TypeId) (g j k : Nat) (cs : List Value) (ho : EOwn E w B (some ⟨g, 0, none⟩) c L) (hj : j < L.length) (hk : k + cs.length ≤ E.sz)
    (hi : (P.info? T).map (·.size) = some cs.length) (hone : ∀ v ∈ cs, v.oneCell' = true) :
    (Instr.storeAt T (.pointer (some ⟨g, j * E.sz + k, none⟩)) (.agg cs.toArray)).run P w = .ok () (w.setCells g (j * E.sz + k) cs) := by
  have := run_storeAt_mid (P := P) w g (j * E.sz + k) T cs.toArray (by rw [List.size_toArray]; exact ho.there hj k _ hk) (hi.trans (by rw [List.size_toArray])) (all_oneCell_toArray hone)
  simpa using this
theorem wpList_runv {P : Program} {w w' : World} {ops : Array Oper} {rest : List Oper} {o : Oper} {a : Act} {Q : Exit → Act → World → Prop} {x : Value} (hgd : o.guard = none) (hrun : (execOp a.eval o).run P w = .ok (.value x) w') (h : wpList P ops Q rest (a.put o.dst x) w') : wpList P ops Q (o :: rest) a w :=
  wpList_plain hgd fun _ hK => by
    unfold Oper.wp
    rw [hrun]
    exact hK _ _ h
theorem exec_copy {P : Program} {o : Oper} {a : Act} {w w' : World} {d s : Operand} {ts : Array TypeId} {x y r : Value} (hop : o.op = .call { callee := .builtin .copy, args := #[d, s], argTypes := ts })
    (hd : a.eval d = x) (hs : a.eval s = y) (hrun : (Builtin.copy_ ts o.type #[x, y]).run P w = .ok r w') : (execOp a.eval o).run P w = .ok (.value r) w' := by
  simp [execOp, hop, resolve, invoke, builtin, hd, hs, hrun, Result.andThen]
theorem exec_load {P : Program} {o : Oper} {a : Act} {w w' : World} {T : TypeId} {x : Operand} {p v : Value} (hop : o.op = .load T x) (hx : a.eval x = p) (hrun : (Instr.loadAt T p).run P w = .ok v w') : (execOp a.eval o).run P w = .ok (.value v) w' := by
  simp [execOp, hop, hx, hrun, Sem.run_bind]
theorem exec_store {P : Program} {o : Oper} {a : Act} {w w' : World} {T : TypeId} {x y : Operand} {p v : Value} (hop : o.op = .store T x y) (hx : a.eval x = p) (hy : a.eval y = v) (hrun : (Instr.storeAt T p v).run P w = .ok () w') : (execOp a.eval o).run P w = .ok .skip w' := by
  simp [execOp, hop, hx, hy, hrun, Sem.run_bind]
end Go.Proofs.Ythbanhedjfpmaaa
