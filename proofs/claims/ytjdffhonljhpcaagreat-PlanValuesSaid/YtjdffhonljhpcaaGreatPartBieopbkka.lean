/-
  Texts of a proof, one behind the other (each with its own head).
-/
import Derived.Test.YtjdffhonljhpcaaGreatPartAmobnbfgl
import Derived.Deep.MidRow
import Derived.Deep.WholeRow
import Derived.ArgAppend
import Derived.OrdersHeld
import Derived.Test.YtjdffhonljhpcaaGreatProg
import Derived.Lib.AppendZeros
import Derived.Laws.IdiomStrings
section
/-
  Many cells at once: stores in the midst of a row, new blocks of many cells.
-/
namespace Go.Proofs.YtjdffhonljhpcaaGreat
set_option linter.unusedSimpArgs false
set_option linter.unusedVariables false
open Go.RowKit

theorem storeFrom_eq : ∀ (vs : List Value) (w : World) (g i : Nat), storeFrom w g i vs = w.setCells g i vs
  | [], _, _, _ => rfl
  | v :: vs, w, g, i => storeFrom_eq vs _ g (i + 1)

section
variable {α : Type} {E : Elem α} {w w' : World} {B c : Nat} {A : Option Addr} {L : List α}
theorem Elem.cells_setPart (L : List α) (j : Nat) (hj : j < L.length) (x : α) (k : Nat) (vs : List Value) (hk : k + vs.length ≤ E.sz) (hx : E.code x = setFrom (E.code L[j]) k vs) :
    E.cells (L.set j x) = setFrom (E.cells L) (j * E.sz + k) vs := by
  have hlen : j * E.sz + E.sz ≤ L.length * E.sz := by
    have := Nat.mul_le_mul_right E.sz (show j + 1 ≤ L.length from hj)
    rw [Nat.succ_mul] at this
    exact this
  rw [E.cells_setAll L j hj x, hx]
  apply List.ext_getElem?
  intro i
  have g1 : ∀ xs : List Value, xs.length = E.sz → ∀ i, (setFrom (E.cells L) (j * E.sz) xs)[i]? = if j * E.sz ≤ i ∧ i < j * E.sz + xs.length then xs[i - j * E.sz]? else (E.cells L)[i]? := fun xs h i => setFrom_get xs _ _ i (by rw [h, E.cells_length]; exact hlen)
  have g2 := setFrom_get vs (E.cells L) (j * E.sz + k) i (by rw [E.cells_length]; omega)
  have g3 : ∀ i, (setFrom (E.code L[j]) k vs)[i]? = if k ≤ i ∧ i < k + vs.length then vs[i - k]? else (E.code L[j])[i]? := fun i => setFrom_get vs _ k i (by rw [E.len]; exact hk)
  have hl : (setFrom (E.code L[j]) k vs).length = E.sz := by rw [setFrom_length, E.len]
  rw [g1 _ hl, g2, hl]
  by_cases h : j * E.sz ≤ i ∧ i < j * E.sz + E.sz
  · rw [if_pos h, g3]
    by_cases h2 : j * E.sz + k ≤ i ∧ i < j * E.sz + k + vs.length
    · rw [if_pos (by omega), if_pos h2, show i - j * E.sz - k = i - (j * E.sz + k) from by omega]
    · rw [if_neg (by omega), if_neg h2, ← E.cells_get L j (i - j * E.sz) hj (by omega), show j * E.sz + (i - j * E.sz) = i from by omega]
  · rw [if_neg h, if_neg (by omega)]
/-- A part of an element is stored. -/
theorem EOwn.storePart {g : Nat} (h : EOwn E w B (some ⟨g, 0, none⟩) c L) {j : Nat} (hj : j < L.length) (x : α) (k : Nat) (vs : List Value) (hk : k + vs.length ≤ E.sz) (hx : E.code x = setFrom (E.code L[j]) k vs) :
    EOwn E (w.setCells g (j * E.sz + k) vs) B (some ⟨g, 0, none⟩) c (L.set j x) := by
  rw [← storeFrom_eq]
  unfold EOwn
  rw [E.cells_setPart L j hj x k vs hk hx, List.length_set]
  exact owns_storeFrom _ _ h
theorem setCells_other (w : World) (g i : Nat) (vs : List Value) (k : Nat) (h : k ≠ g) : (w.setCells g i vs).heap[k]? = w.heap[k]? := by
  rw [← storeFrom_eq]; exact storeFrom_other vs w i k h
theorem setCells_size : ∀ (vs : List Value) (w : World) (g i : Nat), (w.setCells g i vs).heap.size = w.heap.size
  | [], _, _, _ => rfl
  | v :: vs, w, g, i => by rw [World.setCells, setCells_size vs]; simp
theorem grown_setCells (w : World) (g i : Nat) (vs : List Value) : w.grownBy (w.setCells g i vs) (some g) := by
  have key : ∀ (vs : List Value) (w0 w : World) (i : Nat), w0.grownBy w (some g) → w0.grownBy (w.setCells g i vs) (some g) := by
    intro vs
    induction vs with
    | nil => exact fun _ _ _ h => h
    | cons v vs ih => exact fun w0 w i h => ih w0 _ (i + 1) (h.set_ ⟨g, i, none⟩ rfl v)
  exact key vs w w i ⟨rfl, rfl, rfl, Nat.le_refl _, fun _ _ _ => rfl⟩
theorem Blk.setCells {g : Nat} {T : TypeId} {cs : List Value} (h : Blk w g T cs) (i : Nat) (vs : List Value) : Blk (w.setCells g i vs) g T (setFrom cs i vs) := by
  have key : ∀ (vs : List Value) (w : World) (cs : List Value) (i : Nat), Blk w g T cs → Blk (w.setCells g i vs) g T (setFrom cs i vs) := by
    intro vs
    induction vs with
    | nil => exact fun _ _ _ h => h
    | cons v vs ih => exact fun w cs i h => ih _ _ (i + 1) (h.set i v)
  exact key vs w cs i h
theorem setFrom_all : ∀ (vs cs pre : List Value), vs.length = cs.length → setFrom (pre ++ cs) pre.length vs = pre ++ vs
  | [], cs, pre, h => by
    have : cs = [] := List.eq_nil_of_length_eq_zero (by simpa using h.symm)
    subst this; rfl
  | v :: vs, [], pre, h => by simp at h
  | v :: vs, x :: cs, pre, h => by
    rw [setFrom, List.set_append_right _ _ (Nat.le_refl _), Nat.sub_self]
    show setFrom (pre ++ v :: cs) (pre.length + 1) vs = _
    have := setFrom_all vs cs (pre ++ [v]) (by simpa using h)
    simpa using this
theorem Blk.setAll {g : Nat} {T : TypeId} {cs : List Value} (h : Blk w g T cs) (vs : List Value) (hl : vs.length = cs.length) : Blk (w.setCells g 0 vs) g T vs := by
  have := h.setCells 0 vs
  rwa [show setFrom cs 0 vs = vs from by simpa using setFrom_all vs cs [] hl] at this
theorem setFrom_part : ∀ (vs : List Value) (pre cs post : List Value), vs.length = cs.length → setFrom (pre ++ cs ++ post) pre.length vs = pre ++ vs ++ post
  | [], pre, cs, post, h => by
    have : cs = [] := List.eq_nil_of_length_eq_zero (by simpa using h.symm)
    subst this; rfl
  | v :: vs, pre, [], post, h => by simp at h
  | v :: vs, pre, x :: cs, post, h => by
    rw [setFrom, List.append_assoc, List.set_append_right _ _ (Nat.le_refl _), Nat.sub_self]
    have := setFrom_part vs (pre ++ [v]) cs post (by simpa using h)
    simpa using this
theorem Blk.there {g : Nat} {T : TypeId} {cs : List Value} (h : Blk w g T cs) (i n : Nat) (hn : i + n ≤ cs.length) : w.there g i n := fun j hj => by
  rw [h.cell, List.getElem?_eq_getElem (by omega)]
  exact ⟨rfl, h.free _⟩
theorem Blk.range {g : Nat} {T : TypeId} {cs : List Value} (h : Blk w g T cs) (i : Nat) (vs : List Value) (hv : ∀ j, j < vs.length → cs[i + j]? = vs[j]?) : w.rangeAt g i vs := fun j v hj => by
  have hl := (List.getElem?_eq_some_iff.1 hj).1
  rw [h.cell, hv j hl, hj]
theorem EOwn.range {g : Nat} (h : EOwn E w B (some ⟨g, 0, none⟩) c L) {j : Nat} (hj : j < L.length) (k : Nat) (vs : List Value) (hv : ∀ i, i < vs.length → (E.code L[j])[k + i]? = vs[i]?) : w.rangeAt g (j * E.sz + k) vs := fun i v hi => by
  have hl := (List.getElem?_eq_some_iff.1 hi).1
  have := h.cell (j := j) (k := k + i) hj (v := v) (by rw [hv i hl, hi])
  rw [Nat.add_assoc]; exact this
theorem EOwn.there {g : Nat} (h : EOwn E w B (some ⟨g, 0, none⟩) c L) {j : Nat} (hj : j < L.length) (k n : Nat) (hk : k + n ≤ E.sz) : w.there g (j * E.sz + k) n := fun i hi => by
  have hlt : k + i < (E.code L[j]).length := by rw [E.len]; omega
  have := h.cell (j := j) (k := k + i) hj (List.getElem?_eq_getElem hlt)
  rw [Nat.add_assoc, this]
  exact ⟨rfl, h.free _⟩
theorem ERow.range {j : Nat} (h : ERow E w A L) (hj : j < L.length) : ∃ b o, A = some ⟨b, o, none⟩ ∧ b < w.heap.size ∧ w.rangeAt b (o + j * E.sz) (E.code L[j]) := by
  obtain ⟨b, o, e, hb, hc⟩ := h.at_ hj
  exact ⟨b, o, e, hb, fun i v hi => by rw [Nat.add_assoc]; exact hc i v hi⟩
end
/-! New blocks of many cells -/
theorem run_alloc {P : Program} {w : World} {T : TypeId} {z : Value} (hz : (zeroValue T).run P w = .ok z w) : (Instr.alloc T true (.tuple #[])).run P w = .ok (.pointer (some ⟨w.heap.size, 0, none⟩)) (w.alloc (.cells z.cells T)) := by
  simp [Instr.alloc, Sem.run_bind, hz, newVar, newRow]
theorem wpList_alloc_z {P : Program} {w : World} {ops : Array Oper} {rest : List Oper} {o : Oper} {a : Act} {Q : Exit → Act → World → Prop} (hgd : o.guard = none) (T : TypeId) (hop : o.op = .alloc T) {z : Value} (hz : (zeroValue T).run P w = .ok z w)
    (h : ∀ W, w.alloc (.cells z.cells T) = W → wpList P ops Q rest (a.put o.dst (.pointer (some ⟨w.heap.size, 0, none⟩))) W) : wpList P ops Q (o :: rest) a w :=
  wpList_plain hgd fun _ hK => by
    unfold Oper.wp execOp
    simp only [hop, Sem.run_bind, run_alloc hz, Result.andThen_ok, Sem.run_pure]
    exact hK _ _ (h _ rfl)

/-- A whole block is stored anew. -/
theorem wpList_store_blk {P : Program} {w : World} {ops : Array Oper} {rest : List Oper} {o : Oper} {a : Act} {Q : Exit → Act → World → Prop} (hgd : o.guard = none) (hod : o.dst = none) (T : TypeId) (x y : Operand) (hop : o.op = .store T x y) (g : Nat) (hx : a.eval x = .pointer (some ⟨g, 0, none⟩))
    (cs : List Value) (hy : a.eval y = .agg cs.toArray) {T0 : TypeId} {old : List Value} (hb : Blk w g T0 old) (hl : cs.length = old.length) (hi : (P.info? T).map (·.size) = some old.length) (hone : ∀ v ∈ cs, v.oneCell' = true)
    (h : ∀ W, Blk W g T0 cs → w.grownBy W (some g) → wpList P ops Q rest a W) : wpList P ops Q (o :: rest) a w := by
  have hput : a.put o.dst undef = a := by rw [hod]; rfl
  refine wpList_store_mid hgd T x y hop g 0 cs.toArray hx hy ?_ (hi.trans (by rw [← hl, List.size_toArray])) (all_oneCell_toArray hone) ?_
  · rw [List.size_toArray]
    exact hb.there 0 _ (by omega)
  · rw [hput]
    exact h _ (hb.setAll cs hl) (grown_setCells w g 0 cs)
/-- A part of an element of an owned row is stored. -/
theorem wpList_store_part {P : Program} {w : World} {α : Type} (E : Elem α) {B c : Nat} {L : List α} {ops : Array Oper} {rest : List Oper} {o : Oper} {a : Act} {Q : Exit → Act → World → Prop} (hgd : o.guard = none) (hod : o.dst = none) (T : TypeId) (x y : Operand) (hop : o.op = .store T x y) (g j k : Nat) (off : Nat) (hoff : off = j * E.sz + k)
    (hx : a.eval x = .pointer (some ⟨g, off, none⟩)) (cs : List Value) (hy : a.eval y = .agg cs.toArray) (ho : EOwn E w B (some ⟨g, 0, none⟩) c L) (hj : j < L.length) (X : α) (hk : k + cs.length ≤ E.sz) (hX : E.code X = setFrom (E.code L[j]) k cs)
    (hi : (P.info? T).map (·.size) = some cs.length) (hone : ∀ v ∈ cs, v.oneCell' = true)
    (h : ∀ W, EOwn E W B (some ⟨g, 0, none⟩) c (L.set j X) → w.grownBy W (some g) → wpList P ops Q rest a W) : wpList P ops Q (o :: rest) a w := by
  have hput : a.put o.dst undef = a := by rw [hod]; rfl
  subst hoff
  refine wpList_store_mid hgd T x y hop g _ cs.toArray hx hy ?_ (hi.trans (by rw [List.size_toArray])) (all_oneCell_toArray hone) ?_
  · rw [List.size_toArray]
    exact ho.there hj k _ hk
  · rw [hput]
    exact h _ (ho.storePart hj X k cs hk hX) (grown_setCells w g _ cs)
/-- The same, as one operation's run. -/
theorem run_store_part {P : Program} {w : World} {α : Type} {E : Elem α} {B c : Nat} {L : List α} (T : TypeId) (g j k : Nat) (cs : List Value) (ho : EOwn E w B (some ⟨g, 0, none⟩) c L) (hj : j < L.length) (hk : k + cs.length ≤ E.sz)
    (hi : (P.info? T).map (·.size) = some cs.length) (hone : ∀ v ∈ cs, v.oneCell' = true) :
    (Instr.storeAt T (.pointer (some ⟨g, j * E.sz + k, none⟩)) (.agg cs.toArray)).run P w = .ok () (w.setCells g (j * E.sz + k) cs) := by
  have := run_storeAt_mid (P := P) w g (j * E.sz + k) T cs.toArray (by rw [List.size_toArray]; exact ho.there hj k _ hk) (hi.trans (by rw [List.size_toArray])) (all_oneCell_toArray hone)
  simpa using this
theorem wpList_runv {P : Program} {w w' : World} {ops : Array Oper} {rest : List Oper} {o : Oper} {a : Act} {Q : Exit → Act → World → Prop} {x : Value} (hgd : o.guard = none) (hrun : (execOp a.eval o).run P w = .ok (.value x) w') (h : wpList P ops Q rest (a.put o.dst x) w') : wpList P ops Q (o :: rest) a w :=
  wpList_plain hgd fun _ hK => by
    unfold Oper.wp
    rw [hrun]
    exact hK _ _ h
theorem exec_copy {P : Program} {o : Oper} {a : Act} {w w' : World} {d s : Operand} {ts : Array TypeId} {x y r : Value} (hop : o.op = .call { callee := .builtin .copy, args := #[d, s], argTypes := ts })
    (hd : a.eval d = x) (hs : a.eval s = y) (hrun : (Builtin.copy_ ts o.type #[x, y]).run P w = .ok r w') : (execOp a.eval o).run P w = .ok (.value r) w' := by
  simp [execOp, hop, resolve, invoke, builtin, hd, hs, hrun, Result.andThen]
theorem exec_load {P : Program} {o : Oper} {a : Act} {w w' : World} {T : TypeId} {x : Operand} {p v : Value} (hop : o.op = .load T x) (hx : a.eval x = p) (hrun : (Instr.loadAt T p).run P w = .ok v w') : (execOp a.eval o).run P w = .ok (.value v) w' := by
  simp [execOp, hop, hx, hrun, Sem.run_bind]
theorem exec_store {P : Program} {o : Oper} {a : Act} {w w' : World} {T : TypeId} {x y : Operand} {p v : Value} (hop : o.op = .store T x y) (hx : a.eval x = p) (hy : a.eval y = v) (hrun : (Instr.storeAt T p v).run P w = .ok () w') : (execOp a.eval o).run P w = .ok .skip w' := by
  simp [execOp, hop, hx, hy, hrun, Sem.run_bind]
end Go.Proofs.YtjdffhonljhpcaaGreat
end

section
/-
  Values of many cells that are built; a slice of one of them; append to a full row.
-/
namespace Go.Proofs.YtjdffhonljhpcaaGreat
set_option linter.unusedSimpArgs false
set_option linter.unusedVariables false
open Go.RowKit

theorem fold_set : ∀ (vs : List Value) (cells : Array Value) (off k : Nat), ((vs.zipIdx k).foldl (fun (cs : Array Value) (p : Value × Nat) => cs.setIfInBounds (off + p.2) p.1) cells).toList = setFrom cells.toList (off + k) vs
  | [], cells, off, k => rfl
  | v :: vs, cells, off, k => by
    rw [List.zipIdx_cons, List.foldl_cons, fold_set vs _ off (k + 1), setFrom]
    simp only [Array.toList_setIfInBounds]
    rw [Nat.add_assoc]
theorem fold_set_arr (v : Value) (cells : Array Value) (off : Nat) : v.cells.zipIdx.foldl (fun (cs : Array Value) (p : Value × Nat) => cs.setIfInBounds (off + p.2) p.1) cells = (setFrom cells.toList off v.cells.toList).toArray := by
  have h := fold_set v.cells.toList cells off 0
  rw [Nat.add_zero] at h
  rw [← h, Array.toArray_toList]
  rw [← Array.foldl_toList]
  congr 1
  simp [Array.toList_zipIdx]
/-- []T{x} of one element of many cells. -/
theorem run_buildSlice_one {α : Type} (E : Elem α) (x : α) (v : Value) (hv : v.cells.toList = E.code x) (hbig : E.sz ≤ 65536) (w : World) :
    (Instr.buildSlice E.t 1 #[(0, v)]).run Tryz.prog w = .ok (.slice (some ⟨w.heap.size, 0, none⟩) 1 1) (w.alloc (.cells (E.code x).toArray E.e)) := by
  obtain ⟨i, hi, hz, hsi, hby⟩ := info_parts E.info
  have hsz : v.cells.size = E.sz := by rw [← Array.length_toList, hv, E.len]
  have hpos := E.pos
  have hzero : ((Array.range E.sz).map fun j => E.zero.cells[j % E.zero.cells.size]!).size = E.sz := by simp
  have hfill : Instr.fill (fun i => some (i * E.sz, E.sz)) ((Array.range E.sz).map fun j => E.zero.cells[j % E.zero.cells.size]!) [(0, v)] = some (E.code x).toArray := by
    unfold Instr.fill
    simp only [Nat.zero_mul]
    rw [if_neg (by rw [hsz, hzero]; simp)]
    unfold Instr.fill
    have := fold_set_arr v ((Array.range E.sz).map fun j => E.zero.cells[j % E.zero.cells.size]!) 0
    have e := setFrom_all (E.code x) ((Array.range E.sz).map fun j => E.zero.cells[j % E.zero.cells.size]!).toList [] (by rw [E.len, Array.length_toList, hzero])
    simp only [List.nil_append, List.length_nil] at e
    rw [this, hv, e]
  simp only [Instr.buildSlice, Sem.run_bind, run_underlying E.under, Result.andThen_ok, sizeOf, typeInfo, Sem.run_pure]
  simp [hi, hsi, zeroValue, typeInfo, hz, newRow]
  rw [if_neg (by omega), if_neg (by omega), hfill]
  simp
theorem exec_buildSlice {P : Program} {o : Oper} {a : Act} {w w' : World} {T : TypeId} {x : Operand} {v r : Value} (hop : o.op = .buildSlice T 1 #[(0, x)]) (hx : a.eval x = v) (hrun : (Instr.buildSlice T 1 #[(0, v)]).run P w = .ok r w') : (execOp a.eval o).run P w = .ok (.value r) w' := by
  simp [execOp, hop, hx, hrun, Sem.run_bind]
theorem exec_append {P : Program} {o : Oper} {a : Act} {w w' : World} {d s : Operand} {ts : Array TypeId} {x y r : Value} (hop : o.op = .call { callee := .builtin .append, args := #[d, s], argTypes := ts })
    (hd : a.eval d = x) (hs : a.eval s = y) (hrun : (Builtin.append_ ts o.type #[x, y]).run P w = .ok r w') : (execOp a.eval o).run P w = .ok (.value r) w' := by
  simp [execOp, hop, resolve, invoke, builtin, hd, hs, hrun, Result.andThen]
/-- append to a row that is full, whoever's it is: a new one. -/
theorem run_append_full {α : Type} (E : Elem α) {w : World} {A A' : Option Addr} {c' : Nat} {L M : List α} (ty : TypeId) (hr : ERow E w A L) (hr' : ERow E w A' M) (hM : 0 < M.length) (hb : L.length + M.length ≤ 1073741824) (hnone : A = none → L = []) :
    ∃ A1 c1 w1, (Builtin.append_ #[E.t, E.t] ty #[.slice A L.length L.length, .slice A' M.length c']).run Tryz.prog w = .ok (.slice A1 (L.length + M.length) c1) w1 ∧ EOwn E w1 w.heap.size A1 c1 (L ++ M) ∧ Below w.heap.size w w1 := by
  obtain ⟨i, hi, hz, hsi, hby⟩ := info_parts E.info
  obtain ⟨b, o, rfl, hlt, hc⟩ := hr' hM
  have hcells : ∀ j u, (E.cells M)[j]? = some u → w.cell? ((⟨b, o, none⟩ : Addr).add j) = some u := fun j u hu => by rw [Addr.add_lit]; exact hc j u hu
  have hbig : (L.length + M.length) * E.bytes ≤ 140737488355328 := by
    have h1 := Nat.mul_le_mul hb E.few
    omega
  cases A with
  | some ad =>
    have hold : ∀ j u, (E.cells L)[j]? = some u → w.cell? (ad.add j) = some u := by
      intro j u hu
      have hj := (List.getElem?_eq_some_iff.1 hu).1
      rw [E.cells_length] at hj
      obtain ⟨b', o', h, _, hc'⟩ := hr (by
        rcases Nat.eq_zero_or_pos L.length with h0 | h0
        · rw [h0] at hj; simp at hj
        · exact h0)
      obtain rfl := Option.some.inj h
      rw [Addr.add_lit]
      exact hc' j u hu
    obtain ⟨v', w', hrun, r1, r2⟩ := run_append_arg_grows (P := Tryz.prog) w E.t ty E.e i E.zero E.sz E.bytes E.under hi hz hsi hby E.zsz E.pos ad L.length L.length (E.cells L) (E.cells_length L) hold ⟨b, o, none⟩ M.length c' (E.cells M) (E.cells_length M) hcells (by omega) (by simp [maxLen]; omega) hbig
    obtain ⟨A1, c1, rfl⟩ := own_slice r1
    refine ⟨A1, c1, w', hrun, ?_, (Below.refl _ w).grown r2 (Nat.le_refl _) (fun k hk => by cases hk)⟩
    unfold EOwn
    rw [E.cells_append, List.length_append]
    exact r1
  | none =>
    have hl := hnone rfl
    subst hl
    obtain ⟨v', w', hrun, r1, r2, _⟩ := run_append_own (P := Tryz.prog) w w.heap.size E.t ty E.e i E.zero E.sz E.bytes E.under hi hz hsi hby E.zsz E.pos (.slice none 0 0) 0 [] (World.ownsRow_nil w _ E.e E.sz) ⟨b, o, none⟩ M.length c' (E.cells M) (E.cells_length M) hcells (E.cells_one M) (by simp [maxLen]; omega) (by simpa using hbig) (Nat.le_refl _)
    obtain ⟨A1, c1, rfl⟩ := own_slice r1
    refine ⟨A1, c1, w', by simpa using hrun, ?_, (Below.refl _ w).grown r2 (Nat.le_refl _) (fun k hk => by simp [Value.ownBlock] at hk)⟩
    unfold EOwn
    simpa using r1
end Go.Proofs.YtjdffhonljhpcaaGreat
end

section
/-
  A rule for a region that draws its order: one walk of an order of one's own serves every order. Operations that leave the world as it is are taken as soon as they may be; behind each other operation, those of them that do not precede it are run once more and must come to the same value.
-/
namespace Go.Proofs.YtjdffhonljhpcaaGreat
set_option linter.unusedSimpArgs false
set_option linter.unusedVariables false
open Go

/-- A plan: which operations are taken first, which are run, which are run once more behind it. -/
inductive Plan where
  | fin
  | take (i : Nat) (p : Plan)
  | run (e : Nat) (ag : List Nat) (p : Plan)
  | fork (p q : Plan)

/-- Operation j waits for operation i, through others. -/
def dep (l : List Oper) : Nat → Nat → Nat → Bool
  | 0, _, _ => false
  | f + 1, j, i => Nat.blt i j && (match l[j]? with | some o => o.after.toList.any fun e => Region.binds .any e && (e.on == i || dep l f e.on i) | none => false)
/-- An operation whose run comes to a value, or to none at all. -/
def valueB (o : Oper) : Bool := match o.op with
  | .move _ | .assign _ | .pick .. | .alloc _ | .box .. | .build .. | .buildSlice .. | .load .. | .nilCheck _ | .binOp .. | .unOp .. | .convert .. | .makeInterface .. | .makeSlice .. | .slice .. | .fieldAddr .. | .field .. | .indexAddr .. | .index .. | .lookup .. | .typeAssert .. | .extract .. => true
  | .call { callee := .builtin b, .. } => (match b with | .len | .cap | .max | .min => true | _ => false)
  | _ => false
/-- Operation k writes nothing that operation i looks at or writes. -/
def wApart (l : List Oper) (i k : Nat) : Bool := match l[i]?, l[k]? with
  | some oi, some ok => (match ok.dst with | some d => !(oi.looksAt l.toArray).contains d && oi.dst != some d | none => true)
  | _, _ => false
def heads : Plan → List Nat
  | .run e _ _ => [e]
  | .fork p q => heads p ++ heads q
  | _ => []
def okB (l : List Oper) : Bool → Plan → Nat → Array Bool → List Nat → Bool
  | _, .fin, _, listed, _ => (Region.ready .any l.toArray listed).isEmpty
  | _, .take i p, fuel + 1, listed, Y => (Region.ready .any l.toArray listed).contains i && Region.free .any l.toArray listed i &&
      (match l[i]? with | some o => valueB o && (match o.dst with | some d => !(o.looksAt l.toArray).contains d | none => false) | none => false) &&
      Y.all (fun k => wApart l k i) && okB l true p fuel (listed.setIfInBounds i true) (i :: Y)
  | top, .run e ag p, fuel + 1, listed, Y => (!top || (Region.ready .any l.toArray listed).all (fun j => e == j)) && (l[e]?).isSome && (Region.ready .any l.toArray listed).contains e &&
      Y.all (fun k => wApart l k e && (dep l l.length e k || ag.contains k)) && okB l true p fuel (listed.setIfInBounds e true) (Y.filter fun k => !dep l l.length e k)
  | top, .fork p q, fuel, listed, Y => (heads p).any (fun j => (Region.ready .any l.toArray listed).contains j) && (!top || (Region.ready .any l.toArray listed).all (fun j => (heads p ++ heads q).contains j)) && okB l false p fuel listed Y && okB l false q fuel listed Y
  | _, _, _, _, _ => false

section
variable (P : Program) (ops : Array Oper) (Q : Exit → Act → World → Prop)
/-- The operation numbered i. -/
def sel (i : Nat) : List Oper := match ops[i]? with | some o => [o] | none => []
/-- The operations ag are run once more, and come to what the frame holds. -/
def again (T : Act → World → Prop) : List Nat → Act → World → Prop
  | [], a, w => T a w
  | i :: r, a, w => ∀ Z : Exit → Act → World → Prop, (again T r a w → Z .normal a w) → wpList P ops Z (sel ops i) a w
def walk : Plan → Act → World → Prop
  | .fin, a, w => Q .normal a w
  | .take i p, a, w => ∀ Z : Exit → Act → World → Prop, (∀ a', walk p a' w → Z .normal a' w) → wpList P ops Z (sel ops i) a w
  | .run e ag p, a, w => ∀ Z : Exit → Act → World → Prop, (∀ a' w', again P ops (walk p) ag a' w' → Z .normal a' w') → wpList P ops Z (sel ops e) a w
  | .fork p q, a, w => walk p a w ∧ walk q a w
end

/-! ### The rule's proof -/
section
variable {P : Program} {ops : Array Oper} {Q : Exit → Act → World → Prop}

/-- Q, and nothing but the normal end. -/
def Only (Q : Exit → Act → World → Prop) : Exit → Act → World → Prop := fun e a w => e = .normal ∧ Q .normal a w
theorem not_letsOut (Q : Exit → Act → World → Prop) : ¬ LetsOut (Only Q) := fun ⟨_, _, h, _⟩ => by cases h

theorem upon_cases {o : Oper} {a : Act} {K : Act → World → Prop} {Z : Exit → Act → World → Prop} {r : Result Next} (hZ : ∀ a w, ¬ Z .outgrown a w) (hp : ∀ c a w, ¬ Z (.panic c) a w)
    (h : o.upon P a K Z r) : (∃ v w', r = .ok (.value v) w' ∧ K (a.put o.dst v) w') ∨ (∃ w', r = .ok .skip w' ∧ K (a.put o.dst undef) w') ∨ (∃ d w', r = .ok (.defer d) w' ∧ K ({ a with defers := d :: a.defers }.put o.dst undef) w') ∨
      (∃ f args w', r = .ok (.enter f args) w' ∧ Calls P f args w' fun e w'' => ∃ v, e = .returned v ∧ K (a.put o.dst v) w'') ∨ (∃ row args w', r = .ok (.row row args) w' ∧ Rows P row args w' fun v w'' => K (a.put o.dst v) w'') := by
  cases r with
  | ok n w' =>
    cases n <;> simp only [Oper.upon] at h
    case value v => exact .inl ⟨v, w', rfl, h⟩
    case skip => exact .inr (.inl ⟨w', rfl, h⟩)
    case defer d => exact .inr (.inr (.inl ⟨d, w', rfl, h⟩))
    case enter f args =>
      refine .inr (.inr (.inr (.inl ⟨f, args, w', rfl, h.mono fun e w'' he => ?_⟩)))
      cases e with
      | returned v => exact ⟨v, rfl, he⟩
      | panicked c => exact absurd he (hp _ _ _)
      | outgrown => obtain ⟨_, _, h⟩ := he; exact absurd h (hZ _ _)
    case row row args => exact .inr (.inr (.inr (.inr ⟨row, args, w', rfl, h⟩)))
  | halt x w' =>
    cases x <;> simp only [Oper.upon] at h
    exact absurd h (hp _ _ _)

/-- From a walk that ends normally to any Q', with what is known of the frame. -/
theorem upon_back {o : Oper} {a : Act} {K K' : Act → World → Prop} {Q' : Exit → Act → World → Prop} {r : Result Next} (hK : ∀ ds v w', K ({ a with defers := ds }.put o.dst v) w' → K' ({ a with defers := ds }.put o.dst v) w')
    (h : (∃ v w', r = .ok (.value v) w' ∧ K (a.put o.dst v) w') ∨ (∃ w', r = .ok .skip w' ∧ K (a.put o.dst undef) w') ∨ (∃ d w', r = .ok (.defer d) w' ∧ K ({ a with defers := d :: a.defers }.put o.dst undef) w') ∨
      (∃ f args w', r = .ok (.enter f args) w' ∧ Calls P f args w' fun e w'' => ∃ v, e = .returned v ∧ K (a.put o.dst v) w'') ∨ (∃ row args w', r = .ok (.row row args) w' ∧ Rows P row args w' fun v w'' => K (a.put o.dst v) w'')) :
    o.upon P a K' Q' r := by
  rcases h with ⟨v, w', rfl, h⟩ | ⟨w', rfl, h⟩ | ⟨d, w', rfl, h⟩ | ⟨f, args, w', rfl, h⟩ | ⟨row, args, w', rfl, h⟩
  · exact hK a.defers _ _ h
  · exact hK a.defers _ _ h
  · exact hK _ _ _ h
  · refine Calls.mono h fun e w'' he => ?_
    obtain ⟨v, rfl, hk⟩ := he
    exact hK a.defers _ _ hk
  · exact Rows.mono h fun v w'' hk => hK a.defers _ _ hk

/-- One operation, walked to a normal end. -/
theorem wpOp_of_list {i : Nat} {o : Oper} {a : Act} {w : World} {Z : Exit → Act → World → Prop} {K' : Act → World → Prop} {Q' : Exit → Act → World → Prop} (hi : ops[i]? = some o)
    (hK : ∀ ds v w', Z .normal ({ a with defers := ds }.put o.dst v) w' → K' ({ a with defers := ds }.put o.dst v) w') (h : wpList P ops (Only Z) [o] a w) : wpOp P ops Q' i K' a w := by
  unfold wpOp
  simp only [hi]
  unfold wpList at h
  split
  · rename_i hw
    rw [if_pos hw] at h
    rcases h with h | h
    · refine .inl (upon_back (K := fun a w => Z .normal a w) hK ?_)
      have h2 := upon_cases (fun a w h => by cases h.1) (fun c a w h => by cases h.1) h
      simpa only [wpList, Only, true_and] using h2
    · exact absurd h.2 (not_letsOut Z)
  · rename_i hw
    rw [if_neg hw] at h
    exact hK a.defers _ _ h.2

theorem run_value {α : Type} {s : Sem α} {f : α → Next} {w w' : World} {n : Next} (hf : ∀ x, ∃ v, f x = .value v) (h : (s >>= fun x => (pure (f x) : Sem Next)).run P w = .ok n w') : ∃ v, n = .value v := by
  rw [Sem.run_bind] at h
  cases hs : s.run P w with
  | ok x w1 =>
    rw [hs] at h
    simp only [Result.andThen_ok, Sem.run_pure, Result.ok.injEq] at h
    obtain ⟨v, hv⟩ := hf x
    exact ⟨v, by rw [← h.1, hv]⟩
  | halt e w1 => rw [hs] at h; cases h
theorem valueB_spec {ρ : Operand → Value} {o : Oper} (hv : valueB o = true) {w w' : World} {n : Next} (h : (execOp ρ o).run P w = .ok n w') : ∃ v, n = .value v := by
  obtain ⟨dst, op, type, pos, after, guard⟩ := o
  cases op <;> simp only [valueB] at hv <;> (try (cases hv; done)) <;> simp only [execOp] at h
  case move => simp only [Sem.run_pure, Result.ok.injEq] at h; exact ⟨_, h.1.symm⟩
  case assign => simp only [Sem.run_pure, Result.ok.injEq] at h; exact ⟨_, h.1.symm⟩
  case nilCheck x =>
    generalize ρ x = y at h
    split at h <;> (try (simp only [Sem.run_pure, Result.ok.injEq] at h; exact ⟨_, h.1.symm⟩)) <;> (try (simp only [runtimePanic, goPanic, Sem.run_bind, run_program, Result.andThen_ok, Sem.run_halt] at h; cases h; done))
    split at h <;> (try (simp only [Sem.run_pure, Result.ok.injEq] at h; exact ⟨_, h.1.symm⟩)) <;> (try (simp only [runtimePanic, goPanic, Sem.run_bind, run_program, Result.andThen_ok, Sem.run_halt] at h; cases h; done))
    rw [Sem.run_bind] at h
    simp only [run_program, Result.andThen_ok] at h
    rw [Sem.run_bind] at h
    cases hn : (nilAhead (P.types.size + Made.depth) _ _ _).run P w with
    | halt e w1 => rw [hn] at h; cases h
    | ok r w1 =>
      rw [hn] at h
      simp only [Result.andThen_ok] at h
      split at h
      · cases h
      · simp only [Sem.run_pure, Result.ok.injEq] at h; exact ⟨_, h.1.symm⟩
  case call c =>
    obtain ⟨callee, args, argTypes⟩ := c
    cases callee <;> simp only [valueB] at hv <;> (try (cases hv; done))
    rename_i b
    simp only [resolve, Sem.run_bind, Sem.run_pure, Result.andThen_ok, invoke] at h
    cases b <;> simp only at hv <;> (try (cases hv; done)) <;> simp only [builtin] at h <;> exact run_value (fun x => ⟨_, rfl⟩) h
  all_goals exact run_value (fun x => ⟨_, rfl⟩) h

theorem put_size (a : Act) (d : Option Tmp) (v : Value) : (a.put d v).tmps.size = a.tmps.size := by cases d <;> simp [Act.put]
theorem slot_put {a : Act} {t : Tmp} (v : Value) (h : t < a.tmps.size) : slotOf (a.put (some t) v) (some t) = v := by simp [slotOf, Act.put, h]
theorem slot_put_ne {a : Act} {t : Tmp} {d : Option Tmp} (v : Value) (h : d ≠ some t) : slotOf (a.put d v) (some t) = slotOf a (some t) := by
  cases d with
  | none => rfl
  | some d =>
    have hne : d ≠ t := fun e => h (by rw [e])
    simp [slotOf, Act.put, Array.getElem?_setIfInBounds_ne hne]

/-- In the frame a and the world w' the operation comes to v, if it is wanted. -/
def Cond (P : Program) (ops : Array Oper) (o : Oper) (v : Value) (a : Act) (w' : World) : Prop := Region.wanted o (yielded ops a.tmps) = true → (execOp a.eval o).run P w' = .ok (.value v) w'

theorem Cond.put {o : Oper} {v : Value} {a : Act} {w' : World} {ds : List Deferred} {d : Option Tmp} {u : Value} (hs : ∀ cs b, o.op ≠ .select cs b) (h : ∀ t, d = some t → t ∉ o.looksAt ops)
    (hc : Cond P ops o v ({ a with defers := ds }.put d u) w') : Cond P ops o v a w' := by
  unfold Cond at *
  rw [execOp_put o hs { a with defers := ds } d u h, wanted_put o { a with defers := ds } d u h] at hc
  exact hc

/-- What is known of an operation that was taken. -/
def Taken (P : Program) (ops : Array Oper) (a : Act) (y : Nat × (World → Prop)) : Prop :=
  ∃ o t, ops[y.1]? = some o ∧ o.dst = some t ∧ t < a.tmps.size ∧ valueB o = true ∧ ∀ w', Cond P ops o (slotOf a (some t)) a w' → y.2 w'

theorem Taken.put {l : List Oper} {a : Act} {y : Nat × (World → Prop)} (h : Taken P l.toArray a y) (hsel : ∀ (j : Nat) (o : Oper) cs b, l.toArray[j]? = some o → o.op ≠ .select cs b) {k : Nat} {ok : Oper} (hk : l[k]? = some ok) (hw : wApart l y.1 k = true)
    (ds : List Deferred) (u : Value) : Taken P l.toArray ({ a with defers := ds }.put ok.dst u) y := by
  obtain ⟨o, t, ho, ht, hlt, hv, hS⟩ := h
  have hol : l[y.1]? = some o := by simpa using ho
  have hap : ∀ d, ok.dst = some d → d ∉ o.looksAt l.toArray ∧ o.dst ≠ some d := by
    intro d hd
    simp only [wApart, hol, hk, hd] at hw
    simpa using hw
  refine ⟨o, t, ho, ht, by rw [put_size]; exact hlt, hv, fun w' hc => hS w' ?_⟩
  rw [slot_put_ne (a := { a with defers := ds }) u (by intro e; exact (hap t e).2 ht)] at hc
  exact Cond.put (hsel _ _ · · ho) (fun d hd => (hap d hd).1) hc

/-- Whatever order is picked from here on; the conditions Y (each of an operation that was taken first) hold behind every operation that is carried out, until one that waits for it is. -/
def wpAnyY (P : Program) (ops : Array Oper) (dp : Nat → Nat → Bool) (Q : Exit → Act → World → Prop) : Nat → List (Nat × (World → Prop)) → Array Bool → Act → World → Prop
  | 0, _, listed, a, w => Region.ready .any ops listed = [] ∧ Q .normal a w
  | fuel + 1, Y, listed, a, w =>
    (Region.ready .any ops listed = [] → Q .normal a w) ∧
    ∀ j ∈ Region.ready .any ops listed, wpOp P ops Q j (fun a' w' => (∀ y ∈ Y, dp j y.1 = false → y.2 w') ∧ wpAnyY P ops dp Q fuel (Y.filter fun y => !dp j y.1) (listed.setIfInBounds j true) a' w') a w

theorem wpAny_of_Y {dp : Nat → Nat → Bool} : ∀ (fuel : Nat) (Y : List (Nat × (World → Prop))) (listed : Array Bool) (a : Act) (w : World), wpAnyY P ops dp Q fuel Y listed a w → wpAny P .any ops Q fuel listed a w
  | 0, _, _, _, _, h => h
  | fuel + 1, _, _, _, _, h => ⟨h.1, fun i hi => wpOp_mono (fun a' w' h' => wpAny_of_Y fuel _ _ a' w' h'.2) (h.2 i hi)⟩
theorem wpAnyY_less {dp : Nat → Nat → Bool} : ∀ (fuel : Nat) (Y Y' : List (Nat × (World → Prop))) (listed : Array Bool) (a : Act) (w : World), (∀ y ∈ Y', y ∈ Y) → wpAnyY P ops dp Q fuel Y listed a w → wpAnyY P ops dp Q fuel Y' listed a w
  | 0, _, _, _, _, _, _, h => h
  | fuel + 1, Y, Y', _, _, _, hY, h => ⟨h.1, fun i hi => wpOp_mono (fun a' w' h' => ⟨fun y hy hd => h'.1 y (hY y hy) hd, wpAnyY_less fuel _ _ _ a' w' (fun y hy => by
      rw [List.mem_filter] at hy ⊢
      exact ⟨hY y hy.1, hy.2⟩) h'.2⟩) (h.2 i hi)⟩

/-- Whoever is listed has those listed that it waits for. -/
def Closed (ops : Array Oper) (listed : Array Bool) : Prop := ∀ j o, ops[j]? = some o → listed.getD j false = true → ∀ e ∈ o.after, Region.binds .any e = true → listed.getD e.on false = true
theorem Closed.set {listed : Array Bool} (h : Closed ops listed) {i : Nat} (hi : i ∈ Region.ready .any ops listed) : Closed ops (listed.setIfInBounds i true) := by
  intro j o hj hl e he hb
  by_cases hij : i = j
  · subst hij
    obtain ⟨_, o', ho', hall⟩ := mem_ready.1 hi
    obtain rfl : o' = o := by rw [hj] at ho'; exact (Option.some.inj ho').symm
    exact getD_set_true (hall e he hb)
  · rw [getD_set_ne false hij] at hl
    exact getD_set_true (h j o hj hl e he hb)
theorem dep_closed {l : List Oper} {listed : Array Bool} (h : Closed l.toArray listed) : ∀ (f j i : Nat), listed.getD j false = true → dep l f j i = true → listed.getD i false = true
  | 0, _, _, _, hd => by cases hd
  | f + 1, j, i, hj, hd => by
    simp only [dep, Bool.and_eq_true] at hd
    obtain ⟨-, hd⟩ := hd
    split at hd
    · rename_i o ho
      obtain ⟨e, he, hb⟩ := List.any_eq_true.1 hd
      rw [Bool.and_eq_true, Bool.or_eq_true] at hb
      have h1 := h j o (by simpa using ho) hj e (by simpa using he) hb.1
      rcases hb.2 with h2 | h2
      · have : e.on = i := by simpa using h2
        rwa [this] at h1
      · exact dep_closed h f e.on i h1 h2
    · cases hd
theorem dep_ready {l : List Oper} {listed : Array Bool} (h : Closed l.toArray listed) {f j i : Nat} (hj : j ∈ Region.ready .any l.toArray listed) (hi : listed.getD i true = false) (hne : j ≠ i) : dep l f j i = false := by
  cases hd : dep l f j i with
  | false => rfl
  | true =>
    have hjl : (listed.setIfInBounds j true).getD j false = true := by
      have h0 := (mem_ready.1 hj).1
      rcases Nat.lt_or_ge j listed.size with h' | h'
      · simp [h']
      · simp [Array.getElem?_eq_none h'] at h0
    have h1 := dep_closed (h.set hj) f j i hjl hd
    rw [getD_set_ne false hne] at h1
    rcases Nat.lt_or_ge i listed.size with h' | h'
    · simp [h'] at h1 hi; rw [h1] at hi; cases hi
    · simp [Array.getElem?_eq_none h'] at hi

/-- An operation that may come up now may be taken first. -/
theorem wpAnyY_first {l : List Oper} {f : Nat} {i : Nat} {oi : Oper} {v : Value} {S : World → Prop} (hi : l.toArray[i]? = some oi) (hsel : ∀ (j : Nat) (o : Oper) cs b, l.toArray[j]? = some o → o.op ≠ .select cs b)
    (hQ : ∀ c a w, Q (.panic c) (a.put oi.dst v) w → Q (.panic c) a w) :
    ∀ (fuel : Nat) (Y : List (Nat × (World → Prop))) (listed : Array Bool) (a : Act) (w : World), Closed l.toArray listed →
      (∀ j oj, l.toArray[j]? = some oj → j ≠ i → listed.getD j true = false → (∀ e ∈ oj.after, Region.binds .any e = true → e.on ≠ i) → oi.apart l.toArray oj = true) →
      i ∈ Region.ready .any l.toArray listed → YieldsIf P l.toArray S oi v a → S w → (∀ y ∈ Y, y.2 w) →
      wpAnyY P l.toArray (dep l f) Q fuel ((i, S) :: Y) (listed.setIfInBounds i true) (a.put oi.dst v) w → wpAnyY P l.toArray (dep l f) Q (fuel + 1) Y listed a w := by
  intro fuel
  induction fuel with
  | zero =>
    intro Y listed a w hcl _ hr hy hS hYw H
    refine ⟨fun h => (by rw [h] at hr; cases hr), fun j hj => ?_⟩
    by_cases hji : j = i
    · subst hji; exact hy.wpOp hi hS ⟨fun y hy _ => hYw y hy, H⟩
    · have := ready_mono hj hji
      rw [H.1] at this
      cases this
  | succ fuel ih =>
    intro Y listed a w hcl hfree hr hy hS hYw H
    refine ⟨fun h => (by rw [h] at hr; cases hr), fun j hj => ?_⟩
    by_cases hji : j = i
    · subst hji
      exact hy.wpOp hi hS ⟨fun y hy _ => hYw y hy, wpAnyY_less _ _ _ _ _ _ (fun y hy => List.mem_cons_of_mem _ ((List.mem_filter.1 hy).1)) H⟩
    · have h1 := H.2 j (ready_mono hj hji)
      obtain ⟨hjun, oj, hoj, hall⟩ := mem_ready.1 hj
      have hdep : dep l f j i = false := dep_ready hcl hj (mem_ready.1 hr).1 hji
      have hnot : ∀ e ∈ oj.after, Region.binds .any e = true → e.on ≠ i := fun e he hb heq => by
        have h1 := hall e he hb
        have h0 := (mem_ready.1 hr).1
        rw [heq] at h1
        rcases Nat.lt_or_ge i listed.size with h' | h'
        · simp [h'] at h0 h1; rw [h0] at h1; cases h1
        · simp [Array.getElem?_eq_none h'] at h1
      have h2 := wpOp_putIf hoj (hfree j oj hoj hji hjun hnot) (fun cs b => hsel i oi cs b hi) (fun cs b => hsel j oj cs b hoj) hQ hy h1
      have hfree' : ∀ k ok, l.toArray[k]? = some ok → k ≠ i → (listed.setIfInBounds j true).getD k true = false →
          (∀ e ∈ ok.after, Region.binds .any e = true → e.on ≠ i) → oi.apart l.toArray ok = true := fun k ok hk hki hun hno => by
        refine hfree k ok hk hki ?_ hno
        by_cases hjk : j = k
        · subst hjk; exact hjun
        · rw [getD_set_ne true hjk] at hun; exact hun
      refine wpOp_mono (fun a' w' h3 => ?_) h2
      obtain ⟨h4, h5, h6⟩ := h3
      refine ⟨fun y hy hd => h5 y (List.mem_cons_of_mem _ hy) hd, ?_⟩
      refine ih _ (listed.setIfInBounds j true) a' w' (hcl.set hj) hfree' (ready_mono hr (Ne.symm hji)) h4 (h5 (i, S) (List.mem_cons_self ..) hdep) (fun y hy => ?_) ?_
      · rw [List.mem_filter] at hy
        exact h5 y (List.mem_cons_of_mem _ hy.1) (by simpa using hy.2)
      · rw [Array.setIfInBounds_comm _ _ hji, List.filter_cons_of_pos (by simp [hdep])] at *
        exact h6

theorem sel_some {i : Nat} {o : Oper} (h : ops[i]? = some o) : sel ops i = [o] := by simp [sel, h]
/-- What 'again' says of each. -/
theorem again_spec {T : Act → World → Prop} {a : Act} {w : World} : ∀ {ag : List Nat}, again P ops T ag a w → T a w ∧ ∀ i ∈ ag, ∀ o t, ops[i]? = some o → o.dst = some t → t < a.tmps.size → valueB o = true → Cond P ops o (slotOf a (some t)) a w
  | [], h => ⟨h, fun i hi => by cases hi⟩
  | i :: r, h => by
    have h0 : wpList P ops (Only fun _ a1 w1 => a1 = a ∧ w1 = w ∧ again P ops T r a w) (sel ops i) a w := h _ fun hr => ⟨rfl, rfl, rfl, hr⟩
    have key : again P ops T r a w ∧ ∀ o t, ops[i]? = some o → o.dst = some t → t < a.tmps.size → valueB o = true → Cond P ops o (slotOf a (some t)) a w := by
      cases hi : ops[i]? with
      | none =>
        have : sel ops i = [] := by simp [sel, hi]
        rw [this] at h0
        exact ⟨h0.2.2.2, fun o t ho => by cases ho⟩
      | some o =>
        rw [sel_some hi] at h0
        unfold wpList at h0
        by_cases hw : Region.wanted o (yielded ops a.tmps) = true
        · rw [if_pos hw] at h0
          have h1 := h0.resolve_right fun h => not_letsOut _ h.2
          have h2 := upon_cases (fun a w h => by cases h.1) (fun c a w h => by cases h.1) h1
          simp only [wpList, Only, true_and] at h2
          have h3 : again P ops T r a w := by
            rcases h2 with ⟨_, _, _, h⟩ | ⟨_, _, h⟩ | ⟨_, _, _, h⟩ | ⟨f, args, w', _, h⟩ | ⟨row, args, w', _, h⟩
            · exact h.2.2
            · exact h.2.2
            · exact h.2.2
            · obtain ⟨_, _, _, ⟨_, _, _, _, h⟩, _⟩ := h []
              exact h
            · obtain ⟨_, _, ⟨_, _, h⟩, _⟩ := h default []
              exact h
          refine ⟨h3, fun o' t ho ht hlt hv _ => ?_⟩
          obtain rfl : o = o' := Option.some.inj ho
          have hnv : ∀ {n : Next} {w' : World}, (execOp a.eval o).run P w = .ok n w' → ∃ v, n = .value v := fun h => valueB_spec hv h
          have hval : ∀ v w', (execOp a.eval o).run P w = .ok (.value v) w' → a.put o.dst v = a → w' = w → (execOp a.eval o).run P w = .ok (.value (slotOf a (some t))) w := by
            intro v w' hr hp hw'
            have : slotOf (a.put (some t) v) (some t) = v := slot_put v hlt
            rw [ht] at hp
            rw [hp] at this
            rw [hr, this, hw']
          rcases h2 with ⟨v, w', hr, h⟩ | ⟨_, hr, h⟩ | ⟨_, _, hr, h⟩ | ⟨f, args, w', hr, h⟩ | ⟨row, args, w', hr, h⟩
          · exact hval v w' hr h.1 h.2.1
          · obtain ⟨v, hv⟩ := hnv hr; cases hv
          · obtain ⟨v, hv⟩ := hnv hr; cases hv
          · obtain ⟨v, hv⟩ := hnv hr; cases hv
          · obtain ⟨v, hv⟩ := hnv hr; cases hv
        · rw [if_neg hw] at h0
          exact ⟨h0.2.2.2, fun o' t ho _ _ _ hw' => by obtain rfl : o = o' := Option.some.inj ho; exact absurd hw' hw⟩
    obtain ⟨h1, h2⟩ := again_spec key.1
    refine ⟨h1, fun k hk => ?_⟩
    cases hk with
    | head => exact key.2
    | tail _ hk => exact h2 k hk

theorem wpAnyY_done {dp : Nat → Nat → Bool} {listed : Array Bool} {Y : List (Nat × (World → Prop))} {a : Act} {w : World} (hr : Region.ready .any ops listed = []) (h : Q .normal a w) : ∀ fuel, wpAnyY P ops dp Q fuel Y listed a w
  | 0 => ⟨hr, h⟩
  | _ + 1 => ⟨fun _ => h, by rw [hr]; simp⟩
/-- The rule, by induction on the plan. -/
theorem wpAnyY_of_walk {l : List Oper} (hsel : ∀ (j : Nat) (o : Oper) cs b, l.toArray[j]? = some o → o.op ≠ .select cs b) :
    ∀ (p : Plan) (top : Bool) (fuel : Nat) (Y : List (Nat × (World → Prop))) (listed : Array Bool) (a : Act) (w : World), okB l top p fuel listed (Y.map (·.1)) = true → Closed l.toArray listed → (∀ y ∈ Y, y.2 w) → (∀ y ∈ Y, Taken P l.toArray a y) →
      (∀ (i : Nat) (o : Oper) (t : Tmp), l[i]? = some o → o.dst = some t → t < a.tmps.size) → walk P l.toArray Q p a w →
      (top = true → wpAnyY P l.toArray (dep l l.length) (Only Q) fuel Y listed a w) ∧
      ∀ j ∈ heads p, j ∈ Region.ready .any l.toArray listed → ∃ n, fuel = n + 1 ∧ wpOp P l.toArray (Only Q) j (fun a' w' => (∀ y ∈ Y, dep l l.length j y.1 = false → y.2 w') ∧
        wpAnyY P l.toArray (dep l l.length) (Only Q) n (Y.filter fun y => !dep l l.length j y.1) (listed.setIfInBounds j true) a' w') a w := by
  intro p
  induction p with
  | fin =>
    intro top fuel Y listed a w hok hcl hYw hT hsz hw
    refine ⟨fun _ => wpAnyY_done (by simpa [okB] using hok) ⟨rfl, hw⟩ fuel, fun j hj => by simp [heads] at hj⟩
  | take i p ih =>
    intro top fuel Y listed a w hok hcl hYw hT hsz hw
    refine ⟨fun _ => ?_, fun j hj => by simp [heads] at hj⟩
    cases fuel with
    | zero => simp [okB] at hok
    | succ n =>
      simp only [okB, Bool.and_eq_true] at hok
      obtain ⟨⟨⟨⟨hr, hf⟩, hv⟩, hY⟩, hok⟩ := hok
      cases hi : l[i]? with
      | none => rw [hi] at hv; cases hv
      | some oi =>
        have hia : l.toArray[i]? = some oi := by simpa using hi
        rw [hi] at hv
        simp only [Bool.and_eq_true] at hv
        obtain ⟨hv, hd⟩ := hv
        cases ht : oi.dst with
        | none => rw [ht] at hd; cases hd
        | some t =>
          rw [ht] at hd
          have hself : ∀ d, oi.dst = some d → d ∉ oi.looksAt l.toArray := by
            intro d hd'
            rw [ht] at hd'
            obtain rfl := Option.some.inj hd'
            simpa using hd
          have hlt := hsz i oi t hi ht
          have h0 : wpList P l.toArray (Only fun _ a1 w1 => w1 = w ∧ walk P l.toArray Q p a1 w) (sel l.toArray i) a w := hw _ fun a' h => ⟨rfl, rfl, h⟩
          rw [sel_some hia] at h0
          have hready : i ∈ Region.ready .any l.toArray listed := by simpa using hr
          -- its value
          obtain ⟨v, hy, hwk⟩ : ∃ v, YieldsIf P l.toArray (Cond P l.toArray oi v a) oi v a ∧ Cond P l.toArray oi v a w ∧ walk P l.toArray Q p (a.put oi.dst v) w := by
            unfold wpList at h0
            by_cases hw : Region.wanted oi (yielded l.toArray a.tmps) = true
            · rw [if_pos hw] at h0
              have h1 := h0.resolve_right fun h => not_letsOut _ h.2
              have h2 := upon_cases (fun a w h => by cases h.1) (fun c a w h => by cases h.1) h1
              simp only [wpList, Only, true_and] at h2
              rcases h2 with ⟨v, w', hr, h⟩ | ⟨_, hr, h⟩ | ⟨_, _, hr, h⟩ | ⟨f, args, w', hr, h⟩ | ⟨row, args, w', hr, h⟩
              · exact ⟨v, .inl ⟨hw, fun w' h => h hw⟩, fun _ => by rw [hr, h.1], h.2⟩
              · obtain ⟨v, hv⟩ := valueB_spec hv hr; cases hv
              · obtain ⟨v, hv⟩ := valueB_spec hv hr; cases hv
              · obtain ⟨v, hv⟩ := valueB_spec hv hr; cases hv
              · obtain ⟨v, hv⟩ := valueB_spec hv hr; cases hv
            · rw [if_neg hw] at h0
              exact ⟨undef, .inr ⟨by simpa using hw, rfl⟩, fun h => absurd h hw, h0.2.2⟩
          refine wpAnyY_first hia hsel (fun c a w h => by cases h.1) n Y listed a w hcl (Region.free_spec hia hf) hready hy hwk.1 hYw ?_
          refine (ih true n ((i, Cond P l.toArray oi v a) :: Y) _ _ w (by simpa using hok) (hcl.set hready) (fun y hy => ?_) (fun y hy => ?_) (fun i' o t h1 h2 => by rw [put_size]; exact hsz i' o t h1 h2) hwk.2).1 rfl
          · cases hy with
            | head => exact hwk.1
            | tail _ hy => exact hYw y hy
          · cases hy with
            | head =>
              refine ⟨oi, t, hia, ht, by rw [put_size]; exact hlt, hv, fun w' hc => ?_⟩
              rw [ht, slot_put v hlt, ← ht] at hc
              exact Cond.put (ds := a.defers) (hsel _ _ · · hia) hself hc
            | tail _ hy =>
              have hap := List.all_eq_true.1 hY y.1 (List.mem_map.2 ⟨y, hy, rfl⟩)
              exact Taken.put (hT y hy) hsel hi hap a.defers v
  | run e ag p ih =>
    intro top fuel Y listed a w hok hcl hYw hT hsz hw
    cases fuel with
    | zero => simp [okB] at hok
    | succ n =>
      simp only [okB, Bool.and_eq_true] at hok
      obtain ⟨⟨⟨⟨htop, hsome⟩, hre⟩, hY⟩, hok⟩ := hok
      have hB : ∀ j ∈ heads (.run e ag p), j ∈ Region.ready .any l.toArray listed → ∃ n', n + 1 = n' + 1 ∧ wpOp P l.toArray (Only Q) j (fun a' w' => (∀ y ∈ Y, dep l l.length j y.1 = false → y.2 w') ∧
          wpAnyY P l.toArray (dep l l.length) (Only Q) n' (Y.filter fun y => !dep l l.length j y.1) (listed.setIfInBounds j true) a' w') a w := by
        intro j hj hjr
        obtain rfl : j = e := by simpa [heads] using hj
        refine ⟨n, rfl, ?_⟩
        cases hi : l[j]? with
        | none => rw [hi] at hsome; cases hsome
        | some oj =>
          have hja : l.toArray[j]? = some oj := by simpa using hi
          have h0 : wpList P l.toArray (Only fun _ a1 w1 => again P l.toArray (walk P l.toArray Q p) ag a1 w1) (sel l.toArray j) a w := hw _ fun a' w' h => ⟨rfl, h⟩
          rw [sel_some hja] at h0
          refine wpOp_of_list hja (fun ds v w' h => ?_) h0
          obtain ⟨hwalk, hag⟩ := again_spec h
          have hT' : ∀ y ∈ Y, Taken P l.toArray ({ a with defers := ds }.put oj.dst v) y := fun y hy => by
            have hap := List.all_eq_true.1 hY y.1 (List.mem_map.2 ⟨y, hy, rfl⟩)
            rw [Bool.and_eq_true] at hap
            exact Taken.put (hT y hy) hsel hi hap.1 ds v
          have hobl : ∀ y ∈ Y, dep l l.length j y.1 = false → y.2 w' := fun y hy hd => by
            have hap := List.all_eq_true.1 hY y.1 (List.mem_map.2 ⟨y, hy, rfl⟩)
            rw [Bool.and_eq_true, hd, Bool.false_or] at hap
            obtain ⟨o, t, ho, ht, hlt, hv, hS⟩ := hT' y hy
            exact hS w' (hag y.1 (by simpa using hap.2) o t ho ht hlt hv)
          refine ⟨hobl, (ih true n _ _ _ w' ?_ (hcl.set hjr) (fun y hy => ?_) (fun y hy => hT' y (List.mem_filter.1 hy).1) (fun i' o t h1 h2 => by rw [put_size]; exact hsz i' o t h1 h2) hwalk).1 rfl⟩
          · rw [List.filter_map] at hok
            exact hok
          · rw [List.mem_filter] at hy
            exact hobl y hy.1 (by simpa using hy.2)
      refine ⟨fun ht => ⟨fun h0 => ?_, fun j hj => ?_⟩, hB⟩
      · rw [h0] at hre; cases hre
      · rw [ht] at htop
        have : e = j := by
          have h2 : ((Region.ready .any l.toArray listed).all fun j => e == j) = true := by simpa using htop
          have h1 := List.all_eq_true.1 h2 j hj
          simpa using h1
        subst this
        obtain ⟨n', hn, h⟩ := hB e (by simp [heads]) hj
        obtain rfl : n = n' := by omega
        exact h
  | fork p q ihp ihq =>
    intro top fuel Y listed a w hok hcl hYw hT hsz hw
    simp only [okB, Bool.and_eq_true] at hok
    obtain ⟨⟨⟨hany, htop⟩, hp⟩, hq⟩ := hok
    have h1 := (ihp false fuel Y listed a w hp hcl hYw hT hsz hw.1).2
    have h2 := (ihq false fuel Y listed a w hq hcl hYw hT hsz hw.2).2
    have hB : ∀ j ∈ heads (.fork p q), j ∈ Region.ready .any l.toArray listed → ∃ n, fuel = n + 1 ∧ wpOp P l.toArray (Only Q) j (fun a' w' => (∀ y ∈ Y, dep l l.length j y.1 = false → y.2 w') ∧
        wpAnyY P l.toArray (dep l l.length) (Only Q) n (Y.filter fun y => !dep l l.length j y.1) (listed.setIfInBounds j true) a' w') a w := by
      intro j hj hjr
      rcases List.mem_append.1 hj with h | h
      · exact h1 j h hjr
      · exact h2 j h hjr
    refine ⟨fun ht => ?_, hB⟩
    obtain ⟨j, hj, hjr⟩ := List.any_eq_true.1 hany
    have hjr' : j ∈ Region.ready .any l.toArray listed := by simpa using hjr
    obtain ⟨n, rfl, _⟩ := h1 j hj hjr'
    rw [ht] at htop
    have h3 : ((Region.ready .any l.toArray listed).all fun j => (heads p ++ heads q).contains j) = true := by simpa using htop
    refine ⟨fun h0 => (by rw [h0] at hjr'; cases hjr'), fun k hk => ?_⟩
    obtain ⟨n', hn, h⟩ := hB k (by have := List.all_eq_true.1 h3 k hk; simpa [heads] using this) hk
    obtain rfl : n = n' := by omega
    exact h

theorem wpOp_only {i : Nat} {a : Act} {w : World} {K : Act → World → Prop} (h : wpOp P ops (Only Q) i K a w) : wpOp P ops Q i K a w := by
  unfold wpOp at *
  split
  · rename_i ho; simp only [ho] at h; exact h
  · rename_i o ho
    simp only [ho] at h
    split
    · rename_i hw
      simp only [hw, if_true] at h
      have h1 := h.resolve_right fun h => not_letsOut _ h.2
      exact .inl (upon_back (fun _ _ _ h => h) (upon_cases (fun a w h => by cases h.1) (fun c a w h => by cases h.1) h1))
    · rename_i hw
      simp only [hw] at h
      exact h
theorem wpAny_only : ∀ (fuel : Nat) (listed : Array Bool) (a : Act) (w : World), wpAny P .any ops (Only Q) fuel listed a w → wpAny P .any ops Q fuel listed a w
  | 0, _, _, _, h => ⟨h.1, h.2.2⟩
  | fuel + 1, _, _, _, h => ⟨fun h0 => (h.1 h0).2, fun i hi => wpOp_mono (fun a' w' h' => wpAny_only fuel _ a' w' h') (wpOp_only (h.2 i hi))⟩

/-- All slots that the operations write are there. -/
def sizesB (l : List Oper) (n : Nat) : Bool := l.all fun o => match o.dst with | some t => Nat.blt t n | none => true
/-- **The rule.** -/
theorem wp_region_plan {id : Nat} {l : List Oper} {a : Act} {w : World} (p : Plan) (hm : P.follows .mixedOrders = true) (hs : Region.noSelect l.toArray = true) (hz : sizesB l a.tmps.size = true)
    (hok : okB l true p l.length (Array.replicate l.length false) [] = true) (h : walk P l.toArray Q p a w.drew) : (Code.region id l.toArray true).wp P Q a w := by
  refine wp_region_any hm (wpAny_only _ _ _ _ (wpAny_of_Y (dp := dep l l.length) _ [] _ _ _ ?_))
  have hsz : ∀ (i : Nat) (o : Oper) (t : Tmp), l[i]? = some o → o.dst = some t → t < a.tmps.size := by
    intro i o t hi ht
    have := List.all_eq_true.1 hz o (List.mem_of_getElem? hi)
    rw [ht] at this
    simpa using this
  have := (wpAnyY_of_walk (P := P) (Q := Q) (l := l) (Region.noSelect_spec hs) p true l.length [] (Array.replicate l.length false) a w.drew (by simpa using hok) (fun j o _ hj => by
      simp [Array.getD_eq_getD_getElem?, Array.getElem?_replicate] at hj
      split at hj <;> simp at hj) (fun y hy => by cases hy) (fun y hy => by cases hy) hsz h).1 rfl
  simpa using this
end
end Go.Proofs.YtjdffhonljhpcaaGreat
end

section
/-
  More on rows and blocks: what is never the same block; a row that is stored one cell at a time.
-/
namespace Go.Proofs.YtjdffhonljhpcaaGreat
set_option linter.unusedSimpArgs false
set_option linter.unusedVariables false
open Go.RowKit

theorem EOwn.ne_blk {α : Type} {E : Elem α} {w : World} {B c g : Nat} {A : Option Addr} {L : List α} {T : TypeId} {cs : List Value} (h : EOwn E w B A c L) (hb : Blk w g T cs) (hT : T ≠ E.e) : ∀ a, A = some a → a.block ≠ g := by
  rintro a ha rfl
  rcases h.form with ⟨rfl, _⟩ | ⟨g', rfl, _, _, _, _, cur, hg⟩
  · cases ha
  · obtain rfl := Option.some.inj ha
    rw [hb] at hg
    simp at hg
    exact hT hg.2
theorem map_block_ne {A : Option Addr} {g : Nat} (h : ∀ a, A = some a → a.block ≠ g) : some g ≠ A.map (·.block) := by
  cases A with
  | none => simp
  | some a => simpa using fun e => h a rfl e.symm
/-- A call that returns a new row. -/
def RetRow {α : Type} (E : Elem α) (w : World) (L : List α) (e : Ending) (w' : World) : Prop := ∃ A c, e = .returned (.slice A L.length c) ∧ EOwn E w' w.heap.size A c L ∧ Below w.heap.size w w'
theorem Below.alloc1 (w : World) (o : Obj) : Below w.heap.size w (w.alloc o) := (Below.refl _ _).alloc (Nat.le_refl _) o
theorem _root_.Go.RowKit.Below.drewR {B : Nat} {w W : World} (h : Below B w W) : Below B w W.drew := ⟨h.os, h.tape, h.output, h.size, h.block⟩
theorem _root_.Go.RowKit.Below.then {w w1 w2 : World} (h : Below w.heap.size w w1) (k : Below w1.heap.size w1 w2) : Below w.heap.size w w2 := h.trans (k.mono h.size)
/-- A result of five cells that was stored in memory. -/
theorem ret_set5 {P : Program} {fn : Func} {R : Ending → World → Prop} {a : Act} {w : World} {p : Tmp} {T : TypeId} {g : Nat} {old : List Value} {u v x y z : Value} (hb : Blk w g T old) (hl : old.length = 5) (h : fn.results = #[.cell p T]) (hd : a.defers = [])
    (hp : a.tmps.getD p undef = .pointer (some ⟨g, 0, none⟩)) (hload : ∀ W : World, Blk W g T [u, v, x, y, z] → (loadVar T ⟨g, 0, none⟩).run P W = .ok (.agg #[u, v, x, y, z]) W)
    (hR : ∀ W, Blk W g T [u, v, x, y, z] → w.grownBy W (some g) → R (.returned (.agg #[u, v, x, y, z])) W) :
    bodyPost P fn R .ret a (((((w.setCell ⟨g, 0, none⟩ u).setCell ⟨g, 1, none⟩ v).setCell ⟨g, 2, none⟩ x).setCell ⟨g, 3, none⟩ y).setCell ⟨g, 4, none⟩ z) := by
  have hW : Blk (((((w.setCell ⟨g, 0, none⟩ u).setCell ⟨g, 1, none⟩ v).setCell ⟨g, 2, none⟩ x).setCell ⟨g, 3, none⟩ y).setCell ⟨g, 4, none⟩ z) g T [u, v, x, y, z] := hb.setAll [u, v, x, y, z] (by rw [hl]; rfl)
  have hg : w.grownBy (((((w.setCell ⟨g, 0, none⟩ u).setCell ⟨g, 1, none⟩ v).setCell ⟨g, 2, none⟩ x).setCell ⟨g, 3, none⟩ y).setCell ⟨g, 4, none⟩ z) (some g) := grown_setCells w g 0 [u, v, x, y, z]
  exact ret_mem1 h hd hp (hload _ hW) (hR _ hW hg)
theorem ret_set5n {P : Program} {fn : Func} {R : Ending → World → Prop} {a : Act} {w : World} {p q : Tmp} {T : TypeId} {g : Nat} {old : List Value} {u v x y z r : Value} (hb : Blk w g T old) (hl : old.length = 5) (h : fn.results = #[.cell p T, .tmp q]) (hd : a.defers = [])
    (hp : a.tmps.getD p undef = .pointer (some ⟨g, 0, none⟩)) (hq : a.tmps.getD q undef = r) (hload : ∀ W : World, Blk W g T [u, v, x, y, z] → (loadVar T ⟨g, 0, none⟩).run P W = .ok (.agg #[u, v, x, y, z]) W)
    (hR : ∀ W, Blk W g T [u, v, x, y, z] → w.grownBy W (some g) → R (.returned (.tuple #[.agg #[u, v, x, y, z], r])) W) :
    bodyPost P fn R .ret a (((((w.setCell ⟨g, 0, none⟩ u).setCell ⟨g, 1, none⟩ v).setCell ⟨g, 2, none⟩ x).setCell ⟨g, 3, none⟩ y).setCell ⟨g, 4, none⟩ z) := by
  have hW : Blk (((((w.setCell ⟨g, 0, none⟩ u).setCell ⟨g, 1, none⟩ v).setCell ⟨g, 2, none⟩ x).setCell ⟨g, 3, none⟩ y).setCell ⟨g, 4, none⟩ z) g T [u, v, x, y, z] := hb.setAll [u, v, x, y, z] (by rw [hl]; rfl)
  have hg : w.grownBy (((((w.setCell ⟨g, 0, none⟩ u).setCell ⟨g, 1, none⟩ v).setCell ⟨g, 2, none⟩ x).setCell ⟨g, 3, none⟩ y).setCell ⟨g, 4, none⟩ z) (some g) := grown_setCells w g 0 [u, v, x, y, z]
  exact ret_mem2 h hd hp hq (hload _ hW) (hR _ hW hg)
theorem below_of_grown {B : Nat} {w0 w w' : World} {g : Nat} (h : Below B w0 w) (hg : w.grownBy w' (some g)) (hB : B ≤ g) (hs : B ≤ w.heap.size) : Below B w0 w' :=
  h.grown hg hs fun k hk => by obtain rfl := Option.some.inj hk; exact hB
theorem EOwn.keptG {α : Type} {E : Elem α} {w w' : World} {B c g : Nat} {A : Option Addr} {L : List α} {T : TypeId} {cs : List Value} (h : EOwn E w B A c L) (hb : Blk w g T cs) (hT : T ≠ E.e) (hg : w.grownBy w' (some g)) : EOwn E w' B A c L :=
  h.kept hg (.inr (fun e => map_block_ne (h.ne_blk hb hT) e.symm))
/-- A row that was there before block g. -/
theorem ERow.keptG {α : Type} {E : Elem α} {w0 w w' : World} {A : Option Addr} {L : List α} {g : Nat} (h : ERow E w0 A L) (hb : Below w0.heap.size w0 w) (hg : w.grownBy w' (some g)) (hlt : w0.heap.size ≤ g) : ERow E w' A L :=
  h.below (below_of_grown hb hg hlt hb.size)
/-! Texts that are cut and joined -/
theorem cut_head (l : List UInt8) (n : Nat) : (ByteArray.mk l.toArray).extract 0 n = ⟨(l.take n).toArray⟩ := by
  apply ByteArray.ext
  simp
theorem cut_end (l : List UInt8) (k : Nat) : (ByteArray.mk l.toArray).extract k l.length = ⟨(l.drop k).toArray⟩ := by
  apply ByteArray.ext
  simp
  exact List.take_of_length_le (by simp)
theorem cut_join (l m : List UInt8) : ByteArray.mk l.toArray ++ ByteArray.mk m.toArray = ⟨(l ++ m).toArray⟩ := by
  apply ByteArray.ext
  simp
/-- A row and a block of other values are apart. -/
theorem ERow.keptV {α : Type} {E : Elem α} {w w' : World} {A : Option Addr} {L : List α} {g : Nat} {T : TypeId} {cs : List Value} (h : ERow E w A L) (hb : Blk w g T cs) (k : Nat) (hv : ∀ x, ∃ v, (E.code x)[k]? = some v ∧ v ∉ cs) (hg : w.grownBy w' (some g)) : ERow E w' A L := by
  cases L with
  | nil => exact ERow.nil
  | cons y L =>
    refine h.keep hg.size fun a ha hlt => hg.block _ hlt ?_
    simp only [ne_eq, Option.some.injEq]
    intro e
    obtain ⟨b, o, e2, _, hc⟩ := h.at_ (j := 0) (by simp)
    rw [ha] at e2
    obtain rfl := Option.some.inj e2
    simp only at e
    subst e
    obtain ⟨v, hv1, hv2⟩ := hv y
    have h1 := hc k v hv1
    rw [hb.cell] at h1
    exact hv2 (List.mem_of_getElem? h1)
/-- A row that does not lie in a block of S. -/
def RowX {α : Type} (S : Nat → Prop) (E : Elem α) (w : World) (A : Option Addr) (L : List α) : Prop := ERow E w A L ∧ (L ≠ [] → ∀ a, A = some a → ¬ S a.block)
section
variable {α : Type} {S : Nat → Prop} {E : Elem α} {w w' w0 : World} {A : Option Addr} {L : List α} {g : Nat}
theorem RowX.nil : RowX S E w A ([] : List α) := ⟨ERow.nil, fun h => absurd rfl h⟩
theorem RowX.below (h : RowX S E w A L) (hb : Below w.heap.size w w') : RowX S E w' A L := ⟨h.1.below hb, h.2⟩
theorem RowX.own {B c : Nat} (h : EOwn E w B A c L) (hS : ∀ i, S i → i < B) : RowX S E w A L := ⟨h.row, fun _ a ha hs => by have := (h.block a ha).1; have := hS _ hs; omega⟩
theorem RowX.keptG (h : RowX S E w0 A L) (hb : Below w0.heap.size w0 w) (hg : w.grownBy w' (some g)) (hlt : w0.heap.size ≤ g) : RowX S E w' A L := ⟨h.1.keptG hb hg hlt, h.2⟩
theorem RowX.keptV {T : TypeId} {cs : List Value} (h : RowX S E w A L) (hb : Blk w g T cs) (k : Nat) (hv : ∀ x, ∃ v, (E.code x)[k]? = some v ∧ v ∉ cs) (hg : w.grownBy w' (some g)) : RowX S E w' A L := ⟨h.1.keptV hb k hv hg, h.2⟩
theorem RowX.kept (h : RowX S E w A L) (hk : Keeps w w' S) : RowX S E w' A L := ⟨h.1.kept hk h.2, h.2⟩
/-- A cell is stored that held no part of such an element. -/
theorem ERow.setCellV (h : ERow E w A L) {p : Addr} {v u : Value} (hc : w.cell? p = some v) (hv : ∀ x, v ∉ E.code x) : ERow E (w.setCell p u) A L := fun hl => by
  obtain ⟨b, o, e, hb, hcell⟩ := h hl
  refine ⟨b, o, e, by simpa using hb, fun j x hx => ?_⟩
  have h1 := hcell j x hx
  rw [World.cell?_setCell_other w p ⟨b, o + j, none⟩ u ?_]
  · exact h1
  · intro e2
    rw [← e2] at h1
    rw [hc] at h1
    obtain rfl := Option.some.inj h1
    have := List.mem_of_getElem? hx
    obtain ⟨y, -, hy⟩ := List.mem_flatMap.1 this
    exact hv y hy
theorem RowX.setCellV (h : RowX S E w A L) {p : Addr} {v u : Value} (hc : w.cell? p = some v) (hv : ∀ x, v ∉ E.code x) : RowX S E (w.setCell p u) A L := ⟨h.1.setCellV hc hv, h.2⟩
end
end Go.Proofs.YtjdffhonljhpcaaGreat
end

section
/-
  Values: rows of them, and the contracts of the makers of package value.
-/
namespace Go.Proofs.YtjdffhonljhpcaaGreat
set_option linter.unusedSimpArgs false
set_option linter.unusedVariables false
open Go.RowKit

def Va.cells (a : Va) : List Value := [.int .i64 a.k, .int .i64 a.n, .float .f64 a.f, txt a.s]
def Va.v (a : Va) : Value := .agg #[.int .i64 a.k, .int .i64 a.n, .float .f64 a.f, txt a.s]
def eVa : Elem Va where
  e := 24
  t := 136
  sz := 4
  bytes := 40
  zero := .agg #[.int .i64 0, .int .i64 0, .float .f64 0, .string ByteArray.empty]
  code := fun x => x.cells
  pos := by decide
  few := by decide
  len := fun _ => rfl
  one := by
    intro x u hu
    simp [Va.cells] at hu
    rcases hu with rfl | rfl | rfl | rfl <;> rfl
  zsz := rfl
  info := by kernel_rfl
  under := Tryz.underlying136

section
variable {P : Program}
theorem load_va {w : World} {g o : Nat} {a : Va} (h0 : w.cell? ⟨g, o, none⟩ = some (.int .i64 a.k)) (h1 : w.cell? ⟨g, o + 1, none⟩ = some (.int .i64 a.n)) (h2 : w.cell? ⟨g, o + 2, none⟩ = some (.float .f64 a.f)) (h3 : w.cell? ⟨g, o + 3, none⟩ = some (txt a.s)) :
    (loadVar 24 ⟨g, o, none⟩).run Tryz.prog w = .ok a.v w := by
  unfold Va.v
  go_simp
end
theorem Blk.va {w : World} {g : Nat} {t : TypeId} {a : Va} (h : Blk w g t a.cells) : (loadVar 24 ⟨g, 0, none⟩).run Tryz.prog w = .ok a.v w := load_va (h.cell 0) (h.cell 1) (h.cell 2) (h.cell 3)

/-- What a call answers that leaves all that was there alone. -/
def RetV (w : World) (a : Va) (e : Ending) (w' : World) : Prop := e = .returned a.v ∧ Below w.heap.size w w'

theorem Va.cells_one (a : Va) : ∀ u ∈ a.cells, u.oneCell' = true := eVa.one a
theorem va_zero (W : World) : (zeroValue 24).run Tryz.prog W = .ok Key.nul.v W := (zero_of_info (P := Tryz.prog) (t := 24) (v := Key.nul.v) (n := 4) (by kernel_rfl)).1 W
theorem va_info : (Tryz.prog.info? 24).map (·.size) = some 4 := by kernel_rfl
section
variable {w : World} {ops : Array Oper} {rest : List Oper} {o : Oper} {a : Act} {Q : Exit → Act → World → Prop}
/-- A new value. -/
theorem wpList_alloc_va (hgd : o.guard = none) (hop : o.op = .alloc 24)
    (h : ∀ W, Blk W w.heap.size 24 Key.nul.cells → w.heap.size + 1 ≤ W.heap.size → Below w.heap.size w W → wpList Tryz.prog ops Q rest (a.put o.dst (.pointer (some ⟨w.heap.size, 0, none⟩))) W) : wpList Tryz.prog ops Q (o :: rest) a w :=
  wpList_alloc_z hgd 24 hop (va_zero _) fun W hW => by
    obtain ⟨h1, h2, h3⟩ := fresh1 (a := Key.nul.cells) hW
    exact h W h1 h2 h3
/-- A value in a block of its own is stored anew. -/
theorem wpList_store_va (hgd : o.guard = none) (hod : o.dst = none) (x y : Operand) (hop : o.op = .store 24 x y) (g : Nat) (hx : a.eval x = .pointer (some ⟨g, 0, none⟩)) (b : Va) (hy : a.eval y = b.v) {T0 : TypeId} {old : Va} (hb : Blk w g T0 old.cells)
    (h : ∀ W, Blk W g T0 b.cells → w.grownBy W (some g) → wpList Tryz.prog ops Q rest a W) : wpList Tryz.prog ops Q (o :: rest) a w :=
  wpList_store_blk hgd hod 24 x y hop g hx b.cells hy hb rfl va_info b.cells_one h
/-- A value is loaded from a block of its own. -/
theorem wpList_load_va (hgd : o.guard = none) (x : Operand) (hop : o.op = .load 24 x) (g : Nat) (hx : a.eval x = .pointer (some ⟨g, 0, none⟩)) {T0 : TypeId} {b : Va} (hb : Blk w g T0 b.cells)
    (h : wpList Tryz.prog ops Q rest (a.put o.dst b.v) w) : wpList Tryz.prog ops Q (o :: rest) a w :=
  wpList_load_mid hgd 24 x hop g 0 hx b.cells _ (hb.range 0 b.cells fun j _ => by rw [Nat.zero_add]) Tryz.underlying24 rfl va_info h
/-- A value of a row is loaded. -/
theorem wpList_load_va_row (hgd : o.guard = none) (x : Operand) (hop : o.op = .load 24 x) {A : Option Addr} {L : List Va} (hr : ERow eVa w A L) {j : Nat} (hj : j < L.length) (hx : ∀ b o, A = some ⟨b, o, none⟩ → a.eval x = .pointer (some ⟨b, o + j * 4, none⟩))
    (h : wpList Tryz.prog ops Q rest (a.put o.dst L[j].v) w) : wpList Tryz.prog ops Q (o :: rest) a w := by
  obtain ⟨b, off, rfl, hb, hrg⟩ := hr.range hj
  exact wpList_load_mid hgd 24 x hop b (off + j * 4) (hx b off rfl) L[j].cells _ hrg Tryz.underlying24 rfl va_info h
/-- A parameter is given a block of its own. -/
theorem wpList_box_va (hgd : o.guard = none) (x : Operand) (hop : o.op = .box 24 x) (b : Va) (hx : a.eval x = b.v)
    (h : ∀ W, Blk W w.heap.size 24 b.cells → w.heap.size + 1 ≤ W.heap.size → Below w.heap.size w W → wpList Tryz.prog ops Q rest (a.put o.dst (.pointer (some ⟨w.heap.size, 0, none⟩))) W) : wpList Tryz.prog ops Q (o :: rest) a w :=
  wpList_plain hgd fun _ hK => by
    unfold Oper.wp execOp
    have e : (Instr.box 24 b.v).run Tryz.prog w = .ok (.pointer (some ⟨w.heap.size, 0, none⟩)) (w.alloc (.cells b.cells.toArray 24)) := by
      simp [Instr.box, Sem.run_bind, newVar, newRow]
      rfl
    simp only [hop, hx, Sem.run_bind, e, Result.andThen_ok, Sem.run_pure]
    obtain ⟨h1, h2, h3⟩ := fresh1 (w := w) (a := b.cells) (t := 24) rfl
    exact hK _ _ (h _ h1 h2 h3)
end
theorem ret_va {fn : Func} {R : Ending → World → Prop} {a : Act} {w : World} {p : Tmp} {g : Nat} {T0 : TypeId} {b : Va} (hb : Blk w g T0 b.cells) (h : fn.results = #[.cell p 24]) (hd : a.defers = [])
    (hp : a.tmps.getD p undef = .pointer (some ⟨g, 0, none⟩)) (hR : R (.returned b.v) w) : bodyPost Tryz.prog fn R .ret a w :=
  ret_mem1 h hd hp hb.va hR

set_option maxRecDepth 20000 in
set_option maxHeartbeats 1000000 in
theorem ofint_any (w : World) (n : Int) : Calls Tryz.prog 97 #[.int .i64 n] w (RetV w ⟨1, n, 0, []⟩) := by
  go_enter Tryz.func97, Tryz.ntmps97
  go_wp2_with (first | (refine wpList_alloc_va rfl rfl ?_; intro W1 hb1 hz1 hB1) | (refine wpList_store_va rfl rfl (.tmp 2) (.tmp 4) rfl w.heap.size rfl ⟨1, n, 0, []⟩ rfl hb1 ?_; intro W2 hb2 hg2))
  exact ret_va hb2 rfl rfl rfl ⟨rfl, below_of_grown hB1 hg2 (Nat.le_refl _) (by omega)⟩
set_option maxRecDepth 20000 in
set_option maxHeartbeats 1000000 in
theorem oftext_any (w : World) (s : List UInt8) : Calls Tryz.prog 99 #[txt s] w (RetV w ⟨3, 0, 0, s⟩) := by
  unfold txt
  go_enter Tryz.func99, Tryz.ntmps99
  go_wp2_with (first | (refine wpList_alloc_va rfl rfl ?_; intro W1 hb1 hz1 hB1) | (refine wpList_store_va rfl rfl (.tmp 2) (.tmp 4) rfl w.heap.size rfl ⟨3, 0, 0, s⟩ rfl hb1 ?_; intro W2 hb2 hg2))
  exact ret_va hb2 rfl rfl rfl ⟨rfl, below_of_grown hB1 hg2 (Nat.le_refl _) (by omega)⟩
set_option maxRecDepth 20000 in
set_option maxHeartbeats 1000000 in
theorem ofbool_any (w : World) (x : Bool) : Calls Tryz.prog 96 #[.bool x] w (RetV w ⟨4, if x then 1 else 0, 0, []⟩) := by
  go_enter Tryz.func96, Tryz.ntmps96
  go_upto_region 1 with (refine wpList_alloc_va rfl rfl ?_; intro W1 hb1 hz1 hB1)
  go_upto_region 2 with (first | (refine wpList_alloc_va rfl rfl ?_; intro W2 hb2 hz2 hB2) | (refine wpList_store_va rfl rfl (.tmp 3) (.tmp 4) rfl W1.heap.size rfl ⟨4, 0, 0, []⟩ rfl hb2 ?_; intro W3 hb3 hg3))
  have hB3 : Below w.heap.size w W3 := below_of_grown (hB1.trans (hB2.mono hB1.size)) hg3 hB1.size (by omega)
  have h13 : Blk W3 w.heap.size 24 Key.nul.cells := (hb1.below hB2).grown hg3 (by simp; omega)
  have hz3 := hg3.size
  have hz1' : w.heap.size + 2 ≤ W3.heap.size := by omega
  clear hb1 hB1 hB2 hg3 hb2 hz3 hz2
  cases x
  · go_wp2_with (first | (refine wpList_load_va rfl (.tmp 3) rfl W1.heap.size rfl hb3 ?_) | (refine wpList_store_va rfl rfl (.tmp 2) (.tmp 7) rfl w.heap.size rfl ⟨4, 0, 0, []⟩ rfl h13 ?_; intro W4 hb4 hg4))
    exact ret_va hb4 rfl rfl rfl ⟨rfl, below_of_grown hB3 hg4 (Nat.le_refl _) (by omega)⟩
  · obtain ⟨-, e1, -, -, -, f1, -⟩ := Blk.c4 hb3
    go_upto_region 4 with fail
    have hb5 : Blk (W3.setCell ⟨W1.heap.size, 1, none⟩ (.int .i64 1)) W1.heap.size 24 (Va.cells ⟨4, 1, 0, []⟩) := hb3.set1
    have h15 := h13.other ⟨W1.heap.size, 1, none⟩ (by show w.heap.size ≠ W1.heap.size; omega) (.int .i64 1)
    have hB5 := hB3.setCell (p := ⟨W1.heap.size, 1, none⟩) (by show w.heap.size ≤ W1.heap.size; omega) (.int .i64 1)
    clear e1 f1 hb3 h13 hB3
    go_wp2_with (first | (refine wpList_load_va rfl (.tmp 3) rfl W1.heap.size rfl hb5 ?_) | (refine wpList_store_va rfl rfl (.tmp 2) (.tmp 7) rfl w.heap.size rfl ⟨4, 1, 0, []⟩ rfl h15 ?_; intro W4 hb4 hg4))
    exact ret_va hb4 rfl rfl rfl ⟨rfl, below_of_grown hB5 hg4 (Nat.le_refl _) (by simp; omega)⟩
set_option maxRecDepth 20000 in
theorem isnan_any (w : World) (f : Nat) (hf : f < two64) : Calls Tryz.prog 104 #[.float .f64 f] w fun e w' => e = .returned (.bool (decide (fnan f))) ∧ w' = w := by
  have HF := Lib.hid (ford_self hf)
  clear hf
  go_enter Tryz.func104, Tryz.ntmps104
  go_wp2_with fail
  go_ret
  exact ⟨by rw [← HF.out]; rfl, rfl⟩
set_option maxRecDepth 20000 in
theorem nan_any (w : World) : Calls Tryz.prog 105 #[] w fun e w' => e = .returned (.float .f64 9221120237041090561) ∧ w' = w := by
  go_enter Tryz.func105, Tryz.ntmps105
  go_wp2
  have hx : (Extern.MathFloatBits.float64frombits #[.int .u64 9221120237041090561]).run Tryz.prog w = .ok (.float .f64 9221120237041090561) w := rfl
  rw [run_callFunc_extern Tryz.func110 (by kernel_rfl) (by kernel_rfl) (by kernel_rfl) (e := Extern.MathFloatBits.float64frombits) (by kernel_rfl), hx]
  simp only [Result.andThen]
  rw [Oper.upon_value]
  go_wp2
  go_ret
  exact ⟨rfl, rfl⟩
set_option maxRecDepth 20000 in
set_option maxHeartbeats 1000000 in
theorem ofreal_any (w : World) (f : Nat) (hf : f < two64) : Calls Tryz.prog 98 #[.float .f64 f] w (RetV w ⟨2, 0, Key.real1 f, []⟩) := by
  have HF := Lib.hid hf
  have HZ := Lib.hid (ford_zero hf)
  clear hf
  go_enter Tryz.func98, Tryz.ntmps98
  go_upto_region 1 with (refine wpList_alloc_va rfl rfl ?_; intro W1 hb1 hz1 hB1)
  go_wp2_with fail
  refine (isnan_any _ f HF.out).mono ?_
  rintro e w1 ⟨rfl, rfl⟩
  by_cases hn : fnan f
  · have hr : Key.real1 f = 9221120237041090561 := by unfold Key.real1; rw [if_pos hn]
    have HR := Lib.hid hr
    have hd : decide (fnan f) = true := by simp [hn]
    rw [hd]
    clear hr hn
    go_wp2_with fail
    refine (nan_any _).mono ?_
    rintro e w1 ⟨rfl, rfl⟩
    go_wp2_with (refine wpList_store_va rfl rfl (.tmp 2) (.tmp 11) rfl w.heap.size rfl ⟨2, 0, 9221120237041090561, []⟩ rfl hb1 ?_; intro W4 hb4 hg4)
    exact ret_va hb4 rfl rfl rfl ⟨by show Ending.returned (Va.v ⟨2, 0, _, []⟩) = .returned (Va.v ⟨2, 0, Key.real1 f, []⟩); rw [HR.out], below_of_grown hB1 hg4 (Nat.le_refl _) (by omega)⟩
  · have hd : decide (fnan f) = false := by simp [hn]
    rw [hd]
    by_cases hz : f % 9223372036854775808 = 0
    · have HR : Hid (Key.real1 f = 0) := by show _ = _; unfold Key.real1; rw [if_neg hn, if_pos hz]
      have ho : (FloatKind.f64.format.order f 0 == some Ordering.eq) = true := HZ.out.trans (decide_eq_true hz)
      clear hn hz HZ HF
      go_wp2_with (refine wpList_store_va rfl rfl (.tmp 2) (.tmp 11) rfl w.heap.size rfl ⟨2, 0, 0, []⟩ rfl hb1 ?_; intro W4 hb4 hg4)
      exact ret_va hb4 rfl rfl rfl ⟨by show Ending.returned (Va.v ⟨2, 0, _, []⟩) = .returned (Va.v ⟨2, 0, Key.real1 f, []⟩); rw [HR.out], below_of_grown hB1 hg4 (Nat.le_refl _) (by omega)⟩
    · have HR : Hid (Key.real1 f = f) := by show _ = _; unfold Key.real1; rw [if_neg hn, if_neg hz]
      have ho : (FloatKind.f64.format.order f 0 == some Ordering.eq) = false := HZ.out.trans (decide_eq_false hz)
      clear hn hz HZ HF
      go_wp2_with (refine wpList_store_va rfl rfl (.tmp 2) (.tmp 11) rfl w.heap.size rfl ⟨2, 0, f, []⟩ rfl hb1 ?_; intro W4 hb4 hg4)
      exact ret_va hb4 rfl rfl rfl ⟨by show Ending.returned (Va.v ⟨2, 0, _, []⟩) = .returned (Va.v ⟨2, 0, Key.real1 f, []⟩); rw [HR.out], below_of_grown hB1 hg4 (Nat.le_refl _) (by omega)⟩
theorem Va.clean1 {a : Va} (h : a.k = 1) : Key.clean a = ⟨1, a.n, 0, []⟩ := by unfold Key.clean Key.cleanF; rw [if_pos h]
theorem Va.clean2 {a : Va} (h : a.k = 2) : Key.clean a = ⟨2, 0, Key.real1 a.f, []⟩ := by unfold Key.clean Key.cleanF; rw [if_neg (by omega), if_pos h]
theorem Va.clean3 {a : Va} (h : a.k = 3) : Key.clean a = ⟨3, 0, 0, a.s⟩ := by unfold Key.clean Key.cleanF; rw [if_neg (by omega), if_neg (by omega), if_pos h]
theorem Va.clean4 {a : Va} (h : a.k = 4) : Key.clean a = ⟨4, if a.n = 0 then 0 else 1, 0, []⟩ := by unfold Key.clean Key.cleanF; rw [if_neg (by omega), if_neg (by omega), if_neg (by omega), if_pos h]
theorem Va.clean0 {a : Va} (h1 : a.k ≠ 1) (h2 : a.k ≠ 2) (h3 : a.k ≠ 3) (h4 : a.k ≠ 4) : Key.clean a = Key.nul := by unfold Key.clean Key.cleanF; rw [if_neg h1, if_neg h2, if_neg h3, if_neg h4]
set_option maxRecDepth 20000 in
set_option maxHeartbeats 1000000 in
/-- value.Clean -/
theorem clean_any (w : World) (v : Va) (hv : v.ok) : Calls Tryz.prog 80 #[v.v] w (RetV w (Key.clean v)) := by
  have HF : Hid (v.f < two64) := hv.f1
  clear hv
  go_enter Tryz.func80, Tryz.ntmps80
  go_upto_region 1 with (first | (refine wpList_alloc_va rfl rfl ?_; intro W2 hb2 hz2 hB2) | (refine wpList_box_va rfl (.tmp 0) rfl v rfl ?_; intro W1 hb1 hz1 hB1))
  have h12 := hb1.below hB2
  have hB := hB1.trans (hB2.mono hB1.size)
  clear hb1 hB1 hB2
  obtain ⟨c0, c1, c2, c3, -⟩ := Blk.c4 h12
  go_upto_region 2 with fail
  by_cases k1 : v.k = 1
  · have HC := Lib.hid (Va.clean1 k1)
    go_wp2_with fail
    refine (ofint_any _ v.n).mono ?_
    rintro e W3 ⟨rfl, hB3⟩
    have hb3 := hb2.below hB3
    have hB3' := hB.trans (hB3.mono hB.size)
    clear c0 c1 c2 c3
    go_wp2_with (refine wpList_store_va rfl rfl (.tmp 2) (.tmp 9) rfl W1.heap.size rfl ⟨1, v.n, 0, []⟩ rfl hb3 ?_; intro W4 hb4 hg4)
    exact ret_va hb4 rfl rfl rfl ⟨by show Ending.returned (Va.v _) = .returned (Va.v (Key.clean v)); rw [HC.out], below_of_grown hB3' hg4 (by omega) hB3'.size⟩
  by_cases k2 : v.k = 2
  · have HC := Lib.hid (Va.clean2 k2)
    go_wp2_with fail
    refine (ofreal_any _ v.f HF.out).mono ?_
    rintro e W3 ⟨rfl, hB3⟩
    have hb3 := hb2.below hB3
    have hB3' := hB.trans (hB3.mono hB.size)
    clear c0 c1 c2 c3
    go_wp2_with (refine wpList_store_va rfl rfl (.tmp 2) (.tmp 14) rfl W1.heap.size rfl ⟨2, 0, Key.real1 v.f, []⟩ rfl hb3 ?_; intro W4 hb4 hg4)
    exact ret_va hb4 rfl rfl rfl ⟨by show Ending.returned (Va.v _) = .returned (Va.v (Key.clean v)); rw [HC.out], below_of_grown hB3' hg4 (by omega) hB3'.size⟩
  by_cases k3 : v.k = 3
  · have HC := Lib.hid (Va.clean3 k3)
    go_wp2_with fail
    refine (oftext_any _ v.s).mono ?_
    rintro e W3 ⟨rfl, hB3⟩
    have hb3 := hb2.below hB3
    have hB3' := hB.trans (hB3.mono hB.size)
    clear c0 c1 c2 c3
    go_wp2_with (refine wpList_store_va rfl rfl (.tmp 2) (.tmp 19) rfl W1.heap.size rfl ⟨3, 0, 0, v.s⟩ rfl hb3 ?_; intro W4 hb4 hg4)
    exact ret_va hb4 rfl rfl rfl ⟨by show Ending.returned (Va.v _) = .returned (Va.v (Key.clean v)); rw [HC.out], below_of_grown hB3' hg4 (by omega) hB3'.size⟩
  by_cases k4 : v.k = 4
  · have HC : Hid (Key.clean v = ⟨4, if (v.n != 0) = true then 1 else 0, 0, []⟩) := by
      show _ = _
      rw [Va.clean4 k4]
      by_cases hn : v.n = 0 <;> simp [hn]
    go_wp2_with fail
    refine (ofbool_any _ _).mono ?_
    generalize (if (v.n != 0) = true then (1 : Int) else 0) = m at HC ⊢
    rintro e W3 ⟨rfl, hB3⟩
    have hb3 := hb2.below hB3
    have hB3' := hB.trans (hB3.mono hB.size)
    clear c0 c1 c2 c3
    go_wp2_with (refine wpList_store_va rfl rfl (.tmp 2) (.tmp 25) rfl W1.heap.size rfl ⟨4, m, 0, []⟩ rfl hb3 ?_; intro W4 hb4 hg4)
    exact ret_va hb4 rfl rfl rfl ⟨by show Ending.returned (Va.v _) = .returned (Va.v (Key.clean v)); rw [HC.out], below_of_grown hB3' hg4 (by omega) hB3'.size⟩
  · have HC := Lib.hid (Va.clean0 k1 k2 k3 k4)
    have d1 : (v.k == 1) = false := by simpa using k1
    have d2 : (v.k == 2) = false := by simpa using k2
    have d3 : (v.k == 3) = false := by simpa using k3
    have d4 : (v.k == 4) = false := by simpa using k4
    go_wp2_with (refine wpList_store_va rfl rfl (.tmp 2) (.tmp 26) rfl W1.heap.size rfl Key.nul rfl hb2 ?_; intro W4 hb4 hg4)
    exact ret_va hb4 rfl rfl rfl ⟨by show Ending.returned (Va.v _) = .returned (Va.v (Key.clean v)); rw [HC.out], below_of_grown hB hg4 (by omega) hB.size⟩
end Go.Proofs.YtjdffhonljhpcaaGreat
end

section
/-
  Cuts of slices: the slice is some slice that reads as it must; whether its address is kept (at its room's end) is nobody's business.
-/
namespace Go.Proofs.YtjdffhonljhpcaaGreat
set_option linter.unusedSimpArgs false
set_option linter.unusedVariables false
open Go.RowKit

theorem sizeOf_u8 (w : World) : (sizeOf 5).run Tryz.prog w = .ok 1 w := by
  obtain ⟨i, hi, hz, hs, hby⟩ := info_parts info8
  simp [sizeOf, typeInfo, hi, hs]
theorem row_cutA {w : World} {A : Option Addr} {l : List UInt8} (h : BRow w A l) (c i n : Nat) (hn : i + n ≤ c) : BRow w (if c = i then A else A.map (·.add (i * 1))) ((l.drop i).take n) := by
  by_cases hc : c = i
  · obtain rfl : n = 0 := by omega
    rw [List.take_zero]
    exact BRow.nil
  · rw [if_neg hc, Nat.mul_one]
    exact (h.drop i).take n
end Go.Proofs.YtjdffhonljhpcaaGreat
end

section
/-
  The contract of crc.Sum: the sum of all parts, one behind the other; nothing is written.
-/
namespace Go.Proofs.YtjdffhonljhpcaaGreat
set_option linter.unusedSimpArgs false
set_option linter.unusedVariables false
open Go.RowKit

/-- A part of what is summed: its address, its room, its bytes. -/
structure Part where
  a : Option Addr
  c : Nat
  l : List UInt8
def Part.v (p : Part) : Value := .slice p.a p.l.length p.c
def Part.ok (w : World) (p : Part) : Prop := BRow w p.a p.l ∧ p.l.length ≤ 9223372036854775807

theorem crc_and (s : Nat) (h : s < 4294967296) : Go.bits .and .u32 (s : Int) 1 = ((s % 2 : Nat) : Int) := by
  rw [show (1 : Int) = ((1 : Nat) : Int) from rfl, u32_and_nat _ _ h (by omega), nat_mask1]
theorem crc_xor (s c : Nat) (h : s < 4294967296) (hc : c < 256) : Go.bits .xor .u32 (s : Int) (c : Int) = ((s ^^^ c : Nat) : Int) := u32_xor_nat _ _ h (by omega)
theorem crc_poly (s : Nat) (h : s < 4294967296) (h1 : s % 2 = 1) : Go.bits .xor .u32 ((s : Int) / 2) 3988292384 = ((Crc.bit s : Nat) : Int) := by
  rw [show (3988292384 : Int) = ((3988292384 : Nat) : Int) from rfl, show (s : Int) / 2 = ((s / 2 : Nat) : Int) from rfl, u32_xor_nat _ _ (by omega) (by omega), Crc.bit, if_pos h1]
theorem crc_shr (s : Nat) (h1 : s % 2 ≠ 1) : ((s : Int) / 2) = ((Crc.bit s : Nat) : Int) := by
  rw [Crc.bit, if_neg h1]; rfl
theorem crc_not (s : Nat) (h : s < 4294967296) : Go.bits .xor .u32 IntKind.u32.max (s : Int) = ((s ^^^ 4294967295 : Nat) : Int) := by
  rw [show IntKind.u32.max = ((4294967295 : Nat) : Int) from rfl, u32_xor_nat _ _ (by omega) h, Nat.xor_comm]
theorem take_flat (ps : List Part) (k : Nat) (hk : k < ps.length) : (ps.take (k + 1)).flatMap (·.l) = (ps.take k).flatMap (·.l) ++ ps[k].l := by
  rw [List.take_succ_eq_append_getElem hk, List.flatMap_append]; simp

end Go.Proofs.YtjdffhonljhpcaaGreat
end

section
/-
  The contracts of slices.Grow (of nil) and slices.Concat, of bytes.
-/
namespace Go.Proofs.YtjdffhonljhpcaaGreat
set_option linter.unusedSimpArgs false
set_option linter.unusedVariables false
open Go.RowKit

def blens (ps : List Part) : Nat := (ps.map fun p => p.l.length).sum
theorem blens_take (ps : List Part) (i : Nat) (h : i < ps.length) : blens (ps.take (i + 1)) = blens (ps.take i) + ps[i].l.length := by
  unfold blens
  rw [List.take_succ_eq_append_getElem h, List.map_append, List.sum_append]
  simp
theorem blens_le (ps : List Part) (i : Nat) : blens (ps.take i) ≤ blens ps := by
  have e : blens ps = blens (ps.take i) + blens (ps.drop i) := by
    unfold blens
    rw [← List.sum_append, ← List.map_append, List.take_append_drop]
  omega
theorem bflat_length (ps : List Part) : (ps.flatMap (·.l)).length = blens ps := by simp [blens, List.length_flatMap]

end Go.Proofs.YtjdffhonljhpcaaGreat
end

section
/-
  The contract of slices.Clone of bytes.
-/
namespace Go.Proofs.YtjdffhonljhpcaaGreat
set_option linter.unusedSimpArgs false
set_option linter.unusedVariables false
open Go.RowKit

end Go.Proofs.YtjdffhonljhpcaaGreat
end

section
/-
  The contracts of wire.Num, wire.Int, wire.Bool, wire.Text.
-/
namespace Go.Proofs.YtjdffhonljhpcaaGreat
set_option linter.unusedSimpArgs false
set_option linter.unusedVariables false
open Go.RowKit

/-- The number fits f digits of seven bits. -/
structure Fits (m f : Nat) : Prop where
  lt : m < 128 ^ f
theorem numF_step (f m : Nat) (h : 128 ≤ m) : Wire.numF (f + 1) m = UInt8.ofNat (m % 128 + 128) :: Wire.numF f (m / 128) := by
  rw [Wire.numF, if_neg (by omega)]
theorem numF_last (f m : Nat) (h : m < 128) : Wire.numF (f + 1) m = [UInt8.ofNat m] := by
  rw [Wire.numF, if_pos h]
theorem bv_hi (m : Nat) : bv (UInt8.ofNat (m % 128 + 128)) = .int .u8 ((m : Int) % 128 + 128) := by
  simp [bv]; omega
theorem bv_lo (m : Nat) (h : m < 128) : bv (UInt8.ofNat m) = .int .u8 (m : Int) := by
  simp [bv]; omega

theorem u64_quo128 (m : Nat) (h : m < two64) : IntKind.u64.wrap ((m : Int) / 128) = ((m / 128 : Nat) : Int) := by
  rw [two64_eq] at h
  rw [IntWalk.u64_in _ (by omega)]
  omega

end Go.Proofs.YtjdffhonljhpcaaGreat
end

section
/-
  The contracts of dowserref01.Num, Int, Text.
-/
namespace Go.Proofs.YtjdffhonljhpcaaGreat
set_option linter.unusedSimpArgs false
set_option linter.unusedVariables false
open Go.RowKit

theorem bv_wrap (m : Nat) : bv (UInt8.ofNat (m % 128 + 128)) = .int .u8 ((m : Int) % 128 + 128) := bv_hi m

theorem txt_add (a b : List UInt8) : ByteArray.mk a.toArray ++ ByteArray.mk b.toArray = ByteArray.mk (a ++ b).toArray := by
  apply ByteArray.ext
  simp
end Go.Proofs.YtjdffhonljhpcaaGreat
end

section
/-
  The document's eight bytes of a number, and the number of bytes.
-/
namespace Go.Proofs.YtjdffhonljhpcaaGreat
set_option linter.unusedSimpArgs false
set_option linter.unusedVariables false
open Go.RowKit

theorem lo_snoc8 (l : List UInt8) (k : Nat) (hk : k < l.length) : Wal.lo (l.take (k + 1)) = Wal.lo (l.take k) * 256 + l[k].toNat := by
  rw [List.take_succ_eq_append_getElem hk, Wal.lo_snoc]
theorem lo_take_lt (l : List UInt8) (k : Nat) (hk : k ≤ 7) : Wal.lo (l.take k) < 72057594037927936 := by
  have h1 := Wal.lo_lt (l.take k)
  refine Nat.lt_of_lt_of_le h1 ?_
  rw [show (72057594037927936 : Nat) = 256 ^ 7 from by decide]
  exact Nat.pow_le_pow_right (by omega) (by rw [List.length_take]; omega)
theorem bv_ofNat (m : Nat) : bv (UInt8.ofNat m) = .int .u8 ((m : Int) % 256) := by simp [bv]
end Go.Proofs.YtjdffhonljhpcaaGreat
end

section
/-
  The contracts of key's small functions: eight bytes, rows' numbers, bits of real numbers.
-/
namespace Go.Proofs.YtjdffhonljhpcaaGreat
set_option linter.unusedSimpArgs false
set_option linter.unusedVariables false
open Go.RowKit

/-- What a call answers that hands back bytes that can be read, and leaves all that was there alone. -/
def RetR (w : World) (l : List UInt8) (e : Ending) (w' : World) : Prop := ∃ A c, e = .returned (.slice A l.length c) ∧ BRow w' A l ∧ l.length ≤ c ∧ Below w.heap.size w w'
theorem Blk.brow {w : World} {g : Nat} {t : TypeId} {l : List UInt8} (h : Blk w g t (l.map bv)) : BRow w (some ⟨g, 0, none⟩) l := fun _ => ⟨g, 0, rfl, h.lt, fun j hj => by
  rw [Nat.zero_add, h.cell j, List.getElem?_eq_getElem hj]⟩
theorem khi_step (n k : Nat) (h : k < 8) : (List.replicate (8 - k) (0 : UInt8) ++ Wal.hiR k n).set (7 - k) (UInt8.ofNat (n / 256 ^ k)) = List.replicate (8 - (k + 1)) 0 ++ Wal.hiR (k + 1) n := by
  rw [Wal.hiR_cons, List.set_append_left _ _ (by simp; omega), show 8 - k = (7 - k) + 1 from by omega, List.replicate_succ', List.set_append_right _ _ (by simp)]
  simp [show 8 - (k + 1) = 7 - k from by omega]
theorem kshl_or (m c : Nat) (hm : m < 256 ^ 7) (hc : c < 256) : Go.bits .or .u64 (IntKind.u64.wrap ((m : Int) * 256)) (c : Int) = ((m * 256 + c : Nat) : Int) := by
  have e : IntKind.u64.wrap ((m : Int) * 256) = ((m * 256 : Nat) : Int) := by
    rw [show (m : Int) * 256 = ((m * 256 : Nat) : Int) from by simp]
    exact IntWalk.u64_in _ (by have : (256 : Nat) ^ 7 = 72057594037927936 := by decide
                               omega)
  have h7 : (256 : Nat) ^ 7 = 72057594037927936 := by decide
  have key := Nat.two_pow_add_eq_or_of_lt (show c < 2 ^ 8 by omega) m
  rw [e, u64_or_nat _ _ (by omega) (by omega), Nat.mul_comm m 256, ← key]
theorem klo_take (l : List UInt8) (k : Nat) (hk : k < l.length) : Wal.lo (l.take (k + 1)) = Wal.lo (l.take k) * 256 + l[k].toNat := by
  rw [List.take_succ_eq_append_getElem hk, Wal.lo_snoc]
end Go.Proofs.YtjdffhonljhpcaaGreat
end

section
/-
  The contracts of key.bits, key.ID, key.ReadID and of the document's ID.
-/
namespace Go.Proofs.YtjdffhonljhpcaaGreat
set_option linter.unusedSimpArgs false
set_option linter.unusedVariables false
open Go.RowKit

theorem xor_top_lo {n : Nat} (h : n < 9223372036854775808) : n ^^^ 9223372036854775808 = n + 9223372036854775808 := by
  have e : (9223372036854775808 : Nat) = 2 ^ 63 := by decide
  rw [e] at h ⊢
  rw [Nat.xor_comm, Nat.add_comm]
  apply Nat.eq_of_testBit_eq
  intro i
  rw [Nat.testBit_xor, Nat.testBit_two_pow]
  rcases Nat.lt_trichotomy i 63 with hi | hi | hi
  · rw [Nat.testBit_two_pow_add_gt hi]
    have : decide (63 = i) = false := by simp; omega
    rw [this]; simp
  · subst hi
    rw [Nat.testBit_two_pow_add_eq]
    simp
  · have h1 : n.testBit i = false := Nat.testBit_lt_two_pow (Nat.lt_of_lt_of_le h (Nat.pow_le_pow_right (by omega) (by omega)))
    have h2 : (2 ^ 63 + n).testBit i = false := Nat.testBit_lt_two_pow (Nat.lt_of_lt_of_le (show 2 ^ 63 + n < 2 ^ 64 by omega) (Nat.pow_le_pow_right (by omega) (by omega)))
    have : decide (63 = i) = false := by simp; omega
    rw [h1, h2, this]; rfl
theorem xor_top_hi {n : Nat} (h : n < 9223372036854775808) : (n + 9223372036854775808) ^^^ 9223372036854775808 = n := by
  rw [← xor_top_lo h, Nat.xor_assoc, Nat.xor_self, Nat.xor_zero]
theorem or_top {n : Nat} (h : n < 9223372036854775808) : n ||| 9223372036854775808 = n + 9223372036854775808 := by
  have e := Nat.two_pow_add_eq_or_of_lt (show n < 2 ^ 63 by omega) 1
  rw [Nat.mul_one, Nat.or_comm] at e
  have e2 : (2 : Nat) ^ 63 = 9223372036854775808 := by decide
  rw [e2] at e
  omega
/-- uint64(id) ^ top -/
theorem id_xor {n : Int} (h1 : -9223372036854775808 ≤ n) (h2 : n ≤ 9223372036854775807) : Go.bits .xor .u64 (IntKind.u64.wrap n) 9223372036854775808 = (Key.idn n : Nat) := by
  unfold Key.idn
  by_cases h : 0 ≤ n
  · obtain ⟨m, rfl⟩ := Int.eq_ofNat_of_zero_le h
    rw [IntWalk.u64_in (m : Int) (by omega)]
    have := u64_xor_nat m 9223372036854775808 (by omega) (by decide)
    rw [xor_top_lo (by omega)] at this
    rw [show ((9223372036854775808 : Nat) : Int) = 9223372036854775808 from rfl] at this
    rw [this]
    omega
  · have e : IntKind.u64.wrap n = ((n + 18446744073709551616).toNat : Int) := by
      have := IntWalk.u64_in (n + 18446744073709551616) (by omega)
      rw [show ((n + 18446744073709551616).toNat : Int) = n + 18446744073709551616 from by omega, ← this]
      unfold IntKind.wrap
      simp [IntKind.signed, IntKind.bits]
    rw [e]
    have := u64_xor_nat (n + 18446744073709551616).toNat 9223372036854775808 (by omega) (by decide)
    rw [show ((9223372036854775808 : Nat) : Int) = 9223372036854775808 from rfl] at this
    rw [this, show (n + 18446744073709551616).toNat = (n + 9223372036854775808).toNat + 9223372036854775808 from by omega, xor_top_hi (by omega)]
/-- int64(n ^ top) -/
theorem xor_id {n : Int} (h1 : -9223372036854775808 ≤ n) (h2 : n ≤ 9223372036854775807) : IntKind.i64.wrap (Go.bits .xor .u64 ((Key.idn n : Nat) : Int) 9223372036854775808) = n := by
  have hu := u64_xor_nat (Key.idn n) 9223372036854775808 (Key.idn_lt h1 h2) (by decide)
  rw [show ((9223372036854775808 : Nat) : Int) = 9223372036854775808 from rfl] at hu
  rw [hu]
  unfold Key.idn
  by_cases h : 0 ≤ n
  · rw [show (n + 9223372036854775808).toNat = n.toNat + 9223372036854775808 from by omega, xor_top_hi (by omega), IntWalk.i64_in _ (by omega)]
    omega
  · rw [xor_top_lo (by omega)]
    unfold IntKind.wrap
    simp [IntKind.signed, IntKind.bits]
    omega
end Go.Proofs.YtjdffhonljhpcaaGreat
end

section
/-
  The plan rule, step by step: what is still to be walked stays folded.
-/
namespace Go.Proofs.YtjdffhonljhpcaaGreat
set_option linter.unusedSimpArgs false
set_option linter.unusedVariables false
open Go

section
variable (P : Program) (ops : Array Oper) (Q : Exit → Act → World → Prop) (T : Act → World → Prop)
theorem again_nil (a : Act) (w : World) : again P ops T [] a w = T a w := rfl
theorem again_cons (i : Nat) (r : List Nat) (a : Act) (w : World) : again P ops T (i :: r) a w = ∀ Z : Exit → Act → World → Prop, (again P ops T r a w → Z .normal a w) → wpList P ops Z (sel ops i) a w := rfl
theorem walk_fin (a : Act) (w : World) : walk P ops Q .fin a w = Q .normal a w := rfl
theorem walk_take (i : Nat) (p : Plan) (a : Act) (w : World) : walk P ops Q (.take i p) a w = ∀ Z : Exit → Act → World → Prop, (∀ a', walk P ops Q p a' w → Z .normal a' w) → wpList P ops Z (sel ops i) a w := rfl
theorem walk_run (e : Nat) (ag : List Nat) (p : Plan) (a : Act) (w : World) : walk P ops Q (.run e ag p) a w = ∀ Z : Exit → Act → World → Prop, (∀ a' w', again P ops (walk P ops Q p) ag a' w' → Z .normal a' w') → wpList P ops Z (sel ops e) a w := rfl
theorem walk_fork (p q : Plan) (a : Act) (w : World) : walk P ops Q (.fork p q) a w = (walk P ops Q p a w ∧ walk P ops Q q a w) := rfl
end
end Go.Proofs.YtjdffhonljhpcaaGreat
end

section
/-
  The plan rule, where an operation writes what one ahead of it, for which it waits, looks at.
-/
namespace Go.Proofs.YtjdffhonljhpcaaGreat
set_option linter.unusedSimpArgs false
set_option linter.unusedVariables false
open Go

def okC (l : List Oper) : Bool → Plan → Nat → Array Bool → List Nat → Bool
  | _, .fin, _, listed, _ => (Region.ready .any l.toArray listed).isEmpty
  | _, .take i p, fuel + 1, listed, Y => (Region.ready .any l.toArray listed).contains i && Region.free .any l.toArray listed i &&
      (match l[i]? with | some o => valueB o && (match o.dst with | some d => !(o.looksAt l.toArray).contains d | none => false) | none => false) &&
      Y.all (fun k => wApart l k i) && okC l true p fuel (listed.setIfInBounds i true) (i :: Y)
  | top, .run e ag p, fuel + 1, listed, Y => (!top || (Region.ready .any l.toArray listed).all (fun j => e == j)) && (l[e]?).isSome && (Region.ready .any l.toArray listed).contains e &&
      Y.all (fun k => dep l l.length e k || (wApart l k e && ag.contains k)) && okC l true p fuel (listed.setIfInBounds e true) (Y.filter fun k => !dep l l.length e k)
  | top, .fork p q, fuel, listed, Y => (heads p).any (fun j => (Region.ready .any l.toArray listed).contains j) && (!top || (Region.ready .any l.toArray listed).all (fun j => (heads p ++ heads q).contains j)) && okC l false p fuel listed Y && okC l false q fuel listed Y
  | _, _, _, _, _ => false
section
variable {P : Program} {ops : Array Oper} {Q : Exit → Act → World → Prop}
/-- The rule, by induction on the plan. -/
theorem wpAnyY_of_walkC {l : List Oper} (hsel : ∀ (j : Nat) (o : Oper) cs b, l.toArray[j]? = some o → o.op ≠ .select cs b) :
    ∀ (p : Plan) (top : Bool) (fuel : Nat) (Y : List (Nat × (World → Prop))) (listed : Array Bool) (a : Act) (w : World), okC l top p fuel listed (Y.map (·.1)) = true → Closed l.toArray listed → (∀ y ∈ Y, y.2 w) → (∀ y ∈ Y, Taken P l.toArray a y) →
      (∀ (i : Nat) (o : Oper) (t : Tmp), l[i]? = some o → o.dst = some t → t < a.tmps.size) → walk P l.toArray Q p a w →
      (top = true → wpAnyY P l.toArray (dep l l.length) (Only Q) fuel Y listed a w) ∧
      ∀ j ∈ heads p, j ∈ Region.ready .any l.toArray listed → ∃ n, fuel = n + 1 ∧ wpOp P l.toArray (Only Q) j (fun a' w' => (∀ y ∈ Y, dep l l.length j y.1 = false → y.2 w') ∧
        wpAnyY P l.toArray (dep l l.length) (Only Q) n (Y.filter fun y => !dep l l.length j y.1) (listed.setIfInBounds j true) a' w') a w := by
  intro p
  induction p with
  | fin =>
    intro top fuel Y listed a w hok hcl hYw hT hsz hw
    refine ⟨fun _ => wpAnyY_done (by simpa [okC] using hok) ⟨rfl, hw⟩ fuel, fun j hj => by simp [heads] at hj⟩
  | take i p ih =>
    intro top fuel Y listed a w hok hcl hYw hT hsz hw
    refine ⟨fun _ => ?_, fun j hj => by simp [heads] at hj⟩
    cases fuel with
    | zero => simp [okC] at hok
    | succ n =>
      simp only [okC, Bool.and_eq_true] at hok
      obtain ⟨⟨⟨⟨hr, hf⟩, hv⟩, hY⟩, hok⟩ := hok
      cases hi : l[i]? with
      | none => rw [hi] at hv; cases hv
      | some oi =>
        have hia : l.toArray[i]? = some oi := by simpa using hi
        rw [hi] at hv
        simp only [Bool.and_eq_true] at hv
        obtain ⟨hv, hd⟩ := hv
        cases ht : oi.dst with
        | none => rw [ht] at hd; cases hd
        | some t =>
          rw [ht] at hd
          have hself : ∀ d, oi.dst = some d → d ∉ oi.looksAt l.toArray := by
            intro d hd'
            rw [ht] at hd'
            obtain rfl := Option.some.inj hd'
            simpa using hd
          have hlt := hsz i oi t hi ht
          have h0 : wpList P l.toArray (Only fun _ a1 w1 => w1 = w ∧ walk P l.toArray Q p a1 w) (sel l.toArray i) a w := hw _ fun a' h => ⟨rfl, rfl, h⟩
          rw [sel_some hia] at h0
          have hready : i ∈ Region.ready .any l.toArray listed := by simpa using hr
          -- its value
          obtain ⟨v, hy, hwk⟩ : ∃ v, YieldsIf P l.toArray (Cond P l.toArray oi v a) oi v a ∧ Cond P l.toArray oi v a w ∧ walk P l.toArray Q p (a.put oi.dst v) w := by
            unfold wpList at h0
            by_cases hw : Region.wanted oi (yielded l.toArray a.tmps) = true
            · rw [if_pos hw] at h0
              have h1 := h0.resolve_right fun h => not_letsOut _ h.2
              have h2 := upon_cases (fun a w h => by cases h.1) (fun c a w h => by cases h.1) h1
              simp only [wpList, Only, true_and] at h2
              rcases h2 with ⟨v, w', hr, h⟩ | ⟨_, hr, h⟩ | ⟨_, _, hr, h⟩ | ⟨f, args, w', hr, h⟩ | ⟨row, args, w', hr, h⟩
              · exact ⟨v, .inl ⟨hw, fun w' h => h hw⟩, fun _ => by rw [hr, h.1], h.2⟩
              · obtain ⟨v, hv⟩ := valueB_spec hv hr; cases hv
              · obtain ⟨v, hv⟩ := valueB_spec hv hr; cases hv
              · obtain ⟨v, hv⟩ := valueB_spec hv hr; cases hv
              · obtain ⟨v, hv⟩ := valueB_spec hv hr; cases hv
            · rw [if_neg hw] at h0
              exact ⟨undef, .inr ⟨by simpa using hw, rfl⟩, fun h => absurd h hw, h0.2.2⟩
          refine wpAnyY_first hia hsel (fun c a w h => by cases h.1) n Y listed a w hcl (Region.free_spec hia hf) hready hy hwk.1 hYw ?_
          refine (ih true n ((i, Cond P l.toArray oi v a) :: Y) _ _ w (by simpa using hok) (hcl.set hready) (fun y hy => ?_) (fun y hy => ?_) (fun i' o t h1 h2 => by rw [put_size]; exact hsz i' o t h1 h2) hwk.2).1 rfl
          · cases hy with
            | head => exact hwk.1
            | tail _ hy => exact hYw y hy
          · cases hy with
            | head =>
              refine ⟨oi, t, hia, ht, by rw [put_size]; exact hlt, hv, fun w' hc => ?_⟩
              rw [ht, slot_put v hlt, ← ht] at hc
              exact Cond.put (ds := a.defers) (hsel _ _ · · hia) hself hc
            | tail _ hy =>
              have hap := List.all_eq_true.1 hY y.1 (List.mem_map.2 ⟨y, hy, rfl⟩)
              exact Taken.put (hT y hy) hsel hi hap a.defers v
  | run e ag p ih =>
    intro top fuel Y listed a w hok hcl hYw hT hsz hw
    cases fuel with
    | zero => simp [okC] at hok
    | succ n =>
      simp only [okC, Bool.and_eq_true] at hok
      obtain ⟨⟨⟨⟨htop, hsome⟩, hre⟩, hY⟩, hok⟩ := hok
      have hB : ∀ j ∈ heads (.run e ag p), j ∈ Region.ready .any l.toArray listed → ∃ n', n + 1 = n' + 1 ∧ wpOp P l.toArray (Only Q) j (fun a' w' => (∀ y ∈ Y, dep l l.length j y.1 = false → y.2 w') ∧
          wpAnyY P l.toArray (dep l l.length) (Only Q) n' (Y.filter fun y => !dep l l.length j y.1) (listed.setIfInBounds j true) a' w') a w := by
        intro j hj hjr
        obtain rfl : j = e := by simpa [heads] using hj
        refine ⟨n, rfl, ?_⟩
        cases hi : l[j]? with
        | none => rw [hi] at hsome; cases hsome
        | some oj =>
          have hja : l.toArray[j]? = some oj := by simpa using hi
          have h0 : wpList P l.toArray (Only fun _ a1 w1 => again P l.toArray (walk P l.toArray Q p) ag a1 w1) (sel l.toArray j) a w := hw _ fun a' w' h => ⟨rfl, h⟩
          rw [sel_some hja] at h0
          refine wpOp_of_list hja (fun ds v w' h => ?_) h0
          obtain ⟨hwalk, hag⟩ := again_spec h
          have hT' : ∀ y ∈ Y, dep l l.length j y.1 = false → Taken P l.toArray ({ a with defers := ds }.put oj.dst v) y := fun y hy hd => by
            have hap := List.all_eq_true.1 hY y.1 (List.mem_map.2 ⟨y, hy, rfl⟩)
            rw [hd, Bool.false_or, Bool.and_eq_true] at hap
            exact Taken.put (hT y hy) hsel hi hap.1 ds v
          have hobl : ∀ y ∈ Y, dep l l.length j y.1 = false → y.2 w' := fun y hy hd => by
            have hap := List.all_eq_true.1 hY y.1 (List.mem_map.2 ⟨y, hy, rfl⟩)
            rw [hd, Bool.false_or, Bool.and_eq_true] at hap
            obtain ⟨o, t, ho, ht, hlt, hv, hS⟩ := hT' y hy hd
            exact hS w' (hag y.1 (by simpa using hap.2) o t ho ht hlt hv)
          refine ⟨hobl, (ih true n _ _ _ w' ?_ (hcl.set hjr) (fun y hy => ?_) (fun y hy => hT' y (List.mem_filter.1 hy).1 (by simpa using (List.mem_filter.1 hy).2)) (fun i' o t h1 h2 => by rw [put_size]; exact hsz i' o t h1 h2) hwalk).1 rfl⟩
          · rw [List.filter_map] at hok
            exact hok
          · rw [List.mem_filter] at hy
            exact hobl y hy.1 (by simpa using hy.2)
      refine ⟨fun ht => ⟨fun h0 => ?_, fun j hj => ?_⟩, hB⟩
      · rw [h0] at hre; cases hre
      · rw [ht] at htop
        have : e = j := by
          have h2 : ((Region.ready .any l.toArray listed).all fun j => e == j) = true := by simpa using htop
          have h1 := List.all_eq_true.1 h2 j hj
          simpa using h1
        subst this
        obtain ⟨n', hn, h⟩ := hB e (by simp [heads]) hj
        obtain rfl : n = n' := by omega
        exact h
  | fork p q ihp ihq =>
    intro top fuel Y listed a w hok hcl hYw hT hsz hw
    simp only [okC, Bool.and_eq_true] at hok
    obtain ⟨⟨⟨hany, htop⟩, hp⟩, hq⟩ := hok
    have h1 := (ihp false fuel Y listed a w hp hcl hYw hT hsz hw.1).2
    have h2 := (ihq false fuel Y listed a w hq hcl hYw hT hsz hw.2).2
    have hB : ∀ j ∈ heads (.fork p q), j ∈ Region.ready .any l.toArray listed → ∃ n, fuel = n + 1 ∧ wpOp P l.toArray (Only Q) j (fun a' w' => (∀ y ∈ Y, dep l l.length j y.1 = false → y.2 w') ∧
        wpAnyY P l.toArray (dep l l.length) (Only Q) n (Y.filter fun y => !dep l l.length j y.1) (listed.setIfInBounds j true) a' w') a w := by
      intro j hj hjr
      rcases List.mem_append.1 hj with h | h
      · exact h1 j h hjr
      · exact h2 j h hjr
    refine ⟨fun ht => ?_, hB⟩
    obtain ⟨j, hj, hjr⟩ := List.any_eq_true.1 hany
    have hjr' : j ∈ Region.ready .any l.toArray listed := by simpa using hjr
    obtain ⟨n, rfl, _⟩ := h1 j hj hjr'
    rw [ht] at htop
    have h3 : ((Region.ready .any l.toArray listed).all fun j => (heads p ++ heads q).contains j) = true := by simpa using htop
    refine ⟨fun h0 => (by rw [h0] at hjr'; cases hjr'), fun k hk => ?_⟩
    obtain ⟨n', hn, h⟩ := hB k (by have := List.all_eq_true.1 h3 k hk; simpa [heads] using this) hk
    obtain rfl : n = n' := by omega
    exact h

/-- **The rule.** -/
theorem wp_region_planC {id : Nat} {l : List Oper} {a : Act} {w : World} (p : Plan) (hm : P.follows .mixedOrders = true) (hs : Region.noSelect l.toArray = true) (hz : sizesB l a.tmps.size = true)
    (hok : okC l true p l.length (Array.replicate l.length false) [] = true) (h : walk P l.toArray Q p a w.drew) : (Code.region id l.toArray true).wp P Q a w := by
  refine wp_region_any hm (wpAny_only _ _ _ _ (wpAny_of_Y (dp := dep l l.length) _ [] _ _ _ ?_))
  have hsz : ∀ (i : Nat) (o : Oper) (t : Tmp), l[i]? = some o → o.dst = some t → t < a.tmps.size := by
    intro i o t hi ht
    have := List.all_eq_true.1 hz o (List.mem_of_getElem? hi)
    rw [ht] at this
    simpa using this
  have := (wpAnyY_of_walkC (P := P) (Q := Q) (l := l) (Region.noSelect_spec hs) p true l.length [] (Array.replicate l.length false) a w.drew (by simpa using hok) (fun j o _ hj => by
      simp [Array.getD_eq_getD_getElem?, Array.getElem?_replicate] at hj
      split at hj <;> simp at hj) (fun y hy => by cases hy) (fun y hy => by cases hy) hsz h).1 rfl
  simpa using this
end
end Go.Proofs.YtjdffhonljhpcaaGreat
end

section
/-
  A rule for a region that draws its order, with any number of stores: what the world keeps hangs on which operations were carried out and on their values.
-/
namespace Go.Proofs.YtjdffhonljhpcaaGreat
set_option linter.unusedSimpArgs false
set_option linter.unusedVariables false
open Go Go.RowKit

section
variable {P : Program} {Q : Exit → Act → World → Prop}
theorem wp_region_many {id : Nat} {l : List Oper} {a : Act} {w : World} (S : (Nat → Bool) → (Nat → Value) → World → Prop) (R : Nat → Value → World → Prop) (Gr : World → World → Prop)
    (G : (Nat → Value) → Act) (hG : ∀ v, regFrame l v a = G v) (hm : P.follows .mixedOrders = true) (honce : onceB l = true) (hlow : lowerB l = true)
    (hR : ∀ i x w w', Gr w w' → R i x w → R i x w')
    (h0 : ∀ v, S (fun _ => false) v w.drew)
    (hstep : AllOps (fun i o => ∀ D v w', S D v w' → (∀ j, waitsB l l.length j i = true → D j = false) → Deps (fun j => D j = true ∧ R j (v j) w') o.after.toList →
      opDoes P l o Q (G v) w' fun x w'' => Gr w' w'' ∧ R i x w'' ∧ S (fun j => if j = i then true else D j) (fun j => if j = i then x else v j) w'') l 0)
    (hend : ∀ D v w', S D v w' → (∀ i, i < l.length → D i = true) → AllOps (fun i _ => R i (v i) w') l 0 → Q .normal (G v) w') :
    (Code.region id l.toArray true).wp P Q a w := by
  refine wp_region_sv0 hm honce hlow (fun D v w' => S D v w' ∧ ∀ i, D i = true → R i (v i) w') (fun _ _ => True) (fun _ _ _ => True) (fun _ _ _ _ _ _ => trivial)
    (fun v => ⟨h0 v, fun i h => by simp at h⟩) (fun i p hi D v w' hS hf hd hc => ?_) (fun D v w' hS hD _ => by
      rw [hG]
      exact hend D v w' hS.1 hD (AllOps.of' 0 fun i q hi => by simpa using hS.2 i (hD i (List.getElem?_eq_some_iff.1 hi).1)))
  obtain ⟨hS, hRs⟩ := hS
  have hc' : ∀ j o', l[j]? = some o' → D j = true → Deps (fun j => D j = true) o'.after.toList := fun j o' h1 h2 => Deps.of fun e he hb => hc j o' h1 h2 e (by simpa using he) hb
  have hdep : Deps (fun j => D j = true ∧ R j (v j) w') p.after.toList := Deps.of fun e he hb => ⟨(hd e (by simpa using he) hb).1, hRs _ (hd e (by simpa using he) hb).1⟩
  rw [hG]
  have hst := hstep.get i p hi
  simp only [Nat.zero_add] at hst
  refine fun K hK => hst D v w' hS (fun j hj => ?_) hdep K fun x w'' ⟨hg, hr, hs⟩ => hK x w'' ⟨trivial, trivial, hs, fun j hj => ?_⟩
  · cases hDj : D j with
    | false => rfl
    | true =>
      have := done_of hc' l.length i hDj hj
      rw [hf] at this
      cases this
  · by_cases hji : j = i
    · subst hji; simpa using hr
    · simp only [if_neg hji] at hj ⊢
      exact hR j _ _ _ hg (hRs j hj)
end
end Go.Proofs.YtjdffhonljhpcaaGreat
end

section
/-
  Texts joined and cut in a region that draws its order.
-/
namespace Go.Proofs.YtjdffhonljhpcaaGreat
set_option linter.unusedSimpArgs false
set_option linter.unusedVariables false
open Go.RowKit

theorem run_cat (w : World) (l m : List UInt8) (hl : l.length + m.length ≤ 9223372036854775807) : (binOp .add 9 (txt l) (txt m)).run Tryz.prog w = .ok (txt (l ++ m)) w := by
  unfold txt
  have h1 : (ByteArray.mk l.toArray).size = l.length := by simp [ByteArray.size]
  have h2 : (ByteArray.mk m.toArray).size = m.length := by simp [ByteArray.size]
  have hj := cut_join l m
  go_simp
theorem exec_cat {o : Oper} {a : Act} {w : World} {x y : Operand} {l m : List UInt8} (hop : o.op = .binOp .add 9 x y 9) (hx : a.eval x = txt l) (hy : a.eval y = txt m) (hl : l.length + m.length ≤ 9223372036854775807) :
    (execOp a.eval o).run Tryz.prog w = .ok (.value (txt (l ++ m))) w := by
  obtain ⟨dst, op, type, pos, after, guard⟩ := o
  simp only at hop
  subst hop
  show ((binOp .add 9 (a.eval x) (a.eval y) >>= fun v => (pure (.value v) : Sem Next)).run Tryz.prog w) = _
  rw [hx, hy, Sem.run_bind, run_cat w l m hl]
  rfl
section
variable {l : List Oper} {o : Oper} {a : Act} {w : World} {T : Value → World → Prop} {Q : Exit → Act → World → Prop}
theorem opDoes_cat {x y : Operand} (s t : List UInt8) (hg : o.guard = none) (hop : o.op = .binOp .add 9 x y 9) (hx : a.eval x = txt s) (hy : a.eval y = txt t) (hl : s.length + t.length ≤ 9223372036854775807) (h : T (txt (s ++ t)) w) : opDoes Tryz.prog l o Q a w T :=
  opDoes_run hg (exec_cat hop hx hy hl) h
end
theorem exec_make {P : Program} {o : Oper} {a : Act} {w w' : World} {T : TypeId} {x y : Operand} {u v r : Value} (hop : o.op = .makeSlice T x y) (hx : a.eval x = u) (hy : a.eval y = v) (hrun : (Instr.makeSlice T u v).run P w = .ok r w') : (execOp a.eval o).run P w = .ok (.value r) w' := by
  simp [execOp, hop, hx, hy, hrun, Sem.run_bind]
end Go.Proofs.YtjdffhonljhpcaaGreat
end

section
/-
  A text's bytes as a new row ([]byte(s)); a byte of a row is written.
-/
namespace Go.Proofs.YtjdffhonljhpcaaGreat
set_option linter.unusedSimpArgs false
set_option linter.unusedVariables false
open Go.RowKit

theorem BRow.set {w : World} {g : Nat} {l : List UInt8} (h : BRow w (some ⟨g, 0, none⟩) l) {j : Nat} (hj : j < l.length) (x : UInt8) : BRow (w.setCell ⟨g, j, none⟩ (bv x)) (some ⟨g, 0, none⟩) (l.set j x) := by
  intro hl
  obtain ⟨b, o, e, hb, hc⟩ := h (by simp; omega)
  simp only [Option.some.injEq, Addr.mk.injEq, and_true] at e
  obtain ⟨rfl, rfl⟩ := e
  refine ⟨g, 0, rfl, by simpa using hb, fun i hi => ?_⟩
  have hil : i < l.length := by simpa using hi
  have h0 := hc i (by simpa using hil)
  by_cases hij : i = j
  · subst hij
    rw [Nat.zero_add] at h0 ⊢
    rw [World.cell?_setCell_same _ _ _ h0]
    simp
  · rw [World.cell?_setCell_other w _ _ _ (by intro e; simp at e <;> omega), h0]
    simp [List.getElem_set, Ne.symm hij]
end Go.Proofs.YtjdffhonljhpcaaGreat
end

