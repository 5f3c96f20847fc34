/-
  Values of many cells that are built; a slice of one of them; append to a full row.
-/
import Derived.Test.YthbanhedjfpmaaaCells
import Derived.ArgAppend
namespace Go.Proofs.Ythbanhedjfpmaaa
set_option linter.unusedSimpArgs false
set_option linter.unusedVariables false
open Go.RowKit

theorem fold_set : ∀ (vs : List Value) (cells : Array Value) (off k : Nat), ((vs.zipIdx k).foldl (fun (cs : Array Value) (p : Value × Nat) => cs.setIfInBounds (off + p.2) p.1) cells).toList = setFrom cells.toList (off + k) vs
  | [], cells, off, k => rfl
  | v :: vs, cells, off, k => by
    rw [List.zipIdx_cons, List.foldl_cons, fold_set vs _ off (k + 1), setFrom]
    simp only [Array.toList_setIfInBounds]
    rw [Nat.add_assoc]
theorem fold_set_arr (v : Value) (cells : Array Value) (off : Nat) : v.cells.zipIdx.foldl (fun (cs : Array Value) (p : Value × Nat) => cs.setIfInBounds (off + p.2) p.1) cells = (setFrom cells.toList off v.cells.toList).toArray := by
  have h := fold_set v.cells.toList cells off 0
  rw [Nat.add_zero] at h
  rw [← h, Array.toArray_toList]
  rw [← Array.foldl_toList]
  congr 1
  simp [Array.toList_zipIdx]
/-- []T{x} of one element of many cells. -/
theorem run_buildSlice_one {α : Type} (E : Elem α) (x : α) (v : Value) (hv : v.cells.toList = E.code x) (hbig : E.sz ≤ 65536) (w : World) :
    (Instr.buildSlice E.t 1 #[(0, v)]).run Try.prog w = .ok (.slice (some ⟨w.heap.size, 0, none⟩) 1 1) (w.alloc (.cells (E.code x).toArray E.e)) := by
  obtain ⟨i, hi, hz, hsi, hby⟩ := info_parts E.info
  have hsz : v.cells.size = E.sz := by rw [← Array.length_toList, hv, E.len]
  have hpos := E.pos
  have hzero : ((Array.range E.sz).map fun j => E.zero.cells[j % E.zero.cells.size]!).size = E.sz := by simp
  have hfill : Instr.fill (fun i => some (i * E.sz, E.sz)) ((Array.range E.sz).map fun j => E.zero.cells[j % E.zero.cells.size]!) [(0, v)] = some (E.code x).toArray := by
    unfold Instr.fill
    simp only [Nat.zero_mul]
    rw [if_neg (by rw [hsz, hzero]; simp)]
    unfold Instr.fill
    have := fold_set_arr v ((Array.range E.sz).map fun j => E.zero.cells[j % E.zero.cells.size]!) 0
    have e := setFrom_all (E.code x) ((Array.range E.sz).map fun j => E.zero.cells[j % E.zero.cells.size]!).toList [] (by rw [E.len, Array.length_toList, hzero])
    simp only [List.nil_append, List.length_nil] at e
    rw [this, hv, e]
  simp only [Instr.buildSlice, Sem.run_bind, run_underlying E.under, Result.andThen_ok, sizeOf, typeInfo, Sem.run_pure]
  simp [hi, hsi, zeroValue, typeInfo, hz, newRow]
  rw [if_neg (by omega), if_neg (by omega), hfill]
  simp
theorem exec_buildSlice {P : Program} {o : Oper} {a : Act} {w w' : World} {T : TypeId} {x : Operand} {v r : Value} (hop : o.op = .buildSlice T 1 #[(0, x)]) (hx : a.eval x = v) (hrun : (Instr.buildSlice T 1 #[(0, v)]).run P w = .ok r w') : (execOp a.eval o).run P w = .ok (.value r) w' := by
  simp [execOp, hop, hx, hrun, Sem.run_bind]
theorem exec_append {P : Program} {o : Oper} {a : Act} {w w' : World} {d s : Operand} {ts : Array TypeId} {x y r : Value} (hop : o.op = .call { callee := .builtin .append, args := #[d, s], argTypes := ts })
    (hd : a.eval d = x) (hs : a.eval s = y) (hrun : (Builtin.append_ ts o.type #[x, y]).run P w = .ok r w') : (execOp a.eval o).run P w = .ok (.value r) w' := by
  simp [execOp, hop, resolve, invoke, builtin, hd, hs, hrun, Result.andThen]
/-- append to a row that is full, whoever's it is: a new one. -/
theorem run_append_full {α : Type} (E : Elem α) {w : World} {A A' : Option Addr} {c' : Nat} {L M : List α} (ty : TypeId) (hr : ERow E w A L) (hr' : ERow E w A' M) (hM : 0 < M.length) (hb : L.length + M.length ≤ 1073741824) (hnone : A = none → L = []) :
    ∃ A1 c1 w1, (Builtin.append_ #[E.t, E.t] ty #[.slice A L.length L.length, .slice A' M.length c']).run Try.prog w = .ok (.slice A1 (L.length + M.length) c1) w1 ∧ EOwn E w1 w.heap.size A1 c1 (L ++ M) ∧ Below w.heap.size w w1 := by
  obtain ⟨i, hi, hz, hsi, hby⟩ := info_parts E.info
  obtain ⟨b, o, rfl, hlt, hc⟩ := hr' hM
  have hcells : ∀ j u, (E.cells M)[j]? = some u → w.cell? ((⟨b, o, none⟩ : Addr).add j) = some u := fun j u hu => by rw [Addr.add_lit]; exact hc j u hu
  have hbig : (L.length + M.length) * E.bytes ≤ 140737488355328 := by
    have h1 := Nat.mul_le_mul hb E.few
    omega
  cases A with
  | some ad =>
    have hold : ∀ j u, (E.cells L)[j]? = some u → w.cell? (ad.add j) = some u := by
      intro j u hu
      have hj := (List.getElem?_eq_some_iff.1 hu).1
      rw [E.cells_length] at hj
      obtain ⟨b', o', h, _, hc'⟩ := hr (by
        rcases Nat.eq_zero_or_pos L.length with h0 | h0
        · rw [h0] at hj; simp at hj
        · exact h0)
      obtain rfl := Option.some.inj h
      rw [Addr.add_lit]
      exact hc' j u hu
    obtain ⟨v', w', hrun, r1, r2⟩ := run_append_arg_grows (P := Try.prog) w E.t ty E.e i E.zero E.sz E.bytes E.under hi hz hsi hby E.zsz E.pos ad L.length L.length (E.cells L) (E.cells_length L) hold ⟨b, o, none⟩ M.length c' (E.cells M) (E.cells_length M) hcells (by omega) (by simp [maxLen]; omega) hbig
    obtain ⟨A1, c1, rfl⟩ := own_slice r1
    refine ⟨A1, c1, w', hrun, ?_, (Below.refl _ w).grown r2 (Nat.le_refl _) (fun k hk => by cases hk)⟩
    unfold EOwn
    rw [E.cells_append, List.length_append]
    exact r1
  | none =>
    have hl := hnone rfl
    subst hl
    obtain ⟨v', w', hrun, r1, r2, _⟩ := run_append_own (P := Try.prog) w w.heap.size E.t ty E.e i E.zero E.sz E.bytes E.under hi hz hsi hby E.zsz E.pos (.slice none 0 0) 0 [] (World.ownsRow_nil w _ E.e E.sz) ⟨b, o, none⟩ M.length c' (E.cells M) (E.cells_length M) hcells (E.cells_one M) (by simp [maxLen]; omega) (by simpa using hbig) (Nat.le_refl _)
    obtain ⟨A1, c1, rfl⟩ := own_slice r1
    refine ⟨A1, c1, w', by simpa using hrun, ?_, (Below.refl _ w).grown r2 (Nat.le_refl _) (fun k hk => by simp [Value.ownBlock] at hk)⟩
    unfold EOwn
    simpa using r1
end Go.Proofs.Ythbanhedjfpmaaa
