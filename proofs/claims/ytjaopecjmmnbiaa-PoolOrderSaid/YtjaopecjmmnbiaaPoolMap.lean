/-
  The pool's map at the operations: asked, written, struck from.
-/
import Derived.Test.YtjaopecjmmnbiaaPoolNil
namespace Go.Proofs.Ytjaopecjmmnbiaa
open Go.RowKit Go.Maps

theorem int_wf {k : Int} (h1 : -9223372036854775808 ≤ k) (h2 : k ≤ 9223372036854775807) : (Lit.int .i64 k).wf = true := by
  simp [Lit.wf, IntKind.min, IntKind.max, IntKind.signed, IntKind.bits]
  omega
theorem intKeyed : Keyed Try.prog 3 := int_keyed Try.underlying3
theorem int_key {k : Int} (h1 : -9223372036854775808 ≤ k) (h2 : k ≤ 9223372036854775807) : keyOf Try.prog 3 (.int .i64 k) = some (.int .i64 k) := keyOf_int_mk Try.underlying3 (int_wf h1 h2)

section
variable {w : World} {ops : Array Oper} {rest : List Oper} {o : Oper} {a : Act} {Q : Exit → Act → World → Prop} {gm N : Nat} {f : Int → Option Nat}
/-- v, ok := m[k] -/
theorem wpList_pool_lookup (hg : o.guard = none) (m x : Operand) (hop : o.op = Op.lookup 59 m x true) (hm : a.eval m = .map (some gm)) (h : MapAt w gm N f) (k : Int) (hx : a.eval x = .int .i64 k)
    (h1 : -9223372036854775808 ≤ k) (h2 : k ≤ 9223372036854775807) (hz : (zeroValue 3).run Try.prog w = .ok (.int .i64 0) w)
    (hK : wpList Try.prog ops Q rest (a.put o.dst (.tuple #[.int .i64 (((f k).getD 0 : Nat) : Int), .bool (f k).isSome])) w) : wpList Try.prog ops Q (o :: rest) a w := by
  obtain ⟨D, hown, hD, hf⟩ := h
  refine wpList_lookup_own_ok_int w hg m x 59 hop 3 3 .i64 intKeyed Try.underlying59 Try.underlying3 hz gm N D hm hown _ _ hx (int_key h1 h2) fun c hat _ => ?_
  obtain ⟨e1, e2⟩ := hf k h1 h2
  rw [e1]
  have hc : c = (((f k).getD 0 : Nat) : Int) := by
    cases hfk : f k with
    | none =>
      rw [hfk] at e1
      rw [atKey_of_not_has (by simpa using e1)] at hat
      simp at hat
      simpa using hat.symm
    | some i =>
      rw [e2 i _ hfk] at hat
      simp at hat
      simpa using hat.symm
  rw [hc]
  exact hK
/-- m[k] = i -/
theorem wpList_pool_update (hg : o.guard = none) (m x v : Operand) (hop : o.op = Op.mapUpdate 59 m x v) (hm : a.eval m = .map (some gm)) (h : MapAt w gm N f) (hN : N < 1000000) (k : Int) (hx : a.eval x = .int .i64 k)
    (h1 : -9223372036854775808 ≤ k) (h2 : k ≤ 9223372036854775807) (i : Nat) (hv : a.eval v = .int .i64 (i : Nat)) (hi : i ≤ 1000000)
    (hK : ∀ w', MapAt w' gm (N + 1) (fun j => if j = k then some i else f j) → w.grownBy w' (some gm) → wpList Try.prog ops Q rest (a.put o.dst undef) w') : wpList Try.prog ops Q (o :: rest) a w := by
  obtain ⟨D, hown, hD, hf⟩ := h
  refine wpList_mapUpdate_in w hg m x v 59 hop 3 3 intKeyed Try.underlying59 _ gm N D hm hown (by unfold maxLen; omega) _ _ _ hx hv (int_key h1 h2) _ [] (plainElem_int Try.underlying3 (int_wf (by omega) (by omega))) fun w' hown' ht => ?_
  refine hK w' ⟨_, hown', hD.put _ _, fun j j1 j2 => ?_⟩ ht.grown
  by_cases hj : j = k
  · subst hj
    simp only [if_true]
    refine ⟨by rw [has_put_same hD (by simp [WideAt.IsKeyLit])]; rfl, fun i' z hi' => ?_⟩
    obtain rfl := Option.some.inj hi'
    exact atKey_put_same hD (by simp [WideAt.IsKeyLit]) _ z
  · simp only [if_neg hj]
    have hne : (Lit.int .i64 j) ≠ (Lit.int .i64 k) := by simpa using hj
    obtain ⟨e1, e2⟩ := hf j j1 j2
    exact ⟨by rw [has_put_other hne]; exact e1, fun i' z hi' => by rw [atKey_put_other hne]; exact e2 i' z hi'⟩
/-- delete(m, k) -/
theorem wpList_pool_delete (hg : o.guard = none) (m x : Operand) (hop : o.op = Op.call { callee := Callee.builtin Builtin.delete, args := #[m, x], argTypes := #[59, 3] }) (hm : a.eval m = .map (some gm)) (h : MapAt w gm N f) (k : Int) (hx : a.eval x = .int .i64 k)
    (h1 : -9223372036854775808 ≤ k) (h2 : k ≤ 9223372036854775807)
    (hK : ∀ w', MapAt w' gm N (fun j => if j = k then none else f j) → w.grownBy w' (some gm) → wpList Try.prog ops Q rest (a.put o.dst (.tuple #[])) w') : wpList Try.prog ops Q (o :: rest) a w := by
  obtain ⟨D, hown, hD, hf⟩ := h
  refine wpList_delete_own w hg m x 59 3 hop 3 intKeyed Try.underlying59 _ gm N D hm hown _ _ hx (int_key h1 h2) fun w' hown' ht => ?_
  refine hK w' ⟨_, hown', hD.del _, fun j j1 j2 => ?_⟩ ht.grown
  by_cases hj : j = k
  · subst hj
    simp only [if_true]
    exact ⟨by rw [has_del_same]; rfl, fun i' z hi' => by cases hi'⟩
  · simp only [if_neg hj]
    have hne : (Lit.int .i64 j) ≠ (Lit.int .i64 k) := by simpa using hj
    obtain ⟨e1, e2⟩ := hf j j1 j2
    exact ⟨by rw [has_del_other hne]; exact e1, fun i' z hi' => by rw [atKey_del_other hne]; exact e2 i' z hi'⟩
end
end Go.Proofs.Ytjaopecjmmnbiaa
