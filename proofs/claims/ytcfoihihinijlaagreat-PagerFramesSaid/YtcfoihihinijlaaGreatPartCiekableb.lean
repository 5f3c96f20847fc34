/-
  Texts of a proof, one behind the other (each with its own head).
-/
import Derived.Test.YtcfoihihinijlaaGreatPartBhkjellkn
import Derived.OrdersHeld
import Derived.Laws.CopyOwn
section
namespace Go.Proofs.YtcfoihihinijlaaGreat
set_option linter.unusedSimpArgs false
set_option linter.unusedVariables false
open Go
inductive Plan where
  | fin
  | take (i : Nat) (p : Plan)
  | run (e : Nat) (ag : List Nat) (p : Plan)
  | fork (p q : Plan)
def dep (l : List Oper) : Nat → Nat → Nat → Bool
  | 0, _, _ => false
  | f + 1, j, i => Nat.blt i j && (match l[j]? with | some o => o.after.toList.any fun e => Region.binds .any e && (e.on == i || dep l f e.on i) | none => false)
def valueB (o : Oper) : Bool := match o.op with
  | .move _ | .assign _ | .pick .. | .alloc _ | .box .. | .build .. | .buildSlice .. | .load .. | .nilCheck _ | .binOp .. | .unOp .. | .convert .. | .makeInterface .. | .makeSlice .. | .slice .. | .fieldAddr .. | .field .. | .indexAddr .. | .index .. | .lookup .. | .typeAssert .. | .extract .. => true
  | .call { callee := .builtin b, .. } => (match b with | .len | .cap | .max | .min => true | _ => false)
  | _ => false
def wApart (l : List Oper) (i k : Nat) : Bool := match l[i]?, l[k]? with
  | some oi, some ok => (match ok.dst with | some d => !(oi.looksAt l.toArray).contains d && oi.dst != some d | none => true)
  | _, _ => false
def heads : Plan → List Nat
  | .run e _ _ => [e]
  | .fork p q => heads p ++ heads q
  | _ => []
def okB (l : List Oper) : Bool → Plan → Nat → Array Bool → List Nat → Bool
  | _, .fin, _, listed, _ => (Region.ready .any l.toArray listed).isEmpty
  | _, .take i p, fuel + 1, listed, Y => (Region.ready .any l.toArray listed).contains i && Region.free .any l.toArray listed i &&
      (match l[i]? with | some o => valueB o && (match o.dst with | some d => !(o.looksAt l.toArray).contains d | none => false) | none => false) &&
      Y.all (fun k => wApart l k i) && okB l true p fuel (listed.setIfInBounds i true) (i :: Y)
  | top, .run e ag p, fuel + 1, listed, Y => (!top || (Region.ready .any l.toArray listed).all (fun j => e == j)) && (l[e]?).isSome && (Region.ready .any l.toArray listed).contains e &&
      Y.all (fun k => wApart l k e && (dep l l.length e k || ag.contains k)) && okB l true p fuel (listed.setIfInBounds e true) (Y.filter fun k => !dep l l.length e k)
  | top, .fork p q, fuel, listed, Y => (heads p).any (fun j => (Region.ready .any l.toArray listed).contains j) && (!top || (Region.ready .any l.toArray listed).all (fun j => (heads p ++ heads q).contains j)) && okB l false p fuel listed Y && okB l false q fuel listed Y
  | _, _, _, _, _ => false
section
variable (P : Program) (ops : Array Oper) (Q : Exit → Act → World → Prop)
def sel (i : Nat) : List Oper := match ops[i]? with | some o => [o] | none => []
def again (T : Act → World → Prop) : List Nat → Act → World → Prop
  | [], a, w => T a w
  | i :: r, a, w => ∀ Z : Exit → Act → World → Prop, (again T r a w → Z .normal a w) → wpList P ops Z (sel ops i) a w
def walk : Plan → Act → World → Prop
  | .fin, a, w => Q .normal a w
  | .take i p, a, w => ∀ Z : Exit → Act → World → Prop, (∀ a', walk p a' w → Z .normal a' w) → wpList P ops Z (sel ops i) a w
  | .run e ag p, a, w => ∀ Z : Exit → Act → World → Prop, (∀ a' w', again P ops (walk p) ag a' w' → Z .normal a' w') → wpList P ops Z (sel ops e) a w
  | .fork p q, a, w => walk p a w ∧ walk q a w
end
section
variable {P : Program} {ops : Array Oper} {Q : Exit → Act → World → Prop}
def Only (Q : Exit → Act → World → Prop) : Exit → Act → World → Prop := fun e a w => e = .normal ∧ Q .normal a w
theorem not_letsOut (Q : Exit → Act → World → Prop) : ¬ LetsOut (Only Q) := fun ⟨_, _, h, _⟩ => by cases h
theorem upon_cases {o : Oper} {a : Act} {K : Act → World → Prop} {Z : Exit → Act → World → Prop} {r : Result Next} (hZ : ∀ a w, ¬ Z .outgrown a w) (hp : ∀ c a w, ¬ Z (.panic c) a w)
    (h : o.upon P a K Z r) : (∃ v w', r = .ok (.value v) w' ∧ K (a.put o.dst v) w') ∨ (∃ w', r = .ok .skip w' ∧ K (a.put o.dst undef) w') ∨ (∃ d w', r = .ok (.defer d) w' ∧ K ({ a with defers := d :: a.defers }.put o.dst undef) w') ∨
      (∃ f args w', r = .ok (.enter f args) w' ∧ Calls P f args w' fun e w'' => ∃ v, e = .returned v ∧ K (a.put o.dst v) w'') ∨ (∃ row args w', r = .ok (.row row args) w' ∧ Rows P row args w' fun v w'' => K (a.put o.dst v) w'') := by
  cases r with
  | ok n w' =>
    cases n <;> simp only [Oper.upon] at h
    case value v => exact .inl ⟨v, w', rfl, h⟩
    case skip => exact .inr (.inl ⟨w', rfl, h⟩)
    case defer d => exact .inr (.inr (.inl ⟨d, w', rfl, h⟩))
    case enter f args =>
      refine .inr (.inr (.inr (.inl ⟨f, args, w', rfl, h.mono fun e w'' he => ?_⟩)))
      cases e with
      | returned v => exact ⟨v, rfl, he⟩
      | panicked c => exact absurd he (hp _ _ _)
      | outgrown => obtain ⟨_, _, h⟩ := he; exact absurd h (hZ _ _)
    case row row args => exact .inr (.inr (.inr (.inr ⟨row, args, w', rfl, h⟩)))
  | halt x w' =>
    cases x <;> simp only [Oper.upon] at h
    exact absurd h (hp _ _ _)
theorem upon_back {o : Oper} {a : Act} {K K' : Act → World → Prop} {Q' : Exit → Act → World → Prop} {r : Result Next} (hK : ∀ ds v w', K ({ a with defers := ds }.put o.dst v) w' → K' ({ a with defers := ds }.put o.dst v) w')
    (h : (∃ v w', r = .ok (.value v) w' ∧ K (a.put o.dst v) w') ∨ (∃ w', r = .ok .skip w' ∧ K (a.put o.dst undef) w') ∨ (∃ d w', r = .ok (.defer d) w' ∧ K ({ a with defers := d :: a.defers }.put o.dst undef) w') ∨
      (∃ f args w', r = .ok (.enter f args) w' ∧ Calls P f args w' fun e w'' => ∃ v, e = .returned v ∧ K (a.put o.dst v) w'') ∨ (∃ row args w', r = .ok (.row row args) w' ∧ Rows P row args w' fun v w'' => K (a.put o.dst v) w'')) :
    o.upon P a K' Q' r := by
  rcases h with ⟨v, w', rfl, h⟩ | ⟨w', rfl, h⟩ | ⟨d, w', rfl, h⟩ | ⟨f, args, w', rfl, h⟩ | ⟨row, args, w', rfl, h⟩
  · exact hK a.defers _ _ h
  · exact hK a.defers _ _ h
  · exact hK _ _ _ h
  · refine Calls.mono h fun e w'' he => ?_
    obtain ⟨v, rfl, hk⟩ := he
    exact hK a.defers _ _ hk
  · exact Rows.mono h fun v w'' hk => hK a.defers _ _ hk
theorem wpOp_of_list {i : Nat} {o : Oper} {a : Act} {w : World} {Z : Exit → Act → World → Prop} {K' : Act → World → Prop} {Q' : Exit → Act → World → Prop} (hi : ops[i]? = some o)
    (hK : ∀ ds v w', Z .normal ({ a with defers := ds }.put o.dst v) w' → K' ({ a with defers := ds }.put o.dst v) w') (h : wpList P ops (Only Z) [o] a w) : wpOp P ops Q' i K' a w := by
  unfold wpOp
  simp only [hi]
  unfold wpList at h
  split
  · rename_i hw
    rw [if_pos hw] at h
    rcases h with h | h
    · refine .inl (upon_back (K := fun a w => Z .normal a w) hK ?_)
      have h2 := upon_cases (fun a w h => by cases h.1) (fun c a w h => by cases h.1) h
      simpa only [wpList, Only, true_and] using h2
    · exact absurd h.2 (not_letsOut Z)
  · rename_i hw
    rw [if_neg hw] at h
    exact hK a.defers _ _ h.2
theorem run_value {α : Type} {s : Sem α} {f : α → Next} {w w' : World} {n : Next} (hf : ∀ x, ∃ v, f x = .value v) (h : (s >>= fun x => (pure (f x) : Sem Next)).run P w = .ok n w') : ∃ v, n = .value v := by
  rw [Sem.run_bind] at h
  cases hs : s.run P w with
  | ok x w1 =>
    rw [hs] at h
    simp only [Result.andThen_ok, Sem.run_pure, Result.ok.injEq] at h
    obtain ⟨v, hv⟩ := hf x
    exact ⟨v, by rw [← h.1, hv]⟩
  | halt e w1 => rw [hs] at h; cases h
theorem valueB_spec {ρ : Operand → Value} {o : Oper} (hv : valueB o = true) {w w' : World} {n : Next} (h : (execOp ρ o).run P w = .ok n w') : ∃ v, n = .value v := by
  obtain ⟨dst, op, type, pos, after, guard⟩ := o
  cases op <;> simp only [valueB] at hv <;> (try (cases hv; done)) <;> simp only [execOp] at h
  case move => simp only [Sem.run_pure, Result.ok.injEq] at h; exact ⟨_, h.1.symm⟩
  case assign => simp only [Sem.run_pure, Result.ok.injEq] at h; exact ⟨_, h.1.symm⟩
  case nilCheck x =>
    generalize ρ x = y at h
    split at h <;> (try (simp only [Sem.run_pure, Result.ok.injEq] at h; exact ⟨_, h.1.symm⟩)) <;> (try (simp only [runtimePanic, goPanic, Sem.run_bind, run_program, Result.andThen_ok, Sem.run_halt] at h; cases h; done))
    split at h <;> (try (simp only [Sem.run_pure, Result.ok.injEq] at h; exact ⟨_, h.1.symm⟩)) <;> (try (simp only [runtimePanic, goPanic, Sem.run_bind, run_program, Result.andThen_ok, Sem.run_halt] at h; cases h; done))
    rw [Sem.run_bind] at h
    simp only [run_program, Result.andThen_ok] at h
    rw [Sem.run_bind] at h
    cases hn : (nilAhead (P.types.size + Made.depth) _ _ _).run P w with
    | halt e w1 => rw [hn] at h; cases h
    | ok r w1 =>
      rw [hn] at h
      simp only [Result.andThen_ok] at h
      split at h
      · cases h
      · simp only [Sem.run_pure, Result.ok.injEq] at h; exact ⟨_, h.1.symm⟩
  case call c =>
    obtain ⟨callee, args, argTypes⟩ := c
    cases callee <;> simp only [valueB] at hv <;> (try (cases hv; done))
    rename_i b
    simp only [resolve, Sem.run_bind, Sem.run_pure, Result.andThen_ok, invoke] at h
    cases b <;> simp only at hv <;> (try (cases hv; done)) <;> simp only [builtin] at h <;> exact run_value (fun x => ⟨_, rfl⟩) h
  all_goals exact run_value (fun x => ⟨_, rfl⟩) h
theorem put_size (a : Act) (d : Option Tmp) (v : Value) : (a.put d v).tmps.size = a.tmps.size := by cases d <;> simp [Act.put]
theorem slot_put {a : Act} {t : Tmp} (v : Value) (h : t < a.tmps.size) : slotOf (a.put (some t) v) (some t) = v := by simp [slotOf, Act.put, h]
theorem slot_put_ne {a : Act} {t : Tmp} {d : Option Tmp} (v : Value) (h : d ≠ some t) : slotOf (a.put d v) (some t) = slotOf a (some t) := by
  cases d with
  | none => rfl
  | some d =>
    have hne : d ≠ t := fun e => h (by rw [e])
    simp [slotOf, Act.put, Array.getElem?_setIfInBounds_ne hne]
def Cond (P : Program) (ops : Array Oper) (o : Oper) (v : Value) (a : Act) (w' : World) : Prop := Region.wanted o (yielded ops a.tmps) = true → (execOp a.eval o).run P w' = .ok (.value v) w'
theorem Cond.put {o : Oper} {v : Value} {a : Act} {w' : World} {ds : List Deferred} {d : Option Tmp} {u : Value} (hs : ∀ cs b, o.op ≠ .select cs b) (h : ∀ t, d = some t → t ∉ o.looksAt ops)
    (hc : Cond P ops o v ({ a with defers := ds }.put d u) w') : Cond P ops o v a w' := by
  unfold Cond at *
  rw [execOp_put o hs { a with defers := ds } d u h, wanted_put o { a with defers := ds } d u h] at hc
  exact hc
def Taken (P : Program) (ops : Array Oper) (a : Act) (y : Nat × (World → Prop)) : Prop :=
  ∃ o t, ops[y.1]? = some o ∧ o.dst = some t ∧ t < a.tmps.size ∧ valueB o = true ∧ ∀ w', Cond P ops o (slotOf a (some t)) a w' → y.2 w'
theorem Taken.put {l : List Oper} {a : Act} {y : Nat × (World → Prop)} (h : Taken P l.toArray a y) (hsel : ∀ (j : Nat) (o : Oper) cs b, l.toArray[j]? = some o → o.op ≠ .select cs b) {k : Nat} {ok : Oper} (hk : l[k]? = some ok) (hw : wApart l y.1 k = true)
    (ds : List Deferred) (u : Value) : Taken P l.toArray ({ a with defers := ds }.put ok.dst u) y := by
  obtain ⟨o, t, ho, ht, hlt, hv, hS⟩ := h
  have hol : l[y.1]? = some o := by simpa using ho
  have hap : ∀ d, ok.dst = some d → d ∉ o.looksAt l.toArray ∧ o.dst ≠ some d := by
    intro d hd
    simp only [wApart, hol, hk, hd] at hw
    simpa using hw
  refine ⟨o, t, ho, ht, by rw [put_size]; exact hlt, hv, fun w' hc => hS w' ?_⟩
  rw [slot_put_ne (a := { a with defers := ds }) u (by intro e; exact (hap t e).2 ht)] at hc
  exact Cond.put (hsel _ _ · · ho) (fun d hd => (hap d hd).1) hc
def wpAnyY (P : Program) (ops : Array Oper) (dp : Nat → Nat → Bool) (Q : Exit → Act → World → Prop) : Nat → List (Nat × (World → Prop)) → Array Bool → Act → World → Prop
  | 0, _, listed, a, w => Region.ready .any ops listed = [] ∧ Q .normal a w
  | fuel + 1, Y, listed, a, w =>
    (Region.ready .any ops listed = [] → Q .normal a w) ∧
    ∀ j ∈ Region.ready .any ops listed, wpOp P ops Q j (fun a' w' => (∀ y ∈ Y, dp j y.1 = false → y.2 w') ∧ wpAnyY P ops dp Q fuel (Y.filter fun y => !dp j y.1) (listed.setIfInBounds j true) a' w') a w
theorem wpAny_of_Y {dp : Nat → Nat → Bool} : ∀ (fuel : Nat) (Y : List (Nat × (World → Prop))) (listed : Array Bool) (a : Act) (w : World), wpAnyY P ops dp Q fuel Y listed a w → wpAny P .any ops Q fuel listed a w
  | 0, _, _, _, _, h => h
  | fuel + 1, _, _, _, _, h => ⟨h.1, fun i hi => wpOp_mono (fun a' w' h' => wpAny_of_Y fuel _ _ a' w' h'.2) (h.2 i hi)⟩
theorem wpAnyY_less {dp : Nat → Nat → Bool} : ∀ (fuel : Nat) (Y Y' : List (Nat × (World → Prop))) (listed : Array Bool) (a : Act) (w : World), (∀ y ∈ Y', y ∈ Y) → wpAnyY P ops dp Q fuel Y listed a w → wpAnyY P ops dp Q fuel Y' listed a w
  | 0, _, _, _, _, _, _, h => h
  | fuel + 1, Y, Y', _, _, _, hY, h => ⟨h.1, fun i hi => wpOp_mono (fun a' w' h' => ⟨fun y hy hd => h'.1 y (hY y hy) hd, wpAnyY_less fuel _ _ _ a' w' (fun y hy => by
      rw [List.mem_filter] at hy ⊢
      exact ⟨hY y hy.1, hy.2⟩) h'.2⟩) (h.2 i hi)⟩
def Closed (ops : Array Oper) (listed : Array Bool) : Prop := ∀ j o, ops[j]? = some o → listed.getD j false = true → ∀ e ∈ o.after, Region.binds .any e = true → listed.getD e.on false = true
theorem Closed.set {listed : Array Bool} (h : Closed ops listed) {i : Nat} (hi : i ∈ Region.ready .any ops listed) : Closed ops (listed.setIfInBounds i true) := by
  intro j o hj hl e he hb
  by_cases hij : i = j
  · subst hij
    obtain ⟨_, o', ho', hall⟩ := mem_ready.1 hi
    obtain rfl : o' = o := by rw [hj] at ho'; exact (Option.some.inj ho').symm
    exact getD_set_true (hall e he hb)
  · rw [getD_set_ne false hij] at hl
    exact getD_set_true (h j o hj hl e he hb)
theorem dep_closed {l : List Oper} {listed : Array Bool} (h : Closed l.toArray listed) : ∀ (f j i : Nat), listed.getD j false = true → dep l f j i = true → listed.getD i false = true
  | 0, _, _, _, hd => by cases hd
  | f + 1, j, i, hj, hd => by
    simp only [dep, Bool.and_eq_true] at hd
    obtain ⟨-, hd⟩ := hd
    split at hd
    · rename_i o ho
      obtain ⟨e, he, hb⟩ := List.any_eq_true.1 hd
      rw [Bool.and_eq_true, Bool.or_eq_true] at hb
      have h1 := h j o (by simpa using ho) hj e (by simpa using he) hb.1
      rcases hb.2 with h2 | h2
      · have : e.on = i := by simpa using h2
        rwa [this] at h1
      · exact dep_closed h f e.on i h1 h2
    · cases hd
theorem dep_ready {l : List Oper} {listed : Array Bool} (h : Closed l.toArray listed) {f j i : Nat} (hj : j ∈ Region.ready .any l.toArray listed) (hi : listed.getD i true = false) (hne : j ≠ i) : dep l f j i = false := by
  cases hd : dep l f j i with
  | false => rfl
  | true =>
    have hjl : (listed.setIfInBounds j true).getD j false = true := by
      have h0 := (mem_ready.1 hj).1
      rcases Nat.lt_or_ge j listed.size with h' | h'
      · simp [h']
      · simp [Array.getElem?_eq_none h'] at h0
    have h1 := dep_closed (h.set hj) f j i hjl hd
    rw [getD_set_ne false hne] at h1
    rcases Nat.lt_or_ge i listed.size with h' | h'
    · simp [h'] at h1 hi; rw [h1] at hi; cases hi
    · simp [Array.getElem?_eq_none h'] at hi
theorem wpAnyY_first {l : List Oper} {f : Nat} {i : Nat} {oi : Oper} {v : Value} {S : World → Prop} (hi : l.toArray[i]? = some oi) (hsel : ∀ (j : Nat) (o : Oper) cs b, l.toArray[j]? = some o → o.op ≠ .select cs b)
    (hQ : ∀ c a w, Q (.panic c) (a.put oi.dst v) w → Q (.panic c) a w) :
    ∀ (fuel : Nat) (Y : List (Nat × (World → Prop))) (listed : Array Bool) (a : Act) (w : World), Closed l.toArray listed →
      (∀ j oj, l.toArray[j]? = some oj → j ≠ i → listed.getD j true = false → (∀ e ∈ oj.after, Region.binds .any e = true → e.on ≠ i) → oi.apart l.toArray oj = true) →
      i ∈ Region.ready .any l.toArray listed → YieldsIf P l.toArray S oi v a → S w → (∀ y ∈ Y, y.2 w) →
      wpAnyY P l.toArray (dep l f) Q fuel ((i, S) :: Y) (listed.setIfInBounds i true) (a.put oi.dst v) w → wpAnyY P l.toArray (dep l f) Q (fuel + 1) Y listed a w := by
  intro fuel
  induction fuel with
  | zero =>
    intro Y listed a w hcl _ hr hy hS hYw H
    refine ⟨fun h => (by rw [h] at hr; cases hr), fun j hj => ?_⟩
    by_cases hji : j = i
    · subst hji; exact hy.wpOp hi hS ⟨fun y hy _ => hYw y hy, H⟩
    · have := ready_mono hj hji
      rw [H.1] at this
      cases this
  | succ fuel ih =>
    intro Y listed a w hcl hfree hr hy hS hYw H
    refine ⟨fun h => (by rw [h] at hr; cases hr), fun j hj => ?_⟩
    by_cases hji : j = i
    · subst hji
      exact hy.wpOp hi hS ⟨fun y hy _ => hYw y hy, wpAnyY_less _ _ _ _ _ _ (fun y hy => List.mem_cons_of_mem _ ((List.mem_filter.1 hy).1)) H⟩
    · have h1 := H.2 j (ready_mono hj hji)
      obtain ⟨hjun, oj, hoj, hall⟩ := mem_ready.1 hj
      have hdep : dep l f j i = false := dep_ready hcl hj (mem_ready.1 hr).1 hji
      have hnot : ∀ e ∈ oj.after, Region.binds .any e = true → e.on ≠ i := fun e he hb heq => by
        have h1 := hall e he hb
        have h0 := (mem_ready.1 hr).1
        rw [heq] at h1
        rcases Nat.lt_or_ge i listed.size with h' | h'
        · simp [h'] at h0 h1; rw [h0] at h1; cases h1
        · simp [Array.getElem?_eq_none h'] at h1
      have h2 := wpOp_putIf hoj (hfree j oj hoj hji hjun hnot) (fun cs b => hsel i oi cs b hi) (fun cs b => hsel j oj cs b hoj) hQ hy h1
      have hfree' : ∀ k ok, l.toArray[k]? = some ok → k ≠ i → (listed.setIfInBounds j true).getD k true = false →
          (∀ e ∈ ok.after, Region.binds .any e = true → e.on ≠ i) → oi.apart l.toArray ok = true := fun k ok hk hki hun hno => by
        refine hfree k ok hk hki ?_ hno
        by_cases hjk : j = k
        · subst hjk; exact hjun
        · rw [getD_set_ne true hjk] at hun; exact hun
      refine wpOp_mono (fun a' w' h3 => ?_) h2
      obtain ⟨h4, h5, h6⟩ := h3
      refine ⟨fun y hy hd => h5 y (List.mem_cons_of_mem _ hy) hd, ?_⟩
      refine ih _ (listed.setIfInBounds j true) a' w' (hcl.set hj) hfree' (ready_mono hr (Ne.symm hji)) h4 (h5 (i, S) (List.mem_cons_self ..) hdep) (fun y hy => ?_) ?_
      · rw [List.mem_filter] at hy
        exact h5 y (List.mem_cons_of_mem _ hy.1) (by simpa using hy.2)
      · rw [Array.setIfInBounds_comm _ _ hji, List.filter_cons_of_pos (by simp [hdep])] at *
        exact h6
theorem sel_some {i : Nat} {o : Oper} (h : ops[i]? = some o) : sel ops i = [o] := by simp [sel, h]
theorem again_spec {T : Act → World → Prop} {a : Act} {w : World} : ∀ {ag : List Nat}, again P ops T ag a w → T a w ∧ ∀ i ∈ ag, ∀ o t, ops[i]? = some o → o.dst = some t → t < a.tmps.size → valueB o = true → Cond P ops o (slotOf a (some t)) a w
  | [], h => ⟨h, fun i hi => by cases hi⟩
  | i :: r, h => by
    have h0 : wpList P ops (Only fun _ a1 w1 => a1 = a ∧ w1 = w ∧ again P ops T r a w) (sel ops i) a w := h _ fun hr => ⟨rfl, rfl, rfl, hr⟩
    have key : again P ops T r a w ∧ ∀ o t, ops[i]? = some o → o.dst = some t → t < a.tmps.size → valueB o = true → Cond P ops o (slotOf a (some t)) a w := by
      cases hi : ops[i]? with
      | none =>
        have : sel ops i = [] := by simp [sel, hi]
        rw [this] at h0
        exact ⟨h0.2.2.2, fun o t ho => by cases ho⟩
      | some o =>
        rw [sel_some hi] at h0
        unfold wpList at h0
        by_cases hw : Region.wanted o (yielded ops a.tmps) = true
        · rw [if_pos hw] at h0
          have h1 := h0.resolve_right fun h => not_letsOut _ h.2
          have h2 := upon_cases (fun a w h => by cases h.1) (fun c a w h => by cases h.1) h1
          simp only [wpList, Only, true_and] at h2
          have h3 : again P ops T r a w := by
            rcases h2 with ⟨_, _, _, h⟩ | ⟨_, _, h⟩ | ⟨_, _, _, h⟩ | ⟨f, args, w', _, h⟩ | ⟨row, args, w', _, h⟩
            · exact h.2.2
            · exact h.2.2
            · exact h.2.2
            · obtain ⟨_, _, _, ⟨_, _, _, _, h⟩, _⟩ := h []
              exact h
            · obtain ⟨_, _, ⟨_, _, h⟩, _⟩ := h default []
              exact h
          refine ⟨h3, fun o' t ho ht hlt hv _ => ?_⟩
          obtain rfl : o = o' := Option.some.inj ho
          have hnv : ∀ {n : Next} {w' : World}, (execOp a.eval o).run P w = .ok n w' → ∃ v, n = .value v := fun h => valueB_spec hv h
          have hval : ∀ v w', (execOp a.eval o).run P w = .ok (.value v) w' → a.put o.dst v = a → w' = w → (execOp a.eval o).run P w = .ok (.value (slotOf a (some t))) w := by
            intro v w' hr hp hw'
            have : slotOf (a.put (some t) v) (some t) = v := slot_put v hlt
            rw [ht] at hp
            rw [hp] at this
            rw [hr, this, hw']
          rcases h2 with ⟨v, w', hr, h⟩ | ⟨_, hr, h⟩ | ⟨_, _, hr, h⟩ | ⟨f, args, w', hr, h⟩ | ⟨row, args, w', hr, h⟩
          · exact hval v w' hr h.1 h.2.1
          · obtain ⟨v, hv⟩ := hnv hr; cases hv
          · obtain ⟨v, hv⟩ := hnv hr; cases hv
          · obtain ⟨v, hv⟩ := hnv hr; cases hv
          · obtain ⟨v, hv⟩ := hnv hr; cases hv
        · rw [if_neg hw] at h0
          exact ⟨h0.2.2.2, fun o' t ho _ _ _ hw' => by obtain rfl : o = o' := Option.some.inj ho; exact absurd hw' hw⟩
    obtain ⟨h1, h2⟩ := again_spec key.1
    refine ⟨h1, fun k hk => ?_⟩
    cases hk with
    | head => exact key.2
    | tail _ hk => exact h2 k hk
theorem wpAnyY_done {dp : Nat → Nat → Bool} {listed : Array Bool} {Y : List (Nat × (World → Prop))} {a : Act} {w : World} (hr : Region.ready .any ops listed = []) (h : Q .normal a w) : ∀ fuel, wpAnyY P ops dp Q fuel Y listed a w
  | 0 => ⟨hr, h⟩
  | _ + 1 => ⟨fun _ => h, by rw [hr]; simp⟩
theorem wpAnyY_of_walk {l : List Oper} (hsel : ∀ (j : Nat) (o : Oper) cs b, l.toArray[j]? = some o → o.op ≠ .select cs b) :
    ∀ (p : Plan) (top : Bool) (fuel : Nat) (Y : List (Nat × (World → Prop))) (listed : Array Bool) (a : Act) (w : World), okB l top p fuel listed (Y.map (·.1)) = true → Closed l.toArray listed → (∀ y ∈ Y, y.2 w) → (∀ y ∈ Y, Taken P l.toArray a y) →
      (∀ (i : Nat) (o : Oper) (t : Tmp), l[i]? = some o → o.dst = some t → t < a.tmps.size) → walk P l.toArray Q p a w →
      (top = true → wpAnyY P l.toArray (dep l l.length) (Only Q) fuel Y listed a w) ∧
      ∀ j ∈ heads p, j ∈ Region.ready .any l.toArray listed → ∃ n, fuel = n + 1 ∧ wpOp P l.toArray (Only Q) j (fun a' w' => (∀ y ∈ Y, dep l l.length j y.1 = false → y.2 w') ∧
        wpAnyY P l.toArray (dep l l.length) (Only Q) n (Y.filter fun y => !dep l l.length j y.1) (listed.setIfInBounds j true) a' w') a w := by
  intro p
  induction p with
  | fin =>
    intro top fuel Y listed a w hok hcl hYw hT hsz hw
    refine ⟨fun _ => wpAnyY_done (by simpa [okB] using hok) ⟨rfl, hw⟩ fuel, fun j hj => by simp [heads] at hj⟩
  | take i p ih =>
    intro top fuel Y listed a w hok hcl hYw hT hsz hw
    refine ⟨fun _ => ?_, fun j hj => by simp [heads] at hj⟩
    cases fuel with
    | zero => simp [okB] at hok
    | succ n =>
      simp only [okB, Bool.and_eq_true] at hok
      obtain ⟨⟨⟨⟨hr, hf⟩, hv⟩, hY⟩, hok⟩ := hok
      cases hi : l[i]? with
      | none => rw [hi] at hv; cases hv
      | some oi =>
        have hia : l.toArray[i]? = some oi := by simpa using hi
        rw [hi] at hv
        simp only [Bool.and_eq_true] at hv
        obtain ⟨hv, hd⟩ := hv
        cases ht : oi.dst with
        | none => rw [ht] at hd; cases hd
        | some t =>
          rw [ht] at hd
          have hself : ∀ d, oi.dst = some d → d ∉ oi.looksAt l.toArray := by
            intro d hd'
            rw [ht] at hd'
            obtain rfl := Option.some.inj hd'
            simpa using hd
          have hlt := hsz i oi t hi ht
          have h0 : wpList P l.toArray (Only fun _ a1 w1 => w1 = w ∧ walk P l.toArray Q p a1 w) (sel l.toArray i) a w := hw _ fun a' h => ⟨rfl, rfl, h⟩
          rw [sel_some hia] at h0
          have hready : i ∈ Region.ready .any l.toArray listed := by simpa using hr
          obtain ⟨v, hy, hwk⟩ : ∃ v, YieldsIf P l.toArray (Cond P l.toArray oi v a) oi v a ∧ Cond P l.toArray oi v a w ∧ walk P l.toArray Q p (a.put oi.dst v) w := by
            unfold wpList at h0
            by_cases hw : Region.wanted oi (yielded l.toArray a.tmps) = true
            · rw [if_pos hw] at h0
              have h1 := h0.resolve_right fun h => not_letsOut _ h.2
              have h2 := upon_cases (fun a w h => by cases h.1) (fun c a w h => by cases h.1) h1
              simp only [wpList, Only, true_and] at h2
              rcases h2 with ⟨v, w', hr, h⟩ | ⟨_, hr, h⟩ | ⟨_, _, hr, h⟩ | ⟨f, args, w', hr, h⟩ | ⟨row, args, w', hr, h⟩
              · exact ⟨v, .inl ⟨hw, fun w' h => h hw⟩, fun _ => by rw [hr, h.1], h.2⟩
              · obtain ⟨v, hv⟩ := valueB_spec hv hr; cases hv
              · obtain ⟨v, hv⟩ := valueB_spec hv hr; cases hv
              · obtain ⟨v, hv⟩ := valueB_spec hv hr; cases hv
              · obtain ⟨v, hv⟩ := valueB_spec hv hr; cases hv
            · rw [if_neg hw] at h0
              exact ⟨undef, .inr ⟨by simpa using hw, rfl⟩, fun h => absurd h hw, h0.2.2⟩
          refine wpAnyY_first hia hsel (fun c a w h => by cases h.1) n Y listed a w hcl (Region.free_spec hia hf) hready hy hwk.1 hYw ?_
          refine (ih true n ((i, Cond P l.toArray oi v a) :: Y) _ _ w (by simpa using hok) (hcl.set hready) (fun y hy => ?_) (fun y hy => ?_) (fun i' o t h1 h2 => by rw [put_size]; exact hsz i' o t h1 h2) hwk.2).1 rfl
          · cases hy with
            | head => exact hwk.1
            | tail _ hy => exact hYw y hy
          · cases hy with
            | head =>
              refine ⟨oi, t, hia, ht, by rw [put_size]; exact hlt, hv, fun w' hc => ?_⟩
              rw [ht, slot_put v hlt, ← ht] at hc
              exact Cond.put (ds := a.defers) (hsel _ _ · · hia) hself hc
            | tail _ hy =>
              have hap := List.all_eq_true.1 hY y.1 (List.mem_map.2 ⟨y, hy, rfl⟩)
              exact Taken.put (hT y hy) hsel hi hap a.defers v
  | run e ag p ih =>
    intro top fuel Y listed a w hok hcl hYw hT hsz hw
    cases fuel with
    | zero => simp [okB] at hok
    | succ n =>
      simp only [okB, Bool.and_eq_true] at hok
      obtain ⟨⟨⟨⟨htop, hsome⟩, hre⟩, hY⟩, hok⟩ := hok
      have hB : ∀ j ∈ heads (.run e ag p), j ∈ Region.ready .any l.toArray listed → ∃ n', n + 1 = n' + 1 ∧ wpOp P l.toArray (Only Q) j (fun a' w' => (∀ y ∈ Y, dep l l.length j y.1 = false → y.2 w') ∧
          wpAnyY P l.toArray (dep l l.length) (Only Q) n' (Y.filter fun y => !dep l l.length j y.1) (listed.setIfInBounds j true) a' w') a w := by
        intro j hj hjr
        obtain rfl : j = e := by simpa [heads] using hj
        refine ⟨n, rfl, ?_⟩
        cases hi : l[j]? with
        | none => rw [hi] at hsome; cases hsome
        | some oj =>
          have hja : l.toArray[j]? = some oj := by simpa using hi
          have h0 : wpList P l.toArray (Only fun _ a1 w1 => again P l.toArray (walk P l.toArray Q p) ag a1 w1) (sel l.toArray j) a w := hw _ fun a' w' h => ⟨rfl, h⟩
          rw [sel_some hja] at h0
          refine wpOp_of_list hja (fun ds v w' h => ?_) h0
          obtain ⟨hwalk, hag⟩ := again_spec h
          have hT' : ∀ y ∈ Y, Taken P l.toArray ({ a with defers := ds }.put oj.dst v) y := fun y hy => by
            have hap := List.all_eq_true.1 hY y.1 (List.mem_map.2 ⟨y, hy, rfl⟩)
            rw [Bool.and_eq_true] at hap
            exact Taken.put (hT y hy) hsel hi hap.1 ds v
          have hobl : ∀ y ∈ Y, dep l l.length j y.1 = false → y.2 w' := fun y hy hd => by
            have hap := List.all_eq_true.1 hY y.1 (List.mem_map.2 ⟨y, hy, rfl⟩)
            rw [Bool.and_eq_true, hd, Bool.false_or] at hap
            obtain ⟨o, t, ho, ht, hlt, hv, hS⟩ := hT' y hy
            exact hS w' (hag y.1 (by simpa using hap.2) o t ho ht hlt hv)
          refine ⟨hobl, (ih true n _ _ _ w' ?_ (hcl.set hjr) (fun y hy => ?_) (fun y hy => hT' y (List.mem_filter.1 hy).1) (fun i' o t h1 h2 => by rw [put_size]; exact hsz i' o t h1 h2) hwalk).1 rfl⟩
          · rw [List.filter_map] at hok
            exact hok
          · rw [List.mem_filter] at hy
            exact hobl y hy.1 (by simpa using hy.2)
      refine ⟨fun ht => ⟨fun h0 => ?_, fun j hj => ?_⟩, hB⟩
      · rw [h0] at hre; cases hre
      · rw [ht] at htop
        have : e = j := by
          have h2 : ((Region.ready .any l.toArray listed).all fun j => e == j) = true := by simpa using htop
          have h1 := List.all_eq_true.1 h2 j hj
          simpa using h1
        subst this
        obtain ⟨n', hn, h⟩ := hB e (by simp [heads]) hj
        obtain rfl : n = n' := by omega
        exact h
  | fork p q ihp ihq =>
    intro top fuel Y listed a w hok hcl hYw hT hsz hw
    simp only [okB, Bool.and_eq_true] at hok
    obtain ⟨⟨⟨hany, htop⟩, hp⟩, hq⟩ := hok
    have h1 := (ihp false fuel Y listed a w hp hcl hYw hT hsz hw.1).2
    have h2 := (ihq false fuel Y listed a w hq hcl hYw hT hsz hw.2).2
    have hB : ∀ j ∈ heads (.fork p q), j ∈ Region.ready .any l.toArray listed → ∃ n, fuel = n + 1 ∧ wpOp P l.toArray (Only Q) j (fun a' w' => (∀ y ∈ Y, dep l l.length j y.1 = false → y.2 w') ∧
        wpAnyY P l.toArray (dep l l.length) (Only Q) n (Y.filter fun y => !dep l l.length j y.1) (listed.setIfInBounds j true) a' w') a w := by
      intro j hj hjr
      rcases List.mem_append.1 hj with h | h
      · exact h1 j h hjr
      · exact h2 j h hjr
    refine ⟨fun ht => ?_, hB⟩
    obtain ⟨j, hj, hjr⟩ := List.any_eq_true.1 hany
    have hjr' : j ∈ Region.ready .any l.toArray listed := by simpa using hjr
    obtain ⟨n, rfl, _⟩ := h1 j hj hjr'
    rw [ht] at htop
    have h3 : ((Region.ready .any l.toArray listed).all fun j => (heads p ++ heads q).contains j) = true := by simpa using htop
    refine ⟨fun h0 => (by rw [h0] at hjr'; cases hjr'), fun k hk => ?_⟩
    obtain ⟨n', hn, h⟩ := hB k (by have := List.all_eq_true.1 h3 k hk; simpa [heads] using this) hk
    obtain rfl : n = n' := by omega
    exact h
theorem wpOp_only {i : Nat} {a : Act} {w : World} {K : Act → World → Prop} (h : wpOp P ops (Only Q) i K a w) : wpOp P ops Q i K a w := by
  unfold wpOp at *
  split
  · rename_i ho; simp only [ho] at h; exact h
  · rename_i o ho
    simp only [ho] at h
    split
    · rename_i hw
      simp only [hw, if_true] at h
      have h1 := h.resolve_right fun h => not_letsOut _ h.2
      exact .inl (upon_back (fun _ _ _ h => h) (upon_cases (fun a w h => by cases h.1) (fun c a w h => by cases h.1) h1))
    · rename_i hw
      simp only [hw] at h
      exact h
theorem wpAny_only : ∀ (fuel : Nat) (listed : Array Bool) (a : Act) (w : World), wpAny P .any ops (Only Q) fuel listed a w → wpAny P .any ops Q fuel listed a w
  | 0, _, _, _, h => ⟨h.1, h.2.2⟩
  | fuel + 1, _, _, _, h => ⟨fun h0 => (h.1 h0).2, fun i hi => wpOp_mono (fun a' w' h' => wpAny_only fuel _ a' w' h') (wpOp_only (h.2 i hi))⟩
def sizesB (l : List Oper) (n : Nat) : Bool := l.all fun o => match o.dst with | some t => Nat.blt t n | none => true
theorem wp_region_plan {id : Nat} {l : List Oper} {a : Act} {w : World} (p : Plan) (hm : P.follows .mixedOrders = true) (hs : Region.noSelect l.toArray = true) (hz : sizesB l a.tmps.size = true)
    (hok : okB l true p l.length (Array.replicate l.length false) [] = true) (h : walk P l.toArray Q p a w.drew) : (Code.region id l.toArray true).wp P Q a w := by
  refine wp_region_any hm (wpAny_only _ _ _ _ (wpAny_of_Y (dp := dep l l.length) _ [] _ _ _ ?_))
  have hsz : ∀ (i : Nat) (o : Oper) (t : Tmp), l[i]? = some o → o.dst = some t → t < a.tmps.size := by
    intro i o t hi ht
    have := List.all_eq_true.1 hz o (List.mem_of_getElem? hi)
    rw [ht] at this
    simpa using this
  have := (wpAnyY_of_walk (P := P) (Q := Q) (l := l) (Region.noSelect_spec hs) p true l.length [] (Array.replicate l.length false) a w.drew (by simpa using hok) (fun j o _ hj => by
      simp [Array.getD_eq_getD_getElem?, Array.getElem?_replicate] at hj
      split at hj <;> simp at hj) (fun y hy => by cases hy) (fun y hy => by cases hy) hsz h).1 rfl
  simpa using this
end
end Go.Proofs.YtcfoihihinijlaaGreat
end

section
namespace Go.Proofs.YtcfoihihinijlaaGreat
set_option linter.unusedSimpArgs false
set_option linter.unusedVariables false
open Go.RowKit
theorem Below.alloc1 (w : World) (o : Obj) : Below w.heap.size w (w.alloc o) := (Below.refl _ _).alloc (Nat.le_refl _) o
theorem _root_.Go.RowKit.Below.drewR {B : Nat} {w W : World} (h : Below B w W) : Below B w W.drew := ⟨h.os, h.tape, h.output, h.size, h.block⟩
theorem _root_.Go.RowKit.Below.then {w w1 w2 : World} (h : Below w.heap.size w w1) (k : Below w1.heap.size w1 w2) : Below w.heap.size w w2 := h.trans (k.mono h.size)
theorem below_of_grown {B : Nat} {w0 w w' : World} {g : Nat} (h : Below B w0 w) (hg : w.grownBy w' (some g)) (hB : B ≤ g) (hs : B ≤ w.heap.size) : Below B w0 w' :=
  h.grown hg hs fun k hk => by obtain rfl := Option.some.inj hk; exact hB
theorem EOwn.keptG {α : Type} {E : Elem α} {w w' : World} {B c g : Nat} {A : Option Addr} {L : List α} {T : TypeId} {cs : List Value} (h : EOwn E w B A c L) (hb : Blk w g T cs) (hT : T ≠ E.e) (hg : w.grownBy w' (some g)) : EOwn E w' B A c L :=
  h.kept hg (.inr (fun e => map_block_ne (h.ne_blk hb hT) e.symm))
theorem ERow.keptG {α : Type} {E : Elem α} {w0 w w' : World} {A : Option Addr} {L : List α} {g : Nat} (h : ERow E w0 A L) (hb : Below w0.heap.size w0 w) (hg : w.grownBy w' (some g)) (hlt : w0.heap.size ≤ g) : ERow E w' A L :=
  h.below (below_of_grown hb hg hlt hb.size)
section
variable {α : Type} {S : Nat → Prop} {E : Elem α} {w w' w0 : World} {A : Option Addr} {L : List α} {g : Nat}
end
end Go.Proofs.YtcfoihihinijlaaGreat
end

section
namespace Go.Proofs.YtcfoihihinijlaaGreat
set_option linter.unusedSimpArgs false
set_option linter.unusedVariables false
open Go.RowKit
theorem hi_step (n k : Nat) (h : k < 8) : (List.replicate (8 - k) (0 : UInt8) ++ Wal.hiR k n).set (7 - k) (UInt8.ofNat (n / 256 ^ k)) = List.replicate (8 - (k + 1)) 0 ++ Wal.hiR (k + 1) n := by
  rw [Wal.hiR_cons, List.set_append_left _ _ (by simp; omega), show 8 - k = (7 - k) + 1 from by omega, List.replicate_succ', List.set_append_right _ _ (by simp)]
  simp [show 8 - (k + 1) = 7 - k from by omega]
set_option maxHeartbeats 1000000 in
theorem high_any (w : World) (n : Nat) (hn : n < two64) : Calls Tryz.prog 176 #[.int .u64 (n : Int)] w (RetB w (Wal.hi8 n)) := by
  have HN := Lib.hid hn
  clear hn
  go_enter Tryz.func176, Tryz.ntmps176
  go_wp2_with (at_make; refine wpList_make_zeros rfl (.const (.int .i64 8)) (.const (.int .i64 8)) rfl _ _ _ _ 8 rfl rfl rfl rfl (by decide) (Nat.le_refl _) ?_; intro w1 ho hb)
  have HI : Hid (BOwn w1 w.heap.size (some ⟨w.heap.size, 0, none⟩) 8 (List.replicate (8 - 0) 0 ++ Wal.hiR 0 n) ∧ Below w.heap.size w w1) := ⟨by simpa [Wal.hiR] using ho, hb⟩
  clear ho hb
  go_loopw [0, 6] (fun nv iv wr => ∃ k m : Nat, k ≤ 8 ∧ iv = .int .i64 k ∧ nv = .int .u64 (m : Int) ∧ Hid (m = n / 256 ^ k) ∧ Hid (BOwn wr w.heap.size (some ⟨w.heap.size, 0, none⟩) 8 (List.replicate (8 - k) 0 ++ Wal.hiR k n) ∧ Below w.heap.size w wr)) (fun _ iv _ => 8 - (intOf iv).toNat)
  case atStart => exact ⟨0, n, by omega, rfl, rfl, by show _ = _; simp, HI.out⟩
  case round =>
    obtain ⟨k, m, hk, rfl, rfl, HM, HJ⟩ := hrel
    clear HI
    by_cases hlt : k < 8
    · have hii : (k : Int) < 8 := by omega
      have h7 : (7 - (k : Int)).toNat = 7 - k := by omega
      have h70 : (0 : Int) ≤ 7 - (k : Int) := by omega
      have h78 : 7 - (k : Int) < 8 := by omega
      have hl : (List.replicate (8 - k) (0 : UInt8) ++ Wal.hiR k n).length = 8 := by simp [Wal.hiR_length]; omega
      obtain ⟨v0, hce⟩ : ∃ v, wr.cell? ⟨w.heap.size, 7 - k, none⟩ = some v := ⟨_, HJ.out.1.cell (j := 7 - k) (by rw [hl]; omega)⟩
      have hfr := HJ.out.1.free (7 - k)
      clear hl
      go_wp2_with fail
      go_roundw
      case rel =>
        refine ⟨k + 1, m / 256, by omega, by go_num, by go_num, ?_, ?_, HJ.out.2.setCell (p := ⟨w.heap.size, 7 - k, none⟩) (Nat.le_refl _) _⟩
        · show _ = _; rw [HM.out, Nat.pow_succ, Nat.div_div_eq_div_mul]
        · rw [← hi_step n k hlt, ← HM.out]
          exact HJ.out.1.store (7 - k) (UInt8.ofNat m) _ (by simp [bv])
      case measure => simp [intOf]; omega
    · obtain rfl : k = 8 := by omega
      go_wp2_with fail
      go_ret
      exact ⟨_, 8, by rw [Wal.hi8_length]; rfl, by simpa [Wal.hi8] using HJ.out.1, HJ.out.2⟩
theorem shl_or (m c : Nat) (hm : m < 256 ^ 7) (hc : c < 256) : Go.bits .or .u64 (IntKind.u64.wrap ((m : Int) * 256)) (c : Int) = ((m * 256 + c : Nat) : Int) := by
  have e : IntKind.u64.wrap ((m : Int) * 256) = ((m * 256 : Nat) : Int) := by
    rw [show (m : Int) * 256 = ((m * 256 : Nat) : Int) from by simp]
    exact IntWalk.u64_in _ (by have : (256 : Nat) ^ 7 = 72057594037927936 := by decide
                               omega)
  have h7 : (256 : Nat) ^ 7 = 72057594037927936 := by decide
  have key := Nat.two_pow_add_eq_or_of_lt (show c < 2 ^ 8 by omega) m
  rw [e, u64_or_nat _ _ (by omega) (by omega), Nat.mul_comm m 256, ← key]
theorem lo_take (l : List UInt8) (k : Nat) (hk : k < l.length) : Wal.lo (l.take (k + 1)) = Wal.lo (l.take k) * 256 + l[k].toNat := by
  rw [List.take_succ_eq_append_getElem hk, Wal.lo_snoc]
set_option maxHeartbeats 1000000 in
theorem low_any (w : World) (A : Option Addr) (c : Nat) (l : List UInt8) (hr : BRow w A l) (hl : l.length = 8) : Calls Tryz.prog 177 #[.slice A 8 c] w fun e w' => e = .returned (.int .u64 (Wal.lo l : Nat)) ∧ w = w' := by
  have HL := Lib.hid hl
  clear hl
  go_enter Tryz.func177, Tryz.ntmps177
  go_wp2_with fail
  go_loop [3, 8] (fun nv iv => ∃ k m : Nat, k ≤ 8 ∧ iv = .int .i64 k ∧ nv = .int .u64 (m : Int) ∧ Hid (m = Wal.lo (l.take k))) (fun _ iv => 8 - (intOf iv).toNat)
  case atStart => exact ⟨0, 0, by omega, rfl, rfl, rfl⟩
  case round =>
    obtain ⟨k, m, hk, rfl, rfl, HM⟩ := hrel
    by_cases hlt : k < 8
    · have hii : (k : Int) < 8 := by omega
      have hkl : k < l.length := by rw [HL.out]; exact hlt
      obtain ⟨b, o, rfl, hb, hc⟩ := hr.at_ hkl
      have hm : m < 256 ^ 7 := by
        have h1 := Wal.lo_lt (l.take k)
        rw [← HM.out, List.length_take] at h1
        exact Nat.lt_of_lt_of_le h1 (Nat.pow_le_pow_right (by omega) (by omega))
      have HS := Lib.hid (lo_take l k hkl)
      have hx := l[k].toNat_lt
      generalize l[k].toNat = x at hc HS hx
      have HO := Lib.hid (shl_or m x hm (by omega))
      clear hr hm hkl
      go_wp2_with fail
      go_round
      case rel => exact ⟨k + 1, m * 256 + x, by omega, by go_num, by rw [HO.out], by show _ = _; rw [HS.out, HM.out]⟩
      case measure => simp [intOf]; omega
    · obtain rfl : k = 8 := by omega
      have hlt2 : l.take 8 = l := List.take_of_length_le (by rw [HL.out]; exact Nat.le_refl _)
      rw [hlt2] at HM
      clear hlt2
      go_wp2_with fail
      go_ret
      exact ⟨by rw [HM.out]; rfl, rfl⟩
set_option maxRecDepth 20000 in
set_option maxHeartbeats 1000000 in
theorem half_any (w : World) (a b : Nat) (ha : a < two64) (hb : b < two64) : Calls Tryz.prog 153 #[.int .u64 (a : Int), .int .u64 (b : Int)] w (RetB w (Wal.half a b)) := by
  have HA := Lib.hid ha
  have HB := Lib.hid hb
  clear ha hb
  have kc := run_const_bytes
  go_enter Tryz.func153, Tryz.ntmps153
  go_wp2_with fail
  clear kc
  have HM : Hid (BRow (w.alloc (.cells #[.int .u8 100, .int .u8 111, .int .u8 119, .int .u8 115, .int .u8 101, .int .u8 114, .int .u8 32, .int .u8 108] 5 (8, 9))) (some ⟨w.heap.size, 0, none⟩) Wal.magic ∧
      Below w.heap.size w (w.alloc (.cells #[.int .u8 100, .int .u8 111, .int .u8 119, .int .u8 115, .int .u8 101, .int .u8 114, .int .u8 32, .int .u8 108] 5 (8, 9)))) :=
    ⟨Row.newMark w (Wal.magic.map bv) _ _, Below.alloc1 _ _⟩
  generalize (World.alloc w _) = w1 at HM ⊢
  refine (high_any _ a HA.out).mono ?_
  rintro e w2 ⟨A2, c2, rfl, ho2, hb2⟩
  have H2 := Lib.hid (And.intro (HM.out.1.below hb2) (And.intro (HM.out.2.trans (hb2.mono HM.out.2.size)) ho2.row))
  clear ho2 hb2 HM
  go_wp2_with fail
  refine (high_any _ b HB.out).mono ?_
  rintro e w3 ⟨A3, c3, rfl, ho3, hb3⟩
  have H3 := Lib.hid (And.intro (H2.out.1.below hb3) (And.intro (H2.out.2.2.below hb3) (And.intro ho3.row (H2.out.2.1.trans (hb3.mono H2.out.2.1.size)))))
  clear ho3 hb3 H2
  go_wp2_with fail
  refine (bconcat3 _ _ _ ⟨some ⟨w.heap.size, 0, none⟩, 8, Wal.magic⟩ ⟨A2, c2, Wal.hi8 a⟩ ⟨A3, c3, Wal.hi8 b⟩ (Row.new _ _ _) ⟨H3.out.1.alloc _, ?_⟩ ⟨H3.out.2.1.alloc _, ?_⟩ ⟨H3.out.2.2.1.alloc _, ?_⟩ ?_).mono ?_
  · show Wal.magic.length ≤ _; decide
  · simp [Wal.hi8_length]
  · simp [Wal.hi8_length]
  · simp [Wal.hi8_length, Wal.magic]
  rintro e w4 ⟨A4, c4, rfl, ho4, hb4⟩
  go_wp2_with fail
  go_ret
  have e : Wal.half a b = Wal.magic ++ (Wal.hi8 a ++ Wal.hi8 b) := by unfold Wal.half; rw [List.append_assoc]
  rw [e]
  have hz := H3.out.2.2.2.size
  exact ⟨A4, c4, rfl, ho4.mono (by simp; omega), (H3.out.2.2.2.alloc hz _).trans (hb4.mono (by simp; omega))⟩
end Go.Proofs.YtcfoihihinijlaaGreat
end

section
namespace Go.Proofs.YtcfoihihinijlaaGreat
set_option linter.unusedSimpArgs false
set_option linter.unusedVariables false
open Go.RowKit
theorem brow_cut {w : World} {b o : Nat} {l : List UInt8} (h : BRow w (some ⟨b, o, none⟩) l) (i n : Nat) : BRow w (some ⟨b, o + i, none⟩) (Wal.cut l i n) := by
  have := (h.drop i).take n
  simpa [Wal.cut, Addr.add_lit] using this
theorem cv_any {w : World} {A : Option Addr} {l : List UInt8} {n c : Nat} (h : BRow w A l) (hn : l.length = n) : (convert 56 9 (.slice A n c)).run Tryz.prog w = .ok (.string ⟨l.toArray⟩) w := by
  subst hn
  exact run_string_bytes w c h
set_option maxRecDepth 20000 in
set_option maxHeartbeats 2000000 in
theorem right_any (w : World) (A : Option Addr) (c : Nat) (b : List UInt8) (hr : BRow w A b) (hb : b.length = 512) (hc : 512 ≤ c) (room : Nat) (hroom : room ≤ 1000000000) :
    Calls Tryz.prog 155 #[.slice A 512 c, .int .i64 room] w fun e w' => e = .returned (.tuple #[.int .u64 ((Wal.right b room).1 : Nat), .int .i64 ((Wal.right b room).2 : Nat)]) ∧ Below w.heap.size w w' := by
  obtain ⟨g, o, rfl, hlt⟩ := hr.lt (by omega)
  have HB := Lib.hid hb
  have h8 := brow_cut hr 8 8
  have h16 := brow_cut hr 16 8
  have l8 : (Wal.cut b 8 8).length = 8 := Wal.cut_length (by omega)
  have l16 : (Wal.cut b 16 8).length = 8 := Wal.cut_length (by omega)
  have HL8 : Hid (∀ c, Calls Tryz.prog 177 #[.slice (some ⟨g, o + 8, none⟩) 8 c] w.drew fun e w' => e = .returned (.int .u64 (Wal.lo (Wal.cut b 8 8) : Nat)) ∧ w.drew = w') := fun c => low_any w.drew _ c _ h8.drew l8
  have HL16 : Hid (∀ c, Calls Tryz.prog 177 #[.slice (some ⟨g, o + 16, none⟩) 8 c] w.drew fun e w' => e = .returned (.int .u64 (Wal.lo (Wal.cut b 16 8) : Nat)) ∧ w.drew = w') := fun c => low_any w.drew _ c _ h16.drew l16
  have hs := Lib.hid (Wal.lo8_lt _ l8)
  have hn := Lib.hid (Wal.lo8_lt _ l16)
  have HR := Lib.hid hr
  clear h8 h16 l8 l16 hb hr
  have HD : Hid (Wal.right b room = if b.take 24 = Wal.half (Wal.lo (Wal.cut b 8 8)) (Wal.lo (Wal.cut b 16 8)) ∧ Wal.cut b 24 24 = Wal.half (Wal.lo (Wal.cut b 16 8)) (Wal.lo (Wal.cut b 8 8)) ∧ 1 ≤ Wal.lo (Wal.cut b 8 8) ∧ Wal.lo (Wal.cut b 8 8) ≤ Wal.last62 ∧ Wal.lo (Wal.cut b 16 8) ≤ room
    then (Wal.lo (Wal.cut b 8 8), Wal.lo (Wal.cut b 16 8)) else (0, 0)) := rfl
  generalize Wal.lo (Wal.cut b 8 8) = s at HL8 hs HD
  generalize Wal.lo (Wal.cut b 16 8) = n at HL16 hn HD
  go_enter Tryz.func155, Tryz.ntmps155
  go_wp2_with fail
  refine wp_region_plan (.take 0 (.take 1 (.take 3 (.take 4 (.run 2 [3, 4] (.run 5 [] (.take 6 (.take 7 .fin)))))))) (by kernel_rfl) (by kernel_rfl) (by kernel_rfl) (by kernel_rfl) ?_
  simp only [walk, again, sel, List.getElem?_toArray, List.getElem?_cons_zero, List.getElem?_cons_succ]
  repeat ((with_reducible intro Z hZ); go_wp2_with (fail))
  refine (HL8.out _).mono ?_
  rintro e w1 ⟨rfl, rfl⟩
  go_wp2_with fail
  repeat ((with_reducible intro Z hZ); go_wp2_with (fail))
  refine (HL16.out _).mono ?_
  rintro e w1 ⟨rfl, rfl⟩
  go_wp2_with fail
  repeat ((with_reducible intro Z hZ); go_wp2_with (fail))
  clear HL8 HL16
  go_wp2_with fail
  have hcv1 := cv_any (c := c) ((HR.out.take 24).drew.drew) (n := 24) (by simp [HB.out])
  rcases Classical.em (b.take 24 = Wal.half s n) with h1 | h1
  · have hn1 : (b.take 24 == Wal.half s n) = true := by simpa using h1
    have HE1 := Lib.hid h1
    clear h1
    refine wp_region_plan (.take 0 (.take 1 (.take 2 (.take 3 (.take 4 (.run 5 [0, 1, 2] (.take 6 (.take 7 (.take 8 (.take 9 (.take 10 (.take 11 (.take 12 (.take 13 (.run 14 [9, 10, 11] (.take 15 (.take 16 (.take 17 (.take 18 (.take 19 (.take 20 (.take 21 (.take 22 (.take 23 (.take 24 (.take 25 (.take 26 (.take 27 (.take 28 (.take 29 (.take 30 (.take 31 .fin)))))))))))))))))))))))))))))))) (by kernel_rfl) (by kernel_rfl) (by kernel_rfl) (by kernel_rfl) ?_
    simp only [walk, again, sel, List.getElem?_toArray, List.getElem?_cons_zero, List.getElem?_cons_succ]
    repeat ((with_reducible intro Z hZ); go_wp2_with (fail))
    refine (half_any _ s n hs.out hn.out).mono ?_
    rintro e w2 ⟨A2, c2, rfl, ho2, hb2⟩
    have hcv2 := run_string_bytes w2 c2 ho2.row
    unfold txt at hcv2
    have hcv1 := cv_any (c := c) (((HR.out.take 24).drew.drew).below hb2) (n := 24) (by simp [HB.out])
    have hcv3 := cv_any (c := c - 24) (((brow_cut HR.out 24 24).drew.drew).below hb2) (n := 24) (Wal.cut_length (by rw [HB.out]; omega))
    have HB2 := Lib.hid (((Below.refl _ w).drewR.drewR).trans hb2)
    clear ho2 hb2
    go_wp2_with fail
    repeat ((with_reducible intro Z hZ); go_wp2_with (fail))
    refine (half_any _ n s hn.out hs.out).mono ?_
    rintro e w3 ⟨A3, c3, rfl, ho3, hb3⟩
    have hcv4 := run_string_bytes w3 c3 ho3.row
    unfold txt at hcv4
    have HB3 := Lib.hid (HB2.out.trans (hb3.mono HB2.out.size))
    have hcv3 := cv_any (c := c - 24) ((brow_cut HR.out 24 24).below HB3.out) (n := 24) (Wal.cut_length (by rw [HB.out]; omega))
    clear ho3 hb3
    rcases Classical.em (Wal.cut b 24 24 = Wal.half n s) with h2 | h2
    · have hn2 : (Wal.cut b 24 24 == Wal.half n s) = true := by simpa using h2
      rcases Classical.em (1 ≤ s) with h3 | h3
      · have hq3 : ¬ (s : Int) < 1 := by omega
        rcases Classical.em (s ≤ Wal.last62) with h4 | h4
        · have hq4 : ¬ (4611686018427387904 : Int) < (s : Int) := by unfold Wal.last62 at h4; omega
          rcases Classical.em (n ≤ room) with h5 | h5
          · have HE : Hid (Wal.right b room = (s, n)) := by show _ = _; rw [HD.out, if_pos ⟨HE1.out, h2, h3, h4, h5⟩]
            have hq5 : ¬ (room : Int) < (n : Int) := by omega
            have hn6 : (n : Int) ≤ 1000000000 := by omega
            clear HD h2 h3 h4 h5
            go_wp2_with fail
            repeat ((with_reducible intro Z hZ); go_wp2_with (fail))
            go_wp2_with fail
            go_ret2
            exact ⟨by rw [HE.out]; rfl, HB3.out⟩
          · have HE : Hid (Wal.right b room = (0, 0)) := by show _ = _; rw [HD.out, if_neg (fun h => h5 h.2.2.2.2)]
            have hq5 : (room : Int) < (n : Int) := by omega
            clear HD h2 h3 h4 h5
            go_wp2_with fail
            repeat ((with_reducible intro Z hZ); go_wp2_with (fail))
            go_wp2_with fail
            go_ret2
            exact ⟨by rw [HE.out]; rfl, HB3.out⟩
        · have HE : Hid (Wal.right b room = (0, 0)) := by show _ = _; rw [HD.out, if_neg (fun h => h4 h.2.2.2.1)]
          have hq4 : (4611686018427387904 : Int) < (s : Int) := by unfold Wal.last62 at h4; omega
          clear HD h2 h3 h4
          go_wp2_with fail
          repeat ((with_reducible intro Z hZ); go_wp2_with (fail))
          go_wp2_with fail
          go_ret2
          exact ⟨by rw [HE.out]; rfl, HB3.out⟩
      · have HE : Hid (Wal.right b room = (0, 0)) := by show _ = _; rw [HD.out, if_neg (fun h => h3 h.2.2.1)]
        have hq3 : (s : Int) < 1 := by omega
        clear HD h2 h3
        go_wp2_with fail
        repeat ((with_reducible intro Z hZ); go_wp2_with (fail))
        go_wp2_with fail
        go_ret2
        exact ⟨by rw [HE.out]; rfl, HB3.out⟩
    · have hn2 : (Wal.cut b 24 24 == Wal.half n s) = false := by simpa using h2
      have HE : Hid (Wal.right b room = (0, 0)) := by show _ = _; rw [HD.out, if_neg (fun h => h2 h.2.1)]
      clear HD h2
      go_wp2_with fail
      repeat ((with_reducible intro Z hZ); go_wp2_with (fail))
      go_wp2_with fail
      go_ret2
      exact ⟨by rw [HE.out]; rfl, HB3.out⟩
  · have HE : Hid (Wal.right b room = (0, 0)) := by show _ = _; rw [HD.out, if_neg (fun h => h1 h.1)]
    have hn1 : (b.take 24 == Wal.half s n) = false := by simpa using h1
    clear HD
    refine wp_region_plan (.take 0 (.take 1 (.take 2 (.take 3 (.take 4 (.run 5 [0, 1, 2] (.take 6 (.take 7 (.take 8 (.take 9 (.take 10 (.take 11 (.take 12 (.take 13 (.run 14 [9, 10, 11] (.take 15 (.take 16 (.take 17 (.take 18 (.take 19 (.take 20 (.take 21 (.take 22 (.take 23 (.take 24 (.take 25 (.take 26 (.take 27 (.take 28 (.take 29 (.take 30 (.take 31 .fin)))))))))))))))))))))))))))))))) (by kernel_rfl) (by kernel_rfl) (by kernel_rfl) (by kernel_rfl) ?_
    simp only [walk, again, sel, List.getElem?_toArray, List.getElem?_cons_zero, List.getElem?_cons_succ]
    repeat ((with_reducible intro Z hZ); go_wp2_with (fail))
    refine (half_any _ s n hs.out hn.out).mono ?_
    rintro e w2 ⟨A2, c2, rfl, ho2, hb2⟩
    have hcv2 := run_string_bytes w2 c2 ho2.row
    unfold txt at hcv2
    have hcv1 := cv_any (c := c) (((HR.out.take 24).drew.drew).below hb2) (n := 24) (by simp [HB.out])
    have HB2 := Lib.hid hb2
    clear ho2 hb2
    go_wp2_with fail
    repeat ((with_reducible intro Z hZ); go_wp2_with (fail))
    go_wp2_with fail
    go_ret2
    exact ⟨by rw [HE.out]; rfl, ((Below.refl _ w).drewR.drewR).trans HB2.out⟩
end Go.Proofs.YtcfoihihinijlaaGreat
end

section
namespace Go.Proofs.YtcfoihihinijlaaGreat
set_option linter.unusedSimpArgs false
set_option linter.unusedVariables false
open Go.RowKit
theorem le4_take (s k : Nat) (hk : k < 4) : (Crc.le4 s).take (k + 1) = (Crc.le4 s).take k ++ [UInt8.ofNat (s / 256 ^ k)] := by
  match k, hk with
  | 0, _ => simp [Crc.le4]
  | 1, _ => simp [Crc.le4]
  | 2, _ => simp [Crc.le4]
  | 3, _ => simp [Crc.le4]
theorem byte_of (s : Nat) : bv (UInt8.ofNat s) = .int .u8 ((s : Int) % 256) := by
  simp [bv]
end Go.Proofs.YtcfoihihinijlaaGreat
end

section
namespace Go.Proofs.YtcfoihihinijlaaGreat
set_option linter.unusedSimpArgs false
set_option linter.unusedVariables false
open Go.RowKit
structure Fits (m f : Nat) : Prop where
  lt : m < 128 ^ f
theorem numF_step (f m : Nat) (h : 128 ≤ m) : Wire.numF (f + 1) m = UInt8.ofNat (m % 128 + 128) :: Wire.numF f (m / 128) := by
  rw [Wire.numF, if_neg (by omega)]
theorem numF_last (f m : Nat) (h : m < 128) : Wire.numF (f + 1) m = [UInt8.ofNat m] := by
  rw [Wire.numF, if_pos h]
theorem bv_hi (m : Nat) : bv (UInt8.ofNat (m % 128 + 128)) = .int .u8 ((m : Int) % 128 + 128) := by
  simp [bv]; omega
theorem bv_lo (m : Nat) (h : m < 128) : bv (UInt8.ofNat m) = .int .u8 (m : Int) := by
  simp [bv]; omega
theorem u64_quo128 (m : Nat) (h : m < two64) : IntKind.u64.wrap ((m : Int) / 128) = ((m / 128 : Nat) : Int) := by
  rw [two64_eq] at h
  rw [IntWalk.u64_in _ (by omega)]
  omega
set_option maxRecDepth 20000 in
set_option maxHeartbeats 800000 in
theorem wnum_any (w : World) (n : Nat) (hn : n < two64) : Calls Tryz.prog 55 #[.int .u64 (n : Int)] w (RetB w (Wire.num n)) := by
  have HN0 := Lib.hid hn
  clear hn
  go_enter Tryz.func55, Tryz.ntmps55
  go_wp2_with fail
  go_loopw [0, 3] (fun nv bv wr => ∃ (m f : Nat) (A : Option Addr) (c : Nat) (pre : List UInt8), nv = .int .u64 (m : Int) ∧ bv = .slice A pre.length c ∧ Hid (m < two64) ∧ Fits m (f + 1) ∧ pre.length + f = 9 ∧
    BOwn wr w.heap.size A c pre ∧ Below w.heap.size w wr ∧ Hid (Wire.num n = pre ++ Wire.numF (f + 1) m)) (fun nv _ _ => (intOf nv).toNat)
  case atStart => exact ⟨n, 9, none, 0, [], rfl, rfl, HN0, ⟨Nat.lt_of_lt_of_le HN0.out (by decide)⟩, rfl, BOwn.nil _ _, Below.refl _ _, rfl⟩
  case round =>
    obtain ⟨m, f, A, c, pre, rfl, rfl, HB, HM, hf, ho, hB, HN⟩ := hrel
    have hs := hB.size
    by_cases h : 128 ≤ m
    · have HQ := Lib.hid (u64_quo128 m HB.out)
      have hd : m / 128 < 128 ^ f := by
        have := HM.lt
        rw [Nat.pow_succ] at this
        exact Nat.div_lt_of_lt_mul (by rw [Nat.mul_comm]; exact this)
      obtain ⟨f, rfl⟩ : ∃ g, f = g + 1 := by
        cases f with
        | zero => simp at hd; omega
        | succ g => exact ⟨g, rfl⟩
      have HD : Fits (m / 128) (f + 1) := ⟨hd⟩
      clear hd
      go_wp2_with (at_builtin; refine wpList_append_bytes rfl (.tmp 6) (.tmp 11) rfl _ rfl (ho.alloc _) rfl _ rfl (BRow.one wr (UInt8.ofNat (m % 128 + 128)) _ _ (bv_hi m)) rfl (by simp; omega) (by simp; omega) ?_; intro A3 c3 w3 ho3 hb3 _ _)
      go_roundw
      case rel =>
        refine ⟨m / 128, f, A3, c3, pre ++ [UInt8.ofNat (m % 128 + 128)], by rw [HQ.out], by simp, Nat.lt_of_le_of_lt (Nat.div_le_self _ _) HB.out, HD, by simp; omega, ho3, (hB.alloc hs _).trans hb3, ?_⟩
        show _ = _
        rw [HN.out, numF_step _ _ h, List.append_assoc]
        rfl
      case measure => rw [HQ.out]; simp [intOf]; omega
    · have hl := Lib.hid (numF_last f m (by omega))
      go_wp2_with (at_builtin; refine wpList_append_bytes rfl (.tmp 15) (.tmp 18) rfl _ rfl (ho.alloc _) rfl _ rfl (BRow.one wr (UInt8.ofNat m) _ _ (bv_lo m (by omega))) rfl (by simp; omega) (by simp; omega) ?_; intro A3 c3 w3 ho3 hb3 _ _)
      go_ret
      refine ⟨A3, c3, ?_, ?_, (hB.alloc hs _).trans hb3⟩
      · rw [HN.out, hl.out]; simp
      · rw [HN.out, hl.out]; exact ho3
set_option maxRecDepth 20000 in
set_option maxHeartbeats 400000 in
theorem wtext_any (w : World) (l : List UInt8) (hl : l.length ≤ 1000000) : Calls Tryz.prog 57 #[txt l] w (RetB w (Wire.text l)) := by
  go_enter Tryz.func57, Tryz.ntmps57
  unfold txt
  go_wp2_with fail
  refine (wnum_any w l.length (by rw [two64_eq]; omega)).mono ?_
  rintro e w1 ⟨A1, c1, rfl, ho1, hb1⟩
  have h10 := (Wire.num_length l.length).2
  have hs1 := hb1.size
  have HT : Hid (Wire.text l = Wire.num l.length ++ l) := rfl
  generalize Wire.num l.length = p at ho1 h10 HT
  go_wp2_with (at_builtin; refine wpList_append_text rfl (.tmp 6) (.tmp 7) rfl _ rfl ho1 rfl rfl (by omega) hs1 ?_; intro A2 c2 w2 ho2 hb2)
  go_ret
  exact ⟨A2, c2, by rw [HT.out]; simp, by rw [HT.out]; exact ho2, hb1.trans hb2⟩
end Go.Proofs.YtcfoihihinijlaaGreat
end

section
namespace Go.Proofs.YtcfoihihinijlaaGreat
set_option linter.unusedSimpArgs false
set_option linter.unusedVariables false
open Go.RowKit
set_option maxRecDepth 20000 in
set_option maxHeartbeats 1000000 in
theorem frame_any (w : World) (A : Option Addr) (c : Nat) (l : List UInt8) (hr : BRow w A l) (hl : l.length ≤ 1000000) : Calls Tryz.prog 111 #[.slice A l.length c] w (RetB w (Wal.frame l)) := by
  have HR := Lib.hid hr
  clear hr
  have HNL : Hid (l.length < two64) := by show _ < two64; rw [two64_eq]; omega
  go_enter Tryz.func111, Tryz.ntmps111
  go_wp2_with fail
  refine (sum_any _ _ _ [⟨A, c, l⟩] (Row.new _ _ _) ?_ (by simp)).mono ?_
  · intro p hp
    simp only [List.mem_singleton] at hp
    subst hp
    exact ⟨HR.out.alloc _, by simp; omega⟩
  rintro e w1 ⟨rfl, rfl⟩
  simp only [List.flatMap_cons, List.flatMap_nil, List.append_nil]
  have hS := Crc.sum_lt l
  have HF : Hid (Wal.frame l = Wire.num l.length ++ (Crc.le4 (Crc.sum l) ++ l)) := rfl
  generalize Crc.sum l = S at hS HF
  have HB0 := Lib.hid (Below.alloc1 w)
  go_wp2_with fail
  refine (wnum_any _ l.length HNL.out).mono ?_
  rintro e w2 ⟨A2, c2, rfl, ho2, hb2⟩
  have hnl := (Wire.num_length l.length).2
  have H2 : Hid (BOwn w2 w.heap.size A2 c2 (Wire.num l.length ++ (Crc.le4 S).take 0) ∧ Below w.heap.size w w2) := ⟨by simpa using ho2.mono (HB0.out _).size, (HB0.out _).trans (hb2.mono (HB0.out _).size)⟩
  clear ho2 hb2 HB0
  generalize Wire.num l.length = N at HF hnl H2 ⊢
  go_wp2_with fail
  go_loopw [3, 4, 12] (fun s v i wr => ∃ (k : Nat) (A1 : Option Addr) (c1 : Nat), k ≤ 4 ∧ i = .int .i64 k ∧ s = .int .u32 (S / 256 ^ k : Nat) ∧ v = .slice A1 (N.length + k) c1 ∧
    Hid (BOwn wr w.heap.size A1 c1 (N ++ (Crc.le4 S).take k) ∧ Below w.heap.size w wr)) (fun _ _ i _ => 4 - (intOf i).toNat)
  case atStart => exact ⟨0, A2, c2, by omega, rfl, by simp, rfl, H2.out⟩
  case round =>
    obtain ⟨k, A3, c3, hk, rfl, rfl, rfl, HJ⟩ := hrel
    clear H2
    have hlen : (N ++ (Crc.le4 S).take k).length = N.length + k := by simp [Crc.le4]; omega
    have HL := Lib.hid hlen
    clear hlen
    by_cases hlt : k < 4
    · have HT := Lib.hid (le4_take S k hlt)
      have hp : S / 256 ^ k < 4294967296 := Nat.lt_of_le_of_lt (Nat.div_le_self _ _) hS
      have HD : Hid (S / 256 ^ (k + 1) = S / 256 ^ k / 256) := by
        show _ = _
        rw [Nat.pow_succ, Nat.div_div_eq_div_mul]
      generalize S / 256 ^ k = q at hp HT HD
      go_wp2_with (at_builtin; refine wpList_append_bytes rfl (.tmp 14) (.tmp 17) rfl _ rfl (HJ.out.1.alloc _) HL.out.symm _ rfl (BRow.one wr (UInt8.ofNat q) _ _ (byte_of q)) rfl (by rw [HL.out]; simp; omega) (by have := HJ.out.2.size; simp; omega) ?_; intro A5 c5 w5 ho5 hb5 _ _)
      go_roundw
      case rel =>
        refine ⟨k + 1, A5, c5, by omega, by go_num, by rw [HD.out]; rfl, ?_, ?_, ?_⟩
        · simp [Crc.le4]; omega
        · rw [HT.out, ← List.append_assoc]; exact ho5
        · exact (HJ.out.2.alloc (by have := HJ.out.2.size; omega) _).trans hb5
      case measure => simp [intOf]; omega
    · obtain rfl : k = 4 := by omega
      have hrx := HR.out.below HJ.out.2
      go_wp2_with (at_builtin; refine wpList_append_bytes rfl (.tmp 22) (.tmp 23) rfl _ rfl HJ.out.1 HL.out.symm _ rfl hrx rfl (by rw [HL.out]; omega) HJ.out.2.size ?_; intro A5 c5 w5 ho5 hb5 _ _)
      go_ret
      have e : Wal.frame l = N ++ (Crc.le4 S).take 4 ++ l := by rw [HF.out, List.append_assoc]; rfl
      rw [e]
      exact ⟨A5, c5, by simp [Crc.le4]; omega, ho5, HJ.out.2.trans hb5⟩
end Go.Proofs.YtcfoihihinijlaaGreat
end

section
namespace Go.Proofs.YtcfoihihinijlaaGreat
set_option linter.unusedSimpArgs false
set_option linter.unusedVariables false
open Go.RowKit
theorem sizeOf_u8 (w : World) : (sizeOf 5).run Tryz.prog w = .ok 1 w := by
  obtain ⟨i, hi, hz, hs, hby⟩ := info_parts info8
  simp [sizeOf, typeInfo, hi, hs]
theorem elem_u8 : Tryz.prog.elem 56 = 5 := by kernel_rfl
theorem row_cutA {w : World} {A : Option Addr} {l : List UInt8} (h : BRow w A l) (c i n : Nat) (hn : i + n ≤ c) : BRow w (if c = i then A else A.map (·.add (i * 1))) ((l.drop i).take n) := by
  by_cases hc : c = i
  · obtain rfl : n = 0 := by omega
    rw [List.take_zero]
    exact BRow.nil
  · rw [if_neg hc, Nat.mul_one]
    exact (h.drop i).take n
theorem cut_lh {w0 : World} {A : Option Addr} {l : List UInt8} (h : BRow w0 A l) (len c : Nat) (lo hi : Int) (i n : Nat) (e1 : lo = (i : Int)) (e2 : hi = ((i + n : Nat) : Int)) (hc : i + n ≤ c) :
    ∃ As cs, (∀ w, (Instr.slice 56 (.slice A len c) (some (.int .i64 lo)) (some (.int .i64 hi)) none).run Tryz.prog w = .ok (.slice As n cs) w) ∧ BRow w0 As ((l.drop i).take n) ∧ n ≤ cs ∧ cs ≤ c ∧ (∀ a, As = some a → ∃ x, A = some x ∧ a.block = x.block) := by
  subst e1 e2
  refine ⟨if c = i then A else A.map (·.add (i * 1)), c - i, fun w => ?_, row_cutA h c i n hc, by omega, by omega, fun a ha => ?_⟩
  · rw [run_slice_lh (P := Tryz.prog) w 56 A len c (by rw [elem_u8]; exact Tryz.underlying56) .i64 .i64 i ((i + n : Nat) : Int) (by omega) (by omega) (by omega), elem_u8, sizeOf_u8]
    simp [sliced]
    omega
  · split at ha
    · exact ⟨a, ha, rfl⟩
    · cases A with
      | none => simp at ha
      | some x =>
        simp only [Option.map_some, Option.some.injEq] at ha
        refine ⟨x, rfl, ?_⟩
        rw [← ha]
        unfold Addr.add
        split <;> rfl
theorem cut_l {w0 : World} {A : Option Addr} {l : List UInt8} (h : BRow w0 A l) (c : Nat) (lo : Int) (i : Nat) (e1 : lo = (i : Int)) (hi : i ≤ l.length) (hc : l.length ≤ c) :
    ∃ As cs, (∀ w, (Instr.slice 56 (.slice A l.length c) (some (.int .i64 lo)) none none).run Tryz.prog w = .ok (.slice As (l.length - i) cs) w) ∧ BRow w0 As (l.drop i) ∧ l.length - i ≤ cs ∧ cs ≤ c ∧ (∀ a, As = some a → ∃ x, A = some x ∧ a.block = x.block) := by
  subst e1
  have hr := row_cutA h c i (l.length - i) (by omega)
  rw [List.take_of_length_le (by simp)] at hr
  refine ⟨if c = i then A else A.map (·.add (i * 1)), c - i, fun w => ?_, hr, by omega, by omega, fun a ha => ?_⟩
  · rw [run_slice_l (P := Tryz.prog) w 56 A l.length c (by rw [elem_u8]; exact Tryz.underlying56) .i64 i (by omega) (by omega), elem_u8, sizeOf_u8]
    simp [sliced]
  · split at ha
    · exact ⟨a, ha, rfl⟩
    · cases A with
      | none => simp at ha
      | some x =>
        simp only [Option.map_some, Option.some.injEq] at ha
        refine ⟨x, rfl, ?_⟩
        rw [← ha]
        unfold Addr.add
        split <;> rfl
theorem cut_h (A : Option Addr) (len c : Nat) (hi : Int) (n : Nat) (e : hi = (n : Int)) (hc : n ≤ c) (w : World) :
    (Instr.slice 56 (.slice A len c) none (some (.int .i64 hi)) none).run Tryz.prog w = .ok (.slice A n c) w := by
  subst e
  rw [run_slice_h (P := Tryz.prog) w 56 A len c (by rw [elem_u8]; exact Tryz.underlying56) .i64 n (by omega) (by omega), elem_u8, sizeOf_u8]
  simp only [sliced, Result.andThen_ok, Int.toNat_natCast, Nat.sub_zero, Nat.zero_mul]
  cases A with
  | none => simp
  | some a => simp [Addr.add]
end Go.Proofs.YtcfoihihinijlaaGreat
end

section
namespace Go.Proofs.YtcfoihihinijlaaGreat
set_option linter.unusedSimpArgs false
set_option linter.unusedVariables false
open Go.RowKit
def URow (w : World) (A : Option Addr) (l : List UInt8) : Prop := BRow w A l ∧ (0 < l.length → ∀ a, A = some a → ∃ cur fr, w.heap[a.block]? = some (.cells cur 5 fr))
section
variable {w w' : World} {A : Option Addr} {l : List UInt8}
theorem URow.nil : URow w A [] := ⟨BRow.nil, fun h => absurd h (by simp)⟩
theorem URow.at_ {k : Nat} (h : URow w A l) (hk : k < l.length) : ∃ b o, A = some ⟨b, o, none⟩ ∧ b < w.heap.size ∧ w.cell? ⟨b, o + k, none⟩ = some (.int .u8 (l[k].toNat : Int)) := h.1.at_ hk
theorem URow.keepB (h : URow w A l) (hs : w.heap.size ≤ w'.heap.size) (hk : ∀ a, A = some a → 0 < l.length → a.block < w.heap.size → w'.heap[a.block]? = w.heap[a.block]?) : URow w' A l := by
  refine ⟨fun hl => ?_, fun hl a ha => ?_⟩
  · obtain ⟨b, o, rfl, hlt, hc⟩ := h.1 hl
    exact ⟨b, o, rfl, Nat.lt_of_lt_of_le hlt hs, fun j hj => (World.cell?_of_block (a := ⟨b, o + j, none⟩) (hk ⟨b, o, none⟩ rfl (by simpa using hl) hlt)).trans (hc j hj)⟩
  · obtain ⟨b, o, e, hlt⟩ := h.1.lt hl
    obtain rfl := Option.some.inj (ha.symm.trans e)
    obtain ⟨cur, fr, hh⟩ := h.2 hl _ e
    exact ⟨cur, fr, (hk _ e hl hlt).trans hh⟩
theorem URow.below (h : URow w A l) (hb : Below w.heap.size w w') : URow w' A l := h.keepB hb.size fun a _ _ hlt => hb.block _ hlt
theorem URow.drew (h : URow w A l) : URow w.drew A l := h
theorem URow.alloc (h : URow w A l) (o : Obj) : URow (w.alloc o) A l := h.below ((Below.refl _ _).alloc (Nat.le_refl _) o)
theorem URow.drop (h : URow w A l) (k : Nat) : URow w (A.map fun x => x.add k) (l.drop k) := by
  refine ⟨h.1.drop k, fun hl a ha => ?_⟩
  have hl' : 0 < l.length := by rw [List.length_drop] at hl; omega
  obtain ⟨b, o, rfl, hlt⟩ := BRow.lt h.1 hl'
  simp only [Option.map_some, Option.some.injEq, Addr.add_lit] at ha
  subst ha
  exact h.2 hl' ⟨b, o, none⟩ rfl
end
def RD (w : World) (g : Nat) (r : Wire.RS) : Prop :=
  ∃ A c, w.heap[g]? = some (.cells #[.slice A r.l.length c, .int .i64 r.e] 246 (0, 0)) ∧ URow w A r.l ∧ r.l.length ≤ c ∧ c ≤ 9223372036854775807
def Did (w : World) (g : Nat) (v : Value) (r : Wire.RS) (e : Ending) (w' : World) : Prop := e = .returned v ∧ RD w' g r ∧ w.grownBy w' (some g)
section
variable {w w' : World} {g : Nat} {r : Wire.RS}
theorem RD.lt (h : RD w g r) : g < w.heap.size := by
  obtain ⟨A, c, hg, _⟩ := h
  exact (Array.getElem?_eq_some_iff.1 hg).1
theorem RD.below (h : RD w g r) (hb : Below w.heap.size w w') : RD w' g r := by
  have hlt := h.lt
  obtain ⟨A, c, hg, hr, h1, h2⟩ := h
  exact ⟨A, c, (hb.block g hlt).trans hg, hr.below hb, h1, h2⟩
theorem RD.drew (h : RD w g r) : RD w.drew g r := h
theorem row_ne {A A' : Option Addr} {n c : Nat} {e : Int} {t : TypeId} {l : List UInt8} (hg : w.heap[g]? = some (.cells #[.slice A' n c, .int .i64 e] t (0, 0))) (hr : BRow w A l) (hl : 0 < l.length) : ∀ a, A = some a → a.block ≠ g := by
  intro a ha hb
  obtain ⟨b, o, e1, _, hc⟩ := hr (by simpa using hl)
  rw [ha] at e1
  obtain rfl := Option.some.inj e1
  simp only at hb
  subst hb
  have := hc 0 (by simpa using hl)
  rw [cell_of_row w b (o + 0) _ t (0, 0) hg] at this
  match o, this with
  | 0, h => simp [bv] at h
  | 1, h => simp [bv] at h
  | o + 2, h => simp [bv] at h
theorem urow_far {A A' : Option Addr} {n c : Nat} {e : Int} {t : TypeId} {l : List UInt8} (hg : w.heap[g]? = some (.cells #[.slice A' n c, .int .i64 e] t (0, 0))) (hr : URow w A l) (i : Nat) (u : Value) : URow (w.setCell ⟨g, i, none⟩ u) A l :=
  hr.keepB (by simp) fun a ha hl _ => heap_setCell_other w ⟨g, i, none⟩ a.block u (fun e => row_ne hg hr.1 hl a ha e)
theorem set_heap {cs : Array Value} {t : TypeId} (hg : w.heap[g]? = some (.cells cs t (0, 0))) (i : Nat) (u : Value) : (w.setCell ⟨g, i, none⟩ u).heap[g]? = some (.cells (cs.setIfInBounds i u) t (0, 0)) := heap_setCell_same w g i cs t u hg
theorem set_grown (w : World) (g i : Nat) (u : Value) : w.grownBy (w.setCell ⟨g, i, none⟩ u) (some g) :=
  ⟨rfl, rfl, rfl, by simp, fun k _ hk => heap_setCell_other w ⟨g, i, none⟩ k u (fun e => hk (by rw [e]))⟩
theorem RD.err {A : Option Addr} {c : Nat} {l : List UInt8} {e : Int} (hg : w.heap[g]? = some (.cells #[.slice A l.length c, .int .i64 e] 246 (0, 0))) (hr : URow w A l) (h1 : l.length ≤ c) (h2 : c ≤ 9223372036854775807) (e' : Int) :
    RD (w.setCell ⟨g, 1, none⟩ (.int .i64 e')) g ⟨l, e'⟩ :=
  ⟨A, c, by rw [set_heap hg]; simp, urow_far hg hr _ _, h1, h2⟩
theorem RD.rest {A A' : Option Addr} {n c c' : Nat} {l' : List UInt8} {e : Int} (hg : w.heap[g]? = some (.cells #[.slice A n c, .int .i64 e] 246 (0, 0))) (hr : URow w A' l') (h1 : l'.length ≤ c') (h2 : c' ≤ 9223372036854775807) :
    RD (w.setCell ⟨g, 0, none⟩ (.slice A' l'.length c')) g ⟨l', e⟩ :=
  ⟨A', c', by rw [set_heap hg]; simp, urow_far hg hr _ _, h1, h2⟩
theorem RD.both {A A' : Option Addr} {n c c' : Nat} {l' : List UInt8} {e : Int} (hg : w.heap[g]? = some (.cells #[.slice A n c, .int .i64 e] 246 (0, 0))) (hr : URow w A' l') (h1 : l'.length ≤ c') (h2 : c' ≤ 9223372036854775807) (e' : Int) :
    RD ((w.setCell ⟨g, 0, none⟩ (.slice A' l'.length c')).setCell ⟨g, 1, none⟩ (.int .i64 e')) g ⟨l', e'⟩ := by
  have hg' : (w.setCell ⟨g, 0, none⟩ (.slice A' l'.length c')).heap[g]? = some (.cells #[.slice A' l'.length c', .int .i64 e] 246 (0, 0)) := by rw [set_heap hg]; simp
  exact RD.err hg' (urow_far hg hr _ _) h1 h2 e'
theorem RD.cut {A A' : Option Addr} {n c c' k : Nat} {l : List UInt8} {e : Int} (hg : w.heap[g]? = some (.cells #[.slice A n c, .int .i64 e] 246 (0, 0))) (hr : URow w A' (l.drop k)) (h1 : l.length - k ≤ c') (h2 : c' ≤ 9223372036854775807) :
    RD (w.setCell ⟨g, 0, none⟩ (.slice A' (l.length - k) c')) g ⟨l.drop k, e⟩ := by
  have := RD.rest (l' := l.drop k) hg hr (by rw [List.length_drop]; exact h1) h2
  rwa [List.length_drop] at this
theorem row_cut {b o k : Nat} {l : List UInt8} (h : URow w (some ⟨b, o, none⟩) l) : URow w (some ⟨b, o + k, none⟩) (l.drop k) := by
  have := h.drop k
  simpa [Addr.add_lit] using this
theorem row_end {A : Option Addr} {k : Nat} {l : List UInt8} (h : l.length ≤ k) : URow w A (l.drop k) := by
  rw [List.drop_eq_nil_of_le h]; exact URow.nil
theorem grown_trans {a b c : World} {row : Option Nat} (h : a.grownBy b row) (k : b.grownBy c row) : a.grownBy c row :=
  ⟨k.os.trans h.os, k.tape.trans h.tape, k.output.trans h.output, Nat.le_trans h.size k.size, fun i hi hn => (k.block i (Nat.lt_of_lt_of_le hi h.size) hn).trans (h.block i hi hn)⟩
end
set_option maxHeartbeats 400000 in
theorem rerr_any (w : World) (g : Nat) (r : Wire.RS) (h : RD w g r) : Calls Tryz.prog 119 #[.pointer (some ⟨g, 0, none⟩)] w fun e w' => e = .returned (.int .i64 r.e) ∧ w = w' := by
  obtain ⟨A, c, hg, hr, h1, h2⟩ := h
  have c1 : w.cell? ⟨g, 1, none⟩ = some (.int .i64 r.e) := by rw [cell_of_row w g 1 _ _ _ hg]; rfl
  clear hg
  go_enter Tryz.func119, Tryz.ntmps119
  go_wp2_with fail
  go_ret
  exact ⟨rfl, rfl⟩
set_option maxHeartbeats 400000 in
theorem rleft_any (w : World) (g : Nat) (r : Wire.RS) (h : RD w g r) : Calls Tryz.prog 178 #[.pointer (some ⟨g, 0, none⟩)] w fun e w' => e = .returned (.int .i64 (r.l.length : Nat)) ∧ w = w' := by
  obtain ⟨A, c, hg, hr, h1, h2⟩ := h
  have c0 : w.cell? ⟨g, 0, none⟩ = some (.slice A r.l.length c) := by rw [cell_of_row w g 0 _ _ _ hg]; rfl
  clear hg
  go_enter Tryz.func178, Tryz.ntmps178
  go_wp2_with fail
  go_ret
  exact ⟨rfl, rfl⟩
set_option maxHeartbeats 400000 in
theorem rfail_any (w : World) (g : Nat) (A : Option Addr) (c : Nat) (l : List UInt8) (e e' : Int) (hg : w.heap[g]? = some (.cells #[.slice A l.length c, .int .i64 e] 246 (0, 0))) (hr : URow w A l) (h1 : l.length ≤ c) (h2 : c ≤ 9223372036854775807) :
    Calls Tryz.prog 179 #[.pointer (some ⟨g, 0, none⟩), .int .i64 e'] w (Did w g (.int .u64 0) ⟨l, e'⟩) := by
  have c1 : w.cell? ⟨g, 1, none⟩ = some (.int .i64 e) := by rw [cell_of_row w g 1 _ _ _ hg]; rfl
  have f1 : w.frozen? ⟨g, 1, none⟩ = false := frozen_of_row w g 1 _ _ hg
  have HG := Lib.hid hg
  clear hg
  go_enter Tryz.func179, Tryz.ntmps179
  go_wp2_with fail
  go_ret
  exact ⟨rfl, RD.err HG.out hr h1 h2 e', set_grown _ _ _ _⟩
end Go.Proofs.YtcfoihihinijlaaGreat
end

section
namespace Go.Proofs.YtcfoihihinijlaaGreat
set_option linter.unusedSimpArgs false
set_option linter.unusedVariables false
open Go.RowKit
theorem tk_cons (i a : Nat) (l : List UInt8) (h : i < l.length) : Wire.tk i a (l.drop i) =
    if i = 9 ∧ 1 < l[i].toNat then (7, 0, 0) else if 128 ≤ l[i].toNat then Wire.tk (i + 1) (a + l[i].toNat % 128 * 128 ^ i) (l.drop (i + 1))
    else if l[i].toNat = 0 ∧ 0 < i then (7, 0, 0) else (0, i + 1, a + l[i].toNat % 128 * 128 ^ i) := by
  rw [List.drop_eq_getElem_cons h, Wire.tk]
theorem or_shift (a c i : Nat) (ha : a < 128 ^ i) (hi : i ≤ 9) (hc : c < 256) (h9 : i = 9 → c ≤ 1) :
    Go.bits .or .u64 (a : Int) (IntKind.u64.wrap ((c : Int) % 128 * 2 ^ (7 * i))) = ((a + c % 128 * 128 ^ i : Nat) : Int) := by
  have hp : (128 : Nat) ^ i = 2 ^ (7 * i) := by rw [show (128 : Nat) = 2 ^ 7 from rfl, ← Nat.pow_mul]
  have hlt : c % 128 * 2 ^ (7 * i) < 18446744073709551616 := by
    have h1 : c % 128 < 128 := Nat.mod_lt _ (by omega)
    rcases Nat.lt_or_ge i 9 with h | h
    · have h2 : 2 ^ (7 * i) ≤ 2 ^ 56 := Nat.pow_le_pow_right (by omega) (by omega)
      have h3 : c % 128 * 2 ^ (7 * i) ≤ 127 * 2 ^ 56 := Nat.mul_le_mul (by omega) h2
      omega
    · obtain rfl : i = 9 := by omega
      have := h9 rfl
      have h3 : c % 128 * 2 ^ (7 * 9) ≤ 1 * 2 ^ 63 := Nat.mul_le_mul (by omega) (Nat.le_refl _)
      omega
  have e : IntKind.u64.wrap ((c : Int) % 128 * 2 ^ (7 * i)) = ((c % 128 * 2 ^ (7 * i) : Nat) : Int) := by
    have e1 : ((c : Int) % 128) * 2 ^ (7 * i) = ((c % 128 * 2 ^ (7 * i) : Nat) : Int) := by simp
    rw [e1]
    generalize c % 128 * 2 ^ (7 * i) = q at hlt
    exact IntWalk.u64_in _ (by omega)
  have ha2 : a < 18446744073709551616 := by
    rw [hp] at ha
    have : 2 ^ (7 * i) ≤ 2 ^ 63 := Nat.pow_le_pow_right (by omega) (by omega)
    omega
  have key := Nat.two_pow_add_eq_or_of_lt (show a < 2 ^ (7 * i) by rw [← hp]; exact ha) (c % 128)
  rw [e, u64_or_nat _ _ ha2 hlt, hp, Nat.mul_comm (c % 128), Nat.or_comm, ← key, Nat.add_comm]
theorem did_take {w w' : World} {g er : Nat} {l : List UInt8} (h : (Wire.tk 0 0 l).1 = er) (h0 : er ≠ 0) (hrd : RD w' g ⟨l, (er : Int)⟩) (hg : w.grownBy w' (some g)) :
    Did w g (.int .u64 ((Wire.take ⟨l, 0⟩).2 : Nat)) (Wire.take ⟨l, 0⟩).1 (.returned (.int .u64 0)) w' := by
  have e : Wire.take ⟨l, 0⟩ = (⟨l, (er : Int)⟩, 0) := by
    unfold Wire.take
    rw [if_neg (by simp), if_pos (by rw [h]; exact h0), h]
  rw [e]
  exact ⟨rfl, hrd, hg⟩
theorem did_took {w w' : World} {g u v : Nat} {l : List UInt8} (h : Wire.tk 0 0 l = (0, u, v)) (hrd : RD w' g ⟨l.drop u, 0⟩) (hg : w.grownBy w' (some g)) :
    Did w g (.int .u64 ((Wire.take ⟨l, 0⟩).2 : Nat)) (Wire.take ⟨l, 0⟩).1 (.returned (.int .u64 (v : Nat))) w' := by
  have e : Wire.take ⟨l, 0⟩ = (⟨l.drop u, 0⟩, v) := by
    unfold Wire.take
    rw [if_neg (by simp), if_neg (by rw [h]; simp), h]
  rw [e]
  exact ⟨rfl, hrd, hg⟩
structure Acc (a i : Nat) : Prop where
  lt : a < 128 ^ i
set_option maxRecDepth 20000 in
set_option maxHeartbeats 1000000 in
theorem rnum_any (w : World) (g : Nat) (r : Wire.RS) (h : RD w g r) : Calls Tryz.prog 158 #[.pointer (some ⟨g, 0, none⟩)] w (Did w g (.int .u64 ((Wire.take r).2 : Nat)) (Wire.take r).1) := by
  obtain ⟨l, e⟩ := r
  have HRD := Lib.hid h
  obtain ⟨A, c, hg, hr, h1, h2⟩ := h
  simp only at hg hr h1
  by_cases he : e = 0
  · subst he
    have c0 : w.cell? ⟨g, 0, none⟩ = some (.slice A l.length c) := by rw [cell_of_row w g 0 _ _ _ hg]; rfl
    have f0 : w.frozen? ⟨g, 0, none⟩ = false := frozen_of_row w g 0 _ _ hg
    have HG := Lib.hid hg
    clear hg
    go_enter Tryz.func158, Tryz.ntmps158
    go_wp2_with fail
    refine (rerr_any w g _ HRD.out).mono ?_
    rintro e w' ⟨rfl, rfl⟩
    go_wp2_with fail
    go_loop [3, 4, 10] (fun nv sv iv => ∃ i a : Nat, i ≤ 9 ∧ iv = .int .i64 i ∧ nv = .int .u64 (a : Nat) ∧ sv = .int .i64 (7 * i : Nat) ∧ Acc a i ∧ i ≤ l.length ∧ Hid (Wire.tk 0 0 l = Wire.tk i a (l.drop i))) (fun _ _ iv => 10 - (intOf iv).toNat)
    case atStart => exact ⟨0, 0, by omega, rfl, rfl, rfl, ⟨by simp⟩, Nat.zero_le _, rfl⟩
    case round =>
      obtain ⟨i, a, hi, rfl, rfl, rfl, HA, hil, HT⟩ := hrel
      by_cases hlt : i < l.length
      · have HC := Lib.hid (tk_cons i a l hlt)
        obtain ⟨b, o, rfl, _, hc⟩ := hr.at_ hlt
        have hcl := l[i].toNat_lt
        generalize l[i].toNat = x at hc hcl HC
        have HO := Lib.hid (or_shift a x i HA.lt hi hcl)
        by_cases hi9 : i = 9
        · have hi9b : ((i : Int) == 9) = true := by simp; omega
          have hi9l : 9 ≤ i := by omega
          clear hi9
          by_cases hx1 : 1 < x
          · go_wp2_with fail
            refine (rfail_any w g _ c l 0 7 HG.out hr h1 h2).mono ?_
            rintro e w' ⟨rfl, hrd, hgr⟩
            go_wp2_with fail
            go_ret
            refine did_take (er := 7) ?_ (by omega) hrd hgr
            rw [HT.out, HC.out]
            rw [if_pos ⟨by omega, hx1⟩]
          · have HO := Lib.hid (HO.out (by omega))
            by_cases hx0 : x = 0
            · have hx0b : ((x : Int) == 0) = true := by simp; omega
              have hx0l : x ≤ 0 := by omega
              clear hx0
              go_wp2_with fail
              refine (rfail_any w g _ c l 0 7 HG.out hr h1 h2).mono ?_
              rintro e w' ⟨rfl, hrd, hgr⟩
              go_wp2_with fail
              go_ret
              refine did_take (er := 7) ?_ (by omega) hrd hgr
              rw [HT.out, HC.out]
              rw [if_neg (by omega), if_neg (by omega), if_pos ⟨by omega, by omega⟩]
            · have hx0b : ((x : Int) == 0) = false := by simp; omega
              go_wp2_with fail
              all_goals
                go_ret
                rw [HO.out]
                refine did_took (u := i + 1) ?_ ?_ (set_grown _ _ _ _)
                · rw [HT.out, HC.out, if_neg (by omega), if_neg (by omega), if_neg (by omega)]
                · refine RD.cut HG.out ?_ (by omega) (by omega)
                  first | exact row_cut hr | exact row_end (by omega)
        · have HO := Lib.hid (HO.out (by omega))
          have hi9b : ((i : Int) == 9) = false := by simp; omega
          by_cases hx : 128 ≤ x
          · go_wp2_with fail
            go_round
            case rel =>
              refine ⟨i + 1, a + x % 128 * 128 ^ i, by omega, by go_num, by rw [HO.out], by go_num, ⟨?_⟩, by omega, ?_⟩
              · have h3 := HA.lt
                have h4 : x % 128 * 128 ^ i ≤ 127 * 128 ^ i := Nat.mul_le_mul (by omega) (Nat.le_refl _)
                rw [Nat.pow_succ]
                omega
              · show _ = _
                rw [HT.out, HC.out, if_neg (by omega), if_pos hx]
            case measure => simp [intOf]; omega
          · by_cases hx0 : x = 0
            · have hx0b : ((x : Int) == 0) = true := by simp; omega
              have hx0l : x ≤ 0 := by omega
              clear hx0
              by_cases hi0 : i ≤ 0
              · go_wp2_with fail
                all_goals
                  go_ret
                  rw [HO.out]
                  refine did_took (u := i + 1) ?_ ?_ (set_grown _ _ _ _)
                  · rw [HT.out, HC.out, if_neg (by omega), if_neg (by omega), if_neg (by omega)]
                  · refine RD.cut HG.out ?_ (by omega) (by omega)
                    first | exact row_cut hr | exact row_end (by omega)
              · go_wp2_with fail
                refine (rfail_any w g _ c l 0 7 HG.out hr h1 h2).mono ?_
                rintro e w' ⟨rfl, hrd, hgr⟩
                go_wp2_with fail
                go_ret
                refine did_take (er := 7) ?_ (by omega) hrd hgr
                rw [HT.out, HC.out]
                rw [if_neg (by omega), if_neg (by omega), if_pos ⟨by omega, by omega⟩]
            · have hx0b : ((x : Int) == 0) = false := by simp; omega
              go_wp2_with fail
              all_goals
                go_ret
                rw [HO.out]
                refine did_took (u := i + 1) ?_ ?_ (set_grown _ _ _ _)
                · rw [HT.out, HC.out, if_neg (by omega), if_neg (by omega), if_neg (by omega)]
                · refine RD.cut HG.out ?_ (by omega) (by omega)
                  first | exact row_cut hr | exact row_end (by omega)
      · obtain rfl : i = l.length := by omega
        go_wp2_with fail
        refine (rfail_any w g A c l 0 10 HG.out hr h1 h2).mono ?_
        rintro e w' ⟨rfl, hrd, hgr⟩
        go_wp2_with fail
        go_ret
        refine did_take (er := 10) ?_ (by omega) hrd hgr
        rw [HT.out, List.drop_length]
        rfl
  · have heb : (e != 0) = true := by simpa using he
    have HE := Lib.hid he
    clear he hg
    go_enter Tryz.func158, Tryz.ntmps158
    go_wp2_with fail
    refine (rerr_any w g _ HRD.out).mono ?_
    rintro e' w' ⟨rfl, rfl⟩
    go_wp2_with fail
    go_ret
    have : Wire.take ⟨l, e⟩ = (⟨l, e⟩, 0) := by unfold Wire.take; rw [if_pos HE.out]
    rw [this]
    exact ⟨rfl, HRD.out, World.grownBy.refl _ _⟩
end Go.Proofs.YtcfoihihinijlaaGreat
end

section
namespace Go.Proofs.YtcfoihihinijlaaGreat
set_option linter.unusedSimpArgs false
set_option linter.unusedVariables false
open Go.RowKit
theorem rd_open {w : World} {g : Nat} {r : Wire.RS} (h : RD w g r) : ∃ A c, w.cell? ⟨g, 0, none⟩ = some (.slice A r.l.length c) ∧ w.cell? ⟨g, 1, none⟩ = some (.int .i64 r.e) ∧ w.frozen? ⟨g, 0, none⟩ = false ∧ w.frozen? ⟨g, 1, none⟩ = false ∧ URow w A r.l ∧ r.l.length ≤ c ∧ c ≤ 9223372036854775807 ∧
    Hid (w.heap[g]? = some (.cells #[.slice A r.l.length c, .int .i64 r.e] 246 (0, 0))) := by
  obtain ⟨A, c, hg, hr, h1, h2⟩ := h
  exact ⟨A, c, by rw [cell_of_row w g 0 _ _ _ hg]; rfl, by rw [cell_of_row w g 1 _ _ _ hg]; rfl, frozen_of_row w g 0 _ _ hg, frozen_of_row w g 1 _ _ hg, hr, h1, h2, hg⟩
theorem urow_grown {w w1 : World} {g : Nat} {A A' : Option Addr} {n c : Nat} {e : Int} {t : TypeId} {l : List UInt8} (hg : w.heap[g]? = some (.cells #[.slice A' n c, .int .i64 e] t (0, 0))) (hr : URow w A l) (h : w.grownBy w1 (some g)) : URow w1 A l :=
  hr.keepB h.size fun a ha hl hlt => h.block _ hlt (fun e => row_ne hg hr.1 hl a ha (by simpa using e))
theorem take_of_err {r : Wire.RS} (h : r.e ≠ 0) : Wire.take r = (r, 0) := by unfold Wire.take; rw [if_pos h]
theorem count_of_err {r : Wire.RS} {most : Int} (h : r.e ≠ 0) : Wire.count r most = (r, 0) := by unfold Wire.count; rw [take_of_err h, if_pos h]
set_option maxRecDepth 20000 in
set_option maxHeartbeats 1000000 in
theorem rcount_any (w : World) (g : Nat) (r : Wire.RS) (most : Int) (hmo : most ≤ 9223372036854775807) (h : RD w g r) :
    Calls Tryz.prog 117 #[.pointer (some ⟨g, 0, none⟩), .int .i64 most] w (Did w g (.int .i64 ((Wire.count r most).2 : Nat)) (Wire.count r most).1) := by
  have HRD := Lib.hid h
  have HC := Lib.hid (rnum_any w g r h)
  have HE := Lib.hid (rerr_any w g r h)
  obtain ⟨A, c, c0, c1, f0, f1, hr, h1, h2, HG⟩ := rd_open h
  clear h
  by_cases he : r.e = 0
  · have HE0 := Lib.hid he
    have heb : (r.e != 0) = false := by simpa using he
    have hlt := Wire.take_lt r
    have HCO : Hid (Wire.count r most = if (Wire.take r).1.e ≠ 0 then ((Wire.take r).1, 0) else if most < 0 ∨ most < ((Wire.take r).2 : Int) then (⟨r.l, 11⟩, 0) else Wire.take r) := rfl
    have HTE := Lib.hid (Wire.take_err r)
    have HT0 : Hid (∀ x, (Wire.take r).1.e ≠ 0 → Wire.take r = x → x.2 = 0) := by
      intro x hx hxx
      rw [← hxx]
      unfold Wire.take at hx ⊢
      split
      · rfl
      · split
        · rfl
        · rename_i a b
          rw [if_neg a, if_neg b] at hx
          simp at hx
    obtain ⟨⟨r1, n⟩, hx⟩ : ∃ x, Wire.take r = x := ⟨_, rfl⟩
    rw [hx] at HCO HC HTE hlt HT0
    clear hx he
    have HLT := Lib.hid hlt
    clear hlt
    by_cases ht : r1.e = 0
    · have htb : (r1.e == 0) = true := by simpa using ht
      have HT := Lib.hid ht
      clear ht
      go_enter Tryz.func117, Tryz.ntmps117
      go_wp2_with fail
      refine HE.out.mono ?_
      rintro e w1 ⟨rfl, rfl⟩
      go_wp2_with fail
      refine HC.out.mono ?_
      rintro e w1 ⟨rfl, hrd, hgr⟩
      have HRD1 := Lib.hid hrd
      obtain ⟨A1, d1, c01, c11, f01, f11, hr1, h11, h21, HG1⟩ := rd_open hrd
      clear hrd
      by_cases hm0 : most < 0
      · go_wp2_with fail
        go_ret
        rw [HCO.out, if_neg (by simpa using HT.out), if_pos (by omega)]
        exact ⟨rfl, RD.both HG1.out (urow_grown HG.out hr hgr) h1 h2 11, grown_trans hgr (grown_trans (set_grown _ _ _ _) (set_grown _ _ _ _))⟩
      · by_cases hmn : most < (n : Int)
        · go_wp2_with fail
          go_ret
          rw [HCO.out, if_neg (by simpa using HT.out), if_pos (by omega)]
          exact ⟨rfl, RD.both HG1.out (urow_grown HG.out hr hgr) h1 h2 11, grown_trans hgr (grown_trans (set_grown _ _ _ _) (set_grown _ _ _ _))⟩
        · go_wp2_with fail
          go_ret
          rw [HCO.out, if_neg (by simpa using HT.out), if_neg (by omega)]
          exact ⟨rfl, HRD1.out, hgr⟩
    · have htb : (r1.e == 0) = false := by simpa using ht
      have HT := Lib.hid ht
      have hn0 : n = 0 := HT0.out _ ht rfl
      have hn0l : n ≤ 0 := by omega
      have HN0 := Lib.hid hn0
      clear ht hn0
      go_enter Tryz.func117, Tryz.ntmps117
      go_wp2_with fail
      refine HE.out.mono ?_
      rintro e w1 ⟨rfl, rfl⟩
      go_wp2_with fail
      refine HC.out.mono ?_
      rintro e w1 ⟨rfl, hrd, hgr⟩
      have HRD1 := Lib.hid hrd
      obtain ⟨A1, d1, c01, c11, f01, f11, hr1, h11, h21, HG1⟩ := rd_open hrd
      clear hrd
      go_wp2_with fail
      go_ret
      rw [HCO.out, if_pos HT.out]
      exact ⟨by rw [HN0.out]; rfl, HRD1.out, hgr⟩
  · have heb : (r.e != 0) = true := by simpa using he
    have HCE := Lib.hid (count_of_err (most := most) he)
    clear he
    go_enter Tryz.func117, Tryz.ntmps117
    go_wp2_with fail
    refine HE.out.mono ?_
    rintro e w1 ⟨rfl, rfl⟩
    go_wp2_with fail
    go_ret
    rw [HCE.out]
    exact ⟨rfl, HRD.out, World.grownBy.refl _ _⟩
set_option maxRecDepth 20000 in
set_option maxHeartbeats 1000000 in
theorem rtext_any (w : World) (g : Nat) (r : Wire.RS) (most : Int) (hmo : most ≤ 9223372036854775807) (h : RD w g r) :
    Calls Tryz.prog 118 #[.pointer (some ⟨g, 0, none⟩), .int .i64 most] w (Did w g (txt (Wire.takeText r most).2) (Wire.takeText r most).1) := by
  have HRD := Lib.hid h
  have HC := Lib.hid (rcount_any w g r most hmo h)
  have HE := Lib.hid (rerr_any w g r h)
  obtain ⟨A, c, c0, c1, f0, f1, hr, h1, h2, HG⟩ := rd_open h
  clear h
  by_cases he : r.e = 0
  · have heb : (r.e != 0) = false := by simpa using he
    have HCO : Hid (Wire.takeText r most = if (Wire.count r most).1.e ≠ 0 then ((Wire.count r most).1, []) else if (Wire.count r most).1.l.length < (Wire.count r most).2 then (⟨r.l, 10⟩, [])
      else (⟨(Wire.count r most).1.l.drop (Wire.count r most).2, 0⟩, (Wire.count r most).1.l.take (Wire.count r most).2)) := rfl
    obtain ⟨⟨r1, n⟩, hx⟩ : ∃ x, Wire.count r most = x := ⟨_, rfl⟩
    have hnb := Wire.count_lt r most hmo
    rw [hx] at HCO HC hnb
    clear hx he
    simp only at hnb
    by_cases ht : r1.e = 0
    · have htb : (r1.e != 0) = false := by simpa using ht
      have HT := Lib.hid ht
      clear ht
      go_enter Tryz.func118, Tryz.ntmps118
      go_wp2_with fail
      refine HE.out.mono ?_
      rintro e w1 ⟨rfl, rfl⟩
      go_wp2_with fail
      refine HC.out.mono ?_
      rintro e w1 ⟨rfl, hrd, hgr⟩
      have HRD1 := Lib.hid hrd
      obtain ⟨A1, d1, c01, c11, f01, f11, hr1, h11, h21, HG1⟩ := rd_open hrd
      clear hrd
      by_cases hl : r1.l.length < n
      · go_wp2_with fail
        go_ret
        rw [HCO.out, if_neg (by simpa using HT.out), if_pos hl]
        exact ⟨rfl, RD.both HG1.out (urow_grown HG.out hr hgr) h1 h2 10, grown_trans hgr (grown_trans (set_grown _ _ _ _) (set_grown _ _ _ _))⟩
      · have hcv := run_string_bytes w1 d1 (hr1.1.take n)
        rw [List.length_take_of_le (by omega)] at hcv
        go_wp2_with fail
        all_goals
          go_ret
          rw [HCO.out, if_neg (by simpa using HT.out), if_neg hl]
          refine ⟨rfl, ?_, grown_trans hgr (set_grown _ _ _ _)⟩
          rw [← HT.out]
          refine RD.cut HG1.out ?_ (by omega) (by omega)
          first | exact hr1.drop n | exact row_end (by omega)
    · have htb : (r1.e != 0) = true := by simpa using ht
      have HT := Lib.hid ht
      clear ht
      go_enter Tryz.func118, Tryz.ntmps118
      go_wp2_with fail
      refine HE.out.mono ?_
      rintro e w1 ⟨rfl, rfl⟩
      go_wp2_with fail
      refine HC.out.mono ?_
      rintro e w1 ⟨rfl, hrd, hgr⟩
      have HRD1 := Lib.hid hrd
      obtain ⟨A1, d1, c01, c11, f01, f11, hr1, h11, h21, HG1⟩ := rd_open hrd
      clear hrd
      go_wp2_with fail
      go_ret
      rw [HCO.out, if_pos HT.out]
      exact ⟨rfl, HRD1.out, hgr⟩
  · have heb : (r.e != 0) = true := by simpa using he
    have HCE : Hid (Wire.takeText r most = (r, [])) := by
      show _ = _
      unfold Wire.takeText
      rw [count_of_err he, if_pos he]
    clear he
    go_enter Tryz.func118, Tryz.ntmps118
    go_wp2_with fail
    refine HE.out.mono ?_
    rintro e w1 ⟨rfl, rfl⟩
    go_wp2_with fail
    go_ret
    rw [HCE.out]
    exact ⟨rfl, HRD.out, World.grownBy.refl _ _⟩
set_option maxRecDepth 20000 in
set_option maxHeartbeats 1000000 in
theorem rend_any (w : World) (g : Nat) (r : Wire.RS) (h : RD w g r) :
    Calls Tryz.prog 120 #[.pointer (some ⟨g, 0, none⟩)] w (Did w g (.int .i64 (Wire.fin r).e) (Wire.fin r)) := by
  have HRD := Lib.hid h
  have HE := Lib.hid (rerr_any w g r h)
  obtain ⟨A, c, c0, c1, f0, f1, hr, h1, h2, HG⟩ := rd_open h
  clear h
  obtain ⟨l, e⟩ := r
  simp only at c0 c1 hr h1 HG HE HRD
  by_cases hf : e = 0 ∧ l ≠ []
  · obtain ⟨rfl, hl⟩ := hf
    have hpos : 0 < l.length := List.length_pos_iff.2 hl
    have HF : Hid (Wire.fin ⟨l, 0⟩ = ⟨l, 12⟩) := by show _ = _; unfold Wire.fin; rw [if_pos ⟨rfl, hl⟩]
    clear hl
    go_enter Tryz.func120, Tryz.ntmps120
    go_wp2_with fail
    refine HE.out.mono ?_
    rintro e w1 ⟨rfl, rfl⟩
    go_wp2_with fail
    have hrd := RD.err HG.out hr h1 h2 12
    refine (rerr_any _ g _ hrd).mono ?_
    rintro e w1 ⟨rfl, rfl⟩
    go_wp2_with fail
    go_ret
    rw [HF.out]
    exact ⟨rfl, hrd, set_grown _ _ _ _⟩
  · have HF : Hid (Wire.fin ⟨l, e⟩ = ⟨l, e⟩) := by show _ = _; unfold Wire.fin; rw [if_neg hf]
    by_cases he : e = 0
    · subst he
      have hl : l = [] := Classical.byContradiction fun h => hf ⟨rfl, h⟩
      subst hl
      simp only [List.length_nil] at c0 h1
      clear hf
      go_enter Tryz.func120, Tryz.ntmps120
      go_wp2_with fail
      refine HE.out.mono ?_
      rintro e w1 ⟨rfl, rfl⟩
      go_wp2_with fail
      refine HE.out.mono ?_
      rintro e w1 ⟨rfl, rfl⟩
      go_wp2_with fail
      go_ret
      rw [HF.out]
      exact ⟨rfl, HRD.out, World.grownBy.refl _ _⟩
    · have heb : (e == 0) = false := by simpa using he
      clear he hf
      go_enter Tryz.func120, Tryz.ntmps120
      go_wp2_with fail
      refine HE.out.mono ?_
      rintro e w1 ⟨rfl, rfl⟩
      go_wp2_with fail
      refine HE.out.mono ?_
      rintro e w1 ⟨rfl, rfl⟩
      go_wp2_with fail
      go_ret
      rw [HF.out]
      exact ⟨rfl, HRD.out, World.grownBy.refl _ _⟩
end Go.Proofs.YtcfoihihinijlaaGreat
end

section
namespace Go.Proofs.YtcfoihihinijlaaGreat
set_option linter.unusedSimpArgs false
set_option linter.unusedVariables false
open Go.RowKit
def ROwn (B : Nat) (w : World) (g : Nat) (r : Wire.RS) : Prop :=
  ∃ A c, w.heap[g]? = some (.cells #[.slice A r.l.length c, .int .i64 r.e] 246 (0, 0)) ∧ URow w A r.l ∧ r.l.length ≤ c ∧ c ≤ 9223372036854775807 ∧ B ≤ g ∧ ∀ a, A = some a → B ≤ a.block
def RetRd (W : World) (l : List UInt8) (e : Ending) (w' : World) : Prop :=
  ∃ g, e = .returned (.pointer (some ⟨g, 0, none⟩)) ∧ ROwn W.heap.size w' g ⟨l, 0⟩ ∧ Below W.heap.size W w'
section
variable {B : Nat} {w w' : World} {g : Nat} {r : Wire.RS}
theorem ROwn.rd (h : ROwn B w g r) : RD w g r := by
  obtain ⟨A, c, h1, h2, h3, h4, _⟩ := h
  exact ⟨A, c, h1, h2, h3, h4⟩
theorem ROwn.ge (h : ROwn B w g r) : B ≤ g := by
  obtain ⟨A, c, h1, h2, h3, h4, h5, _⟩ := h
  exact h5
theorem ROwn.keep (h : ROwn B w g r) (hs : w.heap.size ≤ w'.heap.size) (hk : ∀ k, B ≤ k → k < w.heap.size → w'.heap[k]? = w.heap[k]?) : ROwn B w' g r := by
  have hlt := h.rd.lt
  obtain ⟨A, c, h1, h2, h3, h4, h5, h6⟩ := h
  exact ⟨A, c, (hk g h5 hlt).trans h1, h2.keepB hs fun a ha _ hlt => hk a.block (h6 a ha) hlt, h3, h4, h5, h6⟩
theorem ROwn.below (h : ROwn B w g r) (hb : Below w.heap.size w w') : ROwn B w' g r := h.keep hb.size fun k _ hk => hb.block k hk
theorem Did.below {v : Value} {e : Ending} (h : Did w g v r e w') {B : Nat} {w0 : World} (hb : Below B w0 w) (hB : B ≤ w.heap.size) (hg : B ≤ g) : Below B w0 w' :=
  hb.grown h.2.2 hB fun k hk => by simp at hk; omega
end
theorem own_heap {w : World} {B g c : Nat} {l : List UInt8} (h : BOwn w B (some ⟨g, 0, none⟩) c l) (hc : c = l.length) : w.heap[g]? = some (.cells (l.map bv).toArray 5 (0, 0)) := by
  rcases h.2 with ⟨hv, h0⟩ | ⟨g', cap, cur, hv, hb, hg, hn, hm, hx⟩
  · simp at hv
  · simp only [Value.slice.injEq, Option.some.injEq, Addr.mk.injEq, true_and, and_true] at hv
    obtain ⟨rfl, rfl⟩ := hv
    subst hc
    rw [hg, ← hx.2, List.take_of_length_le (by simp; omega)]
theorem wcopy_src {w : World} {A : Option Addr} {l : List UInt8} (h : BRow w A l) (hl : 0 < (l.map bv).length) : ∃ ad, A = some ad ∧ ∀ j v, (l.map bv)[j]? = some v → w.cell? (ad.add j) = some v := by
  obtain ⟨b, o, rfl, _, hc⟩ := h hl
  refine ⟨_, rfl, fun j v hj => ?_⟩
  obtain ⟨h1, h2⟩ := List.getElem?_eq_some_iff.1 hj
  rw [Addr.add_lit, hc j h1, h2]
theorem splice_all {α : Type} (L cs : List α) (h : cs.length = L.length) : splice L 0 cs = cs := by
  simp [splice, h]
set_option maxRecDepth 20000 in
set_option maxHeartbeats 1000000 in
theorem wread_any (w : World) (A : Option Addr) (c : Nat) (l : List UInt8) (hr : BRow w A l) (hl : l.length ≤ 1000000) :
    Calls Tryz.prog 116 #[.slice A l.length c] w (RetRd w l) := by
  obtain ⟨n, hn⟩ : ∃ n, l.length = n := ⟨_, rfl⟩
  rw [hn] at hl ⊢
  have HN := Lib.hid hn
  clear hn
  go_enter Tryz.func116, Tryz.ntmps116
  go_wp2_with (first
    | (at_make; refine wpList_make_zeros rfl (.tmp 5) (.tmp 5) rfl .i64 .i64 n n n rfl rfl rfl rfl (by omega) (Nat.le_refl _) ?_; intro w1 ho1 hb1)
    | (refine wpList_copy_splice (o := ⟨some 9, _, _, _, _, _⟩) rfl (.tmp 7) (.tmp 8) 56 56 rfl 5 Tryz.underlying56 (by kernel_rfl) _ _ _ _ _ _ rfl rfl w.heap.size 0 _ 5 (own_heap ho1 (by simp)) (l.map bv) (by rw [List.length_map, HN.out]; simp) (fun h => ⟨rfl, wcopy_src (hr.below hb1) h⟩) (by simp [HN.out]) (one_bytes l) w.heap.size w hb1 (Nat.le_refl _) ?_; intro w2 hg2 hb2))
  go_ret
  have hg := hg2.out
  rw [splice_all _ _ (by simp [HN.out])] at hg
  have hlt : w.heap.size < w2.heap.size := (Array.getElem?_eq_some_iff.1 hg).1
  have hrow : BRow w2 (some ⟨w.heap.size, 0, none⟩) l := fun _ => ⟨w.heap.size, 0, rfl, hlt, fun j hj => by
    rw [cell_of_row w2 w.heap.size (0 + j) _ _ _ hg]
    simp at hj
    simp [hj]⟩
  refine ⟨w2.heap.size, rfl, ⟨some ⟨w.heap.size, 0, none⟩, n, ?_, (show URow w2 _ l from ⟨hrow, fun _ a ha => by obtain rfl := Option.some.inj ha; exact ⟨_, _, hg⟩⟩).alloc _, by simp [HN.out], by omega, by omega, fun a ha => by cases ha; exact Nat.le_refl _⟩, hb2.alloc (by omega) _⟩
  rw [HN.out]
  show (w2.heap.push _)[w2.heap.size]? = _
  simp
end Go.Proofs.YtcfoihihinijlaaGreat
end

section
namespace Go.Proofs.YtcfoihihinijlaaGreat
set_option linter.unusedSimpArgs false
set_option linter.unusedVariables false
open Go.RowKit
def ePart : Elem Part where
  e := 56
  t := 86
  sz := 1
  bytes := 24
  zero := .slice none 0 0
  code := fun p => [p.v]
  pos := by decide
  few := by decide
  len := fun _ => rfl
  one := by
    intro x u hu
    simp at hu
    subst hu
    rfl
  zsz := rfl
  info := by kernel_rfl
  under := Tryz.underlying86
def PartsX (S : Nat → Prop) (w : World) (ps : List Part) (L : List (List UInt8)) : Prop := ps.map (·.l) = L ∧ ∀ p ∈ ps, p.ok w ∧ (p.l ≠ [] → ∀ a, p.a = some a → ¬ S a.block ∧ isU8 w a.block)
theorem PartsX.keepB {S : Nat → Prop} {w w' : World} {ps : List Part} {L : List (List UInt8)} (h : PartsX S w ps L) (hs : w.heap.size ≤ w'.heap.size) (hk : ∀ g, isU8 w g → ¬ S g → w'.heap[g]? = w.heap[g]?) : PartsX S w' ps L :=
  ⟨h.1, fun p hp => by
    obtain ⟨⟨h1, h2⟩, h3⟩ := h.2 p hp
    refine ⟨⟨h1.keepB hs fun hl a ha => hk _ (h3 hl a ha).2 (h3 hl a ha).1, h2⟩, fun hl a ha => ⟨(h3 hl a ha).1, ?_⟩⟩
    obtain ⟨cur, fr, hc⟩ := (h3 hl a ha).2
    exact ⟨cur, fr, (hk _ (h3 hl a ha).2 (h3 hl a ha).1).trans hc⟩⟩
theorem PartsX.below {S : Nat → Prop} {w w' : World} {ps : List Part} {L : List (List UInt8)} (h : PartsX S w ps L) (hb : Below w.heap.size w w') : PartsX S w' ps L :=
  h.keepB hb.size fun _ hg _ => hb.block _ hg.lt
theorem PartsX.kept {S : Nat → Prop} {w w' : World} {ps : List Part} {L : List (List UInt8)} (h : PartsX S w ps L) (hk : Keeps w w' S) : PartsX S w' ps L :=
  h.keepB hk.size fun _ hg hS => hk.block _ hg.lt hS
theorem PartsX.keptE {α : Type} {E : Elem α} {S : Nat → Prop} {w w' : World} {B c : Nat} {A : Option Addr} {xs : List α} {ps : List Part} {L : List (List UInt8)} (h : PartsX S w ps L) (ho : EOwn E w B A c xs) (hE : E.e ≠ 5) (hg : w.grownBy w' (A.map (·.block))) : PartsX S w' ps L := by
  refine h.keepB hg.size fun g hu _ => hg.block g hu.lt ?_
  obtain ⟨cur, fr, hc⟩ := hu
  rcases ho.form with ⟨rfl, _⟩ | ⟨g', rfl, _, _, _, _, cur', hg'⟩
  · simp
  · simp only [Option.map_some, ne_eq, Option.some.injEq]
    rintro rfl
    rw [hc] at hg'
    simp only [Option.some.injEq, Obj.cells.injEq] at hg'
    exact hE hg'.2.1.symm
def RetParts (S : Nat → Prop) (w : World) (r : List (List UInt8) × Int) (e : Ending) (w' : World) : Prop := ∃ A c ps, e = .returned (.tuple #[.slice A (List.length ps) c, .int .i64 r.2]) ∧ EOwn ePart w' w.heap.size A c ps ∧ PartsX S w' ps r.1 ∧ Below w.heap.size w w'
def joinR (done : List (List UInt8)) (r : List (List UInt8) × Int) : List (List UInt8) × Int := if r.2 = 0 then (done ++ r.1, 0) else ([], r.2)
theorem joinR_nil (r : List (List UInt8) × Int) (h : r.2 = 0 ∨ r.1 = []) : joinR [] r = r := by
  unfold joinR
  split
  · rename_i h0; rw [← h0]; rfl
  · rename_i h0; rcases h with h | h
    · exact absurd h h0
    · rw [← h]
theorem records_err (f : Nat) : ∀ b, (Wal.parse f b).2 = 0 ∨ (Wal.parse f b).1 = [] := by
  induction f with
  | zero => intro b; exact .inl rfl
  | succ f ih =>
    intro b
    rw [Wal.parse]
    split
    · exact .inl rfl
    · split
      · exact .inr rfl
      · split
        · exact .inr rfl
        · split
          split
          · exact .inl rfl
          · exact .inr rfl
theorem records_nil : Wal.records [] = ([], 0) := rfl
theorem records_form {b : List UInt8} (hb : b ≠ []) (h : (Wire.take ⟨b, 0⟩).1.e ≠ 0 ∨ (Wire.take ⟨b, 0⟩).1.l.length < 4 ∨ (Wire.take ⟨b, 0⟩).1.l.length - 4 < (Wire.take ⟨b, 0⟩).2) : Wal.records b = ([], 7) := by
  obtain ⟨f, hf⟩ : ∃ f, b.length = f + 1 := ⟨b.length - 1, by have := List.length_pos_iff.2 hb; omega⟩
  rw [Wal.records, hf, Wal.parse, if_neg hb, if_pos h]
theorem records_sum {b : List UInt8} (hb : b ≠ []) (he : (Wire.take ⟨b, 0⟩).1.e = 0) (h4 : 4 ≤ (Wire.take ⟨b, 0⟩).1.l.length) (hn : (Wire.take ⟨b, 0⟩).2 ≤ (Wire.take ⟨b, 0⟩).1.l.length - 4)
    (h : Crc.le4 (Crc.sum (((Wire.take ⟨b, 0⟩).1.l.drop 4).take (Wire.take ⟨b, 0⟩).2)) ≠ (Wire.take ⟨b, 0⟩).1.l.take 4) : Wal.records b = ([], 20) := by
  obtain ⟨f, hf⟩ : ∃ f, b.length = f + 1 := ⟨b.length - 1, by have := List.length_pos_iff.2 hb; omega⟩
  rw [Wal.records, hf, Wal.parse, if_neg hb, if_neg (by omega), if_pos h]
theorem records_step {b : List UInt8} (hb : b ≠ []) (he : (Wire.take ⟨b, 0⟩).1.e = 0) (h4 : 4 ≤ (Wire.take ⟨b, 0⟩).1.l.length) (hn : (Wire.take ⟨b, 0⟩).2 ≤ (Wire.take ⟨b, 0⟩).1.l.length - 4)
    (h : Crc.le4 (Crc.sum (((Wire.take ⟨b, 0⟩).1.l.drop 4).take (Wire.take ⟨b, 0⟩).2)) = (Wire.take ⟨b, 0⟩).1.l.take 4) :
    Wal.records b = joinR [((Wire.take ⟨b, 0⟩).1.l.drop 4).take (Wire.take ⟨b, 0⟩).2] (Wal.records ((Wire.take ⟨b, 0⟩).1.l.drop (4 + (Wire.take ⟨b, 0⟩).2))) := by
  have hl := Wire.take_len ⟨b, 0⟩
  simp only at hl
  obtain ⟨f, hf⟩ : ∃ f, b.length = f + 1 := ⟨b.length - 1, by have := List.length_pos_iff.2 hb; omega⟩
  rw [Wal.records, hf, Wal.parse, if_neg hb, if_neg (by omega), if_neg (by simp [h]), Wal.records, Wal.parse_fuel _ f _ (Nat.le_refl _) (by simp; omega)]
  rfl
theorem joinR_joinR (done : List (List UInt8)) (s : List UInt8) (r : List (List UInt8) × Int) : joinR done (joinR [s] r) = joinR (done ++ [s]) r := by
  unfold joinR
  by_cases h : r.2 = 0
  · rw [if_pos h, if_pos rfl, if_pos h]; simp
  · rw [if_neg h, if_neg h, if_neg h]
structure Split (b : List UInt8) (e : Int) (r : List UInt8) (n : Nat) : Prop where
  eq : Wire.take ⟨b, 0⟩ = (⟨r, e⟩, n)
theorem split_any (b : List UInt8) : ∃ e r n, Split b e r n := ⟨_, _, _, ⟨rfl⟩⟩
section
variable {b r : List UInt8} {e : Int} {n : Nat} (h : Split b e r n)
include h
theorem Split.len : r.length ≤ b.length := by
  have := Wire.take_len ⟨b, 0⟩
  rw [h.eq] at this; exact this
theorem Split.rest (he : e = 0) : b.drop (b.length - r.length) = r := by
  have h1 := Wal.take_one (b := b) (by rw [h.eq]; exact he)
  rw [h.eq] at h1
  simp only at h1
  rw [← h1]
  simp
theorem Split.front (he : e = 0) (h4 : 4 ≤ r.length) (hn : n ≤ r.length - 4) :
    (Wal.frame ((r.drop 4).take n) = b.take (b.length - r.length + 4 + n)) ↔ Crc.le4 (Crc.sum ((r.drop 4).take n)) = r.take 4 := by
  have := Wal.frame_front (b := b) (by rw [h.eq]; exact he) (by rw [h.eq]; exact h4) (by rw [h.eq]; exact hn)
  rw [h.eq] at this; exact this
theorem Split.form (hb : b ≠ []) (hx : e ≠ 0 ∨ r.length < 4 ∨ r.length - 4 < n) : Wal.records b = ([], 7) := records_form hb (by rw [h.eq]; exact hx)
theorem Split.bad (hb : b ≠ []) (he : e = 0) (h4 : 4 ≤ r.length) (hn : n ≤ r.length - 4) (hx : Wal.frame ((r.drop 4).take n) ≠ b.take (b.length - r.length + 4 + n)) : Wal.records b = ([], 20) := by
  have := records_sum hb (by rw [h.eq]; exact he) (by rw [h.eq]; exact h4) (by rw [h.eq]; exact hn)
  rw [h.eq] at this
  exact this (fun hq => hx ((h.front he h4 hn).2 hq))
theorem Split.step (hb : b ≠ []) (he : e = 0) (h4 : 4 ≤ r.length) (hn : n ≤ r.length - 4) (hx : Wal.frame ((r.drop 4).take n) = b.take (b.length - r.length + 4 + n)) : Wal.records b = joinR [(r.drop 4).take n] (Wal.records (r.drop (4 + n))) := by
  have := records_step hb (by rw [h.eq]; exact he) (by rw [h.eq]; exact h4) (by rw [h.eq]; exact hn)
  rw [h.eq] at this
  exact this ((h.front he h4 hn).1 hx)
end
theorem PartsX.snoc {S : Nat → Prop} {w : World} {ps : List Part} {L : List (List UInt8)} (h : PartsX S w ps L) {p : Part} (hp : p.ok w) (ha : ∀ a, p.a = some a → ¬ S a.block ∧ isU8 w a.block) : PartsX S w (ps ++ [p]) (L ++ [p.l]) := by
  refine ⟨by rw [List.map_append, h.1]; rfl, fun q hq => ?_⟩
  rcases List.mem_append.1 hq with h1 | h1
  · exact h.2 q h1
  · simp only [List.mem_singleton] at h1
    subst h1
    exact ⟨hp, fun _ => ha⟩
theorem ret_noparts {S : Nat → Prop} {w w' : World} {R : List (List UInt8) × Int} {k : Int} (h : R = ([], k)) (hb : Below w.heap.size w w') : RetParts S w R (.returned (.tuple #[.slice none 0 0, .int .i64 k])) w' := by
  rw [h]
  exact ⟨none, 0, [], rfl, EOwn.nil _ _, ⟨rfl, fun p hp => by cases hp⟩, hb⟩
theorem joinR_err {done : List (List UInt8)} {k : Int} (hk : k ≠ 0) : joinR done ([], k) = ([], k) := by unfold joinR; rw [if_neg hk]
set_option maxRecDepth 20000 in
set_option maxHeartbeats 2000000 in
theorem parse_any (S : Nat → Prop) (w : World) (hS : ∀ i, S i → i < w.heap.size) (A : Option Addr) (c : Nat) (l : List UInt8) (hr : BRow w A l) (hl : l.length ≤ 1000000) (hc : l.length ≤ c) (hcm : c ≤ 9223372036854775807) :
    Calls Tryz.prog 157 #[.slice A l.length c] w (RetParts S w (Wal.records l)) := by
  obtain ⟨R, hR⟩ : ∃ R, R = Wal.records l := ⟨_, rfl⟩
  have H0 : Hid (BRow w A l ∧ R = joinR [] (Wal.records l)) := ⟨hr, by rw [hR]; exact (joinR_nil _ (records_err _ _)).symm⟩
  have HS := Lib.hid hS
  rw [← hR]
  clear hr hS hR
  go_enter Tryz.func157, Tryz.ntmps157
  go_wp2_with fail
  go_loopw [0, 4] (fun bv ov wr => ∃ (b : List UInt8) (A1 : Option Addr) (c1 : Nat) (done : List (List UInt8)) (ps : List Part) (Ao : Option Addr) (co : Nat), bv = .slice A1 b.length c1 ∧ ov = .slice Ao ps.length co ∧ b.length ≤ l.length ∧ b.length ≤ c1 ∧ c1 ≤ 9223372036854775807 ∧ ps.length + b.length ≤ l.length ∧
    Hid (BRow w A1 b ∧ R = joinR done (Wal.records b) ∧ EOwn ePart wr w.heap.size Ao co ps ∧ PartsX S wr ps done ∧ Below w.heap.size w wr)) (fun bv _ _ => match bv with | .slice _ n _ => n | _ => 0)
  case atStart => exact ⟨l, A, c, [], [], none, 0, rfl, rfl, Nat.le_refl _, hc, hcm, by simp, H0.out.1, H0.out.2, EOwn.nil _ _, ⟨rfl, fun p hp => by cases hp⟩, Below.refl _ _⟩
  case round =>
    obtain ⟨b, A1, c1, done, ps, Ao, co, rfl, rfl, hbl, hbc, hc1, hpl, HJ⟩ := hrel
    clear H0
    rcases Nat.eq_zero_or_pos b.length with h0 | h0
    · obtain rfl := List.eq_nil_of_length_eq_zero h0
      go_wp2_with fail
      go_ret2
      have e : R = (done, 0) := by rw [HJ.out.2.1, records_nil]; simp [joinR]
      rw [e]
      exact ⟨Ao, co, ps, rfl, HJ.out.2.2.1, HJ.out.2.2.2.1, HJ.out.2.2.2.2⟩
    · obtain ⟨e, r, n, hsp⟩ := split_any b
      have hrl := hsp.len
      have HSP := Lib.hid hsp
      have HNE : Hid (b ≠ []) := by rintro rfl; simp at h0
      have hbpos : (0 : Int) < (b.length : Int) := by omega
      have HRD := Lib.hid (wread_any wr A1 c1 b (HJ.out.1.below HJ.out.2.2.2.2) (by omega))
      clear hsp
      go_wp2_with fail
      refine HRD.out.mono ?_
      rintro e1 w1 ⟨g, rfl, hg, hb1⟩
      have hnum := rnum_any w1 g _ hg.rd
      rw [HSP.out.eq] at hnum
      have HNU := Lib.hid hnum
      have HG := Lib.hid (And.intro hg hb1)
      clear HRD hnum hg hb1
      go_wp2_with fail
      refine HNU.out.mono ?_
      rintro e2 w2 hd
      have hbl2 := hd.below HG.out.2 HG.out.2.size HG.out.1.ge
      obtain ⟨rfl, hrd, -⟩ := hd
      have HLF := Lib.hid (rleft_any w2 g _ hrd)
      have HER := Lib.hid (rerr_any w2 g _ hrd)
      have HB2 := Lib.hid hbl2
      clear HNU HG hrd hbl2
      simp only at HLF HER
      go_wp2_with fail
      refine HLF.out.mono ?_
      rintro e3 w3 ⟨rfl, rfl⟩
      have hsub : (0 : Int) ≤ (b.length : Int) - (r.length : Int) := by omega
      go_wp2_with fail
      refine HER.out.mono ?_
      rintro e3 w3 ⟨rfl, rfl⟩
      have HB : Hid (Below w.heap.size w w2) := HJ.out.2.2.2.2.trans (HB2.out.mono HJ.out.2.2.2.2.size)
      rcases Classical.em (e = 0) with he | he
      · subst he
        go_wp2_with fail
        refine HLF.out.mono ?_
        rintro e3 w3 ⟨rfl, rfl⟩
        rcases Classical.em (4 ≤ r.length) with h4 | h4
        · have hr4 : ¬ (r.length : Int) < 4 := by omega
          have hr40 : (0 : Int) ≤ (r.length : Int) - 4 := by omega
          go_wp2_with fail
          refine HLF.out.mono ?_
          rintro e3 w3 ⟨rfl, rfl⟩
          rcases Classical.em (n ≤ r.length - 4) with hn | hn
          · have hn1 : ¬ ((r.length : Int) - 4 < (n : Int)) := by omega
            obtain ⟨As, cs, hsl, hrs, hcs1, hcs2, -⟩ := cut_lh HJ.out.1 b.length c1 ((b.length : Int) - (r.length : Int) + 4) ((b.length : Int) - (r.length : Int) + 4 + (n : Int)) (b.length - r.length + 4) n (by omega) (by omega) (by omega)
            have HRS : Hid (BRow w As ((r.drop 4).take n) ∧ n ≤ cs) := by
              refine ⟨?_, hcs1⟩
              have e := HSP.out.rest rfl
              rw [← List.drop_drop, e] at hrs
              exact hrs
            have hsn : ((r.drop 4).take n).length = n := by simp; omega
            have HSN := Lib.hid hsn
            have HFR := Lib.hid (HSP.out.bad HNE.out rfl h4 hn)
            have HST := Lib.hid (HSP.out.step HNE.out rfl h4 hn)
            clear hrs hsn
            generalize (r.drop 4).take n = s at HRS HSN HFR HST
            have hend : ((b.length : Int) - (r.length : Int) + 4 + (n : Int)).toNat = b.length - r.length + 4 + n := by omega
            go_wp2_with fail
            clear hsl
            have hfr := frame_any w2.drew As cs s ((HRS.out.1.below HB.out).drew) (by rw [HSN.out]; omega)
            rw [HSN.out] at hfr
            have HFC := Lib.hid hfr
            clear hfr
            have htl : (b.take (b.length - r.length + 4 + n)).length = b.length - r.length + 4 + n := by rw [List.length_take]; omega
            have HBT : Hid (BRow w A1 (b.take (b.length - r.length + 4 + n))) := HJ.out.1.take _
            have hcv1 := cv_any (c := c1) ((HBT.out.below HB.out).drew) htl
            have HTL := Lib.hid htl
            clear htl
            refine wp_region_plan (.take 0 (.take 3 (.take 4 (.take 5 (.take 6 (.run 1 [3, 4, 5, 6] (.take 2 (.take 7 .fin)))))))) (by kernel_rfl) (by kernel_rfl) (by kernel_rfl) (by kernel_rfl) ?_
            simp only [walk, again, sel, List.getElem?_toArray, List.getElem?_cons_zero, List.getElem?_cons_succ]
            repeat ((with_reducible intro Z hZ); go_wp2_with (fail))
            refine HFC.out.mono ?_
            rintro e4 w4 ⟨A4, c4, rfl, ho4, hb4⟩
            have HB4 : Hid (Below w.heap.size w w4) := HB.out.trans ((Below.refl _ w2).drewR.trans hb4 |>.mono HB.out.size)
            have HO4 : Hid (Below wr.heap.size wr w4) := HB2.out.trans ((Below.refl _ w2).drewR.trans hb4 |>.mono HB2.out.size)
            have hcv1 := cv_any (c := c1) (HBT.out.below HB4.out) HTL.out
            have hcv2 := run_string_bytes w4 c4 ho4.row
            unfold txt at hcv2
            clear ho4 hb4 HLF HER HFC HBT
            rcases Classical.em (Wal.frame s = b.take (b.length - r.length + 4 + n)) with hq | hq
            · have hq1 : (Wal.frame s == b.take (b.length - r.length + 4 + n)) = true := by simpa using hq
              have HE2 : Hid (R = joinR (done ++ [s]) (Wal.records (r.drop (4 + n)))) := by show _ = _; rw [HJ.out.2.1, HST.out hq, joinR_joinR]
              clear HFR HST hq
              have hcl := clone_any w4 As cs s (HRS.out.1.below HB4.out) (by rw [HSN.out]; omega)
              rw [HSN.out] at hcl
              have HCL := Lib.hid hcl
              clear hcl
              have hdr : b.drop (b.length - r.length + 4 + n) = r.drop (4 + n) := by rw [Nat.add_assoc, ← List.drop_drop, HSP.out.rest rfl]
              have HDR := Lib.hid hdr
              clear hdr
              obtain ⟨An, cn, hsl2, hrn, hcn1, hcn2, -⟩ := cut_l HJ.out.1 c1 ((b.length : Int) - (r.length : Int) + 4 + (n : Int)) (b.length - r.length + 4 + n) (by omega) (by omega) hbc
              rw [HDR.out] at hrn
              have HRN := Lib.hid hrn
              have hdl : (r.drop (4 + n)).length = b.length - (b.length - r.length + 4 + n) := by rw [List.length_drop]; omega
              have HDL := Lib.hid hdl
              clear hrn hdl
              go_wp2_with fail
              repeat ((with_reducible intro Z hZ); go_wp2_with (fail))
              refine HCL.out.mono ?_
              rintro e5 w5 ⟨A5, c5, rfl, ho5, hb5⟩
              have HB5 : Hid (Below w.heap.size w w5) := HB4.out.trans (hb5.mono HB4.out.size)
              have HP5 : Hid (EOwn ePart w5 w.heap.size Ao co ps ∧ PartsX S w5 (ps ++ [⟨A5, c5, s⟩]) (done ++ [s])) := by
                refine ⟨(HJ.out.2.2.1.below HO4.out).below hb5, ((HJ.out.2.2.2.1.below HO4.out).below hb5).snoc (p := ⟨A5, c5, s⟩) ⟨ho5.row, by show s.length ≤ _; rw [HSN.out]; omega⟩ fun a ha => ⟨fun hs => ?_, ho5.u8 a ha⟩⟩
                have h1 := (ho5.block a ha).1
                have h2 := HS.out _ hs
                have h3 := HB4.out.size
                omega
              clear ho5 hb5 HCL hcv1 hcv2
              go_wp2_with (at_builtin; refine wpList_append_elems ePart rfl (.tmp 56) (.tmp 59) rfl _ rfl (HP5.out.1.alloc _) rfl _ rfl (ERow.lit ePart w5 ⟨A5, c5, s⟩ _ rfl _ rfl) rfl (by simp; omega) (by have := HB5.out.size; simp; omega) ?_; intro A6 c6 w6 ho6 hb6 hg6 _; have HP6 := Lib.hid ((HP5.out.2.below (Below.alloc1 w5 _)).keptE (HP5.out.1.alloc _) (by decide) hg6); clear hg6)
              have HB6 : Hid (Below w.heap.size w w6) := (HB5.out.alloc HB5.out.size _).trans hb6
              go_roundw
              case rel => exact ⟨r.drop (4 + n), An, cn, done ++ [s], ps ++ [⟨A5, c5, s⟩], A6, c6, by rw [HDL.out], by simp, by rw [HDL.out]; omega, by rw [HDL.out]; omega, by omega, by simp [HDL.out]; omega, HRN.out, HE2.out, ho6, HP6.out, HB6.out⟩
              case measure => simp; omega
            · have hq1 : (Wal.frame s == b.take (b.length - r.length + 4 + n)) = false := by simpa using hq
              have HE2 : Hid (R = ([], 20)) := by show _ = _; rw [HJ.out.2.1, HFR.out hq, joinR_err (by decide)]
              clear HFR HST hq
              go_wp2_with fail
              repeat ((with_reducible intro Z hZ); go_wp2_with (fail))
              go_wp2_with fail
              go_ret2
              exact ret_noparts HE2.out HB4.out
          · have HE := HSP.out.form HNE.out (.inr (.inr (by omega)))
            have HE2 : Hid (R = ([], 7)) := by show _ = _; rw [HJ.out.2.1, HE, joinR_err (by decide)]
            have hn1 : ((r.length : Int) - 4 < (n : Int)) := by omega
            clear HE
            go_wp2_with fail
            go_ret2
            exact ret_noparts HE2.out HB.out
        · have HE := HSP.out.form HNE.out (.inr (.inl (by omega)))
          have HE2 : Hid (R = ([], 7)) := by show _ = _; rw [HJ.out.2.1, HE, joinR_err (by decide)]
          have hr4 : (r.length : Int) < 4 := by omega
          clear HE
          go_wp2_with fail
          go_ret2
          exact ret_noparts HE2.out HB.out
      · have he1 : (e != 0) = true := by simpa using he
        have HE := HSP.out.form HNE.out (.inl he)
        have HE2 : Hid (R = ([], 7)) := by show _ = _; rw [HJ.out.2.1, HE, joinR_err (by decide)]
        clear HE
        go_wp2_with fail
        go_ret2
        exact ret_noparts HE2.out HB.out
end Go.Proofs.YtcfoihihinijlaaGreat
end

section
namespace Go.Proofs.YtcfoihihinijlaaGreat
set_option linter.unusedSimpArgs false
set_option linter.unusedVariables false
open Go.RowKit
theorem wpList_copy_bytes0 {w : World} {B c c' : Nat} {A A' : Option Addr} {l m : List UInt8} {ops : Array Oper} {rest : List Oper} {o : Oper} {a : Act} {Q : Exit → Act → World → Prop} (hgd : o.guard = none) (d s : Operand)
    (hop : o.op = .call { callee := .builtin .copy, args := #[d, s], argTypes := #[56, 56] }) (n k : Nat) (hd : a.eval d = .slice A n c) (hs : a.eval s = .slice A' k c') (hn : n = l.length) (hk : k = m.length)
    (ho : BOwn w B A c l) (hr : BRow w A' m)
    (h : ∀ w', BOwn w' B A c (m.take l.length ++ l.drop (m.take l.length).length) → w.grownBy w' (A.map (·.block)) → wpList Tryz.prog ops Q rest (a.put o.dst (goInt (m.take l.length).length)) w') : wpList Tryz.prog ops Q (o :: rest) a w := by
  subst hn hk
  have hmin : Nat.min m.length l.length = (m.take l.length).length := by rw [List.length_take, Nat.min_comm]
  have htl : (m.take l.length).length ≤ l.length := by rw [List.length_take]; omega
  have hr2 := hr.take l.length
  generalize m.take l.length = m2 at hmin htl hr2 h
  cases hm0 : m2 with
  | nil =>
    subst hm0
    refine wpList_copy_nothing hgd d s _ _ hop 5 Tryz.underlying56 (by kernel_rfl) A A' _ _ _ _ hd hs hmin ?_
    exact h w (by simpa using ho) (World.grownBy.refl w _)
  | cons x m' =>
    have hpos : 0 < m2.length := by rw [hm0]; simp
    obtain ⟨b, o', rfl, hlt, hc⟩ := hr2 (by simpa using hpos)
    rcases ho.form with ⟨_, _, rfl⟩ | ⟨g, rfl, _, _, _, _⟩
    · rw [List.length_nil] at htl; omega
    · have hrun := run_copy_cells (P := Tryz.prog) w 56 56 o.type 5 g 0 l.length c ⟨b, o', none⟩ m.length c' (m2.map bv) Tryz.underlying56 (by kernel_rfl) (by rw [List.length_map, hmin]) (fun j u hu => by
          obtain ⟨hj, he⟩ := List.getElem?_eq_some_iff.1 hu
          rw [Addr.add_lit, hc j hj, he]) (fun j hj => by
          rw [Nat.zero_add, ho.cell (by simp at hj; omega)]; rfl) (fun j hj => ho.free _) (one_bytes m2)
      refine wpList_runv hgd (exec_copy hop hd hs hrun) ?_
      rw [List.length_map]
      refine h _ ?_ (grown_setCells w g 0 _)
      exact BOwn.setCells m2 [] l ho htl
theorem wpList_copy_bytes {w : World} {B c c' : Nat} {A A' : Option Addr} {l m : List UInt8} {ops : Array Oper} {rest : List Oper} {o : Oper} {a : Act} {Q : Exit → Act → World → Prop} (hgd : o.guard = none) (d s : Operand)
    (hop : o.op = .call { callee := .builtin .copy, args := #[d, s], argTypes := #[56, 56] }) (n k : Nat) (hd : a.eval d = .slice A n c) (hs : a.eval s = .slice A' k c') (hn : n = l.length) (hk : k = m.length)
    (ho : BOwn w B A c l) (hr : BRow w A' m) (hm : m.length ≤ l.length)
    (h : ∀ w', BOwn w' B A c (m ++ l.drop m.length) → w.grownBy w' (A.map (·.block)) → wpList Tryz.prog ops Q rest (a.put o.dst (goInt m.length)) w') : wpList Tryz.prog ops Q (o :: rest) a w := by
  have e : m.take l.length = m := List.take_of_length_le hm
  refine wpList_copy_bytes0 hgd d s hop n k hd hs hn hk ho hr ?_
  rw [e]
  exact h
end Go.Proofs.YtcfoihihinijlaaGreat
end

section
namespace Go.Proofs.YtcfoihihinijlaaGreat
set_option linter.unusedSimpArgs false
set_option linter.unusedVariables false
open Go.RowKit
section
variable (z x y : B512)
end
end Go.Proofs.YtcfoihihinijlaaGreat
end

section
namespace Go.Proofs.YtcfoihihinijlaaGreat
set_option linter.unusedSimpArgs false
set_option linter.unusedVariables false
open Go.RowKit Go.Deep Go.WideShapes Go.ChangeShapes
def i64B (n : Int) : Prop := -9223372036854775808 ≤ n ∧ n ≤ 9223372036854775807
def DF.Fine (f : DF) : Prop := f.keep < 18446744073709551616 ∧ i64B f.torn
section
variable {H : Type} {enc : TypeId × Value → H} {w : World} {base : Nat} {spare : Nat → Bool} {held : Bool} {fuel : Nat} {cs : List Value} {x : DataW H × List MemPlace}
end
end Go.Proofs.YtcfoihihinijlaaGreat
end

section
namespace Go.Proofs.YtcfoihihinijlaaGreat
set_option linter.unusedSimpArgs false
set_option linter.unusedVariables false
open Go.RowKit
end Go.Proofs.YtcfoihihinijlaaGreat
end

section
namespace Go.Proofs.YtcfoihihinijlaaGreat
set_option linter.unusedSimpArgs false
set_option linter.unusedVariables false
open Go.RowKit
theorem strike_none {d : DS} (h : d.falls = []) : d.strike = ({ d with changes := d.changes + 1 }, 0) := by
  unfold DS.strike; rw [h]; rfl
theorem write_plain {d : DS} (hf : d.falls = []) (hd : d.down = false) {i : Nat} (hi : i < d.blocks.length) {l : List UInt8} (hl : l.length = 512) :
    d.write (i : Int) l = ({ d with blocks := d.blocks.set i { (d.blocks.getD i default) with now := ⟨l, hl⟩ }, pending := d.pending ++ [⟨(i : Int), ⟨l, hl⟩⟩], changes := d.changes + 1 }, 0) := by
  have hw : d.why (i : Int) = 0 := by unfold DS.why; rw [if_neg (by simp [hd]), if_neg (by omega)]
  unfold DS.write
  rw [if_neg (by simp [hw]), dif_pos hl]
  unfold DS.put
  rw [strike_none (by exact hf), Int.toNat_natCast]
theorem flush_plain {d : DS} (hf : d.falls = []) (hd : d.down = false) : d.flush = (({ d with changes := d.changes + 1 } : DS).settled, 0) := by
  unfold DS.flush
  rw [if_neg (by simp [hd]), strike_none hf, if_neg (by simp)]
end Go.Proofs.YtcfoihihinijlaaGreat
end

section
namespace Go.Proofs.YtcfoihihinijlaaGreat
set_option linter.unusedSimpArgs false
set_option linter.unusedVariables false
open Go.RowKit
section
variable {w0 w w' : World} {B : Nat} {k : KB} {d : DS} {n g : Nat} {T : TypeId} {cs : List Value}
theorem EOwn.other {α : Type} {E : Elem α} {c : Nat} {A : Option Addr} {L : List α} (h : EOwn E w B A c L) (hb : Blk w g T cs) (hne : T ≠ E.e) (hg : w.grownBy w' (some g)) : EOwn E w' B A c L :=
  h.keep fun a ha => by
    obtain ⟨cur, hk⟩ := h.kind a ha
    refine hg.block _ (h.block a ha).2 ?_
    simp only [ne_eq, Option.some.injEq]
    rintro rfl
    rw [hb] at hk
    simp only [Option.some.injEq, Obj.cells.injEq] at hk
    exact hne hk.2.1
def notDisk (T : TypeId) : Prop := T ≠ 136 ∧ T ≠ eDB.e ∧ T ≠ eDW.e ∧ T ≠ eDF.e
theorem DiskAt.other (h : DiskAt w B k d) (hb : Blk w g T cs) (hT : notDisk T) (hg : w.grownBy w' (some g)) : DiskAt w' B k d := by
  obtain ⟨t1, t2, t3, t4⟩ := hT
  obtain ⟨⟨cb, np, cp, nf, cf, Ap, Af, h1, h2, h3, h4, h5, h6, h7, h8, h9, h10, h11⟩, lo⟩ := h
  have hne : k.gd ≠ g := by
    rintro rfl
    unfold Blk at hb h6
    rw [hb] at h6
    simp only [Option.some.injEq, Obj.cells.injEq] at h6
    exact t1 h6.2.1
  exact ⟨⟨cb, np, cp, nf, cf, Ap, Af, h1, h2, h3, h4, h5, h6.grown hg (by simpa using hne), h7.other hb t2 hg, h8.other hb t3 hg, h9.other hb t4 hg, h10, h11⟩, lo⟩
theorem DiskAt.notOwn (h : DiskAt w B k d) (hb : Blk w g T cs) (hT : notDisk T) : ¬ k.own g := by
  obtain ⟨t1, t2, t3, t4⟩ := hT
  obtain ⟨⟨cb, np, cp, nf, cf, Ap, Af, h1, h2, h3, h4, h5, h6, h7, -⟩, lo⟩ := h
  rintro (rfl | rfl)
  · unfold Blk at hb h6
    rw [hb] at h6
    simp only [Option.some.injEq, Obj.cells.injEq] at h6
    exact t1 h6.2.1
  · obtain ⟨cur, hk⟩ := h7.kind _ rfl
    rw [hb] at hk
    simp only [Option.some.injEq, Obj.cells.injEq] at hk
    exact t2 hk.2.1
theorem DL.other (h : DL w0 w k d n) (hb : Blk w g T cs) (hT : notDisk T) (hg : w.grownBy w' (some g)) (hlo : w0.heap.size ≤ g) : DL w0 w' k d n :=
  ⟨h.at_.other hb hT hg, h.good, h.ch, h.pe, (Keeps.of_grown hg).below h.bel h.bel.size (fun i hi => by subst hi; exact hlo)⟩
end
section
variable {w0 w w' : World} {k : KB} {d d' : DS} {n n' g : Nat} {ws : List (List UInt8)}
end
section
variable {w0 w w' : World} {k : KB} {d d' : DS} {n n' g q : Nat} {ws : List (List UInt8)} {ts : List Bool}
end
end Go.Proofs.YtcfoihihinijlaaGreat
end

section
namespace Go.Proofs.YtcfoihihinijlaaGreat
set_option linter.unusedSimpArgs false
set_option linter.unusedVariables false
open Go.RowKit
def logCells (k : KB) (l : LS) (A : Option Addr) (c : Nat) : List Value :=
  [.pointer (some ⟨k.gd, 0, none⟩), .int .i64 (l.at_ : Nat), .int .i64 (l.room : Nat), .int .u64 (l.seq : Nat), .slice A l.data.length c, .int .i64 (l.count : Nat), .bool l.broken]
theorem nd_log : notDisk 192 := by refine ⟨?_, ?_, ?_, ?_⟩ <;> decide
structure BRowX (S : Nat → Prop) (w : World) (A : Option Addr) (l : List UInt8) : Prop where
  row : BRow w A l
  off : l ≠ [] → ∀ a, A = some a → ¬ S a.block ∧ isU8 w a.block
theorem BRowX.keepB {S : Nat → Prop} {w w' : World} {A : Option Addr} {l : List UInt8} (h : BRowX S w A l) (hs : w.heap.size ≤ w'.heap.size) (hk : ∀ g, isU8 w g → ¬ S g → w'.heap[g]? = w.heap[g]?) : BRowX S w' A l :=
  ⟨h.row.keepB hs fun hl a ha => hk _ (h.off hl a ha).2 (h.off hl a ha).1, fun hl a ha => by
    obtain ⟨h1, cur, fr, h2⟩ := h.off hl a ha
    exact ⟨h1, cur, fr, (hk _ ⟨cur, fr, h2⟩ h1).trans h2⟩⟩
theorem BRowX.below {S : Nat → Prop} {w w' : World} {A : Option Addr} {l : List UInt8} (h : BRowX S w A l) (hb : Below w.heap.size w w') : BRowX S w' A l := h.keepB hb.size fun _ hg _ => hb.block _ hg.lt
theorem BRowX.kept {S : Nat → Prop} {w w' : World} {A : Option Addr} {l : List UInt8} (h : BRowX S w A l) (hk : Keeps w w' S) : BRowX S w' A l := h.keepB hk.size fun _ hg hS => hk.block _ hg.lt hS
theorem BRowX.blk {S : Nat → Prop} {w w' : World} {A : Option Addr} {l : List UInt8} {g : Nat} {T : TypeId} {cs : List Value} (h : BRowX S w A l) (hb : Blk w g T cs) (hT : T ≠ 5) (hg : w.grownBy w' (some g)) : BRowX S w' A l :=
  h.keepB hg.size fun k hk _ => hg.block k hk.lt (by
    simp only [ne_eq, Option.some.injEq]
    rintro rfl
    obtain ⟨cur, fr, hc⟩ := hk
    rw [hb] at hc
    simp only [Option.some.injEq, Obj.cells.injEq] at hc
    exact hT hc.2.1)
theorem BRowX.nil (S : Nat → Prop) (w : World) (A : Option Addr) : BRowX S w A [] := ⟨BRow.nil, fun h => absurd rfl h⟩
theorem BRowX.own {S : Nat → Prop} {w : World} {B c : Nat} {A : Option Addr} {l : List UInt8} (h : BOwn w B A c l) (hS : ∀ i, S i → i < B) : BRowX S w A l :=
  ⟨h.row, fun _ a ha => ⟨fun hs => by have := (h.block a ha).1; have := hS _ hs; omega, h.u8 a ha⟩⟩
structure LogAt (w : World) (B : Nat) (k : KB) (g : Nat) (l : LS) : Prop where
  ex : ∃ A c, Blk w g 192 (logCells k l A c) ∧ BRowX k.own w A l.data ∧ l.data.length ≤ c ∧ c ≤ maxLen
  lo : B ≤ g
  own : ¬ k.own g
  good : LGood l
section
variable {w w' : World} {B : Nat} {k : KB} {g : Nat} {l : LS}
theorem LogAt.below (h : LogAt w B k g l) (hb : Below w.heap.size w w') : LogAt w' B k g l := by
  obtain ⟨⟨A, c, h1, h2, h3⟩, lo, own, gd⟩ := h
  exact ⟨⟨A, c, h1.below hb, h2.below hb, h3⟩, lo, own, gd⟩
theorem LogAt.kept (h : LogAt w B k g l) (hk : Keeps w w' k.own) : LogAt w' B k g l := by
  obtain ⟨⟨A, c, h1, h2, h3⟩, lo, own, gd⟩ := h
  exact ⟨⟨A, c, h1.kept hk own, h2.kept hk, h3⟩, lo, own, gd⟩
theorem LogAt.cells (h : LogAt w B k g l) : ∃ A c, (w.cell? ⟨g, 0, none⟩ = some (.pointer (some ⟨k.gd, 0, none⟩)) ∧ w.cell? ⟨g, 1, none⟩ = some (.int .i64 (l.at_ : Nat)) ∧ w.cell? ⟨g, 2, none⟩ = some (.int .i64 (l.room : Nat)) ∧ w.cell? ⟨g, 3, none⟩ = some (.int .u64 (l.seq : Nat)) ∧
    w.cell? ⟨g, 4, none⟩ = some (.slice A l.data.length c) ∧ w.cell? ⟨g, 5, none⟩ = some (.int .i64 (l.count : Nat)) ∧ w.cell? ⟨g, 6, none⟩ = some (.bool l.broken)) ∧
    (w.frozen? ⟨g, 3, none⟩ = false ∧ w.frozen? ⟨g, 4, none⟩ = false ∧ w.frozen? ⟨g, 5, none⟩ = false ∧ w.frozen? ⟨g, 6, none⟩ = false ∧ g < w.heap.size) ∧ BRowX k.own w A l.data ∧ l.data.length ≤ c ∧ c ≤ maxLen := by
  obtain ⟨⟨A, c, h1, h2, h3⟩, lo, own, gd⟩ := h
  exact ⟨A, c, ⟨h1.cell 0, h1.cell 1, h1.cell 2, h1.cell 3, h1.cell 4, h1.cell 5, h1.cell 6⟩, ⟨h1.free 3, h1.free 4, h1.free 5, h1.free 6, h1.lt⟩, h2, h3⟩
theorem LogAt.setSeq (h : LogAt w B k g l) {s : Nat} (hs : s ≤ Wal.last62) : LogAt (w.setCell ⟨g, 3, none⟩ (.int .u64 (s : Nat))) B k g { l with seq := s } := by
  obtain ⟨⟨A, c, h1, h2, h3⟩, lo, own, gd⟩ := h
  exact ⟨⟨A, c, h1.set 3 _, h2.blk h1 (by decide) (grown_store _ _ _ _), h3⟩, lo, own, ⟨gd.at_, gd.room, hs, gd.data, gd.count⟩⟩
theorem LogAt.setBroken (h : LogAt w B k g l) : LogAt (w.setCell ⟨g, 6, none⟩ (.bool true)) B k g { l with broken := true } := by
  obtain ⟨⟨A, c, h1, h2, h3⟩, lo, own, gd⟩ := h
  exact ⟨⟨A, c, h1.set 6 _, h2.blk h1 (by decide) (grown_store _ _ _ _), h3⟩, lo, own, ⟨gd.at_, gd.room, gd.seq, gd.data, gd.count⟩⟩
theorem LogAt.setData (h : LogAt w B k g l) {A : Option Addr} {c : Nat} {b : List UInt8} {n : Nat} (hb : BRowX k.own w A b) (hc : b.length ≤ c) (hm : c ≤ maxLen) (hr : b.length ≤ l.room) (hn : n ≤ b.length) :
    LogAt ((w.setCell ⟨g, 4, none⟩ (.slice A b.length c)).setCell ⟨g, 5, none⟩ (.int .i64 (n : Nat))) B k g { l with data := b, count := n } := by
  obtain ⟨⟨A', c', h1, h2, h3⟩, lo, own, gd⟩ := h
  have hg : w.grownBy ((w.setCell ⟨g, 4, none⟩ (.slice A b.length c)).setCell ⟨g, 5, none⟩ (.int .i64 (n : Nat))) (some g) := (grown_store _ _ _ _).set_ ⟨g, 5, none⟩ rfl _
  exact ⟨⟨A, c, (h1.set 4 _).set 5 _, hb.blk h1 (by decide) hg, hc, hm⟩, lo, own, ⟨gd.at_, gd.room, gd.seq, hr, hn⟩⟩
theorem LogAt.blk (h : LogAt w B k g l) : ∃ cs, Blk w g 192 cs := by
  obtain ⟨⟨A, c, h1, _⟩, _⟩ := h
  exact ⟨_, h1⟩
end
structure WL (w0 w : World) (k : KB) (g : Nat) (d : DS) (l : LS) (n : Nat) : Prop where
  dl : DL w0 w k d n
  log : LogAt w w0.heap.size k g l
def ownL (k : KB) (g : Nat) (i : Nat) : Prop := k.own i ∨ i = g
section
variable {w0 w w' : World} {k : KB} {g n : Nat} {d : DS} {l : LS}
theorem WL.below (h : WL w0 w k g d l n) (hb : Below w.heap.size w w') : WL w0 w' k g d l n := ⟨h.dl.below hb, h.log.below hb⟩
theorem WL.disk {d' : DS} {n' : Nat} (h : WL w0 w k g d l n) (hd : DL w0 w' k d' n') (hk : Keeps w w' k.own) : WL w0 w' k g d' l n' := ⟨hd, h.log.kept hk⟩
theorem WL.store {l' : LS} (h : WL w0 w k g d l n) (hg : w.grownBy w' (some g)) (hl : LogAt w' w0.heap.size k g l') : WL w0 w' k g d l' n := by
  obtain ⟨cs, hb⟩ := h.log.blk
  exact ⟨h.dl.other hb nd_log hg h.log.lo, hl⟩
end
theorem Keeps.own2 {w w' : World} {k : KB} {g : Nat} (h : Keeps w w' k.own) : Keeps w w' (ownL k g) := h.mono fun _ hi => .inl hi
theorem Keeps.then {w w1 w2 : World} {S : Nat → Prop} (h : Keeps w w1 S) (hb : Below w1.heap.size w1 w2) : Keeps w w2 S := h.trans (Keeps.of_below hb)
theorem keeps_store {w w1 w2 : World} {k : KB} {g : Nat} (h : Keeps w w1 (ownL k g)) (hg : w1.grownBy w2 (some g)) : Keeps w w2 (ownL k g) := h.grown hg (.inr rfl)
end Go.Proofs.YtcfoihihinijlaaGreat
end

section
namespace Go.Proofs.YtcfoihihinijlaaGreat
set_option linter.unusedSimpArgs false
set_option linter.unusedVariables false
open Go.RowKit
def HeadOk (w0 w : World) (k : KB) (g : Nat) (d : DS) (l : LS) (n seq m : Nat) (e : Ending) (w' : World) : Prop :=
  e = .returned (.int .i64 (d.head l.at_ seq m).2) ∧ WL w0 w' k g (d.head l.at_ seq m).1 (l.headed seq (d.head l.at_ seq m).2) (n + 2) ∧ Keeps w w' (ownL k g)
theorem head_ok {w0 w w' : World} {k : KB} {g n seq m : Nat} {d d' : DS} {l : LS} {r : Int} (hr : r ≠ 0) (h : d.head l.at_ seq m = (d', r)) (hw : WL w0 w' k g d' { l with broken := true } (n + 2)) (hk : Keeps w w' (ownL k g)) : HeadOk w0 w k g d l n seq m (.returned (.int .i64 r)) w' := by
  unfold HeadOk
  rw [h]
  refine ⟨rfl, ?_, hk⟩
  unfold LS.headed
  rw [if_neg hr]
  exact hw
theorem head_ok0 {w0 w w' : World} {k : KB} {g n seq m : Nat} {d d' : DS} {l : LS} (h : d.head l.at_ seq m = (d', 0)) (hw : WL w0 w' k g d' { l with seq := seq } (n + 2)) (hk : Keeps w w' (ownL k g)) : HeadOk w0 w k g d l n seq m (.returned (.int .i64 0)) w' := by
  unfold HeadOk
  rw [h]
  exact ⟨rfl, hw, hk⟩
theorem head48_zeros (seq m : Nat) : (Wal.half seq m ++ Wal.half m seq) ++ (List.replicate 512 (0 : UInt8)).drop (Wal.half seq m ++ Wal.half m seq).length = Wal.headL seq m := by
  have e : (Wal.half seq m ++ Wal.half m seq).length = 48 := Wal.head48_length seq m
  rw [e, List.drop_replicate]
  rfl
set_option maxRecDepth 20000 in
set_option maxHeartbeats 2000000 in
theorem head_any (w0 w : World) (k : KB) (g n : Nat) (d : DS) (l : LS) (H : WL w0 w k g d l n) (hn : n + 2 < 1000000) (seq m : Nat) (hs : seq ≤ Wal.last62) (hm : m ≤ 1000000) :
    Calls Tryz.prog 112 #[.pointer (some ⟨g, 0, none⟩), .int .u64 (seq : Nat), .int .i64 (m : Nat)] w (HeadOk w0 w k g d l n seq m) := by
  have H0 := Lib.hid H
  have HS : Hid (seq < two64) := Nat.lt_of_le_of_lt hs (by decide)
  have HM : Hid (m < two64) := Nat.lt_of_le_of_lt hm (by decide)
  have HSL := Lib.hid hs
  have hat := H.log.good.at_
  have hat2 : l.at_ + seq % 2 ≤ 5001 := by have := Nat.mod_lt seq (by decide : 0 < 2); omega
  have HHL := Lib.hid (Wal.headL_length seq m)
  have HD : Hid (∀ x, x = d.write ((l.at_ : Int) + (seq : Int) % 2) (Wal.headL seq m) → d.head l.at_ seq m = if x.2 ≠ 0 then x else x.1.flush) := fun x hx => by
    subst hx
    have hi : ((l.at_ + seq % 2 : Nat) : Int) = (l.at_ : Int) + (seq : Int) % 2 := by omega
    rw [← hi]
    rfl
  clear H hs
  go_enter Tryz.func112, Tryz.ntmps112
  go_wp2_with (at_make; refine wpList_make_zeros rfl (.const (.int .i64 512)) (.const (.int .i64 512)) rfl _ _ _ _ 512 rfl rfl rfl rfl (by decide) (Nat.le_refl _) ?_; intro w1 ho1 hb1)
  have H1 := Lib.hid (And.intro ho1 hb1)
  clear ho1 hb1
  refine (half_any _ seq m HS.out HM.out).mono ?_
  rintro e w2 ⟨A2, c2, rfl, ho2, hb2⟩
  have H2 := Lib.hid (And.intro (H1.out.1.below hb2) (And.intro (H1.out.2.trans (hb2.mono H1.out.2.size)) ho2.row))
  clear ho2 hb2 H1
  go_wp2_with fail
  refine (half_any _ m seq HM.out HS.out).mono ?_
  rintro e w3 ⟨A3, c3, rfl, ho3, hb3⟩
  have H3 := Lib.hid (And.intro (H2.out.1.below hb3) (And.intro (H2.out.2.1.trans (hb3.mono H2.out.2.1.size)) (And.intro (H2.out.2.2.below hb3) ho3.row)))
  clear ho3 hb3 H2
  go_wp2_with fail
  refine (bconcat2 _ _ _ ⟨A2, c2, Wal.half seq m⟩ ⟨A3, c3, Wal.half m seq⟩ (Row.new _ _ _) ⟨H3.out.2.2.1.alloc _, ?_⟩ ⟨H3.out.2.2.2.alloc _, ?_⟩ ?_).mono ?_
  · simp [Wal.half_length]
  · simp [Wal.half_length]
  · simp [Wal.half_length]
  rintro e w4 ⟨A4, c4, rfl, ho4, hb4⟩
  have hb34 : Below w3.heap.size w3 w4 := (Below.alloc1 w3 _).then hb4
  have H4 := Lib.hid (And.intro (H3.out.1.below hb34) (And.intro (H3.out.2.1.trans (hb34.mono H3.out.2.1.size)) ho4.row))
  clear ho4 hb4 hb34 H3
  have HZ : Hid ((List.replicate 512 (0 : UInt8)).length = 512) := List.length_replicate
  have HCL : Hid ((Wal.half seq m ++ Wal.half m seq).length ≤ (List.replicate 512 (0 : UInt8)).length) := by show _ ≤ _; rw [HZ.out]; exact Nat.le_trans (Nat.le_of_eq (Wal.head48_length seq m)) (by decide)
  go_wp2_with (refine wpList_copy_bytes (o := ⟨some 21, _, _, _, _, _⟩) rfl (.tmp 10) (.tmp 20) rfl 512 _ rfl rfl HZ.out.symm rfl H4.out.1 H4.out.2.2 HCL.out ?_; intro w5 ho5 hg5)
  rw [head48_zeros] at ho5
  have H5 : Hid (BOwn w5 w.heap.size (some ⟨w.heap.size, 0, none⟩) 512 (Wal.headL seq m) ∧ Below w.heap.size w w5) := ⟨ho5, H4.out.2.1.grown hg5 H4.out.2.1.size (fun k hk => by simp at hk; omega)⟩
  have HW := Lib.hid ((H0.out.below H5.out.2).below (w' := w5.drew) (Below.refl _ _).drewR)
  clear ho5 hg5 H4 HZ HCL
  have HWR := HW.out.dl.write (by omega) ((l.at_ : Int) + (seq : Int) % 2) (some ⟨w.heap.size, 0, none⟩) 512 (Wal.headL seq m) H5.out.1.row.drew
  rw [HHL.out] at HWR
  have HWR' := Lib.hid HWR
  clear HWR
  have HD2 := Lib.hid (HD.out _ rfl)
  clear HD
  generalize d.write ((l.at_ : Int) + (seq : Int) % 2) (Wal.headL seq m) = r at HWR' HD2
  obtain ⟨d1, e1⟩ := r
  obtain ⟨A0, c0, hc, hc2, -⟩ := HW.out.log.cells
  refine wp_region_plan (.take 0 (.take 1 (.take 2 (.take 3 (.take 4 (.take 5 (.take 6 (.take 7 (.take 8 (.take 9 (.take 10 (.take 11 (.take 12 (.run 13 [] (.take 14 .fin))))))))))))))) (by kernel_rfl) (by kernel_rfl) (by kernel_rfl) (by kernel_rfl) ?_
  simp only [walk, again, sel, List.getElem?_toArray, List.getElem?_cons_zero, List.getElem?_cons_succ]
  repeat ((with_reducible intro Z hZ); go_wp2_with (fail))
  refine HWR'.out.mono ?_
  rintro e w6 ⟨rfl, hL6, hK6⟩
  have HW6 : Hid (WL w0 w6 k g d1 l (n + 1) ∧ Keeps w w6 (ownL k g)) := ⟨HW.out.disk hL6 hK6, (Keeps.of_below (H5.out.2.drewR)).trans hK6.own2⟩
  clear hL6 hK6 HW HWR' hc hc2
  obtain ⟨A0, c0, hc, hc2, -⟩ := HW6.out.1.log.cells
  rcases Classical.em (e1 = 0) with he | he
  · subst he
    rw [if_neg (by simp)] at HD2
    have HF := Lib.hid (HW6.out.1.dl.flush (by omega))
    generalize d1.flush = r at HF HD2
    obtain ⟨d2, e2⟩ := r
    go_wp2_with fail
    repeat ((with_reducible intro Z hZ); go_wp2_with (fail))
    go_wp2_with fail
    refine HF.out.mono ?_
    rintro e w7 ⟨rfl, hL7, hK7⟩
    have HW7 : Hid (WL w0 w7 k g d2 l (n + 2) ∧ Keeps w w7 (ownL k g)) := ⟨HW6.out.1.disk hL7 hK7, HW6.out.2.trans hK7.own2⟩
    clear hL7 hK7 HF hc hc2
    obtain ⟨A0, c0, hc, hc2, -⟩ := HW7.out.1.log.cells
    rcases Classical.em (e2 = 0) with he | he
    · subst he
      go_wp2_with fail
      go_ret
      exact head_ok0 HD2.out (HW7.out.1.store (grown_store _ _ _ _) (HW7.out.1.log.setSeq HSL.out)) (keeps_store HW7.out.2 (grown_store _ _ _ _))
    · have he1 : (e2 != 0) = true := by simpa using he
      have HE := Lib.hid he
      clear he
      go_wp2_with fail
      go_ret
      exact head_ok HE.out HD2.out (HW7.out.1.store (grown_store _ _ _ _) HW7.out.1.log.setBroken) (keeps_store HW7.out.2 (grown_store _ _ _ _))
  · have he1 : (e1 != 0) = true := by simpa using he
    have he2 : (e1 == 0) = false := by simpa using he
    rw [if_pos (by simpa using he)] at HD2
    have HE := Lib.hid he
    clear he
    go_wp2_with fail
    repeat ((with_reducible intro Z hZ); go_wp2_with (fail))
    go_wp2_with fail
    go_ret
    exact head_ok HE.out HD2.out ⟨(HW6.out.1.store (grown_store _ _ _ _) HW6.out.1.log.setBroken).dl.more (by omega), (HW6.out.1.log.setBroken)⟩ (keeps_store HW6.out.2 (grown_store _ _ _ _))
end Go.Proofs.YtcfoihihinijlaaGreat
end

section
namespace Go.Proofs.YtcfoihihinijlaaGreat
set_option linter.unusedSimpArgs false
set_option linter.unusedVariables false
open Go.RowKit
set_option maxHeartbeats 400000 in
theorem bclip_any (w : World) (A : Option Addr) (n c : Nat) (hc : n ≤ c) : Calls Tryz.prog 156 #[.slice A n c] w fun e w' => (∃ A', e = .returned (.slice A' n n) ∧ (A' = A)) ∧ w = w' := by
  go_enter Tryz.func156, Tryz.ntmps156
  go_wp2_with fail
  all_goals
    go_ret
    exact ⟨⟨_, rfl, rfl⟩, rfl⟩
theorem block_eq (d : DS) (i : Nat) (hi : i < d.blocks.length) : d.block i = d.blocks[i].now.l := by
  unfold DS.block
  simp [hi]
theorem read_blk (w : World) (B : Nat) (k : KB) (d : DS) (h : DiskAt w B k d) (i : Nat) (hi : i < d.blocks.length) (hd : d.down = false) (x : Int) (hx : x = (i : Int)) :
    Calls Tryz.prog 68 #[.pointer (some ⟨k.gd, 0, none⟩), .int .i64 x] w fun e w' => ∃ A c, e = .returned (.tuple #[.slice A 512 c, .int .i64 0]) ∧ BOwn w' w.heap.size A c (d.block i) ∧ Below w.heap.size w w' := by
  subst hx
  rw [block_eq d i hi]
  exact read_ok w B k d h i hi hd
def DS.picks (d : DS) (at_ room : Nat) : Nat → Nat × Nat
  | 0 => (0, 0)
  | i + 1 => if (d.picks at_ room i).1 < (Wal.right (d.block (at_ + i)) room).1 then Wal.right (d.block (at_ + i)) room else d.picks at_ room i
theorem right_zero (b : List UInt8) (room : Nat) (h : (Wal.right b room).1 = 0) : Wal.right b room = (0, 0) := by
  unfold Wal.right at h ⊢
  split
  · rename_i hc
    rw [if_pos hc] at h
    have := hc.2.2.1
    simp only at h
    omega
  · rfl
theorem DS.picks_two (d : DS) (at_ room : Nat) : d.picks at_ room 2 = d.pick at_ room := by
  have h1 : d.picks at_ room 1 = Wal.right (d.block at_) room := by
    show (if 0 < (Wal.right (d.block (at_ + 0)) room).1 then _ else (0, 0)) = _
    rw [Nat.add_zero]
    by_cases h : 0 < (Wal.right (d.block at_) room).1
    · rw [if_pos h]
    · rw [if_neg h, right_zero _ _ (by omega)]
  unfold DS.pick
  rw [← h1]
  rfl
theorem DS.picks_le (d : DS) (at_ room i : Nat) : (d.picks at_ room i).2 ≤ room ∧ (d.picks at_ room i).1 ≤ Wal.last62 := by
  induction i with
  | zero => exact ⟨Nat.zero_le _, Nat.zero_le _⟩
  | succ i ih =>
    unfold DS.picks
    split
    · exact Wal.right_le _ _
    · exact ih
theorem parse_length : ∀ (f : Nat) (b : List UInt8), (Wal.parse f b).1.length ≤ b.length
  | 0, _ => Nat.zero_le _
  | f + 1, b => by
    rw [Wal.parse]
    split
    · exact Nat.zero_le _
    · split
      · exact Nat.zero_le _
      · split
        · exact Nat.zero_le _
        · rename_i h1 h2 h3
          have hl := Wire.take_len ⟨b, 0⟩
          have ih := parse_length f ((Wire.take ⟨b, 0⟩).1.l.drop (4 + (Wire.take ⟨b, 0⟩).2))
          simp only [List.length_drop] at ih hl
          split
          · rename_i r e hq
            rw [hq] at ih
            simp only at ih
            split
            · simp only [List.length_cons]
              omega
            · exact Nat.zero_le _
theorem records_length (b : List UInt8) : (Wal.records b).1.length ≤ b.length := parse_length _ _
theorem LogAt.set4 {w : World} {B : Nat} {k : KB} {g : Nat} {l : LS} (h : LogAt w B k g l) {A : Option Addr} {c : Nat} {b : List UInt8} (hb : BRowX k.own w A b) (hc : b.length ≤ c) (hm : c ≤ maxLen) (hr : b.length ≤ l.room) (hn : l.count ≤ b.length) :
    LogAt (w.setCell ⟨g, 4, none⟩ (.slice A b.length c)) B k g { l with data := b } := by
  obtain ⟨⟨A', c', h1, h2, h3⟩, lo, own, gd⟩ := h
  exact ⟨⟨A, c, h1.set 4 _, hb.blk h1 (by decide) (grown_store _ _ _ _), hc, hm⟩, lo, own, ⟨gd.at_, gd.room, gd.seq, hr, hn⟩⟩
theorem LogAt.set5 {w : World} {B : Nat} {k : KB} {g : Nat} {l : LS} (h : LogAt w B k g l) {n : Nat} (hn : n ≤ l.data.length) : LogAt (w.setCell ⟨g, 5, none⟩ (.int .i64 (n : Nat))) B k g { l with count := n } := by
  obtain ⟨⟨A, c, h1, h2, h3⟩, lo, own, gd⟩ := h
  exact ⟨⟨A, c, h1.set 5 _, h2.blk h1 (by decide) (grown_store _ _ _ _), h3⟩, lo, own, ⟨gd.at_, gd.room, gd.seq, gd.data, hn⟩⟩
theorem LogAt.fresh {w W : World} {B : Nat} {k : KB} {at_ room : Nat} (hb : Blk W w.heap.size 192 (logCells k ⟨at_, room, 0, [], 0, false⟩ none 0)) (hB : B ≤ w.heap.size) (hk : ∀ i, k.own i → i < w.heap.size) (h1 : at_ ≤ 5000) (h2 : room ≤ 511000) :
    LogAt W B k w.heap.size ⟨at_, room, 0, [], 0, false⟩ :=
  ⟨⟨none, 0, hb, BRowX.nil _ _ _, Nat.le_refl _, by decide⟩, hB, fun h => Nat.lt_irrefl _ (hk _ h), ⟨h1, h2, Nat.zero_le _, Nat.zero_le _, Nat.le_refl _⟩⟩
theorem keeps_new {w w1 w' : World} {k : KB} {g : Nat} (hb : Below w.heap.size w w1) (hk : Keeps w1 w' (ownL k g)) (hg : w.heap.size ≤ g) : Keeps w w' k.own :=
  ⟨hk.os.trans hb.os, hk.tape.trans hb.tape, hk.output.trans hb.output, Nat.le_trans hb.size hk.size, fun i hi hn => (hk.block i (Nat.lt_of_lt_of_le hi hb.size) (by rintro (h | h); exact hn h; omega)).trans (hb.block i hi)⟩
end Go.Proofs.YtcfoihihinijlaaGreat
end

section
namespace Go.Proofs.YtcfoihihinijlaaGreat
set_option linter.unusedSimpArgs false
set_option linter.unusedVariables false
open Go.RowKit
set_option maxHeartbeats 400000 in
theorem wbroken_any (w : World) (B : Nat) (k : KB) (g : Nat) (l : LS) (h : LogAt w B k g l) : Calls Tryz.prog 110 #[.pointer (some ⟨g, 0, none⟩)] w fun e w' => e = .returned (.bool l.broken) ∧ w = w' := by
  obtain ⟨A0, c0, hc, hc2, -⟩ := h.cells
  clear h
  go_enter Tryz.func110, Tryz.ntmps110
  go_wp2_with fail
  go_ret
  exact ⟨rfl, rfl⟩
set_option maxHeartbeats 400000 in
theorem wroom_any (w : World) (B : Nat) (k : KB) (g : Nat) (l : LS) (h : LogAt w B k g l) : Calls Tryz.prog 58 #[.pointer (some ⟨g, 0, none⟩)] w fun e w' => e = .returned (.int .i64 ((l.room : Int) - (l.data.length : Int))) ∧ w' = w.drew := by
  obtain ⟨A0, c0, hc, hc2, -⟩ := h.cells
  have h1 := h.good.data
  have h2 := h.good.room
  have h3 : (0 : Int) ≤ (l.room : Int) - (l.data.length : Int) := by omega
  clear h
  go_enter Tryz.func58, Tryz.ntmps58
  go_wp2_with fail
  refine wp_region_plan (.take 0 (.take 1 (.take 2 (.take 3 (.take 4 (.take 5 (.take 6 (.take 7 (.take 8 (.take 9 (.take 10 .fin))))))))))) (by kernel_rfl) (by kernel_rfl) (by kernel_rfl) (by kernel_rfl) ?_
  simp only [walk, again, sel, List.getElem?_toArray, List.getElem?_cons_zero, List.getElem?_cons_succ]
  repeat ((with_reducible intro Z hZ); go_wp2_with (fail))
  go_ret
  exact ⟨rfl, rfl⟩
end Go.Proofs.YtcfoihihinijlaaGreat
end

section
namespace Go.Proofs.YtcfoihihinijlaaGreat
set_option linter.unusedSimpArgs false
set_option linter.unusedVariables false
open Go.RowKit
def ChangeOk (w0 w : World) (k : KB) (g n : Nat) (r : AR) (e : Ending) (w' : World) : Prop := e = .returned (.int .i64 r.e) ∧ WL w0 w' k g r.d r.l n ∧ Keeps w w' (ownL k g)
theorem change_ok {w0 w w' : World} {k : KB} {g n : Nat} {r r' : AR} (h : r = r') (hw : WL w0 w' k g r'.d r'.l n) (hk : Keeps w w' (ownL k g)) : ChangeOk w0 w k g n r (.returned (.int .i64 r'.e)) w' := by
  subst h
  exact ⟨rfl, hw, hk⟩
theorem WL.more {w0 w : World} {k : KB} {g n m : Nat} {d : DS} {l : LS} (h : WL w0 w k g d l n) (hm : n ≤ m) : WL w0 w k g d l m := ⟨h.dl.more hm, h.log⟩
theorem seq_wrap {s : Nat} (h : s ≤ Wal.last62) : IntKind.u64.wrap ((s : Int) + 1) = (s : Int) + 1 := by
  unfold Wal.last62 at h
  exact IntWalk.u64_in _ (by omega)
theorem seq_next {s : Nat} (h : s ≤ Wal.last62) (h2 : s ≠ Wal.last62) : s + 1 ≤ Wal.last62 := by omega
theorem seq_last {s : Nat} (h : s ≠ Wal.last62) : ((s : Int) == 4611686018427387904) = false := by
  unfold Wal.last62 at h
  simp; omega
set_option maxRecDepth 20000 in
set_option maxHeartbeats 1000000 in
theorem wreset_any (w0 w : World) (k : KB) (g n : Nat) (d : DS) (l : LS) (H : WL w0 w k g d l n) (hn : n + 2 < 1000000) :
    Calls Tryz.prog 109 #[.pointer (some ⟨g, 0, none⟩)] w (ChangeOk w0 w k g (n + 2) (d.reset l)) := by
  have H0 := Lib.hid H
  have HBR := Lib.hid (wbroken_any w _ k g l H.log)
  have hsq := H.log.good.seq
  have HW := seq_wrap hsq
  have HHD := Lib.hid (fun hne => head_any w0 w k g n d l H hn (l.seq + 1) 0 (seq_next hsq hne) (by omega))
  obtain ⟨A0, c0, hc, hc2, -⟩ := H.log.cells
  have HD : Hid (d.reset l = if l.broken = true then ⟨d, l, 3⟩ else if l.seq = Wal.last62 then ⟨d, l, 40⟩ else if (d.head l.at_ (l.seq + 1) 0).2 ≠ 0 then ⟨(d.head l.at_ (l.seq + 1) 0).1, { l with broken := true }, (d.head l.at_ (l.seq + 1) 0).2⟩
    else ⟨(d.head l.at_ (l.seq + 1) 0).1, { l with seq := l.seq + 1, data := [], count := 0 }, 0⟩) := rfl
  unfold HeadOk at HHD
  generalize d.head l.at_ (l.seq + 1) 0 = r at HHD HD
  obtain ⟨d2, e2⟩ := r
  clear H hsq
  rcases Classical.em (l.broken = true) with hb | hb
  · rw [if_pos hb] at HD
    rw [hb] at HBR
    clear hb
    go_enter Tryz.func109, Tryz.ntmps109
    go_wp2_with fail
    refine HBR.out.mono ?_
    rintro e w1 ⟨rfl, rfl⟩
    go_wp2_with fail
    go_ret
    exact change_ok HD.out (H0.out.more (by omega)) (Keeps.refl _ _)
  · have hb0 : l.broken = false := by simpa using hb
    rw [if_neg hb] at HD
    rw [hb0] at HBR
    clear hb hb0
    rcases Classical.em (l.seq = Wal.last62) with hs | hs
    · have hs1 : ((l.seq : Int) == 4611686018427387904) = true := by rw [hs]; decide
      rw [if_pos hs] at HD
      clear hs HHD HW
      go_enter Tryz.func109, Tryz.ntmps109
      go_wp2_with fail
      refine HBR.out.mono ?_
      rintro e w1 ⟨rfl, rfl⟩
      go_wp2_with fail
      go_ret
      exact change_ok HD.out (H0.out.more (by omega)) (Keeps.refl _ _)
    · have hs1 := seq_last hs
      rw [if_neg hs] at HD
      have HH := Lib.hid (HHD.out hs)
      clear hs HHD
      go_enter Tryz.func109, Tryz.ntmps109
      go_wp2_with fail
      refine HBR.out.mono ?_
      rintro e w1 ⟨rfl, rfl⟩
      go_wp2_with fail
      refine HH.out.mono ?_
      rintro e w3 ⟨rfl, hw3, hk3⟩
      have HW3 := Lib.hid (And.intro hw3 hk3)
      clear hw3 hk3 hc hc2 HH
      obtain ⟨A0, c0, hc, hc2, -⟩ := HW3.out.1.log.cells
      unfold LS.headed at HW3
      rcases Classical.em (e2 = 0) with he | he
      · subst he
        rw [if_pos rfl] at HW3
        rw [if_neg (by simp)] at HD
        go_wp2_with fail
        go_ret
        refine change_ok HD.out (HW3.out.1.store ((grown_store _ _ _ _).set_ ⟨g, 5, none⟩ rfl _) ?_) (keeps_store HW3.out.2 ((grown_store _ _ _ _).set_ ⟨g, 5, none⟩ rfl _))
        exact HW3.out.1.log.setData (A := none) (c := 0) (b := []) (n := 0) (BRowX.nil _ _ _) (Nat.le_refl _) (by decide) (Nat.zero_le _) (Nat.zero_le _)
      · have he1 : (e2 != 0) = true := by simpa using he
        rw [if_neg he] at HW3
        rw [if_pos he] at HD
        clear he
        go_wp2_with fail
        go_ret
        exact change_ok HD.out HW3.out.1 HW3.out.2
end Go.Proofs.YtcfoihihinijlaaGreat
end

section
namespace Go.Proofs.YtcfoihihinijlaaGreat
set_option linter.unusedSimpArgs false
set_option linter.unusedVariables false
open Go.RowKit
def Zt : List UInt8 := List.replicate 512 0
theorem DL.own_lt {w0 w : World} {k : KB} {d : DS} {n : Nat} (h : DL w0 w k d n) : ∀ i, k.own i → i < w.heap.size := fun i hi => by
  have := h.at_.head
  rcases hi with rfl | rfl
  · exact this.2.1
  · exact this.2.2.1
end Go.Proofs.YtcfoihihinijlaaGreat
end

section
namespace Go.Proofs.YtcfoihihinijlaaGreat
set_option linter.unusedSimpArgs false
set_option linter.unusedVariables false
open Go.RowKit Go.WideShapes Go.ChangeShapes Go.Deep
end Go.Proofs.YtcfoihihinijlaaGreat
end

section
namespace Go.Proofs.YtcfoihihinijlaaGreat
set_option linter.unusedSimpArgs false
set_option linter.unusedVariables false
open Go.RowKit
theorem sureAll_now : ∀ (ws : List DW) (L : List DB) (i : Nat), ((sureAll ws L).getD i default).now = (L.getD i default).now
  | [], _, _ => rfl
  | x :: ws, L, i => by
    rw [sureAll, sureAll_now ws]
    by_cases h : x.at_.toNat = i
    · by_cases hl : i < L.length
      · subst h; simp [hl]
      · rw [List.set_eq_of_length_le (by omega)]
    · simp [List.getElem?_set_ne h]
section
variable {w0 w w' : World} {k k2 : KB} {d d' s : DS} {n n' B2 : Nat}
end
end Go.Proofs.YtcfoihihinijlaaGreat
end

section
namespace Go.Proofs.YtcfoihihinijlaaGreat
set_option linter.unusedSimpArgs false
set_option linter.unusedVariables false
open Go.RowKit
end Go.Proofs.YtcfoihihinijlaaGreat
end

section
namespace Go.Proofs.YtcfoihihinijlaaGreat
set_option linter.unusedSimpArgs false
set_option linter.unusedVariables false
open Go.RowKit
end Go.Proofs.YtcfoihihinijlaaGreat
end

section
namespace Go.Proofs.YtcfoihihinijlaaGreat
set_option linter.unusedSimpArgs false
set_option linter.unusedVariables false
open Go.RowKit
structure RX where
  sure : List (List UInt8)
  pend : List (Int × List UInt8)
  falls : List DF
  ch : Nat
  down : Bool
def RX.fresh (n : Nat) : RX := ⟨List.replicate n Zt, [], [], 0, false⟩
end Go.Proofs.YtcfoihihinijlaaGreat
end

section
namespace Go.Proofs.YtcfoihihinijlaaGreat
set_option linter.unusedSimpArgs false
set_option linter.unusedVariables false
open Go.RowKit
def lastW (i : Nat) (s : List UInt8) (ws : List DW) : List UInt8 := ws.foldl (fun s x => if x.at_ = (i : Int) then x.b.l else s) s
end Go.Proofs.YtcfoihihinijlaaGreat
end

section
namespace Go.Proofs.YtcfoihihinijlaaGreat
set_option linter.unusedSimpArgs false
set_option linter.unusedVariables false
open Go.RowKit
end Go.Proofs.YtcfoihihinijlaaGreat
end

section
namespace Go.Proofs.YtcfoihihinijlaaGreat
set_option linter.unusedSimpArgs false
set_option linter.unusedVariables false
open Go.RowKit
theorem DGood.tick {d : DS} (h : DGood d) (n : Nat) : DGood { d with changes := n } := ⟨h.b0, h.b1, h.p1, h.f1, h.at_, h.fk⟩
end Go.Proofs.YtcfoihihinijlaaGreat
end

section
namespace Go.Proofs.YtcfoihihinijlaaGreat
set_option linter.unusedSimpArgs false
set_option linter.unusedVariables false
open Go.RowKit
end Go.Proofs.YtcfoihihinijlaaGreat
end

section
namespace Go.Proofs.YtcfoihihinijlaaGreat
set_option linter.unusedSimpArgs false
set_option linter.unusedVariables false
open Go.RowKit
end Go.Proofs.YtcfoihihinijlaaGreat
end

section
namespace Go.Proofs.YtcfoihihinijlaaGreat
set_option linter.unusedSimpArgs false
set_option linter.unusedVariables false
open Go.RowKit
def NowOk (d : DS) : Prop := ∀ i (h : i < d.blocks.length), d.blocks[i].now.l = lastW i d.blocks[i].sure.l d.pending
theorem lastW_snoc (i : Nat) (s : List UInt8) (ws : List DW) (x : DW) : lastW i s (ws ++ [x]) = if x.at_ = (i : Int) then x.b.l else lastW i s ws := by
  unfold lastW; rw [List.foldl_append]; rfl
theorem NowOk.crash {d : DS} (h : NowOk d) (f : DF) : NowOk (d.crash f) := by
  unfold DS.crash
  split
  · exact h
  · intro i hi
    simp only [List.getElem_map]
    rfl
theorem NowOk.tick {d : DS} (h : NowOk d) (n : Nat) : NowOk { d with changes := n } := h
theorem NowOk.strike {d : DS} (h : NowOk d) : NowOk d.strike.1 := by
  unfold DS.strike
  split
  · exact (h.tick _).crash _
  · exact h.tick _
theorem NowOk.write {d : DS} (h : NowOk d) (i : Int) (l : List UInt8) : NowOk (d.write i l).1 := by
  unfold DS.write
  split
  · exact h
  · rename_i hw
    split
    · rename_i hl
      unfold DS.put
      refine NowOk.strike ?_
      obtain ⟨-, h0, h1⟩ := why_zero (Classical.not_not.1 hw)
      intro j hj
      simp only [List.length_set] at hj
      rw [lastW_snoc]
      have hlt : i.toNat < d.blocks.length := by omega
      by_cases e : i.toNat = j
      · subst e
        simp [hlt]
      · simp only [List.getElem_set_ne e]
        rw [if_neg (by simp; omega)]
        exact h j hj
    · exact h
theorem sureAll_last : ∀ (ws : List DW) (L : List DB) (i : Nat) (h : i < L.length), (∀ x ∈ ws, 0 ≤ x.at_) → ((sureAll ws L)[i]'(by rw [sureAll_length]; exact h)).sure.l = lastW i L[i].sure.l ws
  | [], _, _, _, _ => rfl
  | x :: ws, L, i, h, hp => by
    have hx := hp x (by simp)
    simp only [sureAll]
    rw [sureAll_last ws _ i (by simpa using h) (fun y hy => hp y (by simp [hy]))]
    unfold lastW
    rw [List.foldl_cons]
    congr 1
    by_cases e : x.at_.toNat = i
    · subst e
      rw [if_pos (by omega)]
      simp
    · rw [if_neg (by omega)]
      simp [List.getElem_set_ne e]
theorem NowOk.settled {d : DS} (h : NowOk d) (hG : DGood d) : NowOk d.settled := by
  intro i hi
  have hi' : i < d.blocks.length := by simpa [DS.settled, sureAll_length] using hi
  have h1 := sureAll_last d.pending d.blocks i hi' (fun x hx => (hG.at_ x hx).1)
  have h2 := sureAll_now d.pending d.blocks i
  have hl : i < (sureAll d.pending d.blocks).length := by rw [sureAll_length]; exact hi'
  simp only [List.getD_eq_getElem?_getD, List.getElem?_eq_getElem hl, List.getElem?_eq_getElem hi', Option.getD_some] at h2
  show ((sureAll d.pending d.blocks)[i]'hl).now.l = ((sureAll d.pending d.blocks)[i]'hl).sure.l
  rw [h1, h2]
  exact h i hi'
theorem NowOk.flush {d : DS} (h : NowOk d) (hG : DGood d) : NowOk d.flush.1 := by
  unfold DS.flush
  split
  · exact h
  · split
    · exact h.strike
    · exact h.strike.settled hG.strike
theorem NowOk.fresh (n : Nat) : NowOk (DS.new n) := by
  intro i hi
  have e : (DS.new n).blocks[i] = ⟨B512.zero, B512.zero⟩ := by simp [DS.new]
  rw [e]
  rfl
theorem write_length (d : DS) (i : Int) (l : List UInt8) : (d.write i l).1.blocks.length = d.blocks.length := by
  have hs : ∀ d : DS, d.strike.1.blocks.length = d.blocks.length := fun d => by
    unfold DS.strike
    split
    · rw [crash_length]
    · rfl
  unfold DS.write
  split
  · rfl
  · split
    · unfold DS.put; rw [hs]; simp
    · rfl
theorem flush_length (d : DS) : d.flush.1.blocks.length = d.blocks.length := by
  have hs : d.strike.1.blocks.length = d.blocks.length := by
    unfold DS.strike
    split
    · rw [crash_length]
    · rfl
  unfold DS.flush
  split
  · rfl
  · split
    · exact hs
    · rw [show d.strike.1.settled.blocks = sureAll d.strike.1.pending d.strike.1.blocks from rfl, sureAll_length]; exact hs
section
variable {S : Nat → Prop} {w0 w w' : World} {B : Nat} {k : KB} {d : DS} {n g : Nat} {c : List Value} {x : RX}
theorem BOwn.kind {c : Nat} {A : Option Addr} {l : List UInt8} (h : BOwn w B A c l) : ∀ a, A = some a → ∃ cur, w.heap[a.block]? = some (.cells cur 5 (0, 0)) := by
  intro a ha
  rcases h.2 with ⟨hv, h0⟩ | ⟨g, cap, cur, hv, hb, hg, hn, hm, _⟩
  · simp only [Value.slice.injEq] at hv
    rw [ha] at hv
    cases hv.1
  · simp only [Value.slice.injEq] at hv
    rw [ha] at hv
    obtain rfl := Option.some.inj hv.1
    exact ⟨_, hg⟩
end
end Go.Proofs.YtcfoihihinijlaaGreat
end

section
namespace Go.Proofs.YtcfoihihinijlaaGreat
set_option linter.unusedSimpArgs false
set_option linter.unusedVariables false
open Go.RowKit
structure Still (d : DS) (N : Nat) : Prop where
  falls : d.falls = []
  down : d.down = false
  len : d.blocks.length = N
theorem Still.block_write {d : DS} {N : Nat} (h : Still d N) {m : Nat} (hm : m < N) {l : List UInt8} (hl : l.length = 512) (i : Nat) :
    (d.write (m : Int) l).1.block i = if i = m then l else d.block i := by
  have hm' : m < d.blocks.length := by rw [h.len]; exact hm
  rw [write_plain h.falls h.down hm' hl]
  unfold DS.block
  by_cases e : i = m
  · subst e; simp [hm']
  · rw [if_neg e]; simp [List.getElem?_set_ne (fun h => e h.symm)]
theorem Still.write {d : DS} {N : Nat} (h : Still d N) {m : Nat} (hm : m < N) {l : List UInt8} (hl : l.length = 512) :
    (d.write (m : Int) l).2 = 0 ∧ Still (d.write (m : Int) l).1 N ∧ (d.write (m : Int) l).1.changes = d.changes + 1 := by
  rw [write_plain h.falls h.down (by rw [h.len]; exact hm) hl]
  exact ⟨rfl, ⟨h.falls, h.down, by simp [h.len]⟩, rfl⟩
theorem Still.flush {d : DS} {N : Nat} (h : Still d N) :
    d.flush.2 = 0 ∧ Still d.flush.1 N ∧ d.flush.1.changes = d.changes + 1 ∧ d.flush.1.pending = [] ∧ ∀ i, d.flush.1.block i = d.block i := by
  rw [flush_plain h.falls h.down]
  exact ⟨rfl, ⟨h.falls, h.down, by simp [DS.settled, sureAll_length, h.len]⟩, rfl, rfl, fun i => congrArg B512.l (sureAll_now _ _ i)⟩
theorem Still.head {d : DS} {N : Nat} (h : Still d N) {at_ : Nat} (hN : at_ + 2 ≤ N) (seq n : Nat) :
    (d.head at_ seq n).2 = 0 ∧ Still (d.head at_ seq n).1 N ∧ (d.head at_ seq n).1.changes = d.changes + 2 ∧ (d.head at_ seq n).1.pending = [] ∧ ∀ i, (d.head at_ seq n).1.block i = if i = at_ + seq % 2 then Wal.headL seq n else d.block i := by
  have hm : at_ + seq % 2 < N := by have := Nat.mod_lt seq (by decide : 0 < 2); omega
  have h1 := h.write hm (Wal.headL_length seq n)
  have h2 := h.block_write hm (Wal.headL_length seq n)
  have h3 := h1.2.1.flush
  have e : d.head at_ seq n = (d.write ((at_ + seq % 2 : Nat) : Int) (Wal.headL seq n)).1.flush := by
    unfold DS.head
    rw [if_neg (by rw [h1.1]; simp)]
  rw [e]
  exact ⟨h3.1, h3.2.1, by rw [h3.2.2.1, h1.2.2], h3.2.2.2.1, fun i => by rw [h3.2.2.2.2, h2]⟩
theorem lay_nought (at_ : Nat) (all : List UInt8) (i : Nat) (d : DS) : DS.lay at_ all 0 i d = (d, 0) := by rw [DS.lay]
theorem lay_done (at_ : Nat) (all : List UInt8) (f i : Nat) (d : DS) (h : all.length ≤ i * 512) : DS.lay at_ all f i d = (d, 0) := by
  cases f with
  | zero => exact lay_nought _ _ _ _
  | succ f => rw [DS.lay, if_pos h]
theorem lay_step (at_ : Nat) (all : List UInt8) (f i : Nat) (d : DS) (h : i * 512 < all.length) : DS.lay at_ all (f + 1) i d =
    if (d.write ((at_ + 2 + i : Nat) : Int) (padB all i)).2 ≠ 0 then d.write ((at_ + 2 + i : Nat) : Int) (padB all i) else DS.lay at_ all f (i + 1) (d.write ((at_ + 2 + i : Nat) : Int) (padB all i)).1 := by
  rw [DS.lay, if_neg (by omega)]
theorem Still.lay {at_ N : Nat} {all : List UInt8} (hN : at_ + 2 + (all.length + 511) / 512 ≤ N) (f : Nat) : ∀ (i : Nat) (d : DS), Still d N → all.length ≤ (f + i) * 512 →
    (DS.lay at_ all f i d).2 = 0 ∧ Still (DS.lay at_ all f i d).1 N ∧ ∀ j, (DS.lay at_ all f i d).1.block j = if at_ + 2 + i ≤ j ∧ (j - (at_ + 2)) * 512 < all.length then padB all (j - (at_ + 2)) else d.block j := by
  induction f with
  | zero =>
    intro i d h hf
    rw [lay_nought]
    exact ⟨rfl, h, fun j => (if_neg (fun h2 => by have h3 := h2.1; have h4 := h2.2; clear h2 h hN; rw [Nat.zero_add] at hf; omega)).symm⟩
  | succ f ih =>
    intro i d h hf
    by_cases hl : all.length ≤ i * 512
    · rw [lay_done _ _ _ _ _ hl]
      exact ⟨rfl, h, fun j => by rw [if_neg (by omega)]⟩
    · have hm : at_ + 2 + i < N := by omega
      have hf2 : all.length ≤ (f + (i + 1)) * 512 := by rw [show f + (i + 1) = f + 1 + i from by rw [Nat.add_assoc, Nat.add_comm 1 i]]; exact hf
      have h1 := h.write hm (padB_length all i)
      have h2 := h.block_write hm (padB_length all i)
      rw [lay_step _ _ _ _ _ (by omega), if_neg (by rw [h1.1]; simp)]
      obtain ⟨g1, g2, g3⟩ := ih (i + 1) _ h1.2.1 hf2
      refine ⟨g1, g2, fun j => ?_⟩
      rw [g3, h2]
      by_cases e : j = at_ + 2 + i
      · subst e
        rw [if_neg (by omega), if_pos rfl, if_pos (by omega)]
        congr 1
        omega
      · rw [if_neg e]
        by_cases e2 : at_ + 2 + (i + 1) ≤ j ∧ (j - (at_ + 2)) * 512 < all.length
        · rw [if_pos e2, if_pos (by omega)]
        · rw [if_neg e2, if_neg (by omega)]
def Agrees (all : List UInt8) (i : Nat) (b : List UInt8) : Prop := ∀ j, j < 512 → i * 512 + j < all.length → b[j]? = all[i * 512 + j]?
theorem agrees_pad (all : List UInt8) (i : Nat) : Agrees all i (padB all i) := by
  intro j hj hl
  unfold padB
  rw [List.getElem?_append_left (by simp; omega), List.getElem?_take_of_lt hj, List.getElem?_drop]
theorem Agrees.front {data more b : List UInt8} {i : Nat} (h : Agrees (data ++ more) i b) : Agrees data i b := by
  intro j hj hl
  rw [h j hj (by rw [List.length_append]; omega), List.getElem?_append_left hl]
theorem Agrees.over {all b s : List UInt8} {i : Nat} (hb : Agrees all i b) (hs : Agrees all i s) (hl : b.length = 512) (n : Nat) : Agrees all i (b.take n ++ s.drop n) := by
  intro j hj hk
  by_cases h : j < n
  · rw [List.getElem?_append_left (by simp; omega), List.getElem?_take_of_lt h]
    exact hb j hj hk
  · by_cases hn : n ≤ 512
    · rw [List.getElem?_append_right (by simp; omega), List.getElem?_drop, List.length_take, hl, Nat.min_eq_left hn, show n + (j - n) = j from by omega]
      exact hs j hj hk
    · omega
theorem bytes_get (d : DS) (at_ : Nat) : ∀ (n i j : Nat), i < n → j < 512 → (d.bytes at_ n)[i * 512 + j]? = (d.block (at_ + i))[j]?
  | 0, i, j, h, _ => by omega
  | n + 1, i, j, h, hj => by
    rw [DS.bytes_succ]
    by_cases e : i = n
    · subst e
      rw [List.getElem?_append_right (by rw [DS.bytes_length]; omega), DS.bytes_length]
      congr 1
      omega
    · rw [List.getElem?_append_left (by rw [DS.bytes_length]; omega)]
      exact bytes_get d at_ n i j (by omega) hj
theorem body_agrees {d : DS} {at_ : Nat} {data : List UInt8} (h : ∀ i, Agrees data i (d.block (at_ + 2 + i))) : d.body at_ data.length = data := by
  refine List.ext_getElem? fun k => ?_
  by_cases hk : k < data.length
  · unfold DS.body
    rw [List.getElem?_take_of_lt hk]
    have e : k = (k / 512) * 512 + k % 512 := by omega
    have h1 := bytes_get d (at_ + 2) ((data.length + 511) / 512) (k / 512) (k % 512) (by omega) (Nat.mod_lt _ (by decide))
    have h2 := h (k / 512) (k % 512) (Nat.mod_lt _ (by decide)) (by omega)
    rw [← e] at h1 h2
    rw [h1, h2]
  · rw [List.getElem?_eq_none (by rw [DS.body_length]; omega), List.getElem?_eq_none (by omega)]
theorem right_second {b : List UInt8} (hb : b.length = 512) (room : Nat) : (Wal.right b room).1 ≤ Wal.lo (Wal.cut b 40 8) := by
  rw [Wal.right_doc hb]
  split
  · exact Nat.zero_le _
  · rename_i h
    simp only [not_or] at h
    have := Classical.not_not.1 h.2.2.2.1
    simp only
    omega
theorem headL_second (seq n : Nat) (hs : seq ≤ Wal.last62) : Wal.lo (Wal.cut (Wal.headL seq n) 40 8) = seq := by
  have h1 : Wal.cut (Wal.headL seq n) 40 8 = Wal.hi8 seq := by
    unfold Wal.headL
    rw [Wal.cut_append _ _ _ _ (by rw [Wal.head48_length]; omega)]
    unfold Wal.head48
    rw [Wal.cut_right _ _ _ _ (by rw [Wal.half_length]; omega), Wal.half_length]
    exact (Wal.half_parts n seq).2.2
  rw [h1, Wal.lo_hi8 _ (Nat.lt_of_le_of_lt hs (by decide))]
theorem pick_of {d : DS} {at_ seq room n : Nat} (hs : 1 ≤ seq ∧ seq ≤ Wal.last62) (h1 : d.block (at_ + seq % 2) = Wal.headL seq n) (hn : n ≤ room) (hr : room ≤ 511000) (h2 : (Wal.right (d.block (at_ + (seq + 1) % 2)) room).1 < seq) : d.pick at_ room = (seq, n) := by
  have hr1 : Wal.right (d.block (at_ + seq % 2)) room = (seq, n) := by
    rw [h1]
    exact Wal.right_head _ hs.1 hs.2 hn (by omega)
  unfold DS.pick
  rcases Nat.mod_two_eq_zero_or_one seq with e | e
  · have e2 : (seq + 1) % 2 = 1 := by omega
    rw [e2] at h2
    rw [e, Nat.add_zero] at hr1
    rw [hr1, if_neg (by simp only; omega)]
  · have e2 : (seq + 1) % 2 = 0 := by omega
    rw [e2, Nat.add_zero] at h2
    rw [e] at hr1
    rw [hr1, if_pos (by simpa using h2)]
theorem zero_second : Wal.lo (Wal.cut (List.replicate 512 (0 : UInt8)) 40 8) = 0 := by decide +kernel
theorem zero_right (room : Nat) : Wal.right (List.replicate 512 (0 : UInt8)) room = (0, 0) := by
  have := right_second (b := List.replicate 512 (0 : UInt8)) List.length_replicate room
  rw [zero_second] at this
  exact right_zero _ _ (by omega)
theorem new_block (n i : Nat) : (DS.new n).block i = List.replicate 512 (0 : UInt8) := by
  show ((List.replicate n (⟨B512.zero, B512.zero⟩ : DB)).getD i default).now.l = _
  rw [List.getD_eq_getElem?_getD, List.getElem?_replicate]
  split <;> rfl
theorem new_still (n : Nat) : Still (DS.new n) n := ⟨rfl, rfl, by simp [DS.new]⟩
end Go.Proofs.YtcfoihihinijlaaGreat
end

section
namespace Go.Proofs.YtcfoihihinijlaaGreat
set_option linter.unusedSimpArgs false
set_option linter.unusedVariables false
open Go.RowKit
def Torn (seq : Nat) (b : List UInt8) : Prop := ∃ (old : List UInt8) (m : Nat), old.length = 512 ∧ Wal.lo (Wal.cut old 40 8) < seq ∧ old.drop 48 = List.replicate 464 0 ∧ b = (Wal.headL (seq + 1) 0).take m ++ old.drop m
theorem headL_drop (seq n : Nat) : (Wal.headL seq n).drop 48 = List.replicate 464 0 := by
  unfold Wal.headL
  rw [List.drop_append_of_le_length (by rw [Wal.head48_length]; omega), List.drop_of_length_le (by rw [Wal.head48_length]; omega)]
  rfl
theorem Torn.head {seq n : Nat} (hs : seq ≤ Wal.last62) : Torn (seq + 1) (Wal.headL seq n) :=
  ⟨Wal.headL seq n, 0, Wal.headL_length _ _, by rw [headL_second _ _ hs]; omega, headL_drop _ _, rfl⟩
structure JW (d : DS) (l : LS) (R : List (List UInt8)) (N : Nat) : Prop where
  still : Still d N
  fits : l.at_ + 2 + (l.room + 511) / 512 ≤ N
  good : LGood l
  sq : 1 ≤ l.seq
  head : d.block (l.at_ + l.seq % 2) = Wal.headL l.seq l.data.length
  other : ∀ room, (Wal.right (d.block (l.at_ + (l.seq + 1) % 2)) room).1 < l.seq
  torn : Torn l.seq (d.block (l.at_ + (l.seq + 1) % 2))
  agrees : ∀ i, Agrees l.data i (d.block (l.at_ + 2 + i))
  data : l.data = Wal.frames R
  few : ∀ s ∈ R, s.length < 18446744073709551616
  count : l.count = R.length
  whole : l.broken = false
  pend : d.pending = []
theorem JW.open_ {d : DS} {l : LS} {R : List (List UInt8)} {N : Nat} (h : JW d l R N) : d.openW l.at_ l.room = ⟨d, l, R, 0⟩ := by
  have hp := pick_of ⟨h.sq, h.good.seq⟩ h.head h.good.data h.good.room (h.other _)
  have hb := body_agrees h.agrees
  have hr : Wal.records l.data = (R, 0) := by rw [h.data]; exact Wal.records_frames R h.few
  have h1 := h.sq
  unfold DS.openW
  rw [if_neg (by rw [h.still.down]; simp), hp]
  simp only
  rw [if_neg (by omega), hb, hr, if_neg (by simp)]
  obtain ⟨at_, room, seq, data, count, broken⟩ := l
  have e1 := h.count
  have e2 := h.whole
  simp only at e1 e2
  subst e1 e2
  rfl
theorem JW.add {d : DS} {l : LS} {R recs : List (List UInt8)} {N : Nat} (h : JW d l R N) (hne : recs ≠ []) (hs : l.seq < Wal.last62) (hfit : (l.data ++ Wal.frames recs).length ≤ l.room) (hfew : ∀ s ∈ recs, s.length < 18446744073709551616) (hcount : l.count + recs.length ≤ (l.data ++ Wal.frames recs).length) :
    ∃ d', d.add l recs = ⟨d', { l with seq := l.seq + 1, data := l.data ++ Wal.frames recs, count := l.count + recs.length }, 0⟩ ∧ JW d' { l with seq := l.seq + 1, data := l.data ++ Wal.frames recs, count := l.count + recs.length } (R ++ recs) N := by
  obtain ⟨all, hall⟩ : ∃ all, all = l.data ++ Wal.frames recs := ⟨_, rfl⟩
  rw [← hall] at hfit hcount ⊢
  have hN := h.fits
  obtain ⟨a1, a2, a3⟩ := Still.lay (at_ := l.at_) (N := N) (all := all) (by omega) all.length (l.data.length / 512) d h.still (by omega)
  obtain ⟨b1, b2, b3, b4, b5⟩ := a2.flush
  obtain ⟨c1, c2, c3, c4, c5⟩ := b2.head (at_ := l.at_) (by omega) (l.seq + 1) all.length
  refine ⟨((DS.lay l.at_ all all.length (l.data.length / 512) d).1.flush.1.head l.at_ (l.seq + 1) all.length).1, ?_, ?_⟩
  · unfold DS.add
    rw [if_neg (by rw [h.whole]; simp), if_neg hne, ← hall, if_neg (by omega)]
    unfold DS.addW
    rw [if_neg (by rw [a1]; simp), if_neg (by rw [b1]; simp), if_neg (by rw [c1]; simp)]
  · have hhead : ∀ j, j < l.at_ + 2 → (DS.lay l.at_ all all.length (l.data.length / 512) d).1.flush.1.block j = d.block j := fun j hj => by
      rw [b5, a3, if_neg (by omega)]
    refine ⟨c2, h.fits, ⟨h.good.at_, h.good.room, by show l.seq + 1 ≤ _; omega, hfit, hcount⟩, by show 1 ≤ l.seq + 1; omega, ?_, ?_, ?_, ?_, by show all = _; rw [hall, h.data, Wal.frames_append], ?_, by show l.count + _ = _; rw [h.count, List.length_append], h.whole, c4⟩
    · show DS.block _ (l.at_ + (l.seq + 1) % 2) = Wal.headL (l.seq + 1) all.length
      rw [c5, if_pos rfl]
    · intro room
      show (Wal.right (DS.block _ (l.at_ + (l.seq + 1 + 1) % 2)) room).1 < l.seq + 1
      refine Nat.lt_of_le_of_lt (right_second (DS.block_length _ _) _) ?_
      have e : (l.seq + 1 + 1) % 2 = l.seq % 2 := by omega
      rw [e, c5, if_neg (by omega), hhead _ (by omega), h.head, headL_second _ _ h.good.seq]
      omega
    · show Torn (l.seq + 1) (DS.block _ (l.at_ + (l.seq + 1 + 1) % 2))
      have e : (l.seq + 1 + 1) % 2 = l.seq % 2 := by omega
      rw [e, c5, if_neg (by omega), hhead _ (by omega), h.head]
      exact Torn.head h.good.seq
    · intro i
      show Agrees all i (DS.block _ (l.at_ + 2 + i))
      rw [c5, if_neg (by omega), b5, a3]
      by_cases e : l.at_ + 2 + l.data.length / 512 ≤ l.at_ + 2 + i ∧ (l.at_ + 2 + i - (l.at_ + 2)) * 512 < all.length
      · rw [if_pos e, show l.at_ + 2 + i - (l.at_ + 2) = i from by omega]
        exact agrees_pad all i
      · rw [if_neg e]
        intro j hj hl
        have h1 := h.agrees i j hj
        have h2 : i * 512 + j < l.data.length := by omega
        rw [h1 h2, hall, List.getElem?_append_left h2]
    · intro s hs
      rcases List.mem_append.1 hs with h' | h'
      · exact h.few s h'
      · exact hfew s h'
theorem JW.full {d : DS} {l : LS} {R recs : List (List UInt8)} {N : Nat} (h : JW d l R N) (hne : recs ≠ []) (hfit : l.room < (l.data ++ Wal.frames recs).length) : d.add l recs = ⟨d, l, 40⟩ := by
  unfold DS.add
  rw [if_neg (by rw [h.whole]; simp), if_neg hne, if_pos (.inl hfit)]
theorem JW.none {d : DS} {l : LS} {R : List (List UInt8)} {N : Nat} (h : JW d l R N) : d.add l [] = ⟨d, l, 0⟩ := by
  unfold DS.add
  rw [if_neg (by rw [h.whole]; simp), if_pos rfl]
theorem JW.reset {d : DS} {l : LS} {R : List (List UInt8)} {N : Nat} (h : JW d l R N) (hs : l.seq < Wal.last62) :
    ∃ d', d.reset l = ⟨d', { l with seq := l.seq + 1, data := [], count := 0 }, 0⟩ ∧ JW d' { l with seq := l.seq + 1, data := [], count := 0 } [] N := by
  have hN := h.fits
  obtain ⟨c1, c2, c3, c4, c5⟩ := h.still.head (at_ := l.at_) (by omega) (l.seq + 1) 0
  refine ⟨(d.head l.at_ (l.seq + 1) 0).1, ?_, ?_⟩
  · unfold DS.reset
    rw [if_neg (by rw [h.whole]; simp), if_neg (by omega), if_neg (by rw [c1]; simp)]
  · refine ⟨c2, h.fits, ⟨h.good.at_, h.good.room, by show l.seq + 1 ≤ _; omega, Nat.zero_le _, Nat.le_refl _⟩, by show 1 ≤ l.seq + 1; omega, ?_, ?_, ?_, ?_, rfl, fun s hs => by simp at hs, rfl, h.whole, c4⟩
    · show DS.block _ (l.at_ + (l.seq + 1) % 2) = Wal.headL (l.seq + 1) 0
      rw [c5, if_pos rfl]
    · intro room
      show (Wal.right (DS.block _ (l.at_ + (l.seq + 1 + 1) % 2)) room).1 < l.seq + 1
      refine Nat.lt_of_le_of_lt (right_second (DS.block_length _ _) _) ?_
      have e : (l.seq + 1 + 1) % 2 = l.seq % 2 := by omega
      rw [e, c5, if_neg (by omega), h.head, headL_second _ _ h.good.seq]
      omega
    · show Torn (l.seq + 1) (DS.block _ (l.at_ + (l.seq + 1 + 1) % 2))
      have e : (l.seq + 1 + 1) % 2 = l.seq % 2 := by omega
      rw [e, c5, if_neg (by omega), h.head]
      exact Torn.head h.good.seq
    · intro i j _ hl
      simp at hl
end Go.Proofs.YtcfoihihinijlaaGreat
end

section
namespace Go.Proofs.YtcfoihihinijlaaGreat
set_option linter.unusedSimpArgs false
set_option linter.unusedVariables false
namespace Pag
def PC (P : Int → List UInt8 → Prop) (q : PS) : Prop := ∀ f ∈ q.L, 0 ≤ f.page → P f.page f.s
section
variable {P : Int → List UInt8 → Prop} {q : PS}
theorem PC.new (n : Nat) : PC P (PS.new n) := by
  intro f hf h0
  rw [List.eq_of_mem_replicate hf] at h0
  exact absurd h0 (by decide)
theorem PC.mono {P' : Int → List UInt8 → Prop} (h : PC P q) (hp : ∀ k s, 0 ≤ k → P k s → P' k s) : PC P' q := fun f hf h0 => hp _ _ h0 (h f hf h0)
theorem PC.set {L : List Fr} (h : ∀ f ∈ L, 0 ≤ f.page → P f.page f.s) {i : Nat} {g : Fr} (hg : 0 ≤ g.page → P g.page g.s) : ∀ f ∈ L.set i g, 0 ≤ f.page → P f.page f.s := by
  intro f hf h0
  rcases List.mem_or_eq_of_mem_set hf with h1 | h1
  · exact h f h1 h0
  · rw [h1] at h0 ⊢; exact hg h0
theorem PC.frame (h : PC P q) (i : Nat) : 0 ≤ (q.L.getD i fr0).page → P (q.L.getD i fr0).page (q.L.getD i fr0).s := by
  intro h0
  by_cases hi : i < q.L.length
  · rw [List.getD_eq_getElem?_getD, List.getElem?_eq_getElem hi] at h0 ⊢
    exact h _ (List.getElem_mem hi) h0
  · rw [List.getD_eq_getElem?_getD, List.getElem?_eq_none (by omega)] at h0
    exact absurd h0 (by decide)
theorem PC.get (h : PC P q) (k : Int) : PC P (q.get k).2 := by
  unfold PS.get
  split
  · rename_i i _
    exact PC.set h (h.frame i)
  · exact h
theorem PC.got (h : PC P q) {k : Int} {b : List UInt8} (hb : (q.get k).1 = some b) : P k b := by
  unfold PS.get at hb
  split at hb
  · rename_i i hi
    obtain ⟨hl, hp, h0⟩ := where_some hi
    have e : (q.L.getD i fr0) = q.L[i] := by rw [List.getD_eq_getElem?_getD, List.getElem?_eq_getElem hl]; rfl
    have hb : (q.L.getD i fr0).s = b := by simpa using hb
    have := h _ (List.getElem_mem hl) (by rw [hp]; exact h0)
    rw [hp, ← e, hb] at this
    exact this
  · cases hb
theorem PC.drop (h : PC P q) (k : Int) : PC P (q.drop k).2 := by
  unfold PS.drop
  split
  · exact PC.set h (fun h0 => absurd h0 (by decide))
  · exact h
theorem PC.sweep : ∀ (f : Nat) (L : List Fr) (h : Nat), (∀ g ∈ L, 0 ≤ g.page → P g.page g.s) → ∀ g ∈ (sweep f L h).2.1, 0 ≤ g.page → P g.page g.s
  | 0, L, h, hL => hL
  | f + 1, L, h, hL => by
    unfold Go.Proofs.YtcfoihihinijlaaGreat.sweep
    by_cases hh : h < L.length
    · rw [dif_pos hh]
      by_cases hb : L[h].mark = true
      · rw [if_pos hb]
        exact PC.sweep f _ _ (PC.set hL (fun h0 => hL L[h] (List.getElem_mem hh) h0))
      · rw [if_neg hb]
        exact hL
    · rw [dif_neg hh]
      exact hL
theorem PC.place (h : PC P q) : PC P q.place.2 := by
  unfold PS.place
  split
  · exact h
  · exact PC.sweep _ _ _ h
theorem PC.put (h : PC P q) {k : Int} {f : Fr} (hf : 0 ≤ f.page → P f.page f.s) : PC P (q.put k f).2 := by
  unfold PS.put
  split
  · exact PC.set h hf
  · exact PC.set h.place hf
theorem PC.putAny (h : PC P q) {k : Int} {l : List UInt8} (hk : 0 ≤ k → P k l) : PC P (q.putAny k l).2 := by
  unfold PS.putAny
  split
  · exact h
  · exact h.put hk
end
theorem Once.page {L : List Fr} (ho : Once L) {i j : Nat} (hi : i < L.length) (hj : j < L.length) (h0 : 0 ≤ L[i].page) (he : L[i].page = L[j].page) : i = j := ho i j hi hj h0 he
theorem PC.dropped {P : Int → List UInt8 → Prop} {q : PS} (hG : Good q) (h : PC P q) {k : Int} (h0 : 0 ≤ k) : PC (fun j s => P j s ∧ j ≠ k) (q.drop k).2 := by
  unfold PS.drop
  split
  · rename_i i hi
    intro f hf hp
    obtain ⟨j, hj, rfl⟩ := List.mem_iff_getElem.1 hf
    simp only [List.length_set] at hj
    by_cases e : j = i
    · subst e
      rw [List.getElem_set_self] at hp
      exact absurd hp (by decide)
    · rw [List.getElem_set_ne (fun h => e h.symm)] at hp ⊢
      exact ⟨h _ (List.getElem_mem hj) hp, where_other hG.once hi j hj e⟩
  · rename_i hi
    intro f hf hp
    obtain ⟨j, hj, rfl⟩ := List.mem_iff_getElem.1 hf
    exact ⟨h _ (List.getElem_mem hj) hp, where_none hi h0 j hj⟩
theorem Good.drop {q : PS} (hG : Good q) (k : Int) : Good (q.drop k).2 := by
  unfold PS.drop
  split
  · rename_i i hi
    obtain ⟨hl, -, -⟩ := where_some hi
    exact hG.set hl fr0 (fun h => absurd h (by decide)) (.inl rfl) (Nat.zero_le _)
  · exact hG
theorem Good.get {q : PS} (hG : Good q) (k : Int) : Good (q.get k).2 := by
  unfold PS.get
  split
  · rename_i i hi
    obtain ⟨hl, hp, h0⟩ := where_some hi
    have e : q.L.getD i fr0 = q.L[i] := by rw [List.getD_eq_getElem?_getD, List.getElem?_eq_getElem hl]; rfl
    have hm := List.getElem_mem hl
    have := hG.set hl { q.L.getD i fr0 with mark := true } (by
      intro _ j hj hne
      show q.L[j].page ≠ (q.L.getD i fr0).page
      rw [e, hp]
      exact where_other hG.once hi j hj hne) (by
      show (q.L.getD i fr0).page = -1 ∨ _
      rw [e]
      exact hG.pages _ hm) (by
      show (q.L.getD i fr0).s.length ≤ _
      rw [e]
      exact hG.bytes _ hm)
    exact ⟨this.once, this.pages, this.n0, this.n1, this.hand, this.bytes⟩
  · exact ⟨hG.once, hG.pages, hG.n0, hG.n1, hG.hand, hG.bytes⟩
theorem Good.putAny {q : PS} (hG : Good q) {k : Int} (h1 : k ≤ 9223372036854775807) {l : List UInt8} (hl : l.length ≤ 1000000) : Good (q.putAny k l).2 := by
  unfold PS.putAny
  split
  · exact hG
  · exact hG.put (by omega) h1 _ rfl hl
theorem dropAll_ok {P : Int → List UInt8 → Prop} : ∀ (L : List Nat) (q : PS), Good q → PC P q → Good (dropAll q L) ∧ PC (fun j s => P j s ∧ ∀ n ∈ L, j ≠ (n : Int)) (dropAll q L)
  | [], q, hG, h => ⟨hG, h.mono fun k s _ hp => ⟨hp, by simp⟩⟩
  | n :: L, q, hG, h => by
    obtain ⟨h1, h2⟩ := dropAll_ok L (q.drop n).2 (Good.drop hG n) (PC.dropped hG h (Int.natCast_nonneg n))
    refine ⟨h1, h2.mono fun k s _ hp => ⟨hp.1.1, fun j hj => ?_⟩⟩
    rcases List.mem_cons.1 hj with rfl | hj
    · exact hp.1.2
    · exact hp.2 j hj
def Out (at_ room i : Nat) : Prop := i < at_ ∨ at_ + 2 + (room + 511) / 512 ≤ i
theorem add_out {d : DS} {l : LS} {R recs : List (List UInt8)} {N : Nat} (h : JW d l R N) (hfit : (l.data ++ Wal.frames recs).length ≤ l.room) {i : Nat} (hi : Out l.at_ l.room i) : (d.add l recs).d.block i = d.block i := by
  unfold DS.add
  split
  · rfl
  · split
    · rfl
    · split
      · rfl
      · obtain ⟨all, hall⟩ : ∃ all, all = l.data ++ Wal.frames recs := ⟨_, rfl⟩
        rw [← hall] at hfit ⊢
        have hN := h.fits
        obtain ⟨a1, a2, a3⟩ := Still.lay (at_ := l.at_) (N := N) (all := all) (by omega) all.length (l.data.length / 512) d h.still (by omega)
        obtain ⟨b1, b2, b3, b4, b5⟩ := a2.flush
        obtain ⟨c1, c2, c3, c4, c5⟩ := b2.head (at_ := l.at_) (by omega) (l.seq + 1) all.length
        unfold DS.addW
        rw [if_neg (by rw [a1]; simp), if_neg (by rw [b1]; simp), if_neg (by rw [c1]; simp)]
        unfold Out at hi
        have hm := Nat.mod_lt (l.seq + 1) (by decide : 0 < 2)
        show DS.block _ i = _
        rw [c5, if_neg (by omega), b5, a3, if_neg (by omega)]
theorem reset_out {d : DS} {l : LS} {R : List (List UInt8)} {N : Nat} (h : JW d l R N) {i : Nat} (hi : Out l.at_ l.room i) : (d.reset l).d.block i = d.block i := by
  have hN := h.fits
  obtain ⟨c1, c2, c3, c4, c5⟩ := h.still.head (at_ := l.at_) (by omega) (l.seq + 1) 0
  have hm := Nat.mod_lt (l.seq + 1) (by decide : 0 < 2)
  unfold Out at hi
  unfold DS.reset
  split
  · rfl
  · split
    · rfl
    · rw [if_neg (by rw [c1]; simp)]
      show DS.block _ i = _
      rw [c5, if_neg (by omega)]
end Pag
end Go.Proofs.YtcfoihihinijlaaGreat
end

section
namespace Go.Proofs.YtcfoihihinijlaaGreat
set_option linter.unusedSimpArgs false
set_option linter.unusedVariables false
namespace Pag
theorem why_ok {d : DS} {N i : Nat} (h : Still d N) (hi : i < N) : d.why (i : Int) = 0 := by
  unfold DS.why
  rw [if_neg (by rw [h.down]; simp), if_neg (by rw [h.len]; omega)]
theorem JW.same {d d' : DS} {l : LS} {R : List (List UInt8)} {N : Nat} (h : JW d l R N) (hs : Still d' N) (hp : d'.pending = []) (hb : ∀ i, ¬ Out l.at_ l.room i → d'.block i = d.block i) : JW d' l R N := by
  have hm := Nat.mod_lt l.seq (by decide : 0 < 2)
  have hm2 := Nat.mod_lt (l.seq + 1) (by decide : 0 < 2)
  refine ⟨hs, h.fits, h.good, h.sq, ?_, ?_, ?_, fun i => ?_, h.data, h.few, h.count, h.whole, hp⟩
  · rw [hb _ (by unfold Out; omega)]; exact h.head
  · rw [hb _ (by unfold Out; omega)]; exact h.other
  · rw [hb _ (by unfold Out; omega)]; exact h.torn
  · intro j hj hl
    have h1 := h.good.data
    rw [hb _ (by unfold Out; omega)]
    exact h.agrees i j hj hl
theorem redos_append (pages : Nat) (s : List UInt8) : ∀ (R : List (List UInt8)) (o : Pgs), (redos pages R o).2 = 0 → redos pages (R ++ [s]) o = redo pages s (redos pages R o).1
  | [], o, _ => by
    show (if (redo pages s o).2 ≠ 0 then redo pages s o else ((redo pages s o).1, 0)) = redo pages s o
    split
    · rfl
    · next h => exact Prod.ext rfl (by have : ¬ (redo pages s o).2 ≠ 0 := h; show (0 : Int) = _; omega)
  | r :: R, o, h => by
    unfold redos at h
    show (if (redo pages r o).2 ≠ 0 then redo pages r o else redos pages (R ++ [s]) (redo pages r o).1) = redo pages s (if (redo pages r o).2 ≠ 0 then redo pages r o else redos pages R (redo pages r o).1).1
    split at h
    · next hr => exact absurd h hr
    · next hr =>
      rw [if_neg hr, if_neg hr]
      exact redos_append pages s R _ h
structure PgOk (g : PG) (R : List (List UInt8)) (N : Nat) (C : Nat → List UInt8) : Prop where
  j : JW g.d g.l R N
  at1 : g.l.at_ = 1
  room : g.l.room = (g.blocks - 2) * 512
  b4 : 4 ≤ g.blocks
  p1 : 1 ≤ g.pages
  p16 : g.pages ≤ 1600
  n : g.blocks + g.pages + 2 ≤ N
  lab : g.d.block 0 = label g.blocks g.pages
  ov : redos g.pages R none_ = (g.over, 0)
  ok : ∀ i, g.pages < i → g.over i = none
  ol : ∀ i b, g.over i = some b → b.length = 512
  c : ∀ i, i ≤ g.pages → C i = (g.over i).getD (g.d.block (home g.blocks i))
  good : Good g.q
  pool : PC (fun k s => ∀ i : Nat, k = (i : Int) → i ≤ g.pages ∧ g.over i = none ∧ s = g.d.block (home g.blocks i)) g.q
  mt : decode (C 0) g.pages = (g.sure, 0)
  ul : g.sure.used.length = g.pages + 1
  rl : g.sure.root.length ≤ 64
  whole : g.broken = false
section
variable {g : PG} {R : List (List UInt8)} {N : Nat} {C : Nat → List UInt8}
theorem PgOk.withQ (h : PgOk g R N C) {q : PS} (hq : Good q) (hp : PC (fun k s => ∀ i : Nat, k = (i : Int) → i ≤ g.pages ∧ g.over i = none ∧ s = g.d.block (home g.blocks i)) q) : PgOk { g with q := q } R N C :=
  ⟨h.j, h.at1, h.room, h.b4, h.p1, h.p16, h.n, h.lab, h.ov, h.ok, h.ol, h.c, hq, hp, h.mt, h.ul, h.rl, h.whole⟩
theorem PgOk.withTx (h : PgOk g R N C) (t : Option TX) : PgOk { g with tx := t } R N C :=
  ⟨h.j, h.at1, h.room, h.b4, h.p1, h.p16, h.n, h.lab, h.ov, h.ok, h.ol, h.c, h.good, h.pool, h.mt, h.ul, h.rl, h.whole⟩
theorem PgOk.read (h : PgOk g R N C) {n : Nat} (hn : n ≤ g.pages) : ∃ q, g.read n = ({ g with q := q }, C n, 0) ∧ PgOk { g with q := q } R N C := by
  have hc := h.c n hn
  unfold PG.read
  cases ho : g.over n with
  | some b =>
    rw [ho] at hc
    exact ⟨g.q, by rw [hc]; rfl, h⟩
  | none =>
    rw [ho] at hc
    have hg := Good.get h.good n
    have hp := h.pool.get n
    dsimp only
    cases hq : (g.q.get n).1 with
    | some b =>
      obtain ⟨-, -, e⟩ := h.pool.got hq n rfl
      exact ⟨(g.q.get n).2, by rw [hc, e]; rfl, h.withQ hg hp⟩
    | none =>
      dsimp only
      have hw := why_ok h.j.still (show home g.blocks n < N by unfold home; have := h.n; omega)
      rw [if_neg (by rw [hw]; simp)]
      refine ⟨_, by rw [hc]; rfl, h.withQ (Good.putAny hg (by have := h.p16; omega) (by rw [DS.block_length]; omega)) (hp.putAny fun _ i hi => ?_)⟩
      have : i = n := by omega
      subst this
      exact ⟨hn, ho, rfl⟩
end
structure TxOk (g : PG) (t : TX) : Prop where
  ul : t.m.used.length = g.pages + 1
  rl : t.m.root.length ≤ 64
  k0 : t.pages 0 = none
  kp : ∀ i, g.pages < i → t.pages i = none
  pl : ∀ i b, t.pages i = some b → b.length = 512
  own : t.own = false → t.m = g.sure
theorem TxOk.all_len {g : PG} {t : TX} (h : TxOk g t) : ∀ i b, t.all i = some b → b.length = 512 := by
  intro i b hb
  unfold TX.all at hb
  split at hb
  · by_cases e : i = 0
    · rw [e, put_at] at hb
      cases hb
      exact encode_length _ h.rl
    · rw [put_ne _ e] at hb
      exact h.pl i b hb
  · exact h.pl i b hb
theorem TxOk.all_none {g : PG} {t : TX} (h : TxOk g t) : ∀ i, g.pages + 1 ≤ i → t.all i = none := by
  intro i hi
  unfold TX.all
  split
  · rw [put_ne _ (by omega)]; exact h.kp i (by omega)
  · exact h.kp i (by omega)
section
variable {g : PG} {R : List (List UInt8)} {N : Nat} {C : Nat → List UInt8}
theorem PgOk.out (h : PgOk g R N C) {i : Nat} (hi : i ≤ g.pages) : Out g.l.at_ g.l.room (home g.blocks i) := by
  have := h.b4
  unfold Out home
  rw [h.at1, h.room]
  omega
theorem PgOk.keep (h : PgOk g R N C) {t : TX} (ht : TxOk g t) (hs : g.l.seq < Wal.last62) (hfit : (g.l.data ++ Wal.frames [record t.all (keys t.all (g.pages + 1))]).length ≤ g.l.room) :
    ∃ g', g.keep t (keys t.all (g.pages + 1)) = (g', 0) ∧ PgOk g' (R ++ [record t.all (keys t.all (g.pages + 1))]) N (fun i => (t.all i).getD (C i)) ∧ g'.sure = t.m ∧ g'.tx = none ∧ g'.blocks = g.blocks ∧ g'.pages = g.pages ∧ g'.l.seq = g.l.seq + 1 := by
  obtain ⟨s, hse⟩ : ∃ s, record t.all (keys t.all (g.pages + 1)) = s := ⟨_, rfl⟩
  have hred : redo g.pages s g.over = (over_ t.all g.over, 0) := by
    rw [← hse, redo_record g.pages h.p16 t.all _ _ (by have := keys_length t.all (g.pages + 1); have := h.p16; omega) (fun n hn => by
      have h1 := mem_keys.1 hn
      refine ⟨by omega, ?_⟩
      obtain ⟨b, hb⟩ := Option.isSome_iff_exists.1 h1.2
      rw [hb]
      exact ht.all_len n b hb), laid_keys ht.all_none]
  rw [hse] at hfit ⊢
  have hlen : s.length < 18446744073709551616 := by
    have h1 := h.j.good.room
    have h2 : s.length ≤ (Wal.frames [s]).length := by simp [Wal.frames, Wal.frame]; omega
    rw [List.length_append] at hfit
    omega
  obtain ⟨d', hd, hj⟩ := h.j.add (recs := [s]) (by simp) hs hfit (by intro x hx; rw [List.mem_singleton.1 hx]; exact hlen) (by
    have h1 := h.j.good.count
    have h2 : 1 ≤ (Wal.frames [s]).length := by simp [Wal.frames, Wal.frame, Crc.le4]; omega
    rw [List.length_append]
    simp only [List.length_singleton]
    omega)
  have hblk : ∀ i, i ≤ g.pages → d'.block (home g.blocks i) = g.d.block (home g.blocks i) := fun i hi => by
    have := add_out h.j (recs := [s]) hfit (h.out hi)
    rw [hd] at this
    exact this
  have hlab : d'.block 0 = g.d.block 0 := by
    have := add_out h.j (recs := [s]) (i := 0) hfit (by unfold Out; rw [h.at1]; omega)
    rw [hd] at this
    exact this
  obtain ⟨hg, hp⟩ := dropAll_ok (keys t.all (g.pages + 1)) g.q h.good h.pool
  refine ⟨{ g with d := d', l := { g.l with seq := g.l.seq + 1, data := g.l.data ++ Wal.frames [s], count := g.l.count + 1 }, over := over_ t.all g.over, q := dropAll g.q (keys t.all (g.pages + 1)), sure := t.m, tx := none }, ?_, ?_, rfl, rfl, rfl, rfl, rfl⟩
  · unfold PG.keep
    rw [hse, hd]
    rfl
  · refine ⟨hj, h.at1, h.room, h.b4, h.p1, h.p16, h.n, by show d'.block 0 = _; rw [hlab]; exact h.lab, ?_, ?_, ?_, ?_, hg, ?_, ?_, ht.ul, ht.rl, h.whole⟩
    · show redos g.pages (R ++ [s]) none_ = (over_ t.all g.over, 0)
      rw [redos_append _ _ _ _ (by rw [h.ov]), h.ov]
      exact hred
    · intro i hi
      show (t.all i).or (g.over i) = none
      rw [ht.all_none i (by have : g.pages < i := hi; omega), h.ok i hi]
      rfl
    · intro i b hb
      have hb : (t.all i).or (g.over i) = some b := hb
      cases ha : t.all i with
      | some x => rw [ha] at hb; cases hb; exact ht.all_len i _ ha
      | none => rw [ha] at hb; exact h.ol i b hb
    · intro i hi
      show (t.all i).getD (C i) = ((t.all i).or (g.over i)).getD (d'.block (home g.blocks i))
      rw [hblk i hi]
      cases t.all i with
      | some x => rfl
      | none => exact h.c i hi
    · refine hp.mono fun k x _ hx i hi => ?_
      obtain ⟨a1, a2, a3⟩ := hx.1 i hi
      refine ⟨a1, ?_, by show x = d'.block _; rw [hblk i a1]; exact a3⟩
      show (t.all i).or (g.over i) = none
      have : t.all i = none := by
        cases ha : t.all i with
        | none => rfl
        | some y => exact absurd hi (hx.2 i (mem_keys.2 ⟨by omega, by rw [ha]; rfl⟩))
      rw [this, a2]
      rfl
    · show decode ((t.all 0).getD (C 0)) g.pages = (t.m, 0)
      unfold TX.all
      cases ho : t.own with
      | true =>
        rw [if_pos rfl, put_at]
        exact decode_encode t.m g.pages ht.ul (by have := h.p16; omega) ht.rl
      | false =>
        rw [if_neg (by simp), ht.k0, ht.own ho]
        exact h.mt
end
end Pag
end Go.Proofs.YtcfoihihinijlaaGreat
end

