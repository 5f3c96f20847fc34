/-
  A rule for a region that draws its order: one walk of an order of one's own serves every order. Operations that leave the world as it is are taken as soon as they may be; behind each other operation, those of them that do not precede it are run once more and must come to the same value.
-/
import Derived.Test.YthbanhedjfpmaaaRegionSt
import Derived.OrdersHeld
namespace Go.Proofs.Ythbanhedjfpmaaa
set_option linter.unusedSimpArgs false
set_option linter.unusedVariables false
open Go

/-- A plan: which operations are taken first, which are run, which are run once more behind it. -/
inductive Plan where
  | fin
  | take (i : Nat) (p : Plan)
  | run (e : Nat) (ag : List Nat) (p : Plan)
  | fork (p q : Plan)

/-- Operation j waits for operation i, through others. -/
def dep (l : List Oper) : Nat → Nat → Nat → Bool
  | 0, _, _ => false
  | f + 1, j, i => Nat.blt i j && (match l[j]? with | some o => o.after.toList.any fun e => Region.binds .any e && (e.on == i || dep l f e.on i) | none => false)
/-- An operation whose run comes to a value, or to none at all. -/
def valueB (o : Oper) : Bool := match o.op with
  | .move _ | .assign _ | .pick .. | .alloc _ | .box .. | .build .. | .buildSlice .. | .load .. | .nilCheck _ | .binOp .. | .unOp .. | .convert .. | .makeInterface .. | .makeSlice .. | .slice .. | .fieldAddr .. | .field .. | .indexAddr .. | .index .. | .lookup .. | .typeAssert .. | .extract .. => true
  | .call { callee := .builtin b, .. } => (match b with | .len | .cap | .max | .min => true | _ => false)
  | _ => false
/-- Operation k writes nothing that operation i looks at or writes. -/
def wApart (l : List Oper) (i k : Nat) : Bool := match l[i]?, l[k]? with
  | some oi, some ok => (match ok.dst with | some d => !(oi.looksAt l.toArray).contains d && oi.dst != some d | none => true)
  | _, _ => false
def heads : Plan → List Nat
  | .run e _ _ => [e]
  | .fork p q => heads p ++ heads q
  | _ => []
def okB (l : List Oper) : Bool → Plan → Nat → Array Bool → List Nat → Bool
  | _, .fin, _, listed, _ => (Region.ready .any l.toArray listed).isEmpty
  | _, .take i p, fuel + 1, listed, Y => (Region.ready .any l.toArray listed).contains i && Region.free .any l.toArray listed i &&
      (match l[i]? with | some o => valueB o && (match o.dst with | some d => !(o.looksAt l.toArray).contains d | none => false) | none => false) &&
      Y.all (fun k => wApart l k i) && okB l true p fuel (listed.setIfInBounds i true) (i :: Y)
  | top, .run e ag p, fuel + 1, listed, Y => (!top || (Region.ready .any l.toArray listed).all (fun j => e == j)) && (l[e]?).isSome && (Region.ready .any l.toArray listed).contains e &&
      Y.all (fun k => wApart l k e && (dep l l.length e k || ag.contains k)) && okB l true p fuel (listed.setIfInBounds e true) (Y.filter fun k => !dep l l.length e k)
  | top, .fork p q, fuel, listed, Y => (heads p).any (fun j => (Region.ready .any l.toArray listed).contains j) && (!top || (Region.ready .any l.toArray listed).all (fun j => (heads p ++ heads q).contains j)) && okB l false p fuel listed Y && okB l false q fuel listed Y
  | _, _, _, _, _ => false

section
variable (P : Program) (ops : Array Oper) (Q : Exit → Act → World → Prop)
/-- The operation numbered i. -/
def sel (i : Nat) : List Oper := match ops[i]? with | some o => [o] | none => []
/-- The operations ag are run once more, and come to what the frame holds. -/
def again (T : Act → World → Prop) : List Nat → Act → World → Prop
  | [], a, w => T a w
  | i :: r, a, w => ∀ Z : Exit → Act → World → Prop, (again T r a w → Z .normal a w) → wpList P ops Z (sel ops i) a w
def walk : Plan → Act → World → Prop
  | .fin, a, w => Q .normal a w
  | .take i p, a, w => ∀ Z : Exit → Act → World → Prop, (∀ a', walk p a' w → Z .normal a' w) → wpList P ops Z (sel ops i) a w
  | .run e ag p, a, w => ∀ Z : Exit → Act → World → Prop, (∀ a' w', again P ops (walk p) ag a' w' → Z .normal a' w') → wpList P ops Z (sel ops e) a w
  | .fork p q, a, w => walk p a w ∧ walk q a w
end

/-! ### The rule's proof -/
section
variable {P : Program} {ops : Array Oper} {Q : Exit → Act → World → Prop}

/-- Q, and nothing but the normal end. -/
def Only (Q : Exit → Act → World → Prop) : Exit → Act → World → Prop := fun e a w => e = .normal ∧ Q .normal a w
theorem not_letsOut (Q : Exit → Act → World → Prop) : ¬ LetsOut (Only Q) := fun ⟨_, _, h, _⟩ => by cases h

theorem upon_cases {o : Oper} {a : Act} {K : Act → World → Prop} {Z : Exit → Act → World → Prop} {r : Result Next} (hZ : ∀ a w, ¬ Z .outgrown a w) (hp : ∀ c a w, ¬ Z (.panic c) a w)
    (h : o.upon P a K Z r) : (∃ v w', r = .ok (.value v) w' ∧ K (a.put o.dst v) w') ∨ (∃ w', r = .ok .skip w' ∧ K (a.put o.dst undef) w') ∨ (∃ d w', r = .ok (.defer d) w' ∧ K ({ a with defers := d :: a.defers }.put o.dst undef) w') ∨
      (∃ f args w', r = .ok (.enter f args) w' ∧ Calls P f args w' fun e w'' => ∃ v, e = .returned v ∧ K (a.put o.dst v) w'') ∨ (∃ row args w', r = .ok (.row row args) w' ∧ Rows P row args w' fun v w'' => K (a.put o.dst v) w'') := by
  cases r with
  | ok n w' =>
    cases n <;> simp only [Oper.upon] at h
    case value v => exact .inl ⟨v, w', rfl, h⟩
    case skip => exact .inr (.inl ⟨w', rfl, h⟩)
    case defer d => exact .inr (.inr (.inl ⟨d, w', rfl, h⟩))
    case enter f args =>
      refine .inr (.inr (.inr (.inl ⟨f, args, w', rfl, h.mono fun e w'' he => ?_⟩)))
      cases e with
      | returned v => exact ⟨v, rfl, he⟩
      | panicked c => exact absurd he (hp _ _ _)
      | outgrown => obtain ⟨_, _, h⟩ := he; exact absurd h (hZ _ _)
    case row row args => exact .inr (.inr (.inr (.inr ⟨row, args, w', rfl, h⟩)))
  | halt x w' =>
    cases x <;> simp only [Oper.upon] at h
    exact absurd h (hp _ _ _)

/-- From a walk that ends normally to any Q', with what is known of the frame. -/
theorem upon_back {o : Oper} {a : Act} {K K' : Act → World → Prop} {Q' : Exit → Act → World → Prop} {r : Result Next} (hK : ∀ ds v w', K ({ a with defers := ds }.put o.dst v) w' → K' ({ a with defers := ds }.put o.dst v) w')
    (h : (∃ v w', r = .ok (.value v) w' ∧ K (a.put o.dst v) w') ∨ (∃ w', r = .ok .skip w' ∧ K (a.put o.dst undef) w') ∨ (∃ d w', r = .ok (.defer d) w' ∧ K ({ a with defers := d :: a.defers }.put o.dst undef) w') ∨
      (∃ f args w', r = .ok (.enter f args) w' ∧ Calls P f args w' fun e w'' => ∃ v, e = .returned v ∧ K (a.put o.dst v) w'') ∨ (∃ row args w', r = .ok (.row row args) w' ∧ Rows P row args w' fun v w'' => K (a.put o.dst v) w'')) :
    o.upon P a K' Q' r := by
  rcases h with ⟨v, w', rfl, h⟩ | ⟨w', rfl, h⟩ | ⟨d, w', rfl, h⟩ | ⟨f, args, w', rfl, h⟩ | ⟨row, args, w', rfl, h⟩
  · exact hK a.defers _ _ h
  · exact hK a.defers _ _ h
  · exact hK _ _ _ h
  · refine Calls.mono h fun e w'' he => ?_
    obtain ⟨v, rfl, hk⟩ := he
    exact hK a.defers _ _ hk
  · exact Rows.mono h fun v w'' hk => hK a.defers _ _ hk

/-- One operation, walked to a normal end. -/
theorem wpOp_of_list {i : Nat} {o : Oper} {a : Act} {w : World} {Z : Exit → Act → World → Prop} {K' : Act → World → Prop} {Q' : Exit → Act → World → Prop} (hi : ops[i]? = some o)
    (hK : ∀ ds v w', Z .normal ({ a with defers := ds }.put o.dst v) w' → K' ({ a with defers := ds }.put o.dst v) w') (h : wpList P ops (Only Z) [o] a w) : wpOp P ops Q' i K' a w := by
  unfold wpOp
  simp only [hi]
  unfold wpList at h
  split
  · rename_i hw
    rw [if_pos hw] at h
    rcases h with h | h
    · refine .inl (upon_back (K := fun a w => Z .normal a w) hK ?_)
      have h2 := upon_cases (fun a w h => by cases h.1) (fun c a w h => by cases h.1) h
      simpa only [wpList, Only, true_and] using h2
    · exact absurd h.2 (not_letsOut Z)
  · rename_i hw
    rw [if_neg hw] at h
    exact hK a.defers _ _ h.2

theorem run_value {α : Type} {s : Sem α} {f : α → Next} {w w' : World} {n : Next} (hf : ∀ x, ∃ v, f x = .value v) (h : (s >>= fun x => (pure (f x) : Sem Next)).run P w = .ok n w') : ∃ v, n = .value v := by
  rw [Sem.run_bind] at h
  cases hs : s.run P w with
  | ok x w1 =>
    rw [hs] at h
    simp only [Result.andThen_ok, Sem.run_pure, Result.ok.injEq] at h
    obtain ⟨v, hv⟩ := hf x
    exact ⟨v, by rw [← h.1, hv]⟩
  | halt e w1 => rw [hs] at h; cases h
theorem valueB_spec {ρ : Operand → Value} {o : Oper} (hv : valueB o = true) {w w' : World} {n : Next} (h : (execOp ρ o).run P w = .ok n w') : ∃ v, n = .value v := by
  obtain ⟨dst, op, type, pos, after, guard⟩ := o
  cases op <;> simp only [valueB] at hv <;> (try (cases hv; done)) <;> simp only [execOp] at h
  case move => simp only [Sem.run_pure, Result.ok.injEq] at h; exact ⟨_, h.1.symm⟩
  case assign => simp only [Sem.run_pure, Result.ok.injEq] at h; exact ⟨_, h.1.symm⟩
  case nilCheck x =>
    generalize ρ x = y at h
    split at h <;> (try (simp only [Sem.run_pure, Result.ok.injEq] at h; exact ⟨_, h.1.symm⟩)) <;> (try (simp only [runtimePanic, goPanic, Sem.run_bind, run_program, Result.andThen_ok, Sem.run_halt] at h; cases h; done))
    split at h <;> (try (simp only [Sem.run_pure, Result.ok.injEq] at h; exact ⟨_, h.1.symm⟩)) <;> (try (simp only [runtimePanic, goPanic, Sem.run_bind, run_program, Result.andThen_ok, Sem.run_halt] at h; cases h; done))
    rw [Sem.run_bind] at h
    simp only [run_program, Result.andThen_ok] at h
    rw [Sem.run_bind] at h
    cases hn : (nilAhead (P.types.size + Made.depth) _ _ _).run P w with
    | halt e w1 => rw [hn] at h; cases h
    | ok r w1 =>
      rw [hn] at h
      simp only [Result.andThen_ok] at h
      split at h
      · cases h
      · simp only [Sem.run_pure, Result.ok.injEq] at h; exact ⟨_, h.1.symm⟩
  case call c =>
    obtain ⟨callee, args, argTypes⟩ := c
    cases callee <;> simp only [valueB] at hv <;> (try (cases hv; done))
    rename_i b
    simp only [resolve, Sem.run_bind, Sem.run_pure, Result.andThen_ok, invoke] at h
    cases b <;> simp only at hv <;> (try (cases hv; done)) <;> simp only [builtin] at h <;> exact run_value (fun x => ⟨_, rfl⟩) h
  all_goals exact run_value (fun x => ⟨_, rfl⟩) h

theorem put_size (a : Act) (d : Option Tmp) (v : Value) : (a.put d v).tmps.size = a.tmps.size := by cases d <;> simp [Act.put]
theorem slot_put {a : Act} {t : Tmp} (v : Value) (h : t < a.tmps.size) : slotOf (a.put (some t) v) (some t) = v := by simp [slotOf, Act.put, h]
theorem slot_put_ne {a : Act} {t : Tmp} {d : Option Tmp} (v : Value) (h : d ≠ some t) : slotOf (a.put d v) (some t) = slotOf a (some t) := by
  cases d with
  | none => rfl
  | some d =>
    have hne : d ≠ t := fun e => h (by rw [e])
    simp [slotOf, Act.put, Array.getElem?_setIfInBounds_ne hne]

/-- In the frame a and the world w' the operation comes to v, if it is wanted. -/
def Cond (P : Program) (ops : Array Oper) (o : Oper) (v : Value) (a : Act) (w' : World) : Prop := Region.wanted o (yielded ops a.tmps) = true → (execOp a.eval o).run P w' = .ok (.value v) w'

theorem Cond.put {o : Oper} {v : Value} {a : Act} {w' : World} {ds : List Deferred} {d : Option Tmp} {u : Value} (hs : ∀ cs b, o.op ≠ .select cs b) (h : ∀ t, d = some t → t ∉ o.looksAt ops)
    (hc : Cond P ops o v ({ a with defers := ds }.put d u) w') : Cond P ops o v a w' := by
  unfold Cond at *
  rw [execOp_put o hs { a with defers := ds } d u h, wanted_put o { a with defers := ds } d u h] at hc
  exact hc

/-- What is known of an operation that was taken. -/
def Taken (P : Program) (ops : Array Oper) (a : Act) (y : Nat × (World → Prop)) : Prop :=
  ∃ o t, ops[y.1]? = some o ∧ o.dst = some t ∧ t < a.tmps.size ∧ valueB o = true ∧ ∀ w', Cond P ops o (slotOf a (some t)) a w' → y.2 w'

theorem Taken.put {l : List Oper} {a : Act} {y : Nat × (World → Prop)} (h : Taken P l.toArray a y) (hsel : ∀ (j : Nat) (o : Oper) cs b, l.toArray[j]? = some o → o.op ≠ .select cs b) {k : Nat} {ok : Oper} (hk : l[k]? = some ok) (hw : wApart l y.1 k = true)
    (ds : List Deferred) (u : Value) : Taken P l.toArray ({ a with defers := ds }.put ok.dst u) y := by
  obtain ⟨o, t, ho, ht, hlt, hv, hS⟩ := h
  have hol : l[y.1]? = some o := by simpa using ho
  have hap : ∀ d, ok.dst = some d → d ∉ o.looksAt l.toArray ∧ o.dst ≠ some d := by
    intro d hd
    simp only [wApart, hol, hk, hd] at hw
    simpa using hw
  refine ⟨o, t, ho, ht, by rw [put_size]; exact hlt, hv, fun w' hc => hS w' ?_⟩
  rw [slot_put_ne (a := { a with defers := ds }) u (by intro e; exact (hap t e).2 ht)] at hc
  exact Cond.put (hsel _ _ · · ho) (fun d hd => (hap d hd).1) hc

/-- Whatever order is picked from here on; the conditions Y (each of an operation that was taken first) hold behind every operation that is carried out, until one that waits for it is. -/
def wpAnyY (P : Program) (ops : Array Oper) (dp : Nat → Nat → Bool) (Q : Exit → Act → World → Prop) : Nat → List (Nat × (World → Prop)) → Array Bool → Act → World → Prop
  | 0, _, listed, a, w => Region.ready .any ops listed = [] ∧ Q .normal a w
  | fuel + 1, Y, listed, a, w =>
    (Region.ready .any ops listed = [] → Q .normal a w) ∧
    ∀ j ∈ Region.ready .any ops listed, wpOp P ops Q j (fun a' w' => (∀ y ∈ Y, dp j y.1 = false → y.2 w') ∧ wpAnyY P ops dp Q fuel (Y.filter fun y => !dp j y.1) (listed.setIfInBounds j true) a' w') a w

theorem wpAny_of_Y {dp : Nat → Nat → Bool} : ∀ (fuel : Nat) (Y : List (Nat × (World → Prop))) (listed : Array Bool) (a : Act) (w : World), wpAnyY P ops dp Q fuel Y listed a w → wpAny P .any ops Q fuel listed a w
  | 0, _, _, _, _, h => h
  | fuel + 1, _, _, _, _, h => ⟨h.1, fun i hi => wpOp_mono (fun a' w' h' => wpAny_of_Y fuel _ _ a' w' h'.2) (h.2 i hi)⟩
theorem wpAnyY_less {dp : Nat → Nat → Bool} : ∀ (fuel : Nat) (Y Y' : List (Nat × (World → Prop))) (listed : Array Bool) (a : Act) (w : World), (∀ y ∈ Y', y ∈ Y) → wpAnyY P ops dp Q fuel Y listed a w → wpAnyY P ops dp Q fuel Y' listed a w
  | 0, _, _, _, _, _, _, h => h
  | fuel + 1, Y, Y', _, _, _, hY, h => ⟨h.1, fun i hi => wpOp_mono (fun a' w' h' => ⟨fun y hy hd => h'.1 y (hY y hy) hd, wpAnyY_less fuel _ _ _ a' w' (fun y hy => by
      rw [List.mem_filter] at hy ⊢
      exact ⟨hY y hy.1, hy.2⟩) h'.2⟩) (h.2 i hi)⟩

/-- Whoever is listed has those listed that it waits for. -/
def Closed (ops : Array Oper) (listed : Array Bool) : Prop := ∀ j o, ops[j]? = some o → listed.getD j false = true → ∀ e ∈ o.after, Region.binds .any e = true → listed.getD e.on false = true
theorem Closed.set {listed : Array Bool} (h : Closed ops listed) {i : Nat} (hi : i ∈ Region.ready .any ops listed) : Closed ops (listed.setIfInBounds i true) := by
  intro j o hj hl e he hb
  by_cases hij : i = j
  · subst hij
    obtain ⟨_, o', ho', hall⟩ := mem_ready.1 hi
    obtain rfl : o' = o := by rw [hj] at ho'; exact (Option.some.inj ho').symm
    exact getD_set_true (hall e he hb)
  · rw [getD_set_ne false hij] at hl
    exact getD_set_true (h j o hj hl e he hb)
theorem dep_closed {l : List Oper} {listed : Array Bool} (h : Closed l.toArray listed) : ∀ (f j i : Nat), listed.getD j false = true → dep l f j i = true → listed.getD i false = true
  | 0, _, _, _, hd => by cases hd
  | f + 1, j, i, hj, hd => by
    simp only [dep, Bool.and_eq_true] at hd
    obtain ⟨-, hd⟩ := hd
    split at hd
    · rename_i o ho
      obtain ⟨e, he, hb⟩ := List.any_eq_true.1 hd
      rw [Bool.and_eq_true, Bool.or_eq_true] at hb
      have h1 := h j o (by simpa using ho) hj e (by simpa using he) hb.1
      rcases hb.2 with h2 | h2
      · have : e.on = i := by simpa using h2
        rwa [this] at h1
      · exact dep_closed h f e.on i h1 h2
    · cases hd
theorem dep_ready {l : List Oper} {listed : Array Bool} (h : Closed l.toArray listed) {f j i : Nat} (hj : j ∈ Region.ready .any l.toArray listed) (hi : listed.getD i true = false) (hne : j ≠ i) : dep l f j i = false := by
  cases hd : dep l f j i with
  | false => rfl
  | true =>
    have hjl : (listed.setIfInBounds j true).getD j false = true := by
      have h0 := (mem_ready.1 hj).1
      rcases Nat.lt_or_ge j listed.size with h' | h'
      · simp [h']
      · simp [Array.getElem?_eq_none h'] at h0
    have h1 := dep_closed (h.set hj) f j i hjl hd
    rw [getD_set_ne false hne] at h1
    rcases Nat.lt_or_ge i listed.size with h' | h'
    · simp [h'] at h1 hi; rw [h1] at hi; cases hi
    · simp [Array.getElem?_eq_none h'] at hi

/-- An operation that may come up now may be taken first. -/
theorem wpAnyY_first {l : List Oper} {f : Nat} {i : Nat} {oi : Oper} {v : Value} {S : World → Prop} (hi : l.toArray[i]? = some oi) (hsel : ∀ (j : Nat) (o : Oper) cs b, l.toArray[j]? = some o → o.op ≠ .select cs b)
    (hQ : ∀ c a w, Q (.panic c) (a.put oi.dst v) w → Q (.panic c) a w) :
    ∀ (fuel : Nat) (Y : List (Nat × (World → Prop))) (listed : Array Bool) (a : Act) (w : World), Closed l.toArray listed →
      (∀ j oj, l.toArray[j]? = some oj → j ≠ i → listed.getD j true = false → (∀ e ∈ oj.after, Region.binds .any e = true → e.on ≠ i) → oi.apart l.toArray oj = true) →
      i ∈ Region.ready .any l.toArray listed → YieldsIf P l.toArray S oi v a → S w → (∀ y ∈ Y, y.2 w) →
      wpAnyY P l.toArray (dep l f) Q fuel ((i, S) :: Y) (listed.setIfInBounds i true) (a.put oi.dst v) w → wpAnyY P l.toArray (dep l f) Q (fuel + 1) Y listed a w := by
  intro fuel
  induction fuel with
  | zero =>
    intro Y listed a w hcl _ hr hy hS hYw H
    refine ⟨fun h => (by rw [h] at hr; cases hr), fun j hj => ?_⟩
    by_cases hji : j = i
    · subst hji; exact hy.wpOp hi hS ⟨fun y hy _ => hYw y hy, H⟩
    · have := ready_mono hj hji
      rw [H.1] at this
      cases this
  | succ fuel ih =>
    intro Y listed a w hcl hfree hr hy hS hYw H
    refine ⟨fun h => (by rw [h] at hr; cases hr), fun j hj => ?_⟩
    by_cases hji : j = i
    · subst hji
      exact hy.wpOp hi hS ⟨fun y hy _ => hYw y hy, wpAnyY_less _ _ _ _ _ _ (fun y hy => List.mem_cons_of_mem _ ((List.mem_filter.1 hy).1)) H⟩
    · have h1 := H.2 j (ready_mono hj hji)
      obtain ⟨hjun, oj, hoj, hall⟩ := mem_ready.1 hj
      have hdep : dep l f j i = false := dep_ready hcl hj (mem_ready.1 hr).1 hji
      have hnot : ∀ e ∈ oj.after, Region.binds .any e = true → e.on ≠ i := fun e he hb heq => by
        have h1 := hall e he hb
        have h0 := (mem_ready.1 hr).1
        rw [heq] at h1
        rcases Nat.lt_or_ge i listed.size with h' | h'
        · simp [h'] at h0 h1; rw [h0] at h1; cases h1
        · simp [Array.getElem?_eq_none h'] at h1
      have h2 := wpOp_putIf hoj (hfree j oj hoj hji hjun hnot) (fun cs b => hsel i oi cs b hi) (fun cs b => hsel j oj cs b hoj) hQ hy h1
      have hfree' : ∀ k ok, l.toArray[k]? = some ok → k ≠ i → (listed.setIfInBounds j true).getD k true = false →
          (∀ e ∈ ok.after, Region.binds .any e = true → e.on ≠ i) → oi.apart l.toArray ok = true := fun k ok hk hki hun hno => by
        refine hfree k ok hk hki ?_ hno
        by_cases hjk : j = k
        · subst hjk; exact hjun
        · rw [getD_set_ne true hjk] at hun; exact hun
      refine wpOp_mono (fun a' w' h3 => ?_) h2
      obtain ⟨h4, h5, h6⟩ := h3
      refine ⟨fun y hy hd => h5 y (List.mem_cons_of_mem _ hy) hd, ?_⟩
      refine ih _ (listed.setIfInBounds j true) a' w' (hcl.set hj) hfree' (ready_mono hr (Ne.symm hji)) h4 (h5 (i, S) (List.mem_cons_self ..) hdep) (fun y hy => ?_) ?_
      · rw [List.mem_filter] at hy
        exact h5 y (List.mem_cons_of_mem _ hy.1) (by simpa using hy.2)
      · rw [Array.setIfInBounds_comm _ _ hji, List.filter_cons_of_pos (by simp [hdep])] at *
        exact h6

theorem sel_some {i : Nat} {o : Oper} (h : ops[i]? = some o) : sel ops i = [o] := by simp [sel, h]
/-- What 'again' says of each. -/
theorem again_spec {T : Act → World → Prop} {a : Act} {w : World} : ∀ {ag : List Nat}, again P ops T ag a w → T a w ∧ ∀ i ∈ ag, ∀ o t, ops[i]? = some o → o.dst = some t → t < a.tmps.size → valueB o = true → Cond P ops o (slotOf a (some t)) a w
  | [], h => ⟨h, fun i hi => by cases hi⟩
  | i :: r, h => by
    have h0 : wpList P ops (Only fun _ a1 w1 => a1 = a ∧ w1 = w ∧ again P ops T r a w) (sel ops i) a w := h _ fun hr => ⟨rfl, rfl, rfl, hr⟩
    have key : again P ops T r a w ∧ ∀ o t, ops[i]? = some o → o.dst = some t → t < a.tmps.size → valueB o = true → Cond P ops o (slotOf a (some t)) a w := by
      cases hi : ops[i]? with
      | none =>
        have : sel ops i = [] := by simp [sel, hi]
        rw [this] at h0
        exact ⟨h0.2.2.2, fun o t ho => by cases ho⟩
      | some o =>
        rw [sel_some hi] at h0
        unfold wpList at h0
        by_cases hw : Region.wanted o (yielded ops a.tmps) = true
        · rw [if_pos hw] at h0
          have h1 := h0.resolve_right fun h => not_letsOut _ h.2
          have h2 := upon_cases (fun a w h => by cases h.1) (fun c a w h => by cases h.1) h1
          simp only [wpList, Only, true_and] at h2
          have h3 : again P ops T r a w := by
            rcases h2 with ⟨_, _, _, h⟩ | ⟨_, _, h⟩ | ⟨_, _, _, h⟩ | ⟨f, args, w', _, h⟩ | ⟨row, args, w', _, h⟩
            · exact h.2.2
            · exact h.2.2
            · exact h.2.2
            · obtain ⟨_, _, _, ⟨_, _, _, _, h⟩, _⟩ := h []
              exact h
            · obtain ⟨_, _, ⟨_, _, h⟩, _⟩ := h default []
              exact h
          refine ⟨h3, fun o' t ho ht hlt hv _ => ?_⟩
          obtain rfl : o = o' := Option.some.inj ho
          have hnv : ∀ {n : Next} {w' : World}, (execOp a.eval o).run P w = .ok n w' → ∃ v, n = .value v := fun h => valueB_spec hv h
          have hval : ∀ v w', (execOp a.eval o).run P w = .ok (.value v) w' → a.put o.dst v = a → w' = w → (execOp a.eval o).run P w = .ok (.value (slotOf a (some t))) w := by
            intro v w' hr hp hw'
            have : slotOf (a.put (some t) v) (some t) = v := slot_put v hlt
            rw [ht] at hp
            rw [hp] at this
            rw [hr, this, hw']
          rcases h2 with ⟨v, w', hr, h⟩ | ⟨_, hr, h⟩ | ⟨_, _, hr, h⟩ | ⟨f, args, w', hr, h⟩ | ⟨row, args, w', hr, h⟩
          · exact hval v w' hr h.1 h.2.1
          · obtain ⟨v, hv⟩ := hnv hr; cases hv
          · obtain ⟨v, hv⟩ := hnv hr; cases hv
          · obtain ⟨v, hv⟩ := hnv hr; cases hv
          · obtain ⟨v, hv⟩ := hnv hr; cases hv
        · rw [if_neg hw] at h0
          exact ⟨h0.2.2.2, fun o' t ho _ _ _ hw' => by obtain rfl : o = o' := Option.some.inj ho; exact absurd hw' hw⟩
    obtain ⟨h1, h2⟩ := again_spec key.1
    refine ⟨h1, fun k hk => ?_⟩
    cases hk with
    | head => exact key.2
    | tail _ hk => exact h2 k hk

theorem wpAnyY_done {dp : Nat → Nat → Bool} {listed : Array Bool} {Y : List (Nat × (World → Prop))} {a : Act} {w : World} (hr : Region.ready .any ops listed = []) (h : Q .normal a w) : ∀ fuel, wpAnyY P ops dp Q fuel Y listed a w
  | 0 => ⟨hr, h⟩
  | _ + 1 => ⟨fun _ => h, by rw [hr]; simp⟩
/-- The rule, by induction on the plan. -/
theorem wpAnyY_of_walk {l : List Oper} (hsel : ∀ (j : Nat) (o : Oper) cs b, l.toArray[j]? = some o → o.op ≠ .select cs b) :
    ∀ (p : Plan) (top : Bool) (fuel : Nat) (Y : List (Nat × (World → Prop))) (listed : Array Bool) (a : Act) (w : World), okB l top p fuel listed (Y.map (·.1)) = true → Closed l.toArray listed → (∀ y ∈ Y, y.2 w) → (∀ y ∈ Y, Taken P l.toArray a y) →
      (∀ (i : Nat) (o : Oper) (t : Tmp), l[i]? = some o → o.dst = some t → t < a.tmps.size) → walk P l.toArray Q p a w →
      (top = true → wpAnyY P l.toArray (dep l l.length) (Only Q) fuel Y listed a w) ∧
      ∀ j ∈ heads p, j ∈ Region.ready .any l.toArray listed → ∃ n, fuel = n + 1 ∧ wpOp P l.toArray (Only Q) j (fun a' w' => (∀ y ∈ Y, dep l l.length j y.1 = false → y.2 w') ∧
        wpAnyY P l.toArray (dep l l.length) (Only Q) n (Y.filter fun y => !dep l l.length j y.1) (listed.setIfInBounds j true) a' w') a w := by
  intro p
  induction p with
  | fin =>
    intro top fuel Y listed a w hok hcl hYw hT hsz hw
    refine ⟨fun _ => wpAnyY_done (by simpa [okB] using hok) ⟨rfl, hw⟩ fuel, fun j hj => by simp [heads] at hj⟩
  | take i p ih =>
    intro top fuel Y listed a w hok hcl hYw hT hsz hw
    refine ⟨fun _ => ?_, fun j hj => by simp [heads] at hj⟩
    cases fuel with
    | zero => simp [okB] at hok
    | succ n =>
      simp only [okB, Bool.and_eq_true] at hok
      obtain ⟨⟨⟨⟨hr, hf⟩, hv⟩, hY⟩, hok⟩ := hok
      cases hi : l[i]? with
      | none => rw [hi] at hv; cases hv
      | some oi =>
        have hia : l.toArray[i]? = some oi := by simpa using hi
        rw [hi] at hv
        simp only [Bool.and_eq_true] at hv
        obtain ⟨hv, hd⟩ := hv
        cases ht : oi.dst with
        | none => rw [ht] at hd; cases hd
        | some t =>
          rw [ht] at hd
          have hself : ∀ d, oi.dst = some d → d ∉ oi.looksAt l.toArray := by
            intro d hd'
            rw [ht] at hd'
            obtain rfl := Option.some.inj hd'
            simpa using hd
          have hlt := hsz i oi t hi ht
          have h0 : wpList P l.toArray (Only fun _ a1 w1 => w1 = w ∧ walk P l.toArray Q p a1 w) (sel l.toArray i) a w := hw _ fun a' h => ⟨rfl, rfl, h⟩
          rw [sel_some hia] at h0
          have hready : i ∈ Region.ready .any l.toArray listed := by simpa using hr
          -- its value
          obtain ⟨v, hy, hwk⟩ : ∃ v, YieldsIf P l.toArray (Cond P l.toArray oi v a) oi v a ∧ Cond P l.toArray oi v a w ∧ walk P l.toArray Q p (a.put oi.dst v) w := by
            unfold wpList at h0
            by_cases hw : Region.wanted oi (yielded l.toArray a.tmps) = true
            · rw [if_pos hw] at h0
              have h1 := h0.resolve_right fun h => not_letsOut _ h.2
              have h2 := upon_cases (fun a w h => by cases h.1) (fun c a w h => by cases h.1) h1
              simp only [wpList, Only, true_and] at h2
              rcases h2 with ⟨v, w', hr, h⟩ | ⟨_, hr, h⟩ | ⟨_, _, hr, h⟩ | ⟨f, args, w', hr, h⟩ | ⟨row, args, w', hr, h⟩
              · exact ⟨v, .inl ⟨hw, fun w' h => h hw⟩, fun _ => by rw [hr, h.1], h.2⟩
              · obtain ⟨v, hv⟩ := valueB_spec hv hr; cases hv
              · obtain ⟨v, hv⟩ := valueB_spec hv hr; cases hv
              · obtain ⟨v, hv⟩ := valueB_spec hv hr; cases hv
              · obtain ⟨v, hv⟩ := valueB_spec hv hr; cases hv
            · rw [if_neg hw] at h0
              exact ⟨undef, .inr ⟨by simpa using hw, rfl⟩, fun h => absurd h hw, h0.2.2⟩
          refine wpAnyY_first hia hsel (fun c a w h => by cases h.1) n Y listed a w hcl (Region.free_spec hia hf) hready hy hwk.1 hYw ?_
          refine (ih true n ((i, Cond P l.toArray oi v a) :: Y) _ _ w (by simpa using hok) (hcl.set hready) (fun y hy => ?_) (fun y hy => ?_) (fun i' o t h1 h2 => by rw [put_size]; exact hsz i' o t h1 h2) hwk.2).1 rfl
          · cases hy with
            | head => exact hwk.1
            | tail _ hy => exact hYw y hy
          · cases hy with
            | head =>
              refine ⟨oi, t, hia, ht, by rw [put_size]; exact hlt, hv, fun w' hc => ?_⟩
              rw [ht, slot_put v hlt, ← ht] at hc
              exact Cond.put (ds := a.defers) (hsel _ _ · · hia) hself hc
            | tail _ hy =>
              have hap := List.all_eq_true.1 hY y.1 (List.mem_map.2 ⟨y, hy, rfl⟩)
              exact Taken.put (hT y hy) hsel hi hap a.defers v
  | run e ag p ih =>
    intro top fuel Y listed a w hok hcl hYw hT hsz hw
    cases fuel with
    | zero => simp [okB] at hok
    | succ n =>
      simp only [okB, Bool.and_eq_true] at hok
      obtain ⟨⟨⟨⟨htop, hsome⟩, hre⟩, hY⟩, hok⟩ := hok
      have hB : ∀ j ∈ heads (.run e ag p), j ∈ Region.ready .any l.toArray listed → ∃ n', n + 1 = n' + 1 ∧ wpOp P l.toArray (Only Q) j (fun a' w' => (∀ y ∈ Y, dep l l.length j y.1 = false → y.2 w') ∧
          wpAnyY P l.toArray (dep l l.length) (Only Q) n' (Y.filter fun y => !dep l l.length j y.1) (listed.setIfInBounds j true) a' w') a w := by
        intro j hj hjr
        obtain rfl : j = e := by simpa [heads] using hj
        refine ⟨n, rfl, ?_⟩
        cases hi : l[j]? with
        | none => rw [hi] at hsome; cases hsome
        | some oj =>
          have hja : l.toArray[j]? = some oj := by simpa using hi
          have h0 : wpList P l.toArray (Only fun _ a1 w1 => again P l.toArray (walk P l.toArray Q p) ag a1 w1) (sel l.toArray j) a w := hw _ fun a' w' h => ⟨rfl, h⟩
          rw [sel_some hja] at h0
          refine wpOp_of_list hja (fun ds v w' h => ?_) h0
          obtain ⟨hwalk, hag⟩ := again_spec h
          have hT' : ∀ y ∈ Y, Taken P l.toArray ({ a with defers := ds }.put oj.dst v) y := fun y hy => by
            have hap := List.all_eq_true.1 hY y.1 (List.mem_map.2 ⟨y, hy, rfl⟩)
            rw [Bool.and_eq_true] at hap
            exact Taken.put (hT y hy) hsel hi hap.1 ds v
          have hobl : ∀ y ∈ Y, dep l l.length j y.1 = false → y.2 w' := fun y hy hd => by
            have hap := List.all_eq_true.1 hY y.1 (List.mem_map.2 ⟨y, hy, rfl⟩)
            rw [Bool.and_eq_true, hd, Bool.false_or] at hap
            obtain ⟨o, t, ho, ht, hlt, hv, hS⟩ := hT' y hy
            exact hS w' (hag y.1 (by simpa using hap.2) o t ho ht hlt hv)
          refine ⟨hobl, (ih true n _ _ _ w' ?_ (hcl.set hjr) (fun y hy => ?_) (fun y hy => hT' y (List.mem_filter.1 hy).1) (fun i' o t h1 h2 => by rw [put_size]; exact hsz i' o t h1 h2) hwalk).1 rfl⟩
          · rw [List.filter_map] at hok
            exact hok
          · rw [List.mem_filter] at hy
            exact hobl y hy.1 (by simpa using hy.2)
      refine ⟨fun ht => ⟨fun h0 => ?_, fun j hj => ?_⟩, hB⟩
      · rw [h0] at hre; cases hre
      · rw [ht] at htop
        have : e = j := by
          have h2 : ((Region.ready .any l.toArray listed).all fun j => e == j) = true := by simpa using htop
          have h1 := List.all_eq_true.1 h2 j hj
          simpa using h1
        subst this
        obtain ⟨n', hn, h⟩ := hB e (by simp [heads]) hj
        obtain rfl : n = n' := by omega
        exact h
  | fork p q ihp ihq =>
    intro top fuel Y listed a w hok hcl hYw hT hsz hw
    simp only [okB, Bool.and_eq_true] at hok
    obtain ⟨⟨⟨hany, htop⟩, hp⟩, hq⟩ := hok
    have h1 := (ihp false fuel Y listed a w hp hcl hYw hT hsz hw.1).2
    have h2 := (ihq false fuel Y listed a w hq hcl hYw hT hsz hw.2).2
    have hB : ∀ j ∈ heads (.fork p q), j ∈ Region.ready .any l.toArray listed → ∃ n, fuel = n + 1 ∧ wpOp P l.toArray (Only Q) j (fun a' w' => (∀ y ∈ Y, dep l l.length j y.1 = false → y.2 w') ∧
        wpAnyY P l.toArray (dep l l.length) (Only Q) n (Y.filter fun y => !dep l l.length j y.1) (listed.setIfInBounds j true) a' w') a w := by
      intro j hj hjr
      rcases List.mem_append.1 hj with h | h
      · exact h1 j h hjr
      · exact h2 j h hjr
    refine ⟨fun ht => ?_, hB⟩
    obtain ⟨j, hj, hjr⟩ := List.any_eq_true.1 hany
    have hjr' : j ∈ Region.ready .any l.toArray listed := by simpa using hjr
    obtain ⟨n, rfl, _⟩ := h1 j hj hjr'
    rw [ht] at htop
    have h3 : ((Region.ready .any l.toArray listed).all fun j => (heads p ++ heads q).contains j) = true := by simpa using htop
    refine ⟨fun h0 => (by rw [h0] at hjr'; cases hjr'), fun k hk => ?_⟩
    obtain ⟨n', hn, h⟩ := hB k (by have := List.all_eq_true.1 h3 k hk; simpa [heads] using this) hk
    obtain rfl : n = n' := by omega
    exact h

theorem wpOp_only {i : Nat} {a : Act} {w : World} {K : Act → World → Prop} (h : wpOp P ops (Only Q) i K a w) : wpOp P ops Q i K a w := by
  unfold wpOp at *
  split
  · rename_i ho; simp only [ho] at h; exact h
  · rename_i o ho
    simp only [ho] at h
    split
    · rename_i hw
      simp only [hw, if_true] at h
      have h1 := h.resolve_right fun h => not_letsOut _ h.2
      exact .inl (upon_back (fun _ _ _ h => h) (upon_cases (fun a w h => by cases h.1) (fun c a w h => by cases h.1) h1))
    · rename_i hw
      simp only [hw] at h
      exact h
theorem wpAny_only : ∀ (fuel : Nat) (listed : Array Bool) (a : Act) (w : World), wpAny P .any ops (Only Q) fuel listed a w → wpAny P .any ops Q fuel listed a w
  | 0, _, _, _, h => ⟨h.1, h.2.2⟩
  | fuel + 1, _, _, _, h => ⟨fun h0 => (h.1 h0).2, fun i hi => wpOp_mono (fun a' w' h' => wpAny_only fuel _ a' w' h') (wpOp_only (h.2 i hi))⟩

/-- All slots that the operations write are there. -/
def sizesB (l : List Oper) (n : Nat) : Bool := l.all fun o => match o.dst with | some t => Nat.blt t n | none => true
/-- **The rule.** -/
theorem wp_region_plan {id : Nat} {l : List Oper} {a : Act} {w : World} (p : Plan) (hm : P.follows .mixedOrders = true) (hs : Region.noSelect l.toArray = true) (hz : sizesB l a.tmps.size = true)
    (hok : okB l true p l.length (Array.replicate l.length false) [] = true) (h : walk P l.toArray Q p a w.drew) : (Code.region id l.toArray true).wp P Q a w := by
  refine wp_region_any hm (wpAny_only _ _ _ _ (wpAny_of_Y (dp := dep l l.length) _ [] _ _ _ ?_))
  have hsz : ∀ (i : Nat) (o : Oper) (t : Tmp), l[i]? = some o → o.dst = some t → t < a.tmps.size := by
    intro i o t hi ht
    have := List.all_eq_true.1 hz o (List.mem_of_getElem? hi)
    rw [ht] at this
    simpa using this
  have := (wpAnyY_of_walk (P := P) (Q := Q) (l := l) (Region.noSelect_spec hs) p true l.length [] (Array.replicate l.length false) a w.drew (by simpa using hok) (fun j o _ hj => by
      simp [Array.getD_eq_getD_getElem?, Array.getElem?_replicate] at hj
      split at hj <;> simp at hj) (fun y hy => by cases hy) (fun y hy => by cases hy) hsz h).1 rfl
  simpa using this
end
end Go.Proofs.Ythbanhedjfpmaaa
