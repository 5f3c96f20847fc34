/-
  A rule for a region that draws its order: whatever order is drawn, each operation is carried out once, behind those that it waits for.
  The prover says of each operation what its value is good for (R), what the world keeps (Inv), and how the world may turn from operation to operation (Grow).
-/
import Derived.Orders
import Derived.WalkKit
namespace Go.Proofs.Ythbanhedjfpmaaa
set_option linter.unusedSimpArgs false
set_option linter.unusedVariables false
open Go

/-- The frame in which operation number i of a region has the value v i. -/
def regFrame (ops : List Oper) (v : Nat → Value) (a : Act) : Act :=
  (ops.zipIdx.foldl (fun a (p : Oper × Nat) => a.put p.1.dst (v p.2)) a)

/-- The slot that an operation writes, as the frame has it. -/
def slotOf (a : Act) (d : Option Tmp) : Value := match d with | some t => a.tmps.getD t undef | none => undef

theorem put_self (a : Act) (d : Option Tmp) : a.put d (slotOf a d) = a := by
  cases d with
  | none => rfl
  | some t =>
    unfold Act.put slotOf
    simp only
    congr 1
    apply Array.ext
    · simp
    · intro i h1 h2
      by_cases h : t = i
      · subst h; simp [h2]
      · rw [Array.getElem_setIfInBounds_ne h2 h]

theorem put_put (a : Act) (d : Option Tmp) (u v : Value) : (a.put d u).put d v = a.put d v := by
  cases d with
  | none => rfl
  | some t =>
    unfold Act.put
    simp

/-- No slot is written twice. -/
def onceB (l : List Oper) : Bool := match l with
  | [] => true
  | o :: l => (match o.dst with | none => true | some d => l.all fun p => p.dst != some d) && onceB l
/-- Each waits for earlier ones alone. -/
def lowerB (l : List Oper) : Bool := l.zipIdx.all fun p => p.1.after.all fun e => !Region.binds .any e || decide (e.on < p.2)

theorem regFrame_go_put (d : Option Tmp) (u : Value) : ∀ (l : List Oper) (k : Nat) (v : Nat → Value) (a : Act), (∀ o ∈ l, ∀ t, d = some t → o.dst ≠ some t) →
    (l.zipIdx k).foldl (fun a (p : Oper × Nat) => a.put p.1.dst (v p.2)) (a.put d u) = ((l.zipIdx k).foldl (fun a (p : Oper × Nat) => a.put p.1.dst (v p.2)) a).put d u := by
  intro l
  induction l with
  | nil => intros; rfl
  | cons o l ih =>
    intro k v a h
    simp only [List.zipIdx_cons, List.foldl_cons]
    rw [Act.put_comm a u (v k) (fun t ht => h o (by simp) t ht), ih (k + 1) v _ (fun o' ho' => h o' (by simp [ho']))]

theorem regFrame_go_congr : ∀ (l : List Oper) (k : Nat) (v v' : Nat → Value) (a : Act), (∀ i, k ≤ i → i < k + l.length → v i = v' i) →
    (l.zipIdx k).foldl (fun a (p : Oper × Nat) => a.put p.1.dst (v p.2)) a = (l.zipIdx k).foldl (fun a (p : Oper × Nat) => a.put p.1.dst (v' p.2)) a := by
  intro l
  induction l with
  | nil => intros; rfl
  | cons o l ih =>
    intro k v v' a h
    simp only [List.zipIdx_cons, List.foldl_cons]
    rw [h k (by omega) (by simp), ih (k + 1) v v' _ (fun i h1 h2 => h i (by omega) (by simp; omega))]

theorem regFrame_go_upd : ∀ (l : List Oper) (k : Nat) (v : Nat → Value) (a : Act) (i : Nat) (o : Oper) (u : Value), onceB l = true → l[i]? = some o →
    (l.zipIdx k).foldl (fun a (p : Oper × Nat) => a.put p.1.dst ((fun j => if j = k + i then u else v j) p.2)) a =
      ((l.zipIdx k).foldl (fun a (p : Oper × Nat) => a.put p.1.dst (v p.2)) a).put o.dst u := by
  intro l
  induction l with
  | nil => intro k v a i o u _ h; simp at h
  | cons p l ih =>
    intro k v a i o u ho hi
    simp only [onceB, Bool.and_eq_true] at ho
    simp only [List.zipIdx_cons, List.foldl_cons]
    cases i with
    | zero =>
      simp only [List.getElem?_cons_zero, Option.some.injEq] at hi
      subst hi
      have hne : ∀ q ∈ l, ∀ t, p.dst = some t → q.dst ≠ some t := by
        intro q hq t ht
        have h1 := ho.1
        rw [ht] at h1
        simpa using List.all_eq_true.1 h1 q hq
      rw [← regFrame_go_put p.dst u l (k + 1) v _ hne, put_put]
      simp only [Nat.add_zero, if_true]
      exact regFrame_go_congr l (k + 1) (fun j => if j = k then u else v j) v _ (fun j h1 _ => if_neg (by omega))
    | succ i =>
      rw [if_neg (by omega)]
      have := ih (k + 1) v (a.put p.dst (v k)) i o u ho.2 (by simpa using hi)
      rw [← this]
      refine regFrame_go_congr l (k + 1) (fun j => if j = k + (i + 1) then u else v j) (fun j => if j = k + 1 + i then u else v j) _ (fun j _ _ => ?_)
      simp only [show k + (i + 1) = k + 1 + i from by omega]

theorem regFrame_upd (l : List Oper) (v : Nat → Value) (a : Act) (i : Nat) (o : Oper) (u : Value) (ho : onceB l = true) (hi : l[i]? = some o) :
    regFrame l (fun j => if j = i then u else v j) a = (regFrame l v a).put o.dst u := by
  have := regFrame_go_upd l 0 v a i o u ho hi
  simpa [regFrame] using this

theorem regFrame_start : ∀ (l : List Oper) (k : Nat) (a : Act) (v : Nat → Value), onceB l = true → (∀ i o, l[i]? = some o → v (k + i) = slotOf a o.dst) →
    (l.zipIdx k).foldl (fun a (p : Oper × Nat) => a.put p.1.dst (v p.2)) a = a := by
  intro l
  induction l with
  | nil => intros; rfl
  | cons p l ih =>
    intro k a v ho hv
    simp only [onceB, Bool.and_eq_true] at ho
    simp only [List.zipIdx_cons, List.foldl_cons]
    have h0 := hv 0 p (by simp)
    simp only [Nat.add_zero] at h0
    rw [h0, put_self]
    refine ih (k + 1) a v ho.2 fun i o hi => ?_
    have := hv (i + 1) o (by simpa using hi)
    rwa [show k + (i + 1) = k + 1 + i from by omega] at this

theorem filter_set : ∀ (L : List Bool) (i : Nat), L[i]? = some false → ((L.set i true).filter (· == false)).length + 1 ≤ (L.filter (· == false)).length
  | [], i, h => by simp at h
  | b :: L, 0, h => by
    simp at h
    subst h
    simp
  | b :: L, i + 1, h => by
    have := filter_set L i (by simpa using h)
    cases b <;> simp at this ⊢ <;> omega

section
variable {P : Program} {Q : Exit → Act → World → Prop}

/-- What is asked of operation i: run in the frame 'a' and the world 'w' it comes to a value and a world of which 'T' holds. -/
def opDoes (P : Program) (ops : List Oper) (o : Oper) (Q : Exit → Act → World → Prop) (a : Act) (w : World) (T : Value → World → Prop) : Prop :=
  ∀ K : Act → World → Prop, (∀ x w', T x w' → K (a.put o.dst x) w') →
    if Region.wanted o (yielded ops.toArray a.tmps) then o.wp P a w K Q else K (a.put o.dst undef) w

theorem wp_region_rel0 {id : Nat} {l : List Oper} {a : Act} {w : World} (hm : P.follows .mixedOrders = true) (honce : onceB l = true) (hlow : lowerB l = true)
    (Inv : World → Prop) (Grow : World → World → Prop) (R : Nat → Value → World → Prop)
    (hInv : ∀ w w', Inv w → Grow w w' → Inv w') (hR : ∀ i x w w', Inv w → Grow w w' → R i x w → R i x w')
    (h0 : Inv w.drew)
    (hstep : ∀ i o, l[i]? = some o → ∀ v w', Inv w' →
      (∀ e ∈ o.after, Region.binds .any e = true → R e.on (v e.on) w') →
      (∀ j o', l[j]? = some o' → (∃ e ∈ o'.after, Region.binds .any e = true ∧ e.on = i) → v j = slotOf a o'.dst) →
      opDoes P l o Q (regFrame l v a) w' fun x w'' => Grow w' w'' ∧ R i x w'')
    (hend : ∀ v w', Inv w' → (∀ i, i < l.length → R i (v i) w') → Q .normal (regFrame l v a) w') :
    (Code.region id l.toArray true).wp P Q a w := by
  refine wp_region_any hm ?_
  have hlt : ∀ j o, l[j]? = some o → ∀ e ∈ o.after, Region.binds .any e = true → e.on < j := by
    intro j o hj e he hb
    have h1 : (o, j) ∈ l.zipIdx := by
      rw [List.mem_zipIdx_iff_getElem?]; exact hj
    have h2 := List.all_eq_true.1 hlow (o, j) h1
    have h3 := Array.all_eq_true_iff_forall_mem.1 h2 e he
    simpa [hb] using h3
  -- the state between two operations
  have key : ∀ (fuel : Nat) (listed : Array Bool) (v : Nat → Value) (w' : World), listed.size = l.length → Inv w' →
      (∀ i, listed.getD i false = true → R i (v i) w') → (∀ i o, l[i]? = some o → listed.getD i false = false → v i = slotOf a o.dst) →
      (∀ j o, l[j]? = some o → listed.getD j false = true → ∀ e ∈ o.after, Region.binds .any e = true → listed.getD e.on false = true) →
      (listed.toList.filter (· == false)).length ≤ fuel →
      wpAny P .any l.toArray Q fuel listed (regFrame l v a) w' := by
    have hdone : ∀ (listed : Array Bool), listed.size = l.length → Region.ready .any l.toArray listed = [] → ∀ i, i < l.length → listed.getD i false = true := by
      intro listed hs hr i
      induction i using Nat.strongRecOn with
      | _ i ih =>
        intro hi
        have hs' : i < listed.size := by omega
        cases hg : listed.getD i false with
        | true => rfl
        | false =>
          exfalso
          have : i ∈ Region.ready .any l.toArray listed := by
            rw [mem_ready]
            refine ⟨?_, l[i], by simp [hi], fun e he hb => ?_⟩
            · simp only [Array.getD_eq_getD_getElem?, Array.getElem?_eq_getElem hs'] at hg ⊢
              simpa using hg
            · have h1 := hlt i l[i] (List.getElem?_eq_getElem hi) e he hb
              exact ih e.on h1 (by omega)
          rw [hr] at this
          cases this
    intro fuel
    induction fuel with
    | zero =>
      intro listed v w' hs hI hR1 hV hC hf
      have hall : ∀ i, i < l.length → listed.getD i false = true := by
        intro i hi
        have hs' : i < listed.size := by omega
        cases hg : listed.getD i false with
        | true => rfl
        | false =>
          exfalso
          have h1 : listed[i] = false := by simpa [Array.getD_eq_getD_getElem?, Array.getElem?_eq_getElem hs'] using hg
          have h2 : false ∈ listed.toList.filter (· == false) := by
            rw [List.mem_filter]
            exact ⟨by rw [← h1]; simp, rfl⟩
          have := List.length_pos_of_mem h2
          omega
      refine ⟨?_, hend v w' hI fun i hi => hR1 i (hall i hi)⟩
      have : ∀ j, j ∉ Region.ready .any l.toArray listed := by
        intro j hj
        rw [mem_ready] at hj
        obtain ⟨h1, o, ho, _⟩ := hj
        have hjl : j < l.length := by
          have := (Array.getElem?_eq_some_iff.1 ho).1
          simpa using this
        have h2 := hall j hjl
        have hs' : j < listed.size := by omega
        simp only [Array.getD_eq_getD_getElem?, Array.getElem?_eq_getElem hs', Option.getD_some] at h1 h2
        rw [h1] at h2
        cases h2
      exact List.eq_nil_iff_forall_not_mem.2 this
    | succ fuel ih =>
      intro listed v w' hs hI hR1 hV hC hf
      refine ⟨fun hr => hend v w' hI fun i hi => hR1 i (hdone listed hs hr i hi), fun i hi => ?_⟩
      rw [mem_ready] at hi
      obtain ⟨h1, o, ho, hall⟩ := hi
      have hil : i < l.length := by
        have := (Array.getElem?_eq_some_iff.1 ho).1
        simpa using this
      have hol : l[i]? = some o := by simpa using ho
      have hs' : i < listed.size := by omega
      have hif : listed.getD i false = false := by
        simp only [Array.getD_eq_getD_getElem?, Array.getElem?_eq_getElem hs', Option.getD_some] at h1 ⊢
        exact h1
      have hst := hstep i o hol v w' hI (fun e he hb => hR1 e.on (hall e he hb)) (by
        rintro j o' hj ⟨e, he, hb, rfl⟩
        refine hV j o' hj ?_
        cases hg : listed.getD j false with
        | false => rfl
        | true =>
          have := hC j o' hj hg e he hb
          rw [hif] at this
          cases this)
      have hK : ∀ x w'', Grow w' w'' ∧ R i x w'' → wpAny P .any l.toArray Q fuel (listed.setIfInBounds i true) ((regFrame l v a).put o.dst x) w'' := by
        rintro x w'' ⟨hg, hr⟩
        rw [← regFrame_upd l v a i o x honce hol]
        have hgd : ∀ j, (listed.setIfInBounds i true).getD j false = if j = i then true else listed.getD j false := by
          intro j
          by_cases hji : j = i
          · subst hji; simp [Array.getD_eq_getD_getElem?, hs']
          · rw [if_neg hji]; simp [Array.getD_eq_getD_getElem?, Array.getElem?_setIfInBounds_ne (Ne.symm hji)]
        refine ih _ _ w'' (by simpa using hs) (hInv w' w'' hI hg) ?_ ?_ ?_ ?_
        · intro j hj
          rw [hgd] at hj
          by_cases hji : j = i
          · subst hji; simpa using hr
          · simp only [if_neg hji] at hj ⊢
            exact hR j _ _ _ hI hg (hR1 j hj)
        · intro j o' hj hjf
          rw [hgd] at hjf
          by_cases hji : j = i
          · simp [hji] at hjf
          · simp only [if_neg hji] at hjf ⊢
            exact hV j o' hj hjf
        · intro j o' hj hjt e he hb
          rw [hgd] at hjt ⊢
          by_cases hei : e.on = i
          · simp [hei]
          · rw [if_neg hei]
            by_cases hji : j = i
            · subst hji
              have : o' = o := by rw [hj] at hol; exact Option.some.inj hol
              subst this
              exact hall e he hb
            · rw [if_neg hji] at hjt
              exact hC j o' hj hjt e he hb
        · have hlen : ((listed.setIfInBounds i true).toList.filter (· == false)).length + 1 ≤ (listed.toList.filter (· == false)).length := by
            rw [Array.toList_setIfInBounds]
            have hx : listed.toList[i]? = some false := by
              have := h1
              simp only [Array.getD_eq_getD_getElem?, Array.getElem?_eq_getElem hs', Option.getD_some] at this
              simp [hs', this]
            exact filter_set _ i hx
          omega
      unfold wpOp
      rw [ho]
      have h2 := hst _ hK
      simp only
      split
      · rename_i hw
        rw [if_pos hw] at h2
        exact .inl h2
      · rename_i hw
        rw [if_neg hw] at h2
        exact h2
  have hst : regFrame l (fun i => slotOf a ((l[i]?).bind (·.dst))) a = a := by
    unfold regFrame
    refine regFrame_start l 0 a (fun i => slotOf a ((l[i]?).bind (·.dst))) honce fun i o hi => ?_
    simp [hi]
  have := key l.length (Array.replicate l.length false) (fun i => slotOf a ((l[i]?).bind (·.dst))) w.drew (by simp) h0 (by
    intro i hi
    simp [Array.getD_eq_getD_getElem?, Array.getElem?_replicate] at hi
    split at hi <;> simp at hi) (by
    intro i o hi _
    simp [hi]) (by
    intro j o _ hj
    simp [Array.getD_eq_getD_getElem?, Array.getElem?_replicate] at hj
    split at hj <;> simp at hj) (by simp)
  rw [hst] at this
  simpa using this

/-- Of each operation of a list, in turn. -/
def AllOps (F : Nat → Oper → Prop) : List Oper → Nat → Prop
  | [], _ => True
  | o :: l, k => F k o ∧ AllOps F l (k + 1)
/-- Of each operation that is waited for. -/
def Deps (F : Nat → Prop) : List Edge → Prop
  | [] => True
  | e :: l => (if Region.binds .any e then F e.on else True) ∧ Deps F l
theorem AllOps.get {F : Nat → Oper → Prop} : ∀ {l : List Oper} {k : Nat}, AllOps F l k → ∀ i o, l[i]? = some o → F (k + i) o
  | [], _, _, i, o, h => by simp at h
  | p :: l, k, ha, 0, o, h => by simp at h; subst h; exact ha.1
  | p :: l, k, ha, i + 1, o, h => by
    have := AllOps.get ha.2 i o (by simpa using h)
    rwa [show k + (i + 1) = k + 1 + i from by omega]
theorem AllOps.of {F : Nat → Oper → Prop} : ∀ {l : List Oper} (k : Nat), (∀ i o, i < l.length → F (k + i) o) → AllOps F l k
  | [], _, _ => trivial
  | o :: l, k, h => ⟨h 0 o (by simp), AllOps.of (k + 1) fun i p hi => by
      have := h (i + 1) p (by simpa using hi)
      rwa [show k + (i + 1) = k + 1 + i from by omega] at this⟩
theorem Deps.of {F : Nat → Prop} : ∀ {l : List Edge}, (∀ e ∈ l, Region.binds .any e = true → F e.on) → Deps F l
  | [], _ => trivial
  | e :: l, h => ⟨by
      split
      · rename_i hb; exact h e (by simp) hb
      · trivial, Deps.of fun e' he' => h e' (by simp [he'])⟩

/-- The same, the frame written out by the prover's own hand: G. -/
theorem wp_region_rel {id : Nat} {l : List Oper} {a : Act} {w : World} (Inv : World → Prop) (Grow : World → World → Prop) (R : Nat → Value → World → Prop)
    (G : (Nat → Value) → Act) (hG : ∀ v, regFrame l v a = G v) (hm : P.follows .mixedOrders = true) (honce : onceB l = true) (hlow : lowerB l = true)
    (hInv : ∀ w w', Inv w → Grow w w' → Inv w') (hR : ∀ i x w w', Inv w → Grow w w' → R i x w → R i x w')
    (h0 : Inv w.drew)
    (hstep : AllOps (fun i o => ∀ v w', Inv w' → Deps (fun j => R j (v j) w') o.after.toList →
      (∀ j o', l[j]? = some o' → (∃ e ∈ o'.after, Region.binds .any e = true ∧ e.on = i) → v j = slotOf a o'.dst) →
      opDoes P l o Q (G v) w' fun x w'' => Grow w' w'' ∧ R i x w'') l 0)
    (hend : ∀ v w', Inv w' → AllOps (fun i _ => R i (v i) w') l 0 → Q .normal (G v) w') :
    (Code.region id l.toArray true).wp P Q a w :=
  wp_region_rel0 hm honce hlow Inv Grow R hInv hR h0 (fun i o hi v w' hI hd hj => by
    rw [hG]
    have := hstep.get i o hi
    simp only [Nat.zero_add] at this
    exact this v w' hI (Deps.of fun e he hb => hd e (by simpa using he) hb) hj) (fun v w' hI h => by rw [hG]; exact hend v w' hI (AllOps.of (l := l) (F := fun i _ => R i (v i) w') 0 fun i _ hi => by simpa using h i hi))

section
variable {l : List Oper} {o : Oper} {a : Act} {w : World} {T : Value → World → Prop}
/-- An operation that is always wanted. -/
theorem opDoes_plain (hg : o.guard = none) (h : ∀ K : Act → World → Prop, (∀ x w', T x w' → K (a.put o.dst x) w') → o.wp P a w K Q) : opDoes P l o Q a w T := fun K hK => by
  rw [if_pos (by simp [Region.wanted, hg])]
  exact h K hK
/-- move, assign -/
theorem opDoes_move (x : Operand) (hg : o.guard = none) (ho : o.op = .move x) (h : T (a.eval x) w) : opDoes P l o Q a w T :=
  opDoes_plain hg fun _ hK => BigFrame.wp_move x ho (hK _ _ h)
theorem opDoes_assign (x : Operand) (hg : o.guard = none) (ho : o.op = .assign x) (h : T (a.eval x) w) : opDoes P l o Q a w T :=
  opDoes_plain hg fun _ hK => BigFrame.wp_assign x ho (hK _ _ h)
/-- An operation that comes to a value at once. -/
theorem opDoes_run {x : Value} {w' : World} (hg : o.guard = none) (hr : (execOp a.eval o).run P w = .ok (.value x) w') (h : T x w') : opDoes P l o Q a w T :=
  opDoes_plain hg fun K hK => by
    unfold Oper.wp
    rw [hr]
    exact hK _ _ h
/-- An operation under a guard, whose temporary holds what it asks for. -/
theorem wanted_guard {j d : Nat} {b : Bool} {oj : Oper} (hg : o.guard = some (j, b)) (hj : l[j]? = some oj) (hd : oj.dst = some d) (hv : a.tmps[d]? = some (.bool b)) :
    Region.wanted o (yielded l.toArray a.tmps) = true := by
  have hy : yielded l.toArray a.tmps j = some b := by simp [yielded, hj, hd, hv]
  simp [Region.wanted, hg, hy]
theorem opDoes_want (hw : Region.wanted o (yielded l.toArray a.tmps) = true) (h : ∀ K : Act → World → Prop, (∀ x w', T x w' → K (a.put o.dst x) w') → o.wp P a w K Q) : opDoes P l o Q a w T := fun K hK => by
  rw [if_pos hw]
  exact h K hK
theorem opDoes_gmove (x : Operand) (hw : Region.wanted o (yielded l.toArray a.tmps) = true) (ho : o.op = .move x) (h : T (a.eval x) w) : opDoes P l o Q a w T :=
  opDoes_want hw fun _ hK => BigFrame.wp_move x ho (hK _ _ h)
theorem opDoes_grun {x : Value} {w' : World} (hw : Region.wanted o (yielded l.toArray a.tmps) = true) (hr : (execOp a.eval o).run P w = .ok (.value x) w') (h : T x w') : opDoes P l o Q a w T :=
  opDoes_want hw fun K hK => by
    unfold Oper.wp
    rw [hr]
    exact hK _ _ h
/-- An operation under a guard, whose temporary holds the other truth. -/
theorem opDoes_skipped {j d : Nat} {b : Bool} {oj : Oper} (hg : o.guard = some (j, b)) (hj : l[j]? = some oj) (hd : oj.dst = some d) (hv : a.tmps[d]? = some (.bool (!b)))
    (h : T undef w) : opDoes P l o Q a w T := fun K hK => by
  have hy : yielded l.toArray a.tmps j = some (!b) := by simp [yielded, hj, hd, hv]
  rw [if_neg (by simp [Region.wanted, hg, hy])]
  exact hK _ _ h
/-- A call of a function that the text names. -/
theorem opDoes_call (f : FuncId) (xs : Array Operand) (ats : Array TypeId) (args : Array Value) (hg : o.guard = none) (ho : o.op = .call { callee := .value (.func f), args := xs, argTypes := ats })
    (ha : xs.map a.eval = args) (hf : (callFunc f args).run P w = .ok (.enter f args) w) (h : Calls P f args w fun e w' => ∃ x, e = .returned x ∧ T x w') : opDoes P l o Q a w T :=
  opDoes_plain hg fun K hK => by
    obtain ⟨dst, op, type, pos, after, guard⟩ := o
    simp only at ho
    subst ho
    unfold Oper.wp
    rw [execOp_call_go]
    simp only [Array.empty_append, Array.append_empty, ha, hf, Oper.upon_enter]
    refine h.mono fun e w' hx => ?_
    obtain ⟨x, rfl, hT⟩ := hx
    exact hK _ _ hT
end
end
end Go.Proofs.Ythbanhedjfpmaaa
