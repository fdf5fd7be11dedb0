/- A region that draws its order of evaluation, walked in ONE order: the theorem. Over any program. -/
import Derived.Test.YtjojhfphlnfimaaGreatDoorReg
import Derived.OrdersHeld
namespace Go.Proofs.YtjojhfphlnfimaaGreatDoor.J
open Go Go.RowKit
set_option linter.unusedSimpArgs false
set_option linter.unusedVariables false

/-- Kinds of operations that only yield, whatever the memory. -/
def plainKind (P : Program) : Go.Op → Bool
  | .move _ | .assign _ | .pick .. | .nilCheck _ | .field .. | .index .. | .indexAddr .. | .extract .. | .unOp .. | .slice .. | .build .. | .makeInterface .. => true
  | .fieldAddr s _ f => fieldHasCells P s f
  | .binOp op t _ _ _ => match op with
    | .eql | .neq => (match P.underlying t with | some (.int _) => true | _ => false)
    | _ => true
  | .convert _ d _ => match P.underlying d with | some (.int _) => true | _ => false
  | .call { callee := .builtin .len, args := a, .. } => a.size == 1
  | _ => false
def loadKind : Go.Op → Bool
  | .load .. => true
  | _ => false
/-- Kinds that make memory and change none. -/
def keepKind : Go.Op → Bool
  | .alloc .. | .box .. | .buildSlice .. => true
  | _ => false
def isInt : Value → Bool
  | .int .. => true
  | _ => false
/-- What must be known of the operands. -/
def dynOk (ρ : Operand → Value) : Go.Op → Bool
  | .nilCheck x => match ρ x with | .pointer _ => true | _ => false
  | .binOp _ _ x y _ => isInt (ρ x) && isInt (ρ y)
  | .convert _ _ x => isInt (ρ x)
  | .call { callee := .builtin .len, args := a, .. } => match a[0]? with | some x => (match ρ x with | .slice .. => true | _ => false) | none => false
  | _ => true
/-- Are operands to be asked? -/
def dynKind : Go.Op → Bool
  | .nilCheck _ | .binOp .. | .convert .. | .call .. => true
  | _ => false

section
variable {P : Program}
theorem plainKind_yields (o : Oper) (ρ : Operand → Value) (hk : plainKind P o.op = true) (hd : dynOk ρ o.op = true) : Yields1 P o ρ := by
  obtain ⟨dst, op, type, pos, after, guard⟩ := o
  intro w n w1 hr
  unfold execOp at hr ⊢
  cases op <;> simp only [plainKind, Bool.false_eq_true] at hk <;> simp only [] at hr ⊢
  case move x => rw [Sem.run_pure] at hr; cases hr; exact ⟨⟨_, rfl⟩, rfl, fun w' => rfl⟩
  case assign x => rw [Sem.run_pure] at hr; cases hr; exact ⟨⟨_, rfl⟩, rfl, fun w' => rfl⟩
  case pick c a b =>
    obtain ⟨v, w2, h1, h2⟩ := run_bind_ok hr
    obtain ⟨rfl, h3⟩ := plain_asBool _ _ _ _ h1
    have hb : ∀ w', (asBool (ρ c) >>= fun b_1 => pure (Go.Next.value (if b_1 = true then ρ a else ρ b)) : Sem Go.Next).run P w' = .ok n w' := fun w' => by
      rw [Sem.run_bind, h3 w']
      have : (pure (Go.Next.value (if v = true then ρ a else ρ b)) : Sem Go.Next).run P w2 = .ok n w1 := by simpa using h2
      rw [Sem.run_pure] at this
      cases this
      rfl
    rw [Sem.run_pure] at h2
    cases h2
    exact ⟨⟨_, rfl⟩, rfl, hb⟩
  case nilCheck x =>
    simp only [dynOk] at hd
    cases hx : ρ x <;> rw [hx] at hd hr <;> simp only [Bool.false_eq_true] at hd
    rename_i q
    cases q with
    | none => exact absurd hr (never_panic _ _ _ _)
    | some ad => rw [Sem.run_pure] at hr; cases hr; exact ⟨⟨_, rfl⟩, rfl, fun w' => rfl⟩
  case fieldAddr s x f => exact plain_value (plain_fieldAt s _ f hk) _ _ _ hr
  case field t x f => exact plain_value (plain_field _ _ _) _ _ _ hr
  case index t x i => exact plain_value (plain_index _ _ _) _ _ _ hr
  case indexAddr t x i => exact plain_value (plain_indexAt _ _ _) _ _ _ hr
  case extract t i => exact plain_value (plain_extract _ _) _ _ _ hr
  case unOp op t x => exact plain_value (plain_unary _ _) _ _ _ hr
  case slice t x lo hi mx => exact plain_value (plain_sliceAt _ _ _ _ _) _ _ _ hr
  case build t ps => exact plain_value (plain_build _ _) _ _ _ hr
  case makeInterface t x => exact plain_value (plain_makeInterface _ _) _ _ _ hr
  case binOp op t x y ty =>
    simp only [dynOk, Bool.and_eq_true] at hd
    cases hx : ρ x <;> rw [hx] at hd hr <;> simp only [isInt, Bool.false_eq_true, false_and] at hd
    cases hy : ρ y <;> rw [hy] at hd hr <;> simp only [isInt, Bool.false_eq_true, and_false] at hd
    exact plain_value ((plain_eqGuard _ _ _ _ _ _ _ _).bind fun _ => plain_binOp _ _ _ _ _ _) _ _ _ hr
  case convert s d x =>
    simp only [dynOk] at hd
    cases hx : ρ x <;> rw [hx] at hd hr <;> simp only [isInt, Bool.false_eq_true] at hd
    split at hk
    · rename_i kd hkd
      exact plain_value (plain_convert _ _ _ _ _ hkd) _ _ _ hr
    · cases hk
  case call c =>
    obtain ⟨callee, args, argTypes⟩ := c
    cases callee with
    | builtin b =>
      cases b <;> simp only [Bool.false_eq_true] at hk
      obtain ⟨l⟩ := args
      rcases l with _ | ⟨x, _ | ⟨y, r⟩⟩
      · simp at hk
      · simp [dynOk] at hd
        cases hx : ρ x <;> rw [hx] at hd <;> simp only [Bool.false_eq_true] at hd
        rename_i A n0 c0
        have key : ∀ w', (resolve ρ { callee := .builtin .len, args := #[x], argTypes := argTypes } type >>= fun d => invoke d.target d.args).run P w' = (do pure (Next.value (← Builtin.len_ argTypes type #[.slice A n0 c0])) : Sem Go.Next).run P w' := by
          intro w'
          simp [resolve, invoke, builtin, hx]
        have hr2 : (do pure (Next.value (← Builtin.len_ argTypes type #[.slice A n0 c0])) : Sem Go.Next).run P w = .ok n w1 := (key w).symm.trans hr
        obtain ⟨q1, q2, q3⟩ := plain_value (plain_len argTypes type A n0 c0) w n w1 hr2
        exact ⟨q1, q2, fun w' => (key w').trans (q3 w')⟩
      · simp at hk
    | value f => simp only [Bool.false_eq_true] at hk
    | invoke r m => simp only [Bool.false_eq_true] at hk
theorem loadKind_yields (o : Oper) (ρ : Operand → Value) (hk : loadKind o.op = true) : Yields2 P o ρ := by
  obtain ⟨dst, op, type, pos, after, guard⟩ := o
  intro w n w1 hr
  unfold execOp at hr ⊢
  cases op <;> simp only [loadKind, Bool.false_eq_true] at hk <;> simp only [] at hr ⊢
  exact calm_value (calm_loadAt _ _) _ _ _ hr
theorem keeping_value {s : Sem Value} (h : Keeping P s) : Keeping P (do pure (Next.value (← s)) : Sem Go.Next) :=
  h.bind fun _ => (Plain.ret _).calm.keeping
theorem keeping_newRow (e : TypeId) (cs : Array Value) : Keeping P (newRow e cs) := by
  intro w a w1 hr
  unfold newRow newObj at hr
  simp only [bind, Sem.bind, pure, Sem.run] at hr
  cases hr
  exact Old.alloc w _
theorem keepKind_keeps (o : Oper) (ρ : Operand → Value) (hk : keepKind o.op = true) : Keeping P (execOp ρ o) := by
  obtain ⟨dst, op, type, pos, after, guard⟩ := o
  unfold execOp
  cases op <;> simp only [keepKind, Bool.false_eq_true] at hk <;> simp only []
  case alloc e =>
    refine keeping_value ?_
    unfold Instr.alloc
    refine (plain_zeroValue e).calm.keeping.bind fun z => ?_
    split
    · rename_i h _; cases h
    · unfold newVar; exact (keeping_newRow _ _).bind fun _ => (Plain.ret _).calm.keeping
  case box e x =>
    refine keeping_value ?_
    unfold Instr.box newVar
    exact (keeping_newRow _ _).bind fun _ => (Plain.ret _).calm.keeping
  case buildSlice t n ps =>
    refine keeping_value ?_
    unfold Instr.buildSlice
    refine (plain_underlying t).calm.keeping.bind fun d => ?_
    cases d <;> simp only []
    case slice el =>
      refine (plain_sizeOf _).calm.keeping.bind fun s => ?_
      by_cases hbig : n * s > 2 ^ 24
      · rw [if_pos hbig]
        exact (Never.bind (Never.halt _)).plain.calm.keeping
      · rw [if_neg hbig]
        refine (Plain.ret _).calm.keeping.bind fun _ => ?_
        dsimp only
        rename_i dd
        cases dd with
        | isFalse h =>
          dsimp only
          refine (plain_zeroValue _).calm.keeping.bind fun z => (Plain.ret _).calm.keeping.bind fun _ => ?_
          split
          · exact (keeping_newRow _ _).bind fun _ => (Plain.ret _).calm.keeping
          · exact (Never.halt _).plain.calm.keeping
        | isTrue h =>
          dsimp only
          refine (Plain.ret _).calm.keeping.bind fun _ => ?_
          split
          · exact (keeping_newRow _ _).bind fun _ => (Plain.ret _).calm.keeping
          · exact (Never.halt _).plain.calm.keeping
    all_goals exact (Never.halt _).plain.calm.keeping
end

/-! ### The walk in one order -/
section
variable {P : Program} {ops : Array Oper} {Q : Exit → Act → World → Prop} {md : Region.Mode}

/-- As 'wpAny', but behind the operations that 'late' names what was there is there. -/
def wpAnyL (P : Program) (md : Region.Mode) (ops : Array Oper) (Q : Exit → Act → World → Prop) (late : Nat → Bool) : Nat → Array Bool → Act → World → Prop
  | 0, listed, a, w => Region.ready md ops listed = [] ∧ Q .normal a w
  | fuel + 1, listed, a, w =>
    (Region.ready md ops listed = [] → Q .normal a w) ∧
    ∀ i ∈ Region.ready md ops listed, wpOp P ops Q i (fun a' w' => (late i = true → Old w w') ∧ wpAnyL P md ops Q late fuel (listed.setIfInBounds i true) a' w') a w
theorem wpAny_of_late {late : Nat → Bool} : ∀ (fuel : Nat) (listed : Array Bool) (a : Act) (w : World), wpAnyL P md ops Q late fuel listed a w → wpAny P md ops Q fuel listed a w
  | 0, _, _, _, h => h
  | fuel + 1, _, _, _, h => ⟨h.1, fun i hi => wpOp_mono (fun a' w' h' => wpAny_of_late fuel _ a' w' h'.2) (h.2 i hi)⟩

/-- What waits for what, as bits. -/
def waits (ops : Array Oper) (j h : Nat) : Bool := ((Region.before ops).getD j 0).testBit h
/-- The bits are the edges', closed. -/
def closed (md : Region.Mode) (ops : Array Oper) : Bool :=
  (List.range ops.size).all fun j => (List.range ops.size).all fun h => !waits ops j h || match ops[j]? with
    | some o => o.after.any fun e => Region.binds md e && (e.on == h || waits ops e.on h)
    | none => true
/-- A load that may come up on either side of operation j. -/
def late (ops : Array Oper) (j : Nat) : Bool :=
  (List.range ops.size).any fun h => h != j && !waits ops j h && !waits ops h j && match ops[h]? with | some o => loadKind o.op | none => false
/-- What has come up holds all that it waited for. -/
def Down (ops : Array Oper) (listed : Array Bool) : Prop := ∀ j h, j < ops.size → h < ops.size → listed.getD j false = true → waits ops j h = true → listed.getD h false = true

theorem Down.ready (hc : closed md ops = true) {listed : Array Bool} (h : Down ops listed) {j x : Nat} (hj : j ∈ Region.ready md ops listed) (hx : x < ops.size) (hw : waits ops j x = true) : listed.getD x false = true := by
  obtain ⟨hun, o, ho, hall⟩ := mem_ready.1 hj
  have hjlt : j < ops.size := (Array.getElem?_eq_some_iff.1 ho).1
  have h1 := List.all_eq_true.1 hc j (List.mem_range.2 hjlt)
  have h2 := List.all_eq_true.1 h1 x (List.mem_range.2 hx)
  rw [hw, ho] at h2
  simp only [Bool.not_true, Bool.false_or] at h2
  obtain ⟨e, he, hb⟩ := Array.any_eq_true'.1 h2
  simp only [Bool.and_eq_true, Bool.or_eq_true, beq_iff_eq] at hb
  have hl := hall e he hb.1
  rcases hb.2 with rfl | h3
  · exact hl
  · by_cases hlt : e.on < ops.size
    · exact h e.on x hlt hx hl h3
    · exfalso
      unfold waits at h3
      rw [Array.getD_eq_getD_getElem?, Array.getElem?_eq_none] at h3
      · simp at h3
      · have : (Region.before ops).size = ops.size := by
          unfold Region.before
          rw [← Array.foldl_toList]
          have : ∀ (l : List Oper) (acc : Array Nat), (l.foldl (fun acc o => acc.push (o.after.foldl (fun s e => if Region.binds .any e then s ||| 2 ^ e.on ||| acc.getD e.on 0 else s) 0)) acc).size = acc.size + l.length := by
            intro l
            induction l with
            | nil => intro acc; rfl
            | cons x l ih => intro acc; rw [List.foldl_cons, ih, Array.size_push, List.length_cons]; omega
          rw [this]; simp
        omega
theorem Down.set (hc : closed md ops = true) {listed : Array Bool} (h : Down ops listed) {i : Nat} (hi : i ∈ Region.ready md ops listed) : Down ops (listed.setIfInBounds i true) := by
  intro j x hj hx hl hw
  by_cases hji : j = i
  · subst hji
    exact getD_set_true (h.ready hc hi hx hw)
  · have : listed.getD j false = true := by
      rw [← getD_set_ne false (Ne.symm hji)]; exact hl
    exact getD_set_true (h j x hj hx this hw)

theorem wpAnyL_first (hc : closed md ops = true) {i : Nat} {oi : Oper} {v : Value} {S : World → Prop} (hi : ops[i]? = some oi) (hsel : ∀ (j : Nat) (o : Oper) cs b, ops[j]? = some o → o.op ≠ .select cs b)
    (hQ : ∀ c a w, Q (.panic c) (a.put oi.dst v) w → Q (.panic c) a w) (hS : ∀ w w', S w → Old w w' → S w') (hL : (∀ w, S w) ∨ loadKind oi.op = true) :
    ∀ (fuel : Nat) (listed : Array Bool) (a : Act) (w : World), Down ops listed →
      (∀ j oj, ops[j]? = some oj → j ≠ i → listed.getD j true = false → (∀ e ∈ oj.after, Region.binds md e = true → e.on ≠ i) → oi.apart ops oj = true) →
      i ∈ Region.ready md ops listed → YieldsIf P ops S oi v a → S w →
      wpAnyL P md ops Q (late ops) fuel (listed.setIfInBounds i true) (a.put oi.dst v) w → wpAnyL P md ops Q (late ops) (fuel + 1) listed a w := by
  intro fuel
  have hilt : i < ops.size := (Array.getElem?_eq_some_iff.1 hi).1
  induction fuel with
  | zero =>
    intro listed a w hcl _ hr hy hSw H
    refine ⟨fun h => (by rw [h] at hr; cases hr), fun j hj => ?_⟩
    by_cases hji : j = i
    · subst hji; exact hy.wpOp hi hSw ⟨fun _ => Old.refl _, H⟩
    · have := ready_mono hj hji
      rw [H.1] at this
      cases this
  | succ fuel ih =>
    intro listed a w hcl hfree hr hy hSw H
    refine ⟨fun h => (by rw [h] at hr; cases hr), fun j hj => ?_⟩
    by_cases hji : j = i
    · subst hji; exact hy.wpOp hi hSw ⟨fun _ => Old.refl _, H⟩
    · have h1 := H.2 j (ready_mono hj hji)
      obtain ⟨hjun, oj, hoj, hall⟩ := mem_ready.1 hj
      have hjlt : j < ops.size := (Array.getElem?_eq_some_iff.1 hoj).1
      have hiun : listed.getD i true = false := (mem_ready.1 hr).1
      have unl : ∀ {x}, x < ops.size → listed.getD x true = false → ¬ listed.getD x false = true := fun {x} _ hx hx' => by
        rcases Nat.lt_or_ge x listed.size with h' | h'
        · simp [h'] at hx hx'; rw [hx] at hx'; cases hx'
        · simp [Array.getElem?_eq_none h'] at hx'
      have hnot : ∀ e ∈ oj.after, Region.binds md e = true → e.on ≠ i := fun e he hb heq => by
        have h1 := hall e he hb
        rw [heq] at h1
        exact unl hilt hiun h1
      have hlate : (∀ w, S w) ∨ late ops j = true := hL.imp id fun hld => by
        unfold late
        rw [List.any_eq_true]
        refine ⟨i, List.mem_range.2 hilt, ?_⟩
        have w1 : waits ops j i = false := by
          cases hw : waits ops j i with
          | false => rfl
          | true => exact absurd (hcl.ready hc hj hilt hw) (unl hilt hiun)
        have w2 : waits ops i j = false := by
          cases hw : waits ops i j with
          | false => rfl
          | true => exact absurd (hcl.ready hc hr hjlt hw) (unl hjlt hjun)
        simp [w1, w2, hi, hld, Ne.symm hji]
      have h2 := wpOp_putIf hoj (hfree j oj hoj hji hjun hnot) (fun cs b => hsel i oi cs b hi) (fun cs b => hsel j oj cs b hoj) hQ hy h1
      have hfree' : ∀ k ok, ops[k]? = some ok → k ≠ i → (listed.setIfInBounds j true).getD k true = false →
          (∀ e ∈ ok.after, Region.binds md e = true → e.on ≠ i) → oi.apart ops ok = true := fun k ok hk hki hun hno => by
        refine hfree k ok hk hki ?_ hno
        by_cases hjk : j = k
        · subst hjk; exact hjun
        · rw [getD_set_ne true hjk] at hun; exact hun
      refine wpOp_mono (fun a' w' h3 => ⟨h3.2.1, ih (listed.setIfInBounds j true) a' w' (hcl.set hc hj) hfree' (ready_mono hr (Ne.symm hji)) h3.1 ?_ ?_⟩) h2
      · rcases hlate with h | h
        · exact h w'
        · exact hS w w' hSw (h3.2.1 h)
      · rw [Array.setIfInBounds_comm _ _ hji]
        exact h3.2.2

/-- May operation i be taken first, as one that only yields? -/
def quietAt (P : Program) (ops : Array Oper) (listed : Array Bool) (i : Nat) : Bool :=
  match ops[i]? with
  | some o => (plainKind P o.op || loadKind o.op) && Region.free .any ops listed i &&
      (!dynKind o.op || (List.range ops.size).all fun j => listed.getD j true || match ops[j]? with
        | some oj => (match oj.dst with | some d => !(o.looksAt ops).contains d | none => true)
        | none => true)
  | none => false
def keepAt (ops : Array Oper) (i : Nat) : Bool := match ops[i]? with | some o => keepKind o.op | none => false
/-- The list in one order; behind those that are marked what was there must be there. -/
def wpSeg (P : Program) (ops : Array Oper) (Q : Exit → Act → World → Prop) : List (Oper × Bool) → Act → World → Prop
  | [], a, w => Q .normal a w
  | (o, f) :: l, a, w => if Region.wanted o (yielded ops a.tmps) then o.wp P a w (fun a' w' => (f = true → Old w w') ∧ wpSeg P ops Q l a' w') Q ∨ (o.asks P a w ∧ LetsOut Q) else wpSeg P ops Q l (a.put o.dst undef) w
theorem wpSeg_of_list {Q : Exit → Act → World → Prop} : ∀ (l : List Oper) (a : Act) (w : World), wpList P ops Q l a w → wpSeg P ops Q (l.map (·, false)) a w
  | [], a, w, h => h
  | o :: l, a, w, h => by
    unfold wpList at h
    simp only [List.map_cons, wpSeg]
    split
    · rename_i hw
      rw [if_pos hw] at h
      exact h.imp (Oper.wp_mono fun a' w' h' => ⟨(fun hf => nomatch hf), wpSeg_of_list l a' w' h'⟩) id
    · rename_i hw
      rw [if_neg hw] at h
      exact wpSeg_of_list l _ w h
/-- The order of the walk: what only yields first; else the one that may come up. -/
def plan (P : Program) (ops : Array Oper) : Nat → Array Bool → Option (List (Nat × Bool))
  | 0, listed => if (Region.ready .any ops listed).isEmpty then some [] else none
  | fuel + 1, listed =>
    match Region.ready .any ops listed with
    | [] => some []
    | r :: rs => match (r :: rs).find? (quietAt P ops listed) with
      | some i => (plan P ops fuel (listed.setIfInBounds i true)).map ((i, false) :: ·)
      | none => if rs.isEmpty then (plan P ops fuel (listed.setIfInBounds r true)).map ((r, late ops r && !keepAt ops r) :: ·) else none
/-- What must be known of the operands, asked at the end. -/
def dynAll (ops : Array Oper) (a : Act) : Bool :=
  (List.range ops.size).all fun i => match ops[i]? with
    | some o => !dynKind o.op || !Region.wanted o (yielded ops a.tmps) || dynOk a.eval o.op
    | none => true
/-- No panic; the operands are as they must be; then Q. -/
def Qn (ops : Array Oper) (Q : Exit → Act → World → Prop) : Exit → Act → World → Prop := fun e a w => e = .normal ∧ dynAll ops a = true ∧ Q .normal a w

theorem wpSeg_end {Q' : Exit → Act → World → Prop} (hQ : ∀ e a w, Q' e a w → e = .normal) : ∀ (l : List (Oper × Bool)) (a : Act) (w : World), wpSeg P ops Q' l a w →
    ∃ af wf, Q' .normal af wf ∧ ∀ t : Nat, (∀ o ∈ l, o.1.dst ≠ some t) → af.tmps[t]? = a.tmps[t]?
  | [], a, w, h => ⟨a, w, h, fun _ _ => rfl⟩
  | (o, f) :: l, a, w, h => by
    have put : ∀ (a' : Act) (v : Value) (w' : World), a'.tmps = a.tmps → wpSeg P ops Q' l (a'.put o.dst v) w' → ∃ af wf, Q' .normal af wf ∧ ∀ t : Nat, (∀ o' ∈ (o, f) :: l, o'.1.dst ≠ some t) → af.tmps[t]? = a.tmps[t]? := by
      intro a' v w' ha h
      obtain ⟨af, wf, h1, h2⟩ := wpSeg_end hQ l _ _ h
      refine ⟨af, wf, h1, fun t ht => (h2 t fun o' ho' => ht o' (List.mem_cons_of_mem _ ho')).trans ?_⟩
      have hd := ht (o, f) (List.mem_cons_self ..)
      simp only [] at hd
      cases hdst : o.dst with
      | none => simp [Act.put, ha]
      | some d =>
        have hne : d ≠ t := fun e => hd (by rw [hdst, e])
        simp [Act.put, ha, Array.getElem?_setIfInBounds_ne hne]
    have noOut : ¬ LetsOut Q' := fun ⟨a, w, h⟩ => by have := hQ _ _ _ h; cases this
    unfold wpSeg at h
    split at h
    · rcases h with h | ⟨_, h⟩
      · unfold Oper.wp at h
        generalize (execOp a.eval o).run P w = r at h
        cases r with
        | ok n w' =>
          cases n <;> simp only [Oper.upon] at h
          case value v => exact put a v w' rfl h.2
          case skip => exact put a _ w' rfl h.2
          case defer d => exact put { a with defers := d :: a.defers } undef w' rfl h.2
          case enter f args =>
            obtain ⟨e, w2, fr, h1, _⟩ := h []
            cases e with
            | returned v => exact put a v w2 rfl h1.2
            | panicked c => have := hQ _ _ _ h1; cases this
            | outgrown => exact absurd h1 noOut
          case row row args =>
            obtain ⟨v, w2, h1, _⟩ := h default []
            exact put a v w2 rfl h1.2
        | halt x w' =>
          cases x <;> simp only [Oper.upon] at h
          have := hQ _ _ _ h; cases this
      · exact absurd h noOut
    · exact put a _ w rfl h

theorem plan_mem : ∀ (fuel : Nat) (listed : Array Bool) (l : List (Nat × Bool)), plan P ops fuel listed = some l → ∀ q ∈ l, listed.getD q.1 true = false
  | 0, listed, l, h, (j, f), hj => by
    unfold plan at h
    split at h
    · cases h; cases hj
    · cases h
  | fuel + 1, listed, l, h, (j, f), hj => by
    have step : ∀ i g l', i ∈ Region.ready .any ops listed → plan P ops fuel (listed.setIfInBounds i true) = some l' → (j, f) ∈ (i, g) :: l' → listed.getD j true = false := by
      intro i g l' hi h' hj'
      rcases List.mem_cons.1 hj' with e | hj'
      · cases e; exact (mem_ready.1 hi).1
      · have := plan_mem fuel _ _ h' (j, f) hj'
        by_cases hij : i = j
        · subst hij; exact (mem_ready.1 hi).1
        · rwa [getD_set_ne true hij] at this
    unfold plan at h
    cases hr : Region.ready .any ops listed with
    | nil => rw [hr] at h; cases h; cases hj
    | cons r rs =>
      rw [hr] at h step
      simp only [] at h
      cases hf : (r :: rs).find? (quietAt P ops listed) with
      | some i =>
        rw [hf] at h
        simp only [] at h
        obtain ⟨l', h1, rfl⟩ := Option.map_eq_some_iff.1 h
        exact step i _ l' (List.mem_of_find?_eq_some hf) h1 hj
      | none =>
        rw [hf] at h
        simp only [] at h
        split at h
        · obtain ⟨l', h1, rfl⟩ := Option.map_eq_some_iff.1 h
          exact step r _ l' (List.mem_cons_self ..) h1 hj
        · cases h

theorem dynOk_congr {ρ ρ' : Operand → Value} {op : Go.Op} (h : ∀ x ∈ op.operands, ρ x = ρ' x) : dynOk ρ op = dynOk ρ' op := by
  cases op <;> simp only [dynOk]
  case nilCheck x => rw [h x (by simp [Go.Op.operands])]
  case binOp o t x y ty => rw [h x (by simp [Go.Op.operands]), h y (by simp [Go.Op.operands])]
  case convert s d x => rw [h x (by simp [Go.Op.operands])]
  case call c =>
    obtain ⟨callee, args, ts⟩ := c
    cases callee with
    | builtin b =>
      cases b <;> simp only []
      cases ha : args[0]? with
      | none => rfl
      | some x => simp only []; rw [h x (by simp only [Go.Op.operands, Call.operands]; simp [Array.mem_of_getElem? ha])]
    | value f => rfl
    | invoke r m => rfl

theorem quiet_dyn {i : Nat} {oi : Oper} {L : List (Oper × Bool)} {f : Bool} {listed : Array Bool} {a : Act} {w : World} (hi : ops[i]? = some oi) (hun : listed.getD i true = false)
    (hq : quietAt P ops listed i = true) (hw : Region.wanted oi (yielded ops a.tmps) = true) (hL : ∀ o ∈ L, ∃ j, ops[j]? = some o.1 ∧ listed.getD j true = false)
    (h : wpSeg P ops (Qn ops Q) ((oi, f) :: L) a w) (hk : dynKind oi.op = true) : dynOk a.eval oi.op = true := by
  obtain ⟨af, wf, ⟨_, hd, _⟩, ht⟩ := wpSeg_end (fun e a w h => h.1) _ _ _ h
  have hilt : i < ops.size := (Array.getElem?_eq_some_iff.1 hi).1
  simp only [quietAt, hi, hk, Bool.not_true, Bool.false_or, Bool.and_eq_true] at hq
  have hall := List.all_eq_true.1 hq.2
  have key : ∀ t ∈ oi.looksAt ops, af.tmps[t]? = a.tmps[t]? := by
    intro t htl
    refine ht t fun o ho => ?_
    have : ∃ j, ops[j]? = some o.1 ∧ listed.getD j true = false := by
      rcases List.mem_cons.1 ho with rfl | ho
      · exact ⟨i, hi, hun⟩
      · exact hL o ho
    obtain ⟨j, hj, hju⟩ := this
    have h1 := hall j (List.mem_range.2 (Array.getElem?_eq_some_iff.1 hj).1)
    rw [hju, hj] at h1
    simp only [Bool.false_or] at h1
    intro hdst
    rw [hdst] at h1
    simp only [Bool.not_eq_true', List.contains_eq_mem, decide_eq_false_iff_not] at h1
    exact h1 htl
  have hev : ∀ x ∈ oi.op.operands, a.eval x = af.eval x := by
    intro x hx
    cases x with
    | tmp t =>
      have := key t (List.mem_append_left _ (List.mem_filterMap.2 ⟨.tmp t, by simpa using hx, rfl⟩))
      simp [Act.eval, this]
    | _ => rfl
  have hwa : Region.wanted oi (yielded ops af.tmps) = true := by
    rw [← hw]
    unfold Region.wanted
    cases hg : oi.guard with
    | none => rfl
    | some q =>
      obtain ⟨g, want⟩ := q
      simp only []
      congr 1
      unfold yielded
      cases hog : ops[g]? with
      | none => rfl
      | some og =>
        simp only [Option.bind_some]
        cases hdg : og.dst with
        | none => rfl
        | some d =>
          have := key d (by simp [Oper.looksAt, hg, hog, hdg])
          simp only [Option.bind_some, this]
  have h1 := List.all_eq_true.1 hd i (List.mem_range.2 hilt)
  rw [hi] at h1
  simp only [hk, hwa, Bool.not_true, Bool.false_or] at h1
  rw [dynOk_congr hev]; exact h1

theorem dynKind_not {op : Go.Op} {ρ : Operand → Value} (h : ¬ dynKind op = true) : dynOk ρ op = true := by
  cases op <;> simp [dynKind] at h <;> rfl

def pick (ops : Array Oper) (q : Nat × Bool) : Option (Oper × Bool) := (ops[q.1]?).map (·, q.2)
theorem pick_some {i : Nat} {o : Oper} {f : Bool} (h : ops[i]? = some o) : pick ops (i, f) = some (o, f) := by simp [pick, h]

theorem plan_sound (hc : closed .any ops = true) (hsel : Region.noSelect ops = true) (hQn : ∀ e a w, Q e a w → e = .normal) : ∀ (fuel : Nat) (listed : Array Bool) (l : List (Nat × Bool)) (a : Act) (w : World),
    plan P ops fuel listed = some l → Down ops listed → wpSeg P ops (Qn ops Q) (l.filterMap (pick ops)) a w → wpAnyL P .any ops Q (late ops) fuel listed a w := by
  intro fuel
  have noOut : ¬ LetsOut (Qn ops Q) := fun ⟨a, w, h⟩ => by have := h.1; cases this
  induction fuel with
  | zero =>
    intro listed l a w hp hcl h
    unfold plan at hp
    split at hp
    · rename_i hr
      cases hp
      exact ⟨List.isEmpty_iff.1 hr, h.2.2⟩
    · cases hp
  | succ fuel ih =>
    intro listed l a w hp hcl h
    have hmem := plan_mem _ _ _ hp
    unfold plan at hp
    cases hr : Region.ready .any ops listed with
    | nil =>
      rw [hr] at hp
      cases hp
      exact ⟨(fun _ => h.2.2), (fun i hi => by rw [hr] at hi; cases hi)⟩
    | cons r rs =>
      rw [hr] at hp
      simp only [] at hp
      cases hf : (r :: rs).find? (quietAt P ops listed) with
      | some i =>
        rw [hf] at hp
        simp only [] at hp
        obtain ⟨l', hp', rfl⟩ := Option.map_eq_some_iff.1 hp
        have hir : i ∈ Region.ready .any ops listed := by rw [hr]; exact List.mem_of_find?_eq_some hf
        have hq : quietAt P ops listed i = true := by have := List.find?_some hf; exact this
        obtain ⟨hun, oi, hi, _⟩ := mem_ready.1 hir
        rw [List.filterMap_cons, pick_some hi] at h
        simp only [] at h
        have hq2 := hq
        simp only [quietAt, hi, Bool.and_eq_true, Bool.or_eq_true] at hq2
        have hfree := Region.free_spec hi hq2.1.2
        have hQp : ∀ (v : Value) c a w, Q (.panic c) (a.put oi.dst v) w → Q (.panic c) a w := fun v c a w h => by have := hQn _ _ _ h; cases this
        have hL : ∀ o ∈ l'.filterMap (pick ops), ∃ j, ops[j]? = some o.1 ∧ listed.getD j true = false := fun o ho => by
          obtain ⟨j, hj, ho⟩ := List.mem_filterMap.1 ho
          obtain ⟨o1, h1, h2⟩ := Option.map_eq_some_iff.1 ho
          exact ⟨j.1, by rw [h1, ← h2], hmem j (List.mem_cons_of_mem _ hj)⟩
        have first : ∀ {S : World → Prop} {v : Value}, (∀ w w', S w → Old w w' → S w') → ((∀ w, S w) ∨ loadKind oi.op = true) → YieldsIf P ops S oi v a → S w →
            wpSeg P ops (Qn ops Q) (l'.filterMap (pick ops)) (a.put oi.dst v) w → wpAnyL P .any ops Q (late ops) (fuel + 1) listed a w := fun hS hLt hy hSw h' =>
          wpAnyL_first hc hi (Region.noSelect_spec hsel) (hQp _) hS hLt fuel listed a w hcl hfree hir hy hSw (ih _ _ _ _ hp' (hcl.set hc hir) h')
        by_cases hw : Region.wanted oi (yielded ops a.tmps) = true
        · have hdyn : dynOk a.eval oi.op = true := by
            by_cases hk : dynKind oi.op = true
            · exact quiet_dyn hi hun hq hw hL h hk
            · exact dynKind_not hk
          unfold wpSeg at h
          rw [if_pos hw] at h
          rcases h with h | ⟨_, h⟩
          · unfold Oper.wp at h
            rcases hq2.1.1 with hpl | hld
            · have hy := plainKind_yields (P := P) oi a.eval hpl hdyn
              cases hrun : (execOp a.eval oi).run P w with
              | ok n w1 =>
                obtain ⟨⟨v, rfl⟩, rfl, hall⟩ := hy w n w1 hrun
                rw [hrun] at h
                exact first (S := fun _ => True) (fun _ _ _ _ => trivial) (.inl fun _ => trivial) (.inl ⟨hw, fun w' _ => hall w'⟩) trivial h.2
              | halt x w1 =>
                rw [hrun] at h
                cases x <;> simp only [Oper.upon] at h
                have := h.1; cases this
            · have hy := loadKind_yields (P := P) oi a.eval hld
              cases hrun : (execOp a.eval oi).run P w with
              | ok n w1 =>
                obtain ⟨⟨v, rfl⟩, rfl, hall⟩ := hy w n w1 hrun
                rw [hrun] at h
                exact first (S := Old w1) (fun _ _ h1 h2 => h1.trans h2) (.inr hld) (.inl ⟨hw, fun w' ho => hall w' ho⟩) (Old.refl _) h.2
              | halt x w1 =>
                rw [hrun] at h
                cases x <;> simp only [Oper.upon] at h
                have := h.1; cases this
          · exact absurd h noOut
        · unfold wpSeg at h
          rw [if_neg hw] at h
          exact first (S := fun _ => True) (fun _ _ _ _ => trivial) (.inl fun _ => trivial) (.inr ⟨by simpa using hw, rfl⟩) trivial h
      | none =>
        rw [hf] at hp
        simp only [] at hp
        split at hp
        · rename_i hcond
          obtain rfl := List.isEmpty_iff.1 hcond
          obtain ⟨l', hp', rfl⟩ := Option.map_eq_some_iff.1 hp
          have hir : r ∈ Region.ready .any ops listed := by rw [hr]; exact List.mem_cons_self ..
          obtain ⟨hun, oi, hi, _⟩ := mem_ready.1 hir
          rw [List.filterMap_cons, pick_some hi] at h
          simp only [] at h
          refine ⟨(fun h0 => by rw [hr] at h0; cases h0), fun i' hi' => ?_⟩
          rw [hr] at hi'
          obtain rfl : i' = r := by simpa using hi'
          have next : ∀ a' w', wpSeg P ops (Qn ops Q) (l'.filterMap (pick ops)) a' w' → wpAnyL P .any ops Q (late ops) fuel (listed.setIfInBounds i' true) a' w' :=
            fun a' w' h' => ih _ _ _ _ hp' (hcl.set hc hir) h'
          unfold wpOp
          rw [hi]
          simp only []
          unfold wpSeg at h
          by_cases hw : Region.wanted oi (yielded ops a.tmps) = true
          · rw [if_pos hw] at h ⊢
            rcases h with h | ⟨_, h⟩
            · left
              by_cases hk0 : keepAt ops i' = true
              · have hk : keepKind oi.op = true := by simpa [keepAt, hi] using hk0
                have hkp := keepKind_keeps (P := P) oi a.eval hk
                unfold Oper.wp at h ⊢
                cases hrun : (execOp a.eval oi).run P w with
                | ok n w1 =>
                  have hold := hkp w n w1 hrun
                  rw [hrun] at h
                  have hval : ∃ v, n = .value v := by
                    obtain ⟨dst, op, type, pos, after, guard⟩ := oi
                    unfold execOp at hrun
                    cases op <;> simp only [keepKind, Bool.false_eq_true] at hk <;> simp only [] at hrun <;>
                      (obtain ⟨v, w2, h1, h2⟩ := run_bind_ok hrun; rw [Sem.run_pure] at h2; cases h2; exact ⟨v, rfl⟩)
                  obtain ⟨v, rfl⟩ := hval
                  exact ⟨fun _ => hold, next _ _ h.2⟩
                | halt x w1 =>
                  rw [hrun] at h
                  cases x <;> simp only [Oper.upon] at h
                  have := h.1; cases this
              · have hfl : ∀ {w'}, ((late ops i' && !keepAt ops i') = true → Old w w') → late ops i' = true → Old w w' := fun hf hl => hf (by simp [hl, hk0])
                unfold Oper.wp at h ⊢
                generalize (execOp a.eval oi).run P w = rr at h ⊢
                cases rr with
                | ok n w1 =>
                  cases n <;> simp only [Oper.upon] at h ⊢ <;> first
                    | exact ⟨hfl h.1, next _ _ h.2⟩
                    | exact Calls.mono h (fun e w2 he => by
                        cases e with
                        | returned v => exact ⟨hfl he.1, next _ _ he.2⟩
                        | panicked c => have := he.1; cases this
                        | outgrown => exact absurd he noOut)
                    | exact Rows.mono h (fun _ _ he => ⟨hfl he.1, next _ _ he.2⟩)
                | halt x w1 =>
                  cases x <;> simp only [Oper.upon] at h
                  have := h.1; cases this
            · exact absurd h noOut
          · rw [if_neg hw] at h ⊢
            exact ⟨fun _ => Old.refl _, next _ _ h⟩
        · cases hp

theorem wp_region_seg {id : Nat} {a : Act} {w : World} (l : List (Nat × Bool)) (hm : P.follows .mixedOrders = true) (hc : closed .any ops = true) (hs : Region.noSelect ops = true)
    (hp : plan P ops ops.size (Array.replicate ops.size false) = some l) (h : wpSeg P ops (Qn ops Q) (l.filterMap (pick ops)) a w.drew) : (Code.region id ops true).wp P Q a w := by
  have h1 : wpSeg P ops (Qn ops (fun e a w => e = .normal ∧ Q .normal a w)) (l.filterMap (pick ops)) a w.drew := by
    have : Qn ops (fun e a w => e = .normal ∧ Q .normal a w) = Qn ops Q := by
      funext e a w; simp [Qn]
    rw [this]; exact h
  have h2 := plan_sound (Q := fun e a w => e = .normal ∧ Q .normal a w) hc hs (fun e a w h => h.1) ops.size _ l a w.drew hp (fun j h hj hh hl _ => by
    rw [Array.getD_eq_getD_getElem?] at hl; simp [hj] at hl) h1
  refine Code.wp_mono (Q := fun e a w => e = .normal ∧ Q .normal a w) (fun e a w h => ?_) (wp_region_any hm (wpAny_of_late _ _ _ _ h2))
  obtain ⟨rfl, h⟩ := h
  exact h

/-- No mark in the order: a plain list. -/
theorem wp_region_seq {id : Nat} {a : Act} {w : World} (l : List Nat) (hm : P.follows .mixedOrders = true) (hc : closed .any ops = true) (hs : Region.noSelect ops = true)
    (hp : plan P ops ops.size (Array.replicate ops.size false) = some (l.map (·, false))) (h : wpList P ops (Qn ops Q) (l.filterMap (ops[·]?)) a w.drew) : (Code.region id ops true).wp P Q a w := by
  refine wp_region_seg _ hm hc hs hp ?_
  have : (l.map (·, false)).filterMap (pick ops) = (l.filterMap (ops[·]?)).map (·, false) := by
    rw [List.filterMap_map, List.map_filterMap]
    congr 1
  rw [this]
  exact wpSeg_of_list _ _ _ h

theorem range_pick : ∀ (l pre : List Oper), (List.range' pre.length l.length).filterMap (fun i => (pre ++ l)[i]?) = l
  | [], pre => rfl
  | x :: l, pre => by
    rw [List.length_cons, List.range'_succ, List.filterMap_cons]
    have h1 : (pre ++ x :: l)[pre.length]? = some x := by simp
    rw [h1]
    simp only []
    have := range_pick l (pre ++ [x])
    rw [List.length_append, List.length_singleton, List.append_assoc, List.singleton_append] at this
    rw [this]
/-- The same where the order is the text's. -/
theorem wp_region_text {id : Nat} {l : List Oper} {a : Act} {w : World} (hm : P.follows .mixedOrders = true) (hc : closed .any l.toArray = true) (hs : Region.noSelect l.toArray = true)
    (hp : plan P l.toArray l.length (Array.replicate l.length false) = some ((List.range l.length).map (·, false))) (h : wpList P l.toArray (Qn l.toArray Q) l a w.drew) : (Code.region id l.toArray true).wp P Q a w := by
  have hf : (List.range l.length).filterMap (l.toArray[·]?) = l := by
    simp only [List.getElem?_toArray]
    have := range_pick l []
    simpa [List.range_eq_range'] using this
  refine wp_region_seq (List.range l.length) hm hc hs (by simpa using hp) ?_
  rw [hf]; exact h

/-- Up to the first that is marked: a plain list, then that one. -/
theorem wpSeg_cut {Q : Exit → Act → World → Prop} (hQ : ∀ e a w, Q e a w → e = .normal) : ∀ (pre : List Oper) (l : List (Oper × Bool)) (a : Act) (w : World),
    wpList P ops (fun e a w => e = .normal ∧ wpSeg P ops Q l a w) pre a w → wpSeg P ops Q (pre.map (·, false) ++ l) a w
  | [], l, a, w, h => h.2
  | o :: pre, l, a, w, h => by
    have noOut : ¬ LetsOut (fun e a w => e = Exit.normal ∧ wpSeg P ops Q l a w) := fun ⟨a, w, h⟩ => by have := h.1; cases this
    unfold wpList at h
    simp only [List.map_cons, List.cons_append, wpSeg]
    split
    · rename_i hw
      rw [if_pos hw] at h
      rcases h with h | ⟨_, h⟩
      · left
        unfold Oper.wp at h ⊢
        generalize (execOp a.eval o).run P w = rr at h ⊢
        have next : ∀ a' w', wpList P ops (fun e a w => e = .normal ∧ wpSeg P ops Q l a w) pre a' w' → (false = true → Old w w') ∧ wpSeg P ops Q (pre.map (·, false) ++ l) a' w' := fun a' w' h' => ⟨(fun hf => nomatch hf), wpSeg_cut hQ pre l a' w' h'⟩
        cases rr with
        | ok n w1 =>
          cases n <;> simp only [Oper.upon] at h ⊢ <;> first
            | exact next _ _ h
            | exact Calls.mono h (fun e w2 he => by
                cases e with
                | returned v => exact next _ _ he
                | panicked c => have := he.1; cases this
                | outgrown => exact absurd he noOut)
            | exact Rows.mono h (fun _ _ he => next _ _ he)
        | halt x w1 =>
          cases x <;> simp only [Oper.upon] at h
          have := h.1; cases this
      · exact absurd h noOut
    · rename_i hw
      rw [if_neg hw] at h
      exact wpSeg_cut hQ pre l _ w h
/-- One that is marked and has no guard. -/
theorem wpSeg_mark {Q : Exit → Act → World → Prop} {o : Oper} {l : List (Oper × Bool)} {a : Act} {w : World} (hg : o.guard = none)
    (h : o.wp P a w (fun a' w' => Old w w' ∧ wpSeg P ops Q l a' w') Q) : wpSeg P ops Q ((o, true) :: l) a w := by
  unfold wpSeg
  rw [if_pos (by simp [Region.wanted, hg])]
  exact .inl (Oper.wp_mono (fun a' w' h' => ⟨fun _ => h'.1, h'.2⟩) h)
/-- The last piece. -/
theorem wpSeg_rest {Q : Exit → Act → World → Prop} (l : List Oper) {a : Act} {w : World} (h : wpList P ops Q l a w) : wpSeg P ops Q (l.map (·, false)) a w := wpSeg_of_list l a w h
end
end Go.Proofs.YtjojhfphlnfimaaGreatDoor.J
