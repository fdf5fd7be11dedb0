/- A region that draws its order of evaluation, walked in ONE order: what only yields first, the others in the order that their edges force. Over any program. -/
import Derived.Test.YtjojhfphlnfimaaGreatDoorJk
import Derived.Orders
namespace Go.Proofs.YtjojhfphlnfimaaGreatDoor.J
open Go Go.RowKit
set_option linter.unusedSimpArgs false
set_option linter.unusedVariables false

/-- What was there is there. -/
def Old (w w' : World) : Prop := ∀ b, b < w.heap.size → w'.heap[b]? = w.heap[b]?
theorem Old.refl (w : World) : Old w w := fun _ _ => rfl
theorem Old.size {w w' : World} (h : Old w w') : w.heap.size ≤ w'.heap.size := by
  rcases Nat.lt_or_ge w'.heap.size w.heap.size with hlt | hge
  · have h1 := h _ hlt
    rw [Array.getElem?_eq_none (Nat.le_refl _), Array.getElem?_eq_getElem hlt] at h1
    cases h1
  · exact hge
theorem Old.trans {a b c : World} (h : Old a b) (k : Old b c) : Old a c := fun i hi => (k i (Nat.lt_of_lt_of_le hi h.size)).trans (h i hi)
theorem Old.alloc (w : World) (o : Obj) : Old w (w.alloc o) := fun i hi => Below.heap_alloc w o i hi

/-! ### Runs that only look -/
/-- If it comes to a value, then in whatever world, and the world stays. -/
def Plain {α : Type} (P : Program) (m : Sem α) : Prop := ∀ w a w1, m.run P w = .ok a w1 → w1 = w ∧ ∀ w', m.run P w' = .ok a w'
/-- If it comes to a value, then in every world in which what was there is there. -/
def Calm {α : Type} (P : Program) (m : Sem α) : Prop := ∀ w a w1, m.run P w = .ok a w1 → w1 = w ∧ ∀ w', Old w w' → m.run P w' = .ok a w'
/-- If it comes to a value, what was there is there. -/
def Keeping {α : Type} (P : Program) (m : Sem α) : Prop := ∀ w a w1, m.run P w = .ok a w1 → Old w w1
/-- It never comes to a value. -/
def Never {α : Type} (P : Program) (m : Sem α) : Prop := ∀ w a w1, m.run P w ≠ .ok a w1

section
variable {P : Program} {α β : Type}
theorem Never.plain {m : Sem α} (h : Never P m) : Plain P m := fun w a w1 hr => absurd hr (h w a w1)
theorem Plain.calm {m : Sem α} (h : Plain P m) : Calm P m := fun w a w1 hr => ⟨(h w a w1 hr).1, fun w' _ => (h w a w1 hr).2 w'⟩
theorem Calm.keeping {m : Sem α} (h : Calm P m) : Keeping P m := fun w a w1 hr => by rw [(h w a w1 hr).1]; exact Old.refl w
theorem Plain.ret (a : α) : Plain P (pure a : Sem α) := fun w b w1 h => by
  simp only [Sem.run_pure] at h
  cases h
  exact ⟨rfl, fun w' => by simp only [Sem.run_pure]⟩
theorem run_bind_ok {m : Sem α} {f : α → Sem β} {w : World} {b : β} {w1 : World} (h : (m >>= f).run P w = .ok b w1) : ∃ a w2, m.run P w = .ok a w2 ∧ (f a).run P w2 = .ok b w1 := by
  rw [Sem.run_bind] at h
  cases hm : m.run P w with
  | ok a w2 => rw [hm] at h; exact ⟨a, w2, rfl, h⟩
  | halt x w2 => rw [hm] at h; cases h
theorem Plain.bind {m : Sem α} {f : α → Sem β} (h : Plain P m) (k : ∀ a, Plain P (f a)) : Plain P (m >>= f) := fun w b w1 hr => by
  obtain ⟨a, w2, h1, h2⟩ := run_bind_ok hr
  obtain ⟨rfl, h3⟩ := h w a w2 h1
  obtain ⟨rfl, h4⟩ := k a _ b w1 h2
  exact ⟨rfl, fun w' => by rw [Sem.run_bind, h3 w']; exact h4 w'⟩
theorem Calm.bind {m : Sem α} {f : α → Sem β} (h : Calm P m) (k : ∀ a, Calm P (f a)) : Calm P (m >>= f) := fun w b w1 hr => by
  obtain ⟨a, w2, h1, h2⟩ := run_bind_ok hr
  obtain ⟨rfl, h3⟩ := h w a w2 h1
  obtain ⟨rfl, h4⟩ := k a _ b w1 h2
  exact ⟨rfl, fun w' ho => by rw [Sem.run_bind, h3 w' ho]; exact h4 w' ho⟩
theorem Keeping.bind {m : Sem α} {f : α → Sem β} (h : Keeping P m) (k : ∀ a, Keeping P (f a)) : Keeping P (m >>= f) := fun w b w1 hr => by
  obtain ⟨a, w2, h1, h2⟩ := run_bind_ok hr
  exact (h w a w2 h1).trans (k a w2 b w1 h2)
theorem Never.bind {m : Sem α} {f : α → Sem β} (h : Never P m) : Never P (m >>= f) := fun w b w1 hr => by
  obtain ⟨a, w2, h1, h2⟩ := run_bind_ok hr
  exact h w a w2 h1
theorem Never.bind_r {m : Sem α} {f : α → Sem β} (k : ∀ a, Never P (f a)) : Never P (m >>= f) := fun w b w1 hr => by
  obtain ⟨a, w2, h1, h2⟩ := run_bind_ok hr
  exact k a w2 b w1 h2
theorem Never.halt (h : Halt) : Never P (Sem.halt h : Sem α) := fun w a w1 hr => by simp only [Sem.run] at hr; cases hr
theorem Plain.program {f : Program → Sem α} (h : Plain P (f P)) : Plain P (program >>= f) := fun w a w1 hr => by
  rw [Sem.run_bind, run_program] at hr
  obtain ⟨h1, h2⟩ := h w a w1 hr
  exact ⟨h1, fun w' => by rw [Sem.run_bind, run_program]; exact h2 w'⟩
end

/-! ### Which operations only yield -/
section
variable {P : Program} {ρ : Operand → Value}
theorem plain_underlying (t : TypeId) : Plain P (underlying t) := by
  unfold underlying
  refine Plain.program ?_
  split
  · exact Plain.ret _
  · exact (Never.halt _).plain
theorem plain_typeInfo (t : TypeId) : Plain P (typeInfo t) := by
  unfold typeInfo
  refine Plain.program ?_
  split
  · exact Plain.ret _
  · exact (Never.halt _).plain
theorem plain_sizeOf (t : TypeId) : Plain P (sizeOf t) := (plain_typeInfo t).bind fun _ => Plain.ret _
theorem plain_zeroValue (t : TypeId) : Plain P (zeroValue t) := by
  unfold zeroValue
  refine (plain_typeInfo t).bind fun i => ?_
  split
  · exact Plain.ret _
  · exact (Never.halt _).plain
theorem never_panic {α : Type} (e : RuntimeError) : Never P (runtimePanic e : Sem α) := by
  unfold runtimePanic
  refine Never.bind_r fun p => ?_
  split <;> first | exact Never.halt _ | exact Never.bind_r fun _ => Never.bind_r fun _ => Never.halt _
theorem never_bounds {α : Type} (k : IntKind) (x y : Int) (c : BoundsCode) : Never P (boundsPanic k x y c : Sem α) := by
  unfold boundsPanic
  dsimp only
  split <;> exact Never.bind_r fun _ => never_panic _
theorem plain_sureAddr (v : Value) : Plain P (Instr.sureAddr v) := by
  unfold Instr.sureAddr
  split
  · exact Plain.ret _
  · exact (Never.halt _).plain
theorem plain_asBool (v : Value) : Plain P (asBool v) := by
  unfold asBool
  split
  · exact Plain.ret _
  · exact (Never.halt _).plain
theorem plain_asIntOf (v : Value) : Plain P (asIntOf v) := by
  unfold asIntOf
  split
  · exact Plain.ret _
  · exact (Never.halt _).plain
  · exact (Never.halt _).plain
theorem plain_value {s : Sem Value} (h : Plain P s) (w : World) (n : Go.Next) (w1 : World) (hr : (do pure (Next.value (← s)) : Sem Go.Next).run P w = .ok n w1) :
    (∃ v, n = .value v) ∧ w1 = w ∧ ∀ w', (do pure (Next.value (← s)) : Sem Go.Next).run P w' = .ok n w' := by
  obtain ⟨v, w2, h1, h2⟩ := run_bind_ok hr
  rw [Sem.run_pure] at h2
  cases h2
  obtain ⟨rfl, h3⟩ := h _ _ _ h1
  exact ⟨⟨v, rfl⟩, rfl, fun w' => by rw [Sem.run_bind, h3 w']; rfl⟩
theorem calm_value {s : Sem Value} (h : Calm P s) (w : World) (n : Go.Next) (w1 : World) (hr : (do pure (Next.value (← s)) : Sem Go.Next).run P w = .ok n w1) :
    (∃ v, n = .value v) ∧ w1 = w ∧ ∀ w', Old w w' → (do pure (Next.value (← s)) : Sem Go.Next).run P w' = .ok n w' := by
  obtain ⟨v, w2, h1, h2⟩ := run_bind_ok hr
  rw [Sem.run_pure] at h2
  cases h2
  obtain ⟨rfl, h3⟩ := h _ _ _ h1
  exact ⟨⟨v, rfl⟩, rfl, fun w' ho => by rw [Sem.run_bind, h3 w' ho]; rfl⟩

/-- What an operation leaves that only yields: 'Plain' of the whole. -/
def Yields1 (P : Program) (o : Oper) (ρ : Operand → Value) : Prop := ∀ w n w1, (execOp ρ o).run P w = .ok n w1 → (∃ v, n = .value v) ∧ w1 = w ∧ ∀ w', (execOp ρ o).run P w' = .ok n w'
def Yields2 (P : Program) (o : Oper) (ρ : Operand → Value) : Prop := ∀ w n w1, (execOp ρ o).run P w = .ok n w1 → (∃ v, n = .value v) ∧ w1 = w ∧ ∀ w', Old w w' → (execOp ρ o).run P w' = .ok n w'

/-- 'fieldAddr' of a field that has cells. -/
def fieldHasCells (P : Program) (s : TypeId) (f : Nat) : Bool :=
  match P.underlying s with
  | some (.struct fs) => match fs[f]? with
    | some fd => match P.info? fd.type with
      | some i => i.size != 0
      | none => true
    | none => true
  | _ => true
theorem run_typeInfo_ok {t : TypeId} {w : World} {i : TypeInfo} {w1 : World} (h : (typeInfo t).run P w = .ok i w1) : P.info? t = some i ∧ w1 = w := by
  unfold typeInfo at h
  rw [Sem.run_bind, run_program] at h
  simp only [Result.andThen_ok] at h
  split at h
  · rename_i j hj; rw [Sem.run_pure] at h; cases h; exact ⟨hj, rfl⟩
  · rw [run_stuck] at h; cases h
theorem run_underlying_ok {t : TypeId} {w : World} {d : TypeDesc} {w1 : World} (h : (underlying t).run P w = .ok d w1) : P.underlying t = some d ∧ w1 = w := by
  unfold underlying at h
  rw [Sem.run_bind, run_program] at h
  simp only [Result.andThen_ok] at h
  split at h
  · rename_i j hj; rw [Sem.run_pure] at h; cases h; exact ⟨hj, rfl⟩
  · rw [run_stuck] at h; cases h
theorem plain_fieldAt (s : TypeId) (x : Value) (f : Nat) (hf : fieldHasCells P s f = true) : Plain P (Instr.fieldAt s x f) := by
  intro w v w1 hr
  unfold Instr.fieldAt at hr ⊢
  obtain ⟨d, w2, h1, h2⟩ := run_bind_ok hr
  obtain ⟨hd, rfl⟩ := run_underlying_ok h1
  have hu : ∀ w', (underlying s).run P w' = .ok d w' := ((plain_underlying s) _ _ _ h1).2
  simp only [Sem.run_bind, hu, Result.andThen_ok] at hr ⊢
  unfold fieldHasCells at hf
  rw [hd] at hf
  cases d <;> simp only [] at hr ⊢ <;> try (rw [run_stuck] at hr; cases hr)
  rename_i fs
  simp only at hf
  cases hfs : fs[f]? with
  | none => rw [hfs] at hr; simp only [run_stuck] at hr; cases hr
  | some fd =>
    rw [hfs] at hr hf
    simp only at hf hr ⊢
    have key : Plain P (Instr.sureAddr x >>= fun a => fieldPlace a fd >>= fun b => pure (Value.pointer (some b)) : Sem Value) := by
      refine (plain_sureAddr x).bind fun a => ?_
      intro w v w1 hr
      obtain ⟨b, w2, h3, h4⟩ := run_bind_ok hr
      rw [Sem.run_pure] at h4; cases h4
      unfold fieldPlace sizeOf at h3 ⊢
      obtain ⟨z, w3, h5, h6⟩ := run_bind_ok h3
      obtain ⟨i, w4, h7, h8⟩ := run_bind_ok h5
      rw [Sem.run_pure] at h8; cases h8
      obtain ⟨hi, rfl⟩ := run_typeInfo_ok h7
      rw [hi] at hf
      have hz : i.size ≠ 0 := by simpa using hf
      have ht : ∀ w', (typeInfo fd.type).run P w' = .ok i w' := ((plain_typeInfo fd.type) _ _ _ h7).2
      simp only [if_neg hz, Sem.run_pure] at h6
      cases h6
      exact ⟨rfl, fun w' => by simp only [Sem.run_bind, ht, Result.andThen_ok, Sem.run_pure, if_neg hz]⟩
    have hr' : (Instr.sureAddr x >>= fun a => fieldPlace a fd >>= fun b => pure (Value.pointer (some b)) : Sem Value).run P w2 = .ok v w1 := by
      simpa only [Sem.run_bind] using hr
    obtain ⟨h1, h2⟩ := key _ _ _ hr'
    refine ⟨h1, fun w' => ?_⟩
    have := h2 w'
    simpa only [Sem.run_bind] using this
theorem plain_isAgg (t : TypeId) : Plain P (isAgg t) := by
  unfold isAgg
  refine (plain_underlying t).bind fun d => ?_
  split <;> exact Plain.ret _
theorem plain_part (t : TypeId) (cs : Array Value) (off : Nat) : Plain P (part t cs off) := by
  unfold part
  refine (plain_isAgg t).bind fun b => ?_
  split
  · exact (plain_sizeOf t).bind fun _ => Plain.ret _
  · split
    · exact Plain.ret _
    · exact (Never.halt _).plain
theorem seen_blk {w : World} {at_ : Addr} {u : TypeId} {k : Addr} {b : Bool} {r : Array Value × TypeId × (Nat × Nat) × Nat × Value × List (Nat × Nat × List UInt8)} (h : World.seen P w at_ u k b = .ok r) : ∃ o, w.heap[at_.block]? = some o := by
  cases hh : w.heap[at_.block]? with
  | some o => exact ⟨o, rfl⟩
  | none =>
    exfalso
    unfold World.seen at h
    rw [hh] at h
    simp only [bind, Except.bind, pure, Except.pure, throw, throwThe, MonadExceptOf.throw] at h
    cases h1 : plainCell P P.depth u k.off with
    | none => simp only [h1] at h; split at h <;> cases h
    | some like =>
      simp only [h1] at h
      cases h2 : Option.map (fun x => x.length) like.bytes? with
      | none => simp only [h2] at h; split at h <;> cases h
      | some sz =>
        simp only [h2] at h
        cases h3 : byteOfCell P P.depth u k.off with
        | none => simp only [h3] at h; split at h <;> cases h
        | some β => simp only [h3] at h; split at h <;> cases h
theorem calm_load (a : Addr) (m : Mode) : Calm P (load a m) := by
  intro w v w1 hr
  rw [run_load] at hr
  cases hc : w.cell? a with
  | some u =>
    rw [hc] at hr; cases hr
    refine ⟨rfl, fun w' ho => ?_⟩
    rw [run_load, World.cell?_of_block (w := w) (ho a.block (World.block_lt_of_cell? w a hc)), hc]
  | none =>
    rw [hc] at hr
    simp only [World.farLoad] at hr
    cases hb : w.heap[a.block]? with
    | none => rw [hb] at hr; simp at hr
    | some o =>
      rw [hb] at hr
      cases o <;> simp only [] at hr <;> try (cases hr)
      rename_i at_ u
      cases hv : w.viewLoad P at_ u a (m == .atomic) with
      | error e => rw [hv] at hr; cases hr
      | ok r =>
        rw [hv] at hr
        obtain ⟨v0, l0⟩ := r
        simp only [] at hr
        cases hr
        refine ⟨rfl, fun w' ho => ?_⟩
        have hb' : w'.heap[a.block]? = some (.view at_ u) := (ho _ (blk_lt hb)).trans hb
        have hc' : w'.cell? a = none := by simp [World.cell?, hb']
        have hs : w'.seen P at_ u a (m == .atomic) = w.seen P at_ u a (m == .atomic) := by
          cases hh : w.heap[at_.block]? with
          | some o2 =>
            have := (ho _ (blk_lt hh)).trans hh
            unfold World.seen
            rw [hh, this]
          | none =>
            exfalso
            unfold World.viewLoad at hv
            cases hq : World.seen P w at_ u a (m == .atomic) with
            | error e => rw [hq] at hv; cases hv
            | ok q => obtain ⟨o2, h2⟩ := seen_blk hq; rw [hh] at h2; cases h2
        rw [run_load, hc']
        simp only [World.farLoad, hb']
        have hv' : w'.viewLoad P at_ u a (m == .atomic) = .ok (v, l0) := by
          unfold World.viewLoad at hv ⊢
          rw [hs]; exact hv
        rw [hv']
theorem calm_loadCells (a : Addr) : ∀ (n i : Nat) (acc : Array Value), Calm P (loadCellsFrom a i n acc)
  | 0, i, acc => (Plain.ret _).calm
  | n + 1, i, acc => (calm_load _ _).bind fun v => calm_loadCells a n (i + 1) _
theorem calm_loadAt (t : TypeId) (x : Value) : Calm P (Instr.loadAt t x) := by
  unfold Instr.loadAt
  refine (plain_sureAddr x).calm.bind fun a => ?_
  unfold loadVar
  refine (plain_isAgg t).calm.bind fun b => ?_
  split
  · exact (plain_sizeOf t).calm.bind fun n => (calm_loadCells a n 0 _).bind fun _ => (Plain.ret _).calm
  · exact calm_load _ _
theorem plain_field (t : TypeId) (x : Value) (f : Nat) : Plain P (Instr.field t x f) := by
  unfold Instr.field
  refine (plain_underlying t).bind fun d => ?_
  split
  · split
    · refine Plain.bind ?_ fun a => plain_part _ _ _
      unfold asAgg
      split
      · exact Plain.ret _
      · exact (Never.halt _).plain
    · exact (Never.halt _).plain
  · exact (Never.halt _).plain
theorem plain_index (t : TypeId) (x ix : Value) : Plain P (Instr.index t x ix) := by
  unfold Instr.index
  refine (plain_asIntOf ix).bind fun q => ?_
  obtain ⟨k, i⟩ := q
  refine (plain_underlying t).bind fun d => ?_
  split
  · split
    · exact (plain_sizeOf _).bind fun _ => plain_part _ _ _
    · exact (never_bounds _ _ _ _).plain
  · split
    · exact Plain.ret _
    · exact (never_bounds _ _ _ _).plain
  · exact (Never.halt _).plain
theorem plain_indexAt (t : TypeId) (x ix : Value) : Plain P (Instr.indexAt t x ix) := by
  unfold Instr.indexAt
  refine (plain_asIntOf ix).bind fun q => ?_
  obtain ⟨k, i⟩ := q
  refine (plain_underlying t).bind fun d => ?_
  dsimp only
  repeat (first
    | exact Plain.ret _
    | exact (Never.halt _).plain
    | exact (never_panic _).plain
    | exact (never_bounds _ _ _ _).plain
    | exact plain_sliceBound _ _ _
    | exact plain_sizeOf _
    | exact plain_underlying _
    | exact plain_part _ _ _
    | exact plain_sureAddr _
    | refine Plain.bind ?_ fun _ => ?_
    | split
    | dsimp only)
theorem plain_extract (t : Value) (ix : Nat) : Plain P (Instr.extract t ix) := by
  unfold Instr.extract
  split
  · split
    · exact Plain.ret _
    · exact (Never.halt _).plain
  · exact (Never.halt _).plain
theorem plain_makeInterface (t : TypeId) (x : Value) : Plain P (Instr.makeInterface t x) := by
  unfold Instr.makeInterface
  refine (plain_underlying t).bind fun d => ?_
  split
  · exact (Never.halt _).plain
  · exact Plain.ret _
theorem plain_sliceBound (x : Value) (y : Nat) (c : BoundsCode) : Plain P (Instr.sliceBound x y c) := by
  unfold Instr.sliceBound
  refine (plain_asIntOf x).bind fun q => ?_
  obtain ⟨k, i⟩ := q
  dsimp only
  split
  · exact Plain.ret _
  · exact (never_bounds _ _ _ _).plain
theorem plain_sliceBounds (b : Bool) (len cap : Nat) (lo hi mx : Option Value) : Plain P (Instr.sliceBounds b len cap lo hi mx) := by
  unfold Instr.sliceBounds
  dsimp only
  repeat (first
    | exact Plain.ret _
    | exact (Never.halt _).plain
    | exact (never_panic _).plain
    | exact (never_bounds _ _ _ _).plain
    | exact plain_sliceBound _ _ _
    | exact plain_sizeOf _
    | exact plain_underlying _
    | exact plain_part _ _ _
    | exact plain_sureAddr _
    | refine Plain.bind ?_ fun _ => ?_
    | split
    | dsimp only)
theorem plain_asAddr (v : Value) : Plain P (asAddr v) := by
  unfold asAddr
  split
  · exact Plain.ret _
  · exact (never_panic _).plain
  · exact (Never.halt _).plain
theorem plain_slice (t : TypeId) (x : Value) (lo hi mx : Option Value) : Plain P (Instr.slice t x lo hi mx) := by
  unfold Instr.slice
  refine (plain_underlying t).bind fun d => ?_
  split
  · split
    · exact (Never.bind (Never.halt _)).plain
    · exact (plain_sliceBounds _ _ _ _ _ _).bind fun _ => Plain.ret _
  · exact (plain_sliceBounds _ _ _ _ _ _).bind fun _ => (plain_sizeOf _).bind fun _ => Plain.ret _
  · refine (plain_asAddr _).bind fun a => (plain_underlying _).bind fun d => ?_
    split
    · exact (plain_sliceBounds _ _ _ _ _ _).bind fun _ => (plain_sizeOf _).bind fun _ => Plain.ret _
    · exact (Never.halt _).plain
  · exact (Never.halt _).plain
theorem plain_sliceAt (t : TypeId) (x : Value) (lo hi mx : Option Value) : Plain P (Instr.sliceAt t x lo hi mx) := by
  unfold Instr.sliceAt
  refine (plain_underlying t).bind fun d => ?_
  split
  · exact (plain_sureAddr _).bind fun a => (plain_sliceBounds _ _ _ _ _ _).bind fun _ => (plain_sizeOf _).bind fun _ => Plain.ret _
  · exact plain_slice _ _ _ _ _
theorem plain_listMapM {α β : Type} (f : α → Sem β) (h : ∀ a, Plain P (f a)) : ∀ l : List α, Plain P (l.mapM f)
  | [] => by rw [List.mapM_nil]; exact Plain.ret _
  | a :: l => by rw [List.mapM_cons]; exact (h a).bind fun _ => (plain_listMapM f h l).bind fun _ => Plain.ret _
theorem plain_build (t : TypeId) (ps : Array (Nat × Value)) : Plain P (Instr.build t ps) := by
  unfold Instr.build
  refine (plain_zeroValue t).bind fun z => (plain_underlying t).bind fun d => ?_
  split
  · refine Plain.bind ?_ fun places => ?_
    · rw [Array.mapM_eq_mapM_toList]
      refine Plain.bind (plain_listMapM _ (fun f => (plain_sizeOf _).bind fun _ => Plain.ret _) _) fun _ => Plain.ret _
    · split
      · exact Plain.ret _
      · exact (Never.halt _).plain
  · refine (plain_sizeOf _).bind fun _ => ?_
    split
    · exact Plain.ret _
    · exact (Never.halt _).plain
  · exact (Never.halt _).plain
theorem plain_intArith (op : BinOp) (k : IntKind) (x y : Int) : Plain P (Op.intArith op k x y) := by
  unfold Op.intArith
  split <;> first | exact Plain.ret _ | exact (Never.halt _).plain
theorem plain_intDiv (op : BinOp) (k : IntKind) (x y : Int) : Plain P (Op.intDiv op k x y) := by
  unfold Op.intDiv
  split
  · exact (never_panic _).plain
  · split <;> first | exact Plain.ret _ | exact (Never.halt _).plain
theorem plain_intBits (op : BinOp) (k : IntKind) (x y : Int) : Plain P (Op.intBits op k x y) := by
  unfold Op.intBits
  dsimp only
  split <;> first | exact Plain.ret _ | exact (Never.halt _).plain
theorem plain_intCmp (op : BinOp) (x y : Int) : Plain P (Op.intCmp op x y) := by
  unfold Op.intCmp
  split <;> first | exact Plain.ret _ | exact (Never.halt _).plain
theorem plain_shift (op : BinOp) (k yk : IntKind) (x y : Int) : Plain P (Op.shift op k x yk y) := by
  unfold Op.shift
  split
  · exact (never_panic _).plain
  · dsimp only
    split <;> first | exact Plain.ret _ | exact (Never.halt _).plain
theorem plain_binOp (op : BinOp) (t : TypeId) (k k' : IntKind) (x y : Int) : Plain P (binOp op t (.int k x) (.int k' y)) := by
  cases op <;> simp only [binOp] <;> first
    | exact plain_shift _ _ _ _ _
    | (split
       · exact (Never.halt _).plain
       · first | exact plain_intArith _ _ _ _ | exact plain_intDiv _ _ _ _ | exact plain_intBits _ _ _ _ | exact plain_intCmp _ _ _)
theorem plain_eqGuard (op : BinOp) (t : TypeId) (a b : Operand) (k k' : IntKind) (x y : Int) : Plain P (eqGuard op t a b (.int k x) (.int k' y)) := by
  unfold eqGuard
  cases op <;> simp only [Bool.not_true, Bool.not_false, if_true, Bool.false_eq_true, if_false] <;> exact Plain.ret _
theorem plain_unary (op : UnOp) (x : Value) : Plain P (Op.unary op x) := by
  unfold Op.unary
  split <;> first | exact plain_intArith _ _ _ _ | exact plain_intBits _ _ _ _ | exact Plain.ret _ | exact (Never.halt _).plain
theorem plain_convert (s d : TypeId) (k kd : IntKind) (n : Int) (hd : P.underlying d = some (.int kd)) : Plain P (convert s d (.int k n)) := by
  intro w v w1 hr
  unfold convert at hr ⊢
  obtain ⟨d1, w2, h1, h2⟩ := run_bind_ok hr
  have hu : ∀ w', (underlying s).run P w' = .ok d1 w' := ((plain_underlying s) _ _ _ h1).2
  have hv : ∀ w', (underlying d).run P w' = .ok (.int kd) w' := fun w' => by unfold underlying; simp [hd]
  simp only [Sem.run_bind, hu, hv, Result.andThen_ok, Conv.intToInt, Sem.run_pure] at hr ⊢
  cases hr
  exact ⟨rfl, fun _ => rfl⟩
theorem plain_len (ts : Array TypeId) (t : TypeId) (a : Option Addr) (n c : Nat) : Plain P (Builtin.len_ ts t #[.slice a n c]) := by
  unfold Builtin.len_
  cases ts[0]? with
  | none => exact (Never.halt _).plain
  | some t0 =>
    simp only [List.getElem?_toArray, List.getElem?_cons_zero]
    refine (plain_underlying _).bind fun d => ?_
    cases d <;> simp only []
    repeat (first
      | exact Plain.ret _
      | exact (Never.halt _).plain
      | exact (never_panic _).plain
      | exact (never_bounds _ _ _ _).plain
      | exact plain_sliceBound _ _ _
      | exact plain_sizeOf _
      | exact plain_underlying _
      | exact plain_part _ _ _
      | exact plain_sureAddr _
      | refine Plain.bind ?_ fun _ => ?_
      | split
      | dsimp only)
end
end Go.Proofs.YtjojhfphlnfimaaGreatDoor.J
