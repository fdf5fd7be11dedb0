/- A map from numbers to operations, in memory: looked up, added to, taken from, emptied. The map's operations, for the walk; what becomes of the other blocks. -/
import Derived.Test.YtjojhfphlnfimaaGreatDoorDoc
import Derived.Maps.Own
import Derived.Test.YtjojhfphlnfimaaGreatDoorJk
namespace Go.Proofs.YtjojhfphlnfimaaGreatDoor.J
open Go Go.RowKit
open Go.ChangeMaps (setBlock heap_setBlock_same heap_setBlock_other)
set_option linter.unusedSimpArgs false
set_option linter.unusedVariables false

variable {P : Program}

def heldV (l : List (Int × Op)) : List (Value × Value) := l.map fun p => (.int .i64 p.1, p.2.v)
def heldOk (es : Array MapEntry) (l : List (Int × Op)) : Prop := es.toList.map (fun e => (e.key, e.val)) = heldV l
def findH (n : Int) : List (Int × Op) → Option Op
  | [] => none
  | p :: r => if n = p.1 then some p.2 else findH n r
def idxH (n : Int) : List (Int × Op) → Nat
  | [] => 0
  | p :: r => if n = p.1 then 0 else idxH n r + 1
def delH (n : Int) (l : List (Int × Op)) : List (Int × Op) := l.eraseIdx (idxH n l)

theorem findNow_held (n : Int) : ∀ (es : List MapEntry) (l : List (Int × Op)) (i : Nat), es.map (fun e => (e.key, e.val)) = heldV l →
    Instr.findNow (.int .i64) (.int .i64 n) es i = some ((findH n l).map fun o => (i + idxH n l, o.v)) := by
  intro es
  induction es with
  | nil =>
    intro l i h
    cases l with
    | nil => rfl
    | cons p r => simp [heldV] at h
  | cons e es ih =>
    intro l i h
    cases l with
    | nil => simp [heldV] at h
    | cons p r =>
      simp only [heldV, List.map_cons, List.cons.injEq, Prod.mk.injEq] at h
      obtain ⟨⟨h1, h2⟩, h3⟩ := h
      unfold Instr.findNow
      simp only [h1, Instr.sameNow, if_true]
      by_cases hn : n = p.1
      · subst hn
        simp [findH, idxH, h2]
      · have : (n == p.1) = false := by simp [hn]
        rw [this]
        simp only [findH, idxH, if_neg hn]
        rw [ih r (i + 1) h3]
        cases findH n r <;> simp
        omega

section
variable {w : World} {T K E : TypeId} {b ck : Nat} {es : Array MapEntry} {l : List (Int × Op)}

theorem checkKey_int (hK : P.underlying K = some (.int .i64)) (em : Bool) (n : Int) (w : World) : (Instr.checkKey em 10000 K (.int .i64 n)).run P w = .ok () w := by
  rw [show (10000 : Nat) = 9999 + 1 from rfl, Instr.checkKey]
  simp [run_underlying hK, Result.andThen]

theorem findKey_held (hK : P.underlying K = some (.int .i64)) (h : heldOk es l) (n : Int) (w : World) :
    (Instr.findKey K (.int .i64 n) es.toList).run P w = .ok ((findH n l).map fun o => (idxH n l, o.v)) w := by
  unfold Instr.findKey
  simp only [Sem.run_bind, run_underlying hK, Result.andThen, findNow_held n es.toList l 0 h]
  simp

theorem lookup_held (hT : P.underlying T = some (.map K E)) (hK : P.underlying K = some (.int .i64)) (hz : (zeroValue E).run P w = .ok Op.zero.v w) (hb : w.heap[b]? = some (.map es ck)) (h : heldOk es l) (n : Int) :
    (Instr.lookup T (.map (some b)) (.int .i64 n) true).run P w = .ok (.tuple #[((findH n l).getD Op.zero).v, .bool (findH n l).isSome]) w := by
  unfold Instr.lookup
  simp only [Sem.run_bind, run_underlying hT, Result.andThen, MapKept.run_getObj_map hb, checkKey_int hK, findKey_held hK h, Sem.run_pure]
  cases hf : findH n l <;> simp [hz, Result.andThen]

theorem update_held (hT : P.underlying T = some (.map K E)) (hK : P.underlying K = some (.int .i64)) (hb : w.heap[b]? = some (.map es ck)) (h : heldOk es l) (n : Int) (hn : findH n l = none) (v : Value) :
    (Instr.mapUpdate T (.map (some b)) (.int .i64 n) v).run P w = .ok () (setBlock w b (.map (es.push { key := .int .i64 n, val := v, born := ck }) (ck + 1))) := by
  simp [Instr.mapUpdate, run_underlying hT, MapKept.run_getObj_map hb, checkKey_int hK, findKey_held hK h, hn, MapKept.run_setObj_map _ hb, Result.andThen, setBlock]

theorem delete_held (ty : TypeId) (hT : P.underlying T = some (.map K E)) (hK : P.underlying K = some (.int .i64)) (hb : w.heap[b]? = some (.map es ck)) (h : heldOk es l) (n : Int) (o : Op) (hn : findH n l = some o) :
    (Builtin.delete_ #[T, K] ty #[.map (some b), .int .i64 n]).run P w = .ok (.tuple #[]) (setBlock w b (.map (es.eraseIdxIfInBounds (idxH n l)) ck)) := by
  simp [Builtin.delete_, run_underlying hT, MapKept.run_getObj_map hb, checkKey_int hK, findKey_held hK h, hn, MapKept.run_setObj_map _ hb, Result.andThen, setBlock]

theorem clear_held (ty : TypeId) (hT : P.underlying T = some (.map K E)) (hb : w.heap[b]? = some (.map es ck)) :
    (Builtin.clear_ #[T] ty #[.map (some b)]).run P w = .ok (.tuple #[]) (setBlock w b (.map #[] ck)) := by
  simp [Builtin.clear_, run_underlying hT, MapKept.run_getObj_map hb, MapKept.run_setObj_map _ hb, Result.andThen, setBlock]
end

theorem heldOk.push {es : Array MapEntry} {l : List (Int × Op)} (h : heldOk es l) (n : Int) (o : Op) (ck : Nat) : heldOk (es.push { key := .int .i64 n, val := o.v, born := ck }) (l ++ [(n, o)]) := by
  unfold heldOk at h ⊢
  simp only [heldV, Array.toList_push, List.map_append, List.map_cons, List.map_nil]
  rw [h]; rfl
theorem map_erase {α β : Type} (f : α → β) : ∀ (l : List α) (i : Nat), (l.eraseIdx i).map f = (l.map f).eraseIdx i
  | [], _ => by simp
  | _ :: _, 0 => by simp
  | _ :: l, i + 1 => by simp [map_erase f l i]
theorem heldOk.erase {es : Array MapEntry} {l : List (Int × Op)} (h : heldOk es l) (i : Nat) : heldOk (es.eraseIdxIfInBounds i) (l.eraseIdx i) := by
  unfold heldOk at h ⊢
  have e : (es.eraseIdxIfInBounds i).toList = es.toList.eraseIdx i := by
    unfold Array.eraseIdxIfInBounds
    split
    · rw [Array.toList_eraseIdx]
    · rename_i hi
      rw [List.eraseIdx_of_length_le]
      simpa using hi
  rw [e, map_erase, h, heldV, heldV, map_erase]
theorem heldOk.nil : heldOk #[] [] := rfl

/-! ### Numbers that differ -/
def distH (l : List (Int × Op)) : Prop := l.Pairwise fun p q => p.1 ≠ q.1
theorem findH_none {n : Int} {l : List (Int × Op)} : findH n l = none ↔ ∀ p ∈ l, p.1 ≠ n := by
  induction l with
  | nil => simp [findH]
  | cons p r ih =>
    unfold findH
    by_cases h : n = p.1
    · subst h; simp
    · simp only [if_neg h, ih, List.mem_cons, forall_eq_or_imp]
      exact ⟨fun k => ⟨fun e => h e.symm, k⟩, fun k => k.2⟩
theorem findH_append (n k : Int) (o : Op) (l : List (Int × Op)) : findH n (l ++ [(k, o)]) = if (findH n l).isSome then findH n l else if n = k then some o else none := by
  induction l with
  | nil => simp [findH]
  | cons p r ih =>
    simp only [List.cons_append, findH]
    by_cases h : n = p.1
    · simp [h]
    · simp [h, ih]
theorem distH_push {n : Int} {o : Op} {l : List (Int × Op)} (h : distH l) (hn : findH n l = none) : distH (l ++ [(n, o)]) := by
  unfold distH at h ⊢
  rw [List.pairwise_append]
  refine ⟨h, by simp, ?_⟩
  intro p hp q hq
  simp only [List.mem_singleton] at hq
  subst hq
  exact findH_none.1 hn p hp
theorem findH_del {n k : Int} {l : List (Int × Op)} (h : distH l) : findH k (delH n l) = if k = n then none else findH k l := by
  unfold delH
  induction l with
  | nil => simp [findH]
  | cons p r ih =>
    have h2 := List.pairwise_cons.1 h
    by_cases hn : n = p.1
    · simp only [idxH, if_pos hn, List.eraseIdx_cons_zero]
      by_cases hk : k = n
      · rw [if_pos hk, findH_none]
        intro q hq
        exact fun e => h2.1 q hq (by rw [e, hk, hn])
      · rw [if_neg hk]
        simp only [findH]
        rw [if_neg (by rw [← hn]; exact hk)]
    · simp only [idxH, if_neg hn, List.eraseIdx_cons_succ, findH, ih h2.2]
      by_cases hk : k = p.1
      · have hkn : ¬ k = n := fun e => hn (by rw [← e, hk])
        simp [hk, hkn, Ne.symm hn, fun e => hn (Eq.symm e)]
      · simp [hk]
theorem distH_del {n : Int} {l : List (Int × Op)} (h : distH l) : distH (delH n l) := h.sublist (List.eraseIdx_sublist _ _)
end Go.Proofs.YtjojhfphlnfimaaGreatDoor.J

namespace Go.Proofs.YtjojhfphlnfimaaGreatDoor.J
open Go Go.RowKit
open Go.ChangeMaps (setBlock heap_setBlock_same heap_setBlock_other)
set_option linter.unusedSimpArgs false
set_option linter.unusedVariables false

section
variable {P : Program} {w : World} {ops : Array Oper} {rest : List Oper} {o : Oper} {a : Act} {Q : Exit → Act → World → Prop} {T K E : TypeId} {b ck : Nat} {es : Array MapEntry} {l : List (Int × Op)}

theorem wpList_lookup_h (hg : o.guard = none) (m x : Operand) (hop : o.op = Op.lookup T m x true) (hT : P.underlying T = some (.map K E)) (hK : P.underlying K = some (.int .i64)) (hz : (zeroValue E).run P w = .ok Op.zero.v w)
    (hm : a.eval m = .map (some b)) (hb : w.heap[b]? = some (.map es ck)) (hh : heldOk es l) (n : Int) (hx : a.eval x = .int .i64 n)
    (h : wpList P ops Q rest (a.put o.dst (.tuple #[((findH n l).getD Op.zero).v, .bool (findH n l).isSome])) w) : wpList P ops Q (o :: rest) a w := by
  refine wpList_plain hg fun K' hK' => ?_
  have hrun := lookup_held (T := T) (K := K) (E := E) hT hK hz hb hh n
  unfold Oper.wp
  simp [execOp, hop, hm, hx, hrun, Result.andThen]
  exact hK' _ _ h

theorem wpList_update_h (hg : o.guard = none) (m x v : Operand) (hop : o.op = Op.mapUpdate T m x v) (hT : P.underlying T = some (.map K E)) (hK : P.underlying K = some (.int .i64))
    (hm : a.eval m = .map (some b)) (hb : w.heap[b]? = some (.map es ck)) (hh : heldOk es l) (n : Int) (hx : a.eval x = .int .i64 n) (hn : findH n l = none) (val : Value) (hv : a.eval v = val)
    (h : wpList P ops Q rest (a.put o.dst undef) (setBlock w b (.map (es.push { key := .int .i64 n, val := val, born := ck }) (ck + 1)))) : wpList P ops Q (o :: rest) a w := by
  refine wpList_plain hg fun K' hK' => ?_
  have hrun := update_held (T := T) (K := K) (E := E) hT hK hb hh n hn val
  unfold Oper.wp
  simp [execOp, hop, hm, hx, hv, hrun, Result.andThen]
  exact hK' _ _ h

theorem wpList_delete_h (hg : o.guard = none) (m x : Operand) (hop : o.op = .call { callee := .builtin .delete, args := #[m, x], argTypes := #[T, K] }) (hT : P.underlying T = some (.map K E)) (hK : P.underlying K = some (.int .i64))
    (hm : a.eval m = .map (some b)) (hb : w.heap[b]? = some (.map es ck)) (hh : heldOk es l) (n : Int) (hx : a.eval x = .int .i64 n) (q : Op) (hn : findH n l = some q)
    (h : wpList P ops Q rest (a.put o.dst (.tuple #[])) (setBlock w b (.map (es.eraseIdxIfInBounds (idxH n l)) ck))) : wpList P ops Q (o :: rest) a w := by
  refine wpList_plain hg fun K' hK' => ?_
  have hrun := delete_held (T := T) (K := K) (E := E) o.type hT hK hb hh n q hn
  unfold Oper.wp
  simp [execOp, hop, resolve, invoke, builtin, hm, hx, hrun, Result.andThen]
  exact hK' _ _ h

theorem wpList_clear_h (hg : o.guard = none) (m : Operand) (hop : o.op = .call { callee := .builtin .clear, args := #[m], argTypes := #[T] }) (hT : P.underlying T = some (.map K E))
    (hm : a.eval m = .map (some b)) (hb : w.heap[b]? = some (.map es ck))
    (h : wpList P ops Q rest (a.put o.dst (.tuple #[])) (setBlock w b (.map #[] ck))) : wpList P ops Q (o :: rest) a w := by
  refine wpList_plain hg fun K' hK' => ?_
  have hrun := clear_held (T := T) (K := K) (E := E) o.type hT hb
  unfold Oper.wp
  simp [execOp, hop, resolve, invoke, builtin, hm, hrun, Result.andThen]
  exact hK' _ _ h

theorem mod_setBlock {S : Nat → Prop} {w w' : World} {b : Nat} {o o' : Obj} (h : Mod S w w') (hb : w'.heap[b]? = some o) (hp : S b ∨ w.heap.size ≤ b) : Mod S w (setBlock w' b o') :=
  h.trans (T := fun x => x = b) ⟨rfl, rfl, rfl, by simp [setBlock], fun k hk hne => by simp only [setBlock]; rw [Array.getElem?_setIfInBounds_ne (fun e => hne e.symm)]⟩ (fun x hx e => by subst e; rcases hp with h | h; exact h; omega)
theorem blk_setBlock {w : World} {b : Nat} {o o' : Obj} (hb : w.heap[b]? = some o) : (setBlock w b o').heap[b]? = some o' := by
  simp only [setBlock]
  rw [Array.getElem?_setIfInBounds_self_of_lt (blk_lt hb)]
theorem blk_setBlock_other {w : World} {b i : Nat} {o o' : Obj} (hb : w.heap[i]? = some o) (h : i ≠ b) : (setBlock w b o').heap[i]? = some o := by
  simp only [setBlock]
  rw [Array.getElem?_setIfInBounds_ne (Ne.symm h)]; exact hb
end

/-- An inbox: its number, its map. -/
def InAt (w : World) (p pm : Nat) (cum : Int) (l : List (Int × Op)) (T : TypeId) : Prop :=
  w.heap[p]? = some (.cells #[.int .i64 8, .int .i64 cum, .map (some pm)] T (0, 0)) ∧ ∃ es ck, w.heap[pm]? = some (.map es ck) ∧ heldOk es l
theorem InAt.mod {S : Nat → Prop} {w w' : World} {p pm : Nat} {cum : Int} {l : List (Int × Op)} {T : TypeId} (h : InAt w p pm cum l T) (hm : Mod S w w') (h1 : ¬ S p) (h2 : ¬ S pm) : InAt w' p pm cum l T := by
  obtain ⟨a, es, ck, b, c⟩ := h
  exact ⟨hm.heap a h1, es, ck, hm.heap b h2, c⟩
end Go.Proofs.YtjojhfphlnfimaaGreatDoor.J
