/- Structs of numbers compared: what == and != answer. Lists compared element by element. -/
import Derived.Test.YtjojhfphlnfimaaGreatDoorProg
import Derived.Test.YtjojhfphlnfimaaGreatDoorDoc
import Derived.ProofKit
import Derived.Deep.QuietTactic
import Derived.BigQuiet
namespace Go.Proofs.YtjojhfphlnfimaaGreatDoor.J
open Go Go.RowKit
set_option linter.unusedSimpArgs false
set_option linter.unusedVariables false

section
variable {P : Program} {w : World} {d : Nat} {xs ys : Array Value} {f : Field} {fs : List Field} {a b : Value} {r s : Bool}
theorem eq_nil : (Op.eqFields d xs ys []).run P w = .ok true w := by simp [Op.eqFields]
theorem eq_step (hn : (f.name == "_") = false) (ha : (part f.type xs f.offset).run P w = .ok a w) (hb : (part f.type ys f.offset).run P w = .ok b w) (he : (Op.equalIn d f.type a b).run P w = .ok r w)
    (hr : (Op.eqFields d xs ys fs).run P w = .ok s w) : (Op.eqFields d xs ys (f :: fs)).run P w = .ok (r && s) w := by
  have hn' : f.name ≠ "_" := by simpa using hn
  simp only [Op.eqFields, if_pos hn', Sem.run_bind, ha, hb, he, Result.andThen_ok]
  cases r
  · simp
  · simpa using hr
theorem eq_struct {t : TypeId} {fs : Array Field} (hu : P.underlying t = some (.struct fs)) (hp : P.stoodInHeld t = false) (h : (Op.eqFields d xs ys fs.toList).run P w = .ok r w) :
    (Op.equalIn (d + 1) t (.agg xs) (.agg ys)).run P w = .ok r w := by
  have hf : P.fieldsOf t = fs := by simp [Program.fieldsOf, hu]
  rw [run_equalIn_struct (P := P) w d t xs ys (by rw [hf]; exact hu) hp, hf]
  exact h
end

theorem eqElem (d : Nat) (w : World) (x0 x1 x2 y0 y1 y2 : Int) :
   (Op.equalIn (d + 2) 95 (.agg #[.int .u8 x0, .int .i64 x1, .int .i64 x2]) (.agg #[.int .u8 y0, .int .i64 y1, .int .i64 y2])).run Tryz.prog w = .ok (decide ((⟨x0, x1, x2⟩ : Elem) = ⟨y0, y1, y2⟩)) w := by
 have h : decide ((⟨x0, x1, x2⟩ : Elem) = ⟨y0, y1, y2⟩) = (x0 == y0 && (x1 == y1 && (x2 == y2 && true))) := by
   rw [Bool.eq_iff_iff]; simp
 rw [h]
 refine eq_struct Tryz.underlying95 (by kernel_rfl) ?_
 refine eq_step (by rfl) (by go_simp; rfl) (by go_simp; rfl) (by go_simp) ?_
 refine eq_step (by rfl) (by go_simp; rfl) (by go_simp; rfl) (by go_simp) ?_
 refine eq_step (by rfl) (by go_simp; rfl) (by go_simp; rfl) (by go_simp) ?_
 exact eq_nil

theorem eqOp (d : Nat) (w : World) (x0 x1 x2 x3 x4 y0 y1 y2 y3 y4 : Int) :
    (Op.equalIn (d + 2) 32 (.agg #[.int .i64 x0, .int .i64 x1, .int .u8 x2, .int .i64 x3, .int .i64 x4]) (.agg #[.int .i64 y0, .int .i64 y1, .int .u8 y2, .int .i64 y3, .int .i64 y4])).run Tryz.prog w = .ok (decide ((⟨x0, x1, x2, x3, x4⟩ : Op) = ⟨y0, y1, y2, y3, y4⟩)) w := by
  have h : decide ((⟨x0, x1, x2, x3, x4⟩ : Op) = ⟨y0, y1, y2, y3, y4⟩) = (x0 == y0 && (x1 == y1 && (x2 == y2 && (x3 == y3 && (x4 == y4 && true))))) := by
    rw [Bool.eq_iff_iff]; simp
  rw [h]
  refine eq_struct Tryz.underlying32 (by kernel_rfl) ?_
  refine eq_step (by rfl) (by go_simp; rfl) (by go_simp; rfl) (by go_simp) ?_
  refine eq_step (by rfl) (by go_simp; rfl) (by go_simp; rfl) (by go_simp) ?_
  refine eq_step (by rfl) (by go_simp; rfl) (by go_simp; rfl) (by go_simp) ?_
  refine eq_step (by rfl) (by go_simp; rfl) (by go_simp; rfl) (by go_simp) ?_
  refine eq_step (by rfl) (by go_simp; rfl) (by go_simp; rfl) (by go_simp) ?_
  exact eq_nil

theorem eqEdit (d : Nat) (w : World) (t u x0 x1 x2 x3 x4 y0 y1 y2 y3 y4 : Int) :
    (Op.equalIn (d + 3) 60 (.agg #[.int .i64 t, .int .i64 x0, .int .i64 x1, .int .u8 x2, .int .i64 x3, .int .i64 x4]) (.agg #[.int .i64 u, .int .i64 y0, .int .i64 y1, .int .u8 y2, .int .i64 y3, .int .i64 y4])).run Tryz.prog w = .ok (decide ((⟨t, ⟨x0, x1, x2, x3, x4⟩⟩ : Edit) = ⟨u, ⟨y0, y1, y2, y3, y4⟩⟩)) w := by
  have h : decide ((⟨t, ⟨x0, x1, x2, x3, x4⟩⟩ : Edit) = ⟨u, ⟨y0, y1, y2, y3, y4⟩⟩) = (t == u && (decide ((⟨x0, x1, x2, x3, x4⟩ : Op) = ⟨y0, y1, y2, y3, y4⟩) && true)) := by
    rw [Bool.eq_iff_iff]; simp
  rw [h]
  refine eq_struct Tryz.underlying60 (by kernel_rfl) ?_
  refine eq_step (by rfl) (by go_simp; rfl) (by go_simp; rfl) (by go_simp) ?_
  refine eq_step (by rfl) (by go_simp) (by go_simp) (eqOp (d + 0) w _ _ _ _ _ _ _ _ _ _) ?_
  exact eq_nil

theorem eqMarked (d : Nat) (w : World) (t u x0 x1 x2 x3 x4 y0 y1 y2 y3 y4 : Int) :
   (Op.equalIn (d + 3) 108 (.agg #[.int .i64 t, .int .i64 x0, .int .i64 x1, .int .u8 x2, .int .i64 x3, .int .i64 x4]) (.agg #[.int .i64 u, .int .i64 y0, .int .i64 y1, .int .u8 y2, .int .i64 y3, .int .i64 y4])).run Tryz.prog w = .ok (decide ((⟨t, ⟨x0, x1, x2, x3, x4⟩⟩ : Marked) = ⟨u, ⟨y0, y1, y2, y3, y4⟩⟩)) w := by
 have h : decide ((⟨t, ⟨x0, x1, x2, x3, x4⟩⟩ : Marked) = ⟨u, ⟨y0, y1, y2, y3, y4⟩⟩) = (t == u && (decide ((⟨x0, x1, x2, x3, x4⟩ : Op) = ⟨y0, y1, y2, y3, y4⟩) && true)) := by
   rw [Bool.eq_iff_iff]; simp
 rw [h]
 refine eq_struct Tryz.underlying108 (by kernel_rfl) ?_
 refine eq_step (by rfl) (by go_simp; rfl) (by go_simp; rfl) (by go_simp) ?_
 refine eq_step (by rfl) (by go_simp) (by go_simp) (eqOp (d + 0) w _ _ _ _ _ _ _ _ _ _) ?_
 exact eq_nil

section
variable (w : World)
theorem neq_Elem (x0 x1 x2 y0 y1 y2 : Int) :
   (binOp .neq 95 (.agg #[.int .u8 x0, .int .i64 x1, .int .i64 x2]) (.agg #[.int .u8 y0, .int .i64 y1, .int .i64 y2])).run Tryz.prog w = .ok (.bool (!decide ((⟨x0, x1, x2⟩ : Elem) = ⟨y0, y1, y2⟩))) w := by
 simp only [binOp]
 simp [Op.equal, Op.maxDepth, eqElem 9998 w, -Elem.mk.injEq]
theorem neq_Edit (t x0 x1 x2 x3 x4 u y0 y1 y2 y3 y4 : Int) :
    (binOp .neq 60 (.agg #[.int .i64 t, .int .i64 x0, .int .i64 x1, .int .u8 x2, .int .i64 x3, .int .i64 x4]) (.agg #[.int .i64 u, .int .i64 y0, .int .i64 y1, .int .u8 y2, .int .i64 y3, .int .i64 y4])).run Tryz.prog w = .ok (.bool (!decide ((⟨t, ⟨x0, x1, x2, x3, x4⟩⟩ : Edit) = ⟨u, ⟨y0, y1, y2, y3, y4⟩⟩))) w := by
  simp only [binOp]
  simp [Op.equal, Op.maxDepth, eqEdit 9997 w, -Edit.mk.injEq]
theorem neq_Op (x0 x1 x2 x3 x4 y0 y1 y2 y3 y4 : Int) :
    (binOp .neq 32 (.agg #[.int .i64 x0, .int .i64 x1, .int .u8 x2, .int .i64 x3, .int .i64 x4]) (.agg #[.int .i64 y0, .int .i64 y1, .int .u8 y2, .int .i64 y3, .int .i64 y4])).run Tryz.prog w = .ok (.bool (!decide ((⟨x0, x1, x2, x3, x4⟩ : Op) = ⟨y0, y1, y2, y3, y4⟩))) w := by
  simp only [binOp]
  simp [Op.equal, Op.maxDepth, eqOp 9998 w, -Op.mk.injEq]
theorem neq_Marked (t x0 x1 x2 x3 x4 u y0 y1 y2 y3 y4 : Int) :
   (binOp .neq 108 (.agg #[.int .i64 t, .int .i64 x0, .int .i64 x1, .int .u8 x2, .int .i64 x3, .int .i64 x4]) (.agg #[.int .i64 u, .int .i64 y0, .int .i64 y1, .int .u8 y2, .int .i64 y3, .int .i64 y4])).run Tryz.prog w = .ok (.bool (!decide ((⟨t, ⟨x0, x1, x2, x3, x4⟩⟩ : Marked) = ⟨u, ⟨y0, y1, y2, y3, y4⟩⟩))) w := by
 simp only [binOp]
 simp [Op.equal, Op.maxDepth, eqMarked 9997 w, -Marked.mk.injEq]
end
end Go.Proofs.YtjojhfphlnfimaaGreatDoor.J

namespace Go.Proofs.YtjojhfphlnfimaaGreatDoor.J
open Go Go.RowKit
set_option linter.unusedSimpArgs false
set_option linter.unusedVariables false

theorem Rd.elem {w : World} {A : Option Addr} {n c : Nat} {l : List Elem} (h : Rd kElem w A n c l) {i : Nat} (hi : i < n) : ∃ b o, ∃ x : Elem, l[i]? = some x ∧ A = some ⟨b, o, none⟩ ∧
    w.cell? ⟨b, o + i * 3, none⟩ = some (.int .u8 x.ch) ∧
    w.cell? ⟨b, o + i * 3 + 1, none⟩ = some (.int .i64 x.client) ∧
    w.cell? ⟨b, o + i * 3 + 2, none⟩ = some (.int .i64 x.seq) := by
  have hx := List.getElem?_eq_getElem (l := l) (i := i) (by rw [← h.1]; exact hi)
  obtain ⟨b, o, ha, hc⟩ := h.at hx
  exact ⟨b, o, _, hx, ha, hc 0 _ rfl, hc 1 _ rfl, hc 2 _ rfl⟩

theorem Rd.edit {w : World} {A : Option Addr} {n c : Nat} {l : List Edit} (h : Rd kEdit w A n c l) {i : Nat} (hi : i < n) : ∃ b o, ∃ x : Edit, l[i]? = some x ∧ A = some ⟨b, o, none⟩ ∧
    w.cell? ⟨b, o + i * 6, none⟩ = some (.int .i64 x.tag) ∧
    w.cell? ⟨b, o + i * 6 + 1, none⟩ = some (.int .i64 x.op.kind) ∧
    w.cell? ⟨b, o + i * 6 + 2, none⟩ = some (.int .i64 x.op.pos) ∧
    w.cell? ⟨b, o + i * 6 + 3, none⟩ = some (.int .u8 x.op.ch) ∧
    w.cell? ⟨b, o + i * 6 + 4, none⟩ = some (.int .i64 x.op.client) ∧
    w.cell? ⟨b, o + i * 6 + 5, none⟩ = some (.int .i64 x.op.seq) := by
  have hx := List.getElem?_eq_getElem (l := l) (i := i) (by rw [← h.1]; exact hi)
  obtain ⟨b, o, ha, hc⟩ := h.at hx
  exact ⟨b, o, _, hx, ha, hc 0 _ rfl, hc 1 _ rfl, hc 2 _ rfl, hc 3 _ rfl, hc 4 _ rfl, hc 5 _ rfl⟩

theorem Rd.op {w : World} {A : Option Addr} {n c : Nat} {l : List Op} (h : Rd kOp w A n c l) {i : Nat} (hi : i < n) : ∃ b o, ∃ x : Op, l[i]? = some x ∧ A = some ⟨b, o, none⟩ ∧
    w.cell? ⟨b, o + i * 5, none⟩ = some (.int .i64 x.kind) ∧
    w.cell? ⟨b, o + i * 5 + 1, none⟩ = some (.int .i64 x.pos) ∧
    w.cell? ⟨b, o + i * 5 + 2, none⟩ = some (.int .u8 x.ch) ∧
    w.cell? ⟨b, o + i * 5 + 3, none⟩ = some (.int .i64 x.client) ∧
    w.cell? ⟨b, o + i * 5 + 4, none⟩ = some (.int .i64 x.seq) := by
  have hx := List.getElem?_eq_getElem (l := l) (i := i) (by rw [← h.1]; exact hi)
  obtain ⟨b, o, ha, hc⟩ := h.at hx
  exact ⟨b, o, _, hx, ha, hc 0 _ rfl, hc 1 _ rfl, hc 2 _ rfl, hc 3 _ rfl, hc 4 _ rfl⟩

theorem Rd.marked {w : World} {A : Option Addr} {n c : Nat} {l : List Marked} (h : Rd kMarked w A n c l) {i : Nat} (hi : i < n) : ∃ b o, ∃ x : Marked, l[i]? = some x ∧ A = some ⟨b, o, none⟩ ∧
    w.cell? ⟨b, o + i * 6, none⟩ = some (.int .i64 x.mark) ∧
    w.cell? ⟨b, o + i * 6 + 1, none⟩ = some (.int .i64 x.op.kind) ∧
    w.cell? ⟨b, o + i * 6 + 2, none⟩ = some (.int .i64 x.op.pos) ∧
    w.cell? ⟨b, o + i * 6 + 3, none⟩ = some (.int .u8 x.op.ch) ∧
    w.cell? ⟨b, o + i * 6 + 4, none⟩ = some (.int .i64 x.op.client) ∧
    w.cell? ⟨b, o + i * 6 + 5, none⟩ = some (.int .i64 x.op.seq) := by
  have hx := List.getElem?_eq_getElem (l := l) (i := i) (by rw [← h.1]; exact hi)
  obtain ⟨b, o, ha, hc⟩ := h.at hx
  exact ⟨b, o, _, hx, ha, hc 0 _ rfl, hc 1 _ rfl, hc 2 _ rfl, hc 3 _ rfl, hc 4 _ rfl, hc 5 _ rfl⟩

theorem take_eq_snoc {α : Type} {l m : List α} {k : Nat} {x y : α} (h : l.take k = m.take k) (hx : l[k]? = some x) (hy : m[k]? = some y) : l.take (k + 1) = m.take (k + 1) ↔ x = y := by
  rw [List.take_add_one, List.take_add_one, h, hx, hy]
  simp
theorem ne_Elem (x y : Elem) : (!decide (x.ch = y.ch) || (!decide (x.client = y.client) || (!decide (x.seq = y.seq)))) = !decide (x = y) := by
  obtain ⟨a0, a1, a2⟩ := x; obtain ⟨b0, b1, b2⟩ := y
  simp only [Elem.mk.injEq, Bool.decide_and, Bool.not_and]
theorem ne_Edit (x y : Edit) : (!decide (x.tag = y.tag) || (!decide (x.op.kind = y.op.kind) || (!decide (x.op.pos = y.op.pos) || (!decide (x.op.ch = y.op.ch) || (!decide (x.op.client = y.op.client) || (!decide (x.op.seq = y.op.seq))))))) = !decide (x = y) := by
  obtain ⟨a, a0, a1, a2, a3, a4⟩ := x; obtain ⟨b, b0, b1, b2, b3, b4⟩ := y
  simp only [Edit.mk.injEq, Op.mk.injEq, Bool.decide_and, Bool.not_and]
theorem ne_Op (x y : Op) : (!decide (x.kind = y.kind) || (!decide (x.pos = y.pos) || (!decide (x.ch = y.ch) || (!decide (x.client = y.client) || (!decide (x.seq = y.seq)))))) = !decide (x = y) := by
  obtain ⟨a0, a1, a2, a3, a4⟩ := x; obtain ⟨b0, b1, b2, b3, b4⟩ := y
  simp only [Op.mk.injEq, Bool.decide_and, Bool.not_and]
theorem ne_Marked (x y : Marked) : (!decide (x.mark = y.mark) || (!decide (x.op.kind = y.op.kind) || (!decide (x.op.pos = y.op.pos) || (!decide (x.op.ch = y.op.ch) || (!decide (x.op.client = y.op.client) || (!decide (x.op.seq = y.op.seq))))))) = !decide (x = y) := by
  obtain ⟨a, a0, a1, a2, a3, a4⟩ := x; obtain ⟨b, b0, b1, b2, b3, b4⟩ := y
  simp only [Marked.mk.injEq, Op.mk.injEq, Bool.decide_and, Bool.not_and]

set_option maxHeartbeats 1000000 in
theorem sameDoc_any (A B : Option Addr) (n m c d : Nat) (la lb : List Elem) (w : World) (ha : Rd kElem w A n c la) (hb : Rd kElem w B m d lb) :
   Calls Tryz.prog 13 #[.slice A n c, .slice B m d] w fun e w' => e = .returned (.bool (decide (la = lb))) ∧ Mod No w w' := by
 have hq := fun p0 p1 p2 r0 r1 r2 w => neq_Elem w p0 p1 p2 r0 r1 r2
 by_cases hnm : n = m
 · have hmax := ha.max
   unfold maxLen at hmax
   subst hnm
   have HA := ha.1
   have HB := hb.1
   have HA' := Lib.hid HA
   have HB' := Lib.hid HB
   clear HA HB
   go_enter Tryz.func13, Tryz.ntmps13
   go_wp2
   go_loopw [5] (fun i wr => ∃ k : Nat, k ≤ n ∧ i = .int .i64 k ∧ la.take k = lb.take k ∧ ∃ q, wr = w.drewN q) (fun i _ => n - (intOf i).toNat)
   case atStart => exact ⟨0, Nat.zero_le _, rfl, rfl, 0, rfl⟩
   case round =>
     obtain ⟨k, hk, rfl, ht, q, rfl⟩ := hrel
     have HT := Lib.hid ht
     clear ht
     by_cases hlt : k < n
     · obtain ⟨b1, o1, x, hx, rfl, x1, x2, x3⟩ := ha.elem hlt
       obtain ⟨b2, o2, y, hy, rfl, y1, y2, y3⟩ := hb.elem hlt
       have HX := Lib.hid hx
       have HY := Lib.hid hy
       clear hx hy
       have h0 : (0 : Int) ≤ (k : Int) := by omega
       by_cases hxy : x = y
       · subst hxy
         go_wp2
         go_quiet (fail)
         go_wp2
         go_roundw
         case rel => exact ⟨k + 1, by omega, by go_num, (take_eq_snoc HT.out HX.out HY.out).2 rfl, q + nq, by simp [World.drewN, Nat.add_assoc]⟩
         case measure => simp [intOf]; omega
       · have hne : (!decide (x.ch = y.ch) || (!decide (x.client = y.client) || (!decide (x.seq = y.seq)))) = true := by rw [ne_Elem, decide_eq_false hxy]; rfl
         have HN : Hid (la ≠ lb) := fun e => hxy ((take_eq_snoc HT.out HX.out HY.out).1 (by rw [e]))
         clear hxy
         go_wp2
         go_quiet (fail)
         go_wp2
         go_ret
         exact ⟨by rw [decide_eq_false HN.out]; rfl, ((Mod.refl _ _).drewN _).drewN _⟩
     · have hkn : k = n := by omega
       have HN : Hid (la = lb) := by
         have := HT.out
         rwa [List.take_of_length_le (by rw [← HA'.out]; omega), List.take_of_length_le (by rw [← HB'.out]; omega)] at this
       go_wp2
       go_ret
       exact ⟨by rw [decide_eq_true HN.out]; rfl, (Mod.refl _ _).drewN _⟩
 · have HN : Hid (la ≠ lb) := fun e => hnm (by rw [ha.1, hb.1, e])
   have hne : ((n : Int) != (m : Int)) = true := by rw [bne_iff_ne]; omega
   clear hnm
   go_enter Tryz.func13, Tryz.ntmps13
   go_wp2
   go_ret
   exact ⟨by rw [decide_eq_false HN.out]; rfl, Mod.refl _ _⟩

set_option maxHeartbeats 1000000 in
theorem sameEdits_any (A B : Option Addr) (n m c d : Nat) (la lb : List Edit) (w : World) (ha : Rd kEdit w A n c la) (hb : Rd kEdit w B m d lb) :
   Calls Tryz.prog 28 #[.slice A n c, .slice B m d] w fun e w' => e = .returned (.bool (decide (la = lb))) ∧ Mod No w w' := by
 have hq := fun p0 p1 p2 p3 p4 p5 r0 r1 r2 r3 r4 r5 w => neq_Edit w p0 p1 p2 p3 p4 p5 r0 r1 r2 r3 r4 r5
 by_cases hnm : n = m
 · have hmax := ha.max
   unfold maxLen at hmax
   subst hnm
   have HA := ha.1
   have HB := hb.1
   have HA' := Lib.hid HA
   have HB' := Lib.hid HB
   clear HA HB
   go_enter Tryz.func28, Tryz.ntmps28
   go_wp2
   go_loopw [5] (fun i wr => ∃ k : Nat, k ≤ n ∧ i = .int .i64 k ∧ la.take k = lb.take k ∧ ∃ q, wr = w.drewN q) (fun i _ => n - (intOf i).toNat)
   case atStart => exact ⟨0, Nat.zero_le _, rfl, rfl, 0, rfl⟩
   case round =>
     obtain ⟨k, hk, rfl, ht, q, rfl⟩ := hrel
     have HT := Lib.hid ht
     clear ht
     by_cases hlt : k < n
     · obtain ⟨b1, o1, x, hx, rfl, x1, x2, x3, x4, x5, x6⟩ := ha.edit hlt
       obtain ⟨b2, o2, y, hy, rfl, y1, y2, y3, y4, y5, y6⟩ := hb.edit hlt
       have HX := Lib.hid hx
       have HY := Lib.hid hy
       clear hx hy
       have h0 : (0 : Int) ≤ (k : Int) := by omega
       by_cases hxy : x = y
       · subst hxy
         go_wp2
         go_quiet (fail)
         go_wp2
         go_roundw
         case rel => exact ⟨k + 1, by omega, by go_num, (take_eq_snoc HT.out HX.out HY.out).2 rfl, q + nq, by simp [World.drewN, Nat.add_assoc]⟩
         case measure => simp [intOf]; omega
       · have hne : (!decide (x.tag = y.tag) || (!decide (x.op.kind = y.op.kind) || (!decide (x.op.pos = y.op.pos) || (!decide (x.op.ch = y.op.ch) || (!decide (x.op.client = y.op.client) || (!decide (x.op.seq = y.op.seq))))))) = true := by rw [ne_Edit, decide_eq_false hxy]; rfl
         have HN : Hid (la ≠ lb) := fun e => hxy ((take_eq_snoc HT.out HX.out HY.out).1 (by rw [e]))
         clear hxy
         go_wp2
         go_quiet (fail)
         go_wp2
         go_ret
         exact ⟨by rw [decide_eq_false HN.out]; rfl, ((Mod.refl _ _).drewN _).drewN _⟩
     · have hkn : k = n := by omega
       have HN : Hid (la = lb) := by
         have := HT.out
         rwa [List.take_of_length_le (by rw [← HA'.out]; omega), List.take_of_length_le (by rw [← HB'.out]; omega)] at this
       go_wp2
       go_ret
       exact ⟨by rw [decide_eq_true HN.out]; rfl, (Mod.refl _ _).drewN _⟩
 · have HN : Hid (la ≠ lb) := fun e => hnm (by rw [ha.1, hb.1, e])
   have hne : ((n : Int) != (m : Int)) = true := by rw [bne_iff_ne]; omega
   clear hnm
   go_enter Tryz.func28, Tryz.ntmps28
   go_wp2
   go_ret
   exact ⟨by rw [decide_eq_false HN.out]; rfl, Mod.refl _ _⟩




end Go.Proofs.YtjojhfphlnfimaaGreatDoor.J
