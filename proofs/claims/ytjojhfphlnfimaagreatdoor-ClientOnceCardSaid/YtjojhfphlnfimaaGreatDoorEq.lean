/- Structs of numbers compared: what == and != answer. -/
import Derived.Test.YtjojhfphlnfimaaGreatDoorProg
import Derived.Test.YtjojhfphlnfimaaGreatDoorPl
import Derived.ProofKit
namespace Go.Proofs.YtjojhfphlnfimaaGreatDoor.J
open Go Go.RowKit
set_option linter.unusedSimpArgs false
set_option linter.unusedVariables false

section
variable {P : Program} {w : World} {d : Nat} {xs ys : Array Value} {f : Field} {fs : List Field} {a b : Value} {r s : Bool}
theorem eq_nil : (Op.eqFields d xs ys []).run P w = .ok true w := by simp [Op.eqFields]
theorem eq_step (hn : (f.name == "_") = false) (ha : (part f.type xs f.offset).run P w = .ok a w) (hb : (part f.type ys f.offset).run P w = .ok b w) (he : (Op.equalIn d f.type a b).run P w = .ok r w)
    (hr : (Op.eqFields d xs ys fs).run P w = .ok s w) : (Op.eqFields d xs ys (f :: fs)).run P w = .ok (r && s) w := by
  have hn' : f.name ≠ "_" := by simpa using hn
  simp only [Op.eqFields, if_pos hn', Sem.run_bind, ha, hb, he, Result.andThen_ok]
  cases r
  · simp
  · simpa using hr
theorem eq_struct {t : TypeId} {fs : Array Field} (hu : P.underlying t = some (.struct fs)) (hp : P.stoodInHeld t = false) (h : (Op.eqFields d xs ys fs.toList).run P w = .ok r w) :
    (Op.equalIn (d + 1) t (.agg xs) (.agg ys)).run P w = .ok r w := by
  have hf : P.fieldsOf t = fs := by simp [Program.fieldsOf, hu]
  rw [run_equalIn_struct (P := P) w d t xs ys (by rw [hf]; exact hu) hp, hf]
  exact h
end

theorem eqElem (d : Nat) (w : World) (x0 x1 x2 y0 y1 y2 : Int) :
   (Op.equalIn (d + 2) 95 (.agg #[.int .u8 x0, .int .i64 x1, .int .i64 x2]) (.agg #[.int .u8 y0, .int .i64 y1, .int .i64 y2])).run Tryz.prog w = .ok (decide ((⟨x0, x1, x2⟩ : Elem) = ⟨y0, y1, y2⟩)) w := by
 have h : decide ((⟨x0, x1, x2⟩ : Elem) = ⟨y0, y1, y2⟩) = (x0 == y0 && (x1 == y1 && (x2 == y2 && true))) := by
   rw [Bool.eq_iff_iff]; simp
 rw [h]
 refine eq_struct Tryz.underlying95 (by kernel_rfl) ?_
 refine eq_step (by rfl) (by go_simp; rfl) (by go_simp; rfl) (by go_simp) ?_
 refine eq_step (by rfl) (by go_simp; rfl) (by go_simp; rfl) (by go_simp) ?_
 refine eq_step (by rfl) (by go_simp; rfl) (by go_simp; rfl) (by go_simp) ?_
 exact eq_nil

theorem eqOp (d : Nat) (w : World) (x0 x1 x2 x3 x4 y0 y1 y2 y3 y4 : Int) :
    (Op.equalIn (d + 2) 32 (.agg #[.int .i64 x0, .int .i64 x1, .int .u8 x2, .int .i64 x3, .int .i64 x4]) (.agg #[.int .i64 y0, .int .i64 y1, .int .u8 y2, .int .i64 y3, .int .i64 y4])).run Tryz.prog w = .ok (decide ((⟨x0, x1, x2, x3, x4⟩ : Op) = ⟨y0, y1, y2, y3, y4⟩)) w := by
  have h : decide ((⟨x0, x1, x2, x3, x4⟩ : Op) = ⟨y0, y1, y2, y3, y4⟩) = (x0 == y0 && (x1 == y1 && (x2 == y2 && (x3 == y3 && (x4 == y4 && true))))) := by
    rw [Bool.eq_iff_iff]; simp
  rw [h]
  refine eq_struct Tryz.underlying32 (by kernel_rfl) ?_
  refine eq_step (by rfl) (by go_simp; rfl) (by go_simp; rfl) (by go_simp) ?_
  refine eq_step (by rfl) (by go_simp; rfl) (by go_simp; rfl) (by go_simp) ?_
  refine eq_step (by rfl) (by go_simp; rfl) (by go_simp; rfl) (by go_simp) ?_
  refine eq_step (by rfl) (by go_simp; rfl) (by go_simp; rfl) (by go_simp) ?_
  refine eq_step (by rfl) (by go_simp; rfl) (by go_simp; rfl) (by go_simp) ?_
  exact eq_nil

theorem eqEdit (d : Nat) (w : World) (t u x0 x1 x2 x3 x4 y0 y1 y2 y3 y4 : Int) :
    (Op.equalIn (d + 3) 60 (.agg #[.int .i64 t, .int .i64 x0, .int .i64 x1, .int .u8 x2, .int .i64 x3, .int .i64 x4]) (.agg #[.int .i64 u, .int .i64 y0, .int .i64 y1, .int .u8 y2, .int .i64 y3, .int .i64 y4])).run Tryz.prog w = .ok (decide ((⟨t, ⟨x0, x1, x2, x3, x4⟩⟩ : Edit) = ⟨u, ⟨y0, y1, y2, y3, y4⟩⟩)) w := by
  have h : decide ((⟨t, ⟨x0, x1, x2, x3, x4⟩⟩ : Edit) = ⟨u, ⟨y0, y1, y2, y3, y4⟩⟩) = (t == u && (decide ((⟨x0, x1, x2, x3, x4⟩ : Op) = ⟨y0, y1, y2, y3, y4⟩) && true)) := by
    rw [Bool.eq_iff_iff]; simp
  rw [h]
  refine eq_struct Tryz.underlying60 (by kernel_rfl) ?_
  refine eq_step (by rfl) (by go_simp; rfl) (by go_simp; rfl) (by go_simp) ?_
  refine eq_step (by rfl) (by go_simp) (by go_simp) (eqOp (d + 0) w _ _ _ _ _ _ _ _ _ _) ?_
  exact eq_nil

theorem eqMarked (d : Nat) (w : World) (t u x0 x1 x2 x3 x4 y0 y1 y2 y3 y4 : Int) :
   (Op.equalIn (d + 3) 108 (.agg #[.int .i64 t, .int .i64 x0, .int .i64 x1, .int .u8 x2, .int .i64 x3, .int .i64 x4]) (.agg #[.int .i64 u, .int .i64 y0, .int .i64 y1, .int .u8 y2, .int .i64 y3, .int .i64 y4])).run Tryz.prog w = .ok (decide ((⟨t, ⟨x0, x1, x2, x3, x4⟩⟩ : Marked) = ⟨u, ⟨y0, y1, y2, y3, y4⟩⟩)) w := by
 have h : decide ((⟨t, ⟨x0, x1, x2, x3, x4⟩⟩ : Marked) = ⟨u, ⟨y0, y1, y2, y3, y4⟩⟩) = (t == u && (decide ((⟨x0, x1, x2, x3, x4⟩ : Op) = ⟨y0, y1, y2, y3, y4⟩) && true)) := by
   rw [Bool.eq_iff_iff]; simp
 rw [h]
 refine eq_struct Tryz.underlying108 (by kernel_rfl) ?_
 refine eq_step (by rfl) (by go_simp; rfl) (by go_simp; rfl) (by go_simp) ?_
 refine eq_step (by rfl) (by go_simp) (by go_simp) (eqOp (d + 0) w _ _ _ _ _ _ _ _ _ _) ?_
 exact eq_nil

section
variable (w : World)
theorem neq_Elem (x0 x1 x2 y0 y1 y2 : Int) :
   (binOp .neq 95 (.agg #[.int .u8 x0, .int .i64 x1, .int .i64 x2]) (.agg #[.int .u8 y0, .int .i64 y1, .int .i64 y2])).run Tryz.prog w = .ok (.bool (!decide ((⟨x0, x1, x2⟩ : Elem) = ⟨y0, y1, y2⟩))) w := by
 simp only [binOp]
 simp [Op.equal, Op.maxDepth, eqElem 9998 w, -Elem.mk.injEq]
theorem neq_Edit (t x0 x1 x2 x3 x4 u y0 y1 y2 y3 y4 : Int) :
    (binOp .neq 60 (.agg #[.int .i64 t, .int .i64 x0, .int .i64 x1, .int .u8 x2, .int .i64 x3, .int .i64 x4]) (.agg #[.int .i64 u, .int .i64 y0, .int .i64 y1, .int .u8 y2, .int .i64 y3, .int .i64 y4])).run Tryz.prog w = .ok (.bool (!decide ((⟨t, ⟨x0, x1, x2, x3, x4⟩⟩ : Edit) = ⟨u, ⟨y0, y1, y2, y3, y4⟩⟩))) w := by
  simp only [binOp]
  simp [Op.equal, Op.maxDepth, eqEdit 9997 w, -Edit.mk.injEq]
theorem neq_Op (x0 x1 x2 x3 x4 y0 y1 y2 y3 y4 : Int) :
    (binOp .neq 32 (.agg #[.int .i64 x0, .int .i64 x1, .int .u8 x2, .int .i64 x3, .int .i64 x4]) (.agg #[.int .i64 y0, .int .i64 y1, .int .u8 y2, .int .i64 y3, .int .i64 y4])).run Tryz.prog w = .ok (.bool (!decide ((⟨x0, x1, x2, x3, x4⟩ : Op) = ⟨y0, y1, y2, y3, y4⟩))) w := by
  simp only [binOp]
  simp [Op.equal, Op.maxDepth, eqOp 9998 w, -Op.mk.injEq]
theorem neq_Marked (t x0 x1 x2 x3 x4 u y0 y1 y2 y3 y4 : Int) :
   (binOp .neq 108 (.agg #[.int .i64 t, .int .i64 x0, .int .i64 x1, .int .u8 x2, .int .i64 x3, .int .i64 x4]) (.agg #[.int .i64 u, .int .i64 y0, .int .i64 y1, .int .u8 y2, .int .i64 y3, .int .i64 y4])).run Tryz.prog w = .ok (.bool (!decide ((⟨t, ⟨x0, x1, x2, x3, x4⟩⟩ : Marked) = ⟨u, ⟨y0, y1, y2, y3, y4⟩⟩))) w := by
 simp only [binOp]
 simp [Op.equal, Op.maxDepth, eqMarked 9997 w, -Marked.mk.injEq]
end
end Go.Proofs.YtjojhfphlnfimaaGreatDoor.J
