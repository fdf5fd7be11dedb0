/- Plain data and functions: operations, texts, what may be applied. No program. -/
import Derived.Test.YtjojhfphlnfimaaGreatDoorJk
namespace Go.Proofs.YtjojhfphlnfimaaGreatDoor.J
open Go Go.RowKit
set_option linter.unusedSimpArgs false
set_option linter.unusedVariables false

structure Elem where
  ch : Int
  client : Int
  seq : Int
deriving DecidableEq

structure Op where
  kind : Int
  pos : Int
  ch : Int
  client : Int
  seq : Int
deriving DecidableEq

structure Edit where
  tag : Int
  op : Op
deriving DecidableEq

structure Marked where
  mark : Int
  op : Op
deriving DecidableEq

def Elem.cs (e : Elem) : List Value := [.int .u8 e.ch, .int .i64 e.client, .int .i64 e.seq]
def Op.cs (o : Op) : List Value := [.int .i64 o.kind, .int .i64 o.pos, .int .u8 o.ch, .int .i64 o.client, .int .i64 o.seq]
def Edit.cs (e : Edit) : List Value := .int .i64 e.tag :: e.op.cs
def Marked.cs (e : Marked) : List Value := .int .i64 e.mark :: e.op.cs
def Op.v (o : Op) : Value := .agg #[.int .i64 o.kind, .int .i64 o.pos, .int .u8 o.ch, .int .i64 o.client, .int .i64 o.seq]
def Edit.v (e : Edit) : Value := .agg #[.int .i64 e.tag, .int .i64 e.op.kind, .int .i64 e.op.pos, .int .u8 e.op.ch, .int .i64 e.op.client, .int .i64 e.op.seq]
def Op.zero : Op := ⟨0, 0, 0, 0, 0⟩
def Edit.zero : Edit := ⟨0, Op.zero⟩
def Op.wf (o : Op) : Prop := 0 ≤ o.ch ∧ o.ch ≤ 255

def kElem : K Elem := ⟨3, Elem.cs, fun _ => rfl, fun a v h => by simp [Elem.cs] at h; rcases h with rfl | rfl | rfl <;> rfl, by decide⟩
def kOp : K Op := ⟨5, Op.cs, fun _ => rfl, fun a v h => by simp [Op.cs] at h; rcases h with rfl | rfl | rfl | rfl | rfl <;> rfl, by decide⟩
def kEdit : K Edit := ⟨6, Edit.cs, fun _ => rfl, fun a v h => by simp [Edit.cs, Op.cs] at h; rcases h with rfl | rfl | rfl | rfl | rfl | rfl <;> rfl, by decide⟩
def kMarked : K Marked := ⟨6, Marked.cs, fun _ => rfl, fun a v h => by simp [Marked.cs, Op.cs] at h; rcases h with rfl | rfl | rfl | rfl | rfl | rfl <;> rfl, by decide⟩

def inR (n lo hi : Int) : Bool := decide (lo ≤ n) && decide (n ≤ hi)
theorem inR_true {n lo hi : Int} : inR n lo hi = true ↔ lo ≤ n ∧ n ≤ hi := by simp [inR]
theorem inR_false {n lo hi : Int} : inR n lo hi = false ↔ n < lo ∨ hi < n := by simp [inR]; omega

def validE (o : Op) : Int :=
  if inR o.kind 0 2 = false then 40 else
  if inR o.client 1 64 = false ∨ inR o.seq 1 64 = false then 41 else
  if o.kind = 1 ∧ inR o.ch 32 126 = false then 42 else
  if o.kind ≠ 1 ∧ o.ch ≠ 0 then 42 else
  if inR o.pos 0 (if o.kind = 0 then 0 else 4095) = false then 43 else 0

def fitsE (n : Int) (o : Op) : Int :=
  if validE o ≠ 0 then validE o else
  if inR n 0 4096 = false ∨ (o.kind = 1 ∧ n = 4096) then 44 else
  if (o.kind = 1 ∧ n < o.pos) ∨ (o.kind = 2 ∧ n ≤ o.pos) then 43 else 0

def applyE (l : List Elem) (o : Op) : List Elem :=
  if o.kind = 1 then l.take o.pos.toNat ++ [⟨o.ch, o.client, o.seq⟩] ++ l.drop o.pos.toNat
  else if o.kind = 2 then l.take o.pos.toNat ++ l.drop (o.pos.toNat + 1)
  else l

theorem validE_zero {o : Op} (h : validE o = 0) : 0 ≤ o.kind ∧ o.kind ≤ 2 ∧ 1 ≤ o.client ∧ o.client ≤ 64 ∧ 1 ≤ o.seq ∧ o.seq ≤ 64 ∧ (o.kind = 1 → 32 ≤ o.ch ∧ o.ch ≤ 126) ∧ (o.kind ≠ 1 → o.ch = 0) ∧ 0 ≤ o.pos ∧ o.pos ≤ 4095 ∧ (o.kind = 0 → o.pos = 0) := by
  unfold validE at h
  simp only [inR_false] at h
  repeat' split at h
  all_goals (first | omega | skip)
theorem fitsE_zero {n : Int} {o : Op} (h : fitsE n o = 0) : validE o = 0 ∧ 0 ≤ n ∧ n ≤ 4096 ∧ (o.kind = 1 → n < 4096 ∧ o.pos ≤ n) ∧ (o.kind = 2 → o.pos < n) := by
  unfold fitsE at h
  simp only [inR_false] at h
  repeat' split at h
  all_goals (first | omega | skip)
end Go.Proofs.YtjojhfphlnfimaaGreatDoor.J
