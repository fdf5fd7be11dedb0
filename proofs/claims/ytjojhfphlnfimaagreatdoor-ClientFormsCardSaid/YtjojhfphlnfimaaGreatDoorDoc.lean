/- Plain data and functions: operations, texts, what may be applied. No program. The text's operations: whether one is valid, whether it fits, the text behind it: what the Go functions of package doc answer. -/
import Derived.Test.YtjojhfphlnfimaaGreatDoorJk
import Derived.Test.YtjojhfphlnfimaaGreatDoorProg
import Derived.ProofKit
namespace Go.Proofs.YtjojhfphlnfimaaGreatDoor.J
open Go Go.RowKit
set_option linter.unusedSimpArgs false
set_option linter.unusedVariables false

structure Elem where
  ch : Int
  client : Int
  seq : Int
deriving DecidableEq

structure Op where
  kind : Int
  pos : Int
  ch : Int
  client : Int
  seq : Int
deriving DecidableEq

structure Edit where
  tag : Int
  op : Op
deriving DecidableEq

structure Marked where
  mark : Int
  op : Op
deriving DecidableEq

def Elem.cs (e : Elem) : List Value := [.int .u8 e.ch, .int .i64 e.client, .int .i64 e.seq]
def Op.cs (o : Op) : List Value := [.int .i64 o.kind, .int .i64 o.pos, .int .u8 o.ch, .int .i64 o.client, .int .i64 o.seq]
def Edit.cs (e : Edit) : List Value := .int .i64 e.tag :: e.op.cs
def Marked.cs (e : Marked) : List Value := .int .i64 e.mark :: e.op.cs
def Op.v (o : Op) : Value := .agg #[.int .i64 o.kind, .int .i64 o.pos, .int .u8 o.ch, .int .i64 o.client, .int .i64 o.seq]
def Edit.v (e : Edit) : Value := .agg #[.int .i64 e.tag, .int .i64 e.op.kind, .int .i64 e.op.pos, .int .u8 e.op.ch, .int .i64 e.op.client, .int .i64 e.op.seq]
def Op.zero : Op := ⟨0, 0, 0, 0, 0⟩
def Edit.zero : Edit := ⟨0, Op.zero⟩
def Op.wf (o : Op) : Prop := 0 ≤ o.ch ∧ o.ch ≤ 255

def kElem : K Elem := ⟨3, Elem.cs, fun _ => rfl, fun a v h => by simp [Elem.cs] at h; rcases h with rfl | rfl | rfl <;> rfl, by decide⟩
def kOp : K Op := ⟨5, Op.cs, fun _ => rfl, fun a v h => by simp [Op.cs] at h; rcases h with rfl | rfl | rfl | rfl | rfl <;> rfl, by decide⟩
def kEdit : K Edit := ⟨6, Edit.cs, fun _ => rfl, fun a v h => by simp [Edit.cs, Op.cs] at h; rcases h with rfl | rfl | rfl | rfl | rfl | rfl <;> rfl, by decide⟩
def kMarked : K Marked := ⟨6, Marked.cs, fun _ => rfl, fun a v h => by simp [Marked.cs, Op.cs] at h; rcases h with rfl | rfl | rfl | rfl | rfl | rfl <;> rfl, by decide⟩

def inR (n lo hi : Int) : Bool := decide (lo ≤ n) && decide (n ≤ hi)
theorem inR_true {n lo hi : Int} : inR n lo hi = true ↔ lo ≤ n ∧ n ≤ hi := by simp [inR]
theorem inR_false {n lo hi : Int} : inR n lo hi = false ↔ n < lo ∨ hi < n := by simp [inR]; omega

def validE (o : Op) : Int :=
  if inR o.kind 0 2 = false then 40 else
  if inR o.client 1 64 = false ∨ inR o.seq 1 64 = false then 41 else
  if o.kind = 1 ∧ inR o.ch 32 126 = false then 42 else
  if o.kind ≠ 1 ∧ o.ch ≠ 0 then 42 else
  if inR o.pos 0 (if o.kind = 0 then 0 else 4095) = false then 43 else 0

def fitsE (n : Int) (o : Op) : Int :=
  if validE o ≠ 0 then validE o else
  if inR n 0 4096 = false ∨ (o.kind = 1 ∧ n = 4096) then 44 else
  if (o.kind = 1 ∧ n < o.pos) ∨ (o.kind = 2 ∧ n ≤ o.pos) then 43 else 0

def applyE (l : List Elem) (o : Op) : List Elem :=
  if o.kind = 1 then l.take o.pos.toNat ++ [⟨o.ch, o.client, o.seq⟩] ++ l.drop o.pos.toNat
  else if o.kind = 2 then l.take o.pos.toNat ++ l.drop (o.pos.toNat + 1)
  else l

theorem validE_zero {o : Op} (h : validE o = 0) : 0 ≤ o.kind ∧ o.kind ≤ 2 ∧ 1 ≤ o.client ∧ o.client ≤ 64 ∧ 1 ≤ o.seq ∧ o.seq ≤ 64 ∧ (o.kind = 1 → 32 ≤ o.ch ∧ o.ch ≤ 126) ∧ (o.kind ≠ 1 → o.ch = 0) ∧ 0 ≤ o.pos ∧ o.pos ≤ 4095 ∧ (o.kind = 0 → o.pos = 0) := by
  unfold validE at h
  simp only [inR_false] at h
  repeat' split at h
  all_goals (first | omega | skip)
theorem fitsE_zero {n : Int} {o : Op} (h : fitsE n o = 0) : validE o = 0 ∧ 0 ≤ n ∧ n ≤ 4096 ∧ (o.kind = 1 → n < 4096 ∧ o.pos ≤ n) ∧ (o.kind = 2 → o.pos < n) := by
  unfold fitsE at h
  simp only [inR_false] at h
  repeat' split at h
  all_goals (first | omega | skip)
end Go.Proofs.YtjojhfphlnfimaaGreatDoor.J

namespace Go.Proofs.YtjojhfphlnfimaaGreatDoor.J
open Go Go.RowKit
set_option linter.unusedSimpArgs false
set_option linter.unusedVariables false

theorem bcell {W w1 : World} (hb : Below W.heap.size W w1) : (∀ b o, b < W.heap.size → w1.cell? ⟨b, o, none⟩ = W.cell? ⟨b, o, none⟩) ∧ (∀ b o, b < W.heap.size → w1.frozen? ⟨b, o, none⟩ = W.frozen? ⟨b, o, none⟩) :=
  ⟨fun b o h => hb.cell (p := ⟨b, o, none⟩) h, fun b o h => hb.frozen (p := ⟨b, o, none⟩) h⟩

theorem within_any (n lo hi : Int) (w : World) : Calls Tryz.prog 111 #[.int .i64 n, .int .i64 lo, .int .i64 hi] w fun e w' => e = .returned (.bool (inR n lo hi)) ∧ w = w' := by
  by_cases h : lo ≤ n
  · by_cases h2 : n ≤ hi
    · go_enter Tryz.func111, Tryz.ntmps111
      go_wp2
      go_ret
      exact ⟨by simp [inR, h, h2], rfl⟩
    · go_enter Tryz.func111, Tryz.ntmps111
      go_wp2
      go_ret
      exact ⟨by simp [inR, h, h2], rfl⟩
  · go_enter Tryz.func111, Tryz.ntmps111
    go_wp2
    go_ret
    exact ⟨by simp [inR]; omega, rfl⟩

set_option maxHeartbeats 1000000 in
theorem valid_any (o : Op) (w : World) (hu : o.wf) : Calls Tryz.prog 92 #[o.v] w fun e w' => e = .returned (.int .i64 (validE o)) ∧ Mod No w w' := by
  obtain ⟨k, p, c, cl, sq⟩ := o
  obtain ⟨h1, h2⟩ := hu
  simp only [Op.v] at *
  go_enter Tryz.func92, Tryz.ntmps92
  go_wp2_with (go_at_call 111; refine (within_any _ _ _ _).mono ?_; rintro e w' ⟨rfl, rfl⟩)
  all_goals go_ret
  all_goals refine ⟨?_, (Mod.refl _ _).alloc _⟩
  all_goals (simp only [Bool.not_eq_eq_eq_not, Bool.not_true, Bool.not_false, beq_iff_eq, bne_iff_ne, bne_eq_false_iff_eq, beq_eq_false_iff_ne] at *; first | (simp [validE, *]; done) | (simp_all [validE, inR]; done) | (simp_all [validE, inR]; omega))

set_option maxHeartbeats 1000000 in
theorem fits_any (n : Int) (o : Op) (w : World) (hu : o.wf) : Calls Tryz.prog 100 #[.int .i64 n, o.v] w fun e w' => e = .returned (.int .i64 (fitsE n o)) ∧ Mod No w w' := by
  have hv := fun w => valid_any o w hu
  have hE : fitsE n o = (if validE o ≠ 0 then validE o else if inR n 0 4096 = false ∨ (o.kind = 1 ∧ n = 4096) then 44 else if (o.kind = 1 ∧ n < o.pos) ∨ (o.kind = 2 ∧ n ≤ o.pos) then 43 else 0) := rfl
  generalize validE o = e0 at hv hE
  have H := Lib.hid hE
  clear hE
  generalize fitsE n o = e1 at H ⊢
  obtain ⟨k, p, c, cl, sq⟩ := o
  simp only [Op.v] at *
  go_enter Tryz.func100, Tryz.ntmps100
  go_wp2_with (first | (go_at_call 92; refine (hv _).mono ?_; rintro e w' ⟨rfl, hm⟩; obtain ⟨hc, hf⟩ := bcell hm.below) | (go_at_call 111; refine (within_any _ _ _ _).mono ?_; rintro e w' ⟨rfl, rfl⟩))
  all_goals go_ret
  all_goals refine ⟨?_, ((Mod.refl _ _).alloc _).then0 (by assumption)⟩
  all_goals (have hE := H.out; clear H; simp only [Bool.not_eq_eq_eq_not, Bool.not_true, Bool.not_false, beq_iff_eq, bne_iff_ne, bne_eq_false_iff_eq, beq_eq_false_iff_ne] at *; first | (simp [hE, *]; done) | (simp_all [inR]; done) | (simp_all [inR]; omega))

theorem Tryz.infoElem : (Tryz.prog.info? 95).map (fun i => (i.zero, i.size, i.bytes)) = some (some (.agg #[.int .u8 0, .int .i64 0, .int .i64 0]), 3, 24) := by kernel_rfl

set_option maxHeartbeats 1000000 in
theorem apply_bad (A : Option Addr) (n c : Nat) (o : Op) (w : World) (hu : o.wf) (hn : n ≤ maxLen) (e0 : Int) (he : fitsE n o = e0) (h0 : e0 ≠ 0) :
    Calls Tryz.prog 70 #[.slice A n c, o.v] w fun e w' => e = .returned (.tuple #[.slice none 0 0, .int .i64 e0]) ∧ Mod No w w' := by
  have hv := fun w => fits_any n o w hu
  rw [he] at hv
  clear he
  unfold maxLen at hn
  have hb : (e0 != 0) = true := by simp [h0]
  obtain ⟨k, p, c, cl, sq⟩ := o
  simp only [Op.v] at *
  go_enter Tryz.func70, Tryz.ntmps70
  go_wp2_with (first | (go_at_call 100; refine (hv _).mono ?_; rintro e w' ⟨rfl, hm⟩; obtain ⟨hc, hf⟩ := bcell hm.below))
  all_goals go_ret2
  all_goals exact ⟨rfl, ((Mod.refl _ _).alloc _).then0 (by assumption)⟩

set_option maxRecDepth 100000 in
set_option maxHeartbeats 1000000 in
theorem apply_ok (A : Option Addr) (n c : Nat) (o : Op) (l : List Elem) (w : World) (hu : o.wf) (hr : Rd kElem w A n c l) (he : fitsE n o = 0) :
    Calls Tryz.prog 70 #[.slice A n c, o.v] w fun e w' => ∃ A' n' c', e = .returned (.tuple #[.slice A' n' c', .int .i64 0]) ∧ Mod No w w' ∧ Own kElem 95 w' A' n' c' (applyE l o) (fun b => w.heap.size ≤ b) := by
  have hv := fun w => fits_any n o w hu
  rw [he] at hv
  obtain ⟨hz, q1, q2, q3, q4⟩ := fitsE_zero he
  obtain ⟨z1, z2, z3, z4, z5, z6, z7, z8, z9, z10, z11⟩ := validE_zero hz
  obtain ⟨i, hi1, hi2, hi3, hi4⟩ := info_parts Tryz.infoElem
  clear he hz z3 z4 z5 z6 z7 z8 z11
  have hnc := hr.2.1
  obtain ⟨k, p, ch, cl, sq⟩ := o
  simp only [Op.v] at *
  have hL := hr.1
  have HL := Lib.hid hL
  clear hL
  by_cases h1 : k = 1
  · subst h1
    obtain ⟨pn, rfl⟩ := Int.eq_ofNat_of_zero_le z9
    have q5 := (q3 rfl).2
    clear q3 q4
    go_enter Tryz.func70, Tryz.ntmps70
    go_wp2_with (first | (go_at_call 100; refine (hv _).mono ?_; rintro e w1 ⟨rfl, hm1⟩; have hB := hm1.heap (heap_alloc_new _ _) (fun h => h); have hlt : w.heap.size < w1.heap.size := (by have := hm1.size; rw [World.size_alloc] at this; omega); have hM0 := ((Mod.refl No w).alloc _).then0 hm1; have hr1 := hr.mod0 hM0)
                       | (refine wpList_make_j (k := kElem) rfl _ _ _ rfl i _ ⟨0, 0, 0⟩ Tryz.underlying35 hi1 hi2 hi3 rfl .i64 .i64 0 _ 0 (n + 1) rfl rfl rfl (by omega) (by omega) (by rw [hi4]; omega) (by unfold maxLen; omega) ?_; intro w2 hown hM hs2; replace hown := hown.mono (fun b _ h => Nat.le_of_eq h.symm); replace hB := hM.heap hB (fun h => h); have hC := blk_at hB)
                       | (at_builtin; refine wpList_append_l (k := kElem) w1.heap.size rfl _ _ _ rfl i _ Tryz.underlying35 hi1 hi2 hi3 rfl rfl rfl hM.size hown ((hr1.mod0 hM).head (by omega)) (by unfold maxLen; omega) (by rw [hi4]; omega) ?_; clear hown; intro A3 c3 w3 hown hm3 _; replace hM := hM.own hm3 (Nat.le_refl _); replace hB := hm3.heap hB (fun h => absurd h (Nat.not_le.2 hlt)); rw [Nat.zero_add, List.replicate_zero, List.nil_append] at hown; clear hC; have hC := blk_at hB; have tok1 : True := trivial)
                       | (at_builtin; have _t := tok1; refine wpList_append_l (k := kElem) w1.heap.size rfl _ _ _ rfl i _ Tryz.underlying35 hi1 hi2 hi3 rfl rfl rfl (by rw [World.size_alloc]; exact Nat.le_succ_of_le hM.size) (hown.alloc _) (Rd.one (heap_alloc_new _ _) ⟨ch, cl, sq⟩ rfl) (by unfold maxLen; omega) (by rw [hi4]; omega) ?_; clear hown tok1 _t; intro A4 c4 w4 hown hm4 _; replace hB := hm4.heap (blk_alloc hB _) (fun h => absurd h (Nat.not_le.2 hlt)); replace hM := (hM.alloc _).own hm4 (Nat.le_refl _); clear hC; have hC := blk_at hB; have tok2 : True := trivial)
                       | (at_builtin; have _t := tok2; refine wpList_append_l (k := kElem) w1.heap.size rfl _ _ _ rfl i _ Tryz.underlying35 hi1 hi2 hi3 rfl rfl rfl hM.size hown ((hr1.mod0 hM).tail pn (by omega)) (by unfold maxLen; omega) (by rw [hi4]; omega) ?_; clear hown tok2 _t; intro A5 c5 w5 hown hm5 _; replace hM := hM.own hm5 (Nat.le_refl _); clear hC hB hm5 hm4 hm3))
    all_goals go_ret2
    all_goals exact ⟨_, _, _, rfl, hM0.then0 hM, hown.mono (fun b _ h => Nat.le_trans (Nat.le_of_lt hlt) h)⟩
  · by_cases h2 : k = 2
    · subst h2
      obtain ⟨pn, rfl⟩ := Int.eq_ofNat_of_zero_le z9
      have q5 := q4 rfl
      clear q3 q4 h1
      go_enter Tryz.func70, Tryz.ntmps70
      go_wp2_with (first | (go_at_call 100; refine (hv _).mono ?_; rintro e w1 ⟨rfl, hm1⟩; have hB := hm1.heap (heap_alloc_new _ _) (fun h => h); have hlt : w.heap.size < w1.heap.size := (by have := hm1.size; rw [World.size_alloc] at this; omega); have hM0 := ((Mod.refl No w).alloc _).then0 hm1; have hr1 := hr.mod0 hM0)
                         | (refine wpList_make_j (k := kElem) rfl _ _ _ rfl i _ ⟨0, 0, 0⟩ Tryz.underlying35 hi1 hi2 hi3 rfl .i64 .i64 0 _ 0 (n + 1) rfl rfl rfl (by omega) (by omega) (by rw [hi4]; omega) (by unfold maxLen; omega) ?_; intro w2 hown hM hs2; replace hown := hown.mono (fun b _ h => Nat.le_of_eq h.symm); replace hB := hM.heap hB (fun h => h); have hC := blk_at hB)
                         | (at_builtin; refine wpList_append_l (k := kElem) w1.heap.size rfl _ _ _ rfl i _ Tryz.underlying35 hi1 hi2 hi3 rfl rfl rfl hM.size hown ((hr1.mod0 hM).head (by omega)) (by unfold maxLen; omega) (by rw [hi4]; omega) ?_; clear hown; intro A3 c3 w3 hown hm3 _; replace hM := hM.own hm3 (Nat.le_refl _); replace hB := hm3.heap hB (fun h => absurd h (Nat.not_le.2 hlt)); rw [Nat.zero_add, List.replicate_zero, List.nil_append] at hown; clear hC; have hC := blk_at hB; have tok1 : True := trivial)
                         | (at_builtin; have _t := tok1; refine wpList_append_l (k := kElem) w1.heap.size rfl _ _ _ rfl i _ Tryz.underlying35 hi1 hi2 hi3 rfl rfl rfl hM.size hown ((hr1.mod0 hM).tail (pn + 1) (by omega)) (by unfold maxLen; omega) (by rw [hi4]; omega) ?_; clear hown tok1 _t; intro A5 c5 w5 hown hm5 _; replace hM := hM.own hm5 (Nat.le_refl _); clear hC hB hm5 hm3))
      all_goals go_ret2
      all_goals exact ⟨_, _, _, rfl, hM0.then0 hM, hown.mono (fun b _ h => Nat.le_trans (Nat.le_of_lt hlt) h)⟩
    · have e0 : k = 0 := by omega
      subst e0
      clear q3 q4 h1 h2
      go_enter Tryz.func70, Tryz.ntmps70
      go_wp2_with (first | (go_at_call 100; refine (hv _).mono ?_; rintro e w1 ⟨rfl, hm1⟩; have hB := hm1.heap (heap_alloc_new _ _) (fun h => h); have hlt : w.heap.size < w1.heap.size := (by have := hm1.size; rw [World.size_alloc] at this; omega); have hM0 := ((Mod.refl No w).alloc _).then0 hm1; have hr1 := hr.mod0 hM0)
                         | (refine wpList_make_j (k := kElem) rfl _ _ _ rfl i _ ⟨0, 0, 0⟩ Tryz.underlying35 hi1 hi2 hi3 rfl .i64 .i64 0 _ 0 (n + 1) rfl rfl rfl (by omega) (by omega) (by rw [hi4]; omega) (by unfold maxLen; omega) ?_; intro w2 hown hM hs2; replace hown := hown.mono (fun b _ h => Nat.le_of_eq h.symm); replace hB := hM.heap hB (fun h => h); have hC := blk_at hB)
                         | (at_builtin; refine wpList_append_l (k := kElem) w1.heap.size rfl _ _ _ rfl i _ Tryz.underlying35 hi1 hi2 hi3 rfl rfl rfl hM.size hown (hr1.mod0 hM) (by unfold maxLen; omega) (by rw [hi4]; omega) ?_; clear hown; intro A3 c3 w3 hown hm3 _; replace hM := hM.own hm3 (Nat.le_refl _); replace hB := hm3.heap hB (fun h => absurd h (Nat.not_le.2 hlt)); rw [Nat.zero_add, List.replicate_zero, List.nil_append] at hown; clear hC; have hC := blk_at hB; have tok1 : True := trivial))
      all_goals go_ret2
      all_goals exact ⟨_, _, _, rfl, hM0.then0 hM, hown.mono (fun b _ h => Nat.le_trans (Nat.le_of_lt hlt) h)⟩
end Go.Proofs.YtjojhfphlnfimaaGreatDoor.J
