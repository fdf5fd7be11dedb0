/- A space's calls, whatever waits in it: through, Look, Cross, DropTo. -/
import Derived.Test.YtjojhfphlnfimaaGreatDoorCross
import Derived.Test.YtjojhfphlnfimaaGreatDoorPast
import Derived.Test.YtjojhfphlnfimaaGreatDoorForms
import Derived.Test.YtjojhfphlnfimaaGreatDoorSet
import Derived.Deep.DeepCutAuto
namespace Go.Proofs.YtjojhfphlnfimaaGreatDoor.J
open Go Go.RowKit
set_option linter.unusedSimpArgs false
set_option linter.unusedVariables false

def opsOf (l : List Marked) : List Op := l.map (·.op)
/-- The list with its operations replaced. -/
def setOps (l : List Marked) (os : List Op) : List Marked := List.zipWith (fun m o => ⟨m.mark, o⟩) l os
theorem setOps_len {l : List Marked} {os : List Op} (h : os.length = l.length) : (setOps l os).length = l.length := by simp [setOps, h]
def setK (l : List Marked) (os : List Op) (k : Nat) : List Marked := (setOps l os).take k ++ l.drop k
theorem setK_zero (l : List Marked) (os : List Op) : setK l os 0 = l := by simp [setK]
theorem setK_all {l : List Marked} {os : List Op} {n : Nat} (hn : n = l.length) (h : os.length = l.length) : setK l os n = setOps l os := by
  unfold setK
  rw [List.take_of_length_le (by rw [setOps_len h]; omega), List.drop_of_length_le (by omega), List.append_nil]
theorem setK_at {l : List Marked} {os : List Op} {k : Nat} {x : Marked} (h : os.length = l.length) (hx : l[k]? = some x) : (setK l os k)[k]? = some x := by
  have hk : k < l.length := (List.getElem?_eq_some_iff.1 hx).1
  have hl : ((setOps l os).take k).length = k := by rw [List.length_take, setOps_len h]; omega
  unfold setK
  rw [List.getElem?_append_right (by omega), hl, Nat.sub_self, List.getElem?_drop, Nat.add_zero, hx]
theorem setK_set {l : List Marked} {os : List Op} {k : Nat} {x : Marked} {o : Op} (h : os.length = l.length) (hx : l[k]? = some x) (ho : os[k]? = some o) : (setK l os k).set k ⟨x.mark, o⟩ = setK l os (k + 1) := by
  have hk : k < l.length := (List.getElem?_eq_some_iff.1 hx).1
  have hl : ((setOps l os).take k).length = k := by rw [List.length_take, setOps_len h]; omega
  have hs : (setOps l os)[k]? = some ⟨x.mark, o⟩ := by
    unfold setOps; rw [List.getElem?_zipWith, hx, ho]
  unfold setK
  rw [List.set_append_right _ _ (by omega), hl, Nat.sub_self, List.take_add_one, hs, List.append_assoc]
  congr 1
  have : l.drop k = x :: l.drop (k + 1) := by
    rw [List.drop_eq_getElem_cons hk]
    congr 1
    rw [List.getElem?_eq_getElem hk] at hx
    exact Option.some.inj hx
  rw [this]
  rfl

set_option maxRecDepth 100000 in
set_option maxHeartbeats 2000000 in
theorem sthrough_any (op : Op) (hu : op.wf) (hv : validE op = 0) (p : Nat) (A : Option Addr) (n c : Nat) (l : List Marked) (last : Int) (first : Bool) (S : Nat → Prop) (w : World) (hT : OtT w) (hs : SpAt w p A n c l last first S) (hn : n ≤ 4096)
    (B : Int) (hB0 : 0 ≤ B) (hB1 : B ≤ 549755813888) (hop : bnd B op) (hl : ∀ x ∈ l, bnd B x.op) :
    Calls Tryz.prog 64 #[.pointer (some ⟨p, 0, none⟩), op.v] w fun e w' => ∃ A' d, e = .returned (.tuple #[(pastE op (opsOf l) first).1.v, .slice A' n d, .int .i64 0]) ∧ Mod No w w' ∧ Own kOp 32 w' A' n d (pastE op (opsOf l) first).2 (fun b => w.heap.size ≤ b) := by
  have hva := fun w' => valid_any op w' hu
  rw [hv] at hva
  have hln := fun w' (h : SpAt w' p A n c l last first S) => line_any p A n c l last first S w' h hn
  have hth := fun A' c' w' (hT' : OtT w') (h : Rd kOp w' A' n c' (opsOf l)) => through_any op A' n c' (opsOf l) first w' hT' h hn B hB0 hB1 hop (fun x hx => by
    obtain ⟨y, hy, rfl⟩ := List.mem_map.1 hx
    exact hl y hy)
  have hM0 : Mod No w ((w.alloc (.cells #[.int .i64 op.kind, .int .i64 op.pos, .int .u8 op.ch, .int .i64 op.client, .int .i64 op.seq] 32)).alloc (.cells #[.int .i64 0, .int .i64 0, .int .u8 0, .int .i64 0, .int .i64 0] 32)) := ((Mod.refl No w).alloc _).alloc _
  have hA0 : ((w.alloc (.cells #[.int .i64 op.kind, .int .i64 op.pos, .int .u8 op.ch, .int .i64 op.client, .int .i64 op.seq] 32)).alloc (.cells #[.int .i64 0, .int .i64 0, .int .u8 0, .int .i64 0, .int .i64 0] 32)).heap[w.heap.size]? = some (.cells #[.int .i64 op.kind, .int .i64 op.pos, .int .u8 op.ch, .int .i64 op.client, .int .i64 op.seq] 32 (0, 0)) := blk_alloc (blk_new _ _ rfl) _
  have hZ0 : ((w.alloc (.cells #[.int .i64 op.kind, .int .i64 op.pos, .int .u8 op.ch, .int .i64 op.client, .int .i64 op.seq] 32)).alloc (.cells #[.int .i64 0, .int .i64 0, .int .u8 0, .int .i64 0, .int .i64 0] 32)).heap[w.heap.size + 1]? = some (.cells #[.int .i64 0, .int .i64 0, .int .u8 0, .int .i64 0, .int .i64 0] 32 (0, 0)) := blk_new _ _ (by simp)
  obtain ⟨R, hR⟩ : ∃ R, pastE op (opsOf l) first = R := ⟨_, rfl⟩
  rw [hR] at hth ⊢
  clear hR hop hl
  obtain ⟨⟨r1, r2, r3, r4, r5⟩, mk⟩ := R
  obtain ⟨q1, q2, q3, q4, q5⟩ := op
  simp only [Op.v] at hva hth ⊢
  dsimp only at hM0 hA0 hZ0
  clear hu hv
  go_enter Tryz.func64, Tryz.ntmps64
  go_upto_region 4 with (go_at_call 92; refine (hva _).mono ?_; rintro e w1 ⟨rfl, hm1⟩; have hA1 := hm1.heap hA0 (fun h => h); have hZ1 := hm1.heap hZ0 (fun h => h); have hM1 := hM0.then0 hm1; have hQa := blk_at hA1)
  have hS1 : SpAt w1 p A n c l last first S := hs.mod hM1 (fun h => h) (fun _ _ _ h => h) (fun _ _ h => h)
  have hQs := blk_at hS1.1
  clear hA0 hZ0 hM0 hm1
  refine wp_region_seg ([0, 1, 2, 3, 5, 6, 7, 8].map (·, false) ++ [(4, true)] ++ [9, 10, 11, 12, 13, 14, 15].map (·, false)) (by kernel_rfl) (by kernel_rfl) (by kernel_rfl) (by kernel_rfl) ?_
  simp only [List.map_cons, List.map_nil, List.cons_append, List.nil_append, List.filterMap_cons, List.filterMap_nil, pick, List.getElem?_toArray, List.getElem?_cons_zero, List.getElem?_cons_succ, Option.map_some]
  refine wpSeg_cut (fun e a w h => h.1) [_, _, _, _, _, _, _, _] _ _ _ ?_
  go_wp2
  refine wpSeg_mark rfl ?_
  go_wp2_with (go_at_call 94; refine (hln w1.drew (hS1.mod (Mod.drew (Mod.refl No w1)) (fun h => h) (fun _ _ _ h => h) (fun _ _ h => h))).mono ?_; rintro e w2 ⟨B, d, rfl, hm2, hO2⟩; refine ⟨fun b hb => hm2.block b hb (fun hf => hf), ?_⟩)
  have hZ2 := hm2.heap hZ1 (fun h => h)
  have hM2 := hM1.drew.then0 hm2
  refine wpSeg_rest [_, _, _, _, _, _, _] ?_
  go_wp2_with (go_at_call 93; refine (hth _ _ _ (hT.mod hM2 (fun h => h)) hO2.rd).mono ?_; rintro e w3 ⟨A3, d3, rfl, hm3, hO3⟩; have hZ3 := hm3.heap hZ2 (fun h => h); have hQ3 := blk_at hZ3; have hF3 := blk_free hZ3; have hM3 := hM2.then0 hm3)
  refine ⟨rfl, by kernel_rfl, ?_⟩
  go_wp2
  have r1' : No (w.heap.size + 1) ∨ w.heap.size ≤ w.heap.size + 1 := .inr (by omega)
  have hZ4 := blk_set (blk_set (blk_set (blk_set (blk_set hZ3 0 (.int .i64 r1)) 1 (.int .i64 r2)) 2 (.int .u8 r3)) 3 (.int .i64 r4)) 4 (.int .i64 r5)
  have hQ4 := blk_at hZ4
  have hF4 := blk_free hZ4
  have hlt2 : w.heap.size + 1 < w2.heap.size := blk_lt hZ2
  have r2' : (fun b => b = w.heap.size + 1) (w.heap.size + 1) ∨ w3.heap.size ≤ w.heap.size + 1 := .inl rfl
  refine bodyPost_ret (v := .tuple #[.agg #[.int .i64 r1, .int .i64 r2, .int .u8 r3, .int .i64 r4, .int .i64 r5], .slice A3 n d3, .int .i64 0]) (by simp [results, Tryz.results64, go_sem, hQ4, hF4]) rfl ⟨A3, d3, rfl, ?_, ?_⟩
  · exact mod_setO (mod_setO (mod_setO (mod_setO (mod_setO hM3 r1') r1') r1') r1') r1'
  · exact (hO3.mod (M := fun b => b = w.heap.size + 1) (mod_setO (mod_setO (mod_setO (mod_setO (mod_setO (Mod.refl (fun b => b = w.heap.size + 1) w3) r2') r2') r2') r2') r2') (fun b _ h e => by omega)).mono (fun b _ h => by have := hM2.size; omega)

set_option maxRecDepth 100000 in
set_option maxHeartbeats 1000000 in
theorem look_any (op : Op) (hu : op.wf) (hv : validE op = 0) (p : Nat) (A : Option Addr) (n c : Nat) (l : List Marked) (last : Int) (first : Bool) (S : Nat → Prop) (w : World) (hT : OtT w) (hs : SpAt w p A n c l last first S) (hn : n ≤ 4096)
    (B : Int) (hB0 : 0 ≤ B) (hB1 : B ≤ 549755813888) (hop : bnd B op) (hl : ∀ x ∈ l, bnd B x.op) :
    Calls Tryz.prog 110 #[.pointer (some ⟨p, 0, none⟩), op.v] w fun e w' => e = .returned (.tuple #[(pastE op (opsOf l) first).1.v, .int .i64 0]) ∧ Mod No w w' := by
  have hth := fun w' hT' h => sthrough_any op hu hv p A n c l last first S w' hT' h hn B hB0 hB1 hop hl
  have hZ0 : ((w.alloc (.cells #[.int .i64 op.kind, .int .i64 op.pos, .int .u8 op.ch, .int .i64 op.client, .int .i64 op.seq] 32)).alloc (.cells #[.int .i64 0, .int .i64 0, .int .u8 0, .int .i64 0, .int .i64 0] 32)).heap[w.heap.size + 1]? = some (.cells #[.int .i64 0, .int .i64 0, .int .u8 0, .int .i64 0, .int .i64 0] 32 (0, 0)) := blk_new _ _ (by simp)
  obtain ⟨R, hR⟩ : ∃ R, pastE op (opsOf l) first = R := ⟨_, rfl⟩
  rw [hR] at hth ⊢
  clear hR hop hl
  obtain ⟨⟨r1, r2, r3, r4, r5⟩, mk⟩ := R
  obtain ⟨q1, q2, q3, q4, q5⟩ := op
  simp only [Op.v] at hth ⊢
  dsimp only at hZ0
  clear hu hv
  go_enter Tryz.func110, Tryz.ntmps110
  go_wp2_with (go_at_call 64; refine (hth _ (hT.mod (((Mod.refl No w).alloc _).alloc _) (fun h => h)) (hs.mod (((Mod.refl No w).alloc _).alloc _) (fun h => h) (fun _ _ _ h => h) (fun _ _ h => h))).mono ?_; rintro e w1 ⟨A1, d1, rfl, hm1, hO1⟩; have hZ1 := blk_alloc (hm1.heap hZ0 (fun h => h)) (.cells #[.int .i64 r1, .int .i64 r2, .int .u8 r3, .int .i64 r4, .int .i64 r5] 32); have hQ1 := blk_at hZ1; have hF1 := blk_free hZ1; have hM1 := ((((Mod.refl No w).alloc _).alloc _).then0 hm1).alloc (.cells #[.int .i64 r1, .int .i64 r2, .int .u8 r3, .int .i64 r4, .int .i64 r5] 32))
  have hZ4 := blk_set (blk_set (blk_set (blk_set (blk_set hZ1 0 (.int .i64 r1)) 1 (.int .i64 r2)) 2 (.int .u8 r3)) 3 (.int .i64 r4)) 4 (.int .i64 r5)
  have hQ4 := blk_at hZ4
  have hF4 := blk_free hZ4
  have r1' : No (w.heap.size + 1) ∨ w.heap.size ≤ w.heap.size + 1 := .inr (by omega)
  refine bodyPost_ret (v := .tuple #[.agg #[.int .i64 r1, .int .i64 r2, .int .u8 r3, .int .i64 r4, .int .i64 r5], .int .i64 0]) (by simp [results, Tryz.results110, go_sem, hQ4, hF4]) rfl ⟨rfl, ?_⟩
  exact mod_setO (mod_setO (mod_setO (mod_setO (mod_setO hM1 r1') r1') r1') r1') r1'

theorem Own.exactO {α : Type} {k : K α} {T : TypeId} {w : World} {b o n c : Nat} {l : List α} {S : Nat → Prop} (h : Own k T w (some ⟨b, o, none⟩) n c l S) : Own k T w (some ⟨b, o, none⟩) n c l (fun x => x = b) ∧ S b := by
  rcases h.2 with ⟨h1, _⟩ | ⟨g, off, cur, h1, h2, h3⟩
  · cases h1
  · simp only [Option.some.injEq, Addr.mk.injEq, and_true] at h1
    obtain ⟨rfl, h1⟩ := h1
    exact ⟨⟨h.1, .inr ⟨b, off, cur, by rw [h1], rfl, h3⟩⟩, h2⟩
theorem Own.frozenO {α : Type} {k : K α} {T : TypeId} {w : World} {b o n c : Nat} {l : List α} {S : Nat → Prop} (h : Own k T w (some ⟨b, o, none⟩) n c l S) (j : Nat) : w.frozen? ⟨b, j, none⟩ = false := by
  rcases h.2 with ⟨h1, _⟩ | ⟨g, off, cur, h1, h2, h3, _⟩
  · cases h1
  · simp only [Option.some.injEq, Addr.mk.injEq, and_true] at h1
    obtain ⟨rfl, h1⟩ := h1
    exact blk_free h3 j
theorem Own.ltO {α : Type} {k : K α} {T : TypeId} {w : World} {b o n c : Nat} {l : List α} {S : Nat → Prop} (h : Own k T w (some ⟨b, o, none⟩) n c l S) : b < w.heap.size := by
  rcases h.2 with ⟨h1, _⟩ | ⟨g, off, cur, h1, h2, h3, _⟩
  · cases h1
  · simp only [Option.some.injEq, Addr.mk.injEq, and_true] at h1
    obtain ⟨rfl, h1⟩ := h1
    exact blk_lt h3

/-- The operation of an element of an owned list is written. -/
theorem Own.setOpM {w : World} {b o n c : Nat} {l : List Marked} {S : Nat → Prop} {T : TypeId} (h : Own kMarked T w (some ⟨b, o, none⟩) n c l S) {i : Nat} {x : Marked} (hx : l[i]? = some x) (f : Op) :
    Own kMarked T (((((w.setCell ⟨b, o + i * 6 + 1, none⟩ (.int .i64 f.kind)).setCell ⟨b, o + i * 6 + 1 + 1, none⟩ (.int .i64 f.pos)).setCell ⟨b, o + i * 6 + 1 + 2, none⟩ (.int .u8 f.ch)).setCell ⟨b, o + i * 6 + 1 + 3, none⟩ (.int .i64 f.client)).setCell ⟨b, o + i * 6 + 1 + 4, none⟩ (.int .i64 f.seq)) (some ⟨b, o, none⟩) n c (l.set i ⟨x.mark, f⟩) S := by
  obtain ⟨mk, ⟨k1, k2, k3, k4, k5⟩⟩ := x
  obtain ⟨g1, g2, g3, g4, g5⟩ := f
  have hL : i < l.length := (List.getElem?_eq_some_iff.1 hx).1
  have sg : ∀ (o : Marked), (l.set i o)[i]? = some o := fun o => by rw [List.getElem?_set_self hL]
  have u1 := h.setAt (j := 1) (x' := ⟨mk, ⟨g1, k2, k3, k4, k5⟩⟩) (v := .int .i64 g1) hx (by decide) rfl rfl
  have u2 := u1.setAt (i := i) (j := 2) (x := ⟨mk, ⟨g1, k2, k3, k4, k5⟩⟩) (x' := ⟨mk, ⟨g1, g2, k3, k4, k5⟩⟩) (v := .int .i64 g2) (sg _) (by decide) rfl rfl
  rw [List.set_set] at u2
  have u3 := u2.setAt (i := i) (j := 3) (x := ⟨mk, ⟨g1, g2, k3, k4, k5⟩⟩) (x' := ⟨mk, ⟨g1, g2, g3, k4, k5⟩⟩) (v := .int .u8 g3) (sg _) (by decide) rfl rfl
  rw [List.set_set] at u3
  have u4 := u3.setAt (i := i) (j := 4) (x := ⟨mk, ⟨g1, g2, g3, k4, k5⟩⟩) (x' := ⟨mk, ⟨g1, g2, g3, g4, k5⟩⟩) (v := .int .i64 g4) (sg _) (by decide) rfl rfl
  rw [List.set_set] at u4
  have u5 := u4.setAt (i := i) (j := 5) (x := ⟨mk, ⟨g1, g2, g3, g4, k5⟩⟩) (x' := ⟨mk, ⟨g1, g2, g3, g4, g5⟩⟩) (v := .int .i64 g5) (sg _) (by decide) rfl rfl
  rw [List.set_set] at u5
  exact u5

set_option maxRecDepth 100000 in
set_option maxHeartbeats 4000000 in
theorem cross_any (op : Op) (hu : op.wf) (hv : validE op = 0) (p : Nat) (A : Option Addr) (n c : Nat) (l : List Marked) (last : Int) (first : Bool) (S : Nat → Prop) (w : World) (hT : OtT w) (hs : SpAt w p A n c l last first S) (hpS : ¬ S p) (hn : n ≤ 4096)
    (B : Int) (hB0 : 0 ≤ B) (hB1 : B ≤ 549755813888) (hop : bnd B op) (hl : ∀ x ∈ l, bnd B x.op) :
    Calls Tryz.prog 38 #[.pointer (some ⟨p, 0, none⟩), op.v] w fun e w' => e = .returned (.tuple #[(pastE op (opsOf l) first).1.v, .int .i64 0]) ∧ SpAt w' p A n c (setOps l (pastE op (opsOf l) first).2) last first S ∧ Mod S w w' := by
  have hth := fun w' hT' h => sthrough_any op hu hv p A n c l last first S w' hT' h hn B hB0 hB1 hop hl
  have hZ0 : ((w.alloc (.cells #[.int .i64 op.kind, .int .i64 op.pos, .int .u8 op.ch, .int .i64 op.client, .int .i64 op.seq] 32)).alloc (.cells #[.int .i64 0, .int .i64 0, .int .u8 0, .int .i64 0, .int .i64 0] 32)).heap[w.heap.size + 1]? = some (.cells #[.int .i64 0, .int .i64 0, .int .u8 0, .int .i64 0, .int .i64 0] 32 (0, 0)) := blk_new _ _ (by simp)
  have hlen : (pastE op (opsOf l) first).2.length = l.length := by rw [pastE_len]; simp [opsOf]
  obtain ⟨R, hR⟩ : ∃ R, pastE op (opsOf l) first = R := ⟨_, rfl⟩
  rw [hR] at hth hlen ⊢
  clear hR hop hl
  obtain ⟨⟨r1, r2, r3, r4, r5⟩, mk⟩ := R
  obtain ⟨q1, q2, q3, q4, q5⟩ := op
  simp only [Op.v] at hth ⊢
  dsimp only at hZ0 hlen
  clear hu hv
  have hNl : n = l.length := hs.2.1
  have HNL := Lib.hid hNl
  have HLEN := Lib.hid hlen
  clear hlen hNl
  have hplt := blk_lt hs.1
  have hnn : (0 : Int) ≤ (n : Int) := by omega
  go_enter Tryz.func38, Tryz.ntmps38
  go_wp2_with (go_at_call 64; refine (hth _ (hT.mod (((Mod.refl No w).alloc _).alloc _) (fun h => h)) (hs.mod (((Mod.refl No w).alloc _).alloc _) (fun h => h) (fun _ _ _ h => h) (fun _ _ h => h))).mono ?_; rintro e w1 ⟨A1, d1, rfl, hm1, hO1⟩; have hZ1 := blk_alloc (hm1.heap hZ0 (fun h => h)) (.cells #[.int .i64 r1, .int .i64 r2, .int .u8 r3, .int .i64 r4, .int .i64 r5] 32); have hX1 := blk_new w1 (.cells #[.int .i64 r1, .int .i64 r2, .int .u8 r3, .int .i64 r4, .int .i64 r5] 32) rfl; have hM1 := ((((Mod.refl No w).alloc _).alloc _).then0 hm1).alloc (.cells #[.int .i64 r1, .int .i64 r2, .int .u8 r3, .int .i64 r4, .int .i64 r5] 32))
  have hw1 : w.heap.size + 2 ≤ w1.heap.size := by have := hm1.size; simpa using this
  have HR1 := Lib.hid (hO1.rd.alloc (.cells #[.int .i64 r1, .int .i64 r2, .int .u8 r3, .int .i64 r4, .int .i64 r5] 32))
  have HI1 := Lib.hid (hO1.mono (S' := fun b => w.heap.size + 2 ≤ b) (fun b _ h => by simpa using h)).inBlk
  have HS1 := Lib.hid (hs.mod (S' := S) hM1 (fun h => h) (fun _ _ _ h => h) (fun _ _ h => h))
  clear hO1 hm1 hZ0 hth
  go_loopw [9, 10, 24] (fun _ _ s24 wr => ∃ k : Nat, k ≤ n ∧ s24 = .int .i64 k ∧ Hid (SpAt wr p A n c (setK l mk k) last first S) ∧ Hid (Rd kOp wr A1 n d1 mk) ∧ Mod S w wr ∧
      wr.heap[w.heap.size + 1]? = some (.cells #[.int .i64 0, .int .i64 0, .int .u8 0, .int .i64 0, .int .i64 0] 32 (0, 0)) ∧
      wr.heap[w1.heap.size]? = some (.cells #[.int .i64 r1, .int .i64 r2, .int .u8 r3, .int .i64 r4, .int .i64 r5] 32 (0, 0))) (fun _ _ s24 _ => n - (intOf s24).toNat)
  case atStart => exact ⟨0, Nat.zero_le _, rfl, by rw [setK_zero]; exact HS1, HR1, Mod.of hM1, hZ1, hX1⟩
  case round =>
    obtain ⟨k, hk, rfl, HS, HR, hM, hZ, hX⟩ := hrel
    clear HS1 HR1 hM1 hZ1 hX1
    have k0 : (0 : Int) ≤ (k : Int) := by omega
    by_cases hlt : k < n
    · obtain ⟨bf, of, f, hf, rfl, f1, f2, f3, f4, f5⟩ := HR.out.opP hlt
      have hl0 := List.getElem?_eq_getElem (l := l) (i := k) (by rw [← HNL.out]; exact hlt)
      obtain ⟨x, hxe⟩ : ∃ x, l[k]'(by rw [← HNL.out]; exact hlt) = x := ⟨_, rfl⟩
      rw [hxe] at hl0
      have hxk := setK_at HLEN.out hl0
      have hset := setK_set HLEN.out hl0 hf
      have HF := Lib.hid hf
      clear hxe hl0 hf
      have hP := blk_at HS.out.1
      have hplr := blk_lt HS.out.1
      have hOL := HS.out.2
      obtain ⟨bl, ol, x', hx', hAl, x1, x2, x3, x4, x5, x6⟩ := hOL.rd.markedC hlt
      obtain rfl : x = x' := Option.some.inj (hxk.symm.trans hx')
      obtain rfl := hAl
      clear hx'
      obtain ⟨hOx, hSb⟩ := hOL.exactO
      have hFz := hOx.frozenO
      have hbl := hOx.ltO
      have hblw : bl < w.heap.size := by
        have := hs.2.ltO
        exact this
      have hbf : w.heap.size + 2 ≤ bf := HI1.out _ rfl
      obtain ⟨mk0, ⟨k1, k2, k3, k4, k5⟩⟩ := x
      obtain ⟨g1, g2, g3, g4, g5⟩ := f
      dsimp only at f1 f2 f3 f4 f5
      dsimp only at x1 x2 x3 x4 x5 x6
      have hlt1 := blk_lt hX
      have hM2 := hM.alloc (.cells #[.int .i64 g1, .int .i64 g2, .int .u8 g3, .int .i64 g4, .int .i64 g5] 32)
      have hJ := blk_new wr (.cells #[.int .i64 g1, .int .i64 g2, .int .u8 g3, .int .i64 g4, .int .i64 g5] 32) rfl
      have hQJ := blk_at hJ
      go_upto_region 7 with (fail)
      refine wp_region_text (by kernel_rfl) (by kernel_rfl) (by kernel_rfl) (by kernel_rfl) ?_
      go_wp2
      refine ⟨rfl, by kernel_rfl, ?_⟩
      have hOW := hOx.setOpM hxk ⟨g1, g2, g3, g4, g5⟩
      dsimp only at hOW hset
      rw [hset] at hOW
      have hMW : Mod (fun b => b = bl) wr (((((wr.setCell ⟨bl, ol + k * 6 + 1, none⟩ (.int .i64 g1)).setCell ⟨bl, ol + k * 6 + 1 + 1, none⟩ (.int .i64 g2)).setCell ⟨bl, ol + k * 6 + 1 + 2, none⟩ (.int .u8 g3)).setCell ⟨bl, ol + k * 6 + 1 + 3, none⟩ (.int .i64 g4)).setCell ⟨bl, ol + k * 6 + 1 + 4, none⟩ (.int .i64 g5)) := mod_setO (mod_setO (mod_setO (mod_setO (mod_setO (Mod.refl (fun b => b = bl) wr) (.inl rfl)) (.inl rfl)) (.inl rfl)) (.inl rfl)) (.inl rfl)
      generalize (((((wr.setCell ⟨bl, ol + k * 6 + 1, none⟩ (.int .i64 g1)).setCell ⟨bl, ol + k * 6 + 1 + 1, none⟩ (.int .i64 g2)).setCell ⟨bl, ol + k * 6 + 1 + 2, none⟩ (.int .u8 g3)).setCell ⟨bl, ol + k * 6 + 1 + 3, none⟩ (.int .i64 g4)).setCell ⟨bl, ol + k * 6 + 1 + 4, none⟩ (.int .i64 g5)) = W at hOW hMW ⊢
      have hpbl : p ≠ bl := fun e => hpS (e ▸ hSb)
      have hSW : SpAt (W.alloc (.cells #[.int .i64 g1, .int .i64 g2, .int .u8 g3, .int .i64 g4, .int .i64 g5] 32)).drew p (some ⟨bl, ol, none⟩) n c (setK l mk (k + 1)) last first S :=
        ⟨blk_alloc (hMW.heap HS.out.1 hpbl) _, ((hOW.mono (fun b _ e => by subst e; exact hSb)).alloc _).drew⟩
      go_wp2
      go_roundw
      case rel => exact ⟨k + 1, by omega, by go_num, Lib.hid hSW, Lib.hid (((HR.out.mod hMW (fun a ha e => by cases ha; dsimp only at e; omega)).alloc _).drew), ((hM.trans hMW (fun b hb e => by subst e; exact hSb)).alloc _).drew, blk_alloc (hMW.heap hZ (by omega)) _, blk_alloc (hMW.heap hX (by omega)) _⟩
      case measure => simp [intOf]; omega
    · obtain rfl : k = n := by omega
      have hQZ := blk_at hZ
      have hFZ := blk_free hZ
      have hQX := blk_at hX
      have hlt1 := blk_lt hZ
      have hlt2 := blk_lt hX
      go_wp2
      have hZ4 := blk_set (blk_set (blk_set (blk_set (blk_set hZ 0 (.int .i64 r1)) 1 (.int .i64 r2)) 2 (.int .u8 r3)) 3 (.int .i64 r4)) 4 (.int .i64 r5)
      have hQ4 := blk_at hZ4
      have hF4 := blk_free hZ4
      have hMZ : Mod (fun b => b = w.heap.size + 1) wr (((((wr.setCell ⟨w.heap.size + 1, 0, none⟩ (.int .i64 r1)).setCell ⟨w.heap.size + 1, 1, none⟩ (.int .i64 r2)).setCell ⟨w.heap.size + 1, 2, none⟩ (.int .u8 r3)).setCell ⟨w.heap.size + 1, 3, none⟩ (.int .i64 r4)).setCell ⟨w.heap.size + 1, 4, none⟩ (.int .i64 r5)) := mod_setO (mod_setO (mod_setO (mod_setO (mod_setO (Mod.refl (fun b => b = w.heap.size + 1) wr) (.inl rfl)) (.inl rfl)) (.inl rfl)) (.inl rfl)) (.inl rfl)
      refine bodyPost_ret (v := .tuple #[.agg #[.int .i64 r1, .int .i64 r2, .int .u8 r3, .int .i64 r4, .int .i64 r5], .int .i64 0]) (by simp [results, Tryz.results38, go_sem, hQ4, hF4]) rfl ⟨rfl, ?_, ?_⟩
      · rw [setK_all HNL.out HLEN.out] at HS
        refine ⟨hMZ.heap HS.out.1 (by omega), ?_⟩
        have hO9 := HS.out.2
        rcases hs.2.2 with ⟨rfl, rfl, rfl⟩ | ⟨gb, goff, gcur, rfl, _, hg, _⟩
        · exact ⟨hO9.1, .inl ⟨rfl, rfl, rfl⟩⟩
        · obtain ⟨hx, hS9⟩ := hO9.exactO
          have := blk_lt hg
          exact (hx.mod hMZ (fun b hb h1 h2 => by omega)).mono (fun b _ e => by subst e; exact hS9)
      · exact hM.trans hMZ (fun b hb e => by omega)

theorem dropWhile_at {α : Type} (P : α → Bool) : ∀ (l : List α) (k : Nat), (∀ q ∈ l.take k, P q = true) → (∀ q, l[k]? = some q → P q = false) → l.dropWhile P = l.drop k
  | [], k, _, _ => by simp
  | x :: l, 0, _, h => by
    have := h x (by simp)
    simp [List.dropWhile_cons, this]
  | x :: l, k + 1, h1, h2 => by
    have hx := h1 x (by simp)
    rw [List.dropWhile_cons, if_pos hx, List.drop_succ_cons]
    exact dropWhile_at P l k (fun q hq => h1 q (by simp [hq])) (fun q hq => h2 q (by simpa using hq))
/-- Out with all up to the mark. -/
def dropE (mark : Int) (l : List Marked) : List Marked := l.dropWhile fun q => decide (q.mark ≤ mark)

set_option maxRecDepth 100000 in
set_option maxHeartbeats 4000000 in
theorem dropTo_any (mark : Int) (p : Nat) (A : Option Addr) (n c : Nat) (l : List Marked) (last : Int) (first : Bool) (S : Nat → Prop) (w : World) (hs : SpAt w p A n c l last first S) (hn : n ≤ 4096) :
    Calls Tryz.prog 37 #[.pointer (some ⟨p, 0, none⟩), .int .i64 mark] w fun e w' => ∃ A' c', e = .returned (.int .i64 (l.length - (dropE mark l).length : Nat)) ∧ SpAt w' p A' (dropE mark l).length c' (dropE mark l) last first (fun b => w.heap.size ≤ b) ∧ Mod (fun b => b = p) w w' := by
  obtain ⟨hp, hO⟩ := hs
  have hr := hO.rd
  have hNl : n = l.length := hO.1
  have HC := Lib.hid (blk_at hp)
  have hF := blk_free hp
  have hplt := blk_lt hp
  have HNL := Lib.hid hNl
  clear hNl
  have hnn : (0 : Int) ≤ (n : Int) := by omega
  obtain ⟨A0, hA0⟩ : ∃ A0, A = A0 := ⟨_, rfl⟩
  have hCs := blk_at hp
  have HA0 := Lib.hid hA0
  rw [hA0] at hCs
  clear hA0
  go_enter Tryz.func37, Tryz.ntmps37
  go_wp2
  go_loopw [5] (fun s5 wr => ∃ k : Nat, k ≤ n ∧ s5 = .int .i64 k ∧ wr = w ∧ Hid (∀ q ∈ l.take k, decide (q.mark ≤ mark) = true)) (fun s5 _ => n - (intOf s5).toNat)
  case atStart => exact ⟨0, Nat.zero_le _, rfl, rfl, Lib.hid (by simp)⟩
  case round =>
    obtain ⟨k, hk, rfl, rfl, hall⟩ := hrel
    have k0 : (0 : Int) ≤ (k : Int) := by omega
    by_cases hlt : k < n
    · obtain ⟨bl, ol, x, hx, hAl, x1, x2, x3, x4, x5, x6⟩ := hr.markedC hlt
      obtain ⟨mk0, o0⟩ := x
      dsimp only at x1
      rw [HA0.out] at hAl
      subst hAl
      by_cases hm : mk0 ≤ mark
      · have HA := Lib.hid (show ∀ q ∈ l.take (k + 1), decide (q.mark ≤ mark) = true from fun q hq => by
          rw [List.take_add_one, hx] at hq
          simp only [Option.toList_some, List.mem_append, List.mem_singleton] at hq
          rcases hq with hq | rfl
          · exact hall.out q hq
          · simp [hm])
        clear hall hx x2 x3 x4 x5 x6
        go_wp2
        go_roundw
        case rel => exact ⟨k + 1, by omega, by go_num, by trivial, HA⟩
        case measure => simp [intOf]; omega
      · have HD := Lib.hid (show dropE mark l = l.drop k from dropWhile_at _ l k hall.out (fun q hq => by rw [hx] at hq; cases hq; simpa using hm))
        clear hall hx x2 x3 x4 x5 x6
        have hrt := hr.tail k hk
        have hnc := hr.2.1
        have hck : ¬ c = k := by omega
        rw [← HD.out, if_neg hck, show kMarked.sz = 6 from rfl] at hrt
        go_upto_region 4 with (fail)
        clear hCs
        have hC := HC.out
        go_wp2_with (go_at_call 63; (with_reducible refine (clone_any (Option.map (fun x => x.add (k * 6)) A) (n - k) (c - k) (dropE mark l) _ hrt (by omega)).mono ?_); rintro e w1 ⟨A1, d1, rfl, hm1, hO1⟩; have hp1 := hm1.heap hp (fun h => h); have hC1 := blk_at hp1; have hF1 := blk_free hp1; have hplt1 := blk_lt hp1)
        go_ret
        have hlen : n - k = (dropE mark l).length := hO1.1
        have hnl := HNL.out
        have hkk : l.length - (dropE mark l).length = k := by omega
        rw [hlen] at hO1 ⊢
        rw [hkk]
        exact ⟨A1, d1, rfl, ⟨blk_set hp1 0 _, hO1.mod' (mod_setO (Mod.refl (fun b => b = p) _) (.inl rfl)) (fun b _ h1 h2 => by omega) (fun b _ h => h)⟩, mod_setO (Mod.of hm1) (.inl rfl)⟩
    · obtain rfl : k = n := by omega
      have HD := Lib.hid (show dropE mark l = l.drop k from dropWhile_at _ l k hall.out (fun q hq => by rw [List.getElem?_eq_none (by have := HNL.out; omega)] at hq; cases hq))
      clear hall
      have hrt := hr.tail k hk
      have hnc := hr.2.1
      rw [← HD.out, Nat.sub_self] at hrt
      by_cases hck : c = k
      · obtain rfl : c = k := hck
        rw [if_pos rfl, Nat.sub_self] at hrt
        go_upto_region 4 with (fail)
        clear hCs
        have hC := HC.out
        go_wp2_with (go_at_call 63; (with_reducible refine (clone_any (A) (0) (0) (dropE mark l) _ hrt (by omega)).mono ?_); rintro e w1 ⟨A1, d1, rfl, hm1, hO1⟩; have hp1 := hm1.heap hp (fun h => h); have hC1 := blk_at hp1; have hF1 := blk_free hp1; have hplt1 := blk_lt hp1)
        go_ret
        have hlen : 0 = (dropE mark l).length := hO1.1
        have hnl := HNL.out
        have hkk : l.length - (dropE mark l).length = c := by omega
        rw [hkk, ← hlen]
        exact ⟨A1, d1, rfl, ⟨blk_set hp1 0 _, hO1.mod' (mod_setO (Mod.refl (fun b => b = p) _) (.inl rfl)) (fun b _ h1 h2 => by omega) (fun b _ h => h)⟩, mod_setO (Mod.of hm1) (.inl rfl)⟩
      · rw [if_neg hck, show kMarked.sz = 6 from rfl] at hrt
        go_upto_region 4 with (fail)
        clear hCs
        have hC := HC.out
        go_wp2_with (go_at_call 63; (with_reducible refine (clone_any (Option.map (fun x => x.add (k * 6)) A) (0) (c - k) (dropE mark l) _ hrt (by omega)).mono ?_); rintro e w1 ⟨A1, d1, rfl, hm1, hO1⟩; have hp1 := hm1.heap hp (fun h => h); have hC1 := blk_at hp1; have hF1 := blk_free hp1; have hplt1 := blk_lt hp1)
        go_ret
        have hlen : 0 = (dropE mark l).length := hO1.1
        have hnl := HNL.out
        have hkk : l.length - (dropE mark l).length = k := by omega
        rw [hkk, ← hlen]
        exact ⟨A1, d1, rfl, ⟨blk_set hp1 0 _, hO1.mod' (mod_setO (Mod.refl (fun b => b = p) _) (.inl rfl)) (fun b _ h1 h2 => by omega) (fun b _ h => h)⟩, mod_setO (Mod.of hm1) (.inl rfl)⟩
end Go.Proofs.YtjojhfphlnfimaaGreatDoor.J
