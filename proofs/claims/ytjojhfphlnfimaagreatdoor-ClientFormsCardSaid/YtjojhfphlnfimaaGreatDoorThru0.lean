/- One operation past an empty queue: it stays as it is. -/
import Derived.Test.YtjojhfphlnfimaaGreatDoorCross
import Derived.Deep.DeepCutAuto
namespace Go.Proofs.YtjojhfphlnfimaaGreatDoor.J
open Go Go.RowKit
set_option linter.unusedSimpArgs false
set_option linter.unusedVariables false

set_option maxRecDepth 100000 in
set_option maxHeartbeats 2000000 in
theorem past_0 (op : Op) (A : Option Addr) (c : Nat) (f : Bool) (w : World) :
    Calls Tryz.prog 112 #[op.v, .slice A 0 c, .bool f] w fun e w' => ∃ A', e = .returned (.tuple #[op.v, .slice A' 0 0]) ∧ Mod No w w' := by
  obtain ⟨i, hi1, hi2, hi3, hi4⟩ := info_parts Tryz.infoOpP
  obtain ⟨o1, o2, o3, o4, o5⟩ := op
  simp only [Op.v]
  go_enter Tryz.func112, Tryz.ntmps112
  go_wp2_with (refine wpList_make_j (k := kOp) rfl _ _ _ rfl i _ ⟨0, 0, 0, 0, 0⟩ Tryz.underlying23 hi1 hi2 hi3 rfl .i64 .i64 0 _ 0 0 rfl rfl rfl rfl (by omega) (by rw [hi4]; omega) (by unfold maxLen; omega) ?_; intro w2 hown hM2 hs2)
  have hA0 := hM2.heap (blk_alloc (blk_new w (.cells #[.int .i64 o1, .int .i64 o2, .int .u8 o3, .int .i64 o4, .int .i64 o5] 32) rfl) _) (fun h => h)
  have hZ0 := hM2.heap (b := w.heap.size + 1) (blk_new _ _ (by simp)) (fun h => h)
  have hM0 : Mod No w w2 := (((Mod.refl No w).alloc _).alloc _).then0 hM2
  go_loopw [8, 16] (fun s8 s16 wr => s16 = .int .i64 0 ∧ (∃ A', s8 = .slice A' 0 0) ∧ wr = w2) (fun _ _ _ => 0)
  case atStart => exact ⟨rfl, ⟨_, rfl⟩, rfl⟩
  case round =>
    obtain ⟨rfl, ⟨A1, rfl⟩, rfl⟩ := hrel
    have hQa := blk_at hA0
    have hQz := blk_at hZ0
    have hFz := blk_free hZ0
    have hm0 : No (w.heap.size + 1) ∨ w.heap.size ≤ w.heap.size + 1 := .inr (by omega)
    go_wp2
    have hZ4 := blk_set (blk_set (blk_set (blk_set (blk_set hZ0 0 (.int .i64 o1)) 1 (.int .i64 o2)) 2 (.int .u8 o3)) 3 (.int .i64 o4)) 4 (.int .i64 o5)
    have hQ4 := blk_at hZ4
    have hF4 := blk_free hZ4
    refine bodyPost_ret (v := .tuple #[.agg #[.int .i64 o1, .int .i64 o2, .int .u8 o3, .int .i64 o4, .int .i64 o5], .slice A1 0 0]) (by simp [results, Tryz.results112, go_sem, hQ4, hF4]) rfl ⟨_, rfl, ?_⟩
    exact mod_setO (mod_setO (mod_setO (mod_setO (mod_setO hM0 hm0) hm0) hm0) hm0) hm0

set_option maxRecDepth 100000 in
set_option maxHeartbeats 2000000 in
theorem through_0 (op : Op) (A : Option Addr) (c : Nat) (f : Bool) (w : World) :
    Calls Tryz.prog 93 #[op.v, .slice A 0 c, .bool f] w fun e w' => ∃ A', e = .returned (.tuple #[op.v, .slice A' 0 0, .int .i64 0]) ∧ Mod No w w' := by
  have hpa := fun w' => past_0 op A c f w'
  obtain ⟨q1, q2, q3, q4, q5⟩ := op
  simp only [Op.v] at hpa ⊢
  go_enter Tryz.func93, Tryz.ntmps93
  go_wp2_with (go_at_call 112; refine (hpa _).mono ?_; rintro e w1 ⟨A1, rfl, hm1⟩; have hA1 := hm1.heap (b := w.heap.size) (blk_alloc (blk_new _ _ rfl) _) (fun h => h); have hZ1 := hm1.heap (b := w.heap.size + 1) (blk_new _ _ (by simp)) (fun h => h); have hQa := blk_at hA1; have hFa := blk_free hA1; have hQz := blk_at hZ1; have hFz := blk_free hZ1)
  have hs1 := hm1.size
  rw [World.size_alloc, World.size_alloc] at hs1
  have hM1 : Mod No w w1 := (((Mod.refl No w).alloc _).alloc _).then0 hm1
  have hZ4 := blk_set (blk_set (blk_set (blk_set (blk_set (blk_set_other (a := ⟨w.heap.size, 4, none⟩) (blk_set_other (a := ⟨w.heap.size, 3, none⟩) (blk_set_other (a := ⟨w.heap.size, 2, none⟩) (blk_set_other (a := ⟨w.heap.size, 1, none⟩) (blk_set_other (a := ⟨w.heap.size, 0, none⟩) hZ1 (by dsimp only; omega) (.int .i64 q1)) (by dsimp only; omega) (.int .i64 q2)) (by dsimp only; omega) (.int .u8 q3)) (by dsimp only; omega) (.int .i64 q4)) (by dsimp only; omega) (.int .i64 q5)) 0 (.int .i64 q1)) 1 (.int .i64 q2)) 2 (.int .u8 q3)) 3 (.int .i64 q4)) 4 (.int .i64 q5)
  have hQ4 := blk_at hZ4
  have hF4 := blk_free hZ4
  refine bodyPost_ret (v := .tuple #[.agg #[.int .i64 q1, .int .i64 q2, .int .u8 q3, .int .i64 q4, .int .i64 q5], .slice A1 0 0, .int .i64 0]) (by simp [results, Tryz.results93, go_sem, hQ4, hF4]) rfl ⟨A1, rfl, ?_⟩
  have r0 : No w.heap.size ∨ w.heap.size ≤ w.heap.size := .inr (Nat.le_refl _)
  have r1 : No (w.heap.size + 1) ∨ w.heap.size ≤ w.heap.size + 1 := .inr (by omega)
  exact mod_setO (mod_setO (mod_setO (mod_setO (mod_setO (mod_setO (mod_setO (mod_setO (mod_setO (mod_setO hM1 r0) r0) r0) r0) r0) r1) r1) r1) r1) r1

/-- An empty space at block p. -/
def Sp0 (w : World) (p : Nat) : Prop := w.heap[p]? = some (.cells #[.slice none 0 0, .int .i64 0, .bool false] 102 (0, 0))

set_option maxRecDepth 100000 in
set_option maxHeartbeats 2000000 in
theorem sthrough_0 (op : Op) (hu : op.wf) (hv : validE op = 0) (p : Nat) (w : World) (hs : Sp0 w p) :
    Calls Tryz.prog 64 #[.pointer (some ⟨p, 0, none⟩), op.v] w fun e w' => ∃ A', e = .returned (.tuple #[op.v, .slice A' 0 0, .int .i64 0]) ∧ Mod No w w' := by
  have hva := fun w' => valid_any op w' hu
  rw [hv] at hva
  have hln := fun w' (h : Sp0 w' p) => line_any p none 0 0 [] 0 false No w' ⟨h, Own.nil _ _ _ _⟩ (by omega)
  have hth := fun A c w' => through_0 op A c false w'
  have hM0 : Mod No w ((w.alloc (.cells #[.int .i64 op.kind, .int .i64 op.pos, .int .u8 op.ch, .int .i64 op.client, .int .i64 op.seq] 32)).alloc (.cells #[.int .i64 0, .int .i64 0, .int .u8 0, .int .i64 0, .int .i64 0] 32)) := ((Mod.refl No w).alloc _).alloc _
  have hA0 : ((w.alloc (.cells #[.int .i64 op.kind, .int .i64 op.pos, .int .u8 op.ch, .int .i64 op.client, .int .i64 op.seq] 32)).alloc (.cells #[.int .i64 0, .int .i64 0, .int .u8 0, .int .i64 0, .int .i64 0] 32)).heap[w.heap.size]? = some (.cells #[.int .i64 op.kind, .int .i64 op.pos, .int .u8 op.ch, .int .i64 op.client, .int .i64 op.seq] 32 (0, 0)) := blk_alloc (blk_new _ _ rfl) _
  have hZ0 : ((w.alloc (.cells #[.int .i64 op.kind, .int .i64 op.pos, .int .u8 op.ch, .int .i64 op.client, .int .i64 op.seq] 32)).alloc (.cells #[.int .i64 0, .int .i64 0, .int .u8 0, .int .i64 0, .int .i64 0] 32)).heap[w.heap.size + 1]? = some (.cells #[.int .i64 0, .int .i64 0, .int .u8 0, .int .i64 0, .int .i64 0] 32 (0, 0)) := blk_new _ _ (by simp)
  obtain ⟨q1, q2, q3, q4, q5⟩ := op
  simp only [Op.v] at hva hth ⊢
  dsimp only at hM0 hA0 hZ0
  clear hu hv
  go_enter Tryz.func64, Tryz.ntmps64
  go_upto_region 4 with (go_at_call 92; refine (hva _).mono ?_; rintro e w1 ⟨rfl, hm1⟩; have hA1 := hm1.heap hA0 (fun h => h); have hZ1 := hm1.heap hZ0 (fun h => h); have hM1 := hM0.then0 hm1; have hQa := blk_at hA1)
  have hS1 : Sp0 w1 p := hM1.heap hs (fun h => h)
  have hQs := blk_at hS1
  clear hA0 hZ0 hM0 hm1
  refine wp_region_seg ([0, 1, 2, 3, 5, 6, 7, 8].map (·, false) ++ [(4, true)] ++ [9, 10, 11, 12, 13, 14, 15].map (·, false)) (by kernel_rfl) (by kernel_rfl) (by kernel_rfl) (by kernel_rfl) ?_
  simp only [List.map_cons, List.map_nil, List.cons_append, List.nil_append, List.filterMap_cons, List.filterMap_nil, pick, List.getElem?_toArray, List.getElem?_cons_zero, List.getElem?_cons_succ, Option.map_some]
  refine wpSeg_cut (fun e a w h => h.1) [_, _, _, _, _, _, _, _] _ _ _ ?_
  go_wp2
  refine wpSeg_mark rfl ?_
  go_wp2_with (go_at_call 94; refine (hln w1.drew hS1).mono ?_; rintro e w2 ⟨B, d, rfl, hm2, hO2⟩; refine ⟨fun b hb => hm2.block b hb (fun hf => hf), ?_⟩)
  have hZ2 := hm2.heap hZ1 (fun h => h)
  have hM2 := hM1.drew.then0 hm2
  refine wpSeg_rest [_, _, _, _, _, _, _] ?_
  go_wp2_with (go_at_call 93; refine (hth _ _ _).mono ?_; rintro e w3 ⟨A3, rfl, hm3⟩; have hZ3 := hm3.heap hZ2 (fun h => h); have hQ3 := blk_at hZ3; have hF3 := blk_free hZ3; have hM3 := hM2.then0 hm3)
  refine ⟨rfl, by kernel_rfl, ?_⟩
  go_wp2
  have r1 : No (w.heap.size + 1) ∨ w.heap.size ≤ w.heap.size + 1 := .inr (by omega)
  refine bodyPost_ret (v := .tuple #[.agg #[.int .i64 q1, .int .i64 q2, .int .u8 q3, .int .i64 q4, .int .i64 q5], .slice A3 0 0, .int .i64 0]) (by simp [results, Tryz.results64, go_sem, hQ3, hF3]) rfl ⟨A3, rfl, ?_⟩
  exact mod_setO (mod_setO (mod_setO (mod_setO (mod_setO hM3 r1) r1) r1) r1) r1
end Go.Proofs.YtjojhfphlnfimaaGreatDoor.J
