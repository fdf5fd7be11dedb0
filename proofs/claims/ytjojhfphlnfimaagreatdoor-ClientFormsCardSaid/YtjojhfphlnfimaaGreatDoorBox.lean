/- The two halves of the link. -/
import Derived.Test.YtjojhfphlnfimaaGreatDoorThru0
import Derived.Test.YtjojhfphlnfimaaGreatDoorHeld
namespace Go.Proofs.YtjojhfphlnfimaaGreatDoor.J
open Go Go.RowKit
open Go.ChangeMaps (setBlock heap_setBlock_same heap_setBlock_other)
set_option linter.unusedSimpArgs false
set_option linter.unusedVariables false

theorem zero_Op (w : World) : (zeroValue 32).run Tryz.prog w = .ok Op.zero.v w := by kernel_rfl

set_option maxRecDepth 100000 in
set_option maxHeartbeats 1000000 in
theorem look_0 (op : Op) (hu : op.wf) (hv : validE op = 0) (p : Nat) (w : World) (hs : Sp0 w p) :
    Calls Tryz.prog 110 #[.pointer (some ⟨p, 0, none⟩), op.v] w fun e w' => e = .returned (.tuple #[op.v, .int .i64 0]) ∧ Mod No w w' := by
  have hth := fun w' h => sthrough_0 op hu hv p w' h
  have hZ0 : ((w.alloc (.cells #[.int .i64 op.kind, .int .i64 op.pos, .int .u8 op.ch, .int .i64 op.client, .int .i64 op.seq] 32)).alloc (.cells #[.int .i64 0, .int .i64 0, .int .u8 0, .int .i64 0, .int .i64 0] 32)).heap[w.heap.size + 1]? = some (.cells #[.int .i64 0, .int .i64 0, .int .u8 0, .int .i64 0, .int .i64 0] 32 (0, 0)) := blk_new _ _ (by simp)
  obtain ⟨q1, q2, q3, q4, q5⟩ := op
  simp only [Op.v] at hth ⊢
  dsimp only at hZ0
  clear hu hv
  go_enter Tryz.func110, Tryz.ntmps110
  go_wp2_with (go_at_call 64; refine (hth _ ((((Mod.refl No w).alloc _).alloc _).heap hs (fun h => h))).mono ?_; rintro e w1 ⟨A1, rfl, hm1⟩; have hZ1 := blk_alloc (hm1.heap hZ0 (fun h => h)) (.cells #[.int .i64 q1, .int .i64 q2, .int .u8 q3, .int .i64 q4, .int .i64 q5] 32); have hQ1 := blk_at hZ1; have hF1 := blk_free hZ1; have hM1 := ((((Mod.refl No w).alloc _).alloc _).then0 hm1).alloc (.cells #[.int .i64 q1, .int .i64 q2, .int .u8 q3, .int .i64 q4, .int .i64 q5] 32))
  have hZ4 := blk_set (blk_set (blk_set (blk_set (blk_set hZ1 0 (.int .i64 q1)) 1 (.int .i64 q2)) 2 (.int .u8 q3)) 3 (.int .i64 q4)) 4 (.int .i64 q5)
  have hQ4 := blk_at hZ4
  have hF4 := blk_free hZ4
  have r1 : No (w.heap.size + 1) ∨ w.heap.size ≤ w.heap.size + 1 := .inr (by omega)
  refine bodyPost_ret (v := .tuple #[.agg #[.int .i64 q1, .int .i64 q2, .int .u8 q3, .int .i64 q4, .int .i64 q5], .int .i64 0]) (by simp [results, Tryz.results110, go_sem, hQ4, hF4]) rfl ⟨rfl, ?_⟩
  exact mod_setO (mod_setO (mod_setO (mod_setO (mod_setO hM1 r1) r1) r1) r1) r1

set_option maxRecDepth 100000 in
set_option maxHeartbeats 1000000 in
theorem cross_0 (op : Op) (hu : op.wf) (hv : validE op = 0) (p : Nat) (w : World) (hs : Sp0 w p) :
    Calls Tryz.prog 38 #[.pointer (some ⟨p, 0, none⟩), op.v] w fun e w' => e = .returned (.tuple #[op.v, .int .i64 0]) ∧ Mod No w w' := by
  have hth := fun w' h => sthrough_0 op hu hv p w' h
  have hZ0 : ((w.alloc (.cells #[.int .i64 op.kind, .int .i64 op.pos, .int .u8 op.ch, .int .i64 op.client, .int .i64 op.seq] 32)).alloc (.cells #[.int .i64 0, .int .i64 0, .int .u8 0, .int .i64 0, .int .i64 0] 32)).heap[w.heap.size + 1]? = some (.cells #[.int .i64 0, .int .i64 0, .int .u8 0, .int .i64 0, .int .i64 0] 32 (0, 0)) := blk_new _ _ (by simp)
  obtain ⟨q1, q2, q3, q4, q5⟩ := op
  simp only [Op.v] at hth ⊢
  dsimp only at hZ0
  clear hu hv
  go_enter Tryz.func38, Tryz.ntmps38
  go_wp2_with (go_at_call 64; refine (hth _ ((((Mod.refl No w).alloc _).alloc _).heap hs (fun h => h))).mono ?_; rintro e w1 ⟨A1, rfl, hm1⟩; have hZ1 := blk_alloc (hm1.heap hZ0 (fun h => h)) (.cells #[.int .i64 q1, .int .i64 q2, .int .u8 q3, .int .i64 q4, .int .i64 q5] 32); have hQ1 := blk_at hZ1; have hF1 := blk_free hZ1; have hM1 := ((((Mod.refl No w).alloc _).alloc _).then0 hm1).alloc (.cells #[.int .i64 q1, .int .i64 q2, .int .u8 q3, .int .i64 q4, .int .i64 q5] 32))
  go_loopw [24] (fun s24 wr => s24 = .int .i64 0 ∧ wr = (w1.alloc (.cells #[.int .i64 q1, .int .i64 q2, .int .u8 q3, .int .i64 q4, .int .i64 q5] 32))) (fun _ _ => 0)
  case atStart => exact ⟨rfl, rfl⟩
  case round =>
    obtain ⟨rfl, rfl⟩ := hrel
    have hX1 := blk_at (blk_new w1 (.cells #[.int .i64 q1, .int .i64 q2, .int .u8 q3, .int .i64 q4, .int .i64 q5] 32) rfl)
    go_wp2
    have hZ4 := blk_set (blk_set (blk_set (blk_set (blk_set hZ1 0 (.int .i64 q1)) 1 (.int .i64 q2)) 2 (.int .u8 q3)) 3 (.int .i64 q4)) 4 (.int .i64 q5)
    have hQ4 := blk_at hZ4
    have hF4 := blk_free hZ4
    have r1 : No (w.heap.size + 1) ∨ w.heap.size ≤ w.heap.size + 1 := .inr (by omega)
    refine bodyPost_ret (v := .tuple #[.agg #[.int .i64 q1, .int .i64 q2, .int .u8 q3, .int .i64 q4, .int .i64 q5], .int .i64 0]) (by simp [results, Tryz.results38, go_sem, hQ4, hF4]) rfl ⟨rfl, ?_⟩
    exact mod_setO (mod_setO (mod_setO (mod_setO (mod_setO hM1 r1) r1) r1) r1) r1

theorem sent_0 (p : Nat) (a b c d : Value) (T : TypeId) (w : World) (hb : w.heap[p]? = some (.cells #[a, b, c, d] T (0, 0))) :
    Calls Tryz.prog 84 #[.pointer (some ⟨p, 0, none⟩)] w fun e w' => e = .returned c ∧ w' = w := by
  have hC := blk_at hb
  go_enter Tryz.func84, Tryz.ntmps84
  go_wp2
  go_ret
  exact ⟨rfl, rfl⟩
theorem ack_0 (p : Nat) (sl : Value) (T : TypeId) (w : World) (hb : w.heap[p]? = some (.cells #[.int .i64 8, .int .i64 0, .int .i64 0, sl] T (0, 0))) :
    Calls Tryz.prog 58 #[.pointer (some ⟨p, 0, none⟩), .int .i64 0] w fun e w' => e = .returned (.int .i64 0) ∧ w' = w := by
  have hC := blk_at hb
  go_enter Tryz.func58, Tryz.ntmps58
  go_wp2
  go_ret
  exact ⟨rfl, rfl⟩
theorem cum_ok (p : Nat) (a c : Value) (n : Int) (T : TypeId) (w : World) (hb : w.heap[p]? = some (.cells #[a, .int .i64 n, c] T (0, 0))) :
    Calls Tryz.prog 85 #[.pointer (some ⟨p, 0, none⟩)] w fun e w' => e = .returned (.int .i64 n) ∧ w' = w := by
  have hC := blk_at hb
  go_enter Tryz.func85, Tryz.ntmps85
  go_wp2
  go_ret
  exact ⟨rfl, rfl⟩
set_option maxRecDepth 100000 in
theorem oreset_0 (p : Nat) (w : World) (hb : w.heap[p]? = some (.cells #[.int .i64 8, .int .i64 0, .int .i64 0, .slice none 0 0] 145 (0, 0))) :
    Calls Tryz.prog 88 #[.pointer (some ⟨p, 0, none⟩)] w fun e w' => e = .returned (.tuple #[]) ∧ Mod (fun b => b = p) w w' ∧ w'.heap[p]? = some (.cells #[.int .i64 8, .int .i64 0, .int .i64 0, .slice none 0 0] 145 (0, 0)) := by
  have hC := blk_at hb
  have hF := blk_free hb
  have h3 := blk_set (blk_set (blk_set hb 3 (.slice none 0 0)) 1 (.int .i64 0)) 2 (.int .i64 0)
  go_enter Tryz.func88, Tryz.ntmps88
  go_wp2
  go_end0
  exact ⟨rfl, mod_setO (mod_setO (mod_setO (Mod.refl (fun b => b = p) w) (.inl rfl)) (.inl rfl)) (.inl rfl), h3⟩

set_option maxRecDepth 100000 in
theorem ireset_ok (p pm : Nat) (cum : Int) (l : List (Int × Op)) (w : World) (h : InAt w p pm cum l 148) (hne : pm ≠ p) :
    Calls Tryz.prog 87 #[.pointer (some ⟨p, 0, none⟩)] w fun e w' => e = .returned (.tuple #[]) ∧ Mod (fun b => b = p ∨ b = pm) w w' ∧ InAt w' p pm 0 [] 148 := by
  obtain ⟨hb, es, ck, hm, hh⟩ := h
  have hC := blk_at hb
  have hF := blk_free hb
  have h3 := blk_set hb 1 (.int .i64 0)
  have hC3 := blk_at h3
  have hm3 := blk_set_other hm (a := ⟨p, 1, none⟩) (by dsimp only; omega) (.int .i64 0)
  have hM3 : Mod (fun b => b = p ∨ b = pm) w (w.setCell ⟨p, 1, none⟩ (.int .i64 0)) := mod_setO (Mod.refl (fun b => b = p ∨ b = pm) w) (.inl (.inl rfl))
  go_enter Tryz.func87, Tryz.ntmps87
  go_wp2_with (refine wpList_clear_h rfl _ rfl Tryz.underlying146 rfl hm3 ?_)
  go_end0
  exact ⟨rfl, mod_setBlock hM3 hm3 (.inl (.inr rfl)), blk_setBlock_other h3 (Ne.symm hne), #[], ck, blk_setBlock hm3, heldOk.nil⟩

set_option maxRecDepth 100000 in
set_option maxHeartbeats 1000000 in
theorem put_here (p pm : Nat) (cum n : Int) (l : List (Int × Op)) (op : Op) (w : World) (h : InAt w p pm cum l 148) (h1 : 1 ≤ n) (h2 : n ≤ 4096) (hc0 : 0 ≤ cum) (hc1 : cum ≤ 4096) (hh : (findH n l).isSome = true ∨ n ≤ cum) :
    Calls Tryz.prog 59 #[.pointer (some ⟨p, 0, none⟩), .int .i64 n, op.v] w fun e w' => e = .returned (.int .i64 92) ∧ Mod No w w' := by
  obtain ⟨hb, es, ck, hm, hok⟩ := h
  obtain ⟨q1, q2, q3, q4, q5⟩ := op
  have hb0 := blk_alloc hb (.cells #[.int .i64 q1, .int .i64 q2, .int .u8 q3, .int .i64 q4, .int .i64 q5] 32)
  have hm0 := blk_alloc hm (.cells #[.int .i64 q1, .int .i64 q2, .int .u8 q3, .int .i64 q4, .int .i64 q5] 32)
  have hC := blk_at hb0
  obtain ⟨F, hF⟩ : ∃ F, (findH n l).getD Op.zero = F := ⟨_, rfl⟩
  obtain ⟨S, hS⟩ : ∃ S, (findH n l).isSome = S := ⟨_, rfl⟩
  rw [hS] at hh
  obtain ⟨f1, f2, f3, f4, f5⟩ := F
  have hb1 := blk_alloc hb0 (.cells #[.int .i64 f1, .int .i64 f2, .int .u8 f3, .int .i64 f4, .int .i64 f5] 32)
  have hC1 := blk_at hb1
  simp only [Op.v]
  go_enter Tryz.func59, Tryz.ntmps59
  cases S
  · have hn : n ≤ cum := by rcases hh with h | h; cases h; exact h
    go_wp2_with (refine wpList_lookup_h rfl _ _ rfl Tryz.underlying146 Tryz.underlying3 (zero_Op _) rfl hm0 hok n rfl ?_; rw [hF, hS]; simp only [Op.v])
    go_ret
    exact ⟨rfl, ((Mod.refl No w).alloc _).alloc _⟩
  · go_wp2_with (refine wpList_lookup_h rfl _ _ rfl Tryz.underlying146 Tryz.underlying3 (zero_Op _) rfl hm0 hok n rfl ?_; rw [hF, hS]; simp only [Op.v])
    go_ret
    exact ⟨rfl, ((Mod.refl No w).alloc _).alloc _⟩

set_option maxRecDepth 100000 in
set_option maxHeartbeats 1000000 in
theorem put_new (p pm : Nat) (cum n : Int) (l : List (Int × Op)) (op : Op) (w : World) (h : InAt w p pm cum l 148) (hne : pm ≠ p) (h1 : 1 ≤ n) (h2 : n ≤ 4096) (hc0 : 0 ≤ cum) (hc1 : cum ≤ 4096) (hn : findH n l = none) (hlt : cum < n) (h8 : n ≤ cum + 8) :
    Calls Tryz.prog 59 #[.pointer (some ⟨p, 0, none⟩), .int .i64 n, op.v] w fun e w' => e = .returned (.int .i64 0) ∧ Mod (fun b => b = pm) w w' ∧ InAt w' p pm cum (l ++ [(n, op)]) 148 := by
  obtain ⟨hb, es, ck, hm, hok⟩ := h
  have hpush := hok.push n op ck
  obtain ⟨q1, q2, q3, q4, q5⟩ := op
  have hb0 := blk_alloc hb (.cells #[.int .i64 q1, .int .i64 q2, .int .u8 q3, .int .i64 q4, .int .i64 q5] 32)
  have hm0 := blk_alloc hm (.cells #[.int .i64 q1, .int .i64 q2, .int .u8 q3, .int .i64 q4, .int .i64 q5] 32)
  have hC := blk_at hb0
  have hb1 := blk_alloc hb0 (.cells #[.int .i64 0, .int .i64 0, .int .u8 0, .int .i64 0, .int .i64 0] 32)
  have hm1 := blk_alloc hm0 (.cells #[.int .i64 0, .int .i64 0, .int .u8 0, .int .i64 0, .int .i64 0] 32)
  have hX1 := blk_alloc (blk_new w (.cells #[.int .i64 q1, .int .i64 q2, .int .u8 q3, .int .i64 q4, .int .i64 q5] 32) rfl) (.cells #[.int .i64 0, .int .i64 0, .int .u8 0, .int .i64 0, .int .i64 0] 32)
  have hQX := blk_at hX1
  have hC1 := blk_at hb1
  have hz : (findH n l).getD Op.zero = ⟨0, 0, 0, 0, 0⟩ := by rw [hn]; rfl
  have hz2 : (findH n l).isSome = false := by rw [hn]; rfl
  simp only [Op.v] at hpush ⊢
  go_enter Tryz.func59, Tryz.ntmps59
  go_upto_region 6 with (refine wpList_lookup_h rfl _ _ rfl Tryz.underlying146 Tryz.underlying3 (zero_Op _) rfl hm0 hok n rfl ?_; rw [hz, hz2]; simp only [Op.v])
  refine wp_region_text (by kernel_rfl) (by kernel_rfl) (by kernel_rfl) (by kernel_rfl) ?_
  go_wp2
  refine ⟨rfl, by kernel_rfl, ?_⟩
  go_upto_region 8 with (fail)
  refine wp_region_text (by kernel_rfl) (by kernel_rfl) (by kernel_rfl) (by kernel_rfl) ?_
  go_wp2_with (refine wpList_update_h (l := l) rfl _ _ _ rfl Tryz.underlying146 Tryz.underlying3 rfl hm1 hok n rfl hn _ rfl ?_)
  refine ⟨rfl, by kernel_rfl, ?_⟩
  go_wp2
  go_ret
  have hMm : Mod (fun b => b = pm) w (((w.alloc (.cells #[.int .i64 q1, .int .i64 q2, .int .u8 q3, .int .i64 q4, .int .i64 q5] 32)).alloc (.cells #[.int .i64 0, .int .i64 0, .int .u8 0, .int .i64 0, .int .i64 0] 32)).drew.drew) := ((((Mod.refl _ w).alloc _).alloc _).drew).drew
  exact ⟨rfl, mod_setBlock hMm hm1 (.inl rfl), blk_setBlock_other (w := ((w.alloc _).alloc _).drew.drew) hb1 (Ne.symm hne), _, _, blk_setBlock (w := ((w.alloc _).alloc _).drew.drew) hm1, hpush⟩

set_option maxRecDepth 100000 in
set_option maxHeartbeats 1000000 in
theorem head_ok (p pm : Nat) (cum : Int) (l : List (Int × Op)) (w : World) (h : InAt w p pm cum l 148) (hc0 : 0 ≤ cum) (hc1 : cum ≤ 4096) :
    Calls Tryz.prog 89 #[.pointer (some ⟨p, 0, none⟩)] w fun e w' => e = .returned (.tuple #[((findH (cum + 1) l).getD Op.zero).v, .bool (findH (cum + 1) l).isSome]) ∧ Mod No w w' := by
  obtain ⟨hb, es, ck, hm, hok⟩ := h
  have hb0 := blk_alloc hb (.cells #[.int .i64 0, .int .i64 0, .int .u8 0, .int .i64 0, .int .i64 0] 32)
  have hm0 := blk_alloc hm (.cells #[.int .i64 0, .int .i64 0, .int .u8 0, .int .i64 0, .int .i64 0] 32)
  have hC := blk_at hb0
  obtain ⟨F, hF⟩ : ∃ F, (findH (cum + 1) l).getD Op.zero = F := ⟨_, rfl⟩
  obtain ⟨S, hS⟩ : ∃ S, (findH (cum + 1) l).isSome = S := ⟨_, rfl⟩
  rw [hF, hS]
  obtain ⟨f1, f2, f3, f4, f5⟩ := F
  simp only [Op.v]
  have hZ0 := blk_alloc (blk_new w (.cells #[.int .i64 0, .int .i64 0, .int .u8 0, .int .i64 0, .int .i64 0] 32) rfl) (.cells #[.int .i64 f1, .int .i64 f2, .int .u8 f3, .int .i64 f4, .int .i64 f5] 32)
  have hX0 := blk_new (w.alloc (.cells #[.int .i64 0, .int .i64 0, .int .u8 0, .int .i64 0, .int .i64 0] 32)) (.cells #[.int .i64 f1, .int .i64 f2, .int .u8 f3, .int .i64 f4, .int .i64 f5] 32) (b := w.heap.size + 1) (by simp)
  have hQZ := blk_at hZ0
  have hFZ := blk_free hZ0
  have hQX := blk_at hX0
  go_enter Tryz.func89, Tryz.ntmps89
  go_wp2
  have hm1 := blk_alloc hm0 (.cells #[.int .i64 0, .int .i64 0, .int .u8 0, .int .i64 0, .int .i64 0] 32)
  have hZ1 := blk_alloc (blk_new w (.cells #[.int .i64 0, .int .i64 0, .int .u8 0, .int .i64 0, .int .i64 0] 32) rfl) (.cells #[.int .i64 0, .int .i64 0, .int .u8 0, .int .i64 0, .int .i64 0] 32)
  have hX1 := blk_new (w.alloc (.cells #[.int .i64 0, .int .i64 0, .int .u8 0, .int .i64 0, .int .i64 0] 32)) (.cells #[.int .i64 0, .int .i64 0, .int .u8 0, .int .i64 0, .int .i64 0] 32) (b := w.heap.size + 1) (by simp)
  have hQX1 := blk_at hX1
  have hFX1 := blk_free hX1
  have hFin : ∀ o, ((w.alloc (.cells #[.int .i64 f1, .int .i64 f2, .int .u8 f3, .int .i64 f4, .int .i64 f5] 32)).alloc o).heap[w.heap.size]? = some (.cells #[.int .i64 f1, .int .i64 f2, .int .u8 f3, .int .i64 f4, .int .i64 f5] 32 (0, 0)) := fun o => blk_alloc (blk_new _ _ rfl) _
  refine wp_region_fork ([0, 1, 2, 3, 4, 5, 6, 7, 8].map (·, false)) 7 #[true, true, true, true, true, true, true, true, true, false, false, false, false, false, false, false] (by kernel_rfl) (by kernel_rfl) (by kernel_rfl) (by kernel_rfl) ?_
  simp only [List.map_cons, List.map_nil, List.filterMap_cons, List.filterMap_nil, pick, List.getElem?_toArray, List.getElem?_cons_zero, List.getElem?_cons_succ, Option.map_some]
  refine wpSeg_rest [_, _, _, _, _, _, _, _, _] ?_
  go_wp2
  refine ⟨rfl, by kernel_rfl, fun hd => ?_⟩
  refine wpAnyL_fork2 9 13 false false [(10, false), (11, false), (12, false), (13, false), (14, false), (15, false)] [(9, false), (10, false), (11, false), (12, false), (14, false), (15, false)] 0 0 #[true, true, true, true, true, true, true, true, true, true, true, true, true, true, true, true] #[true, true, true, true, true, true, true, true, true, true, true, true, true, true, true, true] (by kernel_rfl) (by kernel_rfl) hd (by decide) (by decide) (by kernel_rfl) (by kernel_rfl) (by kernel_rfl) (by kernel_rfl) (by kernel_rfl) ?_ ?_
  · simp only [List.map_cons, List.map_nil, List.filterMap_cons, List.filterMap_nil, pick, List.getElem?_toArray, List.getElem?_cons_zero, List.getElem?_cons_succ, Option.map_some]
    refine wpSeg_rest [_, _, _, _, _, _, _] ?_
    go_wp2_with (refine wpList_lookup_h (l := l) rfl _ _ rfl Tryz.underlying146 Tryz.underlying3 (zero_Op _) rfl hm0 hok (cum + 1) rfl ?_; rw [hF, hS]; simp only [Op.v])
    refine ⟨rfl, by kernel_rfl, fun _ => wpAnyL_done (by kernel_rfl) ⟨rfl, ?_⟩⟩
    go_wp2
    have hQ9 := blk_at (hFin (.cells #[.int .i64 f1, .int .i64 f2, .int .u8 f3, .int .i64 f4, .int .i64 f5] 32))
    have hF9 := blk_free (hFin (.cells #[.int .i64 f1, .int .i64 f2, .int .u8 f3, .int .i64 f4, .int .i64 f5] 32))
    refine bodyPost_ret (v := .tuple #[.agg #[.int .i64 f1, .int .i64 f2, .int .u8 f3, .int .i64 f4, .int .i64 f5], .bool S]) (by simp [results, Tryz.results89, go_sem, hQ9, hF9]) rfl ⟨rfl, (((Mod.refl No w).alloc _).alloc _).drew⟩
  · simp only [List.map_cons, List.map_nil, List.filterMap_cons, List.filterMap_nil, pick, List.getElem?_toArray, List.getElem?_cons_zero, List.getElem?_cons_succ, Option.map_some]
    refine wpSeg_rest [_, _, _, _, _, _, _] ?_
    go_wp2_with (refine wpList_lookup_h (l := l) rfl _ _ rfl Tryz.underlying146 Tryz.underlying3 (zero_Op _) rfl hm1 hok (cum + 1) rfl ?_; rw [hF, hS]; simp only [Op.v])
    refine ⟨rfl, by kernel_rfl, fun _ => wpAnyL_done (by kernel_rfl) ⟨rfl, ?_⟩⟩
    go_wp2
    have hQ9 := blk_at (hFin (.cells #[.int .i64 f1, .int .i64 f2, .int .u8 f3, .int .i64 f4, .int .i64 f5] 32))
    have hF9 := blk_free (hFin (.cells #[.int .i64 f1, .int .i64 f2, .int .u8 f3, .int .i64 f4, .int .i64 f5] 32))
    refine bodyPost_ret (v := .tuple #[.agg #[.int .i64 f1, .int .i64 f2, .int .u8 f3, .int .i64 f4, .int .i64 f5], .bool S]) (by simp [results, Tryz.results89, go_sem, hQ9, hF9]) rfl ⟨rfl, (((Mod.refl No w).alloc _).alloc _).drew⟩

set_option maxRecDepth 100000 in
set_option maxHeartbeats 1000000 in
theorem toss_ok (p pm : Nat) (cum : Int) (l : List (Int × Op)) (op : Op) (w : World) (h : InAt w p pm cum l 148) (hne : pm ≠ p) (hc0 : 0 ≤ cum) (hc1 : cum ≤ 4096) (hn : findH (cum + 1) l = some op) :
    Calls Tryz.prog 90 #[.pointer (some ⟨p, 0, none⟩)] w fun e w' => e = .returned (.int .i64 0) ∧ Mod (fun b => b = pm) w w' ∧ InAt w' p pm cum (delH (cum + 1) l) 148 := by
  have hh := head_ok p pm cum l w h hc0 hc1
  rw [hn] at hh
  obtain ⟨q1, q2, q3, q4, q5⟩ := op
  simp only [Option.getD_some, Option.isSome_some, Op.v] at hh
  go_enter Tryz.func90, Tryz.ntmps90
  go_upto_region 4 with (go_at_call 89; refine hh.mono ?_; rintro e w1 ⟨rfl, hm1⟩)
  obtain ⟨hb, es, ck, hm, hok⟩ := h
  have hM2 : Mod No w (w1.alloc (.cells #[.int .i64 q1, .int .i64 q2, .int .u8 q3, .int .i64 q4, .int .i64 q5] 32)) := hm1.alloc _
  have hb2 := hM2.heap hb (fun h => h)
  have hm2 := hM2.heap hm (fun h => h)
  have hC2 := blk_at hb2
  refine wp_region_text (by kernel_rfl) (by kernel_rfl) (by kernel_rfl) (by kernel_rfl) ?_
  go_wp2_with (refine wpList_delete_h (l := l) rfl _ _ rfl Tryz.underlying146 Tryz.underlying3 rfl hm2 hok (cum + 1) rfl _ hn ?_)
  refine ⟨rfl, by kernel_rfl, ?_⟩
  go_wp2
  go_ret
  exact ⟨rfl, mod_setBlock (Mod.of hM2).drew hm2 (.inl rfl), blk_setBlock_other (w := (w1.alloc _).drew) hb2 (Ne.symm hne), _, _, blk_setBlock (w := (w1.alloc _).drew) hm2, hok.erase _⟩

set_option maxRecDepth 100000 in
set_option maxHeartbeats 1000000 in
theorem pop_ok (p pm : Nat) (cum : Int) (l : List (Int × Op)) (op : Op) (w : World) (h : InAt w p pm cum l 148) (hne : pm ≠ p) (hc0 : 0 ≤ cum) (hc1 : cum ≤ 4096) (hn : findH (cum + 1) l = some op) :
    Calls Tryz.prog 91 #[.pointer (some ⟨p, 0, none⟩)] w fun e w' => e = .returned (.int .i64 0) ∧ Mod (fun b => b = p ∨ b = pm) w w' ∧ InAt w' p pm (cum + 1) (delH (cum + 1) l) 148 := by
  have ht := toss_ok p pm cum l op w h hne hc0 hc1 hn
  clear h hn
  go_enter Tryz.func91, Tryz.ntmps91
  go_wp2_with (go_at_call 90; refine ht.mono ?_; rintro e w1 ⟨rfl, hm1, hb1, es1, ck1, hmm1, hok1⟩; have hC1 := blk_at hb1; have hF1 := blk_free hb1)
  go_ret
  exact ⟨rfl, mod_setO (hm1.mono (fun b _ h => .inr h)) (.inl (.inl rfl)), blk_set hb1 1 _, es1, ck1, blk_set_other hmm1 (by dsimp only; omega) _, hok1⟩
end Go.Proofs.YtjojhfphlnfimaaGreatDoor.J
