/- What can be seen of a client: Doc, Pending, View. -/
import Derived.Test.YtjojhfphlnfimaaGreatDoorIns
namespace Go.Proofs.YtjojhfphlnfimaaGreatDoor.J
open Go Go.RowKit
set_option linter.unusedSimpArgs false
set_option linter.unusedVariables false

theorem Mod.old {w w' : World} (h : Mod No w w') : Old w w' := fun b hb => h.block b hb (fun hf => hf)

set_option maxRecDepth 100000 in
set_option maxHeartbeats 1000000 in
theorem doc_ok (p : Nat) (m : ClM) (c : Cl) (col : Nat → Nat) (t : Nat) (w : World) (hc : ClAt w p m c col t) (hn : c.text.length ≤ 4096) :
    Calls Tryz.prog 14 #[.pointer (some ⟨p, 0, none⟩)] w fun e w' => ∃ A d, e = .returned (.slice A c.text.length d) ∧ Mod No w w' ∧ Own kElem 95 w' A c.text.length d c.text (fun b => w.heap.size ≤ b) := by
  have hC := blk_at hc.hp
  simp only [clCells] at hC
  obtain ⟨i, hi1, hi2, hi3, hi4⟩ := info_parts Tryz.infoElem
  go_enter Tryz.func14, Tryz.ntmps14
  go_wp2_with (at_builtin; refine wpList_append_l (k := kElem) (T := 95) w.heap.size rfl _ _ _ rfl i _ Tryz.underlying35 hi1 hi2 hi3 rfl rfl rfl (Nat.le_refl _) (Own.nil _ _ _ _) hc.ht.rd (by unfold maxLen; omega) (by rw [hi4]; omega) ?_; intro A1 c1 w1 hO hm _; rw [Nat.zero_add, List.nil_append] at hO)
  go_ret
  exact ⟨A1, c1, by simp, (Mod.refl No w).own hm (Nat.le_refl _), hO⟩

set_option maxRecDepth 100000 in
set_option maxHeartbeats 1000000 in
theorem pending_ok (p : Nat) (m : ClM) (c : Cl) (col : Nat → Nat) (t : Nat) (w : World) (hc : ClAt w p m c col t) (hn : c.pending.length ≤ 4096) :
    Calls Tryz.prog 20 #[.pointer (some ⟨p, 0, none⟩)] w fun e w' => ∃ A d, e = .returned (.slice A c.pending.length d) ∧ Mod No w w' ∧ Own kEdit 60 w' A c.pending.length d c.pending (fun b => w.heap.size ≤ b) := by
  have hC := blk_at hc.hp
  simp only [clCells] at hC
  obtain ⟨i, hi1, hi2, hi3, hi4⟩ := info_parts Tryz.infoEdit
  go_enter Tryz.func20, Tryz.ntmps20
  go_wp2_with (at_builtin; refine wpList_append_l (k := kEdit) (T := 60) w.heap.size rfl _ _ _ rfl i _ Tryz.underlying36 hi1 hi2 hi3 rfl rfl rfl (Nat.le_refl _) (Own.nil _ _ _ _) hc.he.rd (by unfold maxLen; omega) (by rw [hi4]; omega) ?_; intro A1 c1 w1 hO hm _; rw [Nat.zero_add, List.nil_append] at hO)
  go_ret
  exact ⟨A1, c1, by simp, (Mod.refl No w).own hm (Nat.le_refl _), hO⟩

theorem open_out (w : World) : Calls Tryz.prog 139 #[.agg #[]] w fun e w' => e = .returned (.bool false) ∧ Mod No w w' := by
  go_enter Tryz.func139, Tryz.ntmps139
  go_wp2
  go_ret
  exact ⟨rfl, (Mod.refl _ _).alloc _⟩

theorem method_open_out (n : Nat) (w : World) : (method (n + 1) 114 (.agg #[]) "jotter/client.open").run Tryz.prog w = .ok (139, .agg #[]) w := by kernel_rfl

set_option maxRecDepth 100000 in
set_option maxHeartbeats 2000000 in
theorem view_out (p : Nat) (m : ClM) (c : Cl) (col : Nat → Nat) (t : Nat) (w : World) (hc : ClAt w p m c col t) (hn : c.text.length ≤ 4096) (hpn : c.pending.length ≤ 4096) (hph : c.ph = .iface 114 (.agg #[])) :
    Calls Tryz.prog 11 #[.pointer (some ⟨p, 0, none⟩)] w fun e w' => ∃ A d B b, e = .returned (.agg #[.int .i64 c.id, .int .i64 c.epoch, .bool false, .int .i64 c.made, .int .i64 c.hav, .slice A c.text.length d, .slice B c.pending.length b]) ∧ Mod No w w' ∧
      Own kElem 95 w' A c.text.length d c.text (fun b => w.heap.size ≤ b) ∧ Own kEdit 60 w' B c.pending.length b c.pending (fun b => w.heap.size ≤ b) := by
  have hC := blk_at hc.hp
  simp only [clCells, hph] at hC
  have hplt := blk_lt hc.hp
  clear hph
  have hmo := method_open_out
  go_enter Tryz.func11, Tryz.ntmps11
  go_wp2
  refine wp_region_seg ([0, 1, 2, 3, 4, 5, 6, 7, 8, 9, 10, 11, 13, 14, 15, 16, 17, 18, 19, 20, 21, 23].map (·, false) ++ [(12, true), (22, true), (24, true), (25, false), (26, false)]) (by kernel_rfl) (by kernel_rfl) (by kernel_rfl) (by kernel_rfl) ?_
  simp only [List.map_cons, List.map_nil, List.cons_append, List.nil_append, List.filterMap_cons, List.filterMap_nil, pick, List.getElem?_toArray, List.getElem?_cons_zero, List.getElem?_cons_succ, Option.map_some]
  refine wpSeg_cut (fun e a w h => h.1) [_, _, _, _, _, _, _, _, _, _, _, _, _, _, _, _, _, _, _, _, _, _] _ _ _ ?_
  go_wp2
  refine wpSeg_mark rfl ?_
  go_wp2_with (go_at_call 139; refine (open_out _).mono ?_; rintro e w1 ⟨rfl, hm1⟩; refine ⟨hm1.old, ?_⟩)
  have hM1 : Mod No w w1 := ((Mod.refl No w).alloc _).drew.then0 hm1
  refine wpSeg_mark rfl ?_
  go_wp2_with (go_at_call 14; refine (doc_ok p m c col t _ (hc.keep0 hM1) hn).mono ?_; rintro e w2 ⟨A, d, rfl, hm2, hO2⟩; refine ⟨hm2.old, ?_⟩)
  refine wpSeg_mark rfl ?_
  go_wp2_with (go_at_call 20; refine (pending_ok p m c col t _ (hc.keep0 (hM1.then0 hm2)) hpn).mono ?_; rintro e w3 ⟨B, b, rfl, hm3, hO3⟩; refine ⟨hm3.old, ?_⟩)
  have hR1 := hm1.heap (b := w.heap.size) (blk_new _ _ rfl) (fun h => h)
  have hR3 := hm3.heap (hm2.heap hR1 (fun h => h)) (fun h => h)
  have hQ3 := blk_at hR3
  have hQf := blk_free hR3
  refine wpSeg_rest [_, _] ?_
  go_wp2
  refine ⟨rfl, by kernel_rfl, ?_⟩
  go_wp2
  have l1 : w.heap.size + 1 ≤ w1.heap.size := by have := hm1.size; simpa using this
  have l2 : w1.heap.size ≤ w2.heap.size := hm2.size
  refine bodyPost_ret (v := .agg #[.int .i64 c.id, .int .i64 c.epoch, .bool false, .int .i64 c.made, .int .i64 c.hav, .slice A c.text.length d, .slice B c.pending.length b]) (by simp [results, Tryz.results11, go_sem, hQ3, hQf]) rfl ⟨A, d, B, b, rfl, ?_, ?_, ?_⟩
  · have r0 : No w.heap.size ∨ w.heap.size ≤ w.heap.size := .inr (Nat.le_refl _)
    exact mod_set (mod_set (mod_set (mod_set (mod_set (mod_set (mod_set ((hM1.then0 hm2).then0 hm3) r0) r0) r0) r0) r0) r0) r0
  · have r0 : (fun b => b = w.heap.size) w.heap.size ∨ w3.heap.size ≤ w.heap.size := .inl rfl
    exact (((hO2.mod0 hm3).mod (mod_set (mod_set (mod_set (mod_set (mod_set (mod_set (mod_set (Mod.refl _ w3) r0) r0) r0) r0) r0) r0) r0) (fun b _ h1 h2 => by omega))).mono (fun b _ h => by omega)
  · have r0 : (fun b => b = w.heap.size) w.heap.size ∨ w3.heap.size ≤ w.heap.size := .inl rfl
    exact (hO3.mod (mod_set (mod_set (mod_set (mod_set (mod_set (mod_set (mod_set (Mod.refl _ w3) r0) r0) r0) r0) r0) r0) r0) (fun b _ h1 h2 => by omega)).mono (fun b _ h => by omega)
end Go.Proofs.YtjojhfphlnfimaaGreatDoor.J
