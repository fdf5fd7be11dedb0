/- What can be seen of the client; joined. -/
import Derived.Test.YtjojhfphlnfimaaGreatDoorTold
import Derived.Test.YtjojhfphlnfimaaGreatDoorView
namespace Go.Proofs.YtjojhfphlnfimaaGreatDoor.J
open Go Go.RowKit
set_option linter.unusedSimpArgs false
set_option linter.unusedVariables false

set_option maxRecDepth 100000 in
set_option maxHeartbeats 1000000 in
theorem doc_oc (p po pi pm ps : Nat) (o : Oc) (cum : Int) (l : List (Int × Op)) (R : List Value) (w : World) (h : OcAt w p po pi pm ps o cum l R) (hn : o.text.length ≤ 4096) :
    Calls Tryz.prog 14 #[.pointer (some ⟨p, 0, none⟩)] w fun e w' => ∃ A d, e = .returned (.slice A o.text.length d) ∧ Mod No w w' ∧ Own kElem 95 w' A o.text.length d o.text (fun b => w.heap.size ≤ b) := by
  have hC := blk_at h.hp
  have hT := h.ht
  obtain ⟨ph, ep, hav, base, tA, tc, text, s2⟩ := o
  unfold ocL at hC
  dsimp only at hC hT hn ⊢
  obtain ⟨i, hi1, hi2, hi3, hi4⟩ := info_parts Tryz.infoElem
  clear h
  go_enter Tryz.func14, Tryz.ntmps14
  go_wp2_with (at_builtin; refine wpList_append_l (k := kElem) (T := 95) w.heap.size rfl _ _ _ rfl i _ Tryz.underlying35 hi1 hi2 hi3 rfl rfl rfl (Nat.le_refl _) (Own.nil _ _ _ _) hT (by unfold maxLen; omega) (by rw [hi4]; omega) ?_; intro A1 c1 w1 hO hm _; rw [Nat.zero_add, List.nil_append] at hO)
  go_ret
  exact ⟨A1, c1, by simp, (Mod.refl No w).own hm (Nat.le_refl _), hO⟩

set_option maxRecDepth 100000 in
set_option maxHeartbeats 1000000 in
theorem pending_oc (p po pi pm ps : Nat) (o : Oc) (cum : Int) (l : List (Int × Op)) (R : List Value) (w : World) (h : OcAt w p po pi pm ps o cum l R) :
    Calls Tryz.prog 20 #[.pointer (some ⟨p, 0, none⟩)] w fun e w' => ∃ A d, e = .returned (.slice A 0 d) ∧ Mod No w w' := by
  have hC := blk_at h.hp
  obtain ⟨ph, ep, hav, base, tA, tc, text, s2⟩ := o
  unfold ocL at hC
  dsimp only at hC
  obtain ⟨i, hi1, hi2, hi3, hi4⟩ := info_parts Tryz.infoEdit
  clear h
  go_enter Tryz.func20, Tryz.ntmps20
  go_wp2_with (at_builtin; refine wpList_append_l (k := kEdit) (T := 60) w.heap.size rfl _ _ _ rfl i _ Tryz.underlying36 hi1 hi2 hi3 rfl rfl rfl (Nat.le_refl _) (Own.nil _ _ _ _) (Rd.nil _ _) (by unfold maxLen; omega) (by rw [hi4]; omega) ?_; intro A1 c1 w1 hO hm _)
  go_ret
  exact ⟨⟨A1, c1, rfl⟩, (Mod.refl No w).own hm (Nat.le_refl _)⟩

theorem open_joined (w : World) : Calls Tryz.prog 141 #[.agg #[]] w fun e w' => e = .returned (.bool true) ∧ Mod No w w' := by
  go_enter Tryz.func141, Tryz.ntmps141
  go_wp2
  go_ret
  exact ⟨rfl, (Mod.refl _ _).alloc _⟩
theorem method_open_joined (n : Nat) (w : World) : (method (n + 1) 136 (.agg #[]) "jotter/client.open").run Tryz.prog w = .ok (141, .agg #[]) w := by kernel_rfl

set_option maxRecDepth 100000 in
set_option maxHeartbeats 2000000 in
theorem view_joined (p po pi pm ps : Nat) (o : Oc) (cum : Int) (l : List (Int × Op)) (R : List Value) (w : World) (h : OcAt w p po pi pm ps o cum l R) (hn : o.text.length ≤ 4096) (hph : o.ph = .iface 136 (.agg #[])) :
    Calls Tryz.prog 11 #[.pointer (some ⟨p, 0, none⟩)] w fun e w' => ∃ A d B b, e = .returned (.agg #[.int .i64 1, .int .i64 o.ep, .bool true, .int .i64 0, .int .i64 o.hav, .slice A o.text.length d, .slice B 0 b]) ∧ Mod No w w' := by
  have hC := blk_at h.hp
  have hdo := fun w' (h' : OcAt w' p po pi pm ps o cum l R) => doc_oc p po pi pm ps o cum l R w' h' hn
  have hpe := fun w' (h' : OcAt w' p po pi pm ps o cum l R) => pending_oc p po pi pm ps o cum l R w' h'
  have HH := Lib.hid h
  have hplt := blk_lt h.hp
  clear h
  obtain ⟨ph, ep, hav, base, tA, tc, text, s2⟩ := o
  dsimp only at hph hdo ⊢
  subst hph
  unfold ocL at hC
  dsimp only at hC
  have hmo := method_open_joined
  go_enter Tryz.func11, Tryz.ntmps11
  go_wp2
  refine wp_region_seg ([0, 1, 2, 3, 4, 5, 6, 7, 8, 9, 10, 11, 13, 14, 15, 16, 17, 18, 19, 20, 21, 23].map (·, false) ++ [(12, true), (22, true), (24, true), (25, false), (26, false)]) (by kernel_rfl) (by kernel_rfl) (by kernel_rfl) (by kernel_rfl) ?_
  simp only [List.map_cons, List.map_nil, List.cons_append, List.nil_append, List.filterMap_cons, List.filterMap_nil, pick, List.getElem?_toArray, List.getElem?_cons_zero, List.getElem?_cons_succ, Option.map_some]
  refine wpSeg_cut (fun e a w h => h.1) [_, _, _, _, _, _, _, _, _, _, _, _, _, _, _, _, _, _, _, _, _, _] _ _ _ ?_
  go_wp2
  refine wpSeg_mark rfl ?_
  go_wp2_with (go_at_call 141; refine (open_joined _).mono ?_; rintro e w1 ⟨rfl, hm1⟩; refine ⟨hm1.old, ?_⟩)
  have hM1 : Mod No w w1 := ((Mod.refl No w).alloc _).drew.then0 hm1
  refine wpSeg_mark rfl ?_
  go_wp2_with (go_at_call 14; refine (hdo _ (HH.out.mod0 hM1)).mono ?_; rintro e w2 ⟨A, d, rfl, hm2, hO2⟩; refine ⟨hm2.old, ?_⟩)
  refine wpSeg_mark rfl ?_
  go_wp2_with (go_at_call 20; refine (hpe _ (HH.out.mod0 (hM1.then0 hm2))).mono ?_; rintro e w3 ⟨B, b, rfl, hm3⟩; refine ⟨hm3.old, ?_⟩)
  have hR1 := hm1.heap (b := w.heap.size) (blk_new _ _ rfl) (fun h => h)
  have hR3 := hm3.heap (hm2.heap hR1 (fun h => h)) (fun h => h)
  have hQ3 := blk_at hR3
  have hQf := blk_free hR3
  refine wpSeg_rest [_, _] ?_
  go_wp2
  refine ⟨rfl, by kernel_rfl, ?_⟩
  go_wp2
  refine bodyPost_ret (v := .agg #[.int .i64 1, .int .i64 ep, .bool true, .int .i64 0, .int .i64 hav, .slice A text.length d, .slice B 0 b]) (by simp [results, Tryz.results11, go_sem, hQ3, hQf]) rfl ⟨A, d, B, b, rfl, ?_⟩
  have r0 : No w.heap.size ∨ w.heap.size ≤ w.heap.size := .inr (Nat.le_refl _)
  exact mod_set (mod_set (mod_set (mod_set (mod_set (mod_set (mod_set ((hM1.then0 hm2).then0 hm3) r0) r0) r0) r0) r0) r0) r0
end Go.Proofs.YtjojhfphlnfimaaGreatDoor.J
