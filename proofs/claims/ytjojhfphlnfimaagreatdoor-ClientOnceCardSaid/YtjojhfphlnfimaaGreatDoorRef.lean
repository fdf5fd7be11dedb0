/- What a client that makes no edit refuses. -/
import Derived.Test.YtjojhfphlnfimaaGreatDoorOc
namespace Go.Proofs.YtjojhfphlnfimaaGreatDoor.J
open Go Go.RowKit
set_option linter.unusedSimpArgs false
set_option linter.unusedVariables false

set_option maxRecDepth 100000 in
set_option maxHeartbeats 4000000 in
theorem refused4 (p po pi pm ps : Nat) (o : Oc) (cum : Int) (l : List (Int × Op)) (R : List Value) (m : Msg) (w : World) (h : OcAt w p po pi pm ps o cum l R)
    (hk : m.kind = 4) (hc : m.client = 1) (he : m.epoch = 1) (hep : o.ep ≤ 1) :
    Calls Tryz.prog 56 #[.pointer (some ⟨p, 0, none⟩), m.v] w fun e w' => e = .returned (.int .i64 0) ∧ Mod No w w' := by
  obtain ⟨k, mep, mcl, hv, fi, nu, ac, re, ta, ⟨ok, op, oc, ol, os⟩⟩ := m
  dsimp only at hk hc he
  subst hk hc he
  simp only [Msg.v]
  have hP := h.hp
  obtain ⟨ph, ep, hav, base, tA, tc, text, s2⟩ := o
  unfold ocL at hP
  dsimp only at hP hep
  clear h
  have hA0 : (w.alloc (.cells #[.int .i64 4, .int .i64 1, .int .i64 1, .int .i64 hv, .int .i64 fi, .int .i64 nu, .int .i64 ac, .int .i64 re, .int .i64 ta, .int .i64 ok, .int .i64 op, .int .u8 oc, .int .i64 ol, .int .i64 os] 34)).heap[w.heap.size]? = some (.cells #[.int .i64 4, .int .i64 1, .int .i64 1, .int .i64 hv, .int .i64 fi, .int .i64 nu, .int .i64 ac, .int .i64 re, .int .i64 ta, .int .i64 ok, .int .i64 op, .int .u8 oc, .int .i64 ol, .int .i64 os] 34 (0, 0)) := blk_new _ _ rfl
  have hP0 := blk_alloc hP (.cells #[.int .i64 4, .int .i64 1, .int .i64 1, .int .i64 hv, .int .i64 fi, .int .i64 nu, .int .i64 ac, .int .i64 re, .int .i64 ta, .int .i64 ok, .int .i64 op, .int .u8 oc, .int .i64 ol, .int .i64 os] 34)
  have hQA := blk_at hA0
  have hQP := blk_at hP0
  have hd : decide ((1 : Int) < ep) = false := by simp; omega
  clear hP
  go_enter Tryz.func56, Tryz.ntmps56
  go_upto_region 3 with (fail)
  refine wp_region_text (by kernel_rfl) (by kernel_rfl) (by kernel_rfl) (by kernel_rfl) ?_
  go_wp2
  refine ⟨rfl, by kernel_rfl, ?_⟩
  go_upto_region 5 with (fail)
  refine wp_region_text (by kernel_rfl) (by kernel_rfl) (by kernel_rfl) (by kernel_rfl) ?_
  go_wp2
  refine ⟨rfl, by kernel_rfl, ?_⟩
  go_wp2
  go_ret
  exact ⟨rfl, ((((Mod.refl No w).alloc _).drew).drew)⟩

set_option maxRecDepth 100000 in
set_option maxHeartbeats 4000000 in
theorem refused6 (p po pi pm ps : Nat) (o : Oc) (cum : Int) (l : List (Int × Op)) (R : List Value) (m : Msg) (w : World) (h : OcAt w p po pi pm ps o cum l R)
    (hk : m.kind = 6) (hc : m.client = 1) (he : m.epoch = 1) (hep : o.ep = 1) (ha : m.ack = 0) :
    Calls Tryz.prog 56 #[.pointer (some ⟨p, 0, none⟩), m.v] w fun e w' => e = .returned (.int .i64 0) ∧ Mod No w w' := by
  obtain ⟨k, mep, mcl, hv, fi, nu, ac, re, ta, ⟨ok, op, oc, ol, os⟩⟩ := m
  dsimp only at hk hc he ha
  subst hk hc he ha
  simp only [Msg.v]
  have hP := h.hp
  have hO := h.ho
  obtain ⟨ph, ep, hav, base, tA, tc, text, s2⟩ := o
  unfold ocL at hP
  dsimp only at hP hep
  subst hep
  clear h
  have hA0 : (w.alloc (.cells #[.int .i64 6, .int .i64 1, .int .i64 1, .int .i64 hv, .int .i64 fi, .int .i64 nu, .int .i64 0, .int .i64 re, .int .i64 ta, .int .i64 ok, .int .i64 op, .int .u8 oc, .int .i64 ol, .int .i64 os] 34)).heap[w.heap.size]? = some (.cells #[.int .i64 6, .int .i64 1, .int .i64 1, .int .i64 hv, .int .i64 fi, .int .i64 nu, .int .i64 0, .int .i64 re, .int .i64 ta, .int .i64 ok, .int .i64 op, .int .u8 oc, .int .i64 ol, .int .i64 os] 34 (0, 0)) := blk_new _ _ rfl
  have hP0 := blk_alloc hP (.cells #[.int .i64 6, .int .i64 1, .int .i64 1, .int .i64 hv, .int .i64 fi, .int .i64 nu, .int .i64 0, .int .i64 re, .int .i64 ta, .int .i64 ok, .int .i64 op, .int .u8 oc, .int .i64 ol, .int .i64 os] 34)
  have hO0 := blk_alloc hO (.cells #[.int .i64 6, .int .i64 1, .int .i64 1, .int .i64 hv, .int .i64 fi, .int .i64 nu, .int .i64 0, .int .i64 re, .int .i64 ta, .int .i64 ok, .int .i64 op, .int .u8 oc, .int .i64 ol, .int .i64 os] 34)
  have hQA := blk_at hA0
  have hQP := blk_at hP0
  clear hP hO
  obtain ⟨w1, hw1⟩ : ∃ w1, w1 = w.alloc (.cells #[.int .i64 6, .int .i64 1, .int .i64 1, .int .i64 hv, .int .i64 fi, .int .i64 nu, .int .i64 0, .int .i64 re, .int .i64 ta, .int .i64 ok, .int .i64 op, .int .u8 oc, .int .i64 ol, .int .i64 os] 34) := ⟨_, rfl⟩
  go_enter Tryz.func56, Tryz.ntmps56
  go_upto_region 3 with (fail)
  refine wp_region_text (by kernel_rfl) (by kernel_rfl) (by kernel_rfl) (by kernel_rfl) ?_
  go_wp2
  refine ⟨rfl, by kernel_rfl, ?_⟩
  go_upto_region 5 with (fail)
  refine wp_region_text (by kernel_rfl) (by kernel_rfl) (by kernel_rfl) (by kernel_rfl) ?_
  go_wp2
  refine ⟨rfl, by kernel_rfl, ?_⟩
  go_upto_region 9 with (fail)
  refine wp_region_seg ([0, 1, 2, 3, 4, 5, 6].map (·, false) ++ [(7, true), (8, false), (9, false)]) (by kernel_rfl) (by kernel_rfl) (by kernel_rfl) (by kernel_rfl) ?_
  simp only [List.map_cons, List.map_nil, List.cons_append, List.nil_append, List.filterMap_cons, List.filterMap_nil, pick, List.getElem?_toArray, List.getElem?_cons_zero, List.getElem?_cons_succ, Option.map_some]
  refine wpSeg_cut (fun e a w h => h.1) [_, _, _, _, _, _, _] _ _ _ ?_
  go_wp2
  refine wpSeg_mark rfl ?_
  go_wp2_with (go_at_call 84; refine (sent_0 po _ _ _ _ _ ((w.alloc (.cells #[.int .i64 6, .int .i64 1, .int .i64 1, .int .i64 hv, .int .i64 fi, .int .i64 nu, .int .i64 0, .int .i64 re, .int .i64 ta, .int .i64 ok, .int .i64 op, .int .u8 oc, .int .i64 ol, .int .i64 os] 34)).drew.drew.drew) hO0).mono ?_; rintro e w2 ⟨rfl, rfl⟩; refine ⟨Old.refl _, ?_⟩)
  refine wpSeg_rest [_, _] ?_
  go_wp2
  refine ⟨rfl, by kernel_rfl, ?_⟩
  go_wp2
  go_ret
  exact ⟨rfl, (((Mod.refl No w).alloc _).drew).drew.drew⟩
end Go.Proofs.YtjojhfphlnfimaaGreatDoor.J
