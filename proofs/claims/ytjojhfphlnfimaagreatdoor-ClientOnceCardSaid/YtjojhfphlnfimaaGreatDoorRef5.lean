/- .. of records. -/
import Derived.Test.YtjojhfphlnfimaaGreatDoorRef
namespace Go.Proofs.YtjojhfphlnfimaaGreatDoor.J
open Go Go.RowKit
set_option linter.unusedSimpArgs false
set_option linter.unusedVariables false

set_option maxRecDepth 100000 in
set_option maxHeartbeats 4000000 in
theorem refused5 (p po pi pm ps : Nat) (o : Oc) (cum : Int) (l : List (Int × Op)) (R : List Value) (m : Msg) (w : World) (h : OcAt w p po pi pm ps o cum l R)
    (hk : m.kind = 5) (hc : m.client = 1) (he : m.epoch = 1) (hep : o.ep = 1) (ha : m.ack = 0) (hb : o.base = 0) (hrev : m.rev = m.num) (hn1 : 1 ≤ m.num) (hn2 : m.num ≤ 4096) (hc0 : 0 ≤ cum) (hc1 : cum ≤ 4096)
    (hacc : m.num = cum + 1 → m.op.wf ∧ validE m.op = 0 ∧ m.op.client = 2 ∧ m.op.seq = o.s2 + 1 ∧ 0 ≤ o.s2 ∧ o.s2 ≤ 4096 ∧ fitsE o.text.length m.op = 0) (fe : Int) (hfe : Hid (fe = if m.num > cum + 8 then 93 else 0)) :
    Calls Tryz.prog 56 #[.pointer (some ⟨p, 0, none⟩), m.v] w fun e w' => e = .returned (.int .i64 fe) ∧ Mod No w w' := by
  have hac2 := fun (h9 : m.num = cum + 1) w' (h' : OcAt w' p po pi pm ps o cum l R) => accepts_ok p po pi pm ps o cum l R m.op w' h' (hacc h9).1 (hacc h9).2.1 (hacc h9).2.2.1 (hacc h9).2.2.2.1 (hacc h9).2.2.2.2.1 (hacc h9).2.2.2.2.2.1 (hacc h9).2.2.2.2.2.2
  clear hacc
  obtain ⟨k, mep, mcl, hv, fi, nu, ac, re, ta, ⟨ok, op, oc, ol, os⟩⟩ := m
  dsimp only at hk hc he ha hrev hn1 hn2 hac2 hfe ⊢
  subst hk hc he ha hrev
  simp only [Msg.v, Op.v] at hac2 ⊢
  have hP := h.hp
  have hO := h.ho
  have hI := h.hi.1
  obtain ⟨ph, ep, hav, base, tA, tc, text, s2⟩ := o
  unfold ocL at hP
  dsimp only at hP hep hb
  subst hep hb
  have HH := Lib.hid h
  clear h
  go_enter Tryz.func56, Tryz.ntmps56
  go_wp2
  refine cut_worldO (F := fun w1 => w1.heap[w.heap.size]? = some (.cells #[.int .i64 5, .int .i64 1, .int .i64 1, .int .i64 hv, .int .i64 fi, .int .i64 re, .int .i64 0, .int .i64 re, .int .i64 ta, .int .i64 ok, .int .i64 op, .int .u8 oc, .int .i64 ol, .int .i64 os] 34 (0, 0)) ∧ Mod No w w1)
    ⟨blk_new _ _ rfl, (Mod.refl No w).alloc _⟩ ?_
  rintro w1 ⟨hA1, hM1⟩
  have hP1 := hM1.heap hP (fun h => h)
  have hO1 := hM1.heap hO (fun h => h)
  have hI1 := hM1.heap hI (fun h => h)
  have HH1 := Lib.hid (HH.out.mod0 hM1)
  have hQA := blk_at hA1
  have hQP := blk_at hP1
  clear hP hO hI HH
  go_upto_region 3 with (fail)
  refine wp_region_text (by kernel_rfl) (by kernel_rfl) (by kernel_rfl) (by kernel_rfl) ?_
  go_wp2
  refine ⟨rfl, by kernel_rfl, ?_⟩
  go_upto_region 5 with (fail)
  refine wp_region_text (by kernel_rfl) (by kernel_rfl) (by kernel_rfl) (by kernel_rfl) ?_
  go_wp2
  refine ⟨rfl, by kernel_rfl, ?_⟩
  go_upto_region 9 with (fail)
  refine wp_region_seg ([0, 1, 2, 3, 4, 5, 6].map (·, false) ++ [(7, true), (8, false), (9, false)]) (by kernel_rfl) (by kernel_rfl) (by kernel_rfl) (by kernel_rfl) ?_
  simp only [List.map_cons, List.map_nil, List.cons_append, List.nil_append, List.filterMap_cons, List.filterMap_nil, pick, List.getElem?_toArray, List.getElem?_cons_zero, List.getElem?_cons_succ, Option.map_some]
  refine wpSeg_cut (fun e a w h => h.1) [_, _, _, _, _, _, _] _ _ _ ?_
  go_wp2
  refine wpSeg_mark rfl ?_
  go_wp2_with (go_at_call 84; refine (sent_0 po _ _ _ _ _ (w1.drew.drew.drew) hO1).mono ?_; rintro e w2 ⟨rfl, rfl⟩; refine ⟨Old.refl _, ?_⟩)
  refine wpSeg_rest [_, _] ?_
  go_wp2
  refine ⟨rfl, by kernel_rfl, ?_⟩
  go_upto_region 13 with (fail)
  refine wp_region_text (by kernel_rfl) (by kernel_rfl) (by kernel_rfl) (by kernel_rfl) ?_
  go_wp2
  refine ⟨rfl, by kernel_rfl, ?_⟩
  go_upto_region 15 with (fail)
  refine wp_region_seg ([0, 1, 2, 3, 4, 5, 6].map (·, false) ++ [(7, true), (8, false), (9, false), (10, false)]) (by kernel_rfl) (by kernel_rfl) (by kernel_rfl) (by kernel_rfl) ?_
  simp only [List.map_cons, List.map_nil, List.cons_append, List.nil_append, List.filterMap_cons, List.filterMap_nil, pick, List.getElem?_toArray, List.getElem?_cons_zero, List.getElem?_cons_succ, Option.map_some]
  refine wpSeg_cut (fun e a w h => h.1) [_, _, _, _, _, _, _] _ _ _ ?_
  go_wp2
  refine wpSeg_mark rfl ?_
  go_wp2_with (go_at_call 85; refine (cum_ok pi _ _ _ _ (w1.drew.drew.drew.drew.drew) hI1).mono ?_; rintro e w2 ⟨rfl, rfl⟩; refine ⟨Old.refl _, ?_⟩)
  refine wpSeg_rest [_, _, _] ?_
  by_cases hfar : re > cum + 8
  · have hd : decide (cum + 8 < re) = true := by simp; omega
    have HF := Lib.hid hfar
    clear hfar
    go_wp2
    refine ⟨rfl, by kernel_rfl, ?_⟩
    go_wp2
    go_ret
    exact ⟨by rw [hfe.out, if_pos (by have := HF.out; omega)]; rfl, hM1.drew.drew.drew.drew.drew⟩
  · have hd : decide (cum + 8 < re) = false := by simp; omega
    have HF := Lib.hid hfar
    clear hfar
    go_wp2
    refine ⟨rfl, by kernel_rfl, ?_⟩
    go_upto_region 17 with (fail)
    refine wp_region_seg ([0, 1, 2, 3, 4, 5, 6].map (·, false) ++ [(7, true), (8, false), (9, false), (10, false)]) (by kernel_rfl) (by kernel_rfl) (by kernel_rfl) (by kernel_rfl) ?_
    simp only [List.map_cons, List.map_nil, List.cons_append, List.nil_append, List.filterMap_cons, List.filterMap_nil, pick, List.getElem?_toArray, List.getElem?_cons_zero, List.getElem?_cons_succ, Option.map_some]
    refine wpSeg_cut (fun e a w h => h.1) [_, _, _, _, _, _, _] _ _ _ ?_
    go_wp2
    refine wpSeg_mark rfl ?_
    go_wp2_with (go_at_call 85; refine (cum_ok pi _ _ _ _ (w1.drew.drew.drew.drew.drew.drew) hI1).mono ?_; rintro e w2 ⟨rfl, rfl⟩; refine ⟨Old.refl _, ?_⟩)
    refine wpSeg_rest [_, _, _] ?_
    by_cases hnx : re = cum + 1
    · have hac3 := hac2 hnx
      have hd2 : (re == cum + 1) = true := by simp [hnx]
      clear hnx hac2
      go_wp2
      refine ⟨rfl, by kernel_rfl, ?_⟩
      go_wp2_with (go_at_call 86; refine (hac3 _ (HH1.out.mod0 (Mod.refl No w1).drew.drew.drew.drew.drew.drew)).mono ?_; rintro e w4 ⟨rfl, hm4⟩)
      go_ret
      exact ⟨by rw [hfe.out, if_neg (by have := HF.out; omega)]; rfl, hM1.drew.drew.drew.drew.drew.drew.then0 hm4⟩
    · have hd2 : (re == cum + 1) = false := by simp [hnx]
      clear hnx hac2
      go_wp2
      refine ⟨rfl, by kernel_rfl, ?_⟩
      go_wp2
      go_ret
      exact ⟨by rw [hfe.out, if_neg (by have := HF.out; omega)]; rfl, hM1.drew.drew.drew.drew.drew.drew⟩
end Go.Proofs.YtjojhfphlnfimaaGreatDoor.J
