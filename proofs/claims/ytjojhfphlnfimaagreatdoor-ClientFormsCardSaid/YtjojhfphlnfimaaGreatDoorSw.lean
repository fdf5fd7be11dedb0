/- The stage's calls: own. -/
import Derived.Test.YtjojhfphlnfimaaGreatDoorSo
namespace Go.Proofs.YtjojhfphlnfimaaGreatDoor.J
open Go Go.RowKit
set_option linter.unusedSimpArgs false
set_option linter.unusedVariables false

/-- The client makes an edit. -/
def St.owned (s : St) (op : Op) : St := { s with g := s.g.edited op, mine := s.mine ++ [⟨s.g.hav, op⟩] }

theorem own_empty (w0 w : World) (q : Nat) (x : StX) (s : St) (col : Nat → Nat) (pat pch : Int) (h : StAt w0 w q x s col) (hk : s.g.Ok) (ht : s.g.text = []) :
    Calls Tryz.prog 35 #[.pointer (some ⟨q, 0, none⟩), .agg #[.int .i64 2, .int .i64 pat, .int .i64 pch]] w fun e w' => e = .returned (.bool true) ∧ Mod No w w' := by
  have hdc := fun w' (h' : StAt w0 w' q x s col) => gDoc x.p x.m s.g col 1 w' h'.c hk
  have hl : s.g.text.length = 0 := by rw [ht]; rfl
  rw [hl] at hdc
  have h0 := h.alloc (.cells #[.int .i64 2, .int .i64 pat, .int .i64 pch] 51)
  obtain ⟨k0, k1, k2, k3, k4, k5, k6, k7, k8, k9⟩ := h0.cells
  have hP0 : (w.alloc (.cells #[.int .i64 2, .int .i64 pat, .int .i64 pch] 51)).heap[w.heap.size]? = some (.cells #[.int .i64 2, .int .i64 pat, .int .i64 pch] 51 (0, 0)) := blk_new _ _ rfl
  have H0 := Lib.hid h0
  clear h h0 ht hl
  go_enter Tryz.func35, Tryz.ntmps35
  go_wp2_with (go_at_call 14; refine (hdc _ H0.out).mono ?_; rintro en w1 ⟨A0, d0, rfl, hm1, _⟩; have hP1 := hm1.heap hP0 (fun h => h); have hQP := blk_at hP1; have hlP := blk_lt hP1)
  go_ret
  exact ⟨rfl, (((Mod.refl No w).alloc _).then0 hm1).alloc _⟩

set_option maxRecDepth 100000 in
set_option maxHeartbeats 8000000 in
theorem own_ins_full (w0 w : World) (q : Nat) (x : StX) (s : St) (col : Nat → Nat) (pat pch : Int) (h : StAt w0 w q x s col) (hk : s.g.Ok) (hid : s.g.id = 1) (hmd : s.g.made = (s.mine.length : Int)) (hhv : s.g.hav = (s.down : Int)) (htn : s.g.text.length ≤ 1000) (h64 : s.mine.length = 64) :
    Calls Tryz.prog 35 #[.pointer (some ⟨q, 0, none⟩), .agg #[.int .i64 1, .int .i64 pat, .int .i64 pch]] w fun e w' => e = .returned (.bool true) ∧ StTo w0 w q col s w' := by
  have hdc := fun w' xm sm (h' : StAt w0 w' q xm sm col) hk' => gDoc xm.p xm.m sm.g col 1 w' h'.c hk'
  obtain ⟨r, hr⟩ : ∃ r, restE pat ((s.g.text.length : Int) + 1) = r := ⟨_, rfl⟩
  have hrb := restE_bd pat (n := (s.g.text.length : Int) + 1) (by omega)
  have hra := fun w => rest_any pat ((s.g.text.length : Int) + 1) w (by omega) (by omega)
  rw [hr] at hrb
  simp only [hr] at hra
  have hcb := restE_bd pch (n := 95) (by decide)
  have hle := fun w => letter_any pch w
  obtain ⟨ch, hch⟩ : ∃ c, 32 + restE pch 95 = c := ⟨_, rfl⟩
  simp only [hch] at hle
  have c0 : 32 ≤ ch := by omega
  have c1 : ch ≤ 126 := by omega
  clear hch hcb
  obtain ⟨r0, r1⟩ := hrb
  have hE : insG s.g r ch = 111 := by unfold insG; rw [if_neg (by omega), if_neg (by omega), if_pos (by omega)]
  have hed := fun w' (h' : StAt w0 w' q x s col) => gInsertBad x.p x.m s.g col 1 r ch w' h'.c hk (by rw [hE]; decide)
  rw [hE] at hed
  have hd64 : decide ((64 : Int) ≤ (s.mine.length : Int)) = true := by simp; omega
  have hd64b : decide (64 ≤ s.mine.length) = true := by simp; omega
  clear hE h64
  have hsd := fun A B n m c d la lb w' ha hb => sameDoc_any A B n m c d la lb w' ha hb
  have hnm := fun a w' => num_any a w'
  have h0 := h.alloc (.cells #[.int .i64 1, .int .i64 pat, .int .i64 pch] 51)
  have hP0 : (w.alloc (.cells #[.int .i64 1, .int .i64 pat, .int .i64 pch] 51)).heap[w.heap.size]? = some (.cells #[.int .i64 1, .int .i64 pat, .int .i64 pch] 51 (0, 0)) := blk_new _ _ rfl
  have hM0 : Mod (fun b => col b ≠ 0) w (w.alloc (.cells #[.int .i64 1, .int .i64 pat, .int .i64 pch] 51)) := (Mod.refl _ w).alloc _
  have hz := h.c.hz
  have hqn := h.q_ne
  have hsz0 := h.b.md.size
  obtain ⟨k0, k1, k2, k3, k4, k5, k6, k7, k8, k9⟩ := h0.cells
  obtain ⟨i, hi1, hi2, hi3, hi4⟩ := info_parts Tryz.infoEdit
  have hQP0 := blk_at hP0
  have H0 := Lib.hid h0
  have HK := Lib.hid hk
  have hmm : s.mine.length ≤ 64 := by have := hk.m1; omega
  clear h h0 hr hk hid hmd hhv
  go_enter Tryz.func35, Tryz.ntmps35
  go_upto_region 4 with (go_at_call 14; refine (hdc _ x s H0.out HK.out).mono ?_; rintro en w1 ⟨A0, d0, rfl, hm1, hO1⟩)
  have hw1 : w.heap.size + 1 ≤ w1.heap.size := by have := hm1.size; simpa using this
  have hI1 := hO1.inBlk
  have hI2 := hO1.blkLt
  simp only [World.size_alloc] at hI1
  refine cut_worldO (F := fun w2 => Hid (StAt w0 w2 q x s col) ∧ w2.heap[w.heap.size]? = some (.cells #[.int .i64 1, .int .i64 pat, .int .i64 pch] 51 (0, 0)) ∧ w2.heap[w1.heap.size]? = some (.cells #[.int .i64 0, .int .i64 0, .int .i64 0, .int .u8 0, .int .i64 0, .int .i64 0] 60 (0, 0)) ∧ Mod (fun b => col b ≠ 0) w w2 ∧ Hid (Rd kElem w2 A0 s.g.text.length d0 s.g.text)) ⟨Lib.hid ((H0.out.mod0 hm1).alloc (.cells #[.int .i64 0, .int .i64 0, .int .i64 0, .int .u8 0, .int .i64 0, .int .i64 0] 60)), blk_alloc (hm1.heap hP0 (fun h => h)) _, blk_new w1 (.cells #[.int .i64 0, .int .i64 0, .int .i64 0, .int .u8 0, .int .i64 0, .int .i64 0] 60) rfl, (hM0.then0 hm1).alloc _, Lib.hid (hO1.rd.alloc _)⟩ ?_
  clear H0 hM0 hP0 hQP0 hm1 hO1 k0 k1 k2 k3 k4 k5 k6 k7 k8 k9
  rintro w2 ⟨H2, hP2, hE2, hM2, HD2⟩
  obtain ⟨k0, k1, k2, k3, k4, k5, k6, k7, k8, k9⟩ := H2.out.cells
  have hQP2 := blk_at hP2
  have hQE2 := blk_at hE2
  have hFE2 := blk_free hE2
  have hlE2 := blk_lt hE2
  have hq1 : q ≠ w1.heap.size := fun e => by rw [e] at hqn; exact hqn (hz _ (by omega))
  go_upto_region 8 with (fail)
  refine wp_region_seg ([0, 1, 2, 3, 4, 5, 6, 7, 8, 10, 11].map (·, false) ++ [(9, true), (12, true)] ++ [13, 14, 15, 16, 17, 18, 19].map (·, false)) (by kernel_rfl) (by kernel_rfl) (by kernel_rfl) (by kernel_rfl) ?_
  simp only [List.map_cons, List.map_nil, List.cons_append, List.nil_append, List.filterMap_cons, List.filterMap_nil, pick, List.getElem?_toArray, List.getElem?_cons_zero, List.getElem?_cons_succ, Option.map_some]
  refine wpSeg_cut (fun e a w h => h.1) [_, _, _, _, _, _, _, _, _, _, _] _ _ _ ?_
  go_wp2
  refine wpSeg_mark rfl ?_
  go_wp2_with (go_at_call 9; refine (hra _).mono ?_; rintro en w3 ⟨rfl, rfl⟩; refine ⟨Old.refl _, ?_⟩)
  refine wpSeg_mark rfl ?_
  go_wp2_with (go_at_call 29; refine (hle _).mono ?_; rintro en w3 ⟨rfl, rfl⟩; refine ⟨Old.refl _, ?_⟩)
  refine wpSeg_rest [_, _, _, _, _, _, _] ?_
  go_wp2_with (go_at_call 24; refine (hed w2.drew H2.out.drew).mono ?_; rintro en w4 ⟨rfl, hm4⟩; have H4 := Lib.hid (H2.out.drew.mod0 hm4); have hE4 := hm4.heap (w := w2.drew) hE2 (fun h => h); have hQE4 := blk_at hE4; have hFE4 := blk_free hE4; have HD4 := Lib.hid ((HD2.out.drew).mod0 hm4); have hM4 := hM2.drew.then0 hm4)
  refine ⟨rfl, by kernel_rfl, ?_⟩
  obtain ⟨j0, j1, j2, j3, j4, j5, j6, j7, j8, j9⟩ := H4.out.cells
  have hlE4 := blk_lt hE4
  have hlq4 := blk_lt H4.out.hq
  go_upto_region 10 with (fail)
  have r1' : (fun b => col b = 0 ∧ w0.heap.size ≤ b ∧ b = w1.heap.size) w1.heap.size ∨ w4.heap.size ≤ w1.heap.size := .inl ⟨hz _ (by omega), by omega, rfl⟩
  have r2' : (fun b => col b ≠ 0) w1.heap.size ∨ w.heap.size ≤ w1.heap.size := .inr (by omega)
  have hMJ := mod_setO (v := .int .i64 0) (i := 5) (mod_setO (v := .int .i64 0) (i := 4) (mod_setO (v := .int .u8 0) (i := 3) (mod_setO (v := .int .i64 0) (i := 2) (mod_setO (v := .int .i64 0) (i := 1) (mod_setO (v := .int .i64 0) (i := 0) (Mod.refl (fun b => col b = 0 ∧ w0.heap.size ≤ b ∧ b = w1.heap.size) w4) r1') r1') r1') r1') r1') r1'
  refine cut_worldO (F := fun w5 => Hid (StAt w0 w5 q x s col) ∧ Mod (fun b => col b ≠ 0) w w5 ∧ Hid (Rd kElem w5 A0 s.g.text.length d0 s.g.text)) ⟨Lib.hid (H4.out.keep hMJ (fun b _ h => ⟨h.1, h.2.1⟩)), mod_setO (mod_setO (mod_setO (mod_setO (mod_setO (mod_setO hM4 r2') r2') r2') r2') r2') r2', Lib.hid (HD4.out.mod hMJ (fun a ha h => by have h9 := hI2 a ha; have := h.2.2; dsimp only at h9; omega))⟩ ?_
  clear hMJ H4 hE4 hQE4 hFE4 HD4 hM4 H2 hP2 hE2 hM2 HD2 k0 k1 k2 k3 k4 k5 k6 k7 k8 k9 hQP2 hQE2 hFE2 hlE2 hed hra j0 j1 j2 j3 j4 j5 j6 j7 j8 j9
  rintro w5 ⟨H5, hM5, HD5⟩
  obtain ⟨k0, k1, k2, k3, k4, k5, k6, k7, k8, k9⟩ := H5.out.cells
  go_wp2_with (first
    | (go_at_call 22; refine (hnm _ _).mono ?_; rintro en w' ⟨rfl, rfl⟩)
    | (go_at_call 14; refine (hdc _ x s H5.out HK.out).mono ?_; rintro en w6 ⟨A6, d6, rfl, hm6, hO6⟩)
    | (go_at_call 13; refine (hsd _ _ _ _ _ _ _ _ _ hO6.rd (HD5.out.mod0 hm6)).mono ?_; rintro en w7 ⟨rfl, hm7⟩))
  all_goals go_ret
  exact ⟨by simp, x, col, H5.out.mod0 (hm6.then0 hm7), hM5.then0 (hm6.then0 hm7), fun _ _ h => h⟩

set_option maxRecDepth 100000 in
set_option maxHeartbeats 8000000 in
theorem own_del_full (w0 w : World) (q : Nat) (x : StX) (s : St) (col : Nat → Nat) (pat pch : Int) (h : StAt w0 w q x s col) (hk : s.g.Ok) (hid : s.g.id = 1) (hmd : s.g.made = (s.mine.length : Int)) (hhv : s.g.hav = (s.down : Int)) (htn : s.g.text.length ≤ 1000) (ht1 : 1 ≤ s.g.text.length) (h64 : s.mine.length = 64) :
    Calls Tryz.prog 35 #[.pointer (some ⟨q, 0, none⟩), .agg #[.int .i64 2, .int .i64 pat, .int .i64 pch]] w fun e w' => e = .returned (.bool true) ∧ StTo w0 w q col s w' := by
  have hdc := fun w' xm sm (h' : StAt w0 w' q xm sm col) hk' => gDoc xm.p xm.m sm.g col 1 w' h'.c hk'
  obtain ⟨r, hr⟩ : ∃ r, restE pat (s.g.text.length : Int) = r := ⟨_, rfl⟩
  have hrb := restE_bd pat (n := (s.g.text.length : Int)) (by omega)
  have hra := fun w => rest_any pat ((s.g.text.length : Int)) w (by omega) (by omega)
  rw [hr] at hrb
  simp only [hr] at hra
  have hd2 : (((s.g.text.length : Nat) : Int) == 0) = false := by rw [beq_eq_false_iff_ne]; omega
  obtain ⟨r0, r1⟩ := hrb
  have hE : delG s.g r = 111 := by unfold delG; rw [if_neg (by omega), if_pos (by omega)]
  have hed := fun w' (h' : StAt w0 w' q x s col) => gDeleteBad x.p x.m s.g col 1 r w' h'.c hk (by rw [hE]; decide)
  rw [hE] at hed
  have hd64 : decide ((64 : Int) ≤ (s.mine.length : Int)) = true := by simp; omega
  have hd64b : decide (64 ≤ s.mine.length) = true := by simp; omega
  clear hE h64
  have hsd := fun A B n m c d la lb w' ha hb => sameDoc_any A B n m c d la lb w' ha hb
  have hnm := fun a w' => num_any a w'
  have h0 := h.alloc (.cells #[.int .i64 2, .int .i64 pat, .int .i64 pch] 51)
  have hP0 : (w.alloc (.cells #[.int .i64 2, .int .i64 pat, .int .i64 pch] 51)).heap[w.heap.size]? = some (.cells #[.int .i64 2, .int .i64 pat, .int .i64 pch] 51 (0, 0)) := blk_new _ _ rfl
  have hM0 : Mod (fun b => col b ≠ 0) w (w.alloc (.cells #[.int .i64 2, .int .i64 pat, .int .i64 pch] 51)) := (Mod.refl _ w).alloc _
  have hz := h.c.hz
  have hqn := h.q_ne
  have hsz0 := h.b.md.size
  obtain ⟨k0, k1, k2, k3, k4, k5, k6, k7, k8, k9⟩ := h0.cells
  obtain ⟨i, hi1, hi2, hi3, hi4⟩ := info_parts Tryz.infoEdit
  have hQP0 := blk_at hP0
  have H0 := Lib.hid h0
  have HK := Lib.hid hk
  have hmm : s.mine.length ≤ 64 := by have := hk.m1; omega
  clear h h0 hr hk hid hmd hhv
  go_enter Tryz.func35, Tryz.ntmps35
  go_upto_region 4 with (go_at_call 14; refine (hdc _ x s H0.out HK.out).mono ?_; rintro en w1 ⟨A0, d0, rfl, hm1, hO1⟩)
  have hw1 : w.heap.size + 1 ≤ w1.heap.size := by have := hm1.size; simpa using this
  have hI1 := hO1.inBlk
  have hI2 := hO1.blkLt
  simp only [World.size_alloc] at hI1
  refine cut_worldO (F := fun w2 => Hid (StAt w0 w2 q x s col) ∧ w2.heap[w.heap.size]? = some (.cells #[.int .i64 2, .int .i64 pat, .int .i64 pch] 51 (0, 0)) ∧ w2.heap[w1.heap.size]? = some (.cells #[.int .i64 0, .int .i64 0, .int .i64 0, .int .u8 0, .int .i64 0, .int .i64 0] 60 (0, 0)) ∧ Mod (fun b => col b ≠ 0) w w2 ∧ Hid (Rd kElem w2 A0 s.g.text.length d0 s.g.text)) ⟨Lib.hid ((H0.out.mod0 hm1).alloc (.cells #[.int .i64 0, .int .i64 0, .int .i64 0, .int .u8 0, .int .i64 0, .int .i64 0] 60)), blk_alloc (hm1.heap hP0 (fun h => h)) _, blk_new w1 (.cells #[.int .i64 0, .int .i64 0, .int .i64 0, .int .u8 0, .int .i64 0, .int .i64 0] 60) rfl, (hM0.then0 hm1).alloc _, Lib.hid (hO1.rd.alloc _)⟩ ?_
  clear H0 hM0 hP0 hQP0 hm1 hO1 k0 k1 k2 k3 k4 k5 k6 k7 k8 k9
  rintro w2 ⟨H2, hP2, hE2, hM2, HD2⟩
  obtain ⟨k0, k1, k2, k3, k4, k5, k6, k7, k8, k9⟩ := H2.out.cells
  have hQP2 := blk_at hP2
  have hQE2 := blk_at hE2
  have hFE2 := blk_free hE2
  have hlE2 := blk_lt hE2
  have hq1 : q ≠ w1.heap.size := fun e => by rw [e] at hqn; exact hqn (hz _ (by omega))
  go_upto_region 7 with (fail)
  refine wp_region_seg ([0, 1, 2, 3, 4, 5, 6, 7].map (·, false) ++ [(8, true)] ++ [9, 10, 11, 12, 13, 14].map (·, false)) (by kernel_rfl) (by kernel_rfl) (by kernel_rfl) (by kernel_rfl) ?_
  simp only [List.map_cons, List.map_nil, List.cons_append, List.nil_append, List.filterMap_cons, List.filterMap_nil, pick, List.getElem?_toArray, List.getElem?_cons_zero, List.getElem?_cons_succ, Option.map_some]
  refine wpSeg_cut (fun e a w h => h.1) [_, _, _, _, _, _, _, _] _ _ _ ?_
  go_wp2
  refine wpSeg_mark rfl ?_
  go_wp2_with (go_at_call 9; refine (hra _).mono ?_; rintro en w3 ⟨rfl, rfl⟩; refine ⟨Old.refl _, ?_⟩)
  refine wpSeg_rest [_, _, _, _, _, _] ?_
  go_wp2_with (go_at_call 61; refine (hed w2.drew H2.out.drew).mono ?_; rintro en w4 ⟨rfl, hm4⟩; have H4 := Lib.hid (H2.out.drew.mod0 hm4); have hE4 := hm4.heap (w := w2.drew) hE2 (fun h => h); have hQE4 := blk_at hE4; have hFE4 := blk_free hE4; have HD4 := Lib.hid ((HD2.out.drew).mod0 hm4); have hM4 := hM2.drew.then0 hm4)
  refine ⟨rfl, by kernel_rfl, ?_⟩
  obtain ⟨j0, j1, j2, j3, j4, j5, j6, j7, j8, j9⟩ := H4.out.cells
  have hlE4 := blk_lt hE4
  have hlq4 := blk_lt H4.out.hq
  go_upto_region 10 with (fail)
  have r1' : (fun b => col b = 0 ∧ w0.heap.size ≤ b ∧ b = w1.heap.size) w1.heap.size ∨ w4.heap.size ≤ w1.heap.size := .inl ⟨hz _ (by omega), by omega, rfl⟩
  have r2' : (fun b => col b ≠ 0) w1.heap.size ∨ w.heap.size ≤ w1.heap.size := .inr (by omega)
  have hMJ := mod_setO (v := .int .i64 0) (i := 5) (mod_setO (v := .int .i64 0) (i := 4) (mod_setO (v := .int .u8 0) (i := 3) (mod_setO (v := .int .i64 0) (i := 2) (mod_setO (v := .int .i64 0) (i := 1) (mod_setO (v := .int .i64 0) (i := 0) (Mod.refl (fun b => col b = 0 ∧ w0.heap.size ≤ b ∧ b = w1.heap.size) w4) r1') r1') r1') r1') r1') r1'
  refine cut_worldO (F := fun w5 => Hid (StAt w0 w5 q x s col) ∧ Mod (fun b => col b ≠ 0) w w5 ∧ Hid (Rd kElem w5 A0 s.g.text.length d0 s.g.text)) ⟨Lib.hid (H4.out.keep hMJ (fun b _ h => ⟨h.1, h.2.1⟩)), mod_setO (mod_setO (mod_setO (mod_setO (mod_setO (mod_setO hM4 r2') r2') r2') r2') r2') r2', Lib.hid (HD4.out.mod hMJ (fun a ha h => by have h9 := hI2 a ha; have := h.2.2; dsimp only at h9; omega))⟩ ?_
  clear hMJ H4 hE4 hQE4 hFE4 HD4 hM4 H2 hP2 hE2 hM2 HD2 k0 k1 k2 k3 k4 k5 k6 k7 k8 k9 hQP2 hQE2 hFE2 hlE2 hed hra j0 j1 j2 j3 j4 j5 j6 j7 j8 j9
  rintro w5 ⟨H5, hM5, HD5⟩
  obtain ⟨k0, k1, k2, k3, k4, k5, k6, k7, k8, k9⟩ := H5.out.cells
  go_wp2_with (first
    | (go_at_call 22; refine (hnm _ _).mono ?_; rintro en w' ⟨rfl, rfl⟩)
    | (go_at_call 14; refine (hdc _ x s H5.out HK.out).mono ?_; rintro en w6 ⟨A6, d6, rfl, hm6, hO6⟩)
    | (go_at_call 13; refine (hsd _ _ _ _ _ _ _ _ _ hO6.rd (HD5.out.mod0 hm6)).mono ?_; rintro en w7 ⟨rfl, hm7⟩))
  all_goals go_ret
  exact ⟨by simp, x, col, H5.out.mod0 (hm6.then0 hm7), hM5.then0 (hm6.then0 hm7), fun _ _ h => h⟩

set_option maxRecDepth 100000 in
set_option maxHeartbeats 8000000 in
theorem own_ins_ok (w0 w : World) (q : Nat) (x : StX) (s : St) (col : Nat → Nat) (pat pch : Int) (h : StAt w0 w q x s col) (hk : s.g.Ok) (hid : s.g.id = 1) (hmd : s.g.made = (s.mine.length : Int)) (hhv : s.g.hav = (s.down : Int)) (htn : s.g.text.length ≤ 1000) (h64 : s.mine.length < 64) :
    Calls Tryz.prog 35 #[.pointer (some ⟨q, 0, none⟩), .agg #[.int .i64 1, .int .i64 pat, .int .i64 pch]] w fun e w' => e = .returned (.bool true) ∧ StTo w0 w q col (s.owned ⟨1, restE pat ((s.g.text.length : Int) + 1), 32 + restE pch 95, 1, (s.mine.length : Int) + 1⟩) w' := by
  have hdc := fun w' xm sm (h' : StAt w0 w' q xm sm col) hk' => gDoc xm.p xm.m sm.g col 1 w' h'.c hk'
  obtain ⟨r, hr⟩ : ∃ r, restE pat ((s.g.text.length : Int) + 1) = r := ⟨_, rfl⟩
  have hrb := restE_bd pat (n := (s.g.text.length : Int) + 1) (by omega)
  have hra := fun w => rest_any pat ((s.g.text.length : Int) + 1) w (by omega) (by omega)
  rw [hr] at hrb ⊢
  simp only [hr] at hra
  have hcb := restE_bd pch (n := 95) (by decide)
  have hle := fun w => letter_any pch w
  obtain ⟨ch, hch⟩ : ∃ c, 32 + restE pch 95 = c := ⟨_, rfl⟩
  rw [hch]
  simp only [hch] at hle
  have c0 : 32 ≤ ch := by omega
  have c1 : ch ≤ 126 := by omega
  clear hch hcb
  obtain ⟨r0, r1⟩ := hrb
  have hE : insG s.g r ch = 0 := by unfold insG; rw [if_neg (by omega), if_neg (by omega), if_neg (by omega)]
  have hfit : fitsE s.g.text.length ⟨1, r, ch, 1, (s.mine.length : Int) + 1⟩ = 0 := fits_insert r0 (by omega) (by omega) c0 c1 (by decide) (by decide) (by omega) (by omega)
  have hed := fun w' (h' : StAt w0 w' q x s col) => gInsert x.p x.m s.g col 1 r ch w' h'.c hk (by omega) hE
  have hgk := hk.edited (o := ⟨1, r, ch, 1, (s.mine.length : Int) + 1⟩) (by omega) hfit (by dsimp only; omega) (by dsimp only; omega)
  simp only [hid, hmd, hhv] at hed
  have how : s.owned ⟨1, r, ch, 1, (s.mine.length : Int) + 1⟩ = { s with g := s.g.edited ⟨1, r, ch, 1, (s.mine.length : Int) + 1⟩, mine := s.mine ++ [⟨(s.down : Int), ⟨1, r, ch, 1, (s.mine.length : Int) + 1⟩⟩] } := by unfold St.owned; rw [hhv]
  rw [how]
  have hgt : (s.g.edited ⟨1, r, ch, 1, (s.mine.length : Int) + 1⟩).text = applyE s.g.text ⟨1, r, ch, 1, (s.mine.length : Int) + 1⟩ := rfl
  obtain ⟨G, hG⟩ : ∃ G, s.g.edited ⟨1, r, ch, 1, (s.mine.length : Int) + 1⟩ = G := ⟨_, rfl⟩
  rw [hG] at hgk hgt ⊢
  simp only [hG] at hed
  have hpt := fun {A0 : Option Addr} {d0 : Nat} w' (h' : Rd kElem w' A0 s.g.text.length d0 s.g.text) => put_ok A0 s.g.text.length d0 ⟨1, r, ch, 1, (s.mine.length : Int) + 1⟩ s.g.text w' h' (by omega) (by simp) (by simp) (fun e => ⟨r0, by dsimp only; omega⟩) (fun e => by simp at e)
  simp only [Op.v] at hpt
  have HGK := Lib.hid hgk
  have HGT := Lib.hid hgt
  have hd64 : decide ((64 : Int) ≤ (s.mine.length : Int)) = false := by simp; omega
  have hd64b : decide (64 ≤ s.mine.length) = false := by simp; omega
  clear hE h64 hfit how hG hgk hgt
  have hsd := fun A B n m c d la lb w' ha hb => sameDoc_any A B n m c d la lb w' ha hb
  have hnm := fun a w' => num_any a w'
  have h0 := h.alloc (.cells #[.int .i64 1, .int .i64 pat, .int .i64 pch] 51)
  have hP0 : (w.alloc (.cells #[.int .i64 1, .int .i64 pat, .int .i64 pch] 51)).heap[w.heap.size]? = some (.cells #[.int .i64 1, .int .i64 pat, .int .i64 pch] 51 (0, 0)) := blk_new _ _ rfl
  have hM0 : Mod (fun b => col b ≠ 0) w (w.alloc (.cells #[.int .i64 1, .int .i64 pat, .int .i64 pch] 51)) := (Mod.refl _ w).alloc _
  have hz := h.c.hz
  have hqn := h.q_ne
  have hsz0 := h.b.md.size
  obtain ⟨k0, k1, k2, k3, k4, k5, k6, k7, k8, k9⟩ := h0.cells
  obtain ⟨i, hi1, hi2, hi3, hi4⟩ := info_parts Tryz.infoEdit
  have hQP0 := blk_at hP0
  have H0 := Lib.hid h0
  have HK := Lib.hid hk
  have hmm : s.mine.length ≤ 64 := by have := hk.m1; omega
  clear h h0 hr hk hid hmd hhv
  go_enter Tryz.func35, Tryz.ntmps35
  go_upto_region 4 with (go_at_call 14; refine (hdc _ x s H0.out HK.out).mono ?_; rintro en w1 ⟨A0, d0, rfl, hm1, hO1⟩)
  have hw1 : w.heap.size + 1 ≤ w1.heap.size := by have := hm1.size; simpa using this
  have hI1 := hO1.inBlk
  have hI2 := hO1.blkLt
  simp only [World.size_alloc] at hI1
  refine cut_worldO (F := fun w2 => Hid (StAt w0 w2 q x s col) ∧ w2.heap[w.heap.size]? = some (.cells #[.int .i64 1, .int .i64 pat, .int .i64 pch] 51 (0, 0)) ∧ w2.heap[w1.heap.size]? = some (.cells #[.int .i64 0, .int .i64 0, .int .i64 0, .int .u8 0, .int .i64 0, .int .i64 0] 60 (0, 0)) ∧ Mod (fun b => col b ≠ 0) w w2 ∧ Hid (Rd kElem w2 A0 s.g.text.length d0 s.g.text)) ⟨Lib.hid ((H0.out.mod0 hm1).alloc (.cells #[.int .i64 0, .int .i64 0, .int .i64 0, .int .u8 0, .int .i64 0, .int .i64 0] 60)), blk_alloc (hm1.heap hP0 (fun h => h)) _, blk_new w1 (.cells #[.int .i64 0, .int .i64 0, .int .i64 0, .int .u8 0, .int .i64 0, .int .i64 0] 60) rfl, (hM0.then0 hm1).alloc _, Lib.hid (hO1.rd.alloc _)⟩ ?_
  clear H0 hM0 hP0 hQP0 hm1 hO1 k0 k1 k2 k3 k4 k5 k6 k7 k8 k9
  rintro w2 ⟨H2, hP2, hE2, hM2, HD2⟩
  obtain ⟨k0, k1, k2, k3, k4, k5, k6, k7, k8, k9⟩ := H2.out.cells
  have hQP2 := blk_at hP2
  have hQE2 := blk_at hE2
  have hFE2 := blk_free hE2
  have hlE2 := blk_lt hE2
  have hq1 : q ≠ w1.heap.size := fun e => by rw [e] at hqn; exact hqn (hz _ (by omega))
  go_upto_region 8 with (fail)
  refine wp_region_seg ([0, 1, 2, 3, 4, 5, 6, 7, 8, 10, 11].map (·, false) ++ [(9, true), (12, true)] ++ [13, 14, 15, 16, 17, 18, 19].map (·, false)) (by kernel_rfl) (by kernel_rfl) (by kernel_rfl) (by kernel_rfl) ?_
  simp only [List.map_cons, List.map_nil, List.cons_append, List.nil_append, List.filterMap_cons, List.filterMap_nil, pick, List.getElem?_toArray, List.getElem?_cons_zero, List.getElem?_cons_succ, Option.map_some]
  refine wpSeg_cut (fun e a w h => h.1) [_, _, _, _, _, _, _, _, _, _, _] _ _ _ ?_
  go_wp2
  refine wpSeg_mark rfl ?_
  go_wp2_with (go_at_call 9; refine (hra _).mono ?_; rintro en w3 ⟨rfl, rfl⟩; refine ⟨Old.refl _, ?_⟩)
  refine wpSeg_mark rfl ?_
  go_wp2_with (go_at_call 29; refine (hle _).mono ?_; rintro en w3 ⟨rfl, rfl⟩; refine ⟨Old.refl _, ?_⟩)
  refine wpSeg_rest [_, _, _, _, _, _, _] ?_
  go_wp2_with (go_at_call 24; refine (hed w2.drew H2.out.drew).mono ?_; rintro en w4 ⟨rfl, m4, col4, hR4⟩; have H4 := Lib.hid (H2.out.drew.client hR4); have hE4 := (hR4.other (b := w1.heap.size) hE2 (hz _ (by omega))).1; have hc4 := Lib.hid (hR4.cl); have hQE4 := blk_at hE4; have hFE4 := blk_free hE4; have HD4 := Lib.hid ((HD2.out.drew).mod hR4.md (fun a ha h => by have h9 := hI1 a ha; have := hz a.block (by dsimp only at h9; omega); omega)); have hM4 := hM2.drew.trans hR4.md (fun b hb h => by intro e; omega); have hs24 : w2.heap.size ≤ w4.heap.size := hR4.md.size; clear hR4)
  refine ⟨rfl, by kernel_rfl, ?_⟩
  obtain ⟨j0, j1, j2, j3, j4, j5, j6, j7, j8, j9⟩ := H4.out.cells
  dsimp only at j0 j1 j2 j3 j4 j5 j6 j7 j8 j9
  have hlE4 := blk_lt hE4
  have hlq4 := blk_lt H4.out.hq
  have hcE4 : col4 w1.heap.size = 0 := by rw [hc4.out _ (by show w1.heap.size < w2.heap.size; omega)]; exact hz _ (by omega)
  have hcc4 : ∀ b, b < w.heap.size → col b = 0 → col4 b = 0 := fun b hb hc => by rw [hc4.out _ (by show b < w2.heap.size; omega)]; exact hc
  have hcA4 : ∀ a, A0 = some a → col4 a.block = 0 ∧ w.heap.size ≤ a.block ∧ a.block < w1.heap.size := fun a ha => by
    have h8 := hI1 a ha
    have h9 := hI2 a ha
    dsimp only at h8 h9
    refine ⟨?_, by omega, h9⟩
    rw [hc4.out _ (by show a.block < w2.heap.size; omega)]
    exact hz _ (by omega)
  clear hc4
  go_upto_region 11 with (fail)
  have r1' : (fun b => col4 b = 0 ∧ w0.heap.size ≤ b ∧ b = w1.heap.size) w1.heap.size ∨ w4.heap.size ≤ w1.heap.size := .inl ⟨hcE4, by omega, rfl⟩
  have r2' : (fun b => col b ≠ 0) w1.heap.size ∨ w.heap.size ≤ w1.heap.size := .inr (by omega)
  have hMJ := mod_setO (v := .int .i64 ((s.mine.length : Int) + 1)) (i := 5) (mod_setO (v := .int .i64 1) (i := 4) (mod_setO (v := .int .u8 ch) (i := 3) (mod_setO (v := .int .i64 r) (i := 2) (mod_setO (v := .int .i64 1) (i := 1) (mod_setO (v := .int .i64 (s.down : Int)) (i := 0) (Mod.refl (fun b => col4 b = 0 ∧ w0.heap.size ≤ b ∧ b = w1.heap.size) w4) r1') r1') r1') r1') r1') r1'
  refine cut_worldO (F := fun w5 => Hid (StAt w0 w5 q { x with m := m4 } { s with g := G } col4) ∧ w5.heap[w1.heap.size]? = some (.cells #[.int .i64 (s.down : Int), .int .i64 1, .int .i64 r, .int .u8 ch, .int .i64 1, .int .i64 ((s.mine.length : Int) + 1)] 60 (0, 0)) ∧ Mod (fun b => col b ≠ 0) w w5 ∧ Hid (Rd kElem w5 A0 s.g.text.length d0 s.g.text)) ⟨Lib.hid (H4.out.keep hMJ (fun b _ h => ⟨h.1, h.2.1⟩)), blk_set (blk_set (blk_set (blk_set (blk_set (blk_set hE4 0 _) 1 _) 2 _) 3 _) 4 _) 5 _, mod_setO (mod_setO (mod_setO (mod_setO (mod_setO (mod_setO hM4 r2') r2') r2') r2') r2') r2', Lib.hid (HD4.out.mod hMJ (fun a ha h => by have h9 := (hcA4 a ha).2.2; have := h.2.2; omega))⟩ ?_
  clear hMJ H4 hE4 hQE4 hFE4 HD4 hM4 H2 hP2 hE2 hM2 HD2 k0 k1 k2 k3 k4 k5 k6 k7 k8 k9 hQP2 hQE2 hFE2 hlE2 hed hra j0 j1 j2 j3 j4 j5 j6 j7 j8 j9 hlE4 hlq4
  rintro w5 ⟨H5, hE5, hM5, HD5⟩
  obtain ⟨k0, k1, k2, k3, k4, k5, k6, k7, k8, k9⟩ := H5.out.cells
  dsimp only at k0 k1 k2 k3 k4 k5 k6 k7 k8 k9
  have hQE5 := blk_at hE5
  have hlE5 := blk_lt hE5
  refine wp_region_text (by kernel_rfl) (by kernel_rfl) (by kernel_rfl) (by kernel_rfl) ?_
  go_wp2_with (go_at_call 22; refine (hnm _ _).mono ?_; rintro en w' ⟨rfl, rfl⟩)
  refine ⟨rfl, by kernel_rfl, ?_⟩
  go_upto_region 13 with (fail)
  have hOm0 := H5.out.hm
  dsimp only at hOm0
  have hOm := Lib.hid hOm0
  have hcolq := H5.out.cq
  have hlq5 := blk_lt H5.out.hq
  clear hOm0
  refine wp_region_text (by kernel_rfl) (by kernel_rfl) (by kernel_rfl) (by kernel_rfl) ?_
  go_wp2_with (at_builtin; refine wpList_append_j (k := kEdit) (T := 60) (by rfl) _ _ _ (by rfl) i _ Tryz.underlying36 hi1 hi2 hi3 rfl (by rfl) (by rfl) (Own.drew ((hOm.out.drew).alloc _)) (Rd.drew (Rd.one (heap_alloc_new _ _) (⟨(s.down : Int), ⟨1, r, ch, 1, (s.mine.length : Int) + 1⟩⟩ : Edit) rfl)) (by unfold maxLen; omega) (by rw [hi4]; omega) ?_; intro A6 c6 w6 hO6 hm6 hs6 _; have H6 := Lib.hid (((H5.out.drew.alloc (.cells #[.int .i64 (s.down : Int), .int .i64 1, .int .i64 r, .int .u8 ch, .int .i64 1, .int .i64 ((s.mine.length : Int) + 1)] 60)).drew)); have hQ6 := hm6.heap H6.out.hq (by rw [hcolq]; decide); have f6 := blk_free hQ6; have g6 := blk_at hQ6; simp only [stL] at g6)
  refine ⟨rfl, by kernel_rfl, ?_⟩
  have H7 := Lib.hid (H6.out.setMine hm6 (hO6.mono (fun b _ h => by rcases h with h | h; exact .inl h; exact .inr (Nat.le_of_eq h.symm))))
  have hlq6 : q < w6.heap.size := blk_lt hQ6
  have hE6 := hm6.heap (blk_alloc (w := w5.drew) hE5 _) (by rw [hcE4]; decide)
  have hM6 := (hM5.drew.alloc (.cells #[.int .i64 (s.down : Int), .int .i64 1, .int .i64 r, .int .u8 ch, .int .i64 1, .int .i64 ((s.mine.length : Int) + 1)] 60)).drew.trans hm6 (fun b hb h => by intro e; have := hcc4 b hb e; omega)
  have hs56 : w5.heap.size < w6.heap.size := by have := hm6.size; simp at this; omega
  go_upto_region 14 with (fail)
  obtain ⟨col7, hcol7⟩ : ∃ c, paint col4 ((w5.drew.alloc (.cells #[.int .i64 (s.down : Int), .int .i64 1, .int .i64 r, .int .u8 ch, .int .i64 1, .int .i64 ((s.mine.length : Int) + 1)] 60)).drew).heap.size w6.heap.size 25 = c := ⟨_, rfl⟩
  rw [hcol7] at H7
  have hcc7 : ∀ b, b < w5.heap.size → col4 b = 0 → col7 b = 0 := fun b hb hc => by rw [← hcol7]; exact painted0 (by simp; omega) hc
  refine cut_worldO (F := fun w7 => Hid (StAt w0 w7 q { x with m := m4, mA := A6, mc := c6 } { s with g := G, mine := s.mine ++ [⟨(s.down : Int), ⟨1, r, ch, 1, (s.mine.length : Int) + 1⟩⟩] } col7) ∧ w7.heap[w1.heap.size]? = some (.cells #[.int .i64 (s.down : Int), .int .i64 1, .int .i64 r, .int .u8 ch, .int .i64 1, .int .i64 ((s.mine.length : Int) + 1)] 60 (0, 0)) ∧ Mod (fun b => col b ≠ 0) w w7 ∧ Hid (Rd kElem w7 A0 s.g.text.length d0 s.g.text)) ⟨H7, blk_set_other hE6 (by dsimp only; omega) _, mod_setO hM6 (.inl hqn), Lib.hid (((HD5.out.drew.alloc _).drew.mod hm6 (fun a ha h => by have := (hcA4 a ha).1; omega)).mod (mod_setO (Mod.refl (fun b => b = q) w6) (.inl rfl)) (fun a ha h => by have := (hcA4 a ha).2.1; have h8 : q < w.heap.size := by { rcases Nat.lt_or_ge q w.heap.size with h9 | h9; exact h9; exact absurd (hz q h9) hqn }; omega))⟩ ?_
  clear H7 hE6 hM6 H6 hQ6 f6 g6 hO6 hm6 hs6 hcol7 H5 hE5 hM5 HD5 hQE5 hOm k0 k1 k2 k3 k4 k5 k6 k7 k8 k9
  rintro w7 ⟨H7, hE7, hM7, HD7⟩
  obtain ⟨k0, k1, k2, k3, k4, k5, k6, k7, k8, k9⟩ := H7.out.cells
  dsimp only at k0 k1 k2 k3 k4 k5 k6 k7 k8 k9
  have hQE7 := blk_at hE7
  have hlE7 := blk_lt hE7
  have hdc7 := fun w' (h' : StAt w0 w' q { x with m := m4, mA := A6, mc := c6 } { s with g := G, mine := s.mine ++ [⟨(s.down : Int), ⟨1, r, ch, 1, (s.mine.length : Int) + 1⟩⟩] } col7) => gDoc x.p m4 G col7 1 w' h'.c HGK.out
  rw [HGT.out] at hdc7
  go_wp2_with (first
    | (go_at_call 12; refine (hpt w7 HD7.out).mono ?_; rintro en w8 ⟨A8, n8, c8, rfl, hm8, hO8⟩; have H8 := Lib.hid (H7.out.mod0 hm8); have i0 := H8.out.cells.1; have HO8 := Lib.hid hO8)
    | (go_at_call 14; refine (hdc7 _ H8.out).mono ?_; rintro en w9 ⟨A9, d9, rfl, hm9, hO9⟩)
    | (go_at_call 13; refine (hsd _ _ _ _ _ _ _ _ _ hO9.rd (HO8.out.rd.mod0 hm9)).mono ?_; rintro en w10 ⟨rfl, hm10⟩))
  all_goals go_ret
  exact ⟨by simp, _, _, H7.out.mod0 (hm8.then0 (hm9.then0 hm10)), hM7.then0 (hm8.then0 (hm9.then0 hm10)), fun b hb hc => hcc7 b (by omega) (hcc4 b hb hc)⟩

set_option maxRecDepth 100000 in
set_option maxHeartbeats 8000000 in
theorem own_del_ok (w0 w : World) (q : Nat) (x : StX) (s : St) (col : Nat → Nat) (pat pch : Int) (h : StAt w0 w q x s col) (hk : s.g.Ok) (hid : s.g.id = 1) (hmd : s.g.made = (s.mine.length : Int)) (hhv : s.g.hav = (s.down : Int)) (htn : s.g.text.length ≤ 1000) (ht1 : 1 ≤ s.g.text.length) (h64 : s.mine.length < 64) :
    Calls Tryz.prog 35 #[.pointer (some ⟨q, 0, none⟩), .agg #[.int .i64 2, .int .i64 pat, .int .i64 pch]] w fun e w' => e = .returned (.bool true) ∧ StTo w0 w q col (s.owned ⟨2, restE pat (s.g.text.length : Int), 0, 1, (s.mine.length : Int) + 1⟩) w' := by
  have hdc := fun w' xm sm (h' : StAt w0 w' q xm sm col) hk' => gDoc xm.p xm.m sm.g col 1 w' h'.c hk'
  obtain ⟨r, hr⟩ : ∃ r, restE pat (s.g.text.length : Int) = r := ⟨_, rfl⟩
  have hrb := restE_bd pat (n := (s.g.text.length : Int)) (by omega)
  have hra := fun w => rest_any pat ((s.g.text.length : Int)) w (by omega) (by omega)
  rw [hr] at hrb ⊢
  simp only [hr] at hra
  have hd2 : (((s.g.text.length : Nat) : Int) == 0) = false := by rw [beq_eq_false_iff_ne]; omega
  obtain ⟨r0, r1⟩ := hrb
  have hE : delG s.g r = 0 := by unfold delG; rw [if_neg (by omega), if_neg (by omega)]
  have hfit : fitsE s.g.text.length ⟨2, r, 0, 1, (s.mine.length : Int) + 1⟩ = 0 := fits_delete r0 r1 (by omega) (by decide) (by decide) (by omega) (by omega)
  have hed := fun w' (h' : StAt w0 w' q x s col) => gDelete x.p x.m s.g col 1 r w' h'.c hk hE
  have hgk := hk.edited (o := ⟨2, r, 0, 1, (s.mine.length : Int) + 1⟩) (by omega) hfit (by dsimp only; omega) (by dsimp only; omega)
  simp only [hid, hmd, hhv] at hed
  have how : s.owned ⟨2, r, 0, 1, (s.mine.length : Int) + 1⟩ = { s with g := s.g.edited ⟨2, r, 0, 1, (s.mine.length : Int) + 1⟩, mine := s.mine ++ [⟨(s.down : Int), ⟨2, r, 0, 1, (s.mine.length : Int) + 1⟩⟩] } := by unfold St.owned; rw [hhv]
  rw [how]
  have hgt : (s.g.edited ⟨2, r, 0, 1, (s.mine.length : Int) + 1⟩).text = applyE s.g.text ⟨2, r, 0, 1, (s.mine.length : Int) + 1⟩ := rfl
  obtain ⟨G, hG⟩ : ∃ G, s.g.edited ⟨2, r, 0, 1, (s.mine.length : Int) + 1⟩ = G := ⟨_, rfl⟩
  rw [hG] at hgk hgt ⊢
  simp only [hG] at hed
  have hpt := fun {A0 : Option Addr} {d0 : Nat} w' (h' : Rd kElem w' A0 s.g.text.length d0 s.g.text) => put_ok A0 s.g.text.length d0 ⟨2, r, 0, 1, (s.mine.length : Int) + 1⟩ s.g.text w' h' (by omega) (by simp) (by simp) (fun e => by simp at e) (fun e => ⟨r0, r1⟩)
  simp only [Op.v] at hpt
  have HGK := Lib.hid hgk
  have HGT := Lib.hid hgt
  have hd64 : decide ((64 : Int) ≤ (s.mine.length : Int)) = false := by simp; omega
  have hd64b : decide (64 ≤ s.mine.length) = false := by simp; omega
  clear hE h64 hfit how hG hgk hgt
  have hsd := fun A B n m c d la lb w' ha hb => sameDoc_any A B n m c d la lb w' ha hb
  have hnm := fun a w' => num_any a w'
  have h0 := h.alloc (.cells #[.int .i64 2, .int .i64 pat, .int .i64 pch] 51)
  have hP0 : (w.alloc (.cells #[.int .i64 2, .int .i64 pat, .int .i64 pch] 51)).heap[w.heap.size]? = some (.cells #[.int .i64 2, .int .i64 pat, .int .i64 pch] 51 (0, 0)) := blk_new _ _ rfl
  have hM0 : Mod (fun b => col b ≠ 0) w (w.alloc (.cells #[.int .i64 2, .int .i64 pat, .int .i64 pch] 51)) := (Mod.refl _ w).alloc _
  have hz := h.c.hz
  have hqn := h.q_ne
  have hsz0 := h.b.md.size
  obtain ⟨k0, k1, k2, k3, k4, k5, k6, k7, k8, k9⟩ := h0.cells
  obtain ⟨i, hi1, hi2, hi3, hi4⟩ := info_parts Tryz.infoEdit
  have hQP0 := blk_at hP0
  have H0 := Lib.hid h0
  have HK := Lib.hid hk
  have hmm : s.mine.length ≤ 64 := by have := hk.m1; omega
  clear h h0 hr hk hid hmd hhv
  go_enter Tryz.func35, Tryz.ntmps35
  go_upto_region 4 with (go_at_call 14; refine (hdc _ x s H0.out HK.out).mono ?_; rintro en w1 ⟨A0, d0, rfl, hm1, hO1⟩)
  have hw1 : w.heap.size + 1 ≤ w1.heap.size := by have := hm1.size; simpa using this
  have hI1 := hO1.inBlk
  have hI2 := hO1.blkLt
  simp only [World.size_alloc] at hI1
  refine cut_worldO (F := fun w2 => Hid (StAt w0 w2 q x s col) ∧ w2.heap[w.heap.size]? = some (.cells #[.int .i64 2, .int .i64 pat, .int .i64 pch] 51 (0, 0)) ∧ w2.heap[w1.heap.size]? = some (.cells #[.int .i64 0, .int .i64 0, .int .i64 0, .int .u8 0, .int .i64 0, .int .i64 0] 60 (0, 0)) ∧ Mod (fun b => col b ≠ 0) w w2 ∧ Hid (Rd kElem w2 A0 s.g.text.length d0 s.g.text)) ⟨Lib.hid ((H0.out.mod0 hm1).alloc (.cells #[.int .i64 0, .int .i64 0, .int .i64 0, .int .u8 0, .int .i64 0, .int .i64 0] 60)), blk_alloc (hm1.heap hP0 (fun h => h)) _, blk_new w1 (.cells #[.int .i64 0, .int .i64 0, .int .i64 0, .int .u8 0, .int .i64 0, .int .i64 0] 60) rfl, (hM0.then0 hm1).alloc _, Lib.hid (hO1.rd.alloc _)⟩ ?_
  clear H0 hM0 hP0 hQP0 hm1 hO1 k0 k1 k2 k3 k4 k5 k6 k7 k8 k9
  rintro w2 ⟨H2, hP2, hE2, hM2, HD2⟩
  obtain ⟨k0, k1, k2, k3, k4, k5, k6, k7, k8, k9⟩ := H2.out.cells
  have hQP2 := blk_at hP2
  have hQE2 := blk_at hE2
  have hFE2 := blk_free hE2
  have hlE2 := blk_lt hE2
  have hq1 : q ≠ w1.heap.size := fun e => by rw [e] at hqn; exact hqn (hz _ (by omega))
  go_upto_region 7 with (fail)
  refine wp_region_seg ([0, 1, 2, 3, 4, 5, 6, 7].map (·, false) ++ [(8, true)] ++ [9, 10, 11, 12, 13, 14].map (·, false)) (by kernel_rfl) (by kernel_rfl) (by kernel_rfl) (by kernel_rfl) ?_
  simp only [List.map_cons, List.map_nil, List.cons_append, List.nil_append, List.filterMap_cons, List.filterMap_nil, pick, List.getElem?_toArray, List.getElem?_cons_zero, List.getElem?_cons_succ, Option.map_some]
  refine wpSeg_cut (fun e a w h => h.1) [_, _, _, _, _, _, _, _] _ _ _ ?_
  go_wp2
  refine wpSeg_mark rfl ?_
  go_wp2_with (go_at_call 9; refine (hra _).mono ?_; rintro en w3 ⟨rfl, rfl⟩; refine ⟨Old.refl _, ?_⟩)
  refine wpSeg_rest [_, _, _, _, _, _] ?_
  go_wp2_with (go_at_call 61; refine (hed w2.drew H2.out.drew).mono ?_; rintro en w4 ⟨rfl, m4, col4, hR4⟩; have H4 := Lib.hid (H2.out.drew.client hR4); have hE4 := (hR4.other (b := w1.heap.size) hE2 (hz _ (by omega))).1; have hc4 := Lib.hid (hR4.cl); have hQE4 := blk_at hE4; have hFE4 := blk_free hE4; have HD4 := Lib.hid ((HD2.out.drew).mod hR4.md (fun a ha h => by have h9 := hI1 a ha; have := hz a.block (by dsimp only at h9; omega); omega)); have hM4 := hM2.drew.trans hR4.md (fun b hb h => by intro e; omega); have hs24 : w2.heap.size ≤ w4.heap.size := hR4.md.size; clear hR4)
  refine ⟨rfl, by kernel_rfl, ?_⟩
  obtain ⟨j0, j1, j2, j3, j4, j5, j6, j7, j8, j9⟩ := H4.out.cells
  dsimp only at j0 j1 j2 j3 j4 j5 j6 j7 j8 j9
  have hlE4 := blk_lt hE4
  have hlq4 := blk_lt H4.out.hq
  have hcE4 : col4 w1.heap.size = 0 := by rw [hc4.out _ (by show w1.heap.size < w2.heap.size; omega)]; exact hz _ (by omega)
  have hcc4 : ∀ b, b < w.heap.size → col b = 0 → col4 b = 0 := fun b hb hc => by rw [hc4.out _ (by show b < w2.heap.size; omega)]; exact hc
  have hcA4 : ∀ a, A0 = some a → col4 a.block = 0 ∧ w.heap.size ≤ a.block ∧ a.block < w1.heap.size := fun a ha => by
    have h8 := hI1 a ha
    have h9 := hI2 a ha
    dsimp only at h8 h9
    refine ⟨?_, by omega, h9⟩
    rw [hc4.out _ (by show a.block < w2.heap.size; omega)]
    exact hz _ (by omega)
  clear hc4
  go_upto_region 11 with (fail)
  have r1' : (fun b => col4 b = 0 ∧ w0.heap.size ≤ b ∧ b = w1.heap.size) w1.heap.size ∨ w4.heap.size ≤ w1.heap.size := .inl ⟨hcE4, by omega, rfl⟩
  have r2' : (fun b => col b ≠ 0) w1.heap.size ∨ w.heap.size ≤ w1.heap.size := .inr (by omega)
  have hMJ := mod_setO (v := .int .i64 ((s.mine.length : Int) + 1)) (i := 5) (mod_setO (v := .int .i64 1) (i := 4) (mod_setO (v := .int .u8 0) (i := 3) (mod_setO (v := .int .i64 r) (i := 2) (mod_setO (v := .int .i64 2) (i := 1) (mod_setO (v := .int .i64 (s.down : Int)) (i := 0) (Mod.refl (fun b => col4 b = 0 ∧ w0.heap.size ≤ b ∧ b = w1.heap.size) w4) r1') r1') r1') r1') r1') r1'
  refine cut_worldO (F := fun w5 => Hid (StAt w0 w5 q { x with m := m4 } { s with g := G } col4) ∧ w5.heap[w1.heap.size]? = some (.cells #[.int .i64 (s.down : Int), .int .i64 2, .int .i64 r, .int .u8 0, .int .i64 1, .int .i64 ((s.mine.length : Int) + 1)] 60 (0, 0)) ∧ Mod (fun b => col b ≠ 0) w w5 ∧ Hid (Rd kElem w5 A0 s.g.text.length d0 s.g.text)) ⟨Lib.hid (H4.out.keep hMJ (fun b _ h => ⟨h.1, h.2.1⟩)), blk_set (blk_set (blk_set (blk_set (blk_set (blk_set hE4 0 _) 1 _) 2 _) 3 _) 4 _) 5 _, mod_setO (mod_setO (mod_setO (mod_setO (mod_setO (mod_setO hM4 r2') r2') r2') r2') r2') r2', Lib.hid (HD4.out.mod hMJ (fun a ha h => by have h9 := (hcA4 a ha).2.2; have := h.2.2; omega))⟩ ?_
  clear hMJ H4 hE4 hQE4 hFE4 HD4 hM4 H2 hP2 hE2 hM2 HD2 k0 k1 k2 k3 k4 k5 k6 k7 k8 k9 hQP2 hQE2 hFE2 hlE2 hed hra j0 j1 j2 j3 j4 j5 j6 j7 j8 j9 hlE4 hlq4
  rintro w5 ⟨H5, hE5, hM5, HD5⟩
  obtain ⟨k0, k1, k2, k3, k4, k5, k6, k7, k8, k9⟩ := H5.out.cells
  dsimp only at k0 k1 k2 k3 k4 k5 k6 k7 k8 k9
  have hQE5 := blk_at hE5
  have hlE5 := blk_lt hE5
  refine wp_region_text (by kernel_rfl) (by kernel_rfl) (by kernel_rfl) (by kernel_rfl) ?_
  go_wp2_with (go_at_call 22; refine (hnm _ _).mono ?_; rintro en w' ⟨rfl, rfl⟩)
  refine ⟨rfl, by kernel_rfl, ?_⟩
  go_upto_region 13 with (fail)
  have hOm0 := H5.out.hm
  dsimp only at hOm0
  have hOm := Lib.hid hOm0
  have hcolq := H5.out.cq
  have hlq5 := blk_lt H5.out.hq
  clear hOm0
  refine wp_region_text (by kernel_rfl) (by kernel_rfl) (by kernel_rfl) (by kernel_rfl) ?_
  go_wp2_with (at_builtin; refine wpList_append_j (k := kEdit) (T := 60) (by rfl) _ _ _ (by rfl) i _ Tryz.underlying36 hi1 hi2 hi3 rfl (by rfl) (by rfl) (Own.drew ((hOm.out.drew).alloc _)) (Rd.drew (Rd.one (heap_alloc_new _ _) (⟨(s.down : Int), ⟨2, r, 0, 1, (s.mine.length : Int) + 1⟩⟩ : Edit) rfl)) (by unfold maxLen; omega) (by rw [hi4]; omega) ?_; intro A6 c6 w6 hO6 hm6 hs6 _; have H6 := Lib.hid (((H5.out.drew.alloc (.cells #[.int .i64 (s.down : Int), .int .i64 2, .int .i64 r, .int .u8 0, .int .i64 1, .int .i64 ((s.mine.length : Int) + 1)] 60)).drew)); have hQ6 := hm6.heap H6.out.hq (by rw [hcolq]; decide); have f6 := blk_free hQ6; have g6 := blk_at hQ6; simp only [stL] at g6)
  refine ⟨rfl, by kernel_rfl, ?_⟩
  have H7 := Lib.hid (H6.out.setMine hm6 (hO6.mono (fun b _ h => by rcases h with h | h; exact .inl h; exact .inr (Nat.le_of_eq h.symm))))
  have hlq6 : q < w6.heap.size := blk_lt hQ6
  have hE6 := hm6.heap (blk_alloc (w := w5.drew) hE5 _) (by rw [hcE4]; decide)
  have hM6 := (hM5.drew.alloc (.cells #[.int .i64 (s.down : Int), .int .i64 2, .int .i64 r, .int .u8 0, .int .i64 1, .int .i64 ((s.mine.length : Int) + 1)] 60)).drew.trans hm6 (fun b hb h => by intro e; have := hcc4 b hb e; omega)
  have hs56 : w5.heap.size < w6.heap.size := by have := hm6.size; simp at this; omega
  go_upto_region 14 with (fail)
  obtain ⟨col7, hcol7⟩ : ∃ c, paint col4 ((w5.drew.alloc (.cells #[.int .i64 (s.down : Int), .int .i64 2, .int .i64 r, .int .u8 0, .int .i64 1, .int .i64 ((s.mine.length : Int) + 1)] 60)).drew).heap.size w6.heap.size 25 = c := ⟨_, rfl⟩
  rw [hcol7] at H7
  have hcc7 : ∀ b, b < w5.heap.size → col4 b = 0 → col7 b = 0 := fun b hb hc => by rw [← hcol7]; exact painted0 (by simp; omega) hc
  refine cut_worldO (F := fun w7 => Hid (StAt w0 w7 q { x with m := m4, mA := A6, mc := c6 } { s with g := G, mine := s.mine ++ [⟨(s.down : Int), ⟨2, r, 0, 1, (s.mine.length : Int) + 1⟩⟩] } col7) ∧ w7.heap[w1.heap.size]? = some (.cells #[.int .i64 (s.down : Int), .int .i64 2, .int .i64 r, .int .u8 0, .int .i64 1, .int .i64 ((s.mine.length : Int) + 1)] 60 (0, 0)) ∧ Mod (fun b => col b ≠ 0) w w7 ∧ Hid (Rd kElem w7 A0 s.g.text.length d0 s.g.text)) ⟨H7, blk_set_other hE6 (by dsimp only; omega) _, mod_setO hM6 (.inl hqn), Lib.hid (((HD5.out.drew.alloc _).drew.mod hm6 (fun a ha h => by have := (hcA4 a ha).1; omega)).mod (mod_setO (Mod.refl (fun b => b = q) w6) (.inl rfl)) (fun a ha h => by have := (hcA4 a ha).2.1; have h8 : q < w.heap.size := by { rcases Nat.lt_or_ge q w.heap.size with h9 | h9; exact h9; exact absurd (hz q h9) hqn }; omega))⟩ ?_
  clear H7 hE6 hM6 H6 hQ6 f6 g6 hO6 hm6 hs6 hcol7 H5 hE5 hM5 HD5 hQE5 hOm k0 k1 k2 k3 k4 k5 k6 k7 k8 k9
  rintro w7 ⟨H7, hE7, hM7, HD7⟩
  obtain ⟨k0, k1, k2, k3, k4, k5, k6, k7, k8, k9⟩ := H7.out.cells
  dsimp only at k0 k1 k2 k3 k4 k5 k6 k7 k8 k9
  have hQE7 := blk_at hE7
  have hlE7 := blk_lt hE7
  have hdc7 := fun w' (h' : StAt w0 w' q { x with m := m4, mA := A6, mc := c6 } { s with g := G, mine := s.mine ++ [⟨(s.down : Int), ⟨2, r, 0, 1, (s.mine.length : Int) + 1⟩⟩] } col7) => gDoc x.p m4 G col7 1 w' h'.c HGK.out
  rw [HGT.out] at hdc7
  go_wp2_with (first
    | (go_at_call 12; refine (hpt w7 HD7.out).mono ?_; rintro en w8 ⟨A8, n8, c8, rfl, hm8, hO8⟩; have H8 := Lib.hid (H7.out.mod0 hm8); have i0 := H8.out.cells.1; have HO8 := Lib.hid hO8)
    | (go_at_call 14; refine (hdc7 _ H8.out).mono ?_; rintro en w9 ⟨A9, d9, rfl, hm9, hO9⟩)
    | (go_at_call 13; refine (hsd _ _ _ _ _ _ _ _ _ hO9.rd (HO8.out.rd.mod0 hm9)).mono ?_; rintro en w10 ⟨rfl, hm10⟩))
  all_goals go_ret
  exact ⟨by simp, _, _, H7.out.mod0 (hm8.then0 (hm9.then0 hm10)), hM7.then0 (hm8.then0 (hm9.then0 hm10)), fun b hb hc => hcc7 b (by omega) (hcc4 b hb hc)⟩

end Go.Proofs.YtjojhfphlnfimaaGreatDoor.J
