/- The stage's calls: others. -/
import Derived.Test.YtjojhfphlnfimaaGreatDoorSd
namespace Go.Proofs.YtjojhfphlnfimaaGreatDoor.J
open Go Go.RowKit
set_option linter.unusedSimpArgs false
set_option linter.unusedVariables false

/-- Client 2's next edit is logged. -/
def St.wrote (s : St) (op : Op) : St :=
  { s with seq := s.seq + 1, text := applyE s.text op, log := s.log ++ [op], side := s.side ++ [⟨(s.log.length : Int) + 1, op⟩], slast := (s.log.length : Int) + 1 }

theorem others_none (w0 w : World) (q : Nat) (x : StX) (s : St) (col : Nat → Nat) (k pat pch : Int) (h : StAt w0 w q x s col) (hh : 64 ≤ s.seq ∨ (k = 4 ∧ s.text = [])) :
    Calls Tryz.prog 36 #[.pointer (some ⟨q, 0, none⟩), .agg #[.int .i64 k, .int .i64 pat, .int .i64 pch]] w fun e w' => e = .returned (.bool true) ∧ Mod No w w' := by
  have h0 := h.alloc (.cells #[.int .i64 k, .int .i64 pat, .int .i64 pch] 51)
  obtain ⟨k0, k1, k2, k3, k4, k5, k6, k7, k8, k9⟩ := h0.cells
  have hX0 : (w.alloc (.cells #[.int .i64 k, .int .i64 pat, .int .i64 pch] 51)).heap[w.heap.size]? = some (.cells #[.int .i64 k, .int .i64 pat, .int .i64 pch] 51 (0, 0)) := blk_new _ _ rfl
  have hQX := blk_at hX0
  by_cases h1 : 64 ≤ s.seq
  · have hd : decide ((64 : Int) ≤ (s.seq : Int)) = true := by simp; omega
    clear h h0 hh
    go_enter Tryz.func36, Tryz.ntmps36
    go_wp2
    go_ret
    exact ⟨rfl, (Mod.refl No w).alloc _⟩
  · obtain ⟨rfl, ht⟩ := hh.resolve_left h1
    have hd : decide ((64 : Int) ≤ (s.seq : Int)) = false := by simp; omega
    have hl : s.text.length = 0 := by rw [ht]; rfl
    rw [hl] at k2
    clear h h0 hh ht hl
    go_enter Tryz.func36, Tryz.ntmps36
    go_wp2
    go_ret
    exact ⟨rfl, (Mod.refl No w).alloc _⟩

set_option maxRecDepth 100000 in
set_option maxHeartbeats 8000000 in
theorem others_ins (w0 w : World) (q : Nat) (x : StX) (s : St) (col : Nat → Nat) (pat pch : Int) (h : StAt w0 w q x s col) (hs : s.seq < 64) (htn : s.text.length ≤ 1000) (hl : s.log.length ≤ 1000) (hsn : s.side.length ≤ 4096) (hla : s.slast < (s.log.length : Int) + 1) :
    Calls Tryz.prog 36 #[.pointer (some ⟨q, 0, none⟩), .agg #[.int .i64 3, .int .i64 pat, .int .i64 pch]] w fun e w' => e = .returned (.bool true) ∧ StTo w0 w q col (s.wrote ⟨1, restE pat ((s.text.length : Int) + 1), 32 + restE pch 95, 2, (s.seq : Int) + 1⟩) w' := by
  obtain ⟨r, hr⟩ : ∃ r, restE pat ((s.text.length : Int) + 1) = r := ⟨_, rfl⟩
  have hrb := restE_bd pat (n := (s.text.length : Int) + 1) (by omega)
  have hra := fun w => rest_any pat ((s.text.length : Int) + 1) w (by omega) (by omega)
  rw [hr] at hrb ⊢
  simp only [hr] at hra
  have hcb := restE_bd pch (n := 95) (by decide)
  have hle := fun w => letter_any pch w
  obtain ⟨ch, hch⟩ : ∃ c, 32 + restE pch 95 = c := ⟨_, rfl⟩
  rw [hch] at ⊢
  simp only [hch] at hle
  have c0 : 32 ≤ ch := by omega
  have c1 : ch ≤ 126 := by omega
  clear hch hcb
  obtain ⟨r0, r1⟩ := hrb
  have hfit : fitsE s.text.length ⟨1, r, ch, 2, (s.seq : Int) + 1⟩ = 0 := fits_insert r0 (by omega) (by omega) c0 c1 (by decide) (by decide) (by omega) (by omega)
  obtain ⟨hval, _⟩ := fitsE_zero hfit
  have hlg := fun w' (h' : StAt w0 w' q x { s with seq := s.seq + 1 } col) => logged_any w0 w' q x _ col ⟨1, r, ch, 2, (s.seq : Int) + 1⟩ h' hfit hl
  have hkp := fun w' sp A' c' S' hs' hp' => keep_ok sp A' s.side.length c' s.side s.slast true S' ((s.log.length : Int) + 1) ⟨1, r, ch, 2, (s.seq : Int) + 1⟩ w' (wf_of_valid hval) hs' hp' hval hla (by omega) hsn
  have hwr : s.wrote ⟨1, r, ch, 2, (s.seq : Int) + 1⟩ = { s with seq := s.seq + 1, text := applyE s.text ⟨1, r, ch, 2, (s.seq : Int) + 1⟩, log := s.log ++ [⟨1, r, ch, 2, (s.seq : Int) + 1⟩], side := s.side ++ [⟨(s.log.length : Int) + 1, ⟨1, r, ch, 2, (s.seq : Int) + 1⟩⟩], slast := (s.log.length : Int) + 1 } := rfl
  rw [hwr]
  simp only [Op.v] at hlg hkp
  clear hwr hfit hval hr hla
  have h0 := h.alloc (.cells #[.int .i64 3, .int .i64 pat, .int .i64 pch] 51)
  have hX0 : (w.alloc (.cells #[.int .i64 3, .int .i64 pat, .int .i64 pch] 51)).heap[w.heap.size]? = some (.cells #[.int .i64 3, .int .i64 pat, .int .i64 pch] 51 (0, 0)) := blk_new _ _ rfl
  have hQX := blk_at hX0
  have hM0 : Mod (fun b => col b ≠ 0) w (w.alloc (.cells #[.int .i64 3, .int .i64 pat, .int .i64 pch] 51)) := (Mod.refl _ w).alloc _
  have hz := h.c.hz
  have hqn := h.q_ne
  have hsz0 := h.b.md.size
  have hd : decide ((64 : Int) ≤ (s.seq : Int)) = false := by simp; omega
  obtain ⟨k0, k1, k2, k3, k4, k5, k6, k7, k8, k9⟩ := h.cells
  have hff := h.cf
  have hlq := blk_lt h.hq
  have H0 := Lib.hid h
  clear h h0 hQX hX0
  go_enter Tryz.func36, Tryz.ntmps36
  go_upto_region 5 with (fail)
  have HS5 : StAt w0 (((w.setCell ⟨q, 6, none⟩ (.int .i64 ((s.seq : Int) + 1))).alloc (.cells #[.int .i64 3, .int .i64 pat, .int .i64 pch] 51)).alloc (.cells #[.int .i64 2, .int .i64 0, .int .u8 0, .int .i64 2, .int .i64 ((s.seq : Int) + 1)] 32)) q x { s with seq := s.seq + 1 } col := by
    have := (((H0.out.setSeq (s.seq + 1)).alloc (.cells #[.int .i64 3, .int .i64 pat, .int .i64 pch] 51)).alloc (.cells #[.int .i64 2, .int .i64 0, .int .u8 0, .int .i64 2, .int .i64 ((s.seq : Int) + 1)] 32))
    rwa [show ((s.seq + 1 : Nat) : Int) = (s.seq : Int) + 1 by omega] at this
  refine cut_worldO (F := fun w5 => Hid (StAt w0 w5 q x { s with seq := s.seq + 1 } col) ∧ w5.heap[w.heap.size]? = some (.cells #[.int .i64 3, .int .i64 pat, .int .i64 pch] 51 (0, 0)) ∧ w5.heap[w.heap.size + 1]? = some (.cells #[.int .i64 2, .int .i64 0, .int .u8 0, .int .i64 2, .int .i64 ((s.seq : Int) + 1)] 32 (0, 0)) ∧ Mod (fun b => col b ≠ 0) w w5) ⟨Lib.hid HS5, blk_alloc (blk_new _ (.cells #[.int .i64 3, .int .i64 pat, .int .i64 pch] 51) (by simp)) _, blk_new _ (.cells #[.int .i64 2, .int .i64 0, .int .u8 0, .int .i64 2, .int .i64 ((s.seq : Int) + 1)] 32) (by simp), ((mod_setO (Mod.refl (fun b => col b ≠ 0) w) (.inl hqn)).alloc _).alloc _⟩ ?_
  clear HS5 k0 k1 k2 k3 k4 k5 k6 k7 k8 k9 hff hlq hd hM0 H0
  rintro w5 ⟨H5, hP5, hX5, hM5⟩
  obtain ⟨k0, k1, k2, k3, k4, k5, k6, k7, k8, k9⟩ := H5.out.cells
  dsimp only at k0 k1 k2 k3 k4 k5 k6 k7 k8 k9
  have hQP := blk_at hP5
  have hQX := blk_at hX5
  have hFX := blk_free hX5
  have hlP := blk_lt hP5
  have hlX := blk_lt hX5
  have hlq := blk_lt H5.out.hq
  have hqX : q ≠ w.heap.size + 1 := fun e => by rw [e] at hqn; exact hqn (hz _ (by omega))
  go_upto_region 7 with (fail)
  refine wp_region_text (by kernel_rfl) (by kernel_rfl) (by kernel_rfl) (by kernel_rfl) ?_
  go_wp2_with (go_at_call 9; refine (hra _).mono ?_; rintro en w6 ⟨rfl, rfl⟩)
  refine ⟨rfl, by kernel_rfl, ?_⟩
  go_upto_region 10 with (go_at_call 29; refine (hle _).mono ?_; rintro en w7 ⟨rfl, rfl⟩)
  have r1 : (fun b => col b = 0 ∧ w0.heap.size ≤ b) (w.heap.size + 1) ∨ w5.heap.size ≤ w.heap.size + 1 := .inl ⟨hz _ (by omega), by omega⟩
  have r2 : (fun b => col b ≠ 0) (w.heap.size + 1) ∨ w.heap.size ≤ w.heap.size + 1 := .inr (by omega)
  refine cut_worldO (F := fun w9 => Hid (StAt w0 w9 q x { s with seq := s.seq + 1 } col) ∧ w9.heap[w.heap.size + 1]? = some (.cells #[.int .i64 1, .int .i64 r, .int .u8 ch, .int .i64 2, .int .i64 ((s.seq : Int) + 1)] 32 (0, 0)) ∧ Mod (fun b => col b ≠ 0) w w9) ⟨Lib.hid ((H5.out.keep (mod_setO (mod_setO (mod_setO (Mod.refl (fun b => col b = 0 ∧ w0.heap.size ≤ b) w5) r1) r1) r1) (fun b _ h => h)).drew), blk_set (blk_set (blk_set hX5 0 (.int .i64 1)) 1 (.int .i64 r)) 2 (.int .u8 ch), (mod_setO (mod_setO (mod_setO hM5 r2) r2) r2).drew⟩ ?_
  clear r1 r2 H5 hP5 hX5 hM5 k0 k1 k2 k3 k4 k5 k6 k7 k8 k9 hQP hQX hFX hlP hlX hlq hra
  rintro w9 ⟨H9, hX9, hM9⟩
  have hQ9 := blk_at hX9
  have hl9 := blk_lt hX9
  go_upto_region 11 with (go_at_call 39; refine (hlg _ H9.out).mono ?_; rintro en w10 ⟨rfl, x10, col10, H10, hm10, hc10⟩)
  have HH10 := Lib.hid H10
  have hX10 := hm10.heap hX9 (by rw [hz _ (by omega)]; simp)
  obtain ⟨k0, k1, k2, k3, k4, k5, k6, k7, k8, k9⟩ := H10.cells
  dsimp only at k0 k1 k2 k3 k4 k5 k6 k7 k8 k9
  rw [List.length_append] at k3
  simp only [List.length_cons, List.length_nil, Nat.zero_add, Int.natCast_add, Int.natCast_one] at k3
  have hQ10 := blk_at hX10
  have hl10 := blk_lt hX10
  have hsp10 := H10.cp
  have hst10 := H10.hs
  dsimp only at hst10
  have HST := Lib.hid hst10
  clear hst10 H10
  have hnm := fun w' => num_any 0 w'
  refine wp_region_text (by kernel_rfl) (by kernel_rfl) (by kernel_rfl) (by kernel_rfl) ?_
  go_wp2_with (first
    | (go_at_call 62; refine (hkp _ _ _ _ _ (HST.out.mod (Mod.refl No w10).drew (fun h => h) (fun _ _ _ h => h) (fun _ _ h => h)) (by omega)).mono ?_; rintro en w12 ⟨rfl, A12, c12, hS12, hm12⟩; have H12 := Lib.hid (HH10.out.drew.space hm12 (l := s.side ++ [⟨(s.log.length : Int) + 1, ⟨1, r, ch, 2, (s.seq : Int) + 1⟩⟩]) (by rw [List.length_append]; exact hS12)))
    | (go_at_call 22; refine (hnm _).mono ?_; rintro en w' ⟨rfl, rfl⟩))
  refine ⟨rfl, by kernel_rfl, ?_⟩
  go_wp2
  go_ret
  have hsz9 := hM9.size
  have hsz10 : w9.heap.size ≤ w10.heap.size := hm10.size
  refine ⟨rfl, _, _, H12.out, ?_, fun b hb hc => ?_⟩
  · refine (hM9.and (hm10.mono (fun b _ h => h))).drew.trans hm12 (fun b hb h => ?_)
    intro e
    have := hc10 b (by omega) e
    rcases h with h | h
    · subst h; omega
    · omega
  · exact painted0 (by simp; omega) (hc10 b (by omega) hc)

set_option maxRecDepth 100000 in
set_option maxHeartbeats 8000000 in
theorem others_del (w0 w : World) (q : Nat) (x : StX) (s : St) (col : Nat → Nat) (pat pch : Int) (h : StAt w0 w q x s col) (hs : s.seq < 64) (htn : s.text.length ≤ 1000) (ht1 : 1 ≤ s.text.length) (hl : s.log.length ≤ 1000) (hsn : s.side.length ≤ 4096) (hla : s.slast < (s.log.length : Int) + 1) :
    Calls Tryz.prog 36 #[.pointer (some ⟨q, 0, none⟩), .agg #[.int .i64 4, .int .i64 pat, .int .i64 pch]] w fun e w' => e = .returned (.bool true) ∧ StTo w0 w q col (s.wrote ⟨2, restE pat (s.text.length : Int), 0, 2, (s.seq : Int) + 1⟩) w' := by
  obtain ⟨r, hr⟩ : ∃ r, restE pat (s.text.length : Int) = r := ⟨_, rfl⟩
  have hrb := restE_bd pat (n := (s.text.length : Int)) (by omega)
  have hra := fun w => rest_any pat ((s.text.length : Int)) w (by omega) (by omega)
  rw [hr] at hrb ⊢
  simp only [hr] at hra
  obtain ⟨r0, r1⟩ := hrb
  have hfit : fitsE s.text.length ⟨2, r, 0, 2, (s.seq : Int) + 1⟩ = 0 := fits_delete r0 r1 (by omega) (by decide) (by decide) (by omega) (by omega)
  obtain ⟨hval, _⟩ := fitsE_zero hfit
  have hlg := fun w' (h' : StAt w0 w' q x { s with seq := s.seq + 1 } col) => logged_any w0 w' q x _ col ⟨2, r, 0, 2, (s.seq : Int) + 1⟩ h' hfit hl
  have hkp := fun w' sp A' c' S' hs' hp' => keep_ok sp A' s.side.length c' s.side s.slast true S' ((s.log.length : Int) + 1) ⟨2, r, 0, 2, (s.seq : Int) + 1⟩ w' (wf_of_valid hval) hs' hp' hval hla (by omega) hsn
  have hwr : s.wrote ⟨2, r, 0, 2, (s.seq : Int) + 1⟩ = { s with seq := s.seq + 1, text := applyE s.text ⟨2, r, 0, 2, (s.seq : Int) + 1⟩, log := s.log ++ [⟨2, r, 0, 2, (s.seq : Int) + 1⟩], side := s.side ++ [⟨(s.log.length : Int) + 1, ⟨2, r, 0, 2, (s.seq : Int) + 1⟩⟩], slast := (s.log.length : Int) + 1 } := rfl
  rw [hwr]
  simp only [Op.v] at hlg hkp
  clear hwr hfit hval hr hla
  have h0 := h.alloc (.cells #[.int .i64 4, .int .i64 pat, .int .i64 pch] 51)
  have hX0 : (w.alloc (.cells #[.int .i64 4, .int .i64 pat, .int .i64 pch] 51)).heap[w.heap.size]? = some (.cells #[.int .i64 4, .int .i64 pat, .int .i64 pch] 51 (0, 0)) := blk_new _ _ rfl
  have hQX := blk_at hX0
  have hM0 : Mod (fun b => col b ≠ 0) w (w.alloc (.cells #[.int .i64 4, .int .i64 pat, .int .i64 pch] 51)) := (Mod.refl _ w).alloc _
  have hz := h.c.hz
  have hqn := h.q_ne
  have hsz0 := h.b.md.size
  have hd : decide ((64 : Int) ≤ (s.seq : Int)) = false := by simp; omega
  have hd2 : (((s.text.length : Nat) : Int) == 0) = false := by rw [beq_eq_false_iff_ne]; omega
  obtain ⟨k0, k1, k2, k3, k4, k5, k6, k7, k8, k9⟩ := h.cells
  have hff := h.cf
  have hlq := blk_lt h.hq
  have H0 := Lib.hid h
  clear h h0 hQX hX0
  go_enter Tryz.func36, Tryz.ntmps36
  go_upto_region 5 with (fail)
  have HS5 : StAt w0 (((w.setCell ⟨q, 6, none⟩ (.int .i64 ((s.seq : Int) + 1))).alloc (.cells #[.int .i64 4, .int .i64 pat, .int .i64 pch] 51)).alloc (.cells #[.int .i64 2, .int .i64 0, .int .u8 0, .int .i64 2, .int .i64 ((s.seq : Int) + 1)] 32)) q x { s with seq := s.seq + 1 } col := by
    have := (((H0.out.setSeq (s.seq + 1)).alloc (.cells #[.int .i64 4, .int .i64 pat, .int .i64 pch] 51)).alloc (.cells #[.int .i64 2, .int .i64 0, .int .u8 0, .int .i64 2, .int .i64 ((s.seq : Int) + 1)] 32))
    rwa [show ((s.seq + 1 : Nat) : Int) = (s.seq : Int) + 1 by omega] at this
  refine cut_worldO (F := fun w5 => Hid (StAt w0 w5 q x { s with seq := s.seq + 1 } col) ∧ w5.heap[w.heap.size]? = some (.cells #[.int .i64 4, .int .i64 pat, .int .i64 pch] 51 (0, 0)) ∧ w5.heap[w.heap.size + 1]? = some (.cells #[.int .i64 2, .int .i64 0, .int .u8 0, .int .i64 2, .int .i64 ((s.seq : Int) + 1)] 32 (0, 0)) ∧ Mod (fun b => col b ≠ 0) w w5) ⟨Lib.hid HS5, blk_alloc (blk_new _ (.cells #[.int .i64 4, .int .i64 pat, .int .i64 pch] 51) (by simp)) _, blk_new _ (.cells #[.int .i64 2, .int .i64 0, .int .u8 0, .int .i64 2, .int .i64 ((s.seq : Int) + 1)] 32) (by simp), ((mod_setO (Mod.refl (fun b => col b ≠ 0) w) (.inl hqn)).alloc _).alloc _⟩ ?_
  clear HS5 k0 k1 k2 k3 k4 k5 k6 k7 k8 k9 hff hlq hd hM0 H0
  rintro w5 ⟨H5, hP5, hX5, hM5⟩
  obtain ⟨k0, k1, k2, k3, k4, k5, k6, k7, k8, k9⟩ := H5.out.cells
  dsimp only at k0 k1 k2 k3 k4 k5 k6 k7 k8 k9
  have hQP := blk_at hP5
  have hQX := blk_at hX5
  have hFX := blk_free hX5
  have hlP := blk_lt hP5
  have hlX := blk_lt hX5
  have hlq := blk_lt H5.out.hq
  have hqX : q ≠ w.heap.size + 1 := fun e => by rw [e] at hqn; exact hqn (hz _ (by omega))
  go_upto_region 9 with (fail)
  refine wp_region_text (by kernel_rfl) (by kernel_rfl) (by kernel_rfl) (by kernel_rfl) ?_
  go_wp2_with (go_at_call 9; refine (hra _).mono ?_; rintro en w6 ⟨rfl, rfl⟩)
  refine ⟨rfl, by kernel_rfl, ?_⟩
  go_upto_region 10 with (fail)
  have r1 : (fun b => col b = 0 ∧ w0.heap.size ≤ b) (w.heap.size + 1) ∨ w5.heap.size ≤ w.heap.size + 1 := .inl ⟨hz _ (by omega), by omega⟩
  have r2 : (fun b => col b ≠ 0) (w.heap.size + 1) ∨ w.heap.size ≤ w.heap.size + 1 := .inr (by omega)
  refine cut_worldO (F := fun w9 => Hid (StAt w0 w9 q x { s with seq := s.seq + 1 } col) ∧ w9.heap[w.heap.size + 1]? = some (.cells #[.int .i64 2, .int .i64 r, .int .u8 0, .int .i64 2, .int .i64 ((s.seq : Int) + 1)] 32 (0, 0)) ∧ Mod (fun b => col b ≠ 0) w w9) ⟨Lib.hid ((H5.out.keep (mod_setO (Mod.refl (fun b => col b = 0 ∧ w0.heap.size ≤ b) w5) r1) (fun b _ h => h)).drew), blk_set hX5 1 (.int .i64 r), (mod_setO hM5 r2).drew⟩ ?_
  clear r1 r2 H5 hP5 hX5 hM5 k0 k1 k2 k3 k4 k5 k6 k7 k8 k9 hQP hQX hFX hlP hlX hlq hra
  rintro w9 ⟨H9, hX9, hM9⟩
  have hQ9 := blk_at hX9
  have hl9 := blk_lt hX9
  go_upto_region 11 with (go_at_call 39; refine (hlg _ H9.out).mono ?_; rintro en w10 ⟨rfl, x10, col10, H10, hm10, hc10⟩)
  have HH10 := Lib.hid H10
  have hX10 := hm10.heap hX9 (by rw [hz _ (by omega)]; simp)
  obtain ⟨k0, k1, k2, k3, k4, k5, k6, k7, k8, k9⟩ := H10.cells
  dsimp only at k0 k1 k2 k3 k4 k5 k6 k7 k8 k9
  rw [List.length_append] at k3
  simp only [List.length_cons, List.length_nil, Nat.zero_add, Int.natCast_add, Int.natCast_one] at k3
  have hQ10 := blk_at hX10
  have hl10 := blk_lt hX10
  have hsp10 := H10.cp
  have hst10 := H10.hs
  dsimp only at hst10
  have HST := Lib.hid hst10
  clear hst10 H10
  have hnm := fun w' => num_any 0 w'
  refine wp_region_text (by kernel_rfl) (by kernel_rfl) (by kernel_rfl) (by kernel_rfl) ?_
  go_wp2_with (first
    | (go_at_call 62; refine (hkp _ _ _ _ _ (HST.out.mod (Mod.refl No w10).drew (fun h => h) (fun _ _ _ h => h) (fun _ _ h => h)) (by omega)).mono ?_; rintro en w12 ⟨rfl, A12, c12, hS12, hm12⟩; have H12 := Lib.hid (HH10.out.drew.space hm12 (l := s.side ++ [⟨(s.log.length : Int) + 1, ⟨2, r, 0, 2, (s.seq : Int) + 1⟩⟩]) (by rw [List.length_append]; exact hS12)))
    | (go_at_call 22; refine (hnm _).mono ?_; rintro en w' ⟨rfl, rfl⟩))
  refine ⟨rfl, by kernel_rfl, ?_⟩
  go_wp2
  go_ret
  have hsz9 := hM9.size
  have hsz10 : w9.heap.size ≤ w10.heap.size := hm10.size
  refine ⟨rfl, _, _, H12.out, ?_, fun b hb hc => ?_⟩
  · refine (hM9.and (hm10.mono (fun b _ h => h))).drew.trans hm12 (fun b hb h => ?_)
    intro e
    have := hc10 b (by omega) e
    rcases h with h | h
    · subst h; omega
    · omega
  · exact painted0 (by simp; omega) (hc10 b (by omega) hc)

end Go.Proofs.YtjojhfphlnfimaaGreatDoor.J
