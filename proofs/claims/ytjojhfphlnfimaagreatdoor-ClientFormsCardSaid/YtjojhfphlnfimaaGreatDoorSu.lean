/- The stage's calls: up. -/
import Derived.Test.YtjojhfphlnfimaaGreatDoorSl
namespace Go.Proofs.YtjojhfphlnfimaaGreatDoor.J
open Go Go.RowKit
set_option linter.unusedSimpArgs false
set_option linter.unusedVariables false

/-- The server takes in the client's next edit. -/
def St.took (s : St) (e : Edit) : St :=
  { s with has_ := s.has_ + 1, side := setOps (dropE e.tag s.side) (pastE e.op (opsOf (dropE e.tag s.side)) true).2, text := applyE s.text (pastE e.op (opsOf (dropE e.tag s.side)) true).1, log := s.log ++ [(pastE e.op (opsOf (dropE e.tag s.side)) true).1] }

theorem up_none (w0 w : World) (q : Nat) (x : StX) (s : St) (col : Nat → Nat) (h : StAt w0 w q x s col) (hh : s.mine.length ≤ s.has_) :
    Calls Tryz.prog 17 #[.pointer (some ⟨q, 0, none⟩)] w fun e w' => e = .returned (.bool true) ∧ Mod No w w' := by
  obtain ⟨k0, k1, k2, k3, k4, k5, k6, k7, k8, k9⟩ := h.cells
  have hd : decide ((s.mine.length : Int) ≤ (s.has_ : Int)) = true := by simp; omega
  have hd2 : decide (s.mine.length ≤ s.has_) = true := by simp; omega
  clear h
  go_enter Tryz.func17, Tryz.ntmps17
  go_upto_region 1 with (fail)
  refine wp_region_text (by kernel_rfl) (by kernel_rfl) (by kernel_rfl) (by kernel_rfl) ?_
  go_wp2
  refine ⟨rfl, by kernel_rfl, ?_⟩
  go_wp2
  go_ret
  exact ⟨rfl, (Mod.refl No w).drew⟩

theorem dropE_sub (k : Int) (l : List Marked) {q : Marked} (h : q ∈ dropE k l) : q ∈ l := (List.dropWhile_sublist _).subset h
theorem dropE_le (k : Int) (l : List Marked) : (dropE k l).length ≤ l.length := (List.dropWhile_sublist _).length_le
theorem StTo.intro {w0 w w' : World} {q : Nat} {col col' : Nat → Nat} {x' : StX} {s' : St} (h : StAt w0 w' q x' s' col') (hm : Mod (fun b => col b ≠ 0) w w') (hc : ∀ b, b < w.heap.size → col b = 0 → col' b = 0) : StTo w0 w q col s' w' := ⟨x', col', h, hm, hc⟩

set_option maxRecDepth 100000 in
set_option maxHeartbeats 8000000 in
theorem up_some (w0 w : World) (q : Nat) (x : StX) (s : St) (col : Nat → Nat) (e0 : Edit) (h : StAt w0 w q x s col) (he : s.mine[s.has_]? = some e0) (hv : validE e0.op = 0) (hhs : s.has_ ≤ 1000)
    (hf : fitsE s.text.length (pastE e0.op (opsOf (dropE e0.tag s.side)) true).1 = 0) (hl : s.log.length ≤ 1000) (hsn : s.side.length ≤ 4096) (hsb : ∀ m ∈ s.side, bnd 8192 m.op) :
    Calls Tryz.prog 17 #[.pointer (some ⟨q, 0, none⟩)] w fun e w' => e = .returned (.bool true) ∧ StTo w0 w q col (s.took e0) w' := by
  have hlt : s.has_ < s.mine.length := (List.getElem?_eq_some_iff.1 he).1
  obtain ⟨be, oe, x0, hx0, hAe, x1, x2, x3, x4, x5, x6⟩ := h.hm.rd.edit hlt
  obtain rfl : e0 = x0 := Option.some.inj (he.symm.trans hx0)
  have hcr := fun w' A' c' S' hT' hs' hS' => cross_any e0.op (wf_of_valid hv) hv x.sp A' (dropE e0.tag s.side).length c' (dropE e0.tag s.side) s.slast true S' w' hT' hs' hS' (Nat.le_trans (dropE_le _ _) hsn) 8192 (by decide) (by decide) (bnd_of_valid hv (by decide)) (fun m hm => hsb m (dropE_sub _ _ hm))
  have hR := past_len e0.op (dropE e0.tag s.side) true
  have htk : s.took e0 = { s with has_ := s.has_ + 1, side := setOps (dropE e0.tag s.side) (pastE e0.op (opsOf (dropE e0.tag s.side)) true).2, text := applyE s.text (pastE e0.op (opsOf (dropE e0.tag s.side)) true).1, log := s.log ++ [(pastE e0.op (opsOf (dropE e0.tag s.side)) true).1] } := rfl
  rw [htk]
  obtain ⟨D, hD⟩ : ∃ D, dropE e0.tag s.side = D := ⟨_, rfl⟩
  obtain ⟨R, hRR⟩ : ∃ R, pastE e0.op (opsOf D) true = R := ⟨_, rfl⟩
  rw [hD] at hcr hR hf ⊢
  rw [hRR] at hcr hR hf ⊢
  have HD := Lib.hid hD
  clear htk hD hRR hx0
  obtain ⟨⟨r1, r2, r3, r4, r5⟩, mk⟩ := R
  dsimp only at hcr hR hf
  have hdr := fun w' (h' : SpAt w' x.sp x.sA s.side.length x.sc s.side s.slast true (fun b => col b = 22)) => dropTo_any e0.tag x.sp x.sA s.side.length x.sc s.side s.slast true (fun b => col b = 22) w' h' hsn
  rw [HD.out] at hdr
  obtain ⟨xt, ⟨q1, q2, q3, q4, q5⟩⟩ := e0
  dsimp only at hcr hdr x1 x2 x3 x4 x5 x6
  simp only [Op.v] at hcr
  obtain ⟨k0, k1, k2, k3, k4, k5, k6, k7, k8, k9⟩ := h.cells
  rw [hAe] at k4
  have hff := h.cf
  have hd : decide ((s.mine.length : Int) ≤ (s.has_ : Int)) = false := by simp; omega
  have hd2 : decide (s.mine.length ≤ s.has_) = false := by simp; omega
  have hs0 : (0 : Int) ≤ (s.has_ : Int) := by omega
  have hmm : s.mine.length ≤ maxLen := h.hm.rd.max
  unfold maxLen at hmm
  have hplt := blk_lt h.hq
  have hcx : col w.heap.size = 0 := h.c.hz _ (Nat.le_refl _)
  have hzz := h.c.hz
  have HR := Lib.hid hR
  have HF := Lib.hid hf
  have HH := Lib.hid h
  clear h he hAe hR hf hv hsb
  go_enter Tryz.func17, Tryz.ntmps17
  go_upto_region 1 with (fail)
  refine wp_region_text (by kernel_rfl) (by kernel_rfl) (by kernel_rfl) (by kernel_rfl) ?_
  go_wp2
  refine ⟨rfl, by kernel_rfl, ?_⟩
  go_upto_region 3 with (fail)
  refine wp_region_text (by kernel_rfl) (by kernel_rfl) (by kernel_rfl) (by kernel_rfl) ?_
  go_wp2
  refine ⟨rfl, by kernel_rfl, ?_⟩
  go_upto_region 5 with (fail)
  have HS5 : StAt w0 ((w.setCell ⟨q, 5, none⟩ (.int .i64 ((s.has_ : Int) + 1))).alloc (.cells #[.int .i64 xt, .int .i64 q1, .int .i64 q2, .int .u8 q3, .int .i64 q4, .int .i64 q5] 60)) q x { s with has_ := s.has_ + 1 } col := by
    have := (HH.out.setHas (s.has_ + 1)).alloc (.cells #[.int .i64 xt, .int .i64 q1, .int .i64 q2, .int .u8 q3, .int .i64 q4, .int .i64 q5] 60)
    rwa [show ((s.has_ + 1 : Nat) : Int) = (s.has_ : Int) + 1 by omega] at this
  refine cut_worldO (F := fun w5 => Hid (StAt w0 w5 q x { s with has_ := s.has_ + 1 } col) ∧ w5.heap[w.heap.size]? = some (.cells #[.int .i64 xt, .int .i64 q1, .int .i64 q2, .int .u8 q3, .int .i64 q4, .int .i64 q5] 60 (0, 0)) ∧ Mod (fun b => col b ≠ 0) w w5) ⟨Lib.hid HS5.drew.drew, blk_new _ (.cells #[.int .i64 xt, .int .i64 q1, .int .i64 q2, .int .u8 q3, .int .i64 q4, .int .i64 q5] 60) (by simp), (((mod_setO (Mod.refl (fun b => col b ≠ 0) w) (.inl HH.out.q_ne)).alloc _).drew).drew⟩ ?_
  clear HS5 x1 x2 x3 x4 x5 x6 k0 k1 k2 k3 k4 k5 k6 k7 k8 k9 hff hd hd2
  rintro w5 ⟨H5, hX5, hM5⟩
  obtain ⟨k0, k1, k2, k3, k4, k5, k6, k7, k8, k9⟩ := H5.out.cells
  have hQX5 := blk_at hX5
  have hlX5 := blk_lt hX5
  have hsp := H5.out.cp
  refine wp_region_text (by kernel_rfl) (by kernel_rfl) (by kernel_rfl) (by kernel_rfl) ?_
  go_wp2_with (go_at_call 37; refine (hdr w5.drew H5.out.drew.hs).mono ?_; rintro en w6 ⟨A6, c6, rfl, hS6, hm6⟩; have H6 := Lib.hid (H5.out.drew.space (hm6.mono (fun b _ h => .inl h)) ⟨hS6.1, hS6.2.mono (fun b _ h => .inr h)⟩); have hX6 := hm6.heap (w := w5.drew) hX5 (by intro e; rw [← e] at hsp; omega); have hM6 := hM5.drew.trans hm6 (fun b hb e => by subst e; omega))
  refine ⟨rfl, by kernel_rfl, ?_⟩
  go_upto_region 6 with (fail)
  have hcz6 : ∀ b, b < w5.heap.size → col b = 0 → paint col w5.heap.size w6.heap.size 22 b = 0 := fun b hb hc => painted0 hb hc
  obtain ⟨col6, hcol6⟩ : ∃ c, paint col w5.heap.size w6.heap.size 22 = c := ⟨_, rfl⟩
  have H6' : StAt w0 w6 q { x with sA := A6, sc := c6 } { s with has_ := s.has_ + 1, side := D } col6 := by rw [← hcol6]; exact H6.out
  rw [hcol6] at hcz6
  have hs56 : w5.heap.size ≤ w6.heap.size := hm6.size
  clear H6 hcol6 hS6 hm6 H5 hX5 hM5 hQX5 hsp k0 k1 k2 k3 k4 k5 k6 k7 k8 k9 hdr
  have H6 := Lib.hid H6'
  clear H6'
  obtain ⟨k0, k1, k2, k3, k4, k5, k6, k7, k8, k9⟩ := H6.out.cells
  have hQX6 := blk_at hX6
  have hlX6 := blk_lt hX6
  have hsp6 := H6.out.cp
  dsimp only at hsp6
  have hb6 : col6 w.heap.size = 0 := hcz6 _ hlX5 hcx
  have hst6 := H6.out.hs
  dsimp only at hst6
  have HST6 := Lib.hid hst6
  clear hst6
  refine wp_region_fork ([0, 1, 2, 3, 4, 5].map (·, false)) 7 #[true, true, true, true, true, true, false, false, false, false, false, false, false] (by kernel_rfl) (by kernel_rfl) (by kernel_rfl) (by kernel_rfl) ?_
  simp only [List.map_cons, List.map_nil, List.filterMap_cons, List.filterMap_nil, pick, List.getElem?_toArray, List.getElem?_cons_zero, List.getElem?_cons_succ, Option.map_some]
  refine wpSeg_rest [_, _, _, _, _, _] ?_
  go_wp2
  refine ⟨rfl, by kernel_rfl, fun hd => ?_⟩
  refine wpAnyL_fork2 (Q := fun _ => _) 6 10 false false [(7, false), (8, false), (9, false), (10, false), (11, false), (12, false)] [(6, false), (7, false), (8, false), (9, false), (11, false), (12, false)] 0 0 #[true, true, true, true, true, true, true, true, true, true, true, true, true] #[true, true, true, true, true, true, true, true, true, true, true, true, true] (by kernel_rfl) (by kernel_rfl) hd (by decide) (by decide) (by kernel_rfl) (by kernel_rfl) (by kernel_rfl) (by kernel_rfl) (by kernel_rfl) ?_ ?_
  · simp only [List.map_cons, List.map_nil, List.filterMap_cons, List.filterMap_nil, pick, List.getElem?_toArray, List.getElem?_cons_zero, List.getElem?_cons_succ, Option.map_some]
    refine wpSeg_rest [_, _, _, _, _, _, _] ?_
    go_wp2_with (go_at_call 38; refine (hcr w6.drew A6 c6 (fun b => col6 b = 22) H6.out.drew.b.otT (HST6.out.mod (Mod.refl No w6).drew (fun h => h) (fun _ _ _ h => h) (fun _ _ h => h)) (by omega)).mono ?_; rintro en w7 ⟨rfl, hS7, hm7⟩; have H7 := Lib.hid (H6.out.drew.spaceIn hm7 hS7 HR.out); have hM7 := hM6.drew.trans hm7 (fun b hb h => by intro e; have := hcz6 b (Nat.lt_of_lt_of_le hb (by omega)) e; omega))
    refine ⟨rfl, by kernel_rfl, fun _ => wpAnyL_done (by kernel_rfl) ⟨rfl, ?_⟩⟩
    refine cut_worldO (F := fun w9 => Hid (StAt w0 w9 q { x with sA := A6, sc := c6 } { s with has_ := s.has_ + 1, side := setOps D mk } col6) ∧ w9.heap[w7.heap.size]? = some (.cells #[.int .i64 r1, .int .i64 r2, .int .u8 r3, .int .i64 r4, .int .i64 r5] 32 (0, 0)) ∧ Mod (fun b => col b ≠ 0) w w9 ∧ w5.heap.size ≤ w9.heap.size) ⟨Lib.hid (H7.out.alloc (.cells #[.int .i64 r1, .int .i64 r2, .int .u8 r3, .int .i64 r4, .int .i64 r5] 32)), blk_new w7 (.cells #[.int .i64 r1, .int .i64 r2, .int .u8 r3, .int .i64 r4, .int .i64 r5] 32) rfl, hM7.alloc (.cells #[.int .i64 r1, .int .i64 r2, .int .u8 r3, .int .i64 r4, .int .i64 r5] 32), by have : w6.heap.size ≤ w7.heap.size := hm7.size; simp; omega⟩ ?_
    clear H7 hM7 hS7 hm7 hcr hX6 hQX6 hM6 k0 k1 k2 k3 k4 k5 k6 k7 k8 k9
    rintro w9 ⟨H9, hX9, hM9, hs9⟩
    have hQX9 := blk_at hX9
    have hnm := fun w' => num_any 0 w'
    have hlg := fun w' (h' : StAt w0 w' q { x with sA := A6, sc := c6 } { s with has_ := s.has_ + 1, side := setOps D mk } col6) => logged_any w0 w' q _ _ col6 ⟨r1, r2, r3, r4, r5⟩ h' HF.out hl
    simp only [Op.v] at hlg
    go_wp2_with (first
      | (go_at_call 22; refine (hnm _).mono ?_; rintro en w' ⟨rfl, rfl⟩)
      | (go_at_call 39; refine (hlg _ H9.out).mono ?_; rintro en w10 ⟨rfl, x10, col10, H10, hm10, hc10⟩))
    go_ret
    exact ⟨rfl, x10, col10, H10, hM9.trans hm10 (fun b hb h => by intro e; exact h (hcz6 b (by omega) e)), fun b hb hc => hc10 b (Nat.lt_of_lt_of_le hb hM9.size) (hcz6 b (by omega) hc)⟩
  · simp only [List.map_cons, List.map_nil, List.filterMap_cons, List.filterMap_nil, pick, List.getElem?_toArray, List.getElem?_cons_zero, List.getElem?_cons_succ, Option.map_some]
    refine wpSeg_rest [_, _, _, _, _, _, _] ?_
    have hZ0 := blk_new w6 (.cells #[.int .i64 0, .int .i64 0, .int .u8 0, .int .i64 0, .int .i64 0] 32) rfl
    have H6a := Lib.hid ((H6.out.alloc (.cells #[.int .i64 0, .int .i64 0, .int .u8 0, .int .i64 0, .int .i64 0] 32)).drew)
    have hzZ := H6.out.c.hz _ (Nat.le_refl _)
    go_wp2_with (go_at_call 38; refine (hcr (w6.alloc (.cells #[.int .i64 0, .int .i64 0, .int .u8 0, .int .i64 0, .int .i64 0] 32)).drew A6 c6 (fun b => col6 b = 22) H6a.out.b.otT (HST6.out.mod ((Mod.refl No w6).alloc (.cells #[.int .i64 0, .int .i64 0, .int .u8 0, .int .i64 0, .int .i64 0] 32)).drew (fun h => h) (fun _ _ _ h => h) (fun _ _ h => h)) (by omega)).mono ?_; rintro en w7 ⟨rfl, hS7, hm7⟩; have hZ7 := hm7.heap hZ0 (by rw [hzZ]; omega); have H7 := Lib.hid (H6a.out.spaceIn hm7 hS7 HR.out); have hM7 := (hM6.alloc (.cells #[.int .i64 0, .int .i64 0, .int .u8 0, .int .i64 0, .int .i64 0] 32)).drew.trans hm7 (fun b hb h => by intro e; have := hcz6 b (Nat.lt_of_lt_of_le hb (by have := hM6.size; omega)) e; omega); have hQZ7 := blk_at hZ7; have hFZ7 := blk_free hZ7)
    refine ⟨rfl, by kernel_rfl, fun _ => wpAnyL_done (by kernel_rfl) ⟨rfl, ?_⟩⟩
    have r2' : (fun b => col6 b = 0 ∧ w0.heap.size ≤ b) w6.heap.size ∨ w7.heap.size ≤ w6.heap.size := .inl ⟨hzZ, H6.out.b.md.size⟩
    have r3' : (fun b => col b ≠ 0) w6.heap.size ∨ w.heap.size ≤ w6.heap.size := .inr hM6.size
    refine cut_worldO (F := fun w9 => Hid (StAt w0 w9 q { x with sA := A6, sc := c6 } { s with has_ := s.has_ + 1, side := setOps D mk } col6) ∧ w9.heap[w6.heap.size]? = some (.cells #[.int .i64 r1, .int .i64 r2, .int .u8 r3, .int .i64 r4, .int .i64 r5] 32 (0, 0)) ∧ Mod (fun b => col b ≠ 0) w w9 ∧ w5.heap.size ≤ w9.heap.size)
      ⟨Lib.hid (H7.out.keep (mod_setO (mod_setO (mod_setO (mod_setO (mod_setO (Mod.refl (fun b => col6 b = 0 ∧ w0.heap.size ≤ b) w7) r2') r2') r2') r2') r2') (fun b _ h => h)), blk_set (blk_set (blk_set (blk_set (blk_set hZ7 0 _) 1 _) 2 _) 3 _) 4 _,
       mod_setO (mod_setO (mod_setO (mod_setO (mod_setO hM7 r3') r3') r3') r3') r3', by have := hm7.size; simp at this ⊢; omega⟩ ?_
    clear H7 hM7 hS7 hm7 hcr hX6 hQX6 hM6 k0 k1 k2 k3 k4 k5 k6 k7 k8 k9 H6a hZ0 hZ7 hQZ7 hFZ7
    rintro w9 ⟨H9, hX9, hM9, hs9⟩
    have hQX9 := blk_at hX9
    have hnm := fun w' => num_any 0 w'
    have hlg := fun w' (h' : StAt w0 w' q { x with sA := A6, sc := c6 } { s with has_ := s.has_ + 1, side := setOps D mk } col6) => logged_any w0 w' q _ _ col6 ⟨r1, r2, r3, r4, r5⟩ h' HF.out hl
    simp only [Op.v] at hlg
    go_wp2_with (first
      | (go_at_call 22; refine (hnm _).mono ?_; rintro en w' ⟨rfl, rfl⟩)
      | (go_at_call 39; refine (hlg _ H9.out).mono ?_; rintro en w10 ⟨rfl, x10, col10, H10, hm10, hc10⟩))
    go_ret
    exact ⟨rfl, x10, col10, H10, hM9.trans hm10 (fun b hb h => by intro e; exact h (hcz6 b (by omega) e)), fun b hb hc => hc10 b (Nat.lt_of_lt_of_le hb hM9.size) (hcz6 b (by omega) hc)⟩
end Go.Proofs.YtjojhfphlnfimaaGreatDoor.J
