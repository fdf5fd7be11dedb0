/- The stage's calls: down. -/
import Derived.Test.YtjojhfphlnfimaaGreatDoorSu
namespace Go.Proofs.YtjojhfphlnfimaaGreatDoor.J
open Go Go.RowKit
set_option linter.unusedSimpArgs false
set_option linter.unusedVariables false

theorem down_none (w0 w : World) (q : Nat) (x : StX) (s : St) (col : Nat → Nat) (h : StAt w0 w q x s col) (hh : s.log.length ≤ s.down) :
    Calls Tryz.prog 18 #[.pointer (some ⟨q, 0, none⟩)] w fun e w' => e = .returned (.bool true) ∧ Mod No w w' := by
  obtain ⟨k0, k1, k2, k3, k4, k5, k6, k7, k8, k9⟩ := h.cells
  have hd : decide ((s.log.length : Int) ≤ (s.down : Int)) = true := by simp; omega
  have hd2 : decide (s.log.length ≤ s.down) = true := by simp; omega
  clear h
  go_enter Tryz.func18, Tryz.ntmps18
  go_upto_region 1 with (fail)
  refine wp_region_text (by kernel_rfl) (by kernel_rfl) (by kernel_rfl) (by kernel_rfl) ?_
  go_wp2
  refine ⟨rfl, by kernel_rfl, ?_⟩
  go_wp2
  go_ret
  exact ⟨rfl, (Mod.refl No w).drew⟩

/-- The record that the client is told next. -/
def St.msg (s : St) (o : Op) : Msg := ⟨5, s.epoch, 1, 0, 0, (s.down : Int) + 1 - s.base, 0, (s.down : Int) + 1, 0, o⟩

set_option maxRecDepth 100000 in
set_option maxHeartbeats 8000000 in
theorem down_some (w0 w : World) (q : Nat) (x : StX) (s : St) (col : Nat → Nat) (o : Op) (h : StAt w0 w q x s col) (ho : s.log[s.down]? = some o) (hk : s.g.Ok) (hg : goodE (s.msg o)) (hb : s.base ≤ s.down) (hdn : s.down ≤ 1000)
    (hacc : refusedE s.g (s.msg o) = 0) (hk2 : (recvE s.g (s.msg o)).Ok) (hhv : (recvE s.g (s.msg o)).hav = (s.down : Int) + 1) (hmd : (recvE s.g (s.msg o)).made = (s.mine.length : Int)) :
    Calls Tryz.prog 18 #[.pointer (some ⟨q, 0, none⟩)] w fun e w' => e = .returned (.bool true) ∧ StTo w0 w q col { s with g := recvE s.g (s.msg o), down := s.down + 1 } w' := by
  have hlt : s.down < s.log.length := (List.getElem?_eq_some_iff.1 ho).1
  obtain ⟨be, oe, x0, hx0, hAe, x1, x2, x3, x4, x5⟩ := h.hl.rd.opP hlt
  obtain rfl : o = x0 := Option.some.inj (ho.symm.trans hx0)
  have htl := fun w' (h' : StAt w0 w' q x { s with down := s.down + 1 } col) => told_any (s.msg o) (.inr (.inl rfl)) hg x.p x.m s.g col 1 w0 w' h'.c hk h'.b
  obtain ⟨G, hG⟩ : ∃ G, recvE s.g (s.msg o) = G := ⟨_, rfl⟩
  unfold ToldG at htl
  rw [hG] at hk2 hhv hmd htl ⊢
  have HACC := Lib.hid hacc
  clear hG hx0 hacc hg
  obtain ⟨q1, q2, q3, q4, q5⟩ := o
  dsimp only at x1 x2 x3 x4 x5
  obtain ⟨k0, k1, k2, k3, k4, k5, k6, k7, k8, k9⟩ := h.cells
  rw [hAe] at k3
  have hff := h.cf
  have hd : decide ((s.log.length : Int) ≤ (s.down : Int)) = false := by simp; omega
  have hd2 : decide (s.log.length ≤ s.down) = false := by simp; omega
  have hs0 : (0 : Int) ≤ (s.down : Int) := by omega
  have hb0 : (0 : Int) ≤ (s.base : Int) := by omega
  have hbi : (s.base : Int) ≤ (s.down : Int) := by omega
  have hmm : s.log.length ≤ maxLen := h.hl.rd.max
  unfold maxLen at hmm
  have hplt := blk_lt h.hq
  have hcx : col w.heap.size = 0 := h.c.hz _ (Nat.le_refl _)
  have HGV := Lib.hid hk2
  have HHV := Lib.hid hhv
  have HMD := Lib.hid hmd
  have HH := Lib.hid h
  clear h ho hAe hk2 hhv hmd
  go_enter Tryz.func18, Tryz.ntmps18
  go_upto_region 1 with (fail)
  refine wp_region_text (by kernel_rfl) (by kernel_rfl) (by kernel_rfl) (by kernel_rfl) ?_
  go_wp2
  refine ⟨rfl, by kernel_rfl, ?_⟩
  go_upto_region 3 with (fail)
  refine wp_region_text (by kernel_rfl) (by kernel_rfl) (by kernel_rfl) (by kernel_rfl) ?_
  go_wp2
  refine ⟨rfl, by kernel_rfl, ?_⟩
  go_upto_region 5 with (fail)
  have HS5 : StAt w0 ((w.setCell ⟨q, 7, none⟩ (.int .i64 ((s.down : Int) + 1))).alloc (.cells #[.int .i64 q1, .int .i64 q2, .int .u8 q3, .int .i64 q4, .int .i64 q5] 32)) q x { s with down := s.down + 1 } col := by
    have := (HH.out.setDown (s.down + 1)).alloc (.cells #[.int .i64 q1, .int .i64 q2, .int .u8 q3, .int .i64 q4, .int .i64 q5] 32)
    rwa [show ((s.down + 1 : Nat) : Int) = (s.down : Int) + 1 by omega] at this
  refine cut_worldO (F := fun w5 => Hid (StAt w0 w5 q x { s with down := s.down + 1 } col) ∧ w5.heap[w.heap.size]? = some (.cells #[.int .i64 q1, .int .i64 q2, .int .u8 q3, .int .i64 q4, .int .i64 q5] 32 (0, 0)) ∧ Mod (fun b => col b ≠ 0) w w5) ⟨Lib.hid HS5.drew.drew, blk_new _ (.cells #[.int .i64 q1, .int .i64 q2, .int .u8 q3, .int .i64 q4, .int .i64 q5] 32) (by simp), (((mod_setO (Mod.refl (fun b => col b ≠ 0) w) (.inl HH.out.q_ne)).alloc _).drew).drew⟩ ?_
  clear HS5 x1 x2 x3 x4 x5 k0 k1 k2 k3 k4 k5 k6 k7 k8 k9 hff hd hd2
  rintro w5 ⟨H5, hX5, hM5⟩
  obtain ⟨k0, k1, k2, k3, k4, k5, k6, k7, k8, k9⟩ := H5.out.cells
  dsimp only at k0 k1 k2 k3 k4 k5 k6 k7 k8 k9
  simp only [Int.natCast_add, Int.natCast_one] at k7
  have hQX5 := blk_at hX5
  have hlX5 := blk_lt hX5
  simp only [St.msg, Msg.v] at htl
  refine wp_region_text (by kernel_rfl) (by kernel_rfl) (by kernel_rfl) (by kernel_rfl) ?_
  go_wp2_with (go_at_call 10; refine (htl w5.drew H5.out.drew).mono ?_; rintro en w6 hT6; obtain ⟨_, rfl, m6, col6, hR6⟩ := hT6.resolve_left (fun h9 => h9.1 HACC.out); have H6 := Lib.hid (H5.out.drew.client hR6))
  refine ⟨rfl, by kernel_rfl, ?_⟩
  have hM6 : Mod (fun b => col b ≠ 0) w w6 := hM5.drew.trans hR6.md (fun b hb h9 => by omega)
  have hc6 : ∀ b, b < w.heap.size → col b = 0 → col6 b = 0 := fun b hb hc => (hR6.cl b (Nat.lt_of_lt_of_le hb hM5.size)).trans hc
  clear hR6 htl H5 hX5 hM5 hQX5 k0 k1 k2 k3 k4 k5 k6 k7 k8 k9
  obtain ⟨k0, k1, k2, k3, k4, k5, k6, k7, k8, k9⟩ := H6.out.cells
  dsimp only at k0 k1 k2 k3 k4 k5 k6 k7 k8 k9
  simp only [Int.natCast_add, Int.natCast_one] at k7
  have hvw := fun w' (h' : StAt w0 w' q { x with m := m6 } { s with g := G, down := s.down + 1 } col6) => gView x.p m6 G col6 1 w' h'.c HGV.out
  rw [HHV.out, HMD.out] at hvw
  go_upto_region 8 with (go_at_call 11; refine (hvw w6 H6.out).mono ?_; rintro en w7 ⟨A7, d7, B7, b7, rfl, hm7, _, _⟩; have H7 := Lib.hid (H6.out.mod0 hm7); obtain ⟨j0, j1, j2, j3, j4, j5, j6, j7, j8, j9⟩ := H7.out.cells; dsimp only at j0 j1 j2 j3 j4 j5 j6 j7 j8 j9; simp only [Int.natCast_add, Int.natCast_one] at j7)
  have hlq7 := blk_lt H7.out.hq
  have hV := blk_new w7 (.cells #[.int .i64 G.id, .int .i64 G.epoch, .bool G.ph.opn, .int .i64 (s.mine.length : Int), .int .i64 ((s.down : Int) + 1), .slice A7 G.text.length d7, .slice B7 G.pending.length b7] 38) rfl
  have hQV := blk_at hV
  refine wp_region_text (by kernel_rfl) (by kernel_rfl) (by kernel_rfl) (by kernel_rfl) ?_
  go_wp2
  refine ⟨rfl, by kernel_rfl, ?_⟩
  go_wp2
  go_ret
  exact ⟨rfl, _, _, (H7.out.alloc _).drew, ((hM6.then0 hm7).alloc _).drew, hc6⟩
end Go.Proofs.YtjojhfphlnfimaaGreatDoor.J
