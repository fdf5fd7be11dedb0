/- The stage is played: every step answers true and keeps the invariant. -/
import Derived.Test.YtjojhfphlnfimaaGreatDoorSk
namespace Go.Proofs.YtjojhfphlnfimaaGreatDoor.J
open Go Go.RowKit
set_option linter.unusedSimpArgs false
set_option linter.unusedVariables false

def m4 (e : Int) : Msg := ⟨4, e, 1, 0, 0, 0, 0, 0, 0, ⟨0, 0, 0, 0, 0⟩⟩
def m6 (e : Int) : Msg := ⟨6, e, 1, 0, 0, 0, 0, 0, 0, ⟨0, 0, 0, 0, 0⟩⟩

theorem epoch_g {g : Gc} {e : Int} (hk : g.Ok) (hid : g.id = 1) (he : g.epoch < e) (h1 : 1 ≤ e) (h2 : e ≤ 255) :
    refusedE g (m4 e) = 0 ∧ (recvE g (m4 e)).Ok ∧ refusedE (recvE g (m4 e)) (m6 e) = 0 ∧ recvE (recvE g (m4 e)) (m6 e) = { g with epoch := e, ph := .join, base := g.hav, cum := 0, held := [], acked := 0, sent := 0, left := g.pending } ∧ ({ g with epoch := e, ph := .join, base := g.hav, cum := 0, held := [], acked := 0, sent := 0, left := g.pending } : Gc).Ok := by
  have e1 : recvE g (m4 e) = { g with epoch := e, ph := .wait, base := g.hav, cum := 0, held := [], acked := 0, sent := 0, left := g.pending } := by
    unfold recvE m4
    simp only
    rw [if_pos trivial]
    unfold Gc.invited
    rw [if_neg (by omega)]
  have e2 : (recvE g (m4 e)).Ok := by
    have := hk.invited (e := e) (by omega) h2
    unfold recvE m4
    simp only
    rw [if_pos trivial]
    exact this
  have e3 := e2.join .join
  rw [e1] at e2 e3 ⊢
  refine ⟨?_, e2, ?_, ?_, e3⟩
  · unfold refusedE m4
    simp only
    rw [if_neg (by omega), if_neg (by rw [hid]; simp), if_neg (by omega), if_pos trivial]
  · unfold refusedE m6
    simp only
    rw [if_neg (by omega), if_neg (by rw [hid]; simp), if_neg (by omega), if_neg (by omega), if_neg (by omega), if_pos trivial]
  · unfold recvE m6
    simp only
    rw [if_neg (by omega), if_pos trivial]
    unfold Gc.ackE
    rw [if_neg (by simp only; omega)]

theorem Inv.epoch {s : St} (h : Inv s) {g' : Gc} (he : s.epoch < 255) (hg : g' = { s.g with epoch := ((s.epoch + 1 : Nat) : Int), ph := .join, base := s.g.hav, cum := 0, held := [], acked := 0, sent := 0, left := s.g.pending }) (hk : g'.Ok) : Inv { s with g := g', epoch := s.epoch + 1, base := s.down } := by
  subst hg
  exact {
    gok := hk
    id := h.id
    made := h.made
    hav := h.hav
    base := h.hav
    ep := rfl
    e0 := by simp only; omega
    e1 := by simp only; omega
    held := rfl
    dn := h.dn
    hs := h.hs
    bd := Nat.le_refl _
    sq := h.sq
    ll := h.ll
    sl := h.sl
    pend := h.pend
    raw := h.raw
    sn := h.sn
    sb := h.sb
    grid := h.grid
    ft := h.ft
    tx := h.tx
    fg := h.fg
    tg := h.tg
    l2 := h.l2
    fs := h.fs
    fc := h.fc }

def g1 : Gc := { Gc.new 1 with epoch := 1, ph := .join }
def s1 : St := { g := g1, side := [], slast := 0, text := [], log := [], mine := [], has_ := 0, seq := 0, down := 0, base := 0, epoch := 1 }
theorem g1_eq : ({ Gc.new 1 with epoch := (1 : Int), ph := .join, base := (Gc.new 1).hav, cum := 0, held := [], acked := 0, sent := 0, left := (Gc.new 1).pending } : Gc) = g1 := rfl
theorem inv_start (hk : g1.Ok) : Inv s1 :=
  { gok := hk, id := rfl, made := rfl, hav := rfl, base := rfl, ep := rfl, e0 := by decide, e1 := by decide, held := rfl, dn := by decide, hs := by decide, bd := by decide, sq := by decide, ll := rfl, sl := by decide, pend := rfl
    raw := fun i e he => by simp [s1] at he
    sn := by decide
    sb := fun m hm => by simp [s1] at hm
    grid := ⟨[], rfl, rfl⟩
    ft := trivial, tx := rfl, fg := trivial, tg := rfl, l2 := rfl
    fs := fun i o ho => by simp [s1, foreign] at ho
    fc := rfl }

/-- The stage stands, and what holds of it holds. -/
def StPost (w0 : World) (q : Nat) (w' : World) : Prop := ∃ x' s' col', StAt w0 w' q x' s' col' ∧ Inv s'
theorem StTo.post {w0 w w' : World} {q : Nat} {col : Nat → Nat} {s' : St} (h : StTo w0 w q col s' w') (hI : Inv s') : StPost w0 q w' := by
  obtain ⟨x', col', h1, _, _⟩ := h
  exact ⟨x', s', col', h1, hI⟩
theorem StAt.post {w0 w : World} {q : Nat} {x : StX} {col : Nat → Nat} {s : St} (h : StAt w0 w q x s col) (hI : Inv s) : StPost w0 q w := ⟨x, s, col, h, hI⟩

section
variable (w0 w : World) (q : Nat) (x : StX) (s : St) (col : Nat → Nat) (pat pch : Int) (h : StAt w0 w q x s col) (hI : Inv s)
include h hI
theorem own1_any : Calls Tryz.prog 35 #[.pointer (some ⟨q, 0, none⟩), .agg #[.int .i64 1, .int .i64 pat, .int .i64 pch]] w fun e w' => e = .returned (.bool true) ∧ StPost w0 q w' := by
  have htl := hI.gtextLen
  have hmn := hI.mn
  by_cases hlt : s.mine.length < 64
  · obtain ⟨r0, r1⟩ := restE_bd pat (n := (s.g.text.length : Int) + 1) (by omega)
    obtain ⟨c0, c1⟩ := restE_bd pch (n := 95) (by decide)
    refine (own_ins_ok w0 w q x s col pat pch h hI.gok hI.id hI.made hI.hav (by omega) hlt).mono fun e w' ⟨he, ht⟩ => ⟨he, ht.post (hI.owned hlt ?_ rfl rfl)⟩
    exact fits_insert r0 (by omega) (by omega) (by omega) (by omega) (by decide) (by decide) (by omega) (by omega)
  · exact (own_ins_full w0 w q x s col pat pch h hI.gok hI.id hI.made hI.hav (by omega) (by omega)).mono fun e w' ⟨he, ht⟩ => ⟨he, ht.post hI⟩
theorem own2_any : Calls Tryz.prog 35 #[.pointer (some ⟨q, 0, none⟩), .agg #[.int .i64 2, .int .i64 pat, .int .i64 pch]] w fun e w' => e = .returned (.bool true) ∧ StPost w0 q w' := by
  have htl := hI.gtextLen
  have hmn := hI.mn
  by_cases h0 : s.g.text = []
  · exact (own_empty w0 w q x s col pat pch h hI.gok h0).mono fun e w' ⟨he, hm⟩ => ⟨he, (h.mod0 hm).post hI⟩
  · have hl : 1 ≤ s.g.text.length := List.length_pos_iff.2 h0
    by_cases hlt : s.mine.length < 64
    · obtain ⟨r0, r1⟩ := restE_bd pat (n := (s.g.text.length : Int)) (by omega)
      refine (own_del_ok w0 w q x s col pat pch h hI.gok hI.id hI.made hI.hav (by omega) hl hlt).mono fun e w' ⟨he, ht⟩ => ⟨he, ht.post (hI.owned hlt ?_ rfl rfl)⟩
      exact fits_delete r0 r1 (by omega) (by decide) (by decide) (by omega) (by omega)
    · exact (own_del_full w0 w q x s col pat pch h hI.gok hI.id hI.made hI.hav (by omega) hl (by omega)).mono fun e w' ⟨he, ht⟩ => ⟨he, ht.post hI⟩
theorem others3_any : Calls Tryz.prog 36 #[.pointer (some ⟨q, 0, none⟩), .agg #[.int .i64 3, .int .i64 pat, .int .i64 pch]] w fun e w' => e = .returned (.bool true) ∧ StPost w0 q w' := by
  have htl := hI.textLen
  have hll := hI.logLen
  have hsn := hI.sn
  have hsq := hI.sq
  by_cases hlt : s.seq < 64
  · obtain ⟨r0, r1⟩ := restE_bd pat (n := (s.text.length : Int) + 1) (by omega)
    obtain ⟨c0, c1⟩ := restE_bd pch (n := 95) (by decide)
    refine (others_ins w0 w q x s col pat pch h hlt (by omega) (by omega) (by omega) (by have := hI.sl; omega)).mono fun e w' ⟨he, ht⟩ => ⟨he, ht.post (hI.wrote hlt ?_ rfl rfl)⟩
    exact fits_insert r0 (by omega) (by omega) (by omega) (by omega) (by decide) (by decide) (by omega) (by omega)
  · exact (others_none w0 w q x s col 3 pat pch h (.inl (by omega))).mono fun e w' ⟨he, hm⟩ => ⟨he, (h.mod0 hm).post hI⟩
theorem others4_any : Calls Tryz.prog 36 #[.pointer (some ⟨q, 0, none⟩), .agg #[.int .i64 4, .int .i64 pat, .int .i64 pch]] w fun e w' => e = .returned (.bool true) ∧ StPost w0 q w' := by
  have htl := hI.textLen
  have hll := hI.logLen
  have hsn := hI.sn
  have hsq := hI.sq
  by_cases hno : 64 ≤ s.seq ∨ s.text = []
  · exact (others_none w0 w q x s col 4 pat pch h (hno.imp id (fun h => ⟨rfl, h⟩))).mono fun e w' ⟨he, hm⟩ => ⟨he, (h.mod0 hm).post hI⟩
  · have h0 : s.text ≠ [] := fun e => hno (.inr e)
    have hlt : s.seq < 64 := by
      rcases Nat.lt_or_ge s.seq 64 with h9 | h9
      · exact h9
      · exact absurd (.inl h9) hno
    have hl : 1 ≤ s.text.length := List.length_pos_iff.2 h0
    obtain ⟨r0, r1⟩ := restE_bd pat (n := (s.text.length : Int)) (by omega)
    refine (others_del w0 w q x s col pat pch h hlt (by omega) hl (by omega) (by omega) (by have := hI.sl; omega)).mono fun e w' ⟨he, ht⟩ => ⟨he, ht.post (hI.wrote hlt ?_ rfl rfl)⟩
    exact fits_delete r0 r1 (by omega) (by decide) (by decide) (by omega) (by omega)
end
section
variable (w0 w : World) (q : Nat) (x : StX) (s : St) (col : Nat → Nat) (h : StAt w0 w q x s col) (hI : Inv s)
include h hI
/-- What is up stays up, what has come down stays. -/
theorem up_any : Calls Tryz.prog 17 #[.pointer (some ⟨q, 0, none⟩)] w fun e w' => e = .returned (.bool true) ∧ ∃ x' s' col', StAt w0 w' q x' s' col' ∧ Inv s' ∧ s'.mine = s.mine ∧ s'.down = s.down ∧ s'.has_ = (if s.has_ < s.mine.length then s.has_ + 1 else s.has_) := by
  have hll := hI.logLen
  have hmn := hI.mn
  have hhs := hI.hs
  by_cases hlt : s.has_ < s.mine.length
  · have he := List.getElem?_eq_getElem hlt
    refine (up_some w0 w q x s col _ h he (hI.raw _ _ he).2.1 (by omega) (hI.tookFit he) (by omega) (by have := hI.sn; have := hI.sq; omega) (fun m hm => (hI.sb m hm).mono (by omega))).mono fun e w' ⟨he', x', col', h1, _, _⟩ => ⟨he', x', _, col', h1, hI.took he, rfl, rfl, by rw [if_pos hlt]; rfl⟩
  · exact (up_none w0 w q x s col h (by omega)).mono fun e w' ⟨he, hm⟩ => ⟨he, x, s, col, h.mod0 hm, hI, rfl, rfl, by rw [if_neg hlt]⟩
theorem down_any : Calls Tryz.prog 18 #[.pointer (some ⟨q, 0, none⟩)] w fun e w' => e = .returned (.bool true) ∧ ∃ x' s' col', StAt w0 w' q x' s' col' ∧ Inv s' ∧ s'.mine = s.mine ∧ s'.has_ = s.has_ ∧ s'.log = s.log ∧ s'.down = (if s.down < s.log.length then s.down + 1 else s.down) := by
  have hll := hI.logLen
  have hdn := hI.dn
  by_cases hlt : s.down < s.log.length
  · have ho := List.getElem?_eq_getElem hlt
    obtain ⟨d1, d2, d3, d4, d5, d6⟩ := hI.downed ho
    exact (down_some w0 w q x s col _ h ho hI.gok d1 hI.bd (by omega) d2 d3 d4 d5).mono fun e w' ⟨he, x', col', h1, _, _⟩ => ⟨he, x', _, col', h1, d6, rfl, rfl, rfl, by rw [if_pos hlt]⟩
  · exact (down_none w0 w q x s col h (by omega)).mono fun e w' ⟨he, hm⟩ => ⟨he, x, s, col, h.mod0 hm, hI, rfl, rfl, rfl, by rw [if_neg hlt]⟩
end

set_option maxRecDepth 100000 in
set_option maxHeartbeats 8000000 in
theorem play_any (w0 w : World) (q : Nat) (x : StX) (s : St) (col : Nat → Nat) (K pat pch : Int) (h : StAt w0 w q x s col) (hI : Inv s) :
    Calls Tryz.prog 16 #[.pointer (some ⟨q, 0, none⟩), .agg #[.int .i64 K, .int .i64 pat, .int .i64 pch]] w fun e w' => e = .returned (.bool true) ∧ StPost w0 q w' := by
  have hcase : K = 1 ∨ K = 2 ∨ K = 3 ∨ K = 4 ∨ K = 5 ∨ K = 6 ∨ K = 7 ∨ (K ≠ 1 ∧ K ≠ 2 ∧ K ≠ 3 ∧ K ≠ 4 ∧ K ≠ 5 ∧ K ≠ 6 ∧ K ≠ 7) := by omega
  rcases hcase with hK | hK | hK | hK | hK | hK | hK | hK
  · subst hK
    have h0 := h.alloc (.cells #[.int .i64 1, .int .i64 pat, .int .i64 pch] 51)
    have hX0 : (w.alloc (.cells #[.int .i64 1, .int .i64 pat, .int .i64 pch] 51)).heap[w.heap.size]? = some (.cells #[.int .i64 1, .int .i64 pat, .int .i64 pch] 51 (0, 0)) := blk_new _ _ rfl
    have hQX := blk_at hX0
    have hcl := own1_any w0 _ q x s col pat pch h0 hI
    go_enter Tryz.func16, Tryz.ntmps16
    go_wp2_with (go_at_call 35; refine hcl.mono ?_; rintro e w1 ⟨rfl, hp1⟩)
    go_ret
    exact ⟨rfl, hp1⟩
  · subst hK
    have h0 := h.alloc (.cells #[.int .i64 2, .int .i64 pat, .int .i64 pch] 51)
    have hX0 : (w.alloc (.cells #[.int .i64 2, .int .i64 pat, .int .i64 pch] 51)).heap[w.heap.size]? = some (.cells #[.int .i64 2, .int .i64 pat, .int .i64 pch] 51 (0, 0)) := blk_new _ _ rfl
    have hQX := blk_at hX0
    have hcl := own2_any w0 _ q x s col pat pch h0 hI
    go_enter Tryz.func16, Tryz.ntmps16
    go_wp2_with (go_at_call 35; refine hcl.mono ?_; rintro e w1 ⟨rfl, hp1⟩)
    go_ret
    exact ⟨rfl, hp1⟩
  · subst hK
    have h0 := h.alloc (.cells #[.int .i64 3, .int .i64 pat, .int .i64 pch] 51)
    have hX0 : (w.alloc (.cells #[.int .i64 3, .int .i64 pat, .int .i64 pch] 51)).heap[w.heap.size]? = some (.cells #[.int .i64 3, .int .i64 pat, .int .i64 pch] 51 (0, 0)) := blk_new _ _ rfl
    have hQX := blk_at hX0
    have hcl := others3_any w0 _ q x s col pat pch h0 hI
    go_enter Tryz.func16, Tryz.ntmps16
    go_wp2_with (go_at_call 36; refine hcl.mono ?_; rintro e w1 ⟨rfl, hp1⟩)
    go_ret
    exact ⟨rfl, hp1⟩
  · subst hK
    have h0 := h.alloc (.cells #[.int .i64 4, .int .i64 pat, .int .i64 pch] 51)
    have hX0 : (w.alloc (.cells #[.int .i64 4, .int .i64 pat, .int .i64 pch] 51)).heap[w.heap.size]? = some (.cells #[.int .i64 4, .int .i64 pat, .int .i64 pch] 51 (0, 0)) := blk_new _ _ rfl
    have hQX := blk_at hX0
    have hcl := others4_any w0 _ q x s col pat pch h0 hI
    go_enter Tryz.func16, Tryz.ntmps16
    go_wp2_with (go_at_call 36; refine hcl.mono ?_; rintro e w1 ⟨rfl, hp1⟩)
    go_ret
    exact ⟨rfl, hp1⟩
  · subst hK
    have h0 := h.alloc (.cells #[.int .i64 5, .int .i64 pat, .int .i64 pch] 51)
    have hX0 : (w.alloc (.cells #[.int .i64 5, .int .i64 pat, .int .i64 pch] 51)).heap[w.heap.size]? = some (.cells #[.int .i64 5, .int .i64 pat, .int .i64 pch] 51 (0, 0)) := blk_new _ _ rfl
    have hQX := blk_at hX0
    have hcl := up_any w0 _ q x s col h0 hI
    go_enter Tryz.func16, Tryz.ntmps16
    go_wp2_with (go_at_call 17; refine hcl.mono ?_; rintro e w1 ⟨rfl, hp1⟩)
    go_ret
    exact ⟨rfl, let ⟨x', s', col', a, b, _⟩ := hp1; a.post b⟩
  · subst hK
    have h0 := h.alloc (.cells #[.int .i64 6, .int .i64 pat, .int .i64 pch] 51)
    have hX0 : (w.alloc (.cells #[.int .i64 6, .int .i64 pat, .int .i64 pch] 51)).heap[w.heap.size]? = some (.cells #[.int .i64 6, .int .i64 pat, .int .i64 pch] 51 (0, 0)) := blk_new _ _ rfl
    have hQX := blk_at hX0
    have hcl := down_any w0 _ q x s col h0 hI
    go_enter Tryz.func16, Tryz.ntmps16
    go_wp2_with (go_at_call 18; refine hcl.mono ?_; rintro e w1 ⟨rfl, hp1⟩)
    go_ret
    exact ⟨rfl, let ⟨x', s', col', a, b, _⟩ := hp1; a.post b⟩
  · subst hK
    have h0 := h.alloc (.cells #[.int .i64 7, .int .i64 pat, .int .i64 pch] 51)
    have hX0 : (w.alloc (.cells #[.int .i64 7, .int .i64 pat, .int .i64 pch] 51)).heap[w.heap.size]? = some (.cells #[.int .i64 7, .int .i64 pat, .int .i64 pch] 51 (0, 0)) := blk_new _ _ rfl
    have hQX := blk_at hX0
    obtain ⟨k0, k1, k2, k3, k4, k5, k6, k7, k8, k9⟩ := h.cells
    have hff := h.cf
    have hlq := blk_lt h.hq
    have hep := hI.ep
    have he0 := hI.e0
    have hid := hI.id
    by_cases hlt : s.epoch < 255
    · have hd : decide ((255 : Int) ≤ (s.epoch : Int)) = false := by simp; omega
      obtain ⟨a1, a2, a3, a4, a5⟩ := epoch_g (e := (s.epoch : Int) + 1) hI.gok hI.id (by omega) (by omega) (by omega)
      have hInv := fun g' hg => hI.epoch (g' := g') hlt hg (by rw [hg]; exact a5)
      have HS := (((h.setEpoch (s.epoch + 1)).setBase s.down).alloc (.cells #[.int .i64 7, .int .i64 pat, .int .i64 pch] 51))
      rw [show ((s.epoch + 1 : Nat) : Int) = (s.epoch : Int) + 1 by omega] at HS
      have HI := Lib.hid hInv
      have H4 := Lib.hid a1
      have HK4 := Lib.hid a2
      have H6 := Lib.hid a3
      have HG := Lib.hid a4
      have HKI := Lib.hid hI.gok
      have hg4 := good_4 (e := (s.epoch : Int) + 1) (by omega)
      have hg6 := good_6 (e := (s.epoch : Int) + 1) (a := 0) (by omega) (by omega)
      have HH := Lib.hid HS
      clear HS h h0 hI a1 a2 a3 a4 a5 hInv hep hid hX0 hQX
      go_enter Tryz.func16, Tryz.ntmps16
      go_upto_region 17 with (fail)
      refine cut_worldO (F := fun w5 => Hid (StAt w0 w5 q x { s with epoch := s.epoch + 1, base := s.down } col)) HH ?_
      clear HH k0 k1 k2 k3 k4 k5 k6 k7 k8 k9 hff hlq hd
      rintro w5 H5
      obtain ⟨k0, k1, k2, k3, k4, k5, k6, k7, k8, k9⟩ := H5.out.cells
      dsimp only at k0 k1 k2 k3 k4 k5 k6 k7 k8 k9
      simp only [Int.natCast_add, Int.natCast_one] at k9
      obtain ⟨G4, hG4⟩ : ∃ G, recvE s.g (m4 ((s.epoch : Int) + 1)) = G := ⟨_, rfl⟩
      have ht4 := fun w' (h' : StAt w0 w' q x { s with epoch := s.epoch + 1, base := s.down } col) => told_any (m4 ((s.epoch : Int) + 1)) (.inl rfl) hg4 x.p x.m s.g col 1 w0 w' h'.c HKI.out h'.b
      unfold ToldG at ht4
      rw [hG4] at ht4 HK4 H6 HG
      have ht6 := fun w' xm col' (h' : StAt w0 w' q { x with m := xm } { s with g := G4, epoch := s.epoch + 1, base := s.down } col') => told_any (m6 ((s.epoch : Int) + 1)) (.inr (.inr rfl)) hg6 x.p xm G4 col' 1 w0 w' h'.c HK4.out h'.b
      unfold ToldG at ht6
      obtain ⟨G6, hG6⟩ : ∃ G, recvE G4 (m6 ((s.epoch : Int) + 1)) = G := ⟨_, rfl⟩
      rw [hG6] at ht6 HG
      clear hG4 hG6
      have HG6 := Lib.hid HG.out
      simp only [m4, Msg.v] at ht4
      simp only [m6, Msg.v] at ht6
      refine wp_region_text (by kernel_rfl) (by kernel_rfl) (by kernel_rfl) (by kernel_rfl) ?_
      go_wp2_with (first
        | (go_at_call 10; refine (ht4 w5.drew H5.out.drew).mono ?_; rintro en w6 hT6; obtain ⟨_, rfl, mm, col6, hR6⟩ := hT6.resolve_left (fun h9 => h9.1 H4.out); have H7 := Lib.hid (H5.out.drew.client hR6); clear hR6 ht4; obtain ⟨j0, j1, j2, j3, j4, j5, j6, j7, j8, j9⟩ := H7.out.cells; dsimp only at j0 j1 j2 j3 j4 j5 j6 j7 j8 j9; simp only [Int.natCast_add, Int.natCast_one] at j9)
        | (go_at_call 10; refine (ht6 w6 mm col6 H7.out).mono ?_; rintro en w8 hT8; obtain ⟨_, rfl, mm8, col8, hR8⟩ := hT8.resolve_left (fun h9 => h9.1 H6.out); have H9 := Lib.hid (H7.out.client hR8); clear hR8 ht6))
      refine ⟨rfl, by kernel_rfl, ?_⟩
      go_wp2
      go_ret
      refine ⟨rfl, H9.out.post (HI.out G6 ?_)⟩
      rw [HG6.out]
      rw [show ((s.epoch + 1 : Nat) : Int) = (s.epoch : Int) + 1 by omega]
    · have hd : decide ((255 : Int) ≤ (s.epoch : Int)) = true := by simp; omega
      go_enter Tryz.func16, Tryz.ntmps16
      go_wp2
      go_ret
      exact ⟨rfl, h0.post hI⟩
  · obtain ⟨n1, n2, n3, n4, n5, n6, n7⟩ := hK
    have h0 := h.alloc (.cells #[.int .i64 K, .int .i64 pat, .int .i64 pch] 51)
    have hX0 : (w.alloc (.cells #[.int .i64 K, .int .i64 pat, .int .i64 pch] 51)).heap[w.heap.size]? = some (.cells #[.int .i64 K, .int .i64 pat, .int .i64 pch] 51 (0, 0)) := blk_new _ _ rfl
    have hQX := blk_at hX0
    have b1 : (K == 1) = false := beq_eq_false_iff_ne.2 n1
    have b2 : (K == 2) = false := beq_eq_false_iff_ne.2 n2
    have b3 : (K == 3) = false := beq_eq_false_iff_ne.2 n3
    have b4 : (K == 4) = false := beq_eq_false_iff_ne.2 n4
    have b5 : (K == 5) = false := beq_eq_false_iff_ne.2 n5
    have b6 : (K == 6) = false := beq_eq_false_iff_ne.2 n6
    have b7 : (K == 7) = false := beq_eq_false_iff_ne.2 n7
    go_enter Tryz.func16, Tryz.ntmps16
    go_wp2
    go_ret
    exact ⟨rfl, h0.post hI⟩
end Go.Proofs.YtjojhfphlnfimaaGreatDoor.J
