/- The law ClientText answers true: the walk. -/
import Derived.Test.YtjojhfphlnfimaaGreatDoorSn
namespace Go.Proofs.YtjojhfphlnfimaaGreatDoor.J
open Go Go.RowKit
set_option linter.unusedSimpArgs false
set_option linter.unusedVariables false

structure Play where
  kind : Int
  at_ : Int
  ch : Int
def kPlay : K Play := ⟨3, fun p => [.int .i64 p.kind, .int .i64 p.at_, .int .i64 p.ch], fun _ => rfl, fun a v h => by simp at h; rcases h with rfl | rfl | rfl <;> rfl, by decide⟩
theorem Rd.play {w : World} {A : Option Addr} {n c : Nat} {l : List Play} (h : Rd kPlay w A n c l) {i : Nat} (hi : i < n) : ∃ b o, ∃ x : Play, l[i]? = some x ∧ A = some ⟨b, o, none⟩ ∧ w.cell? ⟨b, o + i * 3, none⟩ = some (.int .i64 x.kind) ∧ w.cell? ⟨b, o + i * 3 + 1, none⟩ = some (.int .i64 x.at_) ∧ w.cell? ⟨b, o + i * 3 + 2, none⟩ = some (.int .i64 x.ch) := by
  have hx := List.getElem?_eq_getElem (l := l) (i := i) (by rw [← h.1]; exact hi)
  obtain ⟨b, o, ha, hc⟩ := h.at hx
  exact ⟨b, o, _, hx, ha, hc 0 _ rfl, hc 1 _ rfl, hc 2 _ rfl⟩

/-- When all is up and down. -/
theorem Inv.ended {s : St} (h : Inv s) (h1 : s.mine.length ≤ s.has_) (h2 : s.log.length ≤ s.down) : s.g.forms = [] ∧ s.g.pending = [] ∧ s.g.text = s.text := by
  obtain ⟨V, hr, hd⟩ := h.grid
  rw [List.drop_of_length_le h2, List.drop_of_length_le h1] at hr
  simp only [runE, srvE, Option.some.injEq, Prod.mk.injEq] at hr
  have hf : s.g.forms = [] := by
    have := hr.1
    unfold opsOf at this
    simpa using this
  have hp : s.g.pending = [] := by
    have := h.formsLen
    rw [hf] at this
    exact List.eq_nil_of_length_eq_zero this.symm
  refine ⟨hf, hp, ?_⟩
  rw [h.tg, h.tx, hf, List.take_of_length_le h2]; rfl

theorem sameDoc_self (A B : Option Addr) (n c d : Nat) (l : List Elem) (w : World) (ha : Rd kElem w A n c l) (hb : Rd kElem w B n d l) :
    Calls Tryz.prog 13 #[.slice A n c, .slice B n d] w fun e w' => e = .returned (.bool true) ∧ Mod No w w' :=
  (sameDoc_any A B n n c d l l w ha hb).mono fun e w' ⟨he, hm⟩ => ⟨by rw [he]; simp, hm⟩

set_option maxRecDepth 100000 in
set_option maxHeartbeats 8000000 in
theorem text_any (A : Option Addr) (n c : Nat) (l : List Play) (w : World) (hr : Rd kPlay w A n c l) (hT : Tabs w) (hO : OtT w) :
    Calls Tryz.prog 4 #[.slice A n c] w fun e w' => e = .returned (.bool true) ∧ Mod No w w' := by
  have hst := staged_any w hT hO
  unfold StagedPost at hst
  have hmx := hr.max
  unfold maxLen at hmx
  have HR := Lib.hid hr
  clear hT hO hr
  go_enter Tryz.func4, Tryz.ntmps4
  go_wp2_with (go_at_call 15; refine hst.mono ?_; rintro e w1 ⟨q, rfl, hP1⟩)
  have HP1 := Lib.hid hP1
  clear hP1 hst
  go_loopw [5] (fun s5 wr => ∃ k : Nat, k ≤ n ∧ s5 = .int .i64 k ∧ Hid (StPost w q wr)) (fun s5 _ => n - (intOf s5).toNat)
  case atStart => exact ⟨0, Nat.zero_le _, rfl, HP1⟩
  case round =>
    clear HP1
    obtain ⟨k, hk, rfl, HP⟩ := hrel
    have k0 : (0 : Int) ≤ (k : Int) := by omega
    obtain ⟨x, s, col, hS, hI⟩ := HP.out
    by_cases hlt : k < n
    · obtain ⟨bl, ol, pl, hpl, hAe, x1, x2, x3⟩ := (HR.out.mod0 hS.b.md).play hlt
      have hpy := play_any w wr q x s col pl.kind pl.at_ pl.ch hS hI
      obtain ⟨A0, hA0⟩ : ∃ A0, A = A0 := ⟨_, rfl⟩
      rw [hA0] at hAe ⊢
      subst hAe
      obtain ⟨p1, p2, p3⟩ := pl
      dsimp only at x1 x2 x3 hpy
      clear hA0 hpl HP
      go_wp2_with (go_at_call 16; refine hpy.mono ?_; rintro e w2 ⟨rfl, hP2⟩; have HP2 := Lib.hid hP2; clear hP2)
      go_roundw
      case rel => exact ⟨k + 1, by omega, by go_num, HP2⟩
      case measure => simp [intOf]; omega
    · obtain rfl : k = n := by omega
      clear hS hI hk hlt
      clear x s col
      go_wp2
      go_loopw [26] (fun _ wr => Hid (StPost w q wr)) (fun _ wr => 64 - (intOf ((wr.cell? ⟨q, 5, none⟩).getD undef)).toNat)
      case atStart => exact HP
      case round =>
        clear HP
        obtain ⟨x, s, col, hS, hI⟩ := hrel.out
        obtain ⟨k0', k1, k2, k3, k4, k5, k6, k7, k8, k9⟩ := hS.cells
        have hup := up_any w _ q x s col hS.drew hI
        have hmn := hI.mn
        have hhs := hI.hs
        have HS := Lib.hid hS
        have HI := Lib.hid hI
        have h50 : (0 : Int) ≤ (s.has_ : Int) := by omega
        clear hS hI hrel
        by_cases hlt : s.has_ < s.mine.length
        · have hd : decide ((s.has_ : Int) < (s.mine.length : Int)) = true := by simp; omega
          have hd2 : decide (s.has_ < s.mine.length) = true := by simp; omega
          rw [if_pos hlt] at hup
          have HM := Lib.hid k5
          go_upto_region 9 with (fail)
          refine wp_region_text (by kernel_rfl) (by kernel_rfl) (by kernel_rfl) (by kernel_rfl) ?_
          go_wp2
          refine ⟨rfl, by kernel_rfl, ?_⟩
          go_wp2_with (go_at_call 17; refine hup.mono ?_; rintro e w2 ⟨rfl, x2, s2, col2, hS2, hI2, hm2, hd2', hh2⟩; have HS2 := Lib.hid hS2; have HI2 := Lib.hid hI2; have HH2 := Lib.hid hh2; clear hS2 hI2 hm2 hd2' hh2)
          go_roundw
          case rel => exact Lib.hid ⟨x2, s2, col2, HS2.out, HI2.out⟩
          case measure =>
            have e1 := HS2.out.cells.2.2.2.2.2.1
            rw [HH2.out] at e1
            first
              | (rw [HM.out, e1]; simp [intOf]; omega)
              | (simp only [HM.out, e1]; simp [intOf]; omega)
        · have hd : decide ((s.has_ : Int) < (s.mine.length : Int)) = false := by simp; omega
          have hd2 : decide (s.has_ < s.mine.length) = false := by simp; omega
          have HUP := Lib.hid (show s.mine.length ≤ s.has_ by omega)
          go_upto_region 9 with (fail)
          refine wp_region_text (by kernel_rfl) (by kernel_rfl) (by kernel_rfl) (by kernel_rfl) ?_
          go_wp2
          refine ⟨rfl, by kernel_rfl, ?_⟩
          go_wp2
          clear hup hmn hhs h50 hlt hd hd2 k0' k1 k2 k3 k4 k5 k6 k7 k8 k9
          have HS' := Lib.hid HS.out.drew
          clear HS
          go_loopw [39] (fun _ wr' => ∃ (x' : StX) (s' : St) (col' : Nat → Nat), Hid (StAt w wr' q x' s' col') ∧ Hid (Inv s') ∧ Hid (s'.mine.length ≤ s'.has_)) (fun _ wr' => 128 - (intOf ((wr'.cell? ⟨q, 7, none⟩).getD undef)).toNat)
          case atStart => exact ⟨x, s, col, HS', HI, HUP⟩
          case round =>
            clear HS' HI HUP
            obtain ⟨x, s, col, HS, HI, HUP⟩ := hrel
            obtain ⟨k0', k1, k2, k3, k4, k5, k6, k7, k8, k9⟩ := HS.out.cells
            have hdw := down_any w _ q x s col HS.out.drew HI.out
            have hll := HI.out.logLen
            have hdn := HI.out.dn
            have h50 : (0 : Int) ≤ (s.down : Int) := by omega
            by_cases hlt : s.down < s.log.length
            · have hd : decide ((s.down : Int) < (s.log.length : Int)) = true := by simp; omega
              have hd2 : decide (s.down < s.log.length) = true := by simp; omega
              rw [if_pos hlt] at hdw
              have HM := Lib.hid k7
              go_upto_region 12 with (fail)
              refine wp_region_text (by kernel_rfl) (by kernel_rfl) (by kernel_rfl) (by kernel_rfl) ?_
              go_wp2
              refine ⟨rfl, by kernel_rfl, ?_⟩
              go_wp2_with (go_at_call 18; refine hdw.mono ?_; rintro e w2 ⟨rfl, x2, s2, col2, hS2, hI2, hm2, hh2, hl2, hd2'⟩; have HS2 := Lib.hid hS2; have HI2 := Lib.hid hI2; have HD2 := Lib.hid hd2'; have HU2 := Lib.hid (show s2.mine.length ≤ s2.has_ by rw [hm2, hh2]; exact HUP.out); clear hS2 hI2 hm2 hd2' hh2 hl2)
              go_roundw
              case rel => exact ⟨x2, s2, col2, HS2, HI2, HU2⟩
              case measure =>
                have e1 := HS2.out.cells.2.2.2.2.2.2.2.1
                rw [HD2.out] at e1
                first
                  | (rw [HM.out, e1]; simp [intOf]; omega)
                  | (simp only [HM.out, e1]; simp [intOf]; omega)
            · have hd : decide ((s.down : Int) < (s.log.length : Int)) = false := by simp; omega
              have hd2 : decide (s.down < s.log.length) = false := by simp; omega
              obtain ⟨hf0, hp0, ht0⟩ := HI.out.ended HUP.out (by omega)
              have hav : s.g.hav = (s.log.length : Int) := by rw [HI.out.hav]; omega
              have hvw := fun w' (h' : StAt w w' q x s col) => gView x.p x.m s.g col 1 w' h'.c HI.out.gok
              have hfm := fun w' (h' : StAt w w' q x s col) => gForms x.p x.m s.g col 1 w' h'.c HI.out.gok
              have hdc := fun w' (h' : StAt w w' q x s col) => gDoc x.p x.m s.g col 1 w' h'.c HI.out.gok
              rw [hp0, ht0, hav] at hvw
              rw [hf0] at hfm
              rw [ht0] at hdc
              simp only [List.length_nil] at hvw hfm
              obtain ⟨N, hN⟩ : ∃ N, s.text.length = N := ⟨_, rfl⟩
              rw [hN] at hvw hdc k2
              have HRT := Lib.hid (fun w' (h' : StAt w w' q x s col) => show Rd kElem w' x.tA N x.tc s.text from by rw [← hN]; exact h'.rT)
              have hNN := Lib.hid hN
              clear hf0 hp0 ht0 hav hdw hN
              go_upto_region 12 with (fail)
              refine wp_region_text (by kernel_rfl) (by kernel_rfl) (by kernel_rfl) (by kernel_rfl) ?_
              go_wp2
              refine ⟨rfl, by kernel_rfl, ?_⟩
              have HS0 := Lib.hid HS.out.drew
              clear hd hd2
              go_upto_region 16 with (go_at_call 11; refine (hvw _ HS0.out).mono ?_; rintro en w7 ⟨A7, d7, B7, b7, rfl, hm7, hO7, _⟩; have H7 := Lib.hid (HS0.out.mod0 hm7))
              have hV := blk_new w7 (.cells #[.int .i64 s.g.id, .int .i64 s.g.epoch, .bool s.g.ph.opn, .int .i64 s.g.made, .int .i64 (s.log.length : Int), .slice A7 N d7, .slice B7 0 b7] 38) rfl
              have H8 := Lib.hid (H7.out.alloc (.cells #[.int .i64 s.g.id, .int .i64 s.g.epoch, .bool s.g.ph.opn, .int .i64 s.g.made, .int .i64 (s.log.length : Int), .slice A7 N d7, .slice B7 0 b7] 38))
              have HO7 := Lib.hid ((hO7.rd.alloc (.cells #[.int .i64 s.g.id, .int .i64 s.g.epoch, .bool s.g.ph.opn, .int .i64 s.g.made, .int .i64 (s.log.length : Int), .slice A7 N d7, .slice B7 0 b7] 38)))
              refine cut_worldO (F := fun w8 => Hid (StAt w w8 q x s col) ∧ w8.heap[w7.heap.size]? = some (.cells #[.int .i64 s.g.id, .int .i64 s.g.epoch, .bool s.g.ph.opn, .int .i64 s.g.made, .int .i64 (s.log.length : Int), .slice A7 N d7, .slice B7 0 b7] 38 (0, 0)) ∧ Hid (Rd kElem w8 A7 N d7 s.text)) ⟨H8, hV, HO7⟩ ?_
              clear H8 hV HO7 H7 hO7 hm7 HS0 HS hvw k0' k1 k2 k3 k4 k5 k6 k7 k8 k9
              rintro w8 ⟨H8, hV8, HO8⟩
              obtain ⟨k0', k1, k2, k3, k4, k5, k6, k7, k8, k9⟩ := H8.out.cells
              simp only [show s.text.length = N from hNN.out] at k2
              have hQV8 := blk_at hV8
              have hlV8 := blk_lt hV8
              refine wp_region_seg ([0, 1, 2, 3, 4, 5, 6, 7, 8, 9, 10, 11, 12, 13, 14, 15, 16, 17, 18, 19, 20, 21, 22, 23, 24, 25, 26, 27, 28, 29, 30, 31, 32, 33, 34, 35, 36, 38, 39, 40, 41].map (·, false) ++ [(37, true)] ++ [42, 43, 44].map (·, false)) (by kernel_rfl) (by kernel_rfl) (by kernel_rfl) (by kernel_rfl) ?_
              simp only [List.map_cons, List.map_nil, List.cons_append, List.nil_append, List.filterMap_cons, List.filterMap_nil, pick, List.getElem?_toArray, List.getElem?_cons_zero, List.getElem?_cons_succ, Option.map_some]
              refine wpSeg_cut (fun e a w h => h.1) [_, _, _, _, _, _, _, _, _, _, _, _, _, _, _, _, _, _, _, _, _, _, _, _, _, _, _, _, _, _, _, _, _, _, _, _, _, _, _, _, _] _ _ _ ?_
              go_wp2_with (first
                | (go_at_call 13; refine (sameDoc_self _ _ N _ _ s.text _ HO8.out.drew (HRT.out _ H8.out.drew)).mono ?_; rintro en w9 ⟨rfl, hm9⟩; have H9 := Lib.hid (H8.out.drew.mod0 hm9); have hV9 := hm9.heap (w := w8.drew) hV8 (fun h => h); have hQV9 := blk_at hV9; obtain ⟨j0, j1, j2, j3, j4, j5, j6, j7, j8, j9⟩ := H9.out.cells; simp only [show s.text.length = N from hNN.out] at j2)
                | (go_at_call 19; refine (hfm _ H9.out).mono ?_; rintro en w10 ⟨A10, d10, rfl, hm10, _⟩; have H10 := Lib.hid (H9.out.mod0 hm10); have hV10 := hm10.heap hV9 (fun h => h); have hQV10 := blk_at hV10; obtain ⟨i0, i1, i2, i3, i4, i5, i6, i7, i8, i9⟩ := H10.out.cells; simp only [show s.text.length = N from hNN.out] at i2))
              refine wpSeg_markG (by kernel_rfl) ?_
              go_wp2_with (go_at_call 14; refine (hdc _ H10.out).mono ?_; rintro en w11 ⟨A11, d11, rfl, hm11, hO11⟩; refine ⟨hm11.old, ?_⟩)
              have H11 := Lib.hid (H10.out.mod0 hm11)
              refine wpSeg_rest [_, _, _] ?_
              go_wp2_with (go_at_call 13; refine (sameDoc_self _ _ N _ _ s.text _ hO11.rd (HRT.out _ H11.out)).mono ?_; rintro en w12 ⟨rfl, hm12⟩)
              refine ⟨rfl, by kernel_rfl, ?_⟩
              go_wp2
              go_ret
              exact ⟨rfl, (H11.out.mod0 hm12).b.md⟩
end Go.Proofs.YtjojhfphlnfimaaGreatDoor.J
