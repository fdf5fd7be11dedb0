/- The law ClientMakes: each edit is refused for the reason that its numbers give, or holds at once. The walk. -/
import Derived.Test.YthoibppblicplaaMw
namespace Go.Proofs.Ythoibppblicplaa.J
open Go Go.RowKit
set_option linter.unusedSimpArgs false
set_option linter.unusedVariables false

theorem field_made (a b d e : Int) (x : Bool) (A B : Option Addr) (n c m k : Nat) (w : World) : Sem.run Try.prog (Instr.field 48 (.agg #[.int .i64 a, .int .i64 b, .bool x, .int .i64 d, .int .i64 e, .slice A n c, .slice B m k]) 3) w = .ok (.int .i64 d) w := by kernel_rfl
set_option maxRecDepth 100000 in
set_option maxHeartbeats 4000000 in
theorem makes_any (id0 : Int) (A : Option Addr) (n c : Nat) (ms : List Made) (w : World) (hr : Rd kMade w A n c ms) :
    Calls Try.prog 4 #[.int .i64 id0, .slice A n c] w fun e w' => e = .returned (.bool true) ∧ Mod No w w' := by
  have hmax := hr.max
  unfold maxLen at hmax
  have hb := restE_bd id0 (n := 64) (by omega)
  obtain ⟨hb1, hb2⟩ := hb
  have hlen := hr.1
  have HLen := Lib.hid hlen
  clear hlen
  obtain ⟨r, hr0⟩ : ∃ r, restE id0 64 = r := ⟨_, rfl⟩
  have hrest := fun w => rest_any id0 64 w (by omega) (by omega)
  rw [hr0] at hrest hb1 hb2
  clear hr0
  have hq := fun w a0 a1 a2 a3 a4 a5 b0 b1 b2 b3 b4 b5 => neq_Edit w a0 a1 a2 a3 a4 a5 b0 b1 b2 b3 b4 b5
  go_enter Try.func4, Try.ntmps4
  go_wp2_with (first | (go_at_call 5; refine (hrest _).mono ?_; rintro e w' ⟨rfl, rfl⟩)
                     | (go_at_call 6; refine (clNew_ok (r + 1) w (fun _ => 0) 1 (by omega) (by omega)).mono ?_; rintro e w1 ⟨p, m0, col0, rfl, hc0, hM0, hcol0⟩)
                     | (go_at_call 7; refine (num_any _ _).mono ?_; rintro e w' ⟨rfl, rfl⟩))
  have hl0 : w.heap.size ≤ w1.heap.size := hM0.size
  have hS0 : Own kElem 70 w1 none 0 0 [] (fun b => col0 b = 20) := Own.nil _ _ _ _
  go_loopw [7, 8, 9] (fun s7 s8 s9 wr => ∃ (k : Nat) (d : List Elem) (all : List Edit) (m : ClM) (A1 : Option Addr) (c1 : Nat) (B1 : Option Addr) (b1 : Nat) (col : Nat → Nat), k ≤ n ∧ s9 = .int .i64 k ∧ s7 = .slice A1 d.length c1 ∧ s8 = .slice B1 all.length b1 ∧
      ClAt wr p m (clOf (r + 1) d all) col 1 ∧ Own kElem 70 wr A1 d.length c1 d (fun b => col b = 20) ∧ Own kEdit 37 wr B1 all.length b1 all (fun b => col b = 21) ∧
      d.length ≤ all.length ∧ all.length ≤ 64 ∧ Mod No w wr ∧ (∀ b, b < w.heap.size → col b = 0) ∧ (∀ b, wr.heap.size ≤ b → col b = 0)) (fun _ _ s9 _ => n - (intOf s9).toNat)
  case atStart => exact ⟨0, [], [], m0, none, 0, none, 0, cut0 col0 w1.heap.size, Nat.zero_le _, rfl, rfl, rfl, by rw [clOf_nil]; exact hc0.keep (Mod.refl No _) (fun _ _ _ _ h => h) (fun b hb => cut0_lt hb), Own.nil _ _ _ _, Own.nil _ _ _ _, Nat.le_refl _, by simp, hM0, fun b hb => by rw [cut0_lt (by omega)]; exact hcol0 b hb, fun b hb => cut0_ge hb⟩
  case round =>
    obtain ⟨k, d, all, m, A1, c1, B1, b1, col, hk, rfl, rfl, rfl, hc, hD, hE, hda, ha, hM, hcol, hcg⟩ := hrel
    clear hc0 hS0 hcol0 hM0 hl0
    by_cases hlt : k < n
    · obtain ⟨b0, o0, x, hx, rfl, x1, x2, x3⟩ : ∃ b o, ∃ x : Made, ms[k]? = some x ∧ A = some ⟨b, o, none⟩ ∧ wr.cell? ⟨b, o + k * 3, none⟩ = some (.bool x.del) ∧ wr.cell? ⟨b, o + k * 3 + 1, none⟩ = some (.int .i64 x.pos) ∧ wr.cell? ⟨b, o + k * 3 + 2, none⟩ = some (.int .i64 x.ch) := by
        have hx := List.getElem?_eq_getElem (l := ms) (i := k) (by rw [← HLen.out]; exact hlt)
        obtain ⟨b, o, ha, hc⟩ := (hr.mod0 hM).at hx
        exact ⟨b, o, _, hx, ha, hc 0 _ rfl, hc 1 _ rfl, hc 2 _ rfl⟩
      clear hx
      obtain ⟨xd, xp, xc⟩ := x
      dsimp only at x1 x2 x3
      have h0 : (0 : Int) ≤ (k : Int) := by omega
      go_upto_region 12 with fail
      go_cut [52] (fun s52 wx => s52 = .bool (badCh xd xc) ∧ wx = wr.alloc (.cells #[.bool xd, .int .i64 xp, .int .i64 xc] 33))
      case first =>
        cases xd
        · by_cases h1 : xc < 32
          · have E := Lib.hid (show badCh false xc = true by simp [badCh, h1])
            go_wp2
            go_meet
            exact ⟨by rw [E.out], rfl⟩
          · by_cases h2 : 126 < xc
            · have E := Lib.hid (show badCh false xc = true by simp [badCh, h2])
              have h1' : decide (xc < 32) = false := by simp [h1]
              go_wp2
              go_meet
              exact ⟨by rw [E.out], rfl⟩
            · have E := Lib.hid (show badCh false xc = false by simp [badCh, h1, h2])
              have h1' : decide (xc < 32) = false := by simp [h1]
              have h2' : decide (126 < xc) = false := by simp [h2]
              go_wp2
              go_meet
              exact ⟨by rw [E.out], rfl⟩
        · have E := Lib.hid (show badCh true xc = false by simp [badCh])
          go_wp2
          go_meet
          exact ⟨by rw [E.out], rfl⟩
      case rest =>
        obtain ⟨rfl, rfl⟩ := hcut
        go_upto_if 52 with (fail)
        go_cut [11] (fun s11 wx => s11 = .int .i64 (wantE xd xp xc d.length all.length) ∧ wx = wr.alloc (.cells #[.bool xd, .int .i64 xp, .int .i64 xc] 33))
        case first =>
          cases hb : badCh xd xc
          · go_upto_region 14 with fail
            go_cut [73] (fun s73 wx => s73 = .bool (badPos xd xp d.length) ∧ wx = wr.alloc (.cells #[.bool xd, .int .i64 xp, .int .i64 xc] 33))
            case first =>
              by_cases h1 : xp < 0
              · have E := Lib.hid (show badPos xd xp d.length = true by simp [badPos, h1])
                go_wp2
                go_meet
                exact ⟨by rw [E.out], rfl⟩
              · have h1' : decide (xp < 0) = false := by simp [h1]
                by_cases h2 : (d.length : Int) < xp
                · have E := Lib.hid (show badPos xd xp d.length = true by simp [badPos, h2])
                  go_wp2
                  go_meet
                  exact ⟨by rw [E.out], rfl⟩
                · have h2' : decide ((d.length : Int) < xp) = false := by simp [h2]
                  cases xd
                  · have E := Lib.hid (show badPos false xp d.length = false by simp [badPos, h1, h2])
                    go_wp2
                    go_meet
                    exact ⟨by rw [E.out], rfl⟩
                  · by_cases h3 : xp = (d.length : Int)
                    · have h3' : (xp == (d.length : Int)) = true := by simp [h3]
                      have E := Lib.hid (show badPos true xp d.length = true by simp [badPos, h3])
                      clear h3
                      go_wp2
                      go_meet
                      exact ⟨by rw [E.out], rfl⟩
                    · have h3' : (xp == (d.length : Int)) = false := by simp [h3]
                      have E := Lib.hid (show badPos true xp d.length = false by simp [badPos, h1, h2, h3])
                      clear h3
                      go_wp2
                      go_meet
                      exact ⟨by rw [E.out], rfl⟩
            case rest =>
              obtain ⟨rfl, rfl⟩ := hcut
              cases hp : badPos xd xp d.length
              · by_cases h64 : 64 ≤ all.length
                · have E := Lib.hid (show wantE xd xp xc d.length all.length = 111 by simp [wantE, hb, hp, h64])
                  go_wp2
                  go_meet
                  exact ⟨by rw [E.out], rfl⟩
                · have E := Lib.hid (show wantE xd xp xc d.length all.length = 0 by simp [wantE, hb, hp, h64])
                  go_wp2
                  go_meet
                  exact ⟨by rw [E.out], rfl⟩
              · have E := Lib.hid (show wantE xd xp xc d.length all.length = 43 by simp [wantE, hb, hp])
                go_wp2
                go_meet
                exact ⟨by rw [E.out], rfl⟩
          · have E := Lib.hid (show wantE xd xp xc d.length all.length = 42 by simp [wantE, hb])
            go_wp2
            go_meet
            exact ⟨by rw [E.out], rfl⟩
        case rest =>
          obtain ⟨rfl, rfl⟩ := hcut
          have hk := clOf_ok (id := r + 1) (by omega) (by omega) hda ha
          cases xd
          · have hwE := want_ins (id := r + 1) (p := xp) (c := xc) (d := d) ha
            by_cases hE0 : wantE false xp xc d.length all.length = 0
            · have hins := fun w' hc' => insert_ok p m _ col 1 xp xc w' (Nat.le_refl 1) hc' hk (by show d.length < 4096; omega) (by rw [hwE]; exact hE0)
              have hxc := want_ch hE0
              have hx8 : xc % 256 = xc := by omega
              have hpos := want_pos hE0
              have h64 := want_64 hE0
              rw [hE0]
              clear hE0 hwE
              obtain ⟨hxc1, hxc2⟩ := hxc
              go_upto_region 21 with fail
              clear hx8
              refine cut_world (F := fun w3 => w3.heap[wr.heap.size + 2]? = some (.cells #[.int .i64 0, .int .i64 0, .int .i64 0, .int .u8 0, .int .i64 0, .int .i64 0] 37 (0, 0)) ∧ w3.heap[wr.heap.size + 1]? = some (.cells #[.int .i64 1, .int .i64 xp, .int .u8 xc, .int .i64 (r + 1), .int .i64 (↑all.length + 1)] 35 (0, 0)) ∧ w3.heap[wr.heap.size]? = some (.cells #[.bool false, .int .i64 xp, .int .i64 xc] 33 (0, 0)) ∧ Mod No wr w3 ∧ wr.heap.size + 3 ≤ w3.heap.size)
                ⟨blk_new _ _ (by simp), blk_alloc (blk_new _ _ (by simp)) _, blk_alloc (blk_alloc (blk_new _ _ rfl) _) _, (((Mod.refl _ _).alloc _).alloc _).alloc _, by simp⟩ ?_
              rintro w3 ⟨hX3, hO3, hD3, hM3, hS3⟩
              have hC3 := blk_at hD3
              have hCo3 := blk_at hO3
              have hFo3 := blk_free hO3
              have g0 := hcg wr.heap.size (Nat.le_refl _)
              have g1 := hcg (wr.heap.size + 1) (by omega)
              have g2 := hcg (wr.heap.size + 2) (by omega)
              have hlwr : w.heap.size ≤ wr.heap.size := hM.size
              have hMv : Mod (fun b => wr.heap.size ≤ b) wr w3 := hM3.of
              have hXv := hX3
              have hOv := hO3
              have hcv := hc.keep (col' := col) hMv (fun b hb _ _ h => by omega) (fun _ _ => rfl)
              go_upto_region 26 with (go_at_call 9; refine (hins _ hcv).mono ?_; rintro e w4 ⟨rfl, m4, col4, hc4, hm4, hcol4⟩; have hX4 := hm4.heap hXv (fun h => by have := h.1; omega); have hO4 := hm4.heap hOv (fun h => by have := h.1; omega); have hQ4 := blk_at hX4; have hQf4 := blk_free hX4)
              have r2 : ((1 ≤ col (wr.heap.size + 2) ∧ col (wr.heap.size + 2) ≤ 1 + 8) ∨ wr.heap.size ≤ wr.heap.size + 2) ∨ wr.heap.size ≤ wr.heap.size + 2 := .inr (by omega)
              have hsz3 : wr.heap.size + 3 ≤ w3.heap.size := hS3
              have hc4' : ClAt w4 p m4 (clOf (r + 1) (applyE d (⟨1, xp, xc, r + 1, (all.length : Int) + 1⟩ : Op)) (all ++ [⟨0, (⟨1, xp, xc, r + 1, (all.length : Int) + 1⟩ : Op)⟩])) col4 1 := by rw [← clOf_edited _ _ _ _ rfl]; exact hc4
              clear hc4
              have g24 : col4 (wr.heap.size + 2) = 0 := by rw [hcol4 _ (by first | omega | (simp; omega))]; exact g2
              have hMa : Mod (fun b => (1 ≤ col b ∧ col b ≤ 1 + 8) ∨ wr.heap.size ≤ b) wr w4 := (hMv.mono (fun b _ h => .inr h)).trans hm4 (fun b _ h => .inl h)
              have hcol4' : ∀ b, b < wr.heap.size + 3 → col4 b = col b := fun b hb => hcol4 b (by first | omega | (simp; omega))
              have hms : ∀ v0 v1 v2 v3 v4 v5, Mod (fun b => b = wr.heap.size + 2) w4 ((((((w4.setCell ⟨wr.heap.size + 2, 0, none⟩ v0).setCell ⟨wr.heap.size + 2, 1, none⟩ v1).setCell ⟨wr.heap.size + 2, 2, none⟩ v2).setCell ⟨wr.heap.size + 2, 3, none⟩ v3).setCell ⟨wr.heap.size + 2, 4, none⟩ v4).setCell ⟨wr.heap.size + 2, 5, none⟩ v5) := fun v0 v1 v2 v3 v4 v5 => mod_set (mod_set (mod_set (mod_set (mod_set (mod_set (Mod.refl _ _) (.inl rfl)) (.inl rfl)) (.inl rfl)) (.inl rfl)) (.inl rfl)) (.inl rfl)
              refine cut_world (F := fun w5 => w5.heap[wr.heap.size + 2]? = some (.cells #[.int .i64 0, .int .i64 1, .int .i64 xp, .int .u8 xc, .int .i64 (r + 1), .int .i64 (↑all.length + 1)] 37 (0, 0)) ∧ w5.heap[wr.heap.size + 1]? = some (.cells #[.int .i64 1, .int .i64 xp, .int .u8 xc, .int .i64 (r + 1), .int .i64 (↑all.length + 1)] 35 (0, 0)) ∧ ClAt w5 p m4 (clOf (r + 1) (applyE d (⟨1, xp, xc, r + 1, (all.length : Int) + 1⟩ : Op)) (all ++ [⟨0, (⟨1, xp, xc, r + 1, (all.length : Int) + 1⟩ : Op)⟩])) col4 1 ∧ Mod (fun b => (1 ≤ col b ∧ col b ≤ 1 + 8) ∨ wr.heap.size ≤ b) wr w5)
                ⟨blk_set (blk_set (blk_set (blk_set (blk_set (blk_set hX4 0 _) 1 _) 2 _) 3 _) 4 _) 5 _,
                 blk_set_other (blk_set_other (blk_set_other (blk_set_other (blk_set_other (blk_set_other hO4 (by dsimp only; omega) _) (by dsimp only; omega) _) (by dsimp only; omega) _) (by dsimp only; omega) _) (by dsimp only; omega) _) (by dsimp only; omega) _,
                 hc4'.keep (col' := col4) (hms _ _ _ _ _ _) (fun b hb h1 h2 e => by subst e; omega) (fun _ _ => rfl),
                 hMa.trans (hms _ _ _ _ _ _) (fun b hb e => .inr (by omega))⟩ ?_
              clear hX4 hO4 hQ4 hQf4 hm4 hXv hOv hcv hMv hX3 hO3 hD3 hM3 hS3 hC3 hCo3 hFo3 hins x1 x2 x3 hms hMa hc4' hcol4 hsz3 r2
              clear w4 w3
              rintro w5 ⟨hX5, hO5, hc5, hM5⟩
              have hQ5 := blk_at hX5
              have hR5 := blk_at hO5
              have hD5 := hD.mod' hM5 (S' := fun b => col4 b = 20) (fun b hb h1 h2 => by omega) (fun b hb h1 => by rw [hcol4' b (by omega)]; exact h1)
              have hE5 := hE.mod' hM5 (S' := fun b => col4 b = 21) (fun b hb h1 h2 => by omega) (fun b hb h1 => by rw [hcol4' b (by omega)]; exact h1)
              obtain ⟨i, hi1, hi2, hi3, hi4⟩ := info_parts Try.infoEdit
              have hlx := blk_lt hX5
              have hdl := applyE_len d (⟨1, xp, xc, r + 1, (all.length : Int) + 1⟩ : Op)
              have hk9 := clOf_ok (id := r + 1) (d := applyE d (⟨1, xp, xc, r + 1, (all.length : Int) + 1⟩ : Op)) (all := all ++ [⟨0, (⟨1, xp, xc, r + 1, (all.length : Int) + 1⟩ : Op)⟩]) (by omega) (by omega) (by simp; omega) (by simp; omega)
              have hs5 := hM5.size
              obtain ⟨D, hDD⟩ : ∃ D, applyE d (⟨1, xp, xc, r + 1, (all.length : Int) + 1⟩ : Op) = D := ⟨_, rfl⟩
              have hput := fun w' h => put_ok A1 d.length c1 (⟨1, xp, xc, r + 1, (all.length : Int) + 1⟩ : Op) d w' h (by omega) (by simp) (by simp) (by intro _; exact ⟨by dsimp only; omega, by dsimp only; omega⟩) (by simp)
              rw [hDD] at hc5 hdl hk9 hput
              clear hDD
              go_wp2_with (first | (go_at_call 7; refine (num_any _ _).mono ?_; rintro e w' ⟨rfl, rfl⟩)
                                 | (at_builtin; refine wpList_append_j (k := kEdit) (T := 37) (by rfl) _ _ _ (by rfl) i _ Try.underlying31 hi1 hi2 hi3 rfl (by rfl) (by rfl) (hE5.alloc _) (Rd.one (heap_alloc_new _ _) (⟨0, (⟨1, xp, xc, r + 1, (all.length : Int) + 1⟩ : Op)⟩ : Edit) rfl) (by unfold maxLen; omega) (by rw [hi4]; omega) ?_; intro A6 c6 w6 hE6 hm6 _ _; have hma := ((Mod.refl (fun b => col4 b = 21) w5).alloc (.cells #[.int .i64 0, .int .i64 1, .int .i64 xp, .int .u8 xc, .int .i64 (r + 1), .int .i64 (↑all.length + 1)] 37)).trans hm6 (fun b _ h => h); have hO6 := hma.heap hO5 (fun h => by have q1 : col4 (wr.heap.size + 1) = 21 := h; rw [hcol4' _ (by omega)] at q1; omega); have hR6 := blk_at hO6; have hD6 := hD5.mod hma (fun b hb h1 h2 => by have q1 : col4 b = 20 := h1; have q2 : col4 b = 21 := h2; omega); have hc6 := hc5.keep (col' := col4) hma (fun b hb h1 h2 h => by omega) (fun _ _ => rfl))
                                 | (go_at_call 10; refine (hput _ hD6.rd).mono ?_; rintro e w7 ⟨A7, n7, c7, rfl, hm7, hD7⟩; have hE7 := hE6.mod0 hm7; have hc7 := hc6.keep0 hm7; have hn7 := hD7.len; subst hn7)
                                 | (go_at_call 12; refine (doc_ok p m4 _ col4 1 _ hc7 hk9.tn).mono ?_; rintro e w8 ⟨A8, d8, rfl, hm8, hO8⟩; have hD8 := hD7.mod0 hm8; have hE8 := hE7.mod0 hm8; have hc8 := hc7.keep0 hm8)
                                 | (go_at_call 11; refine (sameDoc_any A8 A7 _ _ d8 c7 D D _ hO8.rd hD8.rd).mono ?_; rintro e w9 ⟨rfl, hm9⟩; have hE9 := hE8.mod0 hm9; have hc9 := hc8.keep0 hm9)
                                 | (go_at_call 14; refine (pending_ok p m4 _ col4 1 _ hc9 hk9.pn).mono ?_; rintro e w10 ⟨A10, d10, rfl, hm10, hO10⟩; have hE10 := hE9.mod0 hm10)
                                 | (go_at_call 13; refine (sameEdits_any A10 A6 _ _ d10 c6 (all ++ [⟨0, (⟨1, xp, xc, r + 1, (all.length : Int) + 1⟩ : Op)⟩]) (all ++ [⟨0, (⟨1, xp, xc, r + 1, (all.length : Int) + 1⟩ : Op)⟩]) _ hO10.rd hE10.rd).mono ?_; rintro e w11 ⟨rfl, hm11⟩))
              have hmz := (((hm8.then0 hm9).then0 hm10).then0 hm11)
              go_roundw
              case rel =>
                obtain ⟨colZ, z1, z2, z3, z4, z5, z6⟩ := mk_rel hM hM5 hma hm7 hmz hc5 hD7 hE6 (by simp) hcol4' hcol
                exact ⟨k + 1, D, _, m4, A7, c7, A6, c6, colZ, by omega, by go_num, rfl, by simp, z1, z2, by simpa using z3, by simp; omega, by simp; omega, z4, z5, z6⟩
              case measure => simp [intOf]; omega
            · obtain ⟨E, hEE⟩ : ∃ E, wantE false xp xc d.length all.length = E := ⟨_, rfl⟩
              rw [hEE] at hwE hE0 ⊢
              clear hEE
              have hins := fun w' hc' => insert_bad p m _ col 1 xp xc w' hc' hk (by rw [hwE]; exact hE0)
              rw [hwE] at hins
              clear hwE
              have hne : (E != 0) = true := by simp [hE0]
              clear hE0
              go_upto_region 21 with fail
              refine cut_world (F := fun w3 => w3.heap[wr.heap.size + 2]? = some (.cells #[.int .i64 0, .int .i64 0, .int .i64 0, .int .u8 0, .int .i64 0, .int .i64 0] 37 (0, 0)) ∧ w3.heap[wr.heap.size + 1]? = some (.cells #[.int .i64 1, .int .i64 xp, .int .u8 (xc % 256), .int .i64 (r + 1), .int .i64 (↑all.length + 1)] 35 (0, 0)) ∧ w3.heap[wr.heap.size]? = some (.cells #[.bool false, .int .i64 xp, .int .i64 xc] 33 (0, 0)) ∧ Mod No wr w3 ∧ wr.heap.size + 3 ≤ w3.heap.size)
                ⟨blk_new _ _ (by simp), blk_alloc (blk_new _ _ (by simp)) _, blk_alloc (blk_alloc (blk_new _ _ rfl) _) _, (((Mod.refl _ _).alloc _).alloc _).alloc _, by simp⟩ ?_
              rintro w3 ⟨hX3, hO3, hD3, hM3, hS3⟩
              have hC3 := blk_at hD3
              have hCo3 := blk_at hO3
              have hFo3 := blk_free hO3
              have g0 := hcg wr.heap.size (Nat.le_refl _)
              have g1 := hcg (wr.heap.size + 1) (by omega)
              have g2 := hcg (wr.heap.size + 2) (by omega)
              have hlwr : w.heap.size ≤ wr.heap.size := hM.size
              have hMv : Mod (fun b => wr.heap.size ≤ b) wr w3 := hM3.of
              have hXv := hX3
              have hOv := hO3
              have hcv := hc.keep (col' := col) hMv (fun b hb _ _ h => by omega) (fun _ _ => rfl)
              go_upto_region 26 with (go_at_call 9; refine (hins _ hcv).mono ?_; rintro e w4 ⟨rfl, hm4⟩; have hX4 := hm4.heap hXv (fun h => h); have hO4 := hm4.heap hOv (fun h => h); have hQ4 := blk_at hX4; have hQf4 := blk_free hX4)
              have r2 : (fun b => wr.heap.size ≤ b) (wr.heap.size + 2) ∨ wr.heap.size ≤ wr.heap.size + 2 := .inl (by dsimp only; omega)
              refine cut_world (F := fun w5 => w5.heap[wr.heap.size + 2]? = some (.cells #[.int .i64 0, .int .i64 0, .int .i64 0, .int .u8 0, .int .i64 0, .int .i64 0] 37 (0, 0)) ∧ w5.heap[wr.heap.size + 1]? = some (.cells #[.int .i64 1, .int .i64 xp, .int .u8 (xc % 256), .int .i64 (r + 1), .int .i64 (↑all.length + 1)] 35 (0, 0)) ∧ Mod (fun b => wr.heap.size ≤ b) wr w5)
                ⟨blk_set (blk_set (blk_set (blk_set (blk_set (blk_set hX4 0 _) 1 _) 2 _) 3 _) 4 _) 5 _,
                 blk_set_other (blk_set_other (blk_set_other (blk_set_other (blk_set_other (blk_set_other hO4 (by dsimp only; omega) _) (by dsimp only; omega) _) (by dsimp only; omega) _) (by dsimp only; omega) _) (by dsimp only; omega) _) (by dsimp only; omega) _,
                 mod_set (mod_set (mod_set (mod_set (mod_set (mod_set (hMv.then0 hm4) r2) r2) r2) r2) r2) r2⟩ ?_
              clear hX4 hO4 hQ4 hQf4 hm4 hXv hOv hcv hMv hX3 hO3 hD3 hM3 hS3 hC3 hCo3 hFo3 hins x1 x2 x3
              clear w4 w3
              rintro w5 ⟨hX5, hO5, hM5⟩
              have hQ5 := blk_at hX5
              have hc5 := hc.keep (col' := col) hM5 (fun b hb _ _ h => by omega) (fun _ _ => rfl)
              have hD5 := hD.mod hM5 (fun b hb _ h => by omega)
              have hE5 := hE.mod hM5 (fun b hb _ h => by omega)
              go_wp2_with (first | (go_at_call 7; refine (num_any _ _).mono ?_; rintro e w' ⟨rfl, rfl⟩)
                                 | (go_at_call 12; refine (doc_ok p m _ col 1 _ hc5 hk.tn).mono ?_; rintro e w6 ⟨A6, d6, rfl, hm6, hO6⟩; have hD6 := hD5.mod0 hm6; have hE6 := hE5.mod0 hm6)
                                 | (go_at_call 11; refine (sameDoc_any A6 A1 _ _ d6 c1 d d _ hO6.rd hD6.rd).mono ?_; rintro e w7 ⟨rfl, hm7⟩; have hE7 := hE6.mod0 hm7)
                                 | (go_at_call 14; refine (pending_ok p m _ col 1 _ ((hc5.keep0 hm6).keep0 hm7) hk.pn).mono ?_; rintro e w8 ⟨A8, d8, rfl, hm8, hO8⟩; have hE8 := hE7.mod0 hm8)
                                 | (go_at_call 13; refine (sameEdits_any A8 B1 _ _ d8 b1 all all _ hO8.rd hE8.rd).mono ?_; rintro e w9 ⟨rfl, hm9⟩))
              have hM9 := (((hM5.then0 hm6).then0 hm7).then0 hm8).then0 hm9
              go_roundw
              case rel => exact ⟨k + 1, d, all, m, A1, c1, B1, b1, col, by omega, by go_num, rfl, rfl, hc.keep (col' := col) hM9 (fun b hb _ _ h => by omega) (fun _ _ => rfl), hD.mod hM9 (fun b hb _ h => by omega), hE.mod hM9 (fun b hb _ h => by omega), hda, ha, hM.trans hM9 (fun b hb h => by omega), hcol, fun b hb => hcg b (Nat.le_trans hM9.size hb)⟩
              case measure => simp [intOf]; omega
          · have hwE := want_del (id := r + 1) (p := xp) (c := xc) (d := d) ha
            by_cases hE0 : wantE true xp xc d.length all.length = 0
            · have hins := fun w' hc' => delete_ok p m _ col 1 xp w' (Nat.le_refl 1) hc' hk (by rw [hwE]; exact hE0)
              have hpos := want_pos hE0
              have h64 := want_64 hE0
              rw [hE0]
              clear hE0 hwE
              go_upto_region 21 with fail
              refine cut_world (F := fun w3 => w3.heap[wr.heap.size + 2]? = some (.cells #[.int .i64 0, .int .i64 0, .int .i64 0, .int .u8 0, .int .i64 0, .int .i64 0] 37 (0, 0)) ∧ w3.heap[wr.heap.size + 1]? = some (.cells #[.int .i64 1, .int .i64 xp, .int .u8 (xc % 256), .int .i64 (r + 1), .int .i64 (↑all.length + 1)] 35 (0, 0)) ∧ w3.heap[wr.heap.size]? = some (.cells #[.bool true, .int .i64 xp, .int .i64 xc] 33 (0, 0)) ∧ Mod No wr w3 ∧ wr.heap.size + 3 ≤ w3.heap.size)
                ⟨blk_new _ _ (by simp), blk_alloc (blk_new _ _ (by simp)) _, blk_alloc (blk_alloc (blk_new _ _ rfl) _) _, (((Mod.refl _ _).alloc _).alloc _).alloc _, by simp⟩ ?_
              rintro w3 ⟨hX3, hO3, hD3, hM3, hS3⟩
              have hC3 := blk_at hD3
              have hCo3 := blk_at hO3
              have hFo3 := blk_free hO3
              have g0 := hcg wr.heap.size (Nat.le_refl _)
              have g1 := hcg (wr.heap.size + 1) (by omega)
              have g2 := hcg (wr.heap.size + 2) (by omega)
              have hlwr : w.heap.size ≤ wr.heap.size := hM.size
              have r1 : (fun b => wr.heap.size ≤ b) (wr.heap.size + 1) ∨ wr.heap.size ≤ wr.heap.size + 1 := .inl (by dsimp only; omega)
              have hMv : Mod (fun b => wr.heap.size ≤ b) wr ((w3.setCell ⟨wr.heap.size + 1, 0, none⟩ (.int .i64 2)).setCell ⟨wr.heap.size + 1, 2, none⟩ (.int .u8 0)) := mod_set (mod_set hM3.of r1) r1
              have hXv := blk_set_other (a := ⟨wr.heap.size + 1, 2, none⟩) (blk_set_other (a := ⟨wr.heap.size + 1, 0, none⟩) hX3 (by dsimp only; omega) (.int .i64 2)) (by dsimp only; omega) (.int .u8 0)
              have hOv := blk_set (blk_set hO3 0 (.int .i64 2)) 2 (.int .u8 0)
              have hcv := hc.keep (col' := col) hMv (fun b hb _ _ h => by omega) (fun _ _ => rfl)
              go_upto_region 26 with (go_at_call 8; refine (hins _ hcv).mono ?_; rintro e w4 ⟨rfl, m4, col4, hc4, hm4, hcol4⟩; have hX4 := hm4.heap hXv (fun h => by have := h.1; omega); have hO4 := hm4.heap hOv (fun h => by have := h.1; omega); have hQ4 := blk_at hX4; have hQf4 := blk_free hX4)
              have r2 : ((1 ≤ col (wr.heap.size + 2) ∧ col (wr.heap.size + 2) ≤ 1 + 8) ∨ wr.heap.size ≤ wr.heap.size + 2) ∨ wr.heap.size ≤ wr.heap.size + 2 := .inr (by omega)
              have hsz3 : wr.heap.size + 3 ≤ w3.heap.size := hS3
              have hc4' : ClAt w4 p m4 (clOf (r + 1) (applyE d (⟨2, xp, 0, r + 1, (all.length : Int) + 1⟩ : Op)) (all ++ [⟨0, (⟨2, xp, 0, r + 1, (all.length : Int) + 1⟩ : Op)⟩])) col4 1 := by rw [← clOf_edited _ _ _ _ rfl]; exact hc4
              clear hc4
              have g24 : col4 (wr.heap.size + 2) = 0 := by rw [hcol4 _ (by first | omega | (simp; omega))]; exact g2
              have hMa : Mod (fun b => (1 ≤ col b ∧ col b ≤ 1 + 8) ∨ wr.heap.size ≤ b) wr w4 := (hMv.mono (fun b _ h => .inr h)).trans hm4 (fun b _ h => .inl h)
              have hcol4' : ∀ b, b < wr.heap.size + 3 → col4 b = col b := fun b hb => hcol4 b (by first | omega | (simp; omega))
              have hms : ∀ v0 v1 v2 v3 v4 v5, Mod (fun b => b = wr.heap.size + 2) w4 ((((((w4.setCell ⟨wr.heap.size + 2, 0, none⟩ v0).setCell ⟨wr.heap.size + 2, 1, none⟩ v1).setCell ⟨wr.heap.size + 2, 2, none⟩ v2).setCell ⟨wr.heap.size + 2, 3, none⟩ v3).setCell ⟨wr.heap.size + 2, 4, none⟩ v4).setCell ⟨wr.heap.size + 2, 5, none⟩ v5) := fun v0 v1 v2 v3 v4 v5 => mod_set (mod_set (mod_set (mod_set (mod_set (mod_set (Mod.refl _ _) (.inl rfl)) (.inl rfl)) (.inl rfl)) (.inl rfl)) (.inl rfl)) (.inl rfl)
              refine cut_world (F := fun w5 => w5.heap[wr.heap.size + 2]? = some (.cells #[.int .i64 0, .int .i64 2, .int .i64 xp, .int .u8 0, .int .i64 (r + 1), .int .i64 (↑all.length + 1)] 37 (0, 0)) ∧ w5.heap[wr.heap.size + 1]? = some (.cells #[.int .i64 2, .int .i64 xp, .int .u8 0, .int .i64 (r + 1), .int .i64 (↑all.length + 1)] 35 (0, 0)) ∧ ClAt w5 p m4 (clOf (r + 1) (applyE d (⟨2, xp, 0, r + 1, (all.length : Int) + 1⟩ : Op)) (all ++ [⟨0, (⟨2, xp, 0, r + 1, (all.length : Int) + 1⟩ : Op)⟩])) col4 1 ∧ Mod (fun b => (1 ≤ col b ∧ col b ≤ 1 + 8) ∨ wr.heap.size ≤ b) wr w5)
                ⟨blk_set (blk_set (blk_set (blk_set (blk_set (blk_set hX4 0 _) 1 _) 2 _) 3 _) 4 _) 5 _,
                 blk_set_other (blk_set_other (blk_set_other (blk_set_other (blk_set_other (blk_set_other hO4 (by dsimp only; omega) _) (by dsimp only; omega) _) (by dsimp only; omega) _) (by dsimp only; omega) _) (by dsimp only; omega) _) (by dsimp only; omega) _,
                 hc4'.keep (col' := col4) (hms _ _ _ _ _ _) (fun b hb h1 h2 e => by subst e; omega) (fun _ _ => rfl),
                 hMa.trans (hms _ _ _ _ _ _) (fun b hb e => .inr (by omega))⟩ ?_
              clear hX4 hO4 hQ4 hQf4 hm4 hXv hOv hcv hMv hX3 hO3 hD3 hM3 hS3 hC3 hCo3 hFo3 hins x1 x2 x3 hms hMa hc4' hcol4 hsz3 r2
              clear w4 w3
              rintro w5 ⟨hX5, hO5, hc5, hM5⟩
              have hQ5 := blk_at hX5
              have hR5 := blk_at hO5
              have hD5 := hD.mod' hM5 (S' := fun b => col4 b = 20) (fun b hb h1 h2 => by omega) (fun b hb h1 => by rw [hcol4' b (by omega)]; exact h1)
              have hE5 := hE.mod' hM5 (S' := fun b => col4 b = 21) (fun b hb h1 h2 => by omega) (fun b hb h1 => by rw [hcol4' b (by omega)]; exact h1)
              obtain ⟨i, hi1, hi2, hi3, hi4⟩ := info_parts Try.infoEdit
              have hlx := blk_lt hX5
              have hdl := applyE_len d (⟨2, xp, 0, r + 1, (all.length : Int) + 1⟩ : Op)
              have hk9 := clOf_ok (id := r + 1) (d := applyE d (⟨2, xp, 0, r + 1, (all.length : Int) + 1⟩ : Op)) (all := all ++ [⟨0, (⟨2, xp, 0, r + 1, (all.length : Int) + 1⟩ : Op)⟩]) (by omega) (by omega) (by simp; omega) (by simp; omega)
              have hs5 := hM5.size
              obtain ⟨D, hDD⟩ : ∃ D, applyE d (⟨2, xp, 0, r + 1, (all.length : Int) + 1⟩ : Op) = D := ⟨_, rfl⟩
              have hput := fun w' h => put_ok A1 d.length c1 (⟨2, xp, 0, r + 1, (all.length : Int) + 1⟩ : Op) d w' h (by omega) (by simp) (by simp) (by simp) (by intro _; exact ⟨by dsimp only; omega, by dsimp only; exact hpos.2.2 (by trivial)⟩)
              rw [hDD] at hc5 hdl hk9 hput
              clear hDD
              go_wp2_with (first | (go_at_call 7; refine (num_any _ _).mono ?_; rintro e w' ⟨rfl, rfl⟩)
                                 | (at_builtin; refine wpList_append_j (k := kEdit) (T := 37) (by rfl) _ _ _ (by rfl) i _ Try.underlying31 hi1 hi2 hi3 rfl (by rfl) (by rfl) (hE5.alloc _) (Rd.one (heap_alloc_new _ _) (⟨0, (⟨2, xp, 0, r + 1, (all.length : Int) + 1⟩ : Op)⟩ : Edit) rfl) (by unfold maxLen; omega) (by rw [hi4]; omega) ?_; intro A6 c6 w6 hE6 hm6 _ _; have hma := ((Mod.refl (fun b => col4 b = 21) w5).alloc (.cells #[.int .i64 0, .int .i64 2, .int .i64 xp, .int .u8 0, .int .i64 (r + 1), .int .i64 (↑all.length + 1)] 37)).trans hm6 (fun b _ h => h); have hO6 := hma.heap hO5 (fun h => by have q1 : col4 (wr.heap.size + 1) = 21 := h; rw [hcol4' _ (by omega)] at q1; omega); have hR6 := blk_at hO6; have hD6 := hD5.mod hma (fun b hb h1 h2 => by have q1 : col4 b = 20 := h1; have q2 : col4 b = 21 := h2; omega); have hc6 := hc5.keep (col' := col4) hma (fun b hb h1 h2 h => by omega) (fun _ _ => rfl))
                                 | (go_at_call 10; refine (hput _ hD6.rd).mono ?_; rintro e w7 ⟨A7, n7, c7, rfl, hm7, hD7⟩; have hE7 := hE6.mod0 hm7; have hc7 := hc6.keep0 hm7; have hn7 := hD7.len; subst hn7)
                                 | (go_at_call 12; refine (doc_ok p m4 _ col4 1 _ hc7 hk9.tn).mono ?_; rintro e w8 ⟨A8, d8, rfl, hm8, hO8⟩; have hD8 := hD7.mod0 hm8; have hE8 := hE7.mod0 hm8; have hc8 := hc7.keep0 hm8)
                                 | (go_at_call 11; refine (sameDoc_any A8 A7 _ _ d8 c7 D D _ hO8.rd hD8.rd).mono ?_; rintro e w9 ⟨rfl, hm9⟩; have hE9 := hE8.mod0 hm9; have hc9 := hc8.keep0 hm9)
                                 | (go_at_call 14; refine (pending_ok p m4 _ col4 1 _ hc9 hk9.pn).mono ?_; rintro e w10 ⟨A10, d10, rfl, hm10, hO10⟩; have hE10 := hE9.mod0 hm10)
                                 | (go_at_call 13; refine (sameEdits_any A10 A6 _ _ d10 c6 (all ++ [⟨0, (⟨2, xp, 0, r + 1, (all.length : Int) + 1⟩ : Op)⟩]) (all ++ [⟨0, (⟨2, xp, 0, r + 1, (all.length : Int) + 1⟩ : Op)⟩]) _ hO10.rd hE10.rd).mono ?_; rintro e w11 ⟨rfl, hm11⟩))
              have hmz := (((hm8.then0 hm9).then0 hm10).then0 hm11)
              go_roundw
              case rel =>
                obtain ⟨colZ, z1, z2, z3, z4, z5, z6⟩ := mk_rel hM hM5 hma hm7 hmz hc5 hD7 hE6 (by simp) hcol4' hcol
                exact ⟨k + 1, D, _, m4, A7, c7, A6, c6, colZ, by omega, by go_num, rfl, by simp, z1, z2, by simpa using z3, by simp; omega, by simp; omega, z4, z5, z6⟩
              case measure => simp [intOf]; omega
            · obtain ⟨E, hEE⟩ : ∃ E, wantE true xp xc d.length all.length = E := ⟨_, rfl⟩
              rw [hEE] at hwE hE0 ⊢
              clear hEE
              have hins := fun w' hc' => delete_bad p m _ col 1 xp w' hc' hk (by rw [hwE]; exact hE0)
              rw [hwE] at hins
              clear hwE
              have hne : (E != 0) = true := by simp [hE0]
              clear hE0
              go_upto_region 21 with fail
              refine cut_world (F := fun w3 => w3.heap[wr.heap.size + 2]? = some (.cells #[.int .i64 0, .int .i64 0, .int .i64 0, .int .u8 0, .int .i64 0, .int .i64 0] 37 (0, 0)) ∧ w3.heap[wr.heap.size + 1]? = some (.cells #[.int .i64 1, .int .i64 xp, .int .u8 (xc % 256), .int .i64 (r + 1), .int .i64 (↑all.length + 1)] 35 (0, 0)) ∧ w3.heap[wr.heap.size]? = some (.cells #[.bool true, .int .i64 xp, .int .i64 xc] 33 (0, 0)) ∧ Mod No wr w3 ∧ wr.heap.size + 3 ≤ w3.heap.size)
                ⟨blk_new _ _ (by simp), blk_alloc (blk_new _ _ (by simp)) _, blk_alloc (blk_alloc (blk_new _ _ rfl) _) _, (((Mod.refl _ _).alloc _).alloc _).alloc _, by simp⟩ ?_
              rintro w3 ⟨hX3, hO3, hD3, hM3, hS3⟩
              have hC3 := blk_at hD3
              have hCo3 := blk_at hO3
              have hFo3 := blk_free hO3
              have g0 := hcg wr.heap.size (Nat.le_refl _)
              have g1 := hcg (wr.heap.size + 1) (by omega)
              have g2 := hcg (wr.heap.size + 2) (by omega)
              have hlwr : w.heap.size ≤ wr.heap.size := hM.size
              have r1 : (fun b => wr.heap.size ≤ b) (wr.heap.size + 1) ∨ wr.heap.size ≤ wr.heap.size + 1 := .inl (by dsimp only; omega)
              have hMv : Mod (fun b => wr.heap.size ≤ b) wr ((w3.setCell ⟨wr.heap.size + 1, 0, none⟩ (.int .i64 2)).setCell ⟨wr.heap.size + 1, 2, none⟩ (.int .u8 0)) := mod_set (mod_set hM3.of r1) r1
              have hXv := blk_set_other (a := ⟨wr.heap.size + 1, 2, none⟩) (blk_set_other (a := ⟨wr.heap.size + 1, 0, none⟩) hX3 (by dsimp only; omega) (.int .i64 2)) (by dsimp only; omega) (.int .u8 0)
              have hOv := blk_set (blk_set hO3 0 (.int .i64 2)) 2 (.int .u8 0)
              have hcv := hc.keep (col' := col) hMv (fun b hb _ _ h => by omega) (fun _ _ => rfl)
              go_upto_region 26 with (go_at_call 8; refine (hins _ hcv).mono ?_; rintro e w4 ⟨rfl, hm4⟩; have hX4 := hm4.heap hXv (fun h => h); have hO4 := hm4.heap hOv (fun h => h); have hQ4 := blk_at hX4; have hQf4 := blk_free hX4)
              have r2 : (fun b => wr.heap.size ≤ b) (wr.heap.size + 2) ∨ wr.heap.size ≤ wr.heap.size + 2 := .inl (by dsimp only; omega)
              refine cut_world (F := fun w5 => w5.heap[wr.heap.size + 2]? = some (.cells #[.int .i64 0, .int .i64 0, .int .i64 0, .int .u8 0, .int .i64 0, .int .i64 0] 37 (0, 0)) ∧ w5.heap[wr.heap.size + 1]? = some (.cells #[.int .i64 2, .int .i64 xp, .int .u8 0, .int .i64 (r + 1), .int .i64 (↑all.length + 1)] 35 (0, 0)) ∧ Mod (fun b => wr.heap.size ≤ b) wr w5)
                ⟨blk_set (blk_set (blk_set (blk_set (blk_set (blk_set hX4 0 _) 1 _) 2 _) 3 _) 4 _) 5 _,
                 blk_set_other (blk_set_other (blk_set_other (blk_set_other (blk_set_other (blk_set_other hO4 (by dsimp only; omega) _) (by dsimp only; omega) _) (by dsimp only; omega) _) (by dsimp only; omega) _) (by dsimp only; omega) _) (by dsimp only; omega) _,
                 mod_set (mod_set (mod_set (mod_set (mod_set (mod_set (hMv.then0 hm4) r2) r2) r2) r2) r2) r2⟩ ?_
              clear hX4 hO4 hQ4 hQf4 hm4 hXv hOv hcv hMv hX3 hO3 hD3 hM3 hS3 hC3 hCo3 hFo3 hins x1 x2 x3
              clear w4 w3
              rintro w5 ⟨hX5, hO5, hM5⟩
              have hQ5 := blk_at hX5
              have hc5 := hc.keep (col' := col) hM5 (fun b hb _ _ h => by omega) (fun _ _ => rfl)
              have hD5 := hD.mod hM5 (fun b hb _ h => by omega)
              have hE5 := hE.mod hM5 (fun b hb _ h => by omega)
              go_wp2_with (first | (go_at_call 7; refine (num_any _ _).mono ?_; rintro e w' ⟨rfl, rfl⟩)
                                 | (go_at_call 12; refine (doc_ok p m _ col 1 _ hc5 hk.tn).mono ?_; rintro e w6 ⟨A6, d6, rfl, hm6, hO6⟩; have hD6 := hD5.mod0 hm6; have hE6 := hE5.mod0 hm6)
                                 | (go_at_call 11; refine (sameDoc_any A6 A1 _ _ d6 c1 d d _ hO6.rd hD6.rd).mono ?_; rintro e w7 ⟨rfl, hm7⟩; have hE7 := hE6.mod0 hm7)
                                 | (go_at_call 14; refine (pending_ok p m _ col 1 _ ((hc5.keep0 hm6).keep0 hm7) hk.pn).mono ?_; rintro e w8 ⟨A8, d8, rfl, hm8, hO8⟩; have hE8 := hE7.mod0 hm8)
                                 | (go_at_call 13; refine (sameEdits_any A8 B1 _ _ d8 b1 all all _ hO8.rd hE8.rd).mono ?_; rintro e w9 ⟨rfl, hm9⟩))
              have hM9 := (((hM5.then0 hm6).then0 hm7).then0 hm8).then0 hm9
              go_roundw
              case rel => exact ⟨k + 1, d, all, m, A1, c1, B1, b1, col, by omega, by go_num, rfl, rfl, hc.keep (col' := col) hM9 (fun b hb _ _ h => by omega) (fun _ _ => rfl), hD.mod hM9 (fun b hb _ h => by omega), hE.mod hM9 (fun b hb _ h => by omega), hda, ha, hM.trans hM9 (fun b hb h => by omega), hcol, fun b hb => hcg b (Nat.le_trans hM9.size hb)⟩
              case measure => simp [intOf]; omega
    · have hkn : k = n := by omega
      subst hkn
      have hk9 := clOf_ok (id := r + 1) (by omega) (by omega) hda ha
      have hmade : (clOf (r + 1) d all).made = (all.length : Int) := rfl
      have hfm := field_made
      go_wp2_with (go_at_call 15; refine (view_out p m _ col 1 _ hc hk9.tn hk9.pn rfl).mono ?_; rintro e w2 ⟨A2, d2, B2, b2, rfl, hm2, _, _⟩; simp only [hmade])
      go_ret
      exact ⟨rfl, hM.then0 hm2⟩
end Go.Proofs.Ythoibppblicplaa.J
