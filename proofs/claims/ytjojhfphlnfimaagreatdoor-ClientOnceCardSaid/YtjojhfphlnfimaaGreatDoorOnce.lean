/- The walk of ClientOnce. -/
import Derived.Test.YtjojhfphlnfimaaGreatDoorOnceA
namespace Go.Proofs.YtjojhfphlnfimaaGreatDoor.J
open Go Go.RowKit
set_option linter.unusedSimpArgs false
set_option linter.unusedVariables false

theorem Tryz.infoBool : (Tryz.prog.info? 4).map (fun i => (i.zero, i.size, i.bytes)) = some (some (.bool false), 1, 1) := by kernel_rfl
theorem OnceAt.doc_len {L : List Op} (hL : recsOk L) {N cb p po pi pm ps : Nat} {B : Option Addr} {d : Nat} {w wr : World} {h : Nat} {l : List (Int × Op)} {A : Option Addr} {tc : Nat} {cv : List Bool} (H : OnceAt L N cb p po pi pm ps B d w wr h l A tc cv) : (textE L h).length = h ∧ h ≤ 64 ∧ h ≤ L.length :=
  ⟨textE_len L hL h H.inv.le, Nat.le_trans H.inv.le hL.1, H.inv.le⟩

theorem field_hav (a b d e : Int) (x : Bool) (A B : Option Addr) (n c m k : Nat) (w : World) : Sem.run Tryz.prog (Instr.field 38 (.agg #[.int .i64 a, .int .i64 b, .bool x, .int .i64 d, .int .i64 e, .slice A n c, .slice B m k]) 4) w = .ok (.int .i64 e) w := by kernel_rfl
set_option maxRecDepth 100000 in
set_option maxHeartbeats 800000 in
theorem once_any (Ap : Option Addr) (np cp : Nat) (pl : List Int) (Ac : Option Addr) (nc cc : Nat) (cm : List Int) (w : World) (hp : Rd kZ w Ap np cp pl) (hc : Rd kZ w Ac nc cc cm) (hT : Tabs w) :
    Calls Tryz.prog 3 #[.slice Ap np cp, .slice Ac nc cc] w fun e w' => e = .returned (.bool true) ∧ Mod No w w' := by
  obtain ⟨i, hi1, hi2, hi3, hi4⟩ := info_parts Tryz.infoBool
  have hwr := written_ok Ap np cp pl w hp
  have hL := recsE_ok pl
  obtain ⟨L, hLe⟩ : ∃ L, recsE pl = L := ⟨_, rfl⟩
  rw [hLe] at hL
  simp only [hLe] at hwr
  have hL64 := hL.1
  have HL := Lib.hid hL
  have hjo := fun w' (hm : Mod No w w') => joined_ok w' (hT.mod0 hm)
  clear hL hLe hp
  have HT := Lib.hid hT
  have hcmx := hc.max
  unfold maxLen at hcmx
  have HC := Lib.hid hc
  clear hT hc
  go_enter Tryz.func3, Tryz.ntmps3
  go_wp2_with (first
    | (go_at_call 7; refine hwr.mono ?_; rintro e w1 ⟨B, N, d, rfl, hm1, hO1⟩; have HM1 := Lib.hid hm1; have HO1 := Lib.hid hO1; have hNL := Lib.hid hO1.1; have hN64 : N ≤ 64 := (by rw [hO1.1]; exact hL64); clear hwr hO1 hm1)
    | (go_at_call 8; refine (hjo _ HM1.out).mono ?_; rintro e w2 ⟨p, po, pi, pm, ps, rfl, hO2, hm2, b1, b2, b3, b4, b5⟩; have HO2 := Lib.hid hO2; have HM2 := Lib.hid hm2; have HB2 := Lib.hid (And.intro b1 (And.intro b2 (And.intro b3 (And.intro b4 b5)))); clear hjo hO2 hm2 b1 b2 b3 b4 b5)
    | (refine wpList_make_j (k := kBool) rfl _ _ _ rfl i _ false Tryz.underlying28 hi1 hi2 hi3 rfl .i64 .i64 _ _ (N + 1) (N + 1) rfl rfl (by simp) (by simp) (by omega) (by rw [hi4]; omega) (by unfold maxLen; omega) ?_; intro w3 hO3 hm3 hs3))
  have hw2 : w.heap.size ≤ w1.heap.size := HM1.out.size
  have hc3 : CameInv N 0 [] (List.replicate (N + 1) false) := CameInv.zero N
  obtain ⟨hb1, hb2, hb3, hb4, hb5⟩ := HB2.out
  have hs12 := HM2.out.size
  have H3 : OnceAt L N w2.heap.size p po pi pm ps B d w w3 0 [] none 0 (List.replicate (N + 1) false) := by
    have l1 := blk_lt HO2.out.hp
    have l2 := blk_lt HO2.out.ho
    have l3 := blk_lt HO2.out.hi.1
    have l4 : pm < w2.heap.size := by obtain ⟨es, ck, hmm, _⟩ := HO2.out.hi.2; exact blk_lt hmm
    have l5 := blk_lt HO2.out.hs
    refine ⟨HO2.out.mod0 hm3, ⟨List.Pairwise.nil, fun k q hk => by simp [findH] at hk, fun k hk => by simp [findH] at hk, rfl, Nat.zero_le _⟩, hO3, hc3, (HO1.out.rd.mod0 HM2.out).mod0 hm3, .inr rfl, (HM1.out.then0 HM2.out).then0 hm3, ⟨by omega, by omega, by omega, by omega⟩, ⟨by omega, by omega, by omega, by omega, by omega⟩, fun a ha => ?_⟩
    have h9 : a.block < w1.heap.size := HO1.out.blkLt a ha
    refine ⟨?_, ?_, ?_, ?_⟩ <;> omega
  obtain ⟨cb, hcb⟩ : ∃ cb, w2.heap.size = cb := ⟨_, rfl⟩
  rw [hcb] at H3
  have H3 := Lib.hid H3
  clear hO3 hm3 hs3 hb1 hb2 hb3 hb4 hb5 hs12 HB2 HO2 HO1 hc3 HM2 HM1 hw2
  simp only [hcb]
  clear hcb hi1 hi2 hi3 hi4
  go_loopw [9, 10] (fun s9 s10 wr => ∃ (i h : Nat) (l : List (Int × Op)) (A : Option Addr) (tc : Nat) (cv : List Bool), i ≤ nc ∧ s10 = .int .i64 i ∧ s9 = .int .i64 h ∧ Hid (OnceAt L N cb p po pi pm ps B d w wr h l A tc cv)) (fun _ s10 _ => nc - (intOf s10).toNat)
  case atStart => exact ⟨0, 0, [], none, 0, _, Nat.zero_le _, rfl, rfl, H3⟩
  case round =>
    obtain ⟨i, h, l, A, tc, cv, hi, rfl, rfl, H⟩ := hrel
    have hhN : h ≤ N := by rw [hNL.out]; exact (H.out.doc_len HL.out).2.2
    have i0 : (0 : Int) ≤ (i : Int) := by omega
    have h0 : (0 : Int) ≤ (h : Int) := by omega
    by_cases hlt : i < nc
    · by_cases hN : 0 < N
      · obtain ⟨b0, o0, x, hx, rfl, x1⟩ := (HC.out.mod0 H.out.md).z hlt
        have hre := fun w => rest_any x (N : Int) w (by omega) (by omega)
        obtain ⟨r1, r2⟩ := restE_bd x (n := (N : Int)) (by omega)
        obtain ⟨nn, hnn⟩ := Int.eq_ofNat_of_zero_le r1
        simp only [hnn] at hre
        have hnN : nn < N := by omega
        have n0 : (0 : Int) ≤ (nn : Int) := by omega
        clear r1 r2 hnn hx
        obtain ⟨b1, o1, q, hq, rfl, y1, y2, y3, y4, y5⟩ := H.out.rl.opP hnN
        have hto := told5 L HL.out nn q hq p po pi pm ps A tc h l wr H.out.oc H.out.inv (HT.out.mod0 H.out.md)
        obtain ⟨q1, q2, q3, q4, q5⟩ := q
        dsimp only at y1 y2 y3 y4 y5
        simp only [recMsg, Msg.v] at hto
        have HQ := Lib.hid hq
        have hh := (H.out.doc_len HL.out).2.1
        clear hq
        by_cases hle : nn + 1 ≤ h + 8
        · have hle' : decide ((nn : Int) + 1 ≤ (h : Int) + 8) = true := by simp; omega
          go_upto_region 14 with (first
            | (go_at_call 9; refine (hre _).mono ?_; rintro e w4 ⟨rfl, rfl⟩)
            | (go_at_call 10; refine hto.mono ?_; intro e w4 hT5; obtain ⟨bv, rfl, hb, hbt, hbf⟩ := H.out.told hnN hT5; obtain rfl : bv = true := hb.2 hle; have HBT := Lib.hid (hbt rfl); clear hT5 hb hbt hbf hto))
          obtain ⟨⟨cv0, hO0, hl0⟩, j, l', A', tc', H', hj⟩ := HBT.out
          have hF := hO0.freeB
          obtain ⟨bx, hbx⟩ : ∃ bx, cv0[nn + 1]? = some bx := ⟨_, List.getElem?_eq_getElem (by omega)⟩
          have hce := hO0.atBool hbx
          rw [Nat.zero_add] at hce
          have H' := Lib.hid H'
          clear HBT hO0 hl0 H hbx
          go_wp2
          refine cut_worldO (F := fun w5 => ∃ j l' A' tc' cv', h ≤ j ∧ Hid (OnceAt L N cb p po pi pm ps (some ⟨b1, o1, none⟩) d w w5 j l' A' tc' cv')) ⟨_, _, _, _, _, hj, H'⟩ ?_
          rintro w5 ⟨j, l', A', tc', cv', hj, H5⟩
          clear H' hF hce
          have hjN : j ≤ N := by rw [hNL.out]; exact (H5.out.doc_len HL.out).2.2
          have hj64 : j ≤ 64 := (H5.out.doc_len HL.out).2.1
          clear hle hle' x1 y1 y2 y3 y4 y5 hre
          go_loopw [9] (fun s9 wr' => ∃ g : Nat, h ≤ g ∧ g ≤ j ∧ s9 = .int .i64 g ∧ wr' = w5) (fun s9 _ => j - (intOf s9).toNat)
          case atStart => exact ⟨h, Nat.le_refl _, hj, rfl, rfl⟩
          case round =>
            obtain ⟨g, hg1, hg2, rfl, hwe⟩ := hrel
            subst wr
            have g0 : (0 : Int) ≤ (g : Int) := by omega
            by_cases hgj : g < j
            · have hgN : g < N := by omega
              have hce := H5.out.own.atBool ((H5.out.came.2 (g + 1) (by omega) (by omega)).2 (.inl (by omega)))
              rw [Nat.zero_add] at hce
              go_wp2
              go_roundw
              case rel => exact ⟨g + 1, by omega, by omega, by go_num, by first | rfl | trivial⟩
              case measure => simp [intOf]; omega
            · obtain rfl : g = j := by omega
              have hfh := field_hav
              have hvw := view_joined p po pi pm ps _ g l' ocR w5 H5.out.oc (by show (textE L g).length ≤ 4096; rw [(H5.out.doc_len HL.out).1]; omega) rfl
              simp only [oJ] at hvw
              by_cases hgN : g < N
              · have hce : w5.cell? ⟨cb, g + 1, none⟩ = some (.bool false) := by
                  have hlt9 : g + 1 < cv'.length := by rw [H5.out.came.1]; omega
                  have hne := (H5.out.came.2 (g + 1) (by omega) (by omega)).1
                  obtain ⟨bx, hbx⟩ : ∃ bx, cv'[g + 1]? = some bx := ⟨_, List.getElem?_eq_getElem hlt9⟩
                  cases bx with
                  | false =>
                    have := H5.out.own.atBool hbx
                    rwa [Nat.zero_add] at this
                  | true =>
                    exfalso
                    rcases hne hbx with h1 | h1
                    · omega
                    · have h2 := H5.out.inv.next
                      rw [show ((g + 1 : Nat) : Int) = (g : Int) + 1 from by omega, h2] at h1
                      cases h1
                go_wp2_with (go_at_call 11; refine hvw.mono ?_; rintro e w6 ⟨A6, d6, B6, b6, rfl, hm6⟩)
                refine ⟨⟨i + 1, g, l', A', tc', cv', by omega, by go_num, rfl, Lib.hid (H5.out.mod0 hm6)⟩, ?_⟩
                simp [intOf]; omega
              · go_wp2_with (go_at_call 11; refine hvw.mono ?_; rintro e w6 ⟨A6, d6, B6, b6, rfl, hm6⟩)
                refine ⟨⟨i + 1, g, l', A', tc', cv', by omega, by go_num, rfl, Lib.hid (H5.out.mod0 hm6)⟩, ?_⟩
                simp [intOf]; omega
        · have hle' : decide ((nn : Int) + 1 ≤ (h : Int) + 8) = false := by simp; omega
          go_upto_region 14 with (first
            | (go_at_call 9; refine (hre _).mono ?_; rintro e w4 ⟨rfl, rfl⟩)
            | (go_at_call 10; refine hto.mono ?_; intro e w4 hT5; obtain ⟨bv, rfl, hb, hbt, hbf⟩ := H.out.told hnN hT5; obtain rfl : bv = false := (by cases bv; rfl; exact absurd (hb.1 rfl) hle); have HBF := Lib.hid (hbf rfl); clear hT5 hb hbt hbf hto))
          obtain ⟨A', tc', H'⟩ := HBF.out
          have H' := Lib.hid H'
          clear HBF H
          go_wp2
          refine cut_worldO (F := fun w5 => ∃ j l' A' tc' cv', h ≤ j ∧ Hid (OnceAt L N cb p po pi pm ps (some ⟨b1, o1, none⟩) d w w5 j l' A' tc' cv')) ⟨h, _, _, _, _, Nat.le_refl _, H'⟩ ?_
          rintro w5 ⟨j, l', A', tc', cv', hj, H5⟩
          clear H'
          have hjN : j ≤ N := by rw [hNL.out]; exact (H5.out.doc_len HL.out).2.2
          have hj64 : j ≤ 64 := (H5.out.doc_len HL.out).2.1
          clear hle hle' x1 y1 y2 y3 y4 y5 hre
          go_loopw [9] (fun s9 wr' => ∃ g : Nat, h ≤ g ∧ g ≤ j ∧ s9 = .int .i64 g ∧ wr' = w5) (fun s9 _ => j - (intOf s9).toNat)
          case atStart => exact ⟨h, Nat.le_refl _, hj, rfl, rfl⟩
          case round =>
            obtain ⟨g, hg1, hg2, rfl, hwe⟩ := hrel
            subst wr
            have g0 : (0 : Int) ≤ (g : Int) := by omega
            by_cases hgj : g < j
            · have hgN : g < N := by omega
              have hce := H5.out.own.atBool ((H5.out.came.2 (g + 1) (by omega) (by omega)).2 (.inl (by omega)))
              rw [Nat.zero_add] at hce
              go_wp2
              go_roundw
              case rel => exact ⟨g + 1, by omega, by omega, by go_num, by first | rfl | trivial⟩
              case measure => simp [intOf]; omega
            · obtain rfl : g = j := by omega
              have hfh := field_hav
              have hvw := view_joined p po pi pm ps _ g l' ocR w5 H5.out.oc (by show (textE L g).length ≤ 4096; rw [(H5.out.doc_len HL.out).1]; omega) rfl
              simp only [oJ] at hvw
              by_cases hgN : g < N
              · have hce : w5.cell? ⟨cb, g + 1, none⟩ = some (.bool false) := by
                  have hlt9 : g + 1 < cv'.length := by rw [H5.out.came.1]; omega
                  have hne := (H5.out.came.2 (g + 1) (by omega) (by omega)).1
                  obtain ⟨bx, hbx⟩ : ∃ bx, cv'[g + 1]? = some bx := ⟨_, List.getElem?_eq_getElem hlt9⟩
                  cases bx with
                  | false =>
                    have := H5.out.own.atBool hbx
                    rwa [Nat.zero_add] at this
                  | true =>
                    exfalso
                    rcases hne hbx with h1 | h1
                    · omega
                    · have h2 := H5.out.inv.next
                      rw [show ((g + 1 : Nat) : Int) = (g : Int) + 1 from by omega, h2] at h1
                      cases h1
                go_wp2_with (go_at_call 11; refine hvw.mono ?_; rintro e w6 ⟨A6, d6, B6, b6, rfl, hm6⟩)
                refine ⟨⟨i + 1, g, l', A', tc', cv', by omega, by go_num, rfl, Lib.hid (H5.out.mod0 hm6)⟩, ?_⟩
                simp [intOf]; omega
              · go_wp2_with (go_at_call 11; refine hvw.mono ?_; rintro e w6 ⟨A6, d6, B6, b6, rfl, hm6⟩)
                refine ⟨⟨i + 1, g, l', A', tc', cv', by omega, by go_num, rfl, Lib.hid (H5.out.mod0 hm6)⟩, ?_⟩
                simp [intOf]; omega
      · have hN0 : ¬ 0 < (N : Int) := by omega
        have hdo := fun w' (hm : Mod No wr w') => doc_oc p po pi pm ps _ h l ocR w' (H.out.oc.mod0 hm) (by show (textE L h).length ≤ 4096; rw [(H.out.doc_len HL.out).1]; omega)
        simp only [oJ] at hdo
        go_wp2
        go_loopw [13, 14] (fun s13 s14 wr' => ∃ (k n' c' : Nat) (D : Option Addr), k ≤ h ∧ s14 = .int .i64 k ∧ s13 = .slice D n' c' ∧ Hid (Rd kElem wr' D n' c' (textE L k)) ∧ Hid (Mod No wr wr')) (fun _ s14 _ => h - (intOf s14).toNat)
        case atStart => exact ⟨0, 0, 0, none, Nat.zero_le _, rfl, rfl, Lib.hid (Rd.nil _ _), Lib.hid (Mod.refl _ _)⟩
        case round =>
          obtain ⟨k, n', c', D, hk, rfl, rfl, hR, hMk⟩ := hrel
          have k0 : (0 : Int) ≤ (k : Int) := by omega
          by_cases hkh : k < h
          · obtain ⟨b1, o1, q, hq, rfl, y1, y2, y3, y4, y5⟩ := (H.out.rl.mod0 hMk.out).opP (i := k) (by omega)
            have hn' : n' = k := by rw [hR.out.1, textE_len L HL.out k (by rw [← hNL.out]; omega)]
            subst hn'
            obtain ⟨_, _, _, _, hqk, hqp1, hqp2, _⟩ := HL.out.2 _ _ hq
            have hpu := put_ok D n' c' q (textE L n') wr hR.out (by omega) (by rw [hqk]; decide) (by rw [hqk]; decide) (fun _ => ⟨hqp1, hqp2⟩) (fun h => by rw [hqk] at h; cases h)
            rw [← textE_next L n' q hq] at hpu
            clear hqk hqp1 hqp2 hq
            obtain ⟨q1, q2, q3, q4, q5⟩ := q
            dsimp only at y1 y2 y3 y4 y5
            simp only [Op.v] at hpu
            go_wp2_with (go_at_call 12; refine hpu.mono ?_; rintro e w6 ⟨A6, n6, c6, rfl, hm6, hO6⟩; have HO6 := Lib.hid hO6.rd; clear hO6)
            go_roundw
            case rel => exact ⟨n' + 1, n6, c6, A6, by omega, by go_num, rfl, HO6, Lib.hid (hMk.out.then0 hm6)⟩
            case measure => simp [intOf]; omega
          · obtain rfl : k = h := by omega
            go_wp2_with (first
              | (go_at_call 14; refine (hdo _ hMk.out).mono ?_; rintro e w6 ⟨A6, d6, rfl, hm6, hO6⟩; have HO6 := Lib.hid hO6.rd; clear hO6)
              | (go_at_call 13; refine (sameDoc_any _ _ _ _ _ _ _ _ _ HO6.out (hR.out.mod0 hm6)).mono ?_; rintro e w7 ⟨rfl, hm7⟩))
            go_ret

            exact ⟨by simp, ((H.out.md.then0 hMk.out).then0 hm6).then0 hm7⟩
    · obtain rfl : i = nc := by omega
      have hdo := fun w' (hm : Mod No wr w') => doc_oc p po pi pm ps _ h l ocR w' (H.out.oc.mod0 hm) (by show (textE L h).length ≤ 4096; rw [(H.out.doc_len HL.out).1]; omega)
      simp only [oJ] at hdo
      go_wp2

      go_loopw [13, 14] (fun s13 s14 wr' => ∃ (k n' c' : Nat) (D : Option Addr), k ≤ h ∧ s14 = .int .i64 k ∧ s13 = .slice D n' c' ∧ Hid (Rd kElem wr' D n' c' (textE L k)) ∧ Hid (Mod No wr wr')) (fun _ s14 _ => h - (intOf s14).toNat)
      case atStart => exact ⟨0, 0, 0, none, Nat.zero_le _, rfl, rfl, Lib.hid (Rd.nil _ _), Lib.hid (Mod.refl _ _)⟩
      case round =>
        obtain ⟨k, n', c', D, hk, rfl, rfl, hR, hMk⟩ := hrel
        have k0 : (0 : Int) ≤ (k : Int) := by omega
        by_cases hkh : k < h
        · obtain ⟨b1, o1, q, hq, rfl, y1, y2, y3, y4, y5⟩ := (H.out.rl.mod0 hMk.out).opP (i := k) (by omega)
          have hn' : n' = k := by rw [hR.out.1, textE_len L HL.out k (by rw [← hNL.out]; omega)]
          subst hn'
          obtain ⟨_, _, _, _, hqk, hqp1, hqp2, _⟩ := HL.out.2 _ _ hq
          have hpu := put_ok D n' c' q (textE L n') wr hR.out (by omega) (by rw [hqk]; decide) (by rw [hqk]; decide) (fun _ => ⟨hqp1, hqp2⟩) (fun h => by rw [hqk] at h; cases h)
          rw [← textE_next L n' q hq] at hpu
          clear hqk hqp1 hqp2 hq
          obtain ⟨q1, q2, q3, q4, q5⟩ := q
          dsimp only at y1 y2 y3 y4 y5
          simp only [Op.v] at hpu
          go_wp2_with (go_at_call 12; refine hpu.mono ?_; rintro e w6 ⟨A6, n6, c6, rfl, hm6, hO6⟩; have HO6 := Lib.hid hO6.rd; clear hO6)
          go_roundw
          case rel => exact ⟨n' + 1, n6, c6, A6, by omega, by go_num, rfl, HO6, Lib.hid (hMk.out.then0 hm6)⟩
          case measure => simp [intOf]; omega
        · obtain rfl : k = h := by omega
          go_wp2_with (first
            | (go_at_call 14; refine (hdo _ hMk.out).mono ?_; rintro e w6 ⟨A6, d6, rfl, hm6, hO6⟩; have HO6 := Lib.hid hO6.rd; clear hO6)
            | (go_at_call 13; refine (sameDoc_any _ _ _ _ _ _ _ _ _ HO6.out (hR.out.mod0 hm6)).mono ?_; rintro e w7 ⟨rfl, hm7⟩))
          go_ret

          exact ⟨by simp, ((H.out.md.then0 hMk.out).then0 hm6).then0 hm7⟩

end Go.Proofs.YtjojhfphlnfimaaGreatDoor.J
