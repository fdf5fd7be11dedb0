/- The records that are next are taken in: takeIn, general. -/
import Derived.Test.YtjojhfphlnfimaaGreatDoorGi
import Derived.Deep.DeepCutAuto
namespace Go.Proofs.YtjojhfphlnfimaaGreatDoor.J
open Go Go.RowKit
set_option linter.unusedSimpArgs false
set_option linter.unusedVariables false

theorem GcAt.colsNo {w : World} {p : Nat} {m : ClM} {g : Gc} {col : Nat → Nat} {t : Nat} (h : GcAt w p m g col t) {b : Nat} (hb : col b = 0) : ¬ (t ≤ col b ∧ col b ≤ t + 8) := by
  have := h.t1
  omega

theorem Own.someAt {α : Type} {k : K α} {T : TypeId} {w : World} {A : Option Addr} {n c : Nat} {l : List α} {S : Nat → Prop} (h : Own k T w A n c l S) (hn : 1 ≤ n) : ∃ b o, A = some ⟨b, o, none⟩ := by
  rcases h.2 with ⟨_, h, _⟩ | ⟨g, off, cur, h, _⟩
  · omega
  · exact ⟨g, _, h⟩

set_option maxRecDepth 100000 in
set_option maxHeartbeats 16000000 in
theorem takeIn_any (p : Nat) (m : ClM) (g : Gc) (col : Nat → Nat) (t : Nat) (w : World) (h : GcAt w p m g col t) (hk : g.Ok) (hT : OtT w) (hG : col 4 = 0) :
    Calls Tryz.prog 60 #[.pointer (some ⟨p, 0, none⟩)] w fun en w' => en = .returned (.tuple #[]) ∧ ∃ m' col', GRun w col w' p m' (g.takeIn g.held.length) col' t := by
  have HR0 := Lib.hid (GRun.start h)
  have HK0 := Lib.hid hk
  have HN := Lib.hid (h.colsNo hG)
  have HT := Lib.hid hT
  obtain ⟨GG, hGG⟩ : ∃ GG, g.takeIn g.held.length = GG := ⟨_, rfl⟩
  rw [hGG]
  have HGG := Lib.hid hGG
  clear h hk hT hG hGG
  go_enter Tryz.func60, Tryz.ntmps60
  go_wp2
  go_loopw [2, 3, 4, 5] (fun _ _ _ _ wr => ∃ (g' : Gc) (m' : ClM) (col' : Nat → Nat), Hid (GRun w col wr p m' g' col' t) ∧ Hid g'.Ok ∧ Hid (g'.takeIn g'.held.length = GG)) (fun _ _ _ _ wr => 4096 - (intOf ((wr.cell? ⟨p, 6, none⟩).getD undef)).toNat)
  case atStart => exact ⟨g, m, col, HR0, HK0, HGG⟩
  case round =>
    clear HR0 HK0 HGG
    obtain ⟨g', m', col', HR, HK, HGG⟩ := hrel
    obtain ⟨c0, c1, c2, c3, c4, c5, c6, c7, c8, c9, c10⟩ := HR.out.at_.cells
    have hcum0 := HK.out.c0
    have hcum1 : g'.cum ≤ 4096 := by have := HK.out.hv; have := HK.out.b0; have := HK.out.hm; omega
    have hhd := head_ok m'.pi m'.pm g'.cum g'.held wr HR.out.at_.hi hcum0 hcum1
    have HMs := Lib.hid c6
    clear c6
    cases hfind : findH (g'.cum + 1) g'.held with
    | none =>
      rw [hfind] at hhd
      simp only [Option.getD_none, Option.isSome_none, Op.v, Op.zero] at hhd
      have HE := Lib.hid ((takeIn_none hfind).symm.trans HGG.out)
      clear hfind HGG
      go_wp2_with (go_at_call 89; refine hhd.mono ?_; rintro e w1 ⟨rfl, hm1⟩)
      refine bodyPost_ret (results_none rfl _ _ _) rfl ?_
      have hR := (HR.out.mod0 hm1).alloc (.cells #[.int .i64 0, .int .i64 0, .int .u8 0, .int .i64 0, .int .i64 0] 32)
      rw [HE.out] at hR
      exact ⟨rfl, m', col', hR⟩
    | some q =>
      rw [hfind] at hhd
      simp only [Option.getD_some, Option.isSome_some, Op.v] at hhd
      obtain ⟨hq1, hq2, hqv⟩ := HK.out.hq _ _ hfind
      have hac := fun w' (h' : GcAt w' p m' g' col' t) hT' => accepts_any p m' g' col' t q w' h' HK.out hqv hT'
      have HQV := Lib.hid hqv
      have HF := Lib.hid hfind
      obtain ⟨E, hE⟩ : ∃ E, acceptsE g' q = E := ⟨_, rfl⟩
      rw [hE] at hac
      obtain ⟨q1, q2, q3, q4, q5⟩ := q
      simp only [Op.v] at hac
      by_cases hE0 : E = 0
      · subst hE0
        have HA := Lib.hid hE
        have hhav : g'.hav + 1 ≤ 4096 := by have := HK.out.hv; omega
        have hhav0 : 0 ≤ g'.hav := by have := HK.out.hv; have := HK.out.b0; omega
        have hpp := fun w' h' => pop_ok m'.pi m'.pm g'.cum g'.held ⟨q1, q2, q3, q4, q5⟩ w' h' HR.out.at_.pm_ne hcum0 hcum1 HF.out
        clear hE hfind hqv
        go_upto_region 6 with (first
          | (go_at_call 89; refine hhd.mono ?_; rintro e w1 ⟨rfl, hm1⟩; have hX2 := blk_new w1 (.cells #[.int .i64 q1, .int .i64 q2, .int .u8 q3, .int .i64 q4, .int .i64 q5] 32) rfl; have HR2 := Lib.hid ((HR.out.mod0 hm1).alloc (.cells #[.int .i64 q1, .int .i64 q2, .int .u8 q3, .int .i64 q4, .int .i64 q5] 32)); have hQX2 := blk_at hX2)
          | (go_at_call 86; refine (hac _ HR2.out.at_ (HT.out.mod HR2.out.md HN.out)).mono ?_; rintro e w3 ⟨rfl, hm3⟩; have HR3 := Lib.hid (HR2.out.mod0 hm3); have hX3 := hm3.heap hX2 (fun h => h); have e1 := HR3.out.at_.c1)
          | (go_at_call 91; refine (hpp _ HR3.out.at_.hi).mono ?_; rintro e w4 ⟨rfl, hm4, hI4⟩; have HR4 := Lib.hid (HR3.out.inbox hm4 hI4); have f6 := HR4.out.at_.c6; have ff := HR4.out.at_.cf; dsimp only at f6))
        have hb2 : wr.heap.size ≤ w1.heap.size := hm1.size
        obtain ⟨b2, hb2e⟩ : ∃ b2, w1.heap.size = b2 := ⟨_, rfl⟩
        rw [hb2e] at hb2 hX3 ⊢
        have hX4 := hm4.heap hX3 (by have := blk_lt HR.out.at_.hi.1; have := HR.out.at_.pmlt; omega)
        have hpb : b2 ≠ p := by have := blk_lt HR.out.at_.hp; omega
        obtain ⟨g1, hg1⟩ : ∃ g1, ({ g' with cum := g'.cum + 1, held := delH (g'.cum + 1) g'.held, hav := g'.hav + 1 } : Gc) = g1 := ⟨_, rfl⟩
        have HR5 : GRun w col (w4.setCell ⟨p, 6, none⟩ (.int .i64 (g'.hav + 1))) p m' g1 col' t := by rw [← hg1]; exact HR4.out.setHav _
        refine cut_worldO (F := fun w6 => Hid (GRun w col w6 p m' g1 col' t) ∧ w6.heap[b2]? = some (.cells #[.int .i64 q1, .int .i64 q2, .int .u8 q3, .int .i64 q4, .int .i64 q5] 32 (0, 0))) ⟨Lib.hid HR5, blk_set_other hX4 (by dsimp only; exact hpb) _⟩ ?_
        clear HR5 hX4 HR4 f6 ff hm4 hI4 HR3 hX3 e1 hm3 HR2 hX2 hQX2 hm1 hac hpp hhd c0 c1 c2 c3 c4 c5 c7 c8 c9 c10 hb2e
        rintro w6 ⟨HR6, hX6⟩
        have hz6 : col' b2 = 0 := HR.out.at_.hz b2 hb2
        have hid1 : g1.id = g'.id := by rw [← hg1]
        have hpd1 : g1.pending = g'.pending := by rw [← hg1]
        have hfm1 : g1.forms = g'.forms := by rw [← hg1]
        obtain ⟨c0, c1, c2, c3, c4, c5, c6, c7, c8, c9, c10⟩ := HR6.out.at_.cells
        rw [hid1] at c3
        rw [hpd1] at c9
        have HG1 := Lib.hid hg1
        have hQX6 := blk_at hX6
        have ff6 := HR6.out.at_.cf
        have hlX6 := blk_lt hX6
        have hlp6 := blk_lt HR6.out.at_.hp
        clear hg1 hid1 hpd1
        by_cases hid : q4 = g'.id
        · subst hid
          have hown := (acc_of HA.out).resolve_right (fun h => h.1 rfl)
          obtain ⟨_, qm, qr, hfq, hqo⟩ := hown
          have hpl1 : 1 ≤ g'.pending.length := by rw [← HK.out.fpl, hfq]; simp
          have hdrop := HK.out.dropOwn hfq hqo
          have hft : g'.take1 ⟨q1, q2, q3, g'.id, q5⟩ = { g1 with pending := g'.pending.tail, forms := dropE q5 g1.forms } := by
            rw [← HG1.out]; unfold Gc.take1; rw [if_pos rfl]
          have HFT := Lib.hid hft
          have hOs := HR6.out.at_.he.someAt (by rw [← HG1.out]; exact hpl1)
          have hO9 := HR6.out.at_.he.tail 1 (by rw [← HG1.out]; exact hpl1)
          have hnc9 := HR6.out.at_.he.rd.2.1
          have hmc9 := HR6.out.at_.he.rd.2.2.1
          unfold maxLen at hmc9
          have hfn9 : g1.forms.length ≤ 4096 := by rw [← HG1.out]; have := HK.out.fpl; have := HK.out.pm; have := HK.out.m1; dsimp only; omega
          have e9 : g1.pending = g'.pending := by rw [← HG1.out]
          rw [e9] at hO9 hnc9
          obtain ⟨N, hN⟩ : ∃ N, g'.pending.length = N := ⟨_, rfl⟩
          rw [hN] at hO9 hnc9 c9 hpl1
          obtain ⟨pA, hpA⟩ : ∃ pA, m'.pA = pA := ⟨_, rfl⟩
          obtain ⟨pc, hpc⟩ : ∃ pc, m'.pc = pc := ⟨_, rfl⟩
          rw [hpA] at hOs
          rw [hpA, hpc] at hO9 c9
          rw [hpc] at hnc9 hmc9
          clear hft hfq hqo hdrop hpA hpc hN e9 hfm1
          obtain ⟨gb, go, rfl⟩ := hOs
          refine wp_region_text (by kernel_rfl) (by kernel_rfl) (by kernel_rfl) (by kernel_rfl) ?_
          go_wp2
          refine ⟨rfl, by kernel_rfl, ?_⟩
          have HR7 := Lib.hid HR6.out.drew
          by_cases hc1 : pc = 1
          · subst hc1
            obtain rfl : N = 1 := by omega
            rw [if_pos rfl] at hO9
            have HR8 := Lib.hid (HR6.out.setPend hO9).drew
            clear hO9 HR7
            have HR8' := Lib.hid HR8.out.drew
            go_upto_region 8 with (fail)
            refine wp_region_text (by kernel_rfl) (by kernel_rfl) (by kernel_rfl) (by kernel_rfl) ?_
            go_wp2_with (go_at_call 37; refine (dropTo_any q5 m'.ps _ _ _ g1.forms _ _ _ _ HR8'.out.at_.hs hfn9).mono ?_; rintro en w9 ⟨A9, d9, rfl, hS9, hm9⟩; have HR9 := Lib.hid (HR8'.out.space (hm9.mono (fun b _ h => .inl h)) ⟨hS9.1, hS9.2.mono (fun b _ h => .inr h)⟩))
            refine ⟨rfl, by kernel_rfl, ?_⟩
            clear hS9 hm9
            have HR10 := HR9.out
            rw [← HG1.out] at HR10
            dsimp only at HR10
            have hft := HFT.out
            rw [← HG1.out] at hft
            dsimp only at hft
            rw [List.drop_one, ← hft] at HR10
            have HR11 := Lib.hid HR10
            clear HR10 HR9 hft
            go_wp2
            go_roundw
            case rel => exact ⟨_, _, _, HR11, Lib.hid (HK.out.take1 HF.out HA.out), Lib.hid ((takeIn_some HF.out HA.out).symm.trans HGG.out)⟩
            case measure =>
              have e1 := HR11.out.at_.c6
              rw [HFT.out, ← HG1.out] at e1
              dsimp only at e1
              first
                | (rw [HMs.out, e1]; simp [intOf]; omega)
                | (simp only [HMs.out, e1]; simp [intOf]; omega)
          · rw [if_neg hc1] at hO9
            simp only [Option.map_some, add_off, show 1 * kEdit.sz = 6 from rfl] at hO9
            have HR8 := Lib.hid (HR6.out.setPend hO9).drew
            clear hO9 HR7
            have HR8' := Lib.hid HR8.out.drew
            go_upto_region 8 with (fail)
            refine wp_region_text (by kernel_rfl) (by kernel_rfl) (by kernel_rfl) (by kernel_rfl) ?_
            go_wp2_with (go_at_call 37; refine (dropTo_any q5 m'.ps _ _ _ g1.forms _ _ _ _ HR8'.out.at_.hs hfn9).mono ?_; rintro en w9 ⟨A9, d9, rfl, hS9, hm9⟩; have HR9 := Lib.hid (HR8'.out.space (hm9.mono (fun b _ h => .inl h)) ⟨hS9.1, hS9.2.mono (fun b _ h => .inr h)⟩))
            refine ⟨rfl, by kernel_rfl, ?_⟩
            clear hS9 hm9
            have HR10 := HR9.out
            rw [← HG1.out] at HR10
            dsimp only at HR10
            have hft := HFT.out
            rw [← HG1.out] at hft
            dsimp only at hft
            rw [List.drop_one, ← hft] at HR10
            have HR11 := Lib.hid HR10
            clear HR10 HR9 hft
            go_wp2
            go_roundw
            case rel => exact ⟨_, _, _, HR11, Lib.hid (HK.out.take1 HF.out HA.out), Lib.hid ((takeIn_some HF.out HA.out).symm.trans HGG.out)⟩
            case measure =>
              have e1 := HR11.out.at_.c6
              rw [HFT.out, ← HG1.out] at e1
              dsimp only at e1
              first
                | (rw [HMs.out, e1]; simp [intOf]; omega)
                | (simp only [HMs.out, e1]; simp [intOf]; omega)
        · obtain ⟨_, hsq, hfit⟩ := (acc_of HA.out).resolve_left (fun h => hid h.1)
          have hlen9 := past_len ⟨q1, q2, q3, q4, q5⟩ g'.forms false
          have hft : g'.take1 ⟨q1, q2, q3, q4, q5⟩ = { g1 with last := g1.last.set q4.toNat q5, forms := setOps g1.forms (pastE ⟨q1, q2, q3, q4, q5⟩ (opsOf g'.forms) false).2, text := applyE g1.text (pastE ⟨q1, q2, q3, q4, q5⟩ (opsOf g'.forms) false).1 } := by
            rw [← HG1.out]; unfold Gc.take1; rw [if_neg hid]
          have hwf := pastE_wf false (opsOf g'.forms) ⟨q1, q2, q3, q4, q5⟩ (wf_of_valid HQV.out)
          obtain ⟨L, hLk, _, _, _⟩ := HK.out.lastAt HQV.out
          obtain ⟨_, _, z3, z4, _⟩ := validE_zero HQV.out
          dsimp only at z3 z4 hLk
          have hidb : (q4 == g'.id) = false := beq_eq_false_iff_ne.2 hid
          obtain ⟨nc, rfl⟩ := Int.eq_ofNat_of_zero_le (show 0 ≤ q4 by omega)
          simp only [Int.toNat_natCast] at hLk hft
          have hlast1 : g1.last = g'.last := by rw [← HG1.out]
          have htext1 : g1.text = g'.text := by rw [← HG1.out]
          have kL := HR6.out.at_.cLast (i := nc) (x := L) (by rw [hlast1]; exact hLk)
          have nc0 : (0 : Int) ≤ (nc : Int) := by omega
          have hncl : nc ≤ 64 := by omega
          have hfn9 : g1.forms.length ≤ 4096 := by rw [← HG1.out]; have := HK.out.fpl; have := HK.out.pm; have := HK.out.m1; dsimp only; omega
          have hcr := fun w' hT' hs' hS' => cross_any ⟨q1, q2, q3, (nc : Int), q5⟩ (wf_of_valid HQV.out) HQV.out m'.ps m'.fA g1.forms.length m'.fc g1.forms g1.flast false (fun b => col' b = t + 6) w' hT' hs' hS' hfn9 8192 (by decide) (by decide) (bnd_of_valid HQV.out (by decide)) (by rw [hfm1]; exact HK.out.fbnd)
          rw [← hfm1] at hlen9 hfit hft hwf
          obtain ⟨R, hR⟩ : ∃ R, pastE ⟨q1, q2, q3, (nc : Int), q5⟩ (opsOf g1.forms) false = R := ⟨_, rfl⟩
          rw [hR] at hfit hft hcr hwf hlen9
          obtain ⟨⟨r1, r2, r3, r4, r5⟩, mk⟩ := R
          dsimp only at hfit hft hcr hwf hlen9
          have hap := fun w' (h' : Rd kElem w' m'.tA g1.text.length m'.tc g1.text) => apply_ok m'.tA g1.text.length m'.tc ⟨r1, r2, r3, r4, r5⟩ g1.text w' hwf h' (by rw [htext1]; exact hfit)
          simp only [Op.v] at hcr hap
          have HFT := Lib.hid hft
          have HLEN := Lib.hid hlen9
          have hz0 := HR6.out.at_.hz
          have hct1 := HR6.out.at_.t1
          clear hft hsq hfit hwf hid hLk hR hlast1 htext1 hfm1 hlen9
          refine wp_region_text (by kernel_rfl) (by kernel_rfl) (by kernel_rfl) (by kernel_rfl) ?_
          go_wp2
          refine ⟨rfl, by kernel_rfl, ?_⟩
          go_upto_region 9 with (fail)
          refine wp_region_text (by kernel_rfl) (by kernel_rfl) (by kernel_rfl) (by kernel_rfl) ?_
          go_wp2
          refine ⟨rfl, by kernel_rfl, ?_⟩
          go_upto_region 10 with (fail)
          refine cut_worldO (F := fun w7 => Hid (GRun w col w7 p m' { g1 with last := g1.last.set nc q5 } col' t) ∧ w7.heap[b2]? = some (.cells #[.int .i64 q1, .int .i64 q2, .int .u8 q3, .int .i64 nc, .int .i64 q5] 32 (0, 0))) ⟨Lib.hid ((HR6.out.setLast nc q5).drew.drew), blk_set_other hX6 (by dsimp only; exact hpb) _⟩ ?_
          clear HR6 hX6 c0 c1 c2 c3 c4 c5 c6 c7 c8 c9 c10 kL ff6 hQX6 hlX6 hlp6
          rintro w7 ⟨HR7, hX7⟩
          have c10 := HR7.out.at_.c10
          have hQX7 := blk_at hX7
          have hlX7 := blk_lt hX7
          have hlp7 := blk_lt HR7.out.at_.hp
          have hps7 := HR7.out.at_.cs
          refine wp_region_fork ([0, 1, 2, 3, 4].map (·, false)) 7 #[true, true, true, true, true, false, false, false, false, false, false, false] (by kernel_rfl) (by kernel_rfl) (by kernel_rfl) (by kernel_rfl) ?_
          simp only [List.map_cons, List.map_nil, List.filterMap_cons, List.filterMap_nil, pick, List.getElem?_toArray, List.getElem?_cons_zero, List.getElem?_cons_succ, Option.map_some]
          refine wpSeg_rest [_, _, _, _, _] ?_
          go_wp2
          refine ⟨rfl, by kernel_rfl, fun hd => ?_⟩
          refine wpAnyL_fork2 5 9 false false [(6, false), (7, false), (8, false), (9, false), (10, false), (11, false)] [(5, false), (6, false), (7, false), (8, false), (10, false), (11, false)] 0 0 #[true, true, true, true, true, true, true, true, true, true, true, true] #[true, true, true, true, true, true, true, true, true, true, true, true] (by kernel_rfl) (by kernel_rfl) hd (by decide) (by decide) (by kernel_rfl) (by kernel_rfl) (by kernel_rfl) (by kernel_rfl) (by kernel_rfl) ?_ ?_
          · simp only [List.map_cons, List.map_nil, List.filterMap_cons, List.filterMap_nil, pick, List.getElem?_toArray, List.getElem?_cons_zero, List.getElem?_cons_succ, Option.map_some]
            refine wpSeg_rest [_, _, _, _, _, _, _] ?_
            go_wp2_with (go_at_call 38; refine (hcr w7.drew (HT.out.mod HR7.out.drew.md HN.out) HR7.out.drew.at_.hs (by rw [hps7]; omega)).mono ?_; rintro e w8 ⟨rfl, hS8, hm8⟩; have HR8 := Lib.hid (HR7.out.drew.spaceIn (hm8.mono (fun b _ h => .inr h)) (l := setOps g1.forms mk) (by rw [setOps_len HLEN.out]; exact hS8)))
            refine ⟨rfl, by kernel_rfl, fun _ => wpAnyL_done (by kernel_rfl) ⟨rfl, ?_⟩⟩
            refine cut_worldO (F := fun w9 => Hid (GRun w col w9 p m' { g1 with last := g1.last.set nc q5, forms := setOps g1.forms mk } col' t) ∧ w9.heap[w8.heap.size]? = some (.cells #[.int .i64 r1, .int .i64 r2, .int .u8 r3, .int .i64 r4, .int .i64 r5] 32 (0, 0))) ⟨Lib.hid (HR8.out.alloc (.cells #[.int .i64 r1, .int .i64 r2, .int .u8 r3, .int .i64 r4, .int .i64 r5] 32)), blk_new w8 (.cells #[.int .i64 r1, .int .i64 r2, .int .u8 r3, .int .i64 r4, .int .i64 r5] 32) rfl⟩ ?_
            clear HR8 hm8 hS8 HR7 hX7 c10 hQX7 hlX7 hlp7 hcr
            rintro w9 ⟨HR9, hX9⟩
            have d8 := HR9.out.at_.c8
            have hQX9 := blk_at hX9
            go_upto_region 11 with (fail)
            refine wp_region_text (by kernel_rfl) (by kernel_rfl) (by kernel_rfl) (by kernel_rfl) ?_
            go_wp2_with (go_at_call 70; refine (hap w9.drew HR9.out.drew.at_.ht.rd).mono ?_; rintro e w10 ⟨A', n', c', rfl, hm10, hO10⟩; have HR10 := Lib.hid (HR9.out.drew.mod0 hm10); have hF10 := HR10.out.at_.cf; have d10 := HR10.out.at_.c8)
            refine ⟨rfl, by kernel_rfl, ?_⟩
            have HR11 := Lib.hid (HR10.out.setText (hO10.mono (S' := fun b => w9.heap.size ≤ b ∧ b < w10.heap.size) (fun b hb h => ⟨h, hb⟩)) HR9.out.sizes (Nat.le_refl _) (fun b h1 _ => HR9.out.at_.hz b h1))
            have HFT2 := HFT.out
            have HR12 := HR11.out
            dsimp only at HR12
            rw [← HFT2] at HR12
            have HR13 := Lib.hid HR12
            clear HR12 HR11 HFT2 hO10 hm10
            go_wp2
            go_roundw
            case rel => exact ⟨_, _, _, HR13, Lib.hid (HK.out.take1 HF.out HA.out), Lib.hid ((takeIn_some HF.out HA.out).symm.trans HGG.out)⟩
            case measure =>
              have e1 := HR13.out.at_.c6
              rw [HFT.out, ← HG1.out] at e1
              dsimp only at e1
              first
                | (rw [HMs.out, e1]; simp [intOf]; omega)
                | (simp only [HMs.out, e1]; simp [intOf]; omega)
          · simp only [List.map_cons, List.map_nil, List.filterMap_cons, List.filterMap_nil, pick, List.getElem?_toArray, List.getElem?_cons_zero, List.getElem?_cons_succ, Option.map_some]
            refine wpSeg_rest [_, _, _, _, _, _, _] ?_
            have hZ0 := blk_new w7 (.cells #[.int .i64 0, .int .i64 0, .int .u8 0, .int .i64 0, .int .i64 0] 32) rfl
            have HR7a := Lib.hid ((HR7.out.alloc (.cells #[.int .i64 0, .int .i64 0, .int .u8 0, .int .i64 0, .int .i64 0] 32)).drew)
            have hzZ := HR7.out.at_.hz _ (Nat.le_refl _)
            go_wp2_with (go_at_call 38; refine (hcr (w7.alloc (.cells #[.int .i64 0, .int .i64 0, .int .u8 0, .int .i64 0, .int .i64 0] 32)).drew (HT.out.mod HR7a.out.md HN.out) HR7a.out.at_.hs (by rw [hps7]; omega)).mono ?_; rintro e w8 ⟨rfl, hS8, hm8⟩; have hZ8 := hm8.heap hZ0 (by rw [hzZ]; omega); have HR8 := Lib.hid (HR7a.out.spaceIn (hm8.mono (fun b _ h => .inr h)) (l := setOps g1.forms mk) (by rw [setOps_len HLEN.out]; exact hS8)); have hQZ8 := blk_at hZ8; have hFZ8 := blk_free hZ8)
            refine ⟨rfl, by kernel_rfl, fun _ => wpAnyL_done (by kernel_rfl) ⟨rfl, ?_⟩⟩
            have r2' : (fun b => w.heap.size ≤ b ∧ col' b = 0) w7.heap.size ∨ w8.heap.size ≤ w7.heap.size := .inl ⟨HR7.out.sizes, hzZ⟩
            refine cut_worldO (F := fun w9 => Hid (GRun w col w9 p m' { g1 with last := g1.last.set nc q5, forms := setOps g1.forms mk } col' t) ∧ w9.heap[w7.heap.size]? = some (.cells #[.int .i64 r1, .int .i64 r2, .int .u8 r3, .int .i64 r4, .int .i64 r5] 32 (0, 0)))
              ⟨Lib.hid (HR8.out.junk (mod_setO (mod_setO (mod_setO (mod_setO (mod_setO (Mod.refl (fun b => w.heap.size ≤ b ∧ col' b = 0) w8) r2') r2') r2') r2') r2')), blk_set (blk_set (blk_set (blk_set (blk_set hZ8 0 _) 1 _) 2 _) 3 _) 4 _⟩ ?_
            clear HR8 hm8 hS8 hX7 c10 hQX7 hlX7 hlp7 hcr hZ8 hQZ8 hFZ8 hZ0 HR7a HR7
            rintro w9 ⟨HR9, hX9⟩
            have d8 := HR9.out.at_.c8
            have hQX9 := blk_at hX9
            go_upto_region 11 with (fail)
            refine wp_region_text (by kernel_rfl) (by kernel_rfl) (by kernel_rfl) (by kernel_rfl) ?_
            go_wp2_with (go_at_call 70; refine (hap w9.drew HR9.out.drew.at_.ht.rd).mono ?_; rintro e w10 ⟨A', n', c', rfl, hm10, hO10⟩; have HR10 := Lib.hid (HR9.out.drew.mod0 hm10); have hF10 := HR10.out.at_.cf; have d10 := HR10.out.at_.c8)
            refine ⟨rfl, by kernel_rfl, ?_⟩
            have HR11 := Lib.hid (HR10.out.setText (hO10.mono (S' := fun b => w9.heap.size ≤ b ∧ b < w10.heap.size) (fun b hb h => ⟨h, hb⟩)) HR9.out.sizes (Nat.le_refl _) (fun b h1 _ => HR9.out.at_.hz b h1))
            have HFT2 := HFT.out
            have HR12 := HR11.out
            dsimp only at HR12
            rw [← HFT2] at HR12
            have HR13 := Lib.hid HR12
            clear HR12 HR11 HFT2 hO10 hm10
            go_wp2
            go_roundw
            case rel => exact ⟨_, _, _, HR13, Lib.hid (HK.out.take1 HF.out HA.out), Lib.hid ((takeIn_some HF.out HA.out).symm.trans HGG.out)⟩
            case measure =>
              have e1 := HR13.out.at_.c6
              rw [HFT.out, ← HG1.out] at e1
              dsimp only at e1
              first
                | (rw [HMs.out, e1]; simp [intOf]; omega)
                | (simp only [HMs.out, e1]; simp [intOf]; omega)
      · have HE2 := Lib.hid ((takeIn_bad hfind (by rw [hE]; exact hE0)).symm.trans HGG.out)
        have hEb : (E != 0) = true := bne_iff_ne.2 hE0
        have hto := fun w' h' => toss_ok m'.pi m'.pm g'.cum g'.held ⟨q1, q2, q3, q4, q5⟩ w' h' HR.out.at_.pm_ne hcum0 hcum1 HF.out
        clear hE0 hE hfind HGG hqv
        go_wp2_with (first
          | (go_at_call 89; refine hhd.mono ?_; rintro e w1 ⟨rfl, hm1⟩; have hX2 := blk_new w1 (.cells #[.int .i64 q1, .int .i64 q2, .int .u8 q3, .int .i64 q4, .int .i64 q5] 32) rfl; have HR2 := Lib.hid ((HR.out.mod0 hm1).alloc (.cells #[.int .i64 q1, .int .i64 q2, .int .u8 q3, .int .i64 q4, .int .i64 q5] 32)); have hQX2 := blk_at hX2)
          | (go_at_call 86; refine (hac _ HR2.out.at_ (HT.out.mod HR2.out.md HN.out)).mono ?_; rintro e w3 ⟨rfl, hm3⟩; have HR3 := Lib.hid (HR2.out.mod0 hm3); have hX3 := hm3.heap hX2 (fun h => h); have e1 := HR3.out.at_.c1)
          | (go_at_call 90; refine (hto _ HR3.out.at_.hi).mono ?_; rintro e w4 ⟨rfl, hm4, hI4⟩; have HR4 := Lib.hid (HR3.out.inbox (hm4.mono (fun b _ h => .inr h)) hI4)))
        refine bodyPost_ret (results_none rfl _ _ _) rfl ?_
        have HR5 := HR4.out
        rw [HE2.out] at HR5
        exact ⟨rfl, m', col', HR5⟩
end Go.Proofs.YtjojhfphlnfimaaGreatDoor.J
