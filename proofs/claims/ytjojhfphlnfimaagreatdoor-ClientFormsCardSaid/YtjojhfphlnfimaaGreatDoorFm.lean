/- The law ClientForms answers true: the walk. -/
import Derived.Test.YtjojhfphlnfimaaGreatDoorTx
namespace Go.Proofs.YtjojhfphlnfimaaGreatDoor.J
open Go Go.RowKit
set_option linter.unusedSimpArgs false
set_option linter.unusedVariables false

theorem fitA_get : ∀ (l : List Op) (d : List Elem) (j : Nat) (o : Op), fitA d l → l[j]? = some o → fitsE (appA d (l.take j)).length o = 0
  | [], d, j, o, _, h => by simp at h
  | x :: l, d, 0, o, hf, h => by simp at h; subst h; exact hf.1
  | x :: l, d, j + 1, o, hf, h => by
    simp only [List.getElem?_cons_succ] at h
    rw [List.take_succ_cons, appA_cons]
    exact fitA_get l _ j o hf.2 h
theorem appA_get (l : List Op) (d : List Elem) (j : Nat) (o : Op) (h : l[j]? = some o) : appA d (l.take (j + 1)) = applyE (appA d (l.take j)) o := by
  rw [List.take_add_one, h, Option.toList_some, appA_append]; rfl
theorem fits_put {d : List Elem} {o : Op} (A : Option Addr) (n c : Nat) (w : World) (hr : Rd kElem w A n c d) (hf : fitsE d.length o = 0) :
    Calls Tryz.prog 12 #[.slice A n c, o.v] w fun e w' => ∃ A' n' c', e = .returned (.tuple #[.slice A' n' c', .bool true]) ∧ Mod No w w' ∧ Own kElem 95 w' A' n' c' (applyE d o) (fun b => w.heap.size ≤ b) := by
  obtain ⟨hv, hn0, hn1, hf1, hf2⟩ := fitsE_zero hf
  obtain ⟨z1, z2, z3, z4, z5, z6, z7, z8, z9, z10, z11⟩ := validE_zero hv
  have hl : n = d.length := hr.1
  exact put_ok A n c o d w hr (by omega) z1 z2 (fun e => ⟨z9, by rw [hl]; exact (hf1 e).2⟩) (fun e => ⟨z9, by rw [hl]; exact hf2 e⟩)
theorem sameDoc_self2 (A B : Option Addr) (n m c d : Nat) (l : List Elem) (w : World) (ha : Rd kElem w A n c l) (hb : Rd kElem w B m d l) :
    Calls Tryz.prog 13 #[.slice A n c, .slice B m d] w fun e w' => e = .returned (.bool true) ∧ Mod No w w' := by
  obtain rfl : n = m := ha.1.trans hb.1.symm
  exact sameDoc_self A B n c d l w ha hb

/-- What the k-th form and the k-th edit that waits say. -/
theorem Inv.form {s : St} (h : Inv s) {k : Nat} {o : Op} (ho : (opsOf s.g.forms)[k]? = some o) : o.client = 1 ∧ ∃ e : Edit, s.g.pending[k]? = some e ∧ s.mine[s.mine.length - s.g.pending.length + k]? = some e ∧ o.seq = e.op.seq := by
  have hk : k < s.g.pending.length := by
    have := (List.getElem?_eq_some_iff.1 ho).1
    have := h.formsLen
    simp only [opsOf, List.length_map] at *; omega
  obtain ⟨q, hq, rfl⟩ : ∃ q, s.g.forms[k]? = some q ∧ q.op = o := by
    simp only [opsOf, List.getElem?_map, Option.map_eq_some_iff] at ho; exact ho
  obtain ⟨q1, q2, q3⟩ := h.gok.fq k q hq
  obtain ⟨e, he⟩ : ∃ e, s.g.pending[k]? = some e := ⟨_, List.getElem?_eq_getElem hk⟩
  have he2 : s.mine[s.mine.length - s.g.pending.length + k]? = some e := by
    have := he
    rw [h.pend, List.getElem?_drop] at this; exact this
  obtain ⟨_, _, _, r4⟩ := h.raw _ _ he2
  refine ⟨by rw [q3, h.id], e, he, he2, ?_⟩
  have := h.made; have := h.formsLen; have := h.pendLen
  omega

set_option maxRecDepth 100000 in
set_option maxHeartbeats 8000000 in
theorem forms_any (A : Option Addr) (n c : Nat) (l : List Play) (w : World) (hr : Rd kPlay w A n c l) (hT : Tabs w) (hO : OtT w) :
    Calls Tryz.prog 5 #[.slice A n c] w fun e w' => e = .returned (.bool true) ∧ Mod No w w' := by
  have hst := staged_any w hT hO
  unfold StagedPost at hst
  have hmx := hr.max
  unfold maxLen at hmx
  have HR := Lib.hid hr
  clear hT hO hr
  go_enter Tryz.func5, Tryz.ntmps5
  go_wp2_with (go_at_call 15; refine hst.mono ?_; rintro e w1 ⟨q, rfl, hP1⟩)
  have HP1 := Lib.hid hP1
  clear hP1 hst
  go_loopw [5] (fun s5 wr => ∃ k : Nat, k ≤ n ∧ s5 = .int .i64 k ∧ Hid (StPost w q wr)) (fun s5 _ => n - (intOf s5).toNat)
  case atStart => exact ⟨0, Nat.zero_le _, rfl, HP1⟩
  case round =>
    clear HP1
    obtain ⟨k, hk, rfl, HP⟩ := hrel
    have k0 : (0 : Int) ≤ (k : Int) := by omega
    by_cases hlt : k < n
    · obtain ⟨x, s, col, hS, hI⟩ := HP.out
      obtain ⟨bl, ol, pl, hpl, hAe, x1, x2, x3⟩ := (HR.out.mod0 hS.b.md).play hlt
      have hpy := play_any w wr q x s col pl.kind pl.at_ pl.ch hS hI
      obtain ⟨A0, hA0⟩ : ∃ A0, A = A0 := ⟨_, rfl⟩
      rw [hA0] at hAe ⊢
      subst hAe
      obtain ⟨p1, p2, p3⟩ := pl
      dsimp only at x1 x2 x3 hpy
      clear hA0 hpl HP hS hI
      clear x s col
      go_wp2_with (go_at_call 16; refine hpy.mono ?_; rintro e w2 ⟨rfl, hP2⟩; have HP2 := Lib.hid hP2; clear hP2)
      clear hpy x1 x2 x3
      obtain ⟨x, s, col, hS, hI⟩ := HP2.out
      have HI := Lib.hid hI
      have HS2 := Lib.hid hS
      have h50 : (0 : Int) ≤ (s.down : Int) := by omega
      have hdn := hI.dn
      have hll := hI.logLen
      clear hS hI HP2
      go_loopw [6, 7] (fun s6 s7 wr => ∃ (j : Nat) (A : Option Addr) (n c : Nat), j ≤ s.down ∧ s7 = .int .i64 j ∧ s6 = .slice A n c ∧ Hid (StAt w wr q x s col) ∧ Hid (Rd kElem wr A n c (appA [] (s.log.take j)))) (fun _ s7 _ => s.down - (intOf s7).toNat)
      case atStart => exact ⟨0, none, 0, 0, Nat.zero_le _, rfl, rfl, HS2, Lib.hid (Rd.nil _ _)⟩
      case round =>
        clear HS2
        obtain ⟨j, A6, n6, c6, hj, rfl, rfl, HS, HD⟩ := hrel
        obtain ⟨k0', k1, k2, k3, k4, k5, k6, k7, k8, k9⟩ := HS.out.cells
        have j0 : (0 : Int) ≤ (j : Int) := by omega
        by_cases hjl : j < s.down
        · have hd : decide ((j : Int) < (s.down : Int)) = true := by simp; omega
          obtain ⟨be, oe, o, ho, hAe, x1, x2, x3, x4, x5⟩ := HS.out.hl.rd.opP (i := j) (by omega)
          have hpt := fun w' (h' : Rd kElem w' A6 n6 c6 (appA [] (s.log.take j))) => fits_put A6 n6 c6 w' h' (fitA_get s.log [] j o HI.out.ft ho)
          have HAP := Lib.hid (appA_get s.log [] j o ho)
          rw [hAe] at k3
          have HAE := Lib.hid hAe
          obtain ⟨q1, q2, q3, q4, q5⟩ := o
          simp only [Op.v] at hpt x1 x2 x3 x4 x5
          clear ho hAe
          go_wp2_with (go_at_call 12; refine (hpt _ HD.out).mono ?_; rintro e w3 ⟨A3, n3, c3, rfl, hm3, hO3⟩; have HS3 := Lib.hid (HS.out.mod0 hm3); have HD3 := Lib.hid hO3.rd)
          go_roundw
          case rel => exact ⟨j + 1, A3, n3, c3, by omega, by go_num, rfl, HS3, by rw [HAP.out]; exact HD3⟩
          case measure => simp [intOf]; omega
        · obtain rfl : j = s.down := by omega
          have hd : decide ((s.down : Int) < (s.down : Int)) = false := by simp
          have hN := HI.out.formsLen
          have hpl := HI.out.pendLen
          have hmn := HI.out.mn
          have hfm := fun w' (h' : StAt w w' q x s col) => gForms x.p x.m s.g col 1 w' h'.c HI.out.gok
          have hpd := fun w' (h' : StAt w w' q x s col) => gPending x.p x.m s.g col 1 w' h'.c HI.out.gok
          have hdc := fun w' (h' : StAt w w' q x s col) => gDoc x.p x.m s.g col 1 w' h'.c HI.out.gok
          rw [hN] at hfm
          have HFM := Lib.hid (fun (k : Nat) (o : Op) => HI.out.form (k := k) (o := o))
          obtain ⟨N, hNN⟩ : ∃ N, s.g.pending.length = N := ⟨_, rfl⟩
          obtain ⟨M, hMM⟩ : ∃ M, s.mine.length = M := ⟨_, rfl⟩
          rw [hNN] at hfm hpd hpl
          rw [hMM] at hpl hmn k4
          have hdg : decide ((N : Int) > (M : Int)) = false := by simp; omega
          have hdg2 : decide ((M : Int) < (N : Int)) = false := by simp; omega
          have hdg3 : decide (M < N) = false := by simp; omega
          have HNN := Lib.hid hNN
          have HMM := Lib.hid hMM
          clear hN hNN hMM hj hjl
          go_wp2_with (first
            | (go_at_call 19; refine (hfm _ HS.out).mono ?_; rintro en w8 ⟨A8, d8, rfl, hm8, hO8⟩; have HS8 := Lib.hid (HS.out.mod0 hm8); have HD8 := Lib.hid (HD.out.mod0 hm8); have HF8 := Lib.hid hO8.rd; clear k0' k1 k2 k3 k4 k5 k6 k7 k8 k9; obtain ⟨k0', k1, k2, k3, k4, k5, k6, k7, k8, k9⟩ := HS8.out.cells; simp only [show s.mine.length = M from HMM.out] at k4)
            | (go_at_call 20; refine (hpd _ HS8.out).mono ?_; rintro en w9 ⟨A9, d9, rfl, hm9, hO9⟩; have HS9 := Lib.hid (HS8.out.mod0 hm9); have HD9 := Lib.hid (HD8.out.mod0 hm9); have HF9 := Lib.hid (HF8.out.mod0 hm9); have HP9 := Lib.hid hO9.rd; clear k0' k1 k2 k3 k4 k5 k6 k7 k8 k9; obtain ⟨k0', k1, k2, k3, k4, k5, k6, k7, k8, k9⟩ := HS9.out.cells; simp only [show s.mine.length = M from HMM.out] at k4))
          clear hfm hpd hd hdg hdg2 hdg3 HS HS8 HD HD8 HF8 hO8 hm8 hm9 hO9 k0' k1 k2 k3 k4 k5 k6 k7 k8 k9
          have n0 : (0 : Int) ≤ (N : Int) := by omega
          go_loopw [6, 10] (fun s6 s10 wr => ∃ (j : Nat) (A : Option Addr) (n c : Nat), j ≤ N ∧ s10 = .int .i64 j ∧ s6 = .slice A n c ∧ Hid (StAt w wr q x s col) ∧ Hid (Rd kElem wr A n c (appA (appA [] (s.log.take s.down)) ((opsOf s.g.forms).take j))) ∧ Hid (Rd kOp wr A8 N d8 (opsOf s.g.forms)) ∧ Hid (Rd kEdit wr A9 N d9 s.g.pending)) (fun _ s10 _ => N - (intOf s10).toNat)
          case atStart => exact ⟨0, _, _, _, Nat.zero_le _, rfl, rfl, HS9, HD9, HF9, HP9⟩
          case round =>
            clear HS9 HD9 HF9 HP9
            obtain ⟨j, A6, n6, c6, hj, rfl, rfl, HS, HD, HF, HP⟩ := hrel
            have j0 : (0 : Int) ≤ (j : Int) := by omega
            by_cases hjl : j < N
            · have hd : decide ((j : Int) < (N : Int)) = true := by simp; omega
              obtain ⟨be, oe, o, ho, hAe, x1, x2, x3, x4, x5⟩ := HF.out.opP (i := j) hjl
              obtain ⟨f1, e, hpe, hme, f2⟩ := HFM.out j o ho
              rw [show s.g.pending.length = N from HNN.out, show s.mine.length = M from HMM.out] at hme
              have hpt := fun w' (h' : Rd kElem w' A6 n6 c6 (appA (appA [] (s.log.take s.down)) ((opsOf s.g.forms).take j))) => fits_put A6 n6 c6 w' h' (fitA_get _ _ j o HI.out.fg ho)
              have HAP := Lib.hid (appA_get _ (appA [] (s.log.take s.down)) j o ho)
              have HAE := Lib.hid hAe
              have HO := Lib.hid ho
              obtain ⟨bp, op, ep, hep, hAp, u1', u2', u3', u4', u5', u6'⟩ := HP.out.edit (i := j) hjl
              obtain rfl := Option.some.inj (hpe.symm.trans hep)
              obtain ⟨A90, hA90⟩ : ∃ A0, A9 = A0 := ⟨_, rfl⟩
              rw [hA90] at hAp HP ⊢
              subst hAp
              clear hA90 hep
              obtain ⟨A80, hA80⟩ : ∃ A0, A8 = A0 := ⟨_, rfl⟩
              rw [hA80] at hAe HF ⊢
              subst hAe
              obtain ⟨q1, q2, q3, q4, q5⟩ := o
              obtain ⟨t1, e1, e2, e3, e4, e5⟩ := e
              dsimp only at f1 f2
              subst f1 f2
              dsimp only at u1' u2' u3' u4' u5' u6'
              simp only [Op.v] at hpt x1 x2 x3 x4 x5
              clear ho hA80
              go_wp2_with (go_at_call 12; refine (hpt _ HD.out).mono ?_; rintro e w3 ⟨A3, n3, c3, rfl, hm3, hO3⟩; have HS3 := Lib.hid (HS.out.mod0 hm3); have HD3 := Lib.hid hO3.rd; have HF3 := Lib.hid (HF.out.mod0 hm3); have HP3 := Lib.hid (HP.out.mod0 hm3); have HM3 := Lib.hid hm3; clear hm3 hO3)
              clear hpt HS HD HF HP hd
              have p1' := HM3.out.cell u1' (fun h => h)
              have p2' := HM3.out.cell u2' (fun h => h)
              have p3' := HM3.out.cell u3' (fun h => h)
              have p4' := HM3.out.cell u4' (fun h => h)
              have p5' := HM3.out.cell u5' (fun h => h)
              have p6' := HM3.out.cell u6' (fun h => h)
              have y1 := HM3.out.cell x1 (fun h => h)
              have y2 := HM3.out.cell x2 (fun h => h)
              have y3 := HM3.out.cell x3 (fun h => h)
              have y4 := HM3.out.cell x4 (fun h => h)
              have y5 := HM3.out.cell x5 (fun h => h)
              clear x1 x2 x3 x4 x5 u1' u2' u3' u4' u5' u6' HM3
              obtain ⟨k0', k1, k2, k3, k4, k5, k6, k7, k8, k9⟩ := HS3.out.cells
              rw [show s.mine.length = M from HMM.out] at k4
              obtain ⟨bm, om, em, hem, hAm, m1, m2, m3, m4, m5, m6⟩ := HS3.out.hm.rd.edit (i := M - N + j) (by rw [show s.mine.length = M from HMM.out]; omega)
              obtain rfl := Option.some.inj (hme.symm.trans hem)
              rw [hAm] at k4
              have hix : ((M : Int) - (N : Int) + (j : Int)).toNat = M - N + j := by omega
              rw [← hix] at m1 m2 m3 m4 m5 m6
              have w1' : IntKind.i64.wrap ((M : Int) - (N : Int)) = (M : Int) - (N : Int) := IntWalk.i64_in _ (by omega)
              have w2' : IntKind.i64.wrap ((M : Int) - (N : Int) + (j : Int)) = (M : Int) - (N : Int) + (j : Int) := IntWalk.i64_in _ (by omega)
              have hi0 : (0 : Int) ≤ (M : Int) - (N : Int) + (j : Int) := by omega
              have hi1 : (M : Int) - (N : Int) + (j : Int) < (M : Int) := by omega
              have hi2 : ((M : Int) - (N : Int) + (j : Int)).toNat < M := by omega
              dsimp only at m1 m2 m3 m4 m5 m6 p1' p2' p3' p4' p5' p6' y1 y2 y3 y4 y5
              clear hem hme hpe hAm hix k0' k1 k2 k3 k5 k6 k7 k8 k9
              go_quiet (fail)
              clear m1 m2 m3 m4 m5 m6 p1' p2' p3' p4' p5' p6' y1 y2 y3 y4 y5
              go_wp2
              go_roundw
              case rel => exact ⟨j + 1, A3, n3, c3, by omega, by go_num, rfl, Lib.hid (HS3.out.mod0 ((Mod.refl No w3).drewN _)), by rw [HAP.out]; exact Lib.hid (HD3.out.drewN _), Lib.hid (HF3.out.drewN _), Lib.hid (HP3.out.drewN _)⟩
              case measure => simp [intOf]; omega
            · obtain rfl : j = N := by omega
              have hd : decide ((j : Int) < (j : Int)) = false := by simp
              have hTG := Lib.hid HI.out.tg
              have hFL : (opsOf s.g.forms).length = j := HF.out.1.symm
              have HD' := HD.out
              rw [← hFL, List.take_length, ← HI.out.tg] at HD'
              have HDD := Lib.hid HD'
              obtain ⟨k0', k1, k2, k3, k4, k5, k6, k7, k8, k9⟩ := HS.out.cells
              obtain ⟨TN, hTN⟩ : ∃ TN, s.g.text.length = TN := ⟨_, rfl⟩
              rw [hTN] at hdc
              clear HD HD' hFL hTG hTN hjl hj
              go_wp2_with (first
                | (go_at_call 14; refine (hdc _ HS.out).mono ?_; rintro en w11 ⟨A11, d11, rfl, hm11, hO11⟩; have HS11 := Lib.hid (HS.out.mod0 hm11); have HD11 := Lib.hid (HDD.out.mod0 hm11); have HO11 := Lib.hid hO11.rd)
                | (go_at_call 13; refine (sameDoc_self2 _ _ _ _ _ _ s.g.text _ HO11.out HD11.out).mono ?_; rintro en w12 ⟨rfl, hm12⟩; have HS12 := Lib.hid (HS11.out.mod0 hm12)))
              go_roundw
              case rel => exact ⟨k + 1, by omega, by go_num, Lib.hid ⟨x, s, col, HS12.out, HI.out⟩⟩
              case measure => simp [intOf]; omega
    · obtain rfl : k = n := by omega
      have hd : decide ((k : Int) < (k : Int)) = false := by simp
      obtain ⟨x, s, col, hS, hI⟩ := HP.out
      have hM := hS.b.md
      clear hS hI
      go_wp2
      go_ret
      exact ⟨rfl, hM⟩
end Go.Proofs.YtjojhfphlnfimaaGreatDoor.J
