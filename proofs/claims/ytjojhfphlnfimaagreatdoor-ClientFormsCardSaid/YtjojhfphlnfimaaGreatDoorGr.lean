/- Why a message of the server's is dropped: refused. -/
import Derived.Test.YtjojhfphlnfimaaGreatDoorGa
import Derived.Test.YtjojhfphlnfimaaGreatDoorBox
import Derived.Test.YtjojhfphlnfimaaGreatDoorWire
namespace Go.Proofs.YtjojhfphlnfimaaGreatDoor.J
open Go Go.RowKit
set_option linter.unusedSimpArgs false
set_option linter.unusedVariables false

/-- Why a message is dropped (0: it is not). -/
def refusedE (g : Gc) (m : Msg) : Int :=
  if m.kind = 1 ∨ m.kind = 2 ∨ m.kind = 3 then 112
  else if m.client ≠ g.id then 113
  else if m.epoch < g.epoch ∨ (m.kind ≠ 4 ∧ m.epoch ≠ g.epoch) then 114
  else if m.kind = 4 then 0
  else if g.sent < m.ack then 82
  else if m.kind = 6 then 0
  else if m.rev ≠ g.base + m.num then 115
  else if g.cum + 8 < m.num then 93
  else if m.num = g.cum + 1 then acceptsE g m.op
  else 0

set_option maxRecDepth 100000 in
set_option maxHeartbeats 8000000 in
theorem refused_k4 (p : Nat) (mm : ClM) (g : Gc) (col : Nat → Nat) (t : Nat) (ep cl hv fi nu ac re ta ok op oc ol os : Int) (w : World) (h : GcAt w p mm g col t) (hk : g.Ok) (hn0 : 0 ≤ nu) (hn1 : nu ≤ 4096) (hvv : validE ⟨ok, op, oc, ol, os⟩ = 0 ∨ True) (hT : OtT w) :
    Calls Tryz.prog 56 #[.pointer (some ⟨p, 0, none⟩), .agg #[.int .i64 4, .int .i64 ep, .int .i64 cl, .int .i64 hv, .int .i64 fi, .int .i64 nu, .int .i64 ac, .int .i64 re, .int .i64 ta, .int .i64 ok, .int .i64 op, .int .u8 oc, .int .i64 ol, .int .i64 os]] w fun e w' => e = .returned (.int .i64 (refusedE g ⟨4, ep, cl, hv, fi, nu, ac, re, ta, ⟨ok, op, oc, ol, os⟩⟩)) ∧ Mod No w w' := by
  obtain ⟨E, hE⟩ : ∃ E, refusedE g ⟨4, ep, cl, hv, fi, nu, ac, re, ta, ⟨ok, op, oc, ol, os⟩⟩ = E := ⟨_, rfl⟩
  rw [hE]
  have HE := Lib.hid hE
  clear hE
  have hb0 := hk.b0
  have hc0 := hk.c0
  have hhv := hk.hv
  have hhm := hk.hm
  have hb1 : g.base ≤ 4096 := by omega
  have hc1 : g.cum ≤ 4096 := by omega
  have HK := Lib.hid hk
  have HVV := Lib.hid hvv
  clear hhv hk hvv
  go_enter Tryz.func56, Tryz.ntmps56
  go_upto_region 3 with (fail)
  refine cut_worldO (F := fun w1 => w1.heap[w.heap.size]? = some (.cells #[.int .i64 4, .int .i64 ep, .int .i64 cl, .int .i64 hv, .int .i64 fi, .int .i64 nu, .int .i64 ac, .int .i64 re, .int .i64 ta, .int .i64 ok, .int .i64 op, .int .u8 oc, .int .i64 ol, .int .i64 os] 34 (0, 0)) ∧ GcAt w1 p mm g col t ∧ Mod No w w1) ⟨blk_new _ _ rfl, h.keep0 ((Mod.refl No w).alloc _), (Mod.refl No w).alloc _⟩ ?_
  rintro w1 ⟨hA1, h1, hM1⟩
  have hQA := blk_at hA1
  have HT1 := Lib.hid (hT.mod hM1 (fun h => h))
  obtain ⟨k0, k1, k2, k3, k4, k5, k6, k7, k8, k9, k10⟩ := h1.cells
  have hO1 := h1.ho.1
  have hI1 := h1.hi.1
  have HH1 := Lib.hid h1
  clear h h1 hT
  by_cases hcl : cl = g.id
  · subst hcl
    refine wp_region_text (by kernel_rfl) (by kernel_rfl) (by kernel_rfl) (by kernel_rfl) ?_
    go_wp2
    refine ⟨rfl, by kernel_rfl, ?_⟩
    go_upto_region 5 with (fail)
    by_cases hep : ep < g.epoch
    · have HE2 : Hid (E = 114) := Lib.hid (by rw [← HE.out]; simp [refusedE, hep])
      have hd : decide (ep < g.epoch) = true := by simp [hep]
      clear hep
      refine wp_region_text (by kernel_rfl) (by kernel_rfl) (by kernel_rfl) (by kernel_rfl) ?_
      go_wp2
      refine ⟨rfl, by kernel_rfl, ?_⟩
      go_wp2
      go_ret
      exact ⟨ret_i HE2.out.symm, hM1.drew.drew⟩
    · have HE2 : Hid (E = 0) := Lib.hid (by rw [← HE.out]; simp [refusedE, hep])
      have hd : decide (ep < g.epoch) = false := by simp [hep]
      clear hep
      refine wp_region_text (by kernel_rfl) (by kernel_rfl) (by kernel_rfl) (by kernel_rfl) ?_
      go_wp2
      refine ⟨rfl, by kernel_rfl, ?_⟩
      go_wp2
      go_ret
      exact ⟨ret_i HE2.out.symm, hM1.drew.drew⟩
  · have HE2 : Hid (E = 113) := Lib.hid (by rw [← HE.out]; simp [refusedE, hcl])
    have hd : (cl != g.id) = true := by simp [hcl]
    clear hcl
    refine wp_region_text (by kernel_rfl) (by kernel_rfl) (by kernel_rfl) (by kernel_rfl) ?_
    go_wp2
    refine ⟨rfl, by kernel_rfl, ?_⟩
    go_wp2
    go_ret
    exact ⟨ret_i HE2.out.symm, hM1.drew⟩

set_option maxRecDepth 100000 in
set_option maxHeartbeats 8000000 in
theorem refused_k6 (p : Nat) (mm : ClM) (g : Gc) (col : Nat → Nat) (t : Nat) (ep cl hv fi nu ac re ta ok op oc ol os : Int) (w : World) (h : GcAt w p mm g col t) (hk : g.Ok) (hn0 : 0 ≤ nu) (hn1 : nu ≤ 4096) (hvv : validE ⟨ok, op, oc, ol, os⟩ = 0 ∨ True) (hT : OtT w) :
    Calls Tryz.prog 56 #[.pointer (some ⟨p, 0, none⟩), .agg #[.int .i64 6, .int .i64 ep, .int .i64 cl, .int .i64 hv, .int .i64 fi, .int .i64 nu, .int .i64 ac, .int .i64 re, .int .i64 ta, .int .i64 ok, .int .i64 op, .int .u8 oc, .int .i64 ol, .int .i64 os]] w fun e w' => e = .returned (.int .i64 (refusedE g ⟨6, ep, cl, hv, fi, nu, ac, re, ta, ⟨ok, op, oc, ol, os⟩⟩)) ∧ Mod No w w' := by
  obtain ⟨E, hE⟩ : ∃ E, refusedE g ⟨6, ep, cl, hv, fi, nu, ac, re, ta, ⟨ok, op, oc, ol, os⟩⟩ = E := ⟨_, rfl⟩
  rw [hE]
  have HE := Lib.hid hE
  clear hE
  have hb0 := hk.b0
  have hc0 := hk.c0
  have hhv := hk.hv
  have hhm := hk.hm
  have hb1 : g.base ≤ 4096 := by omega
  have hc1 : g.cum ≤ 4096 := by omega
  have HK := Lib.hid hk
  have HVV := Lib.hid hvv
  clear hhv hk hvv
  go_enter Tryz.func56, Tryz.ntmps56
  go_upto_region 3 with (fail)
  refine cut_worldO (F := fun w1 => w1.heap[w.heap.size]? = some (.cells #[.int .i64 6, .int .i64 ep, .int .i64 cl, .int .i64 hv, .int .i64 fi, .int .i64 nu, .int .i64 ac, .int .i64 re, .int .i64 ta, .int .i64 ok, .int .i64 op, .int .u8 oc, .int .i64 ol, .int .i64 os] 34 (0, 0)) ∧ GcAt w1 p mm g col t ∧ Mod No w w1) ⟨blk_new _ _ rfl, h.keep0 ((Mod.refl No w).alloc _), (Mod.refl No w).alloc _⟩ ?_
  rintro w1 ⟨hA1, h1, hM1⟩
  have hQA := blk_at hA1
  have HT1 := Lib.hid (hT.mod hM1 (fun h => h))
  obtain ⟨k0, k1, k2, k3, k4, k5, k6, k7, k8, k9, k10⟩ := h1.cells
  have hO1 := h1.ho.1
  have hI1 := h1.hi.1
  have HH1 := Lib.hid h1
  clear h h1 hT
  by_cases hcl : cl = g.id
  · subst hcl
    refine wp_region_text (by kernel_rfl) (by kernel_rfl) (by kernel_rfl) (by kernel_rfl) ?_
    go_wp2
    refine ⟨rfl, by kernel_rfl, ?_⟩
    go_upto_region 5 with (fail)
    by_cases hep : ep = g.epoch
    · subst hep
      have hd0 : decide (g.epoch < g.epoch) = false := by simp
      refine wp_region_text (by kernel_rfl) (by kernel_rfl) (by kernel_rfl) (by kernel_rfl) ?_
      go_wp2
      refine ⟨rfl, by kernel_rfl, ?_⟩
      clear hd0
      go_upto_region 9 with (fail)
      refine wp_region_seg ([0, 1, 2, 3, 4, 5, 6].map (·, false) ++ [(7, true), (8, false), (9, false)]) (by kernel_rfl) (by kernel_rfl) (by kernel_rfl) (by kernel_rfl) ?_
      simp only [List.map_cons, List.map_nil, List.cons_append, List.nil_append, List.filterMap_cons, List.filterMap_nil, pick, List.getElem?_toArray, List.getElem?_cons_zero, List.getElem?_cons_succ, Option.map_some]
      refine wpSeg_cut (fun e a w h => h.1) [_, _, _, _, _, _, _] _ _ _ ?_
      go_wp2
      refine wpSeg_mark rfl ?_
      go_wp2_with (go_at_call 84; refine (sent_0 mm.po _ _ _ _ _ (w1.drew.drew.drew) hO1).mono ?_; rintro e w2 ⟨rfl, rfl⟩; refine ⟨Old.refl _, ?_⟩)
      refine wpSeg_rest [_, _] ?_
      by_cases hac : g.sent < ac
      · have HE2 : Hid (E = 82) := Lib.hid (by rw [← HE.out]; simp [refusedE, hac])
        have hd : decide (g.sent < ac) = true := by simp [hac]
        clear hac
        go_wp2
        refine ⟨rfl, by kernel_rfl, ?_⟩
        go_wp2
        go_ret
        exact ⟨ret_i HE2.out.symm, hM1.drew.drew.drew⟩
      · have HE2 : Hid (E = 0) := Lib.hid (by rw [← HE.out]; simp [refusedE, hac])
        have hd : decide (g.sent < ac) = false := by simp [hac]
        clear hac
        go_wp2
        refine ⟨rfl, by kernel_rfl, ?_⟩
        go_wp2
        go_ret
        exact ⟨ret_i HE2.out.symm, hM1.drew.drew.drew⟩
    · have HE2 : Hid (E = 114) := Lib.hid (by rw [← HE.out]; simp [refusedE, hep])
      have hd2 : (ep != g.epoch) = true := by simp [hep]
      clear hep
      by_cases hlt : ep < g.epoch
      · have hd : decide (ep < g.epoch) = true := by simp [hlt]
        clear hlt
        refine wp_region_text (by kernel_rfl) (by kernel_rfl) (by kernel_rfl) (by kernel_rfl) ?_
        go_wp2
        refine ⟨rfl, by kernel_rfl, ?_⟩
        go_wp2
        go_ret
        exact ⟨ret_i HE2.out.symm, hM1.drew.drew⟩
      · have hd : decide (ep < g.epoch) = false := by simp [hlt]
        clear hlt
        refine wp_region_text (by kernel_rfl) (by kernel_rfl) (by kernel_rfl) (by kernel_rfl) ?_
        go_wp2
        refine ⟨rfl, by kernel_rfl, ?_⟩
        go_wp2
        go_ret
        exact ⟨ret_i HE2.out.symm, hM1.drew.drew⟩
  · have HE2 : Hid (E = 113) := Lib.hid (by rw [← HE.out]; simp [refusedE, hcl])
    have hd : (cl != g.id) = true := by simp [hcl]
    clear hcl
    refine wp_region_text (by kernel_rfl) (by kernel_rfl) (by kernel_rfl) (by kernel_rfl) ?_
    go_wp2
    refine ⟨rfl, by kernel_rfl, ?_⟩
    go_wp2
    go_ret
    exact ⟨ret_i HE2.out.symm, hM1.drew⟩

set_option maxRecDepth 100000 in
set_option maxHeartbeats 8000000 in
theorem refused_k5 (p : Nat) (mm : ClM) (g : Gc) (col : Nat → Nat) (t : Nat) (ep cl hv fi nu ac re ta ok op oc ol os : Int) (w : World) (h : GcAt w p mm g col t) (hk : g.Ok) (hn0 : 0 ≤ nu) (hn1 : nu ≤ 4096) (hvv : validE ⟨ok, op, oc, ol, os⟩ = 0 ∨ False) (hT : OtT w) :
    Calls Tryz.prog 56 #[.pointer (some ⟨p, 0, none⟩), .agg #[.int .i64 5, .int .i64 ep, .int .i64 cl, .int .i64 hv, .int .i64 fi, .int .i64 nu, .int .i64 ac, .int .i64 re, .int .i64 ta, .int .i64 ok, .int .i64 op, .int .u8 oc, .int .i64 ol, .int .i64 os]] w fun e w' => e = .returned (.int .i64 (refusedE g ⟨5, ep, cl, hv, fi, nu, ac, re, ta, ⟨ok, op, oc, ol, os⟩⟩)) ∧ Mod No w w' := by
  obtain ⟨E, hE⟩ : ∃ E, refusedE g ⟨5, ep, cl, hv, fi, nu, ac, re, ta, ⟨ok, op, oc, ol, os⟩⟩ = E := ⟨_, rfl⟩
  rw [hE]
  have HE := Lib.hid hE
  clear hE
  have hb0 := hk.b0
  have hc0 := hk.c0
  have hhv := hk.hv
  have hhm := hk.hm
  have hb1 : g.base ≤ 4096 := by omega
  have hc1 : g.cum ≤ 4096 := by omega
  have HK := Lib.hid hk
  have HVV := Lib.hid hvv
  clear hhv hk hvv
  go_enter Tryz.func56, Tryz.ntmps56
  go_upto_region 3 with (fail)
  refine cut_worldO (F := fun w1 => w1.heap[w.heap.size]? = some (.cells #[.int .i64 5, .int .i64 ep, .int .i64 cl, .int .i64 hv, .int .i64 fi, .int .i64 nu, .int .i64 ac, .int .i64 re, .int .i64 ta, .int .i64 ok, .int .i64 op, .int .u8 oc, .int .i64 ol, .int .i64 os] 34 (0, 0)) ∧ GcAt w1 p mm g col t ∧ Mod No w w1) ⟨blk_new _ _ rfl, h.keep0 ((Mod.refl No w).alloc _), (Mod.refl No w).alloc _⟩ ?_
  rintro w1 ⟨hA1, h1, hM1⟩
  have hQA := blk_at hA1
  have HT1 := Lib.hid (hT.mod hM1 (fun h => h))
  obtain ⟨k0, k1, k2, k3, k4, k5, k6, k7, k8, k9, k10⟩ := h1.cells
  have hO1 := h1.ho.1
  have hI1 := h1.hi.1
  have HH1 := Lib.hid h1
  clear h h1 hT
  by_cases hcl : cl = g.id
  · subst hcl
    refine wp_region_text (by kernel_rfl) (by kernel_rfl) (by kernel_rfl) (by kernel_rfl) ?_
    go_wp2
    refine ⟨rfl, by kernel_rfl, ?_⟩
    go_upto_region 5 with (fail)
    by_cases hep : ep = g.epoch
    · subst hep
      have hd0 : decide (g.epoch < g.epoch) = false := by simp
      refine wp_region_text (by kernel_rfl) (by kernel_rfl) (by kernel_rfl) (by kernel_rfl) ?_
      go_wp2
      refine ⟨rfl, by kernel_rfl, ?_⟩
      clear hd0
      go_upto_region 9 with (fail)
      refine wp_region_seg ([0, 1, 2, 3, 4, 5, 6].map (·, false) ++ [(7, true), (8, false), (9, false)]) (by kernel_rfl) (by kernel_rfl) (by kernel_rfl) (by kernel_rfl) ?_
      simp only [List.map_cons, List.map_nil, List.cons_append, List.nil_append, List.filterMap_cons, List.filterMap_nil, pick, List.getElem?_toArray, List.getElem?_cons_zero, List.getElem?_cons_succ, Option.map_some]
      refine wpSeg_cut (fun e a w h => h.1) [_, _, _, _, _, _, _] _ _ _ ?_
      go_wp2
      refine wpSeg_mark rfl ?_
      go_wp2_with (go_at_call 84; refine (sent_0 mm.po _ _ _ _ _ (w1.drew.drew.drew) hO1).mono ?_; rintro e w2 ⟨rfl, rfl⟩; refine ⟨Old.refl _, ?_⟩)
      refine wpSeg_rest [_, _] ?_
      by_cases hac : g.sent < ac
      · have HE2 : Hid (E = 82) := Lib.hid (by rw [← HE.out]; simp [refusedE, hac])
        have hd : decide (g.sent < ac) = true := by simp [hac]
        clear hac
        go_wp2
        refine ⟨rfl, by kernel_rfl, ?_⟩
        go_wp2
        go_ret
        exact ⟨ret_i HE2.out.symm, hM1.drew.drew.drew⟩
      · have HAC := Lib.hid hac
        have hd : decide (g.sent < ac) = false := by simp [hac]
        clear hac
        go_wp2
        refine ⟨rfl, by kernel_rfl, ?_⟩
        clear hd
        go_upto_region 13 with (fail)
        by_cases hrv : re = g.base + nu
        · have HRV := Lib.hid hrv
          have hd : (re != g.base + nu) = false := by simp [hrv]
          clear hrv
          refine wp_region_text (by kernel_rfl) (by kernel_rfl) (by kernel_rfl) (by kernel_rfl) ?_
          go_wp2
          refine ⟨rfl, by kernel_rfl, ?_⟩
          clear hd
          go_upto_region 15 with (fail)
          refine wp_region_seg ([0, 1, 2, 3, 4, 5, 6].map (·, false) ++ [(7, true), (8, false), (9, false), (10, false)]) (by kernel_rfl) (by kernel_rfl) (by kernel_rfl) (by kernel_rfl) ?_
          simp only [List.map_cons, List.map_nil, List.cons_append, List.nil_append, List.filterMap_cons, List.filterMap_nil, pick, List.getElem?_toArray, List.getElem?_cons_zero, List.getElem?_cons_succ, Option.map_some]
          refine wpSeg_cut (fun e a w h => h.1) [_, _, _, _, _, _, _] _ _ _ ?_
          go_wp2
          refine wpSeg_mark rfl ?_
          go_wp2_with (go_at_call 85; refine (cum_ok mm.pi _ _ _ _ (w1.drew.drew.drew.drew.drew) hI1).mono ?_; rintro e w2 ⟨rfl, rfl⟩; refine ⟨Old.refl _, ?_⟩)
          refine wpSeg_rest [_, _, _] ?_
          by_cases hfar : g.cum + 8 < nu
          · have HE2 : Hid (E = 93) := Lib.hid (by rw [← HE.out]; simp [refusedE, HAC.out, HRV.out, hfar])
            have hd : decide (g.cum + 8 < nu) = true := by simp [hfar]
            clear hfar
            go_wp2
            refine ⟨rfl, by kernel_rfl, ?_⟩
            go_wp2
            go_ret
            exact ⟨ret_i HE2.out.symm, hM1.drew.drew.drew.drew.drew⟩
          · have HFAR := Lib.hid hfar
            have hd : decide (g.cum + 8 < nu) = false := by simp [hfar]
            clear hfar
            go_wp2
            refine ⟨rfl, by kernel_rfl, ?_⟩
            clear hd
            go_upto_region 17 with (fail)
            refine wp_region_seg ([0, 1, 2, 3, 4, 5, 6].map (·, false) ++ [(7, true), (8, false), (9, false), (10, false)]) (by kernel_rfl) (by kernel_rfl) (by kernel_rfl) (by kernel_rfl) ?_
            simp only [List.map_cons, List.map_nil, List.cons_append, List.nil_append, List.filterMap_cons, List.filterMap_nil, pick, List.getElem?_toArray, List.getElem?_cons_zero, List.getElem?_cons_succ, Option.map_some]
            refine wpSeg_cut (fun e a w h => h.1) [_, _, _, _, _, _, _] _ _ _ ?_
            go_wp2
            refine wpSeg_mark rfl ?_
            go_wp2_with (go_at_call 85; refine (cum_ok mm.pi _ _ _ _ (w1.drew.drew.drew.drew.drew.drew) hI1).mono ?_; rintro e w2 ⟨rfl, rfl⟩; refine ⟨Old.refl _, ?_⟩)
            refine wpSeg_rest [_, _, _] ?_
            by_cases hnx : nu = g.cum + 1
            · have HE2 : Hid (E = acceptsE g ⟨ok, op, oc, ol, os⟩) := Lib.hid (by rw [← HE.out]; have h9 := HFAR.out; rw [hnx] at h9; have h8 := HAC.out; have h7 := HRV.out; simp [refusedE, if_neg (show ¬ g.sent < ac by omega), h7, hnx, show ¬ g.cum + 8 < g.cum + 1 by omega])
              have hd : (nu == g.cum + 1) = true := by simp [hnx]
              clear hnx
              have hac3 := fun w' (h' : GcAt w' p mm g col t) hT' => accepts_any p mm g col t ⟨ok, op, oc, ol, os⟩ w' h' HK.out (HVV.out.resolve_right (fun h => h)) hT'
              simp only [Op.v] at hac3
              go_wp2
              refine ⟨rfl, by kernel_rfl, ?_⟩
              go_wp2_with (go_at_call 86; refine (hac3 _ (HH1.out.keep0 ((Mod.refl No w1).drew.drew.drew.drew.drew.drew)) (HT1.out.mod ((Mod.refl No w1).drew.drew.drew.drew.drew.drew) (fun h => h))).mono ?_; rintro e w4 ⟨rfl, hm4⟩)
              go_ret
              exact ⟨ret_i HE2.out.symm, hM1.drew.drew.drew.drew.drew.drew.then0 hm4⟩
            · have HE2 : Hid (E = 0) := Lib.hid (by rw [← HE.out]; have h9 := HFAR.out; have h8 := HAC.out; have h7 := HRV.out; simp [refusedE, if_neg (show ¬ g.sent < ac by omega), h7, hnx, if_neg (show ¬ g.cum + 8 < nu by omega)])
              have hd : (nu == g.cum + 1) = false := by simp [hnx]
              clear hnx
              go_wp2
              refine ⟨rfl, by kernel_rfl, ?_⟩
              go_wp2
              go_ret
              exact ⟨ret_i HE2.out.symm, hM1.drew.drew.drew.drew.drew.drew⟩
        · have HE2 : Hid (E = 115) := Lib.hid (by rw [← HE.out]; simp [refusedE, HAC.out, hrv])
          have hd : (re != g.base + nu) = true := by simp [hrv]
          clear hrv
          refine wp_region_text (by kernel_rfl) (by kernel_rfl) (by kernel_rfl) (by kernel_rfl) ?_
          go_wp2
          refine ⟨rfl, by kernel_rfl, ?_⟩
          go_wp2
          go_ret
          exact ⟨ret_i HE2.out.symm, hM1.drew.drew.drew.drew⟩
    · have HE2 : Hid (E = 114) := Lib.hid (by rw [← HE.out]; simp [refusedE, hep])
      have hd2 : (ep != g.epoch) = true := by simp [hep]
      clear hep
      by_cases hlt : ep < g.epoch
      · have hd : decide (ep < g.epoch) = true := by simp [hlt]
        clear hlt
        refine wp_region_text (by kernel_rfl) (by kernel_rfl) (by kernel_rfl) (by kernel_rfl) ?_
        go_wp2
        refine ⟨rfl, by kernel_rfl, ?_⟩
        go_wp2
        go_ret
        exact ⟨ret_i HE2.out.symm, hM1.drew.drew⟩
      · have hd : decide (ep < g.epoch) = false := by simp [hlt]
        clear hlt
        refine wp_region_text (by kernel_rfl) (by kernel_rfl) (by kernel_rfl) (by kernel_rfl) ?_
        go_wp2
        refine ⟨rfl, by kernel_rfl, ?_⟩
        go_wp2
        go_ret
        exact ⟨ret_i HE2.out.symm, hM1.drew.drew⟩
  · have HE2 : Hid (E = 113) := Lib.hid (by rw [← HE.out]; simp [refusedE, hcl])
    have hd : (cl != g.id) = true := by simp [hcl]
    clear hcl
    refine wp_region_text (by kernel_rfl) (by kernel_rfl) (by kernel_rfl) (by kernel_rfl) ?_
    go_wp2
    refine ⟨rfl, by kernel_rfl, ?_⟩
    go_wp2
    go_ret
    exact ⟨ret_i HE2.out.symm, hM1.drew⟩

end Go.Proofs.YtjojhfphlnfimaaGreatDoor.J
