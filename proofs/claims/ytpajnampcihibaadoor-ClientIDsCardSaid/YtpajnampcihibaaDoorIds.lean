/- The law ClientIDs: the walk. -/
import Derived.Test.YtpajnampcihibaaDoorForms
import Derived.Test.YtpajnampcihibaaDoorFork
import Derived.Deep.DeepCutAuto
namespace Go.Proofs.YtpajnampcihibaaDoor.J
open Go Go.RowKit
set_option linter.unusedSimpArgs false
set_option linter.unusedVariables false

theorem num_ids (i : Int) (w : World) : Calls Tryd.prog 5 #[.int .i64 i] w fun e w' => e = .returned (.int .i64 i) ∧ w = w' := by
  go_enter Tryd.func5, Tryd.ntmps5
  go_wp2
  go_ret
  exact ⟨rfl, rfl⟩

theorem new_bad (id : Int) (w : World) (h : id < 1 ∨ 64 < id) :
    Calls Tryd.prog 4 #[.int .i64 id] w fun e w' => e = .returned (.tuple #[.pointer none, .int .i64 110]) ∧ w = w' := by
  go_enter Tryd.func4, Tryd.ntmps4
  by_cases h1 : id < 1
  · go_wp2
    go_ret2
    exact ⟨rfl, rfl⟩
  · have h2 : 64 < id := by omega
    have h1' : decide (id < 1) = false := by simp [h1]
    clear h
    go_wp2
    go_ret2
    exact ⟨rfl, rfl⟩

theorem nopOk (id : Int) (h1 : 1 ≤ id) (h2 : id ≤ 64) : (Cl.new id).Ok :=
  { id1 := h1, id2 := h2, m0 := by simp [Cl.new], m1 := by simp [Cl.new], fl := by simp [Cl.new], fn := by simp [Cl.new], pn := by simp [Cl.new], a0 := by simp [Cl.new], a1 := by simp [Cl.new], tn := by simp [Cl.new] }

theorem view_new (p : Nat) (m : ClM) (id : Int) (col : Nat → Nat) (t : Nat) (w : World) (hc : ClAt w p m (Cl.new id) col t) :
    Calls Tryd.prog 6 #[.pointer (some ⟨p, 0, none⟩)] w fun e w' => ∃ A d B b, e = .returned (.agg #[.int .i64 id, .int .i64 0, .bool false, .int .i64 0, .int .i64 0, .slice A 0 d, .slice B 0 b]) ∧ Mod No w w' :=
  (view_out p m _ col t w hc (by simp [Cl.new]) (by simp [Cl.new]) rfl).mono fun e w' ⟨A, d, B, b, he, hm, _, _⟩ => ⟨A, d, B, b, he, hm⟩
theorem doc_new (p : Nat) (m : ClM) (id : Int) (col : Nat → Nat) (t : Nat) (w : World) (hc : ClAt w p m (Cl.new id) col t) :
    Calls Tryd.prog 8 #[.pointer (some ⟨p, 0, none⟩)] w fun e w' => ∃ A d, e = .returned (.slice A 0 d) ∧ Mod No w w' :=
  (doc_ok p m _ col t w hc (by simp [Cl.new])).mono fun e w' ⟨A, d, he, hm, _⟩ => ⟨A, d, he, hm⟩
theorem pending_new (p : Nat) (m : ClM) (id : Int) (col : Nat → Nat) (t : Nat) (w : World) (hc : ClAt w p m (Cl.new id) col t) :
    Calls Tryd.prog 9 #[.pointer (some ⟨p, 0, none⟩)] w fun e w' => ∃ A d, e = .returned (.slice A 0 d) ∧ Mod No w w' :=
  (pending_ok p m _ col t w hc (by simp [Cl.new])).mono fun e w' ⟨A, d, he, hm, _⟩ => ⟨A, d, he, hm⟩
theorem forms_new (p : Nat) (m : ClM) (id : Int) (col : Nat → Nat) (t : Nat) (w : World) (hc : ClAt w p m (Cl.new id) col t) :
    Calls Tryd.prog 10 #[.pointer (some ⟨p, 0, none⟩)] w fun e w' => ∃ A d, e = .returned (.slice A 0 d) ∧ Mod No w w' :=
  (forms_ok p m _ col t w hc (by simp [Cl.new])).mono fun e w' ⟨A, d, he, hm, _⟩ => ⟨A, d, he, hm⟩
theorem insE_new (id : Int) : insE (Cl.new id) 0 113 = 0 := by
  simp [insE, Cl.new]
theorem ins_new (p : Nat) (m : ClM) (id : Int) (col : Nat → Nat) (w : World) (hc : ClAt w p m (Cl.new id) col 1) (h1 : 1 ≤ id) (h2 : id ≤ 64) :
    Calls Tryd.prog 11 #[.pointer (some ⟨p, 0, none⟩), .int .i64 0, .int .i64 113] w fun e w' =>
      e = .returned (.tuple #[.agg #[.int .i64 0, .int .i64 1, .int .i64 0, .int .u8 113, .int .i64 id, .int .i64 1], .int .i64 0]) ∧
      ∃ m' col', ClAt w' p m' ((Cl.new id).edited ⟨1, 0, 113, id, 1⟩) col' 1 ∧ Mod (fun b => 1 ≤ col b ∧ col b ≤ 1 + 8) w w' ∧ ∀ b, b < w.heap.size → col' b = col b :=
  insert_ok p m _ col 1 0 113 w (Nat.le_refl 1) hc (nopOk id h1 h2) (by simp [Cl.new]) (insE_new id)
theorem forms_one (p : Nat) (m : ClM) (id : Int) (col : Nat → Nat) (t : Nat) (o : Op) (w : World) (hc : ClAt w p m ((Cl.new id).edited o) col t) :
    Calls Tryd.prog 10 #[.pointer (some ⟨p, 0, none⟩)] w fun e w' => ∃ A d, e = .returned (.slice A 1 d) ∧ Mod No w w' ∧ Rd kOp w' A 1 d [o] :=
  (forms_ok p m _ col t w hc (by simp [Cl.new, Cl.edited])).mono fun e w' ⟨A, d, he, hm, hO⟩ => ⟨A, d, he, hm, hO.rd⟩
theorem tick_one (p : Nat) (m : ClM) (id : Int) (col : Nat → Nat) (t : Nat) (o : Op) (w : World) (hc : ClAt w p m ((Cl.new id).edited o) col t) :
    Calls Tryd.prog 7 #[.pointer (some ⟨p, 0, none⟩)] w fun e w' => e = .returned (.slice none 0 0) ∧ Mod No w w' :=
  tick_out p m _ col t w hc rfl

theorem eql_Edit (w : World) (t x0 x1 x2 x3 x4 u y0 y1 y2 y3 y4 : Int) :
    (binOp .eql 41 (.agg #[.int .i64 t, .int .i64 x0, .int .i64 x1, .int .u8 x2, .int .i64 x3, .int .i64 x4]) (.agg #[.int .i64 u, .int .i64 y0, .int .i64 y1, .int .u8 y2, .int .i64 y3, .int .i64 y4])).run Tryd.prog w = .ok (.bool (decide ((⟨t, ⟨x0, x1, x2, x3, x4⟩⟩ : Edit) = ⟨u, ⟨y0, y1, y2, y3, y4⟩⟩))) w := by
  simp only [binOp]
  simp [Op.equal, Op.maxDepth, eqEdit 9997 w, -Edit.mk.injEq]

theorem stopHere {P : Prop} (h : Hid P) : P := h
set_option maxRecDepth 100000 in
set_option maxHeartbeats 4000000 in
theorem ids_any (id : Int) (w : World) : Calls Tryd.prog 3 #[.int .i64 id] w fun e w' => e = .returned (.bool true) ∧ Mod No w w' := by
  by_cases hbad : id < 1 ∨ 64 < id
  · have hnb := fun w => new_bad id w hbad
    by_cases h1 : id < 1
    · clear hbad
      go_enter Tryd.func3, Tryd.ntmps3
      go_wp2_with (first | (go_at_call 4; refine (hnb _).mono ?_; rintro e w' ⟨rfl, rfl⟩) | (go_at_call 5; refine (num_ids _ _).mono ?_; rintro e w' ⟨rfl, rfl⟩))
      go_ret
      exact ⟨rfl, Mod.refl _ _⟩
    · have h2 : 64 < id := by omega
      have h1' : decide (id < 1) = false := by simp [h1]
      clear hbad
      go_enter Tryd.func3, Tryd.ntmps3
      go_wp2_with (first | (go_at_call 4; refine (hnb _).mono ?_; rintro e w' ⟨rfl, rfl⟩) | (go_at_call 5; refine (num_ids _ _).mono ?_; rintro e w' ⟨rfl, rfl⟩))
      go_ret
      exact ⟨rfl, Mod.refl _ _⟩
  · have h1 : 1 ≤ id := by omega
    have h2 : id ≤ 64 := by omega
    have h1' : decide (id < 1) = false := by simp; omega
    have h2' : decide (64 < id) = false := by simp; omega
    have hne := neq_Edit
    clear hbad
    go_enter Tryd.func3, Tryd.ntmps3
    go_upto_region 11 with (first | (go_at_call 4; refine (clNew_ok id w (fun _ => 0) 1 h1 h2).mono ?_; rintro e w1 ⟨p, m0, col0, rfl, hc1, hM1, hcol0⟩)
                                            | (go_at_call 5; refine (num_ids _ _).mono ?_; rintro e w' ⟨rfl, rfl⟩)
                                            | (go_at_call 6; refine (view_new p m0 id col0 1 _ hc1).mono ?_; rintro e w2 ⟨A2, d2, B2, b2, rfl, hm2⟩; have hMv := hm2.alloc (.cells #[.int .i64 id, .int .i64 0, .bool false, .int .i64 0, .int .i64 0, .slice A2 0 d2, .slice B2 0 b2] 30); have hc2 := hc1.keep0 hMv)
                                            | (go_at_call 7; refine (tick_out p m0 _ col0 1 _ hc2 rfl).mono ?_; rintro e w3 ⟨rfl, hm3⟩; have hc3 := hc2.keep0 hm3)
                                            | (go_at_call 8; refine (doc_new p m0 id col0 1 _ hc3).mono ?_; rintro e w4 ⟨A4, d4, rfl, hm4⟩; have hc4 := hc3.keep0 hm4)
                                            | (go_at_call 9; refine (pending_new p m0 id col0 1 _ hc4).mono ?_; rintro e w5 ⟨A5, d5, rfl, hm5⟩; have hc5 := hc4.keep0 hm5)
                                            | (go_at_call 10; refine (forms_new p m0 id col0 1 _ hc5).mono ?_; rintro e w6 ⟨A6, d6, rfl, hm6⟩; have hc6 := hc5.keep0 hm6))
    have hM6 := ((((hM1.then0 hMv).then0 hm3).then0 hm4).then0 hm5).then0 hm6
    have hins := ins_new p m0 id col0 w6 hc6 h1 h2
    go_upto_region 13 with (first | (go_at_call 11; refine hins.mono ?_; rintro e w7 ⟨rfl, m7, col7, hc7, hm7, hcol7⟩))
    have hE := eql_Edit
    have hMw : Mod No w w7 := hM6.trans hm7 (fun b hb h => by have := hcol0 b hb; omega)
    refine cut_world (F := fun w9 => w9.heap[w7.heap.size]? = some (.cells #[.int .i64 0, .int .i64 1, .int .i64 0, .int .u8 113, .int .i64 id, .int .i64 1] 41 (0, 0)) ∧ w9.heap[w7.heap.size + 1]? = some (.cells #[.int .i64 1, .int .i64 0, .int .u8 113, .int .i64 id, .int .i64 1] 39 (0, 0)) ∧ ClAt w9 p m7 ((Cl.new id).edited ⟨1, 0, 113, id, 1⟩) col7 1 ∧ Mod No w w9)
      ⟨blk_alloc (blk_new _ _ rfl) _, blk_new _ _ (by simp), hc7.keep0 (((Mod.refl _ _).alloc _).alloc _), (hMw.alloc _).alloc _⟩ ?_
    clear hc1 hM1 hcol0 hm2 hMv hc2 hm3 hc3 hm4 hc4 hm5 hc5 hm6 hc6 hM6 hins hc7 hm7 hcol7 hMw
    rintro w9 ⟨hX9, hO9, hc9, hM9⟩
    have hQx := blk_at hX9
    have hQo := blk_at hO9
    refine wp_region_fork ([0, 1, 2, 3, 4, 5, 6, 7, 8, 9, 10, 12].map (·, false)) 11 #[true, true, true, true, true, true, true, true, true, true, true, false, true, false, false, false, false, false, false, false, false, false, false] (by kernel_rfl) (by kernel_rfl) (by kernel_rfl) (by kernel_rfl) ?_
    simp only [List.map_cons, List.map_nil, List.filterMap_cons, List.filterMap_nil, pick, List.getElem?_toArray, List.getElem?_cons_zero, List.getElem?_cons_succ, Option.map_some]
    refine wpSeg_rest [_, _, _, _, _, _, _, _, _, _, _, _] ?_
    go_wp2_with (go_at_call 5; refine (num_ids _ _).mono ?_; rintro e w' ⟨rfl, rfl⟩)
    refine ⟨rfl, by kernel_rfl, fun hd => ?_⟩
    refine wpAnyL_fork2 11 13 true false ((13, false) :: [14, 15, 16, 17, 18, 19, 20, 21, 22].map (·, false)) ((11, true) :: [14, 15, 16, 17, 18, 19, 20, 21, 22].map (·, false)) 0 0 #[true, true, true, true, true, true, true, true, true, true, true, true, true, true, true, true, true, true, true, true, true, true, true] #[true, true, true, true, true, true, true, true, true, true, true, true, true, true, true, true, true, true, true, true, true, true, true] (by kernel_rfl) (by kernel_rfl) hd (by decide) (by decide) (by kernel_rfl) (by kernel_rfl) (by kernel_rfl) (by kernel_rfl) (by kernel_rfl) ?_ ?_
    · simp only [List.map_cons, List.map_nil, List.filterMap_cons, List.filterMap_nil, pick, List.getElem?_toArray, List.getElem?_cons_zero, List.getElem?_cons_succ, Option.map_some]
      refine wpSeg_markG (by kernel_rfl) ?_
      go_wp2_with (go_at_call 10; refine (forms_one p m7 id col7 1 _ _ (hc9.keep0 (Mod.refl _ _).drew)).mono ?_; rintro e w10 ⟨A10, d10, rfl, hm10, hR10⟩; refine ⟨hm10.old, ?_⟩)
      refine wpSeg_rest [_, _, _, _, _, _, _, _, _, _] ?_
      go_wp2_with (first | (go_at_call 12; refine (sameOps_any A10 _ _ _ d10 1 [⟨1, 0, 113, id, 1⟩] [⟨1, 0, 113, id, 1⟩] _ (hR10.alloc _) (Rd.one (blk_new _ _ (by simp)) _ rfl)).mono ?_; rintro e w11 ⟨rfl, hm11⟩; have hM11 : Mod No w9 w11 := ((Mod.refl _ _).drew.then0 hm10).alloc _ |>.then0 hm11)
                         | (go_at_call 7; refine (tick_one p m7 id col7 1 _ _ (hc9.keep0 hM11)).mono ?_; rintro e w12 ⟨rfl, hm12⟩))
      refine ⟨rfl, by kernel_rfl, fun _ => wpAnyL_done (by kernel_rfl) ⟨rfl, ?_⟩⟩
      go_wp2
      go_ret
      exact ⟨rfl, (hM9.then0 hM11).then0 hm12⟩
    · simp only [List.map_cons, List.map_nil, List.filterMap_cons, List.filterMap_nil, pick, List.getElem?_toArray, List.getElem?_cons_zero, List.getElem?_cons_succ, Option.map_some]
      refine wpSeg_cut (fun e a w h => h.1) [_] _ _ _ ?_
      go_wp2
      refine wpSeg_markG (by kernel_rfl) ?_
      go_wp2_with (go_at_call 10; refine (forms_one p m7 id col7 1 _ _ (hc9.keep0 ((Mod.refl _ _).drew.alloc _))).mono ?_; rintro e w10 ⟨A10, d10, rfl, hm10, hR10⟩; refine ⟨hm10.old, ?_⟩)
      refine wpSeg_rest [_, _, _, _, _, _, _, _, _] ?_
      go_wp2_with (first | (go_at_call 12; refine (sameOps_any A10 _ _ _ d10 1 [⟨1, 0, 113, id, 1⟩] [⟨1, 0, 113, id, 1⟩] _ hR10 (Rd.one (hm10.heap (blk_new _ _ (by simp)) (fun h => h)) _ rfl)).mono ?_; rintro e w11 ⟨rfl, hm11⟩; have hM11 : Mod No w9 w11 := (((Mod.refl _ _).drew.alloc _).then0 hm10).then0 hm11)
                         | (go_at_call 7; refine (tick_one p m7 id col7 1 _ _ (hc9.keep0 hM11)).mono ?_; rintro e w12 ⟨rfl, hm12⟩))
      refine ⟨rfl, by kernel_rfl, fun _ => wpAnyL_done (by kernel_rfl) ⟨rfl, ?_⟩⟩
      go_wp2
      go_ret
      exact ⟨rfl, (hM9.then0 hM11).then0 hm12⟩
end Go.Proofs.YtpajnampcihibaaDoor.J
