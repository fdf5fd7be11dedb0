/- The law's own small functions: rest, num, put. -/
import Derived.Test.YtjojhfphlnfimaaGreatDoorView
import Derived.Test.YtjojhfphlnfimaaGreatDoorSame
import Derived.Deep.DeepCutAuto
namespace Go.Proofs.YtjojhfphlnfimaaGreatDoor.J
open Go Go.RowKit
set_option linter.unusedSimpArgs false
set_option linter.unusedVariables false

def restE (a n : Int) : Int := if a.tmod n < 0 then a.tmod n + n else a.tmod n
theorem restE_bd (a : Int) {n : Int} (h : 0 < n) : 0 ≤ restE a n ∧ restE a n < n := by
  unfold restE
  have h1 := Int.tmod_lt_of_pos a h
  have h2 : -n < a.tmod n := by
    have := Int.lt_tmod_of_pos a h
    omega
  split <;> omega

theorem rest_any (a n : Int) (w : World) (h : 0 < n) (h2 : n ≤ 4294967296) : Calls Tryz.prog 9 #[.int .i64 a, .int .i64 n] w fun e w' => e = .returned (.int .i64 (restE a n)) ∧ w = w' := by
  have hb := restE_bd a h
  have hne : (n == 0) = false := beq_eq_false_iff_ne.2 (by omega)
  have hE : restE a n = if a.tmod n < 0 then a.tmod n + n else a.tmod n := rfl
  have h1 := Int.tmod_lt_of_pos a h
  have h3 : -n < a.tmod n := by
    have := Int.lt_tmod_of_pos a h
    omega
  by_cases hlt : a.tmod n < 0
  · rw [if_pos hlt] at hE
    have HE := Lib.hid hE
    clear hE hb
    have w1 : IntKind.i64.wrap (a.tmod n + n) = a.tmod n + n := IntWalk.i64_in _ (by omega)
    go_enter Tryz.func9, Tryz.ntmps9
    go_wp2
    go_ret
    exact ⟨by rw [HE.out]; first | rfl | (simp [*]; done), rfl⟩
  · rw [if_neg hlt] at hE
    have HE := Lib.hid hE
    clear hE hb
    go_enter Tryz.func9, Tryz.ntmps9
    go_wp2
    go_ret
    exact ⟨by rw [HE.out]; first | rfl | (simp [*]; done), rfl⟩

theorem num_any (a : Int) (w : World) : Calls Tryz.prog 22 #[.int .i64 a] w fun e w' => e = .returned (.int .i64 a) ∧ w = w' := by
  go_enter Tryz.func22, Tryz.ntmps22
  go_wp2
  go_ret
  exact ⟨rfl, rfl⟩

set_option maxRecDepth 100000 in
set_option maxHeartbeats 2000000 in
theorem put_ok (A : Option Addr) (n c : Nat) (o : Op) (l : List Elem) (w : World) (hr : Rd kElem w A n c l) (hn : n ≤ 4096) (hk0 : 0 ≤ o.kind) (hk2 : o.kind ≤ 2) (h1 : o.kind = 1 → 0 ≤ o.pos ∧ o.pos ≤ n) (h2 : o.kind = 2 → 0 ≤ o.pos ∧ o.pos < n) :
    Calls Tryz.prog 12 #[.slice A n c, o.v] w fun e w' => ∃ A' n' c', e = .returned (.tuple #[.slice A' n' c', .bool true]) ∧ Mod No w w' ∧ Own kElem 95 w' A' n' c' (applyE l o) (fun b => w.heap.size ≤ b) := by
  obtain ⟨i, hi1, hi2, hi3, hi4⟩ := info_parts Tryz.infoElem
  have hnc := hr.2.1
  obtain ⟨k, p, ch, cl, sq⟩ := o
  simp only [Op.v] at *
  have hL := hr.1
  have HL := Lib.hid hL
  clear hL
  obtain ⟨w1, hw1⟩ : ∃ w1, w1 = w.alloc (.cells #[.int .i64 k, .int .i64 p, .int .u8 ch, .int .i64 cl, .int .i64 sq] 32) := ⟨_, rfl⟩
  have hB0 : w1.heap[w.heap.size]? = some (.cells #[.int .i64 k, .int .i64 p, .int .u8 ch, .int .i64 cl, .int .i64 sq] 32 (0, 0)) := by rw [hw1]; exact heap_alloc_new _ _
  have hlt : w.heap.size < w1.heap.size := by rw [hw1]; simp
  have hM0 : Mod No w w1 := by rw [hw1]; exact (Mod.refl _ _).alloc _
  have hr1 := hr.mod0 hM0
  have HW := Lib.hid hw1
  clear hw1
  by_cases e1 : k = 1
  · subst e1
    obtain ⟨q1, q2⟩ := h1 rfl
    obtain ⟨pn, rfl⟩ := Int.eq_ofNat_of_zero_le q1
    clear h1 h2
    go_enter Tryz.func12, Tryz.ntmps12
    go_upto_region 1 with fail
    rw [← HW.out]
    clear HW
    go_wp2_with (first | (refine wpList_make_j (k := kElem) rfl _ _ _ rfl i _ ⟨0, 0, 0⟩ Tryz.underlying35 hi1 hi2 hi3 rfl .i64 .i64 0 _ 0 (n + 1) rfl rfl rfl (by omega) (by omega) (by rw [hi4]; omega) (by unfold maxLen; omega) ?_; intro w2 hown hM hs2; replace hown := hown.mono (fun b _ h => Nat.le_of_eq h.symm); have hB := hM.heap hB0 (fun h => h); have hC := blk_at hB)
                       | (at_builtin; refine wpList_append_l (k := kElem) w1.heap.size rfl _ _ _ rfl i _ Tryz.underlying35 hi1 hi2 hi3 rfl rfl rfl hM.size hown ((hr1.mod0 hM).head (by omega)) (by unfold maxLen; omega) (by rw [hi4]; omega) ?_; clear hown; intro A3 c3 w3 hown hm3 _; replace hM := hM.own hm3 (Nat.le_refl _); replace hB := hm3.heap hB (fun h => absurd h (Nat.not_le.2 hlt)); rw [Nat.zero_add, List.replicate_zero, List.nil_append] at hown; clear hC; have hC := blk_at hB; have tok1 : True := trivial)
                       | (at_builtin; have _t := tok1; refine wpList_append_l (k := kElem) w1.heap.size rfl _ _ _ rfl i _ Tryz.underlying35 hi1 hi2 hi3 rfl rfl rfl (by rw [World.size_alloc]; exact Nat.le_succ_of_le hM.size) (hown.alloc _) (Rd.one (heap_alloc_new _ _) ⟨ch, cl, sq⟩ rfl) (by unfold maxLen; omega) (by rw [hi4]; omega) ?_; clear hown tok1 _t; intro A4 c4 w4 hown hm4 _; replace hB := hm4.heap (blk_alloc hB _) (fun h => absurd h (Nat.not_le.2 hlt)); replace hM := (hM.alloc _).own hm4 (Nat.le_refl _); clear hC; have hC := blk_at hB; have tok2 : True := trivial)
                       | (at_builtin; have _t := tok2; refine wpList_append_l (k := kElem) w1.heap.size rfl _ _ _ rfl i _ Tryz.underlying35 hi1 hi2 hi3 rfl rfl rfl hM.size hown ((hr1.mod0 hM).tail pn (by omega)) (by unfold maxLen; omega) (by rw [hi4]; omega) ?_; clear hown tok2 _t; intro A5 c5 w5 hown hm5 _; replace hM := hM.own hm5 (Nat.le_refl _)))
    all_goals go_ret2
    all_goals exact ⟨_, _, _, rfl, hM0.then0 hM, hown.mono (fun b _ h => Nat.le_trans (Nat.le_of_lt hlt) h)⟩
  · by_cases e2 : k = 2
    · subst e2
      obtain ⟨q1, q2⟩ := h2 rfl
      obtain ⟨pn, rfl⟩ := Int.eq_ofNat_of_zero_le q1
      clear h1 h2 e1
      go_enter Tryz.func12, Tryz.ntmps12
      go_upto_region 1 with fail
      rw [← HW.out]
      clear HW
      go_wp2_with (first | (refine wpList_make_j (k := kElem) rfl _ _ _ rfl i _ ⟨0, 0, 0⟩ Tryz.underlying35 hi1 hi2 hi3 rfl .i64 .i64 0 _ 0 (n + 1) rfl rfl rfl (by omega) (by omega) (by rw [hi4]; omega) (by unfold maxLen; omega) ?_; intro w2 hown hM hs2; replace hown := hown.mono (fun b _ h => Nat.le_of_eq h.symm); have hB := hM.heap hB0 (fun h => h); have hC := blk_at hB)
                         | (at_builtin; refine wpList_append_l (k := kElem) w1.heap.size rfl _ _ _ rfl i _ Tryz.underlying35 hi1 hi2 hi3 rfl rfl rfl hM.size hown ((hr1.mod0 hM).head (by omega)) (by unfold maxLen; omega) (by rw [hi4]; omega) ?_; clear hown; intro A3 c3 w3 hown hm3 _; replace hM := hM.own hm3 (Nat.le_refl _); replace hB := hm3.heap hB (fun h => absurd h (Nat.not_le.2 hlt)); rw [Nat.zero_add, List.replicate_zero, List.nil_append] at hown; clear hC; have hC := blk_at hB; have tok1 : True := trivial)
                         | (at_builtin; have _t := tok1; refine wpList_append_l (k := kElem) w1.heap.size rfl _ _ _ rfl i _ Tryz.underlying35 hi1 hi2 hi3 rfl rfl rfl hM.size hown ((hr1.mod0 hM).tail (pn + 1) (by omega)) (by unfold maxLen; omega) (by rw [hi4]; omega) ?_; clear hown tok1 _t; intro A5 c5 w5 hown hm5 _; replace hM := hM.own hm5 (Nat.le_refl _)))
      all_goals go_ret2
      all_goals exact ⟨_, _, _, rfl, hM0.then0 hM, hown.mono (fun b _ h => Nat.le_trans (Nat.le_of_lt hlt) h)⟩
    · have e0 : k = 0 := by omega
      subst e0
      clear h1 h2 e1 e2
      go_enter Tryz.func12, Tryz.ntmps12
      go_upto_region 1 with fail
      rw [← HW.out]
      clear HW
      go_wp2_with (first | (refine wpList_make_j (k := kElem) rfl _ _ _ rfl i _ ⟨0, 0, 0⟩ Tryz.underlying35 hi1 hi2 hi3 rfl .i64 .i64 0 _ 0 (n + 1) rfl rfl rfl (by omega) (by omega) (by rw [hi4]; omega) (by unfold maxLen; omega) ?_; intro w2 hown hM hs2; replace hown := hown.mono (fun b _ h => Nat.le_of_eq h.symm); have hB := hM.heap hB0 (fun h => h); have hC := blk_at hB)
                         | (at_builtin; refine wpList_append_l (k := kElem) w1.heap.size rfl _ _ _ rfl i _ Tryz.underlying35 hi1 hi2 hi3 rfl rfl rfl hM.size hown (hr1.mod0 hM) (by unfold maxLen; omega) (by rw [hi4]; omega) ?_; clear hown; intro A3 c3 w3 hown hm3 _; replace hM := hM.own hm3 (Nat.le_refl _); replace hB := hm3.heap hB (fun h => absurd h (Nat.not_le.2 hlt)); rw [Nat.zero_add, List.replicate_zero, List.nil_append] at hown; clear hC; have hC := blk_at hB; have tok1 : True := trivial))
      all_goals go_ret2
      all_goals exact ⟨_, _, _, rfl, hM0.then0 hM, hown.mono (fun b _ h => Nat.le_trans (Nat.le_of_lt hlt) h)⟩
end Go.Proofs.YtjojhfphlnfimaaGreatDoor.J
