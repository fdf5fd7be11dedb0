/- The sending half of a link, whatever it holds: Ack, Reset. -/
import Derived.Test.YtjojhfphlnfimaaGreatDoorGc
import Derived.Test.YtjojhfphlnfimaaGreatDoorBox
import Derived.Deep.DeepCutAuto
namespace Go.Proofs.YtjojhfphlnfimaaGreatDoor.J
open Go Go.RowKit
set_option linter.unusedSimpArgs false
set_option linter.unusedVariables false

set_option maxRecDepth 100000 in
set_option maxHeartbeats 2000000 in
theorem ack_old (p : Nat) (win acked sent k : Int) (A : Option Addr) (n c : Nat) (l : List Edit) (S : Nat → Prop) (w : World) (hs : OutAt w p win acked sent A n c l S) (h0 : 0 ≤ k) (h1 : k ≤ sent) (h2 : k ≤ acked) :
    Calls Tryz.prog 58 #[.pointer (some ⟨p, 0, none⟩), .int .i64 k] w fun e w' => e = .returned (.int .i64 0) ∧ w' = w := by
  have hC := blk_at hs.1
  clear hs
  go_enter Tryz.func58, Tryz.ntmps58
  go_wp2
  go_ret
  exact ⟨rfl, rfl⟩

set_option maxRecDepth 100000 in
set_option maxHeartbeats 2000000 in
theorem ack_new (p : Nat) (win acked sent : Int) (j : Nat) (A : Option Addr) (n c : Nat) (l : List Edit) (S : Nat → Prop) (w : World) (hs : OutAt w p win acked sent A n c l S) (h0 : 0 ≤ acked) (h1 : acked + j ≤ sent) (h2 : 1 ≤ j) (h3 : j ≤ n) (hn : n ≤ 4096) (h4 : sent ≤ 4096) :
    Calls Tryz.prog 58 #[.pointer (some ⟨p, 0, none⟩), .int .i64 (acked + j)] w fun e w' => e = .returned (.int .i64 0) ∧
      ∃ A' c', OutAt w' p win (acked + j) sent A' (n - j) c' (l.drop j) (fun b => w.heap.size ≤ b) ∧ Mod (fun b => b = p) w w' := by
  obtain ⟨hB, hO⟩ := hs
  obtain ⟨i, hi1, hi2, hi3, hi4⟩ := info_parts Tryz.infoEdit
  have hC := blk_at hB
  have hF := blk_free hB
  have hplt := blk_lt hB
  have hr := hO.rd
  have hnc := hr.2.1
  have hmx := hr.2.2.1
  unfold maxLen at hmx
  have j0 : (0 : Int) ≤ (j : Int) := by omega
  have hsub : acked + (j : Int) - acked = (j : Int) := by omega
  clear hO
  go_enter Tryz.func58, Tryz.ntmps58
  go_upto_region 4 with (fail)
  refine wp_region_text (by kernel_rfl) (by kernel_rfl) (by kernel_rfl) (by kernel_rfl) ?_
  go_wp2_with (at_builtin; refine wpList_append_l (k := kEdit) (T := 60) w.heap.size rfl _ _ _ rfl i _ Tryz.underlying36 hi1 hi2 hi3 rfl rfl rfl (Nat.le_refl _) (Own.nil _ _ _ _) ((Rd.drew hr).tail j h3) (by unfold maxLen; omega) (by rw [hi4]; omega) ?_; intro A1 c1 w1 hO1 hm1 _; rw [Nat.zero_add, List.nil_append] at hO1; have hB1 := hm1.heap (w := w.drew) hB (fun h => absurd h (Nat.not_le.2 hplt)); have hC1 := blk_at hB1; have hF1 := blk_free hB1)
  all_goals refine ⟨rfl, by kernel_rfl, ?_⟩
  all_goals go_wp2
  all_goals go_ret
  all_goals have hB3 := blk_set (blk_set hB1 3 (.slice A1 (n - j) c1)) 1 (.int .i64 (acked + j))
  all_goals refine ⟨rfl, A1, c1, ⟨hB3, hO1.mod' (M := fun b => b = p) (mod_setO (mod_setO (Mod.refl (fun b => b = p) w1) (.inl rfl)) (.inl rfl)) (fun b _ h1 h2 => by omega) (fun b _ h => h)⟩, mod_setO (mod_setO (Mod.trans (S := fun b => b = p) (T := fun b => w.heap.size ≤ b) ((Mod.refl (fun b => b = p) w).drew) hm1 (fun b hb h => by omega)) (.inl rfl)) (.inl rfl)⟩

set_option maxRecDepth 100000 in
theorem oreset_any (p : Nat) (win acked sent : Int) (A : Option Addr) (n c : Nat) (l : List Edit) (S : Nat → Prop) (w : World) (hs : OutAt w p win acked sent A n c l S) :
    Calls Tryz.prog 88 #[.pointer (some ⟨p, 0, none⟩)] w fun e w' => e = .returned (.tuple #[]) ∧ Mod (fun b => b = p) w w' ∧ OutAt w' p win 0 0 none 0 0 [] S := by
  have hC := blk_at hs.1
  have hF := blk_free hs.1
  have h3 := blk_set (blk_set (blk_set hs.1 3 (.slice none 0 0)) 1 (.int .i64 0)) 2 (.int .i64 0)
  clear hs
  go_enter Tryz.func88, Tryz.ntmps88
  go_wp2
  go_end0
  exact ⟨rfl, mod_setO (mod_setO (mod_setO (Mod.refl (fun b => b = p) w) (.inl rfl)) (.inl rfl)) (.inl rfl), h3, Own.nil _ _ _ _⟩
end Go.Proofs.YtjojhfphlnfimaaGreatDoor.J
