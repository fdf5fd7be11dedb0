/- The sending half of a link (package outbox, of edits): what its calls answer and what becomes of it. -/
import Derived.Test.YtjojhfphlnfimaaGreatDoorDoc
import Derived.Test.YtjojhfphlnfimaaGreatDoorSeq
import Derived.Deep.QuietTactic
import Derived.BigQuiet
namespace Go.Proofs.YtjojhfphlnfimaaGreatDoor.J
open Go Go.RowKit
set_option linter.unusedSimpArgs false
set_option linter.unusedVariables false

theorem Tryz.infoEdit : (Tryz.prog.info? 60).map (fun i => (i.zero, i.size, i.bytes)) = some (some (.agg #[.int .i64 0, .int .i64 0, .int .i64 0, .int .u8 0, .int .i64 0, .int .i64 0]), 6, 48) := by kernel_rfl

/-- An outbox at block p. -/
def OutAt (w : World) (p : Nat) (win acked sent : Int) (A : Option Addr) (n c : Nat) (l : List Edit) (S : Nat → Prop) : Prop :=
  w.heap[p]? = some (.cells #[.int .i64 win, .int .i64 acked, .int .i64 sent, .slice A n c] 145 (0, 0)) ∧ Own kEdit 60 w A n c l S

theorem outNew_ok (w : World) :
    Calls Tryz.prog 41 #[.int .i64 8] w fun e w' => e = .returned (.tuple #[.pointer (some ⟨w.heap.size, 0, none⟩), .int .i64 0]) ∧
      w' = w.alloc (.cells #[.int .i64 8, .int .i64 0, .int .i64 0, .slice none 0 0] 145) := by
  go_enter Tryz.func41, Tryz.ntmps41
  go_wp2
  go_ret2
  exact ⟨rfl, rfl⟩

theorem outLast_any (p : Nat) (win acked sent : Int) (A : Option Addr) (n c : Nat) (w : World) (h0 : 0 ≤ acked) (h1 : acked ≤ 4096) (hn : n ≤ 4096)
    (hB : w.heap[p]? = some (.cells #[.int .i64 win, .int .i64 acked, .int .i64 sent, .slice A n c] 145 (0, 0))) :
    Calls Tryz.prog 101 #[.pointer (some ⟨p, 0, none⟩)] w fun e w' => e = .returned (.int .i64 (acked + n)) ∧ Mod No w w' := by
  have hC := blk_at hB
  go_enter Tryz.func101, Tryz.ntmps101
  go_wp2
  refine wp_region_text (by kernel_rfl) (by kernel_rfl) (by kernel_rfl) (by kernel_rfl) ?_
  go_wp2
  refine ⟨rfl, by kernel_rfl, ?_⟩
  go_wp2
  go_ret
  exact ⟨rfl, (Mod.refl _ _).drew⟩

set_option maxRecDepth 100000 in
set_option maxHeartbeats 1000000 in
theorem outPush_ok (p : Nat) (win acked sent : Int) (A : Option Addr) (n c : Nat) (l : List Edit) (S : Nat → Prop) (x : Edit) (w : World)
    (hs : OutAt w p win acked sent A n c l S) (hp : ¬ S p) (h0 : 0 ≤ acked) (h1 : acked + n < 4096) :
    Calls Tryz.prog 71 #[.pointer (some ⟨p, 0, none⟩), x.v] w fun e w' => e = .returned (.tuple #[.int .i64 (acked + n + 1), .int .i64 0]) ∧
      ∃ A' c', OutAt w' p win acked sent A' (n + 1) c' (l ++ [x]) (fun b => S b ∨ w.heap.size ≤ b) ∧ Mod (fun b => b = p ∨ S b) w w' := by
  obtain ⟨hB, hO⟩ := hs
  obtain ⟨i, hi1, hi2, hi3, hi4⟩ := info_parts Tryz.infoEdit
  have hplt := blk_lt hB
  obtain ⟨t, k, ps, ch, cl, sq⟩ := x
  have hne : (acked + (n : Int) == 4096) = false := by rw [beq_eq_false_iff_ne]; omega
  simp only [Edit.v] at *
  go_enter Tryz.func71, Tryz.ntmps71
  go_wp2_with (go_at_call 101; refine (outLast_any p win acked sent A n c _ h0 (by omega) (by omega) (blk_alloc hB _)).mono ?_; rintro e w1 ⟨rfl, hm1⟩; have hX := hm1.heap (heap_alloc_new _ _) (fun h => h); have hB1 := hm1.heap (blk_alloc hB _) (fun h => h); have hC := blk_at hB1; have hF := blk_free hB1; have hD := blk_at hX; have hp1 := blk_lt hB1)
  have hO1 := hO.mod0 (((Mod.refl No w).alloc _).then0 hm1)
  refine wp_region_text (by kernel_rfl) (by kernel_rfl) (by kernel_rfl) (by kernel_rfl) ?_
  go_wp2_with (at_builtin; refine wpList_append_j (k := kEdit) (T := 60) (by rfl) _ _ _ (by rfl) i _ Tryz.underlying36 hi1 hi2 hi3 rfl (by rfl) (by rfl) (Own.drew (hO1.alloc _)) (Rd.drew (Rd.one (heap_alloc_new _ _) (⟨t, ⟨k, ps, ch, cl, sq⟩⟩ : Edit) rfl)) (by unfold maxLen; omega) (by rw [hi4]; omega) ?_; intro A2 c2 w2 hO2 hm2 hs2 _; have hB2 := hm2.heap (blk_alloc hB1 _) hp; have hC2 := blk_at hB2; have hF2 := blk_free hB2)
  refine ⟨rfl, by kernel_rfl, ?_⟩
  have hB3 := blk_set hB2 3 (.slice A2 (n + 1) c2)
  go_wp2_with (go_at_call 101; refine (outLast_any p win acked sent A2 (n + 1) c2 _ h0 (by omega) (by omega) hB3).mono ?_; rintro e w3 ⟨rfl, hm3⟩)
  go_ret2
  have hpn : ¬ (S p ∨ p = ((w1.alloc (.cells #[.int .i64 t, .int .i64 k, .int .i64 ps, .int .u8 ch, .int .i64 cl, .int .i64 sq] 60)).drew).heap.size) := by
    rintro (h | h)
    · exact hp h
    · simp at h; omega
  have hsz := hm1.size
  rw [World.size_alloc] at hsz
  refine ⟨by rw [show acked + (n : Int) + 1 = acked + ((n + 1 : Nat) : Int) by omega]; rfl, A2, c2, ⟨hm3.heap hB3 (fun h => h), ((hO2.setOther hpn _).mod0 hm3).mono fun b hb h => ?_⟩, ?_⟩
  · rcases h with h | h
    · exact .inl h
    · right; simp at h; omega
  · exact (((((((Mod.refl No w).alloc _).then0 hm1).of.alloc _).drew.trans hm2 (fun b _ h => .inr h)).setCell (p := ⟨p, 3, none⟩) (.inl (.inl rfl)) _)).then0 hm3
end Go.Proofs.YtjojhfphlnfimaaGreatDoor.J
