/- The waiting queue of package space: what its calls answer and what becomes of it. -/
import Derived.Test.YtjojhfphlnfimaaGreatDoorDoc
import Derived.Deep.QuietTactic
import Derived.BigQuiet
import Derived.Test.YtjojhfphlnfimaaGreatDoorSeq
namespace Go.Proofs.YtjojhfphlnfimaaGreatDoor.J
open Go Go.RowKit
set_option linter.unusedSimpArgs false
set_option linter.unusedVariables false

theorem Tryz.infoMarked : (Tryz.prog.info? 108).map (fun i => (i.zero, i.size, i.bytes)) = some (some (.agg #[.int .i64 0, .int .i64 0, .int .i64 0, .int .u8 0, .int .i64 0, .int .i64 0]), 6, 48) := by kernel_rfl

/-- A space at block p: its list, its last mark. -/
def SpAt (w : World) (p : Nat) (A : Option Addr) (n c : Nat) (l : List Marked) (last : Int) (first : Bool) (S : Nat → Prop) : Prop :=
  w.heap[p]? = some (.cells #[.slice A n c, .int .i64 last, .bool first] 102 (0, 0)) ∧ Own kMarked 108 w A n c l S

set_option maxRecDepth 100000 in
set_option maxHeartbeats 1000000 in
theorem keep_ok (p : Nat) (A : Option Addr) (n c : Nat) (l : List Marked) (last : Int) (first : Bool) (S : Nat → Prop) (mark : Int) (o : Op) (w : World)
    (hu : o.wf) (hs : SpAt w p A n c l last first S) (hp : ¬ S p) (hv : validE o = 0) (h1 : last < mark) (h2 : mark ≤ 4096) (hn : n ≤ 4096) :
    Calls Tryz.prog 62 #[.pointer (some ⟨p, 0, none⟩), .int .i64 mark, o.v] w fun e w' => e = .returned (.int .i64 0) ∧
      ∃ A' c', SpAt w' p A' (n + 1) c' (l ++ [⟨mark, o⟩]) mark first (fun b => S b ∨ w.heap.size ≤ b) ∧ Mod (fun b => b = p ∨ S b) w w' := by
  have hval := fun w => valid_any o w hu
  rw [hv] at hval
  clear hv
  obtain ⟨hB, hO⟩ := hs
  obtain ⟨i, hi1, hi2, hi3, hi4⟩ := info_parts Tryz.infoMarked
  have hplt := blk_lt hB
  obtain ⟨k, ps, ch, cl, sq⟩ := o
  simp only [Op.v] at *
  go_enter Tryz.func62, Tryz.ntmps62
  go_wp2_with (first | (go_at_call 92; refine (hval _).mono ?_; rintro e w1 ⟨rfl, hm1⟩; have hX := hm1.heap (heap_alloc_new _ _) (fun h => h); have hB1 := hm1.heap (blk_alloc hB _) (fun h => h); have hC := blk_at hB1; have hF := blk_free hB1; have hD := blk_at hX; have hp1 := blk_lt hB1))
  have hO1 := hO.mod0 (((Mod.refl No w).alloc _).then0 hm1)
  refine wp_region_text (by kernel_rfl) (by kernel_rfl) (by kernel_rfl) (by kernel_rfl) ?_
  go_wp2_with (at_builtin; refine wpList_append_j (k := kMarked) (T := 108) (by rfl) _ _ _ (by rfl) i _ Tryz.underlying98 hi1 hi2 hi3 rfl (by rfl) (by rfl) (Own.drew (hO1.alloc _)) (Rd.drew (Rd.one (heap_alloc_new _ _) (⟨mark, ⟨k, ps, ch, cl, sq⟩⟩ : Marked) rfl)) (by unfold maxLen; omega) (by rw [hi4]; omega) ?_; intro A2 c2 w2 hO2 hm2 hs2 _; have hB2 := hm2.heap (blk_alloc hB1 _) hp; have hC2 := blk_at hB2; have hF2 := blk_free hB2)
  refine ⟨rfl, by kernel_rfl, ?_⟩
  go_wp2
  go_ret
  have hpn : ¬ (S p ∨ p = ((w1.alloc (.cells #[.int .i64 mark, .int .i64 k, .int .i64 ps, .int .u8 ch, .int .i64 cl, .int .i64 sq] 108)).drew).heap.size) := by
    rintro (h | h)
    · exact hp h
    · simp at h; omega
  have hsz := hm1.size
  rw [World.size_alloc] at hsz
  refine ⟨rfl, A2, c2, ⟨blk_set (blk_set hB2 0 _) 1 _, ((hO2.setOther hpn _).setOther hpn _).mono fun b hb h => ?_⟩, ?_⟩
  · rcases h with h | h
    · exact .inl h
    · right; simp at h; omega
  · exact ((((((Mod.refl No w).alloc _).then0 hm1).of.alloc _).drew.trans hm2 (fun b _ h => .inr h)).setCell (p := ⟨p, 0, none⟩) (.inl (.inl rfl)) _).setCell (p := ⟨p, 1, none⟩) (.inl (.inl rfl)) _
end Go.Proofs.YtjojhfphlnfimaaGreatDoor.J
