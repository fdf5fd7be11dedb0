/- joined and staged: the stage stands at its beginning. -/
import Derived.Test.YtjojhfphlnfimaaGreatDoorSm
import Derived.Deep.QuietTactic
import Derived.BigQuiet
namespace Go.Proofs.YtjojhfphlnfimaaGreatDoor.J
open Go Go.RowKit
set_option linter.unusedSimpArgs false
set_option linter.unusedVariables false

theorem base_start {w : World} (hT : Tabs w) (hO : OtT w) : Base w w (fun _ => 0) := ⟨hT, hO, Mod.refl No w, fun _ _ => rfl⟩

/-- The client 1, open in the epoch 1. -/
def JoinPost (w0 : World) (e : Ending) (w' : World) : Prop := ∃ p m col, e = .returned (.tuple #[.pointer (some ⟨p, 0, none⟩), .bool true]) ∧ GcAt w' p m g1 col 1 ∧ Base w0 w' col

set_option maxRecDepth 100000 in
set_option maxHeartbeats 4000000 in
theorem gjoined (w : World) (hT : Tabs w) (hO : OtT w) :
    Calls Tryz.prog 8 #[.int .i64 1] w (JoinPost w) ∧ g1.Ok := by
  have hB := base_start hT hO
  have hn := gNew 1 w (fun _ => 0) 1 (by decide) (by decide) (by decide)
  obtain ⟨a1, a2, a3, a4, a5⟩ := epoch_g (g := Gc.new 1) (e := 1) (Gc.new_ok 1 (by decide) (by decide)) rfl (by decide) (by decide) (by decide)
  rw [g1_eq] at a4 a5
  refine ⟨?_, a5⟩
  have hg4 := good_4 (e := 1) (by decide)
  have hg6 := good_6 (e := 1) (a := 0) (by decide) (by decide)
  obtain ⟨G4, hG4⟩ : ∃ G, recvE (Gc.new 1) (m4 1) = G := ⟨_, rfl⟩
  have hnk := Gc.new_ok 1 (by decide) (by decide)
  have ht4 := fun w' p m col' (h' : GcAt w' p m (Gc.new 1) col' 1) (hb : Base w w' col') => told_any (m4 1) (.inl rfl) hg4 p m (Gc.new 1) col' 1 w w' h' hnk hb
  unfold ToldG at ht4
  rw [hG4] at ht4 a2 a3 a4
  have HK4 := Lib.hid a2
  have ht6 := fun w' p m col' (h' : GcAt w' p m G4 col' 1) (hb : Base w w' col') => told_any (m6 1) (.inr (.inr rfl)) hg6 p m G4 col' 1 w w' h' HK4.out hb
  unfold ToldG at ht6
  rw [a4] at ht6
  have hvw := fun w' p m col' (h' : GcAt w' p m g1 col' 1) => gView p m g1 col' 1 w' h' a5
  have e1 : g1.id = 1 := rfl
  have e2 : g1.epoch = 1 := rfl
  have e3 : g1.made = 0 := rfl
  have e4 : g1.hav = 0 := rfl
  have e5 : g1.text.length = 0 := rfl
  have e6 : g1.pending.length = 0 := rfl
  have e7 : g1.ph.opn = true := rfl
  rw [e1, e2, e3, e4, e5, e6, e7] at hvw
  simp only [m4, Msg.v] at ht4
  simp only [m6, Msg.v] at ht6
  have H4 := Lib.hid a1
  have H6 := Lib.hid a3
  have HB := Lib.hid hB
  clear a1 a2 a3 a4 a5 hG4 e1 e2 e3 e4 e5 e6 e7 hT hO hB
  go_enter Tryz.func8, Tryz.ntmps8
  go_upto_region 7 with (first
    | (go_at_call 21; refine hn.mono ?_; rintro e w1 ⟨p, m1, col1, rfl, hC1, hm1, hc1⟩; have HC1 := Lib.hid hC1; have HB1 := Lib.hid (show Base w w1 col1 from ⟨HB.out.tabs, HB.out.ot, hm1, hc1⟩); clear hC1 hc1)
    | (go_at_call 22; refine (num_any _ _).mono ?_; rintro e w' ⟨rfl, rfl⟩)
    | (go_at_call 10; refine (ht4 _ _ _ _ HC1.out HB1.out).mono ?_; rintro en w6 hT6; obtain ⟨_, rfl, mm, col6, hR6⟩ := hT6.resolve_left (fun h9 => h9.1 H4.out); have HR6 := Lib.hid hR6; have HB6 := Lib.hid (HB1.out.run hR6); clear hR6 ht4)
    | (go_at_call 10; refine (ht6 _ _ _ _ HR6.out.at_ HB6.out).mono ?_; rintro en w8 hT8; obtain ⟨_, rfl, mm8, col8, hR8⟩ := hT8.resolve_left (fun h9 => h9.1 H6.out); have HR8 := Lib.hid hR8; have HB8 := Lib.hid (HB6.out.run hR8); clear hR8 ht6)
    | (go_at_call 11; refine (hvw _ _ _ _ HR8.out.at_).mono ?_; rintro e w4 ⟨A4, d4, B4, b4', rfl, hm4, _, _⟩))
  have hX := blk_new w4 (.cells #[.int .i64 1, .int .i64 1, .bool true, .int .i64 0, .int .i64 0, .slice A4 0 d4, .slice B4 0 b4'] 38) rfl
  have hQX := blk_at hX
  refine wp_region_text (by kernel_rfl) (by kernel_rfl) (by kernel_rfl) (by kernel_rfl) ?_
  go_wp2
  refine ⟨rfl, by kernel_rfl, ?_⟩
  go_wp2
  go_ret2
  have hmF : Mod No w8 ((w4.alloc (.cells #[.int .i64 1, .int .i64 1, .bool true, .int .i64 0, .int .i64 0, .slice A4 0 d4, .slice B4 0 b4'] 38)).drew) := (hm4.alloc _).drew
  refine ⟨p, mm8, col8, rfl, HR8.out.at_.keep0 hmF, HB8.out.mod0 hmF⟩

/-- The stage at its beginning. -/
def StagedPost (w0 : World) (e : Ending) (w' : World) : Prop := ∃ q, e = .returned (.tuple #[.pointer (some ⟨q, 0, none⟩), .bool true]) ∧ StPost w0 q w'

set_option maxRecDepth 100000 in
set_option maxHeartbeats 4000000 in
theorem staged_any (w : World) (hT : Tabs w) (hO : OtT w) :
    Calls Tryz.prog 15 #[] w (StagedPost w) := by
  obtain ⟨hj, hk⟩ := gjoined w hT hO
  have HI := Lib.hid (inv_start hk)
  clear hT hO hk
  unfold JoinPost at hj
  go_enter Tryz.func15, Tryz.ntmps15
  go_upto_region 3 with (first
    | (go_at_call 8; refine hj.mono ?_; rintro e w1 ⟨p, m, col, rfl, hC, hB⟩; have HC := Lib.hid hC; have HB := Lib.hid hB; clear hC hB)
    | (go_at_call 34; refine (spNew_ok _ _).mono ?_; rintro e w2 ⟨rfl, rfl⟩))
  have hQ : ((w1.alloc (.cells #[.slice none 0 0, .int .i64 0, .bool true] 102)).alloc (.cells #[.pointer (some ⟨p, 0, none⟩), .pointer (some ⟨w1.heap.size, 0, none⟩), .slice none 0 0, .slice none 0 0, .slice none 0 0, .int .i64 0, .int .i64 0, .int .i64 0, .int .i64 0, .int .i64 1] 54)).heap[w1.heap.size + 1]? = some (.cells #[.pointer (some ⟨p, 0, none⟩), .pointer (some ⟨w1.heap.size, 0, none⟩), .slice none 0 0, .slice none 0 0, .slice none 0 0, .int .i64 0, .int .i64 0, .int .i64 0, .int .i64 0, .int .i64 1] 54 (0, 0)) := blk_new _ _ (by simp)
  have hS : ((w1.alloc (.cells #[.slice none 0 0, .int .i64 0, .bool true] 102)).alloc (.cells #[.pointer (some ⟨p, 0, none⟩), .pointer (some ⟨w1.heap.size, 0, none⟩), .slice none 0 0, .slice none 0 0, .slice none 0 0, .int .i64 0, .int .i64 0, .int .i64 0, .int .i64 0, .int .i64 1] 54)).heap[w1.heap.size]? = some (.cells #[.slice none 0 0, .int .i64 0, .bool true] 102 (0, 0)) := blk_alloc (blk_new _ _ rfl) _
  have hQQ := blk_at hQ
  go_quiet (fail)
  go_wp2
  go_ret2
  refine ⟨w1.heap.size + 1, rfl, ⟨p, m, w1.heap.size, none, 0, none, 0, none, 0, none, 0⟩, s1, fun b => if b = w1.heap.size then 21 else if b = w1.heap.size + 1 then 20 else col b, ?_, HI.out⟩
  have hz := HC.out.hz
  have hmm : Mod No w1 ((w1.alloc (.cells #[.slice none 0 0, .int .i64 0, .bool true] 102)).alloc (.cells #[.pointer (some ⟨p, 0, none⟩), .pointer (some ⟨w1.heap.size, 0, none⟩), .slice none 0 0, .slice none 0 0, .slice none 0 0, .int .i64 0, .int .i64 0, .int .i64 0, .int .i64 0, .int .i64 1] 54)) := ((Mod.refl No w1).alloc _).alloc _
  have hw01 := HB.out.md.size
  have hC2 : GcAt ((w1.alloc (.cells #[.slice none 0 0, .int .i64 0, .bool true] 102)).alloc (.cells #[.pointer (some ⟨p, 0, none⟩), .pointer (some ⟨w1.heap.size, 0, none⟩), .slice none 0 0, .slice none 0 0, .slice none 0 0, .int .i64 0, .int .i64 0, .int .i64 0, .int .i64 0, .int .i64 1] 54)) p m g1 (fun b => if b = w1.heap.size then 21 else if b = w1.heap.size + 1 then 20 else col b) 1 :=
    HC.out.keep hmm (fun _ _ _ _ h => h) (fun b hb => by rw [if_neg (by omega), if_neg (by omega)]) (fun b hb => by
      simp at hb
      rw [if_neg (by omega), if_neg (by omega)]
      exact hz b (by omega))
  have hfin : StAt w ((w1.alloc (.cells #[.slice none 0 0, .int .i64 0, .bool true] 102)).alloc (.cells #[.pointer (some ⟨p, 0, none⟩), .pointer (some ⟨w1.heap.size, 0, none⟩), .slice none 0 0, .slice none 0 0, .slice none 0 0, .int .i64 0, .int .i64 0, .int .i64 0, .int .i64 0, .int .i64 1] 54)) (w1.heap.size + 1) ⟨p, m, w1.heap.size, none, 0, none, 0, none, 0, none, 0⟩ s1 (fun b => if b = w1.heap.size then 21 else if b = w1.heap.size + 1 then 20 else col b) :=
    ⟨⟨HB.out.tabs, HB.out.ot, HB.out.md.then0 hmm, fun b hb => by rw [if_neg (by omega), if_neg (by omega)]; exact HB.out.old b hb⟩, hC2, by rw [if_neg (by omega), if_pos rfl], by rw [if_pos rfl], hQ,
      ⟨hS, Own.nil _ _ _ _⟩, Own.nil _ _ _ _, Own.nil _ _ _ _, Own.nil _ _ _ _⟩
  exact hfin.mod0 ((Mod.refl No _).drewN _)
end Go.Proofs.YtjojhfphlnfimaaGreatDoor.J
