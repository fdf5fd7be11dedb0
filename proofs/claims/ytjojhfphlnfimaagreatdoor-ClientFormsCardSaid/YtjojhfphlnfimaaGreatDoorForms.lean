/- What can be seen of a client, on: Forms; Tick outside an epoch. -/
import Derived.Test.YtjojhfphlnfimaaGreatDoorView
import Derived.Test.YtjojhfphlnfimaaGreatDoorSame
namespace Go.Proofs.YtjojhfphlnfimaaGreatDoor.J
open Go Go.RowKit
set_option linter.unusedSimpArgs false
set_option linter.unusedVariables false

theorem nil_slice (n c : Nat) (w : World) : Sem.run Tryz.prog (binOp .eql 98 (.slice none n c) (.slice none 0 0)) w = .ok (.bool true) w := by kernel_rfl
theorem some_slice (a : Addr) (n c : Nat) (w : World) : Sem.run Tryz.prog (binOp .eql 98 (.slice (some a) n c) (.slice none 0 0)) w = .ok (.bool false) w := by kernel_rfl

set_option maxRecDepth 100000 in
set_option maxHeartbeats 1000000 in
theorem clone_any (A : Option Addr) (n c : Nat) (l : List Marked) (w : World) (hr : Rd kMarked w A n c l) (hn : n ≤ 8192) :
    Calls Tryz.prog 63 #[.slice A n c] w fun e w' => ∃ A' d, e = .returned (.slice A' n d) ∧ Mod No w w' ∧ Own kMarked 108 w' A' n d l (fun b => w.heap.size ≤ b) := by
  obtain ⟨i, hi1, hi2, hi3, hi4⟩ := info_parts Tryz.infoMarked
  have hsn := nil_slice
  have hss := some_slice
  cases A with
  | none =>
    have h0 := hr.2.2.2.1 rfl
    have h1 := hr.2.1
    have hl := hr.1
    have hn0 : n = 0 := by omega
    subst hn0
    have hl0 : l = [] := List.eq_nil_of_length_eq_zero hl.symm
    subst hl0
    clear h0 h1 hl
    go_enter Tryz.func63, Tryz.ntmps63
    go_wp2
    go_ret
    exact ⟨none, 0, rfl, Mod.refl _ _, Own.nil _ _ _ _⟩
  | some a =>
    go_enter Tryz.func63, Tryz.ntmps63
    have hO0 : Own kMarked 108 (w.alloc (.cells #[] 108)) (some ⟨w.heap.size, 0, none⟩) 0 0 [] (fun b => w.heap.size ≤ b) :=
      ⟨rfl, .inr ⟨w.heap.size, 0, #[], by simp, Nat.le_refl _, heap_alloc_new _ _, Nat.le_refl _, by simp [maxLen], by simp, by simp [K.all]⟩⟩
    go_wp2_with (at_builtin; refine wpList_append_l (k := kMarked) (T := 108) w.heap.size rfl _ _ _ rfl i _ Tryz.underlying98 hi1 hi2 hi3 rfl rfl rfl (by simp) hO0 (hr.alloc _) (by unfold maxLen; omega) (by rw [hi4]; omega) ?_; intro A1 c1 w1 hO hm _; rw [Nat.zero_add, List.nil_append] at hO)
    go_ret
    exact ⟨A1, c1, by simp, ((Mod.refl No w).alloc _).own hm (by simp), hO⟩

set_option maxRecDepth 100000 in
theorem queue_any (p : Nat) (A : Option Addr) (n c : Nat) (l : List Marked) (last : Int) (first : Bool) (S : Nat → Prop) (w : World) (hs : SpAt w p A n c l last first S) (hn : n ≤ 8192) :
    Calls Tryz.prog 40 #[.pointer (some ⟨p, 0, none⟩)] w fun e w' => ∃ A' d, e = .returned (.slice A' n d) ∧ Mod No w w' ∧ Own kMarked 108 w' A' n d l (fun b => w.heap.size ≤ b) := by
  have hC := blk_at hs.1
  go_enter Tryz.func40, Tryz.ntmps40
  go_wp2_with (go_at_call 63; refine (clone_any A n c l w hs.2.rd hn).mono ?_; rintro e w1 ⟨A1, d1, rfl, hm1, hO1⟩)
  go_ret
  exact ⟨A1, d1, rfl, hm1, hO1⟩

theorem Tryz.infoOp : (Tryz.prog.info? 32).map (fun i => (i.zero, i.size, i.bytes)) = some (some (.agg #[.int .i64 0, .int .i64 0, .int .u8 0, .int .i64 0, .int .i64 0]), 5, 40) := by kernel_rfl

theorem take_map {α β : Type} (f : α → β) (l : List α) (k : Nat) (x : α) (h : l[k]? = some x) : (l.take k).map f ++ [f x] = (l.take (k + 1)).map f := by
  rw [List.take_add_one, h]; simp

set_option maxRecDepth 100000 in
set_option maxHeartbeats 2000000 in
theorem forms_ok (p : Nat) (m : ClM) (c : Cl) (col : Nat → Nat) (t : Nat) (w : World) (hc : ClAt w p m c col t) (hn : c.forms.length ≤ 8192) :
    Calls Tryz.prog 19 #[.pointer (some ⟨p, 0, none⟩)] w fun e w' => ∃ A d, e = .returned (.slice A c.forms.length d) ∧ Mod No w w' ∧ Own kOp 32 w' A c.forms.length d (c.forms.map (·.op)) (fun b => w.heap.size ≤ b) := by
  have hC := blk_at hc.hp
  simp only [clCells] at hC
  have hC9 := hC 9
  obtain ⟨i, hi1, hi2, hi3, hi4⟩ := info_parts Tryz.infoOp
  obtain ⟨l, hl⟩ : ∃ l, c.forms = l := ⟨_, rfl⟩
  have hsp := hc.hs
  rw [hl] at hsp hn ⊢
  obtain ⟨N, hN⟩ : ∃ N, l.length = N := ⟨_, rfl⟩
  rw [hN] at hsp hn ⊢
  have HN := Lib.hid hN
  clear hN hl
  go_enter Tryz.func19, Tryz.ntmps19
  go_wp2_with (go_at_call 40; refine (queue_any m.ps _ _ _ _ _ _ _ w hsp hn).mono ?_; rintro e w1 ⟨A1, d1, rfl, hm1, hO1⟩)
  have hr1 := hO1.rd
  have hs1 := hm1.size
  go_loopw [3, 14] (fun s3 s14 wr => ∃ (k : Nat) (B : Option Addr) (b : Nat), k ≤ N ∧ s14 = .int .i64 k ∧ s3 = .slice B k b ∧ Own kOp 32 wr B k b ((l.take k).map (·.op)) (fun b => w1.heap.size ≤ b) ∧ Mod No w1 wr) (fun _ s14 _ => N - (intOf s14).toNat)
  case atStart => exact ⟨0, none, 0, Nat.zero_le _, rfl, rfl, by simpa using Own.nil _ _ _ _, Mod.refl _ _⟩
  case round =>
    obtain ⟨k, B, b, hk, rfl, rfl, hO, hM⟩ := hrel
    by_cases hlt : k < N
    · obtain ⟨b0, o0, x, hx, rfl, x1, x2, x3, x4, x5, x6⟩ := (hr1.mod0 hM).marked hlt
      have HX := Lib.hid hx
      clear hx
      have h0 : (0 : Int) ≤ (k : Int) := by omega
      obtain ⟨mk, ⟨k1, k2, k3, k4, k5⟩⟩ := x
      dsimp only at x1 x2 x3 x4 x5 x6
      go_wp2_with (at_builtin; refine wpList_append_l (k := kOp) (T := 32) w1.heap.size rfl _ _ _ rfl i _ Tryz.underlying23 hi1 hi2 hi3 rfl rfl rfl (by have := hM.size; simp; omega) ((hO.alloc _).alloc _) (Rd.one (blk_new _ _ (by simp)) (⟨k1, k2, k3, k4, k5⟩ : Op) rfl) (by unfold maxLen; omega) (by rw [hi4]; omega) ?_; intro A2 c2 w2 hO2 hm2 _)
      go_roundw
      case rel => exact ⟨k + 1, A2, c2, by omega, by go_num, rfl, by rw [← take_map (fun q : Marked => q.op) l k _ HX.out]; exact hO2, ((hM.alloc _).alloc _).own hm2 (Nat.le_refl _)⟩
      case measure => simp [intOf]; omega
    · have hkn : k = N := by omega
      subst hkn
      go_wp2
      go_ret
      exact ⟨B, b, rfl, hm1.then0 hM, by rw [List.take_of_length_le (Nat.le_of_eq HN.out)] at hO; exact hO.mono (fun b _ h => by omega)⟩

theorem msgs_out (v : Value) (w : World) : Calls Tryz.prog 138 #[.agg #[], v] w fun e w' => e = .returned (.slice none 0 0) ∧ Mod No w w' := by
  go_enter Tryz.func138, Tryz.ntmps138
  go_wp2
  go_ret
  exact ⟨rfl, (Mod.refl _ _).alloc _⟩

theorem method_msgs_out (n : Nat) (w : World) : (method (n + 1) 114 (.agg #[]) "jotter/client.messages").run Tryz.prog w = .ok (138, .agg #[]) w := by kernel_rfl

set_option maxRecDepth 100000 in
set_option maxHeartbeats 1000000 in
theorem tick_out (p : Nat) (m : ClM) (c : Cl) (col : Nat → Nat) (t : Nat) (w : World) (hc : ClAt w p m c col t) (hph : c.ph = .iface 114 (.agg #[])) :
    Calls Tryz.prog 23 #[.pointer (some ⟨p, 0, none⟩)] w fun e w' => e = .returned (.slice none 0 0) ∧ Mod No w w' := by
  have hC := blk_at hc.hp
  simp only [clCells, hph] at hC
  clear hph
  have hmo := method_msgs_out
  go_enter Tryz.func23, Tryz.ntmps23
  go_wp2_with (go_at_call 138; refine (msgs_out _ _).mono ?_; rintro e w1 ⟨rfl, hm1⟩)
  go_loopw [3, 15] (fun s3 s15 wr => s3 = .slice none 0 0 ∧ s15 = .int .i64 0 ∧ wr = w1) (fun _ _ _ => 0)
  case atStart => exact ⟨rfl, rfl, rfl⟩
  case round =>
    obtain ⟨rfl, rfl, rfl⟩ := hrel
    go_wp2
    go_ret
    exact ⟨rfl, hm1⟩
end Go.Proofs.YtjojhfphlnfimaaGreatDoor.J
