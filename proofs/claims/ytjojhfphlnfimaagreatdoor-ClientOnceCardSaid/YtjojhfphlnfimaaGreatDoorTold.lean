/- told: a datagram is written, read, and written over. -/
import Derived.Test.YtjojhfphlnfimaaGreatDoorLawA
namespace Go.Proofs.YtjojhfphlnfimaaGreatDoor.J
open Go Go.RowKit
set_option linter.unusedSimpArgs false
set_option linter.unusedVariables false

theorem encE_len (m : Msg) : (encE m).length ≤ 25 := by
  unfold encE sealE
  have h1 := bytesE_len m (namedE m.kind)
  have h2 := namedE_len m.kind
  rw [List.length_append, List.length_cons, sumB_len]; omega

theorem Own.exact {α : Type} {k : K α} {T : TypeId} {w : World} {b o n c : Nat} {l : List α} {S : Nat → Prop} (h : Own k T w (some ⟨b, o, none⟩) n c l S) : Own k T w (some ⟨b, o, none⟩) n c l (fun x => x = b) := by
  refine ⟨h.1, ?_⟩
  rcases h.2 with ⟨h1, _⟩ | ⟨g, off, cur, h1, h2, h3⟩
  · cases h1
  · refine .inr ⟨g, off, cur, h1, ?_, h3⟩
    simp only [Option.some.injEq, Addr.mk.injEq, and_true] at h1
    exact h1.1.symm
theorem Own.atB2 {T : TypeId} {w : World} {b o n c : Nat} {l : List Nat} {S : Nat → Prop} (h : Own kB T w (some ⟨b, o, none⟩) n c l S) {i : Nat} {x : Nat} (hx : l[i]? = some x) : w.cell? ⟨b, o + i, none⟩ = some (.int .u8 x) := by
  obtain ⟨b1, a1, hA1, hz⟩ := h.rd.at hx
  simp only [Option.some.injEq, Addr.mk.injEq, and_true] at hA1
  obtain ⟨rfl, rfl⟩ := hA1
  simpa [kB] using hz 0 _ rfl
theorem Own.setB2 {T : TypeId} {w : World} {b o n c : Nat} {l : List Nat} {S : Nat → Prop} (h : Own kB T w (some ⟨b, o, none⟩) n c l S) {i : Nat} (hi : i < n) (x : Nat) : Own kB T (w.setCell ⟨b, o + i, none⟩ (.int .u8 x)) (some ⟨b, o, none⟩) n c (l.set i x) S := by
  have hx := List.getElem?_eq_getElem (l := l) (i := i) (by rw [← h.1]; exact hi)
  have := h.setAt (j := 0) (x' := x) (v := .int .u8 x) hx (by decide) rfl rfl
  simpa [kB] using this

def ToldPost (w : World) (RR : Value → World → World → Prop) (e : Ending) (w' : World) : Prop := ∃ v bv w5 w6 rb, e = .returned (.bool bv) ∧ ((v = .nilIface ∧ bv = true) ∨ ((∃ a, v = .iface 157 (.pointer (some a))) ∧ bv = false)) ∧ RR v w5 w6 ∧ Mod No w w5 ∧ Mod (fun b => b = rb) w6 w' ∧ w.heap.size ≤ rb ∧ rb < w5.heap.size

set_option maxRecDepth 100000 in
set_option maxHeartbeats 8000000 in
theorem told_gen (m : Msg) (hk : m.kind = 1 ∨ m.kind = 2 ∨ m.kind = 3 ∨ m.kind = 4 ∨ m.kind = 5 ∨ m.kind = 6) (hk2 : m.kind ≠ 2) (hg : goodE m) (p : Nat) (w : World) (RR : Value → World → World → Prop)
    (hrecv : ∀ w5 B n c, Mod No w w5 → Rd kB w5 B n c (encE m) → Calls Tryz.prog 32 #[.pointer (some ⟨p, 0, none⟩), .slice B n c] w5 fun e w6 => ∃ v, e = .returned v ∧ (v = .nilIface ∨ ∃ a, v = .iface 157 (.pointer (some a))) ∧ RR v w5 w6 ∧ Mod (fun b => b < w.heap.size) w5 w6) :
    Calls Tryz.prog 10 #[.pointer (some ⟨p, 0, none⟩), m.v] w fun e w' => ToldPost w RR e w' := by
  obtain ⟨i, hi1, hi2, hi3, hi4⟩ := info_parts Tryz.infoB
  have hen := fun w' => rencode_any m hk hk2 hg w'
  have hl25 := encE_len m
  obtain ⟨E, hE⟩ : ∃ E, encE m = E := ⟨_, rfl⟩
  rw [hE] at hl25
  simp only [hE] at hen hrecv
  have hA0 : (w.alloc (.cells m.cs.toArray 34)).heap[w.heap.size]? = some (.cells m.cs.toArray 34 (0, 0)) := blk_new _ _ rfl
  have hM0 : Mod No w (w.alloc (.cells m.cs.toArray 34)) := (Mod.refl No w).alloc _
  clear hE hk hk2 hg
  obtain ⟨k, ep, cl, hv, fi, nu, ac, re, ta, ⟨ok, op, oc, ol, os⟩⟩ := m
  simp only [Msg.v] at hen ⊢
  simp only [Msg.cs] at hA0 hM0
  have hQA := blk_at hA0
  go_enter Tryz.func10, Tryz.ntmps10
  go_wp2_with (first
    | (go_at_call 30; refine (hen _).mono ?_; rintro e w1 ⟨B1, N, d1, rfl, hm1, hO1⟩; have hN25 : N ≤ 25 := (by rw [hO1.1]; exact hl25); have HR1 := Lib.hid hO1.rd; have HBB := Lib.hid hO1.blkLt; have HB2 := Lib.hid hO1.inBlk; have hs1 := hm1.size; have HM1 := Lib.hid (hM0.then0 hm1); have hS1 := HM1.out.size; clear hO1)
    | (go_at_call 31; refine (lcopied_any B1 N d1 E _ HR1.out (by omega)).mono ?_; rintro e w2 ⟨rfl, hm2, hO2⟩; have HO2 := Lib.hid (hO2.mono (S' := fun b => w1.heap.size ≤ b) (fun b _ h => Nat.le_of_eq h.symm)); have hs2 := hm2.size; clear hO2)
    | (at_builtin; refine wpList_append_l (k := kB) (T := 5) w1.heap.size rfl _ _ _ rfl i _ Tryz.underlying75 hi1 hi2 hi3 rfl rfl rfl (by simp; omega) (HO2.out.alloc _) (Rd.block (blk_new _ _ rfl) [250, 251] 2 2 rfl (Nat.le_refl _) (by decide) (fun j u h => by rw [Nat.zero_add, ← Array.getElem?_toList]; exact h)) (by unfold maxLen; omega) (by rw [hi4]; omega) ?_; intro A3 c3 w3 hO3 hm3 _; obtain ⟨rb, oo, x3, _, rfl, _⟩ := hO3.rd.byte (i := 0) (by omega); have hrb1 : w1.heap.size ≤ rb := hO3.inBlk _ rfl; have hrb2 : rb < w3.heap.size := hO3.blkLt _ rfl; have HO3 := Lib.hid hO3; have hs3 := hm3.size; have HM3 := Lib.hid (((HM1.out.then0 hm2).alloc _).own hm3 (by omega)); have HR3 := Lib.hid (((HR1.out.mod0 hm2).alloc (.cells #[.int .u8 250, .int .u8 251] 5)).mod hm3 (fun a ha hb => by have := HBB.out a ha; first | omega | (dsimp only at hb; omega))); clear hO3; have hcap := HO3.out.rd.2.1; have hcmx := HO3.out.rd.2.2.1; unfold maxLen at hcmx; have hH3 := HO3.out.rd.head (p := N) (by omega); have HT3 := Lib.hid (show (E ++ [250, 251]).take N = E from List.take_left' HR1.out.1.symm); rw [HT3.out] at hH3; have HH3 := Lib.hid hH3; clear hH3)
    | (go_at_call 32; refine (hrecv _ _ _ _ HM3.out HH3.out).mono ?_; rintro e w6 ⟨v, rfl, hv, hRR, hm6⟩; have HV := Lib.hid hv; have HRR := Lib.hid hRR; clear hv hRR; have HR6 := Lib.hid (HR3.out.mod hm6 (fun a ha hb => by have h9 := HB2.out a ha; simp only [World.size_alloc] at h9; omega)); have HO6 := Lib.hid (HO3.out.exact.mod hm6 (fun b hb hS hlt => by omega)); have HW6 := Lib.hid (HH3.out.mod hm6 (fun a ha hb => by cases ha; first | omega | (dsimp only at hb; omega))); have y0 := HO6.out.atB2 (i := N) (x := 250) (by rw [List.getElem?_append_right (by rw [← HR1.out.1]; omega), ← HR1.out.1, Nat.sub_self]; rfl); have y1 := HO6.out.atB2 (i := N + 1) (x := 251) (by rw [List.getElem?_append_right (by rw [← HR1.out.1]; omega), ← HR1.out.1, Nat.add_sub_cancel_left]; rfl))
    | (go_at_call 33; refine (sameB_ok B1 _ N d1 c3 E _ HR6.out HW6.out).mono ?_; rintro e w7 ⟨rfl, kk, rfl⟩))
  have HO7 := Lib.hid (HO6.out.drewN kk)
  have hNmx : N ≤ 25 := hN25
  go_loopw [11] (fun s11 wr => ∃ (j : Nat) (lst : List Nat), j ≤ N ∧ s11 = .int .i64 j ∧ Own kB 5 wr (some ⟨rb, oo, none⟩) (N + 2) c3 lst (fun b => b = rb) ∧ Mod (fun b => b = rb) w6 wr) (fun s11 _ => N - (intOf s11).toNat)
  case atStart => exact ⟨0, _, Nat.zero_le _, rfl, HO7.out, (Mod.refl _ _).drewN _⟩
  case round =>
    obtain ⟨j, lst, hj, rfl, hOj, hMj⟩ := hrel
    have j0 : (0 : Int) ≤ (j : Int) := by omega
    by_cases hlt : j < N
    · have hx := List.getElem?_eq_getElem (l := lst) (i := j) (by rw [← hOj.1]; omega)
      have hc := hOj.atB2 hx
      have hF := hOj.freeB
      have hset := hOj.setB2 (i := j) (by omega) 255
      obtain ⟨x, hxe⟩ : ∃ x, lst[j]'(by rw [← hOj.1]; omega) = x := ⟨_, rfl⟩
      rw [hxe] at hc
      clear hx hxe hrecv
      have hMs : Mod (fun b => b = rb) w6 (wr.setCell ⟨rb, oo + j, none⟩ (.int .u8 255)) := mod_setO hMj (.inl rfl)
      go_wp2
      go_roundw
      case rel => exact ⟨j + 1, _, by omega, by go_num, hset, hMs⟩
      case measure => simp [intOf]; omega
    · obtain rfl : j = N := by omega
      clear hrecv
      rcases HV.out with rfl | ⟨a9, rfl⟩
      · go_wp2
        go_ret
        exact ⟨_, true, w3, w6, rb, rfl, .inl ⟨rfl, rfl⟩, HRR.out, HM3.out, hMj, by omega, by omega⟩
      · go_wp2
        go_ret
        exact ⟨_, false, w3, w6, rb, rfl, .inr ⟨⟨a9, rfl⟩, rfl⟩, HRR.out, HM3.out, hMj, by omega, by omega⟩
end Go.Proofs.YtjojhfphlnfimaaGreatDoor.J
