/- The queue of package space: its operations alone; one carried past them. -/
import Derived.Test.YtjojhfphlnfimaaGreatDoorPast
import Derived.Test.YtjojhfphlnfimaaGreatDoorSet
import Derived.Test.YtjojhfphlnfimaaGreatDoorCl
namespace Go.Proofs.YtjojhfphlnfimaaGreatDoor.J
open Go Go.RowKit
set_option linter.unusedSimpArgs false
set_option linter.unusedVariables false

theorem Rd.markedC {w : World} {A : Option Addr} {n c : Nat} {l : List Marked} (h : Rd kMarked w A n c l) {i : Nat} (hi : i < n) : ∃ b o, ∃ x : Marked, l[i]? = some x ∧ A = some ⟨b, o, none⟩ ∧
    w.cell? ⟨b, o + i * 6, none⟩ = some (.int .i64 x.mark) ∧ w.cell? ⟨b, o + i * 6 + 1, none⟩ = some (.int .i64 x.op.kind) ∧ w.cell? ⟨b, o + i * 6 + 2, none⟩ = some (.int .i64 x.op.pos) ∧ w.cell? ⟨b, o + i * 6 + 3, none⟩ = some (.int .u8 x.op.ch) ∧ w.cell? ⟨b, o + i * 6 + 4, none⟩ = some (.int .i64 x.op.client) ∧ w.cell? ⟨b, o + i * 6 + 5, none⟩ = some (.int .i64 x.op.seq) := by
  have hx := List.getElem?_eq_getElem (l := l) (i := i) (by rw [← h.1]; exact hi)
  obtain ⟨b, o, ha, hc⟩ := h.at hx
  exact ⟨b, o, _, hx, ha, hc 0 _ rfl, hc 1 _ rfl, hc 2 _ rfl, hc 3 _ rfl, hc 4 _ rfl, hc 5 _ rfl⟩

/-- The first k done, the others still zero. -/
def lineK (l : List Marked) (n k : Nat) : List Op := (l.take k).map (·.op) ++ List.replicate (n - k) ⟨0, 0, 0, 0, 0⟩
theorem lineK_at {l : List Marked} {n k : Nat} (hn : n = l.length) (hk : k < n) : (lineK l n k)[k]? = some ⟨0, 0, 0, 0, 0⟩ := by
  unfold lineK
  have h1 : ((l.take k).map (·.op)).length = k := by rw [List.length_map, List.length_take]; omega
  rw [List.getElem?_append_right (by omega), h1, Nat.sub_self, List.getElem?_replicate, if_pos (by omega)]
theorem lineK_set {l : List Marked} {n k : Nat} (hn : n = l.length) (hk : k < n) {x : Marked} (hx : l[k]? = some x) : (lineK l n k).set k x.op = lineK l n (k + 1) := by
  unfold lineK
  have h1 : ((l.take k).map (·.op)).length = k := by rw [List.length_map, List.length_take]; omega
  rw [List.set_append_right _ _ (by omega), h1, Nat.sub_self]
  rw [show n - k = (n - (k + 1)) + 1 by omega, List.replicate_succ, List.set_cons_zero, List.take_add_one, hx]
  simp
theorem lineK_all {l : List Marked} {n : Nat} (hn : n = l.length) : lineK l n n = l.map (·.op) := by
  unfold lineK
  rw [List.take_of_length_le (by omega), Nat.sub_self]; simp

set_option maxRecDepth 100000 in
set_option maxHeartbeats 2000000 in
theorem line_any (p : Nat) (A : Option Addr) (n c : Nat) (l : List Marked) (last : Int) (first : Bool) (S : Nat → Prop) (w : World) (hs : SpAt w p A n c l last first S) (hn : n ≤ 4096) :
    Calls Tryz.prog 94 #[.pointer (some ⟨p, 0, none⟩)] w fun e w' => ∃ B d, e = .returned (.slice B n d) ∧ Mod No w w' ∧ Own kOp 32 w' B n d (l.map (·.op)) (fun b => w.heap.size ≤ b) := by
  obtain ⟨i, hi1, hi2, hi3, hi4⟩ := info_parts Tryz.infoOpP
  obtain ⟨hp, hO⟩ := hs
  have hr := hO.rd
  have HN := Lib.hid hr.1
  have hC := blk_at hp
  have hplt := blk_lt hp
  have hnn : (0 : Int) ≤ (n : Int) := by omega
  go_enter Tryz.func94, Tryz.ntmps94
  go_wp2_with (refine wpList_make_j (k := kOp) rfl _ _ _ rfl i _ ⟨0, 0, 0, 0, 0⟩ Tryz.underlying23 hi1 hi2 hi3 rfl .i64 .i64 _ _ n n rfl rfl rfl (by omega) (by omega) (by rw [hi4]; omega) (by unfold maxLen; omega) ?_; intro w2 hown hM2 hs2; have hp2 := hM2.heap hp (fun h => h); have hC2 := blk_at hp2)
  go_loopw [17] (fun s17 wr => ∃ k : Nat, k ≤ n ∧ s17 = .int .i64 k ∧ Own kOp 32 wr (some ⟨w.heap.size, 0, none⟩) n n (lineK l n k) (fun b => b = w.heap.size) ∧ Mod No w wr) (fun s17 _ => n - (intOf s17).toNat)
  case atStart => exact ⟨0, Nat.zero_le _, rfl, by simpa [lineK] using hown, hM2⟩
  case round =>
    obtain ⟨k, hk, rfl, hK, hM⟩ := hrel
    by_cases hlt : k < n
    · obtain ⟨b0, o0, x, hx, rfl, x1, x2, x3, x4, x5, x6⟩ := (hr.mod0 hM).markedC hlt
      have HX := Lib.hid hx
      clear hx
      have h0 : (0 : Int) ≤ (k : Int) := by omega
      obtain ⟨mk, ⟨k1, k2, k3, k4, k5⟩⟩ := x
      dsimp only at x1 x2 x3 x4 x5 x6
      obtain ⟨b1, a1, hA1, hz⟩ := hK.rd.at (lineK_at HN.out hlt)
      simp only [Option.some.injEq, Addr.mk.injEq, and_true] at hA1
      obtain ⟨rfl, rfl⟩ := hA1
      have y0 := hz 0 _ rfl
      have y1 := hz 1 _ rfl
      have y2 := hz 2 _ rfl
      have y3 := hz 3 _ rfl
      have y4 := hz 4 _ rfl
      have hF : ∀ j, wr.frozen? ⟨w.heap.size, j, none⟩ = false := by
        rcases hK.2 with ⟨h1, _⟩ | ⟨g, off, cur, h1, h2, h3, _⟩
        · cases h1
        · subst h2
          exact blk_free h3
      simp only [kOp, Op.cs, Nat.zero_add, Nat.add_zero] at y0 y1 y2 y3 y4
      have hltw : w.heap.size < wr.heap.size := hK.blkLt _ rfl
      have e0 := lineK_at HN.out hlt
      have hX0 := hK
      have sg : ∀ (L : List Op) (o : Op), (L.set k o)[k]? = (if k < L.length then some o else none) := fun L o => by rw [List.getElem?_set_self']; split <;> simp_all
      have hL : k < (lineK l n k).length := (List.getElem?_eq_some_iff.1 e0).1
      have u1 := hX0.setAt (j := 0) (x' := ⟨k1, 0, 0, 0, 0⟩) (v := .int .i64 k1) e0 (by decide) rfl rfl
      have u2 := u1.setAt (i := k) (j := 1) (x := ⟨k1, 0, 0, 0, 0⟩) (x' := ⟨k1, k2, 0, 0, 0⟩) (v := .int .i64 k2) (by rw [sg, if_pos hL]) (by decide) rfl rfl
      rw [List.set_set] at u2
      have u3 := u2.setAt (i := k) (j := 2) (x := ⟨k1, k2, 0, 0, 0⟩) (x' := ⟨k1, k2, k3, 0, 0⟩) (v := .int .u8 k3) (by rw [sg, if_pos hL]) (by decide) rfl rfl
      rw [List.set_set] at u3
      have u4 := u3.setAt (i := k) (j := 3) (x := ⟨k1, k2, k3, 0, 0⟩) (x' := ⟨k1, k2, k3, k4, 0⟩) (v := .int .i64 k4) (by rw [sg, if_pos hL]) (by decide) rfl rfl
      rw [List.set_set] at u4
      have u5 := u4.setAt (i := k) (j := 4) (x := ⟨k1, k2, k3, k4, 0⟩) (x' := ⟨k1, k2, k3, k4, k5⟩) (v := .int .i64 k5) (by rw [sg, if_pos hL]) (by decide) rfl rfl
      rw [List.set_set, lineK_set HN.out hlt HX.out] at u5
      simp only [show kOp.sz = 5 from rfl, Nat.zero_add, Nat.add_zero] at u5
      clear u1 u2 u3 u4 hX0 sg hL e0
      have r0 : No w.heap.size ∨ w.heap.size ≤ w.heap.size := .inr (Nat.le_refl _)
      go_wp2
      go_roundw
      case rel => exact ⟨k + 1, by omega, by go_num, u5.alloc _, (mod_setO (mod_setO (mod_setO (mod_setO (mod_setO hM r0) r0) r0) r0) r0).alloc _⟩
      case measure => simp [intOf]; omega
    · have hkn : k = n := by omega
      subst hkn
      go_wp2
      go_ret
      exact ⟨_, _, rfl, hM, by rw [← lineK_all HN.out]; exact hK.mono (fun b _ h => Nat.le_of_eq h.symm)⟩
end Go.Proofs.YtjojhfphlnfimaaGreatDoor.J
