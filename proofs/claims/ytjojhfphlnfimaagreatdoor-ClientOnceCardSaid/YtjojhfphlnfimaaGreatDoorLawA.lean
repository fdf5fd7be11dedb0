/- The law's own small functions: letter, written, copied, sameBytes. -/
import Derived.Test.YtjojhfphlnfimaaGreatDoorRecv5
import Derived.Test.YtjojhfphlnfimaaGreatDoorPut
import Derived.Test.YtjojhfphlnfimaaGreatDoorSame
namespace Go.Proofs.YtjojhfphlnfimaaGreatDoor.J
open Go Go.RowKit
set_option linter.unusedSimpArgs false
set_option linter.unusedVariables false

def kZ : K Int := ⟨1, fun n => [.int .i64 n], fun _ => rfl, fun a v h => by simp at h; subst h; rfl, by decide⟩
theorem Rd.z {w : World} {A : Option Addr} {n c : Nat} {l : List Int} (h : Rd kZ w A n c l) {i : Nat} (hi : i < n) : ∃ b o, ∃ x : Int, l[i]? = some x ∧ A = some ⟨b, o, none⟩ ∧ w.cell? ⟨b, o + i, none⟩ = some (.int .i64 x) := by
  have hx := List.getElem?_eq_getElem (l := l) (i := i) (by rw [← h.1]; exact hi)
  obtain ⟨b, o, ha, hc⟩ := h.at hx
  exact ⟨b, o, _, hx, ha, by simpa [kZ] using hc 0 _ rfl⟩

theorem letter_any (n : Int) (w : World) : Calls Tryz.prog 29 #[.int .i64 n] w fun e w' => e = .returned (.int .u8 (32 + restE n 95)) ∧ w = w' := by
  have hr := fun w => rest_any n 95 w (by decide) (by decide)
  obtain ⟨h1, h2⟩ := restE_bd n (n := 95) (by decide)
  obtain ⟨r, hr0⟩ : ∃ r, restE n 95 = r := ⟨_, rfl⟩
  rw [hr0] at h1 h2 ⊢
  simp only [hr0] at hr
  clear hr0
  go_enter Tryz.func29, Tryz.ntmps29
  go_wp2_with (go_at_call 9; refine (hr _).mono ?_; rintro e w1 ⟨rfl, rfl⟩)
  go_ret
  exact ⟨rfl, rfl⟩

def recAt (pl : List Int) (i : Nat) : Op := ⟨1, restE (pl.getD i 0) ((i : Int) + 1), 32 + restE i 95, 2, (i : Int) + 1⟩
def recsE (pl : List Int) : List Op := (List.range (min pl.length 64)).map (recAt pl)
theorem recsE_at (pl : List Int) (i : Nat) (h : i < min pl.length 64) : (recsE pl)[i]? = some (recAt pl i) := by
  unfold recsE
  rw [List.getElem?_map, List.getElem?_range h]; rfl
theorem recsE_len (pl : List Int) : (recsE pl).length = min pl.length 64 := by simp [recsE]
theorem recsE_next (pl : List Int) (i : Nat) (h : i < min pl.length 64) : (recsE pl).take (i + 1) = (recsE pl).take i ++ [recAt pl i] := by
  rw [List.take_add_one, recsE_at pl i h]; rfl
theorem recsE_ok (pl : List Int) : recsOk (recsE pl) := by
  refine ⟨by rw [recsE_len]; omega, fun i q hq => ?_⟩
  have hi : i < min pl.length 64 := by have := (List.getElem?_eq_some_iff.1 hq).1; rwa [recsE_len] at this
  rw [recsE_at pl i hi] at hq
  cases hq
  obtain ⟨h1, h2⟩ := restE_bd (pl.getD i 0) (n := (i : Int) + 1) (by omega)
  obtain ⟨h3, h4⟩ := restE_bd (i : Int) (n := 95) (by decide)
  have hv : validE (recAt pl i) = 0 := by
    unfold validE recAt
    dsimp only
    rw [if_neg (by rw [inR_false]; omega), if_neg (by simp only [inR_false]; omega), if_neg (by simp only [inR_false]; omega), if_neg (by simp), if_neg (by rw [if_neg (by decide), inR_false]; omega)]
  refine ⟨⟨by unfold recAt; dsimp only; omega, by unfold recAt; dsimp only; omega⟩, hv, rfl, rfl, rfl, h1, by unfold recAt; dsimp only; omega, ?_⟩
  unfold fitsE
  rw [if_neg (by rw [hv]; simp), if_neg (by simp only [inR_false]; unfold recAt; dsimp only; omega), if_neg (by unfold recAt; dsimp only; omega)]

set_option maxRecDepth 100000 in
set_option maxHeartbeats 2000000 in
theorem written_ok (A : Option Addr) (n c : Nat) (pl : List Int) (w : World) (hr : Rd kZ w A n c pl) :
    Calls Tryz.prog 7 #[.slice A n c] w fun e w' => ∃ B N d, e = .returned (.slice B N d) ∧ Mod No w w' ∧ Own kOp 32 w' B N d (recsE pl) (fun b => w.heap.size ≤ b) := by
  obtain ⟨i, hi1, hi2, hi3, hi4⟩ := info_parts Tryz.infoOpP
  have HN := Lib.hid hr.1
  have hmx := hr.max
  unfold maxLen at hmx
  obtain ⟨bs, hbs⟩ : ∃ b : Nat → List Op, b = fun k => (recsE pl).take k := ⟨_, rfl⟩
  have hb0 : bs 0 = [] := by rw [hbs]; rfl
  have hball : bs (min n 64) = recsE pl := by rw [hbs]; simp only []; rw [List.take_of_length_le]; rw [recsE_len, ← HN.out]; exact Nat.le_refl _
  have hbnx : ∀ k x, k < n → k < 64 → pl[k]? = some x → bs (k + 1) = bs k ++ [(⟨1, restE x ((k : Int) + 1), 32 + restE k 95, 2, (k : Int) + 1⟩ : Op)] := by
    intro k x h1 h2 h3
    rw [hbs]
    simp only []
    rw [recsE_next pl k (by rw [← HN.out]; omega)]
    congr 2
    unfold recAt
    rw [List.getD_eq_getElem?_getD, h3]; rfl
  rw [← hball]
  clear hbs hball
  have HB := Lib.hid hbnx
  clear hbnx
  go_enter Tryz.func7, Tryz.ntmps7
  go_wp2
  go_loopw [3, 4] (fun s3 s4 wr => ∃ (k : Nat) (B : Option Addr) (d : Nat), k ≤ n ∧ k ≤ 64 ∧ s4 = .int .i64 k ∧ s3 = .slice B k d ∧ Own kOp 32 wr B k d (bs k) (fun b => w.heap.size ≤ b) ∧ Mod No w wr) (fun _ s4 _ => 64 - (intOf s4).toNat)
  case atStart => exact ⟨0, none, 0, Nat.zero_le _, Nat.zero_le _, rfl, rfl, by rw [hb0]; exact Own.nil _ _ _ _, Mod.refl _ _⟩
  case round =>
    obtain ⟨k, B, d, hk, hk64, rfl, rfl, hO, hM⟩ := hrel
    have k0 : (0 : Int) ≤ (k : Int) := by omega
    by_cases hlt : k < n
    · by_cases hlt2 : k < 64
      · obtain ⟨b0, o0, x, hx, rfl, x1⟩ := (hr.mod0 hM).z hlt
        have HX := Lib.hid (HB.out k x hlt hlt2 hx)
        have hra := fun w => rest_any x ((k : Int) + 1) w (by omega) (by omega)
        have hle := fun w => letter_any (k : Int) w
        obtain ⟨g1, g2⟩ := restE_bd x (n := (k : Int) + 1) (by omega)
        obtain ⟨g3, g4⟩ := restE_bd (k : Int) (n := 95) (by decide)
        clear hx HB
        obtain ⟨r1, hr1⟩ : ∃ r, restE x ((k : Int) + 1) = r := ⟨_, rfl⟩
        obtain ⟨r2, hr2⟩ : ∃ r, 32 + restE (k : Int) 95 = r := ⟨_, rfl⟩
        rw [hr1] at g1 g2
        rw [hr1, hr2] at HX
        simp only [hr1] at hra
        simp only [hr2] at hle
        have g5 : 32 ≤ r2 ∧ r2 ≤ 126 := by omega
        obtain ⟨g6, g7⟩ := g5
        have hsz := hM.size
        clear hr1 hr2 g3 g4
        go_wp2_with (first
          | (go_at_call 9; refine (hra _).mono ?_; rintro e w1 ⟨rfl, rfl⟩)
          | (go_at_call 29; refine (hle _).mono ?_; rintro e w2 ⟨rfl, rfl⟩)
          | (at_builtin; refine wpList_append_l (k := kOp) (T := 32) w.heap.size rfl _ _ _ rfl i _ Tryz.underlying23 hi1 hi2 hi3 rfl rfl rfl (by simp; omega) (hO.alloc _) (Rd.one (blk_new _ _ rfl) (⟨1, r1, r2, 2, (k : Int) + 1⟩ : Op) rfl) (by unfold maxLen; omega) (by rw [hi4]; omega) ?_; intro A3 c3 w3 hO3 hm3 _))
        go_roundw
        case rel => exact ⟨k + 1, A3, c3, by omega, by omega, by go_num, rfl, by rw [HX.out]; exact hO3, (hM.alloc _).own hm3 (Nat.le_refl _)⟩
        case measure => simp [intOf]; omega
      · obtain rfl : k = 64 := by omega
        go_wp2
        go_ret
        exact ⟨B, 64, d, rfl, hM, by rw [Nat.min_eq_right (by omega)]; exact hO⟩
    · obtain rfl : k = n := by omega
      go_wp2
      go_ret
      exact ⟨B, k, d, rfl, hM, by rw [Nat.min_eq_left (by omega)]; exact hO⟩

set_option maxRecDepth 100000 in
set_option maxHeartbeats 1000000 in
theorem lcopied_any (A : Option Addr) (n c : Nat) (l : List Nat) (w : World) (hr : Rd kB w A n c l) (hn : n ≤ 1000000) :
    Calls Tryz.prog 31 #[.slice A n c] w fun e w' => e = .returned (.slice (some ⟨w.heap.size, 0, none⟩) n n) ∧ Mod No w w' ∧ Own kB 5 w' (some ⟨w.heap.size, 0, none⟩) n n l (fun b => b = w.heap.size) := by
  obtain ⟨i, hi1, hi2, hi3, hi4⟩ := info_parts Tryz.infoB
  have HN := Lib.hid hr.1
  have hnn : (0 : Int) ≤ (n : Int) := by omega
  go_enter Tryz.func31, Tryz.ntmps31
  go_wp2_with (refine wpList_make_j (k := kB) rfl _ _ _ rfl i _ 0 Tryz.underlying75 hi1 hi2 hi3 rfl .i64 .i64 _ _ n n rfl rfl rfl rfl (Nat.le_refl _) (by rw [hi4]; omega) (by unfold maxLen; omega) ?_; intro w2 hown hM2 hs2)
  go_loopw [4] (fun s4 wr => ∃ k : Nat, k ≤ n ∧ s4 = .int .i64 k ∧ Own kB 5 wr (some ⟨w.heap.size, 0, none⟩) n n (fillL l 0 n k) (fun b => b = w.heap.size) ∧ Mod No w wr) (fun s4 _ => n - (intOf s4).toNat)
  case atStart => exact ⟨0, Nat.zero_le _, rfl, by simpa [fillL] using hown, hM2⟩
  case round =>
    obtain ⟨k, hk, rfl, hK, hM⟩ := hrel
    by_cases hlt : k < n
    · obtain ⟨b0, o0, x, hx, rfl, x1⟩ := (hr.mod0 hM).byte hlt
      have HX := Lib.hid hx
      clear hx
      have h0 : (0 : Int) ≤ (k : Int) := by omega
      have y0 := hK.atB (fillL_at HN.out hlt)
      have hF := hK.freeB
      have u1 := hK.setB hlt x
      rw [fillL_set HN.out hlt HX.out] at u1
      have r0 : No w.heap.size ∨ w.heap.size ≤ w.heap.size := .inr (Nat.le_refl _)
      go_wp2
      go_roundw
      case rel => exact ⟨k + 1, by omega, by go_num, u1, mod_setO hM r0⟩
      case measure => simp [intOf]; omega
    · have hkn : k = n := by omega
      subst hkn
      go_wp2
      go_ret
      exact ⟨rfl, hM, by rw [← fillL_all (l := l) (z := 0) HN.out]; exact hK⟩

set_option maxHeartbeats 1000000 in
theorem sameB_ok (A B : Option Addr) (n c d : Nat) (l : List Nat) (w : World) (ha : Rd kB w A n c l) (hb : Rd kB w B n d l) :
    Calls Tryz.prog 33 #[.slice A n c, .slice B n d] w fun e w' => e = .returned (.bool true) ∧ ∃ k, w' = w.drewN k := by
  have hmx := ha.max
  unfold maxLen at hmx
  go_enter Tryz.func33, Tryz.ntmps33
  go_wp2
  go_loopw [5] (fun s5 wr => ∃ k : Nat, k ≤ n ∧ s5 = .int .i64 k ∧ ∃ q, wr = w.drewN q) (fun s5 _ => n - (intOf s5).toNat)
  case atStart => exact ⟨0, Nat.zero_le _, rfl, 0, rfl⟩
  case round =>
    obtain ⟨k, hk, rfl, q, rfl⟩ := hrel
    have k0 : (0 : Int) ≤ (k : Int) := by omega
    by_cases hlt : k < n
    · obtain ⟨b0, o0, x, hx, rfl, x1⟩ := ha.byte hlt
      obtain ⟨b1, o1, y, hy, rfl, y1⟩ := hb.byte hlt
      rw [hx] at hy
      cases hy
      clear hx
      go_wp2
      refine wp_region_text (by kernel_rfl) (by kernel_rfl) (by kernel_rfl) (by kernel_rfl) ?_
      go_wp2
      refine ⟨rfl, by kernel_rfl, ?_⟩
      go_wp2
      go_roundw
      case rel => exact ⟨k + 1, by omega, by go_num, q + 1, rfl⟩
      case measure => simp [intOf]; omega
    · obtain rfl : k = n := by omega
      go_wp2
      go_ret
      exact ⟨rfl, q, rfl⟩
end Go.Proofs.YtjojhfphlnfimaaGreatDoor.J
