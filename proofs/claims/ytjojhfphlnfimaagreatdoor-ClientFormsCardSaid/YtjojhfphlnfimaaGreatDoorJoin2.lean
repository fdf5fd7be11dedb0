/- The law's own small functions: rest, num, put. The law's own small functions: letter, written, copied, sameBytes. told: a datagram is written, read, and written over. What can be seen of the client; joined. joined: the client 1, open in the epoch 1. -/
import Derived.Test.YtjojhfphlnfimaaGreatDoorView
import Derived.Test.YtjojhfphlnfimaaGreatDoorSame
import Derived.Deep.DeepCutAuto
import Derived.Test.YtjojhfphlnfimaaGreatDoorRecv5
namespace Go.Proofs.YtjojhfphlnfimaaGreatDoor.J
open Go Go.RowKit
set_option linter.unusedSimpArgs false
set_option linter.unusedVariables false

def restE (a n : Int) : Int := if a.tmod n < 0 then a.tmod n + n else a.tmod n
theorem restE_bd (a : Int) {n : Int} (h : 0 < n) : 0 ≤ restE a n ∧ restE a n < n := by
  unfold restE
  have h1 := Int.tmod_lt_of_pos a h
  have h2 : -n < a.tmod n := by
    have := Int.lt_tmod_of_pos a h
    omega
  split <;> omega

theorem rest_any (a n : Int) (w : World) (h : 0 < n) (h2 : n ≤ 4294967296) : Calls Tryz.prog 9 #[.int .i64 a, .int .i64 n] w fun e w' => e = .returned (.int .i64 (restE a n)) ∧ w = w' := by
  have hb := restE_bd a h
  have hne : (n == 0) = false := beq_eq_false_iff_ne.2 (by omega)
  have hE : restE a n = if a.tmod n < 0 then a.tmod n + n else a.tmod n := rfl
  have h1 := Int.tmod_lt_of_pos a h
  have h3 : -n < a.tmod n := by
    have := Int.lt_tmod_of_pos a h
    omega
  by_cases hlt : a.tmod n < 0
  · rw [if_pos hlt] at hE
    have HE := Lib.hid hE
    clear hE hb
    have w1 : IntKind.i64.wrap (a.tmod n + n) = a.tmod n + n := IntWalk.i64_in _ (by omega)
    go_enter Tryz.func9, Tryz.ntmps9
    go_wp2
    go_ret
    exact ⟨by rw [HE.out]; first | rfl | (simp [*]; done), rfl⟩
  · rw [if_neg hlt] at hE
    have HE := Lib.hid hE
    clear hE hb
    go_enter Tryz.func9, Tryz.ntmps9
    go_wp2
    go_ret
    exact ⟨by rw [HE.out]; first | rfl | (simp [*]; done), rfl⟩

theorem num_any (a : Int) (w : World) : Calls Tryz.prog 22 #[.int .i64 a] w fun e w' => e = .returned (.int .i64 a) ∧ w = w' := by
  go_enter Tryz.func22, Tryz.ntmps22
  go_wp2
  go_ret
  exact ⟨rfl, rfl⟩

set_option maxRecDepth 100000 in
set_option maxHeartbeats 2000000 in
theorem put_ok (A : Option Addr) (n c : Nat) (o : Op) (l : List Elem) (w : World) (hr : Rd kElem w A n c l) (hn : n ≤ 4096) (hk0 : 0 ≤ o.kind) (hk2 : o.kind ≤ 2) (h1 : o.kind = 1 → 0 ≤ o.pos ∧ o.pos ≤ n) (h2 : o.kind = 2 → 0 ≤ o.pos ∧ o.pos < n) :
    Calls Tryz.prog 12 #[.slice A n c, o.v] w fun e w' => ∃ A' n' c', e = .returned (.tuple #[.slice A' n' c', .bool true]) ∧ Mod No w w' ∧ Own kElem 95 w' A' n' c' (applyE l o) (fun b => w.heap.size ≤ b) := by
  obtain ⟨i, hi1, hi2, hi3, hi4⟩ := info_parts Tryz.infoElem
  have hnc := hr.2.1
  obtain ⟨k, p, ch, cl, sq⟩ := o
  simp only [Op.v] at *
  have hL := hr.1
  have HL := Lib.hid hL
  clear hL
  obtain ⟨w1, hw1⟩ : ∃ w1, w1 = w.alloc (.cells #[.int .i64 k, .int .i64 p, .int .u8 ch, .int .i64 cl, .int .i64 sq] 32) := ⟨_, rfl⟩
  have hB0 : w1.heap[w.heap.size]? = some (.cells #[.int .i64 k, .int .i64 p, .int .u8 ch, .int .i64 cl, .int .i64 sq] 32 (0, 0)) := by rw [hw1]; exact heap_alloc_new _ _
  have hlt : w.heap.size < w1.heap.size := by rw [hw1]; simp
  have hM0 : Mod No w w1 := by rw [hw1]; exact (Mod.refl _ _).alloc _
  have hr1 := hr.mod0 hM0
  have HW := Lib.hid hw1
  clear hw1
  by_cases e1 : k = 1
  · subst e1
    obtain ⟨q1, q2⟩ := h1 rfl
    obtain ⟨pn, rfl⟩ := Int.eq_ofNat_of_zero_le q1
    clear h1 h2
    go_enter Tryz.func12, Tryz.ntmps12
    go_upto_region 1 with fail
    rw [← HW.out]
    clear HW
    go_wp2_with (first | (refine wpList_make_j (k := kElem) rfl _ _ _ rfl i _ ⟨0, 0, 0⟩ Tryz.underlying35 hi1 hi2 hi3 rfl .i64 .i64 0 _ 0 (n + 1) rfl rfl rfl (by omega) (by omega) (by rw [hi4]; omega) (by unfold maxLen; omega) ?_; intro w2 hown hM hs2; replace hown := hown.mono (fun b _ h => Nat.le_of_eq h.symm); have hB := hM.heap hB0 (fun h => h); have hC := blk_at hB)
                       | (at_builtin; refine wpList_append_l (k := kElem) w1.heap.size rfl _ _ _ rfl i _ Tryz.underlying35 hi1 hi2 hi3 rfl rfl rfl hM.size hown ((hr1.mod0 hM).head (by omega)) (by unfold maxLen; omega) (by rw [hi4]; omega) ?_; clear hown; intro A3 c3 w3 hown hm3 _; replace hM := hM.own hm3 (Nat.le_refl _); replace hB := hm3.heap hB (fun h => absurd h (Nat.not_le.2 hlt)); rw [Nat.zero_add, List.replicate_zero, List.nil_append] at hown; clear hC; have hC := blk_at hB; have tok1 : True := trivial)
                       | (at_builtin; have _t := tok1; refine wpList_append_l (k := kElem) w1.heap.size rfl _ _ _ rfl i _ Tryz.underlying35 hi1 hi2 hi3 rfl rfl rfl (by rw [World.size_alloc]; exact Nat.le_succ_of_le hM.size) (hown.alloc _) (Rd.one (heap_alloc_new _ _) ⟨ch, cl, sq⟩ rfl) (by unfold maxLen; omega) (by rw [hi4]; omega) ?_; clear hown tok1 _t; intro A4 c4 w4 hown hm4 _; replace hB := hm4.heap (blk_alloc hB _) (fun h => absurd h (Nat.not_le.2 hlt)); replace hM := (hM.alloc _).own hm4 (Nat.le_refl _); clear hC; have hC := blk_at hB; have tok2 : True := trivial)
                       | (at_builtin; have _t := tok2; refine wpList_append_l (k := kElem) w1.heap.size rfl _ _ _ rfl i _ Tryz.underlying35 hi1 hi2 hi3 rfl rfl rfl hM.size hown ((hr1.mod0 hM).tail pn (by omega)) (by unfold maxLen; omega) (by rw [hi4]; omega) ?_; clear hown tok2 _t; intro A5 c5 w5 hown hm5 _; replace hM := hM.own hm5 (Nat.le_refl _)))
    all_goals go_ret2
    all_goals exact ⟨_, _, _, rfl, hM0.then0 hM, hown.mono (fun b _ h => Nat.le_trans (Nat.le_of_lt hlt) h)⟩
  · by_cases e2 : k = 2
    · subst e2
      obtain ⟨q1, q2⟩ := h2 rfl
      obtain ⟨pn, rfl⟩ := Int.eq_ofNat_of_zero_le q1
      clear h1 h2 e1
      go_enter Tryz.func12, Tryz.ntmps12
      go_upto_region 1 with fail
      rw [← HW.out]
      clear HW
      go_wp2_with (first | (refine wpList_make_j (k := kElem) rfl _ _ _ rfl i _ ⟨0, 0, 0⟩ Tryz.underlying35 hi1 hi2 hi3 rfl .i64 .i64 0 _ 0 (n + 1) rfl rfl rfl (by omega) (by omega) (by rw [hi4]; omega) (by unfold maxLen; omega) ?_; intro w2 hown hM hs2; replace hown := hown.mono (fun b _ h => Nat.le_of_eq h.symm); have hB := hM.heap hB0 (fun h => h); have hC := blk_at hB)
                         | (at_builtin; refine wpList_append_l (k := kElem) w1.heap.size rfl _ _ _ rfl i _ Tryz.underlying35 hi1 hi2 hi3 rfl rfl rfl hM.size hown ((hr1.mod0 hM).head (by omega)) (by unfold maxLen; omega) (by rw [hi4]; omega) ?_; clear hown; intro A3 c3 w3 hown hm3 _; replace hM := hM.own hm3 (Nat.le_refl _); replace hB := hm3.heap hB (fun h => absurd h (Nat.not_le.2 hlt)); rw [Nat.zero_add, List.replicate_zero, List.nil_append] at hown; clear hC; have hC := blk_at hB; have tok1 : True := trivial)
                         | (at_builtin; have _t := tok1; refine wpList_append_l (k := kElem) w1.heap.size rfl _ _ _ rfl i _ Tryz.underlying35 hi1 hi2 hi3 rfl rfl rfl hM.size hown ((hr1.mod0 hM).tail (pn + 1) (by omega)) (by unfold maxLen; omega) (by rw [hi4]; omega) ?_; clear hown tok1 _t; intro A5 c5 w5 hown hm5 _; replace hM := hM.own hm5 (Nat.le_refl _)))
      all_goals go_ret2
      all_goals exact ⟨_, _, _, rfl, hM0.then0 hM, hown.mono (fun b _ h => Nat.le_trans (Nat.le_of_lt hlt) h)⟩
    · have e0 : k = 0 := by omega
      subst e0
      clear h1 h2 e1 e2
      go_enter Tryz.func12, Tryz.ntmps12
      go_upto_region 1 with fail
      rw [← HW.out]
      clear HW
      go_wp2_with (first | (refine wpList_make_j (k := kElem) rfl _ _ _ rfl i _ ⟨0, 0, 0⟩ Tryz.underlying35 hi1 hi2 hi3 rfl .i64 .i64 0 _ 0 (n + 1) rfl rfl rfl (by omega) (by omega) (by rw [hi4]; omega) (by unfold maxLen; omega) ?_; intro w2 hown hM hs2; replace hown := hown.mono (fun b _ h => Nat.le_of_eq h.symm); have hB := hM.heap hB0 (fun h => h); have hC := blk_at hB)
                         | (at_builtin; refine wpList_append_l (k := kElem) w1.heap.size rfl _ _ _ rfl i _ Tryz.underlying35 hi1 hi2 hi3 rfl rfl rfl hM.size hown (hr1.mod0 hM) (by unfold maxLen; omega) (by rw [hi4]; omega) ?_; clear hown; intro A3 c3 w3 hown hm3 _; replace hM := hM.own hm3 (Nat.le_refl _); replace hB := hm3.heap hB (fun h => absurd h (Nat.not_le.2 hlt)); rw [Nat.zero_add, List.replicate_zero, List.nil_append] at hown; clear hC; have hC := blk_at hB; have tok1 : True := trivial))
      all_goals go_ret2
      all_goals exact ⟨_, _, _, rfl, hM0.then0 hM, hown.mono (fun b _ h => Nat.le_trans (Nat.le_of_lt hlt) h)⟩
end Go.Proofs.YtjojhfphlnfimaaGreatDoor.J

namespace Go.Proofs.YtjojhfphlnfimaaGreatDoor.J
open Go Go.RowKit
set_option linter.unusedSimpArgs false
set_option linter.unusedVariables false

def kZ : K Int := ⟨1, fun n => [.int .i64 n], fun _ => rfl, fun a v h => by simp at h; subst h; rfl, by decide⟩
theorem Rd.z {w : World} {A : Option Addr} {n c : Nat} {l : List Int} (h : Rd kZ w A n c l) {i : Nat} (hi : i < n) : ∃ b o, ∃ x : Int, l[i]? = some x ∧ A = some ⟨b, o, none⟩ ∧ w.cell? ⟨b, o + i, none⟩ = some (.int .i64 x) := by
  have hx := List.getElem?_eq_getElem (l := l) (i := i) (by rw [← h.1]; exact hi)
  obtain ⟨b, o, ha, hc⟩ := h.at hx
  exact ⟨b, o, _, hx, ha, by simpa [kZ] using hc 0 _ rfl⟩

theorem letter_any (n : Int) (w : World) : Calls Tryz.prog 29 #[.int .i64 n] w fun e w' => e = .returned (.int .u8 (32 + restE n 95)) ∧ w = w' := by
  have hr := fun w => rest_any n 95 w (by decide) (by decide)
  obtain ⟨h1, h2⟩ := restE_bd n (n := 95) (by decide)
  obtain ⟨r, hr0⟩ : ∃ r, restE n 95 = r := ⟨_, rfl⟩
  rw [hr0] at h1 h2 ⊢
  simp only [hr0] at hr
  clear hr0
  go_enter Tryz.func29, Tryz.ntmps29
  go_wp2_with (go_at_call 9; refine (hr _).mono ?_; rintro e w1 ⟨rfl, rfl⟩)
  go_ret
  exact ⟨rfl, rfl⟩

def recAt (pl : List Int) (i : Nat) : Op := ⟨1, restE (pl.getD i 0) ((i : Int) + 1), 32 + restE i 95, 2, (i : Int) + 1⟩
def recsE (pl : List Int) : List Op := (List.range (min pl.length 64)).map (recAt pl)
theorem recsE_at (pl : List Int) (i : Nat) (h : i < min pl.length 64) : (recsE pl)[i]? = some (recAt pl i) := by
  unfold recsE
  rw [List.getElem?_map, List.getElem?_range h]; rfl
theorem recsE_len (pl : List Int) : (recsE pl).length = min pl.length 64 := by simp [recsE]
theorem recsE_next (pl : List Int) (i : Nat) (h : i < min pl.length 64) : (recsE pl).take (i + 1) = (recsE pl).take i ++ [recAt pl i] := by
  rw [List.take_add_one, recsE_at pl i h]; rfl
theorem recsE_ok (pl : List Int) : recsOk (recsE pl) := by
  refine ⟨by rw [recsE_len]; omega, fun i q hq => ?_⟩
  have hi : i < min pl.length 64 := by have := (List.getElem?_eq_some_iff.1 hq).1; rwa [recsE_len] at this
  rw [recsE_at pl i hi] at hq
  cases hq
  obtain ⟨h1, h2⟩ := restE_bd (pl.getD i 0) (n := (i : Int) + 1) (by omega)
  obtain ⟨h3, h4⟩ := restE_bd (i : Int) (n := 95) (by decide)
  have hv : validE (recAt pl i) = 0 := by
    unfold validE recAt
    dsimp only
    rw [if_neg (by rw [inR_false]; omega), if_neg (by simp only [inR_false]; omega), if_neg (by simp only [inR_false]; omega), if_neg (by simp), if_neg (by rw [if_neg (by decide), inR_false]; omega)]
  refine ⟨⟨by unfold recAt; dsimp only; omega, by unfold recAt; dsimp only; omega⟩, hv, rfl, rfl, rfl, h1, by unfold recAt; dsimp only; omega, ?_⟩
  unfold fitsE
  rw [if_neg (by rw [hv]; simp), if_neg (by simp only [inR_false]; unfold recAt; dsimp only; omega), if_neg (by unfold recAt; dsimp only; omega)]

set_option maxRecDepth 100000 in
set_option maxHeartbeats 2000000 in
theorem written_ok (A : Option Addr) (n c : Nat) (pl : List Int) (w : World) (hr : Rd kZ w A n c pl) :
    Calls Tryz.prog 7 #[.slice A n c] w fun e w' => ∃ B N d, e = .returned (.slice B N d) ∧ Mod No w w' ∧ Own kOp 32 w' B N d (recsE pl) (fun b => w.heap.size ≤ b) := by
  obtain ⟨i, hi1, hi2, hi3, hi4⟩ := info_parts Tryz.infoOpP
  have HN := Lib.hid hr.1
  have hmx := hr.max
  unfold maxLen at hmx
  obtain ⟨bs, hbs⟩ : ∃ b : Nat → List Op, b = fun k => (recsE pl).take k := ⟨_, rfl⟩
  have hb0 : bs 0 = [] := by rw [hbs]; rfl
  have hball : bs (min n 64) = recsE pl := by rw [hbs]; simp only []; rw [List.take_of_length_le]; rw [recsE_len, ← HN.out]; exact Nat.le_refl _
  have hbnx : ∀ k x, k < n → k < 64 → pl[k]? = some x → bs (k + 1) = bs k ++ [(⟨1, restE x ((k : Int) + 1), 32 + restE k 95, 2, (k : Int) + 1⟩ : Op)] := by
    intro k x h1 h2 h3
    rw [hbs]
    simp only []
    rw [recsE_next pl k (by rw [← HN.out]; omega)]
    congr 2
    unfold recAt
    rw [List.getD_eq_getElem?_getD, h3]; rfl
  rw [← hball]
  clear hbs hball
  have HB := Lib.hid hbnx
  clear hbnx
  go_enter Tryz.func7, Tryz.ntmps7
  go_wp2
  go_loopw [3, 4] (fun s3 s4 wr => ∃ (k : Nat) (B : Option Addr) (d : Nat), k ≤ n ∧ k ≤ 64 ∧ s4 = .int .i64 k ∧ s3 = .slice B k d ∧ Own kOp 32 wr B k d (bs k) (fun b => w.heap.size ≤ b) ∧ Mod No w wr) (fun _ s4 _ => 64 - (intOf s4).toNat)
  case atStart => exact ⟨0, none, 0, Nat.zero_le _, Nat.zero_le _, rfl, rfl, by rw [hb0]; exact Own.nil _ _ _ _, Mod.refl _ _⟩
  case round =>
    obtain ⟨k, B, d, hk, hk64, rfl, rfl, hO, hM⟩ := hrel
    have k0 : (0 : Int) ≤ (k : Int) := by omega
    by_cases hlt : k < n
    · by_cases hlt2 : k < 64
      · obtain ⟨b0, o0, x, hx, rfl, x1⟩ := (hr.mod0 hM).z hlt
        have HX := Lib.hid (HB.out k x hlt hlt2 hx)
        have hra := fun w => rest_any x ((k : Int) + 1) w (by omega) (by omega)
        have hle := fun w => letter_any (k : Int) w
        obtain ⟨g1, g2⟩ := restE_bd x (n := (k : Int) + 1) (by omega)
        obtain ⟨g3, g4⟩ := restE_bd (k : Int) (n := 95) (by decide)
        clear hx HB
        obtain ⟨r1, hr1⟩ : ∃ r, restE x ((k : Int) + 1) = r := ⟨_, rfl⟩
        obtain ⟨r2, hr2⟩ : ∃ r, 32 + restE (k : Int) 95 = r := ⟨_, rfl⟩
        rw [hr1] at g1 g2
        rw [hr1, hr2] at HX
        simp only [hr1] at hra
        simp only [hr2] at hle
        have g5 : 32 ≤ r2 ∧ r2 ≤ 126 := by omega
        obtain ⟨g6, g7⟩ := g5
        have hsz := hM.size
        clear hr1 hr2 g3 g4
        go_wp2_with (first
          | (go_at_call 9; refine (hra _).mono ?_; rintro e w1 ⟨rfl, rfl⟩)
          | (go_at_call 29; refine (hle _).mono ?_; rintro e w2 ⟨rfl, rfl⟩)
          | (at_builtin; refine wpList_append_l (k := kOp) (T := 32) w.heap.size rfl _ _ _ rfl i _ Tryz.underlying23 hi1 hi2 hi3 rfl rfl rfl (by simp; omega) (hO.alloc _) (Rd.one (blk_new _ _ rfl) (⟨1, r1, r2, 2, (k : Int) + 1⟩ : Op) rfl) (by unfold maxLen; omega) (by rw [hi4]; omega) ?_; intro A3 c3 w3 hO3 hm3 _))
        go_roundw
        case rel => exact ⟨k + 1, A3, c3, by omega, by omega, by go_num, rfl, by rw [HX.out]; exact hO3, (hM.alloc _).own hm3 (Nat.le_refl _)⟩
        case measure => simp [intOf]; omega
      · obtain rfl : k = 64 := by omega
        go_wp2
        go_ret
        exact ⟨B, 64, d, rfl, hM, by rw [Nat.min_eq_right (by omega)]; exact hO⟩
    · obtain rfl : k = n := by omega
      go_wp2
      go_ret
      exact ⟨B, k, d, rfl, hM, by rw [Nat.min_eq_left (by omega)]; exact hO⟩

set_option maxRecDepth 100000 in
set_option maxHeartbeats 1000000 in
theorem lcopied_any (A : Option Addr) (n c : Nat) (l : List Nat) (w : World) (hr : Rd kB w A n c l) (hn : n ≤ 1000000) :
    Calls Tryz.prog 31 #[.slice A n c] w fun e w' => e = .returned (.slice (some ⟨w.heap.size, 0, none⟩) n n) ∧ Mod No w w' ∧ Own kB 5 w' (some ⟨w.heap.size, 0, none⟩) n n l (fun b => b = w.heap.size) := by
  obtain ⟨i, hi1, hi2, hi3, hi4⟩ := info_parts Tryz.infoB
  have HN := Lib.hid hr.1
  have hnn : (0 : Int) ≤ (n : Int) := by omega
  go_enter Tryz.func31, Tryz.ntmps31
  go_wp2_with (refine wpList_make_j (k := kB) rfl _ _ _ rfl i _ 0 Tryz.underlying75 hi1 hi2 hi3 rfl .i64 .i64 _ _ n n rfl rfl rfl rfl (Nat.le_refl _) (by rw [hi4]; omega) (by unfold maxLen; omega) ?_; intro w2 hown hM2 hs2)
  go_loopw [4] (fun s4 wr => ∃ k : Nat, k ≤ n ∧ s4 = .int .i64 k ∧ Own kB 5 wr (some ⟨w.heap.size, 0, none⟩) n n (fillL l 0 n k) (fun b => b = w.heap.size) ∧ Mod No w wr) (fun s4 _ => n - (intOf s4).toNat)
  case atStart => exact ⟨0, Nat.zero_le _, rfl, by simpa [fillL] using hown, hM2⟩
  case round =>
    obtain ⟨k, hk, rfl, hK, hM⟩ := hrel
    by_cases hlt : k < n
    · obtain ⟨b0, o0, x, hx, rfl, x1⟩ := (hr.mod0 hM).byte hlt
      have HX := Lib.hid hx
      clear hx
      have h0 : (0 : Int) ≤ (k : Int) := by omega
      have y0 := hK.atB (fillL_at HN.out hlt)
      have hF := hK.freeB
      have u1 := hK.setB hlt x
      rw [fillL_set HN.out hlt HX.out] at u1
      have r0 : No w.heap.size ∨ w.heap.size ≤ w.heap.size := .inr (Nat.le_refl _)
      go_wp2
      go_roundw
      case rel => exact ⟨k + 1, by omega, by go_num, u1, mod_setO hM r0⟩
      case measure => simp [intOf]; omega
    · have hkn : k = n := by omega
      subst hkn
      go_wp2
      go_ret
      exact ⟨rfl, hM, by rw [← fillL_all (l := l) (z := 0) HN.out]; exact hK⟩

set_option maxHeartbeats 1000000 in
theorem sameB_ok (A B : Option Addr) (n c d : Nat) (l : List Nat) (w : World) (ha : Rd kB w A n c l) (hb : Rd kB w B n d l) :
    Calls Tryz.prog 33 #[.slice A n c, .slice B n d] w fun e w' => e = .returned (.bool true) ∧ ∃ k, w' = w.drewN k := by
  have hmx := ha.max
  unfold maxLen at hmx
  go_enter Tryz.func33, Tryz.ntmps33
  go_wp2
  go_loopw [5] (fun s5 wr => ∃ k : Nat, k ≤ n ∧ s5 = .int .i64 k ∧ ∃ q, wr = w.drewN q) (fun s5 _ => n - (intOf s5).toNat)
  case atStart => exact ⟨0, Nat.zero_le _, rfl, 0, rfl⟩
  case round =>
    obtain ⟨k, hk, rfl, q, rfl⟩ := hrel
    have k0 : (0 : Int) ≤ (k : Int) := by omega
    by_cases hlt : k < n
    · obtain ⟨b0, o0, x, hx, rfl, x1⟩ := ha.byte hlt
      obtain ⟨b1, o1, y, hy, rfl, y1⟩ := hb.byte hlt
      rw [hx] at hy
      cases hy
      clear hx
      go_wp2
      refine wp_region_text (by kernel_rfl) (by kernel_rfl) (by kernel_rfl) (by kernel_rfl) ?_
      go_wp2
      refine ⟨rfl, by kernel_rfl, ?_⟩
      go_wp2
      go_roundw
      case rel => exact ⟨k + 1, by omega, by go_num, q + 1, rfl⟩
      case measure => simp [intOf]; omega
    · obtain rfl : k = n := by omega
      go_wp2
      go_ret
      exact ⟨rfl, q, rfl⟩
end Go.Proofs.YtjojhfphlnfimaaGreatDoor.J

namespace Go.Proofs.YtjojhfphlnfimaaGreatDoor.J
open Go Go.RowKit
set_option linter.unusedSimpArgs false
set_option linter.unusedVariables false

theorem encE_len (m : Msg) : (encE m).length ≤ 25 := by
  unfold encE sealE
  have h1 := bytesE_len m (namedE m.kind)
  have h2 := namedE_len m.kind
  rw [List.length_append, List.length_cons, sumB_len]; omega

theorem Own.exact {α : Type} {k : K α} {T : TypeId} {w : World} {b o n c : Nat} {l : List α} {S : Nat → Prop} (h : Own k T w (some ⟨b, o, none⟩) n c l S) : Own k T w (some ⟨b, o, none⟩) n c l (fun x => x = b) := by
  refine ⟨h.1, ?_⟩
  rcases h.2 with ⟨h1, _⟩ | ⟨g, off, cur, h1, h2, h3⟩
  · cases h1
  · refine .inr ⟨g, off, cur, h1, ?_, h3⟩
    simp only [Option.some.injEq, Addr.mk.injEq, and_true] at h1
    exact h1.1.symm
theorem Own.atB2 {T : TypeId} {w : World} {b o n c : Nat} {l : List Nat} {S : Nat → Prop} (h : Own kB T w (some ⟨b, o, none⟩) n c l S) {i : Nat} {x : Nat} (hx : l[i]? = some x) : w.cell? ⟨b, o + i, none⟩ = some (.int .u8 x) := by
  obtain ⟨b1, a1, hA1, hz⟩ := h.rd.at hx
  simp only [Option.some.injEq, Addr.mk.injEq, and_true] at hA1
  obtain ⟨rfl, rfl⟩ := hA1
  simpa [kB] using hz 0 _ rfl
theorem Own.setB2 {T : TypeId} {w : World} {b o n c : Nat} {l : List Nat} {S : Nat → Prop} (h : Own kB T w (some ⟨b, o, none⟩) n c l S) {i : Nat} (hi : i < n) (x : Nat) : Own kB T (w.setCell ⟨b, o + i, none⟩ (.int .u8 x)) (some ⟨b, o, none⟩) n c (l.set i x) S := by
  have hx := List.getElem?_eq_getElem (l := l) (i := i) (by rw [← h.1]; exact hi)
  have := h.setAt (j := 0) (x' := x) (v := .int .u8 x) hx (by decide) rfl rfl
  simpa [kB] using this

def ToldPost (w : World) (RR : Value → World → World → Prop) (e : Ending) (w' : World) : Prop := ∃ v bv w5 w6 rb, e = .returned (.bool bv) ∧ ((v = .nilIface ∧ bv = true) ∨ ((∃ a, v = .iface 157 (.pointer (some a))) ∧ bv = false)) ∧ RR v w5 w6 ∧ Mod No w w5 ∧ Mod (fun b => b = rb) w6 w' ∧ w.heap.size ≤ rb ∧ rb < w5.heap.size

set_option maxRecDepth 100000 in
set_option maxHeartbeats 8000000 in
theorem told_gen (m : Msg) (hk : m.kind = 1 ∨ m.kind = 2 ∨ m.kind = 3 ∨ m.kind = 4 ∨ m.kind = 5 ∨ m.kind = 6) (hk2 : m.kind ≠ 2) (hg : goodE m) (p : Nat) (w : World) (RR : Value → World → World → Prop)
    (hrecv : ∀ w5 B n c, Mod No w w5 → Rd kB w5 B n c (encE m) → Calls Tryz.prog 32 #[.pointer (some ⟨p, 0, none⟩), .slice B n c] w5 fun e w6 => ∃ v, e = .returned v ∧ (v = .nilIface ∨ ∃ a, v = .iface 157 (.pointer (some a))) ∧ RR v w5 w6 ∧ Mod (fun b => b < w.heap.size) w5 w6) :
    Calls Tryz.prog 10 #[.pointer (some ⟨p, 0, none⟩), m.v] w fun e w' => ToldPost w RR e w' := by
  obtain ⟨i, hi1, hi2, hi3, hi4⟩ := info_parts Tryz.infoB
  have hen := fun w' => rencode_any m hk hk2 hg w'
  have hl25 := encE_len m
  obtain ⟨E, hE⟩ : ∃ E, encE m = E := ⟨_, rfl⟩
  rw [hE] at hl25
  simp only [hE] at hen hrecv
  have hA0 : (w.alloc (.cells m.cs.toArray 34)).heap[w.heap.size]? = some (.cells m.cs.toArray 34 (0, 0)) := blk_new _ _ rfl
  have hM0 : Mod No w (w.alloc (.cells m.cs.toArray 34)) := (Mod.refl No w).alloc _
  clear hE hk hk2 hg
  obtain ⟨k, ep, cl, hv, fi, nu, ac, re, ta, ⟨ok, op, oc, ol, os⟩⟩ := m
  simp only [Msg.v] at hen ⊢
  simp only [Msg.cs] at hA0 hM0
  have hQA := blk_at hA0
  go_enter Tryz.func10, Tryz.ntmps10
  go_wp2_with (first
    | (go_at_call 30; refine (hen _).mono ?_; rintro e w1 ⟨B1, N, d1, rfl, hm1, hO1⟩; have hN25 : N ≤ 25 := (by rw [hO1.1]; exact hl25); have HR1 := Lib.hid hO1.rd; have HBB := Lib.hid hO1.blkLt; have HB2 := Lib.hid hO1.inBlk; have hs1 := hm1.size; have HM1 := Lib.hid (hM0.then0 hm1); have hS1 := HM1.out.size; clear hO1)
    | (go_at_call 31; refine (lcopied_any B1 N d1 E _ HR1.out (by omega)).mono ?_; rintro e w2 ⟨rfl, hm2, hO2⟩; have HO2 := Lib.hid (hO2.mono (S' := fun b => w1.heap.size ≤ b) (fun b _ h => Nat.le_of_eq h.symm)); have hs2 := hm2.size; clear hO2)
    | (at_builtin; refine wpList_append_l (k := kB) (T := 5) w1.heap.size rfl _ _ _ rfl i _ Tryz.underlying75 hi1 hi2 hi3 rfl rfl rfl (by simp; omega) (HO2.out.alloc _) (Rd.block (blk_new _ _ rfl) [250, 251] 2 2 rfl (Nat.le_refl _) (by decide) (fun j u h => by rw [Nat.zero_add, ← Array.getElem?_toList]; exact h)) (by unfold maxLen; omega) (by rw [hi4]; omega) ?_; intro A3 c3 w3 hO3 hm3 _; obtain ⟨rb, oo, x3, _, rfl, _⟩ := hO3.rd.byte (i := 0) (by omega); have hrb1 : w1.heap.size ≤ rb := hO3.inBlk _ rfl; have hrb2 : rb < w3.heap.size := hO3.blkLt _ rfl; have HO3 := Lib.hid hO3; have hs3 := hm3.size; have HM3 := Lib.hid (((HM1.out.then0 hm2).alloc _).own hm3 (by omega)); have HR3 := Lib.hid (((HR1.out.mod0 hm2).alloc (.cells #[.int .u8 250, .int .u8 251] 5)).mod hm3 (fun a ha hb => by have := HBB.out a ha; first | omega | (dsimp only at hb; omega))); clear hO3; have hcap := HO3.out.rd.2.1; have hcmx := HO3.out.rd.2.2.1; unfold maxLen at hcmx; have hH3 := HO3.out.rd.head (p := N) (by omega); have HT3 := Lib.hid (show (E ++ [250, 251]).take N = E from List.take_left' HR1.out.1.symm); rw [HT3.out] at hH3; have HH3 := Lib.hid hH3; clear hH3)
    | (go_at_call 32; refine (hrecv _ _ _ _ HM3.out HH3.out).mono ?_; rintro e w6 ⟨v, rfl, hv, hRR, hm6⟩; have HV := Lib.hid hv; have HRR := Lib.hid hRR; clear hv hRR; have HR6 := Lib.hid (HR3.out.mod hm6 (fun a ha hb => by have h9 := HB2.out a ha; simp only [World.size_alloc] at h9; omega)); have HO6 := Lib.hid (HO3.out.exact.mod hm6 (fun b hb hS hlt => by omega)); have HW6 := Lib.hid (HH3.out.mod hm6 (fun a ha hb => by cases ha; first | omega | (dsimp only at hb; omega))); have y0 := HO6.out.atB2 (i := N) (x := 250) (by rw [List.getElem?_append_right (by rw [← HR1.out.1]; omega), ← HR1.out.1, Nat.sub_self]; rfl); have y1 := HO6.out.atB2 (i := N + 1) (x := 251) (by rw [List.getElem?_append_right (by rw [← HR1.out.1]; omega), ← HR1.out.1, Nat.add_sub_cancel_left]; rfl))
    | (go_at_call 33; refine (sameB_ok B1 _ N d1 c3 E _ HR6.out HW6.out).mono ?_; rintro e w7 ⟨rfl, kk, rfl⟩))
  have HO7 := Lib.hid (HO6.out.drewN kk)
  have hNmx : N ≤ 25 := hN25
  go_loopw [11] (fun s11 wr => ∃ (j : Nat) (lst : List Nat), j ≤ N ∧ s11 = .int .i64 j ∧ Own kB 5 wr (some ⟨rb, oo, none⟩) (N + 2) c3 lst (fun b => b = rb) ∧ Mod (fun b => b = rb) w6 wr) (fun s11 _ => N - (intOf s11).toNat)
  case atStart => exact ⟨0, _, Nat.zero_le _, rfl, HO7.out, (Mod.refl _ _).drewN _⟩
  case round =>
    obtain ⟨j, lst, hj, rfl, hOj, hMj⟩ := hrel
    have j0 : (0 : Int) ≤ (j : Int) := by omega
    by_cases hlt : j < N
    · have hx := List.getElem?_eq_getElem (l := lst) (i := j) (by rw [← hOj.1]; omega)
      have hc := hOj.atB2 hx
      have hF := hOj.freeB
      have hset := hOj.setB2 (i := j) (by omega) 255
      obtain ⟨x, hxe⟩ : ∃ x, lst[j]'(by rw [← hOj.1]; omega) = x := ⟨_, rfl⟩
      rw [hxe] at hc
      clear hx hxe hrecv
      have hMs : Mod (fun b => b = rb) w6 (wr.setCell ⟨rb, oo + j, none⟩ (.int .u8 255)) := mod_setO hMj (.inl rfl)
      go_wp2
      go_roundw
      case rel => exact ⟨j + 1, _, by omega, by go_num, hset, hMs⟩
      case measure => simp [intOf]; omega
    · obtain rfl : j = N := by omega
      clear hrecv
      rcases HV.out with rfl | ⟨a9, rfl⟩
      · go_wp2
        go_ret
        exact ⟨_, true, w3, w6, rb, rfl, .inl ⟨rfl, rfl⟩, HRR.out, HM3.out, hMj, by omega, by omega⟩
      · go_wp2
        go_ret
        exact ⟨_, false, w3, w6, rb, rfl, .inr ⟨⟨a9, rfl⟩, rfl⟩, HRR.out, HM3.out, hMj, by omega, by omega⟩
end Go.Proofs.YtjojhfphlnfimaaGreatDoor.J

namespace Go.Proofs.YtjojhfphlnfimaaGreatDoor.J
open Go Go.RowKit
set_option linter.unusedSimpArgs false
set_option linter.unusedVariables false

set_option maxRecDepth 100000 in
set_option maxHeartbeats 1000000 in
theorem doc_oc (p po pi pm ps : Nat) (o : Oc) (cum : Int) (l : List (Int × Op)) (R : List Value) (w : World) (h : OcAt w p po pi pm ps o cum l R) (hn : o.text.length ≤ 4096) :
    Calls Tryz.prog 14 #[.pointer (some ⟨p, 0, none⟩)] w fun e w' => ∃ A d, e = .returned (.slice A o.text.length d) ∧ Mod No w w' ∧ Own kElem 95 w' A o.text.length d o.text (fun b => w.heap.size ≤ b) := by
  have hC := blk_at h.hp
  have hT := h.ht
  obtain ⟨ph, ep, hav, base, tA, tc, text, s2⟩ := o
  unfold ocL at hC
  dsimp only at hC hT hn ⊢
  obtain ⟨i, hi1, hi2, hi3, hi4⟩ := info_parts Tryz.infoElem
  clear h
  go_enter Tryz.func14, Tryz.ntmps14
  go_wp2_with (at_builtin; refine wpList_append_l (k := kElem) (T := 95) w.heap.size rfl _ _ _ rfl i _ Tryz.underlying35 hi1 hi2 hi3 rfl rfl rfl (Nat.le_refl _) (Own.nil _ _ _ _) hT (by unfold maxLen; omega) (by rw [hi4]; omega) ?_; intro A1 c1 w1 hO hm _; rw [Nat.zero_add, List.nil_append] at hO)
  go_ret
  exact ⟨A1, c1, by simp, (Mod.refl No w).own hm (Nat.le_refl _), hO⟩

set_option maxRecDepth 100000 in
set_option maxHeartbeats 1000000 in
theorem pending_oc (p po pi pm ps : Nat) (o : Oc) (cum : Int) (l : List (Int × Op)) (R : List Value) (w : World) (h : OcAt w p po pi pm ps o cum l R) :
    Calls Tryz.prog 20 #[.pointer (some ⟨p, 0, none⟩)] w fun e w' => ∃ A d, e = .returned (.slice A 0 d) ∧ Mod No w w' := by
  have hC := blk_at h.hp
  obtain ⟨ph, ep, hav, base, tA, tc, text, s2⟩ := o
  unfold ocL at hC
  dsimp only at hC
  obtain ⟨i, hi1, hi2, hi3, hi4⟩ := info_parts Tryz.infoEdit
  clear h
  go_enter Tryz.func20, Tryz.ntmps20
  go_wp2_with (at_builtin; refine wpList_append_l (k := kEdit) (T := 60) w.heap.size rfl _ _ _ rfl i _ Tryz.underlying36 hi1 hi2 hi3 rfl rfl rfl (Nat.le_refl _) (Own.nil _ _ _ _) (Rd.nil _ _) (by unfold maxLen; omega) (by rw [hi4]; omega) ?_; intro A1 c1 w1 hO hm _)
  go_ret
  exact ⟨⟨A1, c1, rfl⟩, (Mod.refl No w).own hm (Nat.le_refl _)⟩

theorem open_joined (w : World) : Calls Tryz.prog 141 #[.agg #[]] w fun e w' => e = .returned (.bool true) ∧ Mod No w w' := by
  go_enter Tryz.func141, Tryz.ntmps141
  go_wp2
  go_ret
  exact ⟨rfl, (Mod.refl _ _).alloc _⟩
theorem method_open_joined (n : Nat) (w : World) : (method (n + 1) 136 (.agg #[]) "jotter/client.open").run Tryz.prog w = .ok (141, .agg #[]) w := by kernel_rfl

set_option maxRecDepth 100000 in
set_option maxHeartbeats 2000000 in
theorem view_joined (p po pi pm ps : Nat) (o : Oc) (cum : Int) (l : List (Int × Op)) (R : List Value) (w : World) (h : OcAt w p po pi pm ps o cum l R) (hn : o.text.length ≤ 4096) (hph : o.ph = .iface 136 (.agg #[])) :
    Calls Tryz.prog 11 #[.pointer (some ⟨p, 0, none⟩)] w fun e w' => ∃ A d B b, e = .returned (.agg #[.int .i64 1, .int .i64 o.ep, .bool true, .int .i64 0, .int .i64 o.hav, .slice A o.text.length d, .slice B 0 b]) ∧ Mod No w w' := by
  have hC := blk_at h.hp
  have hdo := fun w' (h' : OcAt w' p po pi pm ps o cum l R) => doc_oc p po pi pm ps o cum l R w' h' hn
  have hpe := fun w' (h' : OcAt w' p po pi pm ps o cum l R) => pending_oc p po pi pm ps o cum l R w' h'
  have HH := Lib.hid h
  have hplt := blk_lt h.hp
  clear h
  obtain ⟨ph, ep, hav, base, tA, tc, text, s2⟩ := o
  dsimp only at hph hdo ⊢
  subst hph
  unfold ocL at hC
  dsimp only at hC
  have hmo := method_open_joined
  go_enter Tryz.func11, Tryz.ntmps11
  go_wp2
  refine wp_region_seg ([0, 1, 2, 3, 4, 5, 6, 7, 8, 9, 10, 11, 13, 14, 15, 16, 17, 18, 19, 20, 21, 23].map (·, false) ++ [(12, true), (22, true), (24, true), (25, false), (26, false)]) (by kernel_rfl) (by kernel_rfl) (by kernel_rfl) (by kernel_rfl) ?_
  simp only [List.map_cons, List.map_nil, List.cons_append, List.nil_append, List.filterMap_cons, List.filterMap_nil, pick, List.getElem?_toArray, List.getElem?_cons_zero, List.getElem?_cons_succ, Option.map_some]
  refine wpSeg_cut (fun e a w h => h.1) [_, _, _, _, _, _, _, _, _, _, _, _, _, _, _, _, _, _, _, _, _, _] _ _ _ ?_
  go_wp2
  refine wpSeg_mark rfl ?_
  go_wp2_with (go_at_call 141; refine (open_joined _).mono ?_; rintro e w1 ⟨rfl, hm1⟩; refine ⟨hm1.old, ?_⟩)
  have hM1 : Mod No w w1 := ((Mod.refl No w).alloc _).drew.then0 hm1
  refine wpSeg_mark rfl ?_
  go_wp2_with (go_at_call 14; refine (hdo _ (HH.out.mod0 hM1)).mono ?_; rintro e w2 ⟨A, d, rfl, hm2, hO2⟩; refine ⟨hm2.old, ?_⟩)
  refine wpSeg_mark rfl ?_
  go_wp2_with (go_at_call 20; refine (hpe _ (HH.out.mod0 (hM1.then0 hm2))).mono ?_; rintro e w3 ⟨B, b, rfl, hm3⟩; refine ⟨hm3.old, ?_⟩)
  have hR1 := hm1.heap (b := w.heap.size) (blk_new _ _ rfl) (fun h => h)
  have hR3 := hm3.heap (hm2.heap hR1 (fun h => h)) (fun h => h)
  have hQ3 := blk_at hR3
  have hQf := blk_free hR3
  refine wpSeg_rest [_, _] ?_
  go_wp2
  refine ⟨rfl, by kernel_rfl, ?_⟩
  go_wp2
  refine bodyPost_ret (v := .agg #[.int .i64 1, .int .i64 ep, .bool true, .int .i64 0, .int .i64 hav, .slice A text.length d, .slice B 0 b]) (by simp [results, Tryz.results11, go_sem, hQ3, hQf]) rfl ⟨A, d, B, b, rfl, ?_⟩
  have r0 : No w.heap.size ∨ w.heap.size ≤ w.heap.size := .inr (Nat.le_refl _)
  exact mod_set (mod_set (mod_set (mod_set (mod_set (mod_set (mod_set ((hM1.then0 hm2).then0 hm3) r0) r0) r0) r0) r0) r0) r0
end Go.Proofs.YtjojhfphlnfimaaGreatDoor.J

namespace Go.Proofs.YtjojhfphlnfimaaGreatDoor.J
open Go Go.RowKit
set_option linter.unusedSimpArgs false
set_option linter.unusedVariables false

def oc0 : Oc := ⟨.iface 114 (.agg #[]), 0, 0, 0, none, 0, [], 0⟩
set_option maxRecDepth 100000 in
set_option maxHeartbeats 1000000 in
theorem newOc_ok (w : World) :
    Calls Tryz.prog 21 #[.int .i64 1] w fun e w' => ∃ p po pi pm ps, e = .returned (.tuple #[.pointer (some ⟨p, 0, none⟩), .int .i64 0]) ∧ OcAt w' p po pi pm ps oc0 0 [] ocR ∧ Mod No w w' ∧ w.heap.size ≤ p ∧ w.heap.size ≤ po ∧ w.heap.size ≤ pi ∧ w.heap.size ≤ pm ∧ w.heap.size ≤ ps := by
  have hz := zero_Client
  go_enter Tryz.func21, Tryz.ntmps21
  go_wp2_with (first | (go_at_call 41; refine (outNew_ok _).mono ?_; rintro e w1 ⟨rfl, rfl⟩) | (go_at_call 42; refine (inNew_ok _).mono ?_; rintro e w1 ⟨rfl, rfl⟩) | (go_at_call 34; refine (spNew_ok _ _).mono ?_; rintro e w1 ⟨rfl, rfl⟩))
  go_ret2
  clear hz
  refine ⟨w.heap.size + 1 + 1 + 1 + 1, w.heap.size, w.heap.size + 1 + 1, w.heap.size + 1, w.heap.size + 1 + 1 + 1, rfl, ?_, (((((Mod.refl _ _).alloc _).alloc _).alloc _).alloc _).alloc _, by omega, by omega, by omega, by omega, by omega⟩
  refine { hp := ?_, ho := ?_, hi := ⟨?_, #[], 0, ?_, heldOk.nil⟩, hs := ?_, ht := Rd.nil _ _, hb := fun a ha => (nomatch ha), dd := by omega }
  · exact blk_new _ _ (by simp)
  · exact blk_alloc (blk_alloc (blk_alloc (blk_alloc (blk_new _ _ rfl) _) _) _) _
  · exact blk_alloc (blk_alloc (blk_new _ _ (by simp)) _) _
  · exact blk_alloc (blk_alloc (blk_alloc (blk_new _ _ (by simp)) _) _) _
  · exact blk_alloc (blk_new _ _ (by simp)) _

/-- The three tables stand in their variables. -/
structure Tabs (w : World) : Prop where
  oc : OcT w
  ws : WsT w
  sh : WshT w
theorem Tabs.mod0 {w w' : World} (h : Tabs w) (hm : Mod No w w') : Tabs w' := ⟨h.oc.mod hm (fun h => h), h.ws.mod hm (fun h => h), h.sh.mod0 hm⟩

theorem OcAt.beside' {w6 w' : World} {p po pi pm ps rb B : Nat} {o : Oc} {cum : Int} {l : List (Int × Op)} {R : List Value} (h : OcAt w6 p po pi pm ps o cum l R) (hm : Mod (fun b => b = rb) w6 w') (hrb : B ≤ rb) (hl : p < B ∧ po < B ∧ pi < B ∧ pm < B ∧ ps < B) (ht : inBlk o.tA (fun b => b ≠ rb) ∨ o.text = []) : OcAt w' p po pi pm ps o cum l R :=
  h.beside hm (by omega) (by omega) (by omega) (by omega) (by omega) ht

set_option maxRecDepth 100000 in
set_option maxHeartbeats 4000000 in
theorem joined_ok (w : World) (hT : Tabs w) :
    Calls Tryz.prog 8 #[.int .i64 1] w fun e w' => ∃ p po pi pm ps, e = .returned (.tuple #[.pointer (some ⟨p, 0, none⟩), .bool true]) ∧ OcAt w' p po pi pm ps ⟨.iface 136 (.agg #[]), 1, 0, 0, none, 0, [], 0⟩ 0 [] ocR ∧ Mod No w w' ∧ w.heap.size ≤ p ∧ w.heap.size ≤ po ∧ w.heap.size ≤ pi ∧ w.heap.size ≤ pm ∧ w.heap.size ≤ ps := by
  have hg4 : goodE ⟨4, 1, 1, 0, 0, 0, 0, 0, 0, ⟨0, 0, 0, 0, 0⟩⟩ := by
    intro f h1 h2
    have : f = 1 ∨ f = 2 ∨ f = 3 ∨ f = 4 ∨ f = 5 ∨ f = 6 ∨ f = 7 ∨ f = 8 ∨ f = 9 ∨ f = 10 ∨ f = 11 ∨ f = 12 ∨ f = 13 := by omega
    rcases this with rfl | rfl | rfl | rfl | rfl | rfl | rfl | rfl | rfl | rfl | rfl | rfl | rfl
    all_goals simp [namedE, holdsE, fromE, toE, Msg.get]
  have hg6 : goodE ⟨6, 1, 1, 0, 0, 0, 0, 0, 0, ⟨0, 0, 0, 0, 0⟩⟩ := by
    intro f h1 h2
    have : f = 1 ∨ f = 2 ∨ f = 3 ∨ f = 4 ∨ f = 5 ∨ f = 6 ∨ f = 7 ∨ f = 8 ∨ f = 9 ∨ f = 10 ∨ f = 11 ∨ f = 12 ∨ f = 13 := by omega
    rcases this with rfl | rfl | rfl | rfl | rfl | rfl | rfl | rfl | rfl | rfl | rfl | rfl | rfl
    all_goals simp [namedE, holdsE, fromE, toE, Msg.get]
  have ht4 : ∀ p po pi pm ps w1, OcAt w1 p po pi pm ps oc0 0 [] ocR → Tabs w1 → Calls Tryz.prog 10 #[.pointer (some ⟨p, 0, none⟩), (⟨4, 1, 1, 0, 0, 0, 0, 0, 0, ⟨0, 0, 0, 0, 0⟩⟩ : Msg).v] w1 fun e w2 => e = .returned (.bool true) ∧ OcAt w2 p po pi pm ps { oc0 with ep := 1, ph := .iface 170 (.agg #[]), base := 0 } 0 [] ocR ∧ Mod (fun b => b = p ∨ b = pi ∨ b = pm ∨ b = po) w1 w2 := by
    intro p po pi pm ps w1 hO hTb
    have l1 := blk_lt hO.hp
    have l2 := blk_lt hO.ho
    have l3 := blk_lt hO.hi.1
    have l4 : pm < w1.heap.size := by obtain ⟨es, ck, hmm, _⟩ := hO.hi.2; exact blk_lt hmm
    have l5 := blk_lt hO.hs
    refine (told_gen _ (by simp) (by simp) hg4 p w1 (fun v w5 w6 => v = .nilIface ∧ OcAt w6 p po pi pm ps { oc0 with ep := 1, ph := .iface 170 (.agg #[]), base := 0 } 0 [] ocR ∧ Mod (fun b => b = p ∨ b = pi ∨ b = pm ∨ b = po) w5 w6) ?_).mono ?_
    · intro w5 B n c hm5 hr5
      refine (recv4 _ rfl p po pi pm ps oc0 0 [] ocR B n c w5 (hO.mod0 hm5) rfl hr5 hg4 (hTb.mod0 hm5).oc (hTb.mod0 hm5).ws (hTb.mod0 hm5).sh).mono ?_
      rintro e w6 ⟨rfl, h6, hm6⟩
      exact ⟨_, rfl, .inl rfl, ⟨rfl, h6, hm6⟩, hm6.mono (fun b _ h => by omega)⟩
    · rintro e w' ⟨v, bv, w5, w6, rb, rfl, hv, ⟨rfl, h6, hm6⟩, hm5, hm7, hr1, hr2⟩
      have hbv : bv = true := by rcases hv with ⟨_, h⟩ | ⟨⟨a, h⟩, _⟩; exact h; cases h
      subst hbv
      exact ⟨rfl, h6.beside' (B := w1.heap.size) hm7 hr1 ⟨l1, l2, l3, l4, l5⟩ (.inr rfl), ((Mod.of hm5).trans hm6 (fun b hb h => h)).trans hm7 (fun b hb h => by omega)⟩
  have ht6 : ∀ p po pi pm ps w1, OcAt w1 p po pi pm ps { oc0 with ep := 1, ph := .iface 170 (.agg #[]), base := 0 } 0 [] ocR → Tabs w1 → Calls Tryz.prog 10 #[.pointer (some ⟨p, 0, none⟩), (⟨6, 1, 1, 0, 0, 0, 0, 0, 0, ⟨0, 0, 0, 0, 0⟩⟩ : Msg).v] w1 fun e w2 => e = .returned (.bool true) ∧ OcAt w2 p po pi pm ps ⟨.iface 136 (.agg #[]), 1, 0, 0, none, 0, [], 0⟩ 0 [] ocR ∧ Mod (fun b => b = p ∨ b = pi ∨ b = pm ∨ b = po) w1 w2 := by
    intro p po pi pm ps w1 hO hTb
    have l1 := blk_lt hO.hp
    have l2 := blk_lt hO.ho
    have l3 := blk_lt hO.hi.1
    have l4 : pm < w1.heap.size := by obtain ⟨es, ck, hmm, _⟩ := hO.hi.2; exact blk_lt hmm
    have l5 := blk_lt hO.hs
    refine (told_gen _ (by simp) (by simp) hg6 p w1 (fun v w5 w6 => v = .nilIface ∧ OcAt w6 p po pi pm ps ⟨.iface 136 (.agg #[]), 1, 0, 0, none, 0, [], 0⟩ 0 [] ocR ∧ Mod (fun b => b = p) w5 w6) ?_).mono ?_
    · intro w5 B n c hm5 hr5
      refine (recv6 _ rfl p po pi pm ps _ 0 [] ocR B n c w5 (hO.mod0 hm5) rfl hr5 hg6 (hTb.mod0 hm5).oc (hTb.mod0 hm5).ws (hTb.mod0 hm5).sh).mono ?_
      rintro e w6 ⟨rfl, h6, hm6⟩
      exact ⟨_, rfl, .inl rfl, ⟨rfl, h6, hm6⟩, hm6.mono (fun b _ h => by omega)⟩
    · rintro e w' ⟨v, bv, w5, w6, rb, rfl, hv, ⟨rfl, h6, hm6⟩, hm5, hm7, hr1, hr2⟩
      have hbv : bv = true := by rcases hv with ⟨_, h⟩ | ⟨⟨a, h⟩, _⟩; exact h; cases h
      subst hbv
      exact ⟨rfl, h6.beside' (B := w1.heap.size) hm7 hr1 ⟨l1, l2, l3, l4, l5⟩ (.inr rfl), ((Mod.of hm5).trans hm6 (fun b hb h => .inl h)).trans hm7 (fun b hb h => by omega)⟩
  simp only [Msg.v] at ht4 ht6
  clear hg4 hg6
  go_enter Tryz.func8, Tryz.ntmps8
  all_goals skip
  go_upto_region 7 with (first
    | (go_at_call 21; refine (newOc_ok _).mono ?_; rintro e w1 ⟨p, po, pi, pm, ps, rfl, hO1, hm1, b1, b2, b3, b4, b5⟩; have HO1 := Lib.hid hO1; have HT1 := Lib.hid (hT.mod0 hm1); clear hO1)
    | (go_at_call 22; refine (num_any _ _).mono ?_; rintro e w' ⟨rfl, rfl⟩)
    | (go_at_call 10; refine (ht4 p po pi pm ps _ HO1.out HT1.out).mono ?_; rintro e w2 ⟨rfl, hO2, hm2⟩; have HO2 := Lib.hid hO2; have HM2 := Lib.hid (hm1.trans hm2 (fun b hb h => by omega)); have HT2 := Lib.hid (hT.mod0 HM2.out); clear hO2 ht4)
    | (go_at_call 10; refine (ht6 p po pi pm ps _ HO2.out HT2.out).mono ?_; rintro e w3 ⟨rfl, hO3, hm3⟩; have HO3 := Lib.hid hO3; have HM3 := Lib.hid (HM2.out.trans hm3 (fun b hb h => by omega)); clear hO3 ht6)
    | (go_at_call 11; refine (view_joined p po pi pm ps _ 0 [] ocR _ HO3.out (by simp) rfl).mono ?_; rintro e w4 ⟨A4, d4, B4, b4', rfl, hm4⟩))
  have HM4 := Lib.hid (HM3.out.then0 hm4)
  have HO4 := Lib.hid (HO3.out.mod0 hm4)
  have hX := blk_new w4 (.cells #[.int .i64 1, .int .i64 1, .bool true, .int .i64 0, .int .i64 0, .slice A4 0 d4, .slice B4 0 b4'] 38) rfl
  have hQX := blk_at hX
  refine wp_region_text (by kernel_rfl) (by kernel_rfl) (by kernel_rfl) (by kernel_rfl) ?_
  go_wp2
  refine ⟨rfl, by kernel_rfl, ?_⟩
  go_wp2
  go_ret2
  exact ⟨p, po, pi, pm, ps, rfl, (HO4.out.mod0 ((Mod.refl No w4).alloc _)).drew, (HM4.out.alloc _).drew, by omega, by omega, by omega, by omega, by omega⟩
end Go.Proofs.YtjojhfphlnfimaaGreatDoor.J
