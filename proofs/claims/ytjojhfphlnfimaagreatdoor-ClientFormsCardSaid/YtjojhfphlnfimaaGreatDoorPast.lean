/- Package ot: an operation carried past a line, and the line past it. -/
import Derived.Test.YtjojhfphlnfimaaGreatDoorOt
namespace Go.Proofs.YtjojhfphlnfimaaGreatDoor.J
open Go Go.RowKit
set_option linter.unusedSimpArgs false
set_option linter.unusedVariables false

def pastE : Op → List Op → Bool → Op × List Op
  | op, [], _ => (op, [])
  | op, l :: ls, f => ((pastE (shiftE op l (!f)) ls f).1, shiftE l op f :: (pastE (shiftE op l (!f)) ls f).2)
theorem stopHereP {P : Prop} (h : Hid P) : P := h
theorem pastE_snoc (f : Bool) (x : Op) : ∀ (l : List Op) (op : Op), pastE op (l ++ [x]) f = (shiftE (pastE op l f).1 x (!f), (pastE op l f).2 ++ [shiftE x (pastE op l f).1 f])
  | [], op => rfl
  | y :: l, op => by simp [pastE, pastE_snoc f x l]
theorem pastE_len (f : Bool) : ∀ (l : List Op) (op : Op), (pastE op l f).2.length = l.length
  | [], op => rfl
  | y :: l, op => by simp [pastE, pastE_len f l]
def bnd (B : Int) (o : Op) : Prop := -B ≤ o.pos ∧ o.pos ≤ B
theorem ruleE_bnd (i j : Nat) (a b : Int) (f : Bool) : (ruleE i j a b f).2 = true → a - 1 ≤ (ruleE i j a b f).1 ∧ (ruleE i j a b f).1 ≤ a + 1 := by
  unfold ruleE
  split <;> (repeat' split) <;> simp <;> omega
theorem shiftE_bnd {B : Int} (hB : 0 ≤ B) {a : Op} (b : Op) (f : Bool) (h : bnd B a) : bnd (B + 1) (shiftE a b f) := by
  unfold shiftE bnd at *
  split
  · rename_i h2
    have := ruleE_bnd _ _ _ _ _ h2
    dsimp only
    omega
  · dsimp only; omega
theorem pastE_bnd (f : Bool) : ∀ (l : List Op) (op : Op) (B : Int), 0 ≤ B → bnd B op → bnd (B + l.length) (pastE op l f).1
  | [], op, B, _, h => by simpa [pastE] using h
  | y :: l, op, B, hB, h => by
    have := pastE_bnd f l (shiftE op y (!f)) (B + 1) (by omega) (shiftE_bnd hB y _ h)
    rw [List.length_cons]
    unfold bnd at this ⊢
    simp only [pastE]
    omega

theorem Tryz.infoOpP : (Tryz.prog.info? 32).map (fun i => (i.zero, i.size, i.bytes)) = some (some (.agg #[.int .i64 0, .int .i64 0, .int .u8 0, .int .i64 0, .int .i64 0]), 5, 40) := by kernel_rfl

theorem Rd.opP {w : World} {A : Option Addr} {n c : Nat} {l : List Op} (h : Rd kOp w A n c l) {i : Nat} (hi : i < n) : ∃ b o, ∃ x : Op, l[i]? = some x ∧ A = some ⟨b, o, none⟩ ∧
    w.cell? ⟨b, o + i * 5, none⟩ = some (.int .i64 x.kind) ∧ w.cell? ⟨b, o + i * 5 + 1, none⟩ = some (.int .i64 x.pos) ∧ w.cell? ⟨b, o + i * 5 + 2, none⟩ = some (.int .u8 x.ch) ∧ w.cell? ⟨b, o + i * 5 + 3, none⟩ = some (.int .i64 x.client) ∧ w.cell? ⟨b, o + i * 5 + 4, none⟩ = some (.int .i64 x.seq) := by
  have hx := List.getElem?_eq_getElem (l := l) (i := i) (by rw [← h.1]; exact hi)
  obtain ⟨b, o, ha, hc⟩ := h.at hx
  exact ⟨b, o, _, hx, ha, hc 0 _ rfl, hc 1 _ rfl, hc 2 _ rfl, hc 3 _ rfl, hc 4 _ rfl⟩

set_option maxRecDepth 100000 in
set_option maxHeartbeats 800000 in
theorem past_any (op : Op) (A : Option Addr) (n c : Nat) (line : List Op) (f : Bool) (w : World) (hT : OtT w) (hr : Rd kOp w A n c line) (hn : n ≤ 4096)
    (B : Int) (hB0 : 0 ≤ B) (hB1 : B ≤ 549755813888) (hop : bnd B op) (hl : ∀ x ∈ line, bnd B x) :
    Calls Tryz.prog 112 #[op.v, .slice A n c, .bool f] w fun e w' => ∃ A' d, e = .returned (.tuple #[(pastE op line f).1.v, .slice A' n d]) ∧ Mod No w w' ∧ Own kOp 32 w' A' n d (pastE op line f).2 (fun b => w.heap.size ≤ b) := by
  obtain ⟨i, hi1, hi2, hi3, hi4⟩ := info_parts Tryz.infoOpP
  have HN := Lib.hid hr.1
  obtain ⟨o1, o2, o3, o4, o5⟩ := op
  simp only [Op.v]
  obtain ⟨R, hR⟩ : ∃ R, pastE ⟨o1, o2, o3, o4, o5⟩ line f = R := ⟨_, rfl⟩
  rw [hR]
  have HR := Lib.hid hR
  clear hR
  go_enter Tryz.func112, Tryz.ntmps112
  go_wp2_with (refine wpList_make_j (k := kOp) rfl _ _ _ rfl i _ ⟨0, 0, 0, 0, 0⟩ Tryz.underlying23 hi1 hi2 hi3 rfl .i64 .i64 0 _ 0 n rfl rfl rfl (by omega) (by omega) (by rw [hi4]; omega) (by unfold maxLen; omega) ?_; intro w2 hown hM2 hs2)
  rw [World.size_alloc, World.size_alloc] at hown
  have hO0 : Own kOp 32 w2 (some ⟨w.heap.size + 1 + 1, 0, none⟩) 0 n [] (fun b => b = w.heap.size + 1 + 1) := hown
  have hlt0 := hO0.blkLt _ rfl
  have hA0 := hM2.heap (blk_alloc (blk_new w (.cells #[.int .i64 o1, .int .i64 o2, .int .u8 o3, .int .i64 o4, .int .i64 o5] 32) rfl) _) (fun h => h)
  have hZ0 := hM2.heap (b := w.heap.size + 1) (blk_new _ _ (by simp)) (fun h => h)
  have hM0 : Mod No w w2 := (((Mod.refl No w).alloc _).alloc _).then0 hM2
  go_loopw [8, 16] (fun s8 s16 wr => ∃ (k : Nat) (A1 : Option Addr) (c1 : Nat) (q : Op) (mk : List Op) (S : Nat → Prop), k ≤ n ∧ s16 = .int .i64 k ∧ s8 = .slice A1 k c1 ∧ pastE ⟨o1, o2, o3, o4, o5⟩ (line.take k) f = (q, mk) ∧
      wr.heap[w.heap.size]? = some (.cells #[.int .i64 q.kind, .int .i64 q.pos, .int .u8 q.ch, .int .i64 q.client, .int .i64 q.seq] 32 (0, 0)) ∧ wr.heap[w.heap.size + 1]? = some (.cells #[.int .i64 0, .int .i64 0, .int .u8 0, .int .i64 0, .int .i64 0] 32 (0, 0)) ∧
      Own kOp 32 wr A1 k c1 mk S ∧ (∀ b, S b → w.heap.size + 1 + 1 ≤ b ∧ b < wr.heap.size) ∧ Mod No w wr) (fun _ s16 _ => n - (intOf s16).toNat)
  case atStart => exact ⟨0, _, n, ⟨o1, o2, o3, o4, o5⟩, [], _, Nat.zero_le _, rfl, rfl, rfl, hA0, hZ0, hO0, (fun b hb => by subst hb; exact ⟨Nat.le_refl _, hlt0⟩), hM0⟩
  case round =>
    obtain ⟨k, A1, c1, q, mk, S, hk, rfl, rfl, hP, hA, hZ, hO, hS, hM⟩ := hrel
    clear hlt0 hA0 hZ0 hO0 hM0 hown hM2 hs2
    have HP := Lib.hid hP
    have hqb := pastE_bnd f (line.take k) ⟨o1, o2, o3, o4, o5⟩ B hB0 hop
    rw [hP] at hqb
    have hlk : (line.take k).length = k := by rw [List.length_take, ← HN.out]; omega
    rw [hlk] at hqb
    clear hP hlk
    by_cases hlt : k < n
    · obtain ⟨b0, a0, x, hx, rfl, x1, x2, x3, x4, x5⟩ := (hr.mod0 hM).opP hlt
      have hxb := hl x (List.mem_of_getElem? hx)
      have HX := Lib.hid hx
      clear hx
      have h0 : (0 : Int) ≤ (k : Int) := by omega
      have s1 : smallP x.pos := ⟨by have := hxb.1; omega, by have := hxb.2; omega⟩
      have s2 : smallP q.pos := ⟨by have := hqb.1; dsimp only at this; omega, by have := hqb.2; dsimp only at this; omega⟩
      have hQa := blk_at hA
      have hFa := blk_free hA
      have hTr := hT.mod hM (fun h => h)
      have hszr := hM.size
      have hltA := blk_lt hZ
      obtain ⟨q1, q2, q3, q4, q5⟩ := q
      obtain ⟨e1, e2, e3, e4, e5⟩ := x
      dsimp only at x1 x2 x3 x4 x5 hQa hA
      obtain ⟨z, hz⟩ : ∃ z, shiftE ⟨e1, e2, e3, e4, e5⟩ ⟨q1, q2, q3, q4, q5⟩ f = z := ⟨_, rfl⟩
      obtain ⟨y, hy⟩ : ∃ y, shiftE ⟨q1, q2, q3, q4, q5⟩ ⟨e1, e2, e3, e4, e5⟩ (!f) = y := ⟨_, rfl⟩
      have HZ := Lib.hid hz
      have HY := Lib.hid hy
      have hc1 := fun w' h => shift_any ⟨e1, e2, e3, e4, e5⟩ ⟨q1, q2, q3, q4, q5⟩ f w' h s1
      have hc2 := fun w' h => shift_any ⟨q1, q2, q3, q4, q5⟩ ⟨e1, e2, e3, e4, e5⟩ (!f) w' h s2
      rw [hz] at hc1
      rw [hy] at hc2
      clear hz hy
      obtain ⟨z1, z2, z3, z4, z5⟩ := z
      obtain ⟨y1, y2, y3, y4, y5⟩ := y
      have hQw := blk_at (blk_alloc hA (.cells #[.int .i64 e1, .int .i64 e2, .int .u8 e3, .int .i64 e4, .int .i64 e5] 32))
      simp only [Op.v] at hc1 hc2
      have hXn := blk_new wr (.cells #[.int .i64 e1, .int .i64 e2, .int .u8 e3, .int .i64 e4, .int .i64 e5] 32) rfl
      have hX0 : ¬ S wr.heap.size := fun h => Nat.lt_irrefl _ (hS _ h).2
      have hX1' : ¬ S w.heap.size := fun h => by have := (hS _ h).1; omega
      have hX2' : ¬ S (w.heap.size + 1) := fun h => by have := (hS _ h).1; omega
      go_wp2_with (first | (go_at_call 116; refine (hc1 _ (hTr.mod ((Mod.refl No _).alloc _) (fun h => h))).mono ?_; rintro e w1 ⟨rfl, hm1⟩; have hX1 := hm1.heap hXn (fun h => h); have hA1 := hm1.heap (blk_alloc hA _) (fun h => h); have hZ1 := hm1.heap (blk_alloc hZ _) (fun h => h); have hO1 := (hO.alloc _).mod0 hm1; have hM1 := (hM.alloc _).then0 hm1)
                         | (at_builtin; refine stopHereP ?_))
      refine Lib.hid ?_
      refine wpList_append_j (k := kOp) (T := 32) (by rfl) _ _ _ (by rfl) i _ Tryz.underlying23 hi1 hi2 hi3 rfl (by rfl) (by rfl) (hO1.alloc _) (Rd.one (blk_new _ _ rfl) (⟨z1, z2, z3, z4, z5⟩ : Op) rfl) (by unfold maxLen; omega) (by rw [hi4]; omega) ?_
      intro A2 c2 w2 hO2 hm2 hs2 _
      have hA2 := hm2.heap (blk_alloc hA1 _) hX1'
      have hZ2 := hm2.heap (blk_alloc hZ1 _) hX2'
      have hX2 := hm2.heap (blk_alloc hX1 _) hX0
      clear hA1 hZ1 hX1 hQw hQa hFa hXn
      have hQa := blk_at hA2
      have hFa := blk_free hA2
      have hQx := blk_at hX2
      have hMt : Mod No w w2 := (hM1.alloc _).trans hm2 (fun b hb h => by have := (hS _ h).1; omega)
      have hTr2 : OtT w2 := hT.mod hMt (fun h => h)
      go_wp2_with (go_at_call 116; refine (hc2 _ hTr2).mono ?_; rintro e w3 ⟨rfl, hm3⟩; have hA3 := hm3.heap hA2 (fun h => h); have hZ3 := hm3.heap hZ2 (fun h => h); have hQ3 := blk_at hA3; have hF3 := blk_free hA3)
      have hszw := hm1.size
      rw [World.size_alloc] at hszw
      rw [World.size_alloc] at hO2
      have hme : ∀ v0 v1 v2 v3 v4, Mod (fun b => b = w.heap.size) w3 (((((w3.setCell ⟨w.heap.size, 0, none⟩ v0).setCell ⟨w.heap.size, 1, none⟩ v1).setCell ⟨w.heap.size, 2, none⟩ v2).setCell ⟨w.heap.size, 3, none⟩ v3).setCell ⟨w.heap.size, 4, none⟩ v4) := fun v0 v1 v2 v3 v4 => mod_setO (mod_setO (mod_setO (mod_setO (mod_setO (Mod.refl _ _) (.inl rfl)) (.inl rfl)) (.inl rfl)) (.inl rfl)) (.inl rfl)
      go_roundw
      case rel =>
        exact ⟨k + 1, A2, c2, ⟨y1, y2, y3, y4, y5⟩, mk ++ [⟨z1, z2, z3, z4, z5⟩], _, by omega, by go_num, rfl,
          by rw [List.take_add_one, HX.out]; show pastE _ (line.take k ++ [_]) f = _; rw [pastE_snoc, HP.out, HY.out, HZ.out],
          blk_set (blk_set (blk_set (blk_set (blk_set hA3 0 _) 1 _) 2 _) 3 _) 4 _,
          blk_set_other (blk_set_other (blk_set_other (blk_set_other (blk_set_other hZ3 (by dsimp only; omega) _) (by dsimp only; omega) _) (by dsimp only; omega) _) (by dsimp only; omega) _) (by dsimp only; omega) _,
          ((hO2.mod0 hm3).mod (hme _ _ _ _ _) (fun b _ h e => by rcases h with h | h; (have := (hS _ h).1; omega); omega)).mono (S' := fun b => (S b ∨ b = w1.heap.size + 1) ∧ b < (((((w3.setCell ⟨w.heap.size, 0, none⟩ (.int .i64 y1)).setCell ⟨w.heap.size, 1, none⟩ (.int .i64 y2)).setCell ⟨w.heap.size, 2, none⟩ (.int .u8 y3)).setCell ⟨w.heap.size, 3, none⟩ (.int .i64 y4)).setCell ⟨w.heap.size, 4, none⟩ (.int .i64 y5)).heap.size) (fun b hb h => ⟨h, hb⟩),
          fun b hb => ⟨by rcases hb.1 with h | h; exact (hS _ h).1; omega, hb.2⟩,
          (hMt.then0 hm3).trans (hme _ _ _ _ _) (fun b hb e => by omega)⟩
      case measure => simp [intOf]; omega
    · have hkn : k = n := by omega
      subst hkn
      obtain ⟨q1, q2, q3, q4, q5⟩ := q
      have hQa := blk_at hA
      have hQz := blk_at hZ
      have hFz := blk_free hZ
      dsimp only at hQa
      have hm0 : No (w.heap.size + 1) ∨ w.heap.size ≤ w.heap.size + 1 := .inr (by omega)
      have hP2 : R = (⟨q1, q2, q3, q4, q5⟩, mk) := by
        have := HP.out
        rw [List.take_of_length_le (Nat.le_of_eq HN.out.symm)] at this
        rw [← HR.out]; exact this
      subst hP2
      clear HR HP
      go_wp2
      have hZ4 := blk_set (blk_set (blk_set (blk_set (blk_set hZ 0 (.int .i64 q1)) 1 (.int .i64 q2)) 2 (.int .u8 q3)) 3 (.int .i64 q4)) 4 (.int .i64 q5)
      have hQ4 := blk_at hZ4
      have hF4 := blk_free hZ4
      have hme : Mod (fun b => b = w.heap.size + 1) wr (((((wr.setCell ⟨w.heap.size + 1, 0, none⟩ (.int .i64 q1)).setCell ⟨w.heap.size + 1, 1, none⟩ (.int .i64 q2)).setCell ⟨w.heap.size + 1, 2, none⟩ (.int .u8 q3)).setCell ⟨w.heap.size + 1, 3, none⟩ (.int .i64 q4)).setCell ⟨w.heap.size + 1, 4, none⟩ (.int .i64 q5)) := mod_setO (mod_setO (mod_setO (mod_setO (mod_setO (Mod.refl _ _) (.inl rfl)) (.inl rfl)) (.inl rfl)) (.inl rfl)) (.inl rfl)
      refine bodyPost_ret (v := .tuple #[.agg #[.int .i64 q1, .int .i64 q2, .int .u8 q3, .int .i64 q4, .int .i64 q5], .slice A1 k c1]) (by simp [results, Tryz.results112, go_sem, hQ4, hF4]) rfl ⟨A1, c1, rfl, ?_, ?_⟩
      · exact hM.trans hme (fun b hb e => by omega)
      · exact (hO.mod hme (fun b _ h e => by have := (hS _ h).1; omega)).mono (fun b _ h => by have := (hS _ h).1; omega)

set_option maxRecDepth 100000 in
set_option maxHeartbeats 2000000 in
theorem through_any (op : Op) (A : Option Addr) (n c : Nat) (line : List Op) (f : Bool) (w : World) (hT : OtT w) (hr : Rd kOp w A n c line) (hn : n ≤ 4096)
    (B : Int) (hB0 : 0 ≤ B) (hB1 : B ≤ 549755813888) (hop : bnd B op) (hl : ∀ x ∈ line, bnd B x) :
    Calls Tryz.prog 93 #[op.v, .slice A n c, .bool f] w fun e w' => ∃ A' d, e = .returned (.tuple #[(pastE op line f).1.v, .slice A' n d, .int .i64 0]) ∧ Mod No w w' ∧ Own kOp 32 w' A' n d (pastE op line f).2 (fun b => w.heap.size ≤ b) := by
  have hpa := fun w' hT' hr' => past_any op A n c line f w' hT' hr' hn B hB0 hB1 hop hl
  obtain ⟨R, hR⟩ : ∃ R, pastE op line f = R := ⟨_, rfl⟩
  rw [hR] at hpa ⊢
  clear hR hop hl
  obtain ⟨o1, o2, o3, o4, o5⟩ := op
  obtain ⟨⟨q1, q2, q3, q4, q5⟩, mk⟩ := R
  simp only [Op.v] at hpa ⊢
  go_enter Tryz.func93, Tryz.ntmps93
  go_wp2_with (go_at_call 112; refine (hpa _ (hT.mod (((Mod.refl No _).alloc _).alloc _) (fun h => h)) ((hr.alloc _).alloc _)).mono ?_; rintro e w1 ⟨A1, d1, rfl, hm1, hO1⟩; have hA1 := hm1.heap (b := w.heap.size) (blk_alloc (blk_new _ _ rfl) _) (fun h => h); have hZ1 := hm1.heap (b := w.heap.size + 1) (blk_new _ _ (by simp)) (fun h => h); have hQa := blk_at hA1; have hFa := blk_free hA1; have hQz := blk_at hZ1; have hFz := blk_free hZ1)
  have hs1 := hm1.size
  rw [World.size_alloc, World.size_alloc] at hs1
  have hM1 : Mod No w w1 := (((Mod.refl No w).alloc _).alloc _).then0 hm1
  have hZ4 := blk_set (blk_set (blk_set (blk_set (blk_set (blk_set_other (a := ⟨w.heap.size, 4, none⟩) (blk_set_other (a := ⟨w.heap.size, 3, none⟩) (blk_set_other (a := ⟨w.heap.size, 2, none⟩) (blk_set_other (a := ⟨w.heap.size, 1, none⟩) (blk_set_other (a := ⟨w.heap.size, 0, none⟩) hZ1 (by dsimp only; omega) (.int .i64 q1)) (by dsimp only; omega) (.int .i64 q2)) (by dsimp only; omega) (.int .u8 q3)) (by dsimp only; omega) (.int .i64 q4)) (by dsimp only; omega) (.int .i64 q5)) 0 (.int .i64 q1)) 1 (.int .i64 q2)) 2 (.int .u8 q3)) 3 (.int .i64 q4)) 4 (.int .i64 q5)
  have hQ4 := blk_at hZ4
  have hF4 := blk_free hZ4
  refine bodyPost_ret (v := .tuple #[.agg #[.int .i64 q1, .int .i64 q2, .int .u8 q3, .int .i64 q4, .int .i64 q5], .slice A1 n d1, .int .i64 0]) (by simp [results, Tryz.results93, go_sem, hQ4, hF4]) rfl ⟨A1, d1, rfl, ?_, ?_⟩
  · have r0 : No w.heap.size ∨ w.heap.size ≤ w.heap.size := .inr (Nat.le_refl _)
    have r1 : No (w.heap.size + 1) ∨ w.heap.size ≤ w.heap.size + 1 := .inr (by omega)
    exact mod_setO (mod_setO (mod_setO (mod_setO (mod_setO (mod_setO (mod_setO (mod_setO (mod_setO (mod_setO hM1 r0) r0) r0) r0) r0) r1) r1) r1) r1) r1
  · have r0 : (fun b => b = w.heap.size ∨ b = w.heap.size + 1) w.heap.size ∨ w1.heap.size ≤ w.heap.size := .inl (.inl rfl)
    have r1 : (fun b => b = w.heap.size ∨ b = w.heap.size + 1) (w.heap.size + 1) ∨ w1.heap.size ≤ w.heap.size + 1 := .inl (.inr rfl)
    refine (hO1.mod (M := fun b => b = w.heap.size ∨ b = w.heap.size + 1) (mod_setO (mod_setO (mod_setO (mod_setO (mod_setO (mod_setO (mod_setO (mod_setO (mod_setO (mod_setO (Mod.refl (fun b => b = w.heap.size ∨ b = w.heap.size + 1) w1) r0) r0) r0) r0) r0) r1) r1) r1) r1) r1) (fun b _ h1 h2 => ?_)).mono (fun b _ h => ?_)
    · simp at h1; omega
    · simp at h; omega
end Go.Proofs.YtjojhfphlnfimaaGreatDoor.J
