/- Package ot: operations carried past one another. -/
import Derived.Test.YtjojhfphlnfimaaGreatDoorDoc
import Derived.Test.YtjojhfphlnfimaaGreatDoorFork
import Derived.Deep.QuietTactic
import Derived.BigQuiet
namespace Go.Proofs.YtjojhfphlnfimaaGreatDoor.J
open Go Go.RowKit
set_option linter.unusedSimpArgs false
set_option linter.unusedVariables false

/-- The number of a kind in the table. -/
def rowE (k : Int) : Nat := if k = 1 then 1 else if k = 2 then 2 else 0
def ruleE : Nat → Nat → Int → Int → Bool → Int × Bool
  | 1, 1, a, b, first => if b < a ∨ (b = a ∧ first = false) then (a + 1, true) else (a, true)
  | 1, 2, a, b, _ => if b < a then (a - 1, true) else (a, true)
  | 2, 1, a, b, _ => if b ≤ a then (a + 1, true) else (a, true)
  | 2, 2, a, b, _ => if b < a then (a - 1, true) else if b = a then (0, false) else (a, true)
  | _, _, a, _, _ => (a, true)
def ruleF : Nat → Nat → FuncId
  | 1, 1 => 164
  | 1, 2 => 165
  | 2, 1 => 166
  | 2, 2 => 167
  | _, _ => 163
/-- a as it is behind b. -/
def shiftE (a b : Op) (first : Bool) : Op :=
  if (ruleE (rowE a.kind) (rowE b.kind) a.pos b.pos first).2 = true then { a with pos := (ruleE (rowE a.kind) (rowE b.kind) a.pos b.pos first).1 } else ⟨0, 0, 0, a.client, a.seq⟩
/-- The table of rules stands in its variable. -/
def OtT (w : World) : Prop := ∀ i j, i < 3 → j < 3 → w.cell? ⟨4, 3 * i + j, none⟩ = some (.func (.func (ruleF i j)) #[] #[])
theorem OtT.mod {S : Nat → Prop} {w w' : World} (h : OtT w) (hm : Mod S w w') (hs : ¬ S 4) : OtT w' := fun i j hi hj => hm.cell (h i j hi hj) hs

/-- At a goal on a world: forget how it came, keep what is known of it. -/
theorem cut_worldO {G F : World → Prop} {W : World} (hF : F W) (h : ∀ w', F w' → G w') : G W := h W hF
theorem mod_setO {S : Nat → Prop} {w w' : World} {b i : Nat} {v : Value} (h : Mod S w w') (hp : S b ∨ w.heap.size ≤ b) : Mod S w (w'.setCell ⟨b, i, none⟩ v) := h.setCell (p := ⟨b, i, none⟩) hp v
theorem rowE_lt (k : Int) : rowE k < 3 := by unfold rowE; (repeat' split) <;> omega

theorem row_any (k : Int) (w : World) : Calls Tryz.prog 117 #[.int .i64 k] w fun e w' => e = .returned (.int .i64 (rowE k)) ∧ w = w' := by
  by_cases h1 : k = 1
  · subst h1
    go_enter Tryz.func117, Tryz.ntmps117
    go_wp2
    go_ret
    exact ⟨rfl, rfl⟩
  · by_cases h2 : k = 2
    · subst h2
      go_enter Tryz.func117, Tryz.ntmps117
      go_wp2
      go_ret
      exact ⟨rfl, rfl⟩
    · have h1' : (k == 1) = false := by simp [h1]
      have h2' : (k == 2) = false := by simp [h2]
      have hr : rowE k = 0 := by unfold rowE; rw [if_neg h1, if_neg h2]
      have HR := Lib.hid hr
      clear hr h1 h2
      go_enter Tryz.func117, Tryz.ntmps117
      go_wp2
      go_ret
      exact ⟨by rw [HR.out]; rfl, rfl⟩

/-- Small enough to move. -/
def smallP (p : Int) : Prop := -1099511627776 ≤ p ∧ p ≤ 1099511627776

theorem stays_any (a b : Int) (f : Bool) (w : World) : Calls Tryz.prog 163 #[.int .i64 a, .int .i64 b, .bool f] w fun e w' => e = .returned (.tuple #[.int .i64 a, .bool true]) ∧ w = w' := by
  go_enter Tryz.func163, Tryz.ntmps163
  go_wp2
  go_ret2
  exact ⟨rfl, rfl⟩
theorem ipi_any (a b : Int) (f : Bool) (w : World) (ha : smallP a) : Calls Tryz.prog 164 #[.int .i64 a, .int .i64 b, .bool f] w fun e w' => e = .returned (.tuple #[.int .i64 (ruleE 1 1 a b f).1, .bool (ruleE 1 1 a b f).2]) ∧ w = w' := by
  obtain ⟨a1, a2⟩ := ha
  by_cases h1 : b < a
  · have E := Lib.hid (show ruleE 1 1 a b f = (a + 1, true) by simp [ruleE, h1])
    go_enter Tryz.func164, Tryz.ntmps164
    go_wp2
    go_ret2
    exact ⟨by rw [E.out]; rfl, rfl⟩
  · have h1' : decide (b < a) = false := by simp [h1]
    by_cases h2 : b = a
    · have h2' : (b == a) = true := by simp [h2]
      cases f
      · have E := Lib.hid (show ruleE 1 1 a b false = (a + 1, true) by simp [ruleE, h2])
        clear h2
        go_enter Tryz.func164, Tryz.ntmps164
        go_wp2
        go_ret2
        exact ⟨by rw [E.out]; rfl, rfl⟩
      · have E := Lib.hid (show ruleE 1 1 a b true = (a, true) by simp [ruleE, h1])
        clear h2
        go_enter Tryz.func164, Tryz.ntmps164
        go_wp2
        go_ret2
        exact ⟨by rw [E.out]; rfl, rfl⟩
    · have h2' : (b == a) = false := by simp [h2]
      have E := Lib.hid (show ruleE 1 1 a b f = (a, true) by simp [ruleE, h1, h2])
      clear h2
      go_enter Tryz.func164, Tryz.ntmps164
      go_wp2
      go_ret2
      exact ⟨by rw [E.out]; rfl, rfl⟩
theorem ipd_any (a b : Int) (f : Bool) (w : World) (ha : smallP a) : Calls Tryz.prog 165 #[.int .i64 a, .int .i64 b, .bool f] w fun e w' => e = .returned (.tuple #[.int .i64 (ruleE 1 2 a b f).1, .bool (ruleE 1 2 a b f).2]) ∧ w = w' := by
  obtain ⟨a1, a2⟩ := ha
  by_cases h1 : b < a
  · have E := Lib.hid (show ruleE 1 2 a b f = (a - 1, true) by simp [ruleE, h1])
    go_enter Tryz.func165, Tryz.ntmps165
    go_wp2
    go_ret2
    exact ⟨by rw [E.out]; rfl, rfl⟩
  · have h1' : decide (b < a) = false := by simp [h1]
    have E := Lib.hid (show ruleE 1 2 a b f = (a, true) by simp [ruleE, h1])
    go_enter Tryz.func165, Tryz.ntmps165
    go_wp2
    go_ret2
    exact ⟨by rw [E.out]; rfl, rfl⟩
theorem dpi_any (a b : Int) (f : Bool) (w : World) (ha : smallP a) : Calls Tryz.prog 166 #[.int .i64 a, .int .i64 b, .bool f] w fun e w' => e = .returned (.tuple #[.int .i64 (ruleE 2 1 a b f).1, .bool (ruleE 2 1 a b f).2]) ∧ w = w' := by
  obtain ⟨a1, a2⟩ := ha
  by_cases h1 : b ≤ a
  · have E := Lib.hid (show ruleE 2 1 a b f = (a + 1, true) by simp [ruleE, h1])
    go_enter Tryz.func166, Tryz.ntmps166
    go_wp2
    go_ret2
    exact ⟨by rw [E.out]; rfl, rfl⟩
  · have h1' : decide (b ≤ a) = false := by simp [h1]
    have E := Lib.hid (show ruleE 2 1 a b f = (a, true) by simp [ruleE, h1])
    go_enter Tryz.func166, Tryz.ntmps166
    go_wp2
    go_ret2
    exact ⟨by rw [E.out]; rfl, rfl⟩
theorem dpd_any (a b : Int) (f : Bool) (w : World) (ha : smallP a) : Calls Tryz.prog 167 #[.int .i64 a, .int .i64 b, .bool f] w fun e w' => e = .returned (.tuple #[.int .i64 (ruleE 2 2 a b f).1, .bool (ruleE 2 2 a b f).2]) ∧ w = w' := by
  obtain ⟨a1, a2⟩ := ha
  by_cases h1 : b < a
  · have E := Lib.hid (show ruleE 2 2 a b f = (a - 1, true) by simp [ruleE, h1])
    go_enter Tryz.func167, Tryz.ntmps167
    go_wp2
    go_ret2
    exact ⟨by rw [E.out]; rfl, rfl⟩
  · have h1' : decide (b < a) = false := by simp [h1]
    by_cases h2 : b = a
    · have h2' : (b == a) = true := by simp [h2]
      have E := Lib.hid (show ruleE 2 2 a b f = (0, false) by simp [ruleE, h2])
      clear h2
      go_enter Tryz.func167, Tryz.ntmps167
      go_wp2
      go_ret2
      exact ⟨by rw [E.out]; rfl, rfl⟩
    · have h2' : (b == a) = false := by simp [h2]
      have E := Lib.hid (show ruleE 2 2 a b f = (a, true) by simp [ruleE, h1, h2])
      clear h2
      go_enter Tryz.func167, Tryz.ntmps167
      go_wp2
      go_ret2
      exact ⟨by rw [E.out]; rfl, rfl⟩

theorem rule_any (i j : Nat) (a b : Int) (f : Bool) (w : World) (hi : i < 3) (hj : j < 3) (ha : smallP a) :
    Calls Tryz.prog (ruleF i j) #[.int .i64 a, .int .i64 b, .bool f] w fun e w' => e = .returned (.tuple #[.int .i64 (ruleE i j a b f).1, .bool (ruleE i j a b f).2]) ∧ w = w' := by
  match i, j, hi, hj with
  | 0, _, _, _ => exact stays_any a b f w
  | 1, 0, _, _ => exact stays_any a b f w
  | 1, 1, _, _ => exact ipi_any a b f w ha
  | 1, 2, _, _ => exact ipd_any a b f w ha
  | 2, 0, _, _ => exact stays_any a b f w
  | 2, 1, _, _ => exact dpi_any a b f w ha
  | 2, 2, _, _ => exact dpd_any a b f w ha

theorem call_stays (a b f : Value) (w : World) : Sem.run Tryz.prog (callFunc 163 #[a, b, f]) w = .ok (.enter 163 #[a, b, f]) w := by kernel_rfl
theorem call_insertPastInsert (a b f : Value) (w : World) : Sem.run Tryz.prog (callFunc 164 #[a, b, f]) w = .ok (.enter 164 #[a, b, f]) w := by kernel_rfl
theorem call_insertPastDelete (a b f : Value) (w : World) : Sem.run Tryz.prog (callFunc 165 #[a, b, f]) w = .ok (.enter 165 #[a, b, f]) w := by kernel_rfl
theorem call_deletePastInsert (a b f : Value) (w : World) : Sem.run Tryz.prog (callFunc 166 #[a, b, f]) w = .ok (.enter 166 #[a, b, f]) w := by kernel_rfl
theorem call_deletePastDelete (a b f : Value) (w : World) : Sem.run Tryz.prog (callFunc 167 #[a, b, f]) w = .ok (.enter 167 #[a, b, f]) w := by kernel_rfl
theorem call_rule (i j : Nat) (a b : Value) (f : Value) (w : World) (hi : i < 3) (hj : j < 3) :
    Sem.run Tryz.prog (callFunc (ruleF i j) #[a, b, f]) w = .ok (.enter (ruleF i j) #[a, b, f]) w := by
  match i, j, hi, hj with
  | 0, _, _, _ => exact call_stays a b f w
  | 1, 0, _, _ => exact call_stays a b f w
  | 1, 1, _, _ => exact call_insertPastInsert a b f w
  | 1, 2, _, _ => exact call_insertPastDelete a b f w
  | 2, 0, _, _ => exact call_stays a b f w
  | 2, 1, _, _ => exact call_deletePastInsert a b f w
  | 2, 2, _, _ => exact call_deletePastDelete a b f w

set_option maxRecDepth 100000 in
set_option maxHeartbeats 400000 in
theorem shift_any (a b : Op) (f : Bool) (w : World) (hT : OtT w) (ha : smallP a.pos) :
    Calls Tryz.prog 116 #[a.v, b.v, .bool f] w fun e w' => e = .returned (shiftE a b f).v ∧ Mod No w w' := by
  obtain ⟨k, p, ch, cl, sq⟩ := a
  obtain ⟨k', p', ch', cl', sq'⟩ := b
  have hc := hT (rowE k) (rowE k') (rowE_lt k) (rowE_lt k')
  have hru := fun w => rule_any (rowE k) (rowE k') p p' f w (rowE_lt k) (rowE_lt k') ha
  have hcf := fun a b f w => call_rule (rowE k) (rowE k') a b f w (rowE_lt k) (rowE_lt k')
  have hE : shiftE ⟨k, p, ch, cl, sq⟩ ⟨k', p', ch', cl', sq'⟩ f = if (ruleE (rowE k) (rowE k') p p' f).2 = true then ⟨k, (ruleE (rowE k) (rowE k') p p' f).1, ch, cl, sq⟩ else ⟨0, 0, 0, cl, sq⟩ := rfl
  rw [hE]
  clear hE
  have hr1 := rowE_lt k
  have hr2 := rowE_lt k'
  have hrow1 := row_any k
  have hrow2 := row_any k'
  obtain ⟨r1, hr1e⟩ : ∃ r, rowE k = r := ⟨_, rfl⟩
  obtain ⟨r2, hr2e⟩ : ∃ r, rowE k' = r := ⟨_, rfl⟩
  rw [hr1e] at hc hcf hru hrow1 hr1 ⊢
  rw [hr2e] at hc hcf hru hrow2 hr2 ⊢
  obtain ⟨F, hF⟩ : ∃ F, ruleF r1 r2 = F := ⟨_, rfl⟩
  rw [hF] at hc hcf hru
  obtain ⟨⟨q, lf⟩, hR⟩ : ∃ q, ruleE r1 r2 p p' f = q := ⟨_, rfl⟩
  rw [hR] at hru ⊢
  clear hr1e hr2e hF hR ha hT
  have h01 : (0 : Int) ≤ (r1 : Int) := by omega
  have h02 : (0 : Int) ≤ (r2 : Int) := by omega
  simp only [Op.v]
  have hc' : w.cell? ⟨4, r1 * 3 + r2, none⟩ = some (.func (.func F) #[] #[]) := by rw [Nat.mul_comm]; exact hc
  clear hc
  have hE : (if ((q, lf).2 = true) then (⟨k, (q, lf).1, ch, cl, sq⟩ : Op) else ⟨0, 0, 0, cl, sq⟩) = if lf = true then ⟨k, q, ch, cl, sq⟩ else ⟨0, 0, 0, cl, sq⟩ := rfl
  rw [hE]
  clear hE
  dsimp only at hru
  go_enter Tryz.func116, Tryz.ntmps116
  go_wp2
  refine cut_worldO (F := fun w3 => w3.heap[w.heap.size]? = some (.cells #[.int .i64 k, .int .i64 p, .int .u8 ch, .int .i64 cl, .int .i64 sq] 32 (0, 0)) ∧ w3.heap[w.heap.size + 1]? = some (.cells #[.int .i64 k', .int .i64 p', .int .u8 ch', .int .i64 cl', .int .i64 sq'] 32 (0, 0)) ∧ w3.heap[w.heap.size + 1 + 1]? = some (.cells #[.int .i64 0, .int .i64 0, .int .u8 0, .int .i64 0, .int .i64 0] 32 (0, 0)) ∧ Mod No w w3)
    ⟨blk_alloc (blk_alloc (blk_new _ _ rfl) _) _, blk_alloc (blk_new _ _ (by simp)) _, blk_new _ _ (by simp), (((Mod.refl No w).alloc _).alloc _).alloc _⟩ ?_
  rintro w3 ⟨hA3, hB3, hR3, hM3⟩
  have hcc := hM3.cell hc' (fun h => h)
  clear hc'
  have hQa := blk_at hA3
  have hQb := blk_at hB3
  have hFa := blk_free hA3
  have hQr := blk_at hR3
  have hFr := blk_free hR3
  refine wp_region_seg ([0, 1, 3, 4, 9, 10, 11, 12, 13].map (·, false) ++ [(2, true), (6, false), (5, true)] ++ [7, 8, 14, 15, 16, 17, 18, 19].map (·, false)) (by kernel_rfl) (by kernel_rfl) (by kernel_rfl) (by kernel_rfl) ?_
  simp only [List.map_cons, List.map_nil, List.cons_append, List.nil_append, List.filterMap_cons, List.filterMap_nil, pick, List.getElem?_toArray, List.getElem?_cons_zero, List.getElem?_cons_succ, Option.map_some]
  refine wpSeg_cut (fun e a w h => h.1) [_, _, _, _, _, _, _, _, _] _ _ _ ?_
  go_wp2
  refine wpSeg_mark rfl ?_
  go_wp2_with (go_at_call 117; refine (hrow1 _).mono ?_; rintro e w' ⟨rfl, rfl⟩; refine ⟨Old.refl _, ?_⟩)
  refine wpSeg_cut (fun e a w h => h.1) [_] _ _ _ ?_
  go_wp2
  refine wpSeg_mark rfl ?_
  go_wp2_with (go_at_call 117; refine (hrow2 _).mono ?_; rintro e w' ⟨rfl, rfl⟩; refine ⟨Old.refl _, ?_⟩)
  refine wpSeg_rest [_, _, _, _, _, _, _, _] ?_
  go_wp2_with (refine (hru _).mono ?_; rintro e w' ⟨rfl, rfl⟩)
  refine ⟨rfl, by kernel_rfl, ?_⟩
  clear hru hcf hrow1 hrow2 hcc h01 h02 hr1 hr2
  have hm0 : No (w.heap.size + 1 + 1) ∨ w.heap.size ≤ w.heap.size + 1 + 1 := .inr (by omega)
  have hm1 : No w.heap.size ∨ w.heap.size ≤ w.heap.size := .inr (by omega)
  cases lf
  · go_wp2
    have hR4 := blk_set (blk_set (blk_set (blk_set (blk_set hR3 0 (.int .i64 0)) 1 (.int .i64 0)) 2 (.int .u8 0)) 3 (.int .i64 cl)) 4 (.int .i64 sq)
    have hQ4 := blk_at hR4
    have hF4 := blk_free hR4
    refine bodyPost_ret (v := .agg #[.int .i64 0, .int .i64 0, .int .u8 0, .int .i64 cl, .int .i64 sq]) (by simp [results, Tryz.results116, go_sem, hQ4, hF4]) rfl ⟨rfl, ?_⟩
    exact (mod_setO (mod_setO (mod_setO (mod_setO (mod_setO hM3 hm0) hm0) hm0) hm0) hm0).drew
  · go_wp2
    have hR4 := blk_set (blk_set (blk_set (blk_set (blk_set (blk_set_other (a := ⟨w.heap.size, 1, none⟩) hR3 (by dsimp only; omega) (.int .i64 q)) 0 (.int .i64 k)) 1 (.int .i64 q)) 2 (.int .u8 ch)) 3 (.int .i64 cl)) 4 (.int .i64 sq)
    have hQ4 := blk_at hR4
    have hF4 := blk_free hR4
    refine bodyPost_ret (v := .agg #[.int .i64 k, .int .i64 q, .int .u8 ch, .int .i64 cl, .int .i64 sq]) (by simp [results, Tryz.results116, go_sem, hQ4, hF4]) rfl ⟨rfl, ?_⟩
    exact (mod_setO (mod_setO (mod_setO (mod_setO (mod_setO (mod_setO hM3 hm1) hm0) hm0) hm0) hm0) hm0).drew
end Go.Proofs.YtjojhfphlnfimaaGreatDoor.J
