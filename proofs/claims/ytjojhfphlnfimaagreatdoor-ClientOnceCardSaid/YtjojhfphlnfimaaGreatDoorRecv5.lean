/- Receive of a record. -/
import Derived.Test.YtjojhfphlnfimaaGreatDoorRecv
namespace Go.Proofs.YtjojhfphlnfimaaGreatDoor.J
open Go Go.RowKit
set_option linter.unusedSimpArgs false
set_option linter.unusedVariables false

/-- What is held, of records. -/
structure HeldInv (L : List Op) (h : Nat) (l : List (Int × Op)) : Prop where
  dist : distH l
  inL : heldIn L l
  above : ∀ k, (findH k l).isSome = true → (h : Int) < k
  next : findH ((h : Int) + 1) l = none
  le : h ≤ L.length

/-- What becomes of it by number n. -/
def heldStep (h : Nat) (l : List (Int × Op)) (n : Nat) (j : Nat) (l' : List (Int × Op)) : Prop :=
  h ≤ j ∧ (∀ k : Int, (findH k l').isSome = true ↔ ((j : Int) < k ∧ ((findH k l).isSome = true ∨ (k = n ∧ (h : Int) < k)))) ∧ (∀ k : Int, (h : Int) < k → k ≤ j → (findH k l).isSome = true ∨ k = n)

theorem step_plain (L : List Op) (h : Nat) (l : List (Int × Op)) (nn : Nat) (q : Op) (j : Nat) (l' : List (Int × Op)) (hI : HeldInv L h l) (hj : h ≤ j)
    (hf : ∀ k : Int, findH k l' = if k ≤ j ∧ (h : Int) < k then none else findH k (l ++ [((nn : Int) + 1, q)])) (hg : ∀ k : Int, (h : Int) < k → k ≤ j → (findH k (l ++ [((nn : Int) + 1, q)])).isSome = true) (hlt : (h : Int) < (nn : Int) + 1) :
    (∀ k, (findH k l').isSome = true → (j : Int) < k) ∧ heldStep h l (nn + 1) j l' := by
  have hap : ∀ k, (findH k (l ++ [((nn : Int) + 1, q)])).isSome = true ↔ (findH k l).isSome = true ∨ k = (nn : Int) + 1 := by
    intro k
    rw [findH_append]
    cases hs : (findH k l).isSome
    · by_cases hk : k = (nn : Int) + 1
      · simp [hk]
      · simp [hk]
    · simp [hs]
  have hiff : ∀ k, (findH k l').isSome = true ↔ ¬ (k ≤ j ∧ (h : Int) < k) ∧ ((findH k l).isSome = true ∨ k = (nn : Int) + 1) := by
    intro k
    rw [hf, ← hap]
    by_cases hc : k ≤ (j : Int) ∧ (h : Int) < k
    · simp [hc]
    · rw [if_neg hc]; simp [hc]
  have habv : ∀ k, ((findH k l).isSome = true ∨ k = (nn : Int) + 1) → (h : Int) < k := by
    intro k hk
    rcases hk with hk | rfl
    · exact hI.above k hk
    · exact hlt
  refine ⟨fun k hk => ?_, hj, fun k => ?_, fun k h1 h2 => ?_⟩
  · obtain ⟨h1, h2⟩ := (hiff k).1 hk
    have := habv k h2
    omega
  · rw [hiff]
    push_cast
    constructor
    · rintro ⟨h1, h2⟩
      have h3 := habv k h2
      refine ⟨by omega, ?_⟩
      rcases h2 with h2 | h2
      · exact .inl h2
      · exact .inr ⟨h2, h3⟩
    · rintro ⟨h1, h2⟩
      refine ⟨by omega, ?_⟩
      rcases h2 with h2 | h2
      · exact .inl h2
      · exact .inr h2.1
  · have := (hap k).1 (hg k h1 h2)
    push_cast
    exact this

set_option maxRecDepth 100000 in
set_option maxHeartbeats 8000000 in
theorem recv5 (L : List Op) (hL : recsOk L) (q : Op) (nn : Nat) (hq : L[nn]? = some q) (m : Msg) (hm : m = ⟨5, 1, 1, 0, 0, (nn : Int) + 1, 0, (nn : Int) + 1, 0, q⟩)
    (p po pi pm ps : Nat) (ph : Value) (tA : Option Addr) (tc h : Nat) (l : List (Int × Op)) (R : List Value) (B : Option Addr) (n c : Nat) (w : World)
    (hO : OcAt w p po pi pm ps ⟨ph, 1, h, 0, tA, tc, textE L h, h⟩ h l R) (hI : HeldInv L h l) (hr : Rd kB w B n c (encE m)) (hg : goodE m) (hOc : OcT w) (hT : WsT w) (hS : WshT w) :
    Calls Tryz.prog 32 #[.pointer (some ⟨p, 0, none⟩), .slice B n c] w fun e w' =>
      (nn + 1 > h + 8 → (∃ a, e = .returned (.iface 157 (.pointer (some a)))) ∧ Mod No w w') ∧
      (nn + 1 ≤ h + 8 → e = .returned .nilIface ∧ ∃ (j : Nat) (l' : List (Int × Op)) (A : Option Addr) (tc' : Nat), OcAt w' p po pi pm ps ⟨.iface 136 (.agg #[]), 1, j, 0, A, tc', textE L j, j⟩ j l' R ∧ HeldInv L j l' ∧ heldStep h l (nn + 1) j l' ∧ Mod (fun b => b = p ∨ b = pi ∨ b = pm) w w' ∧ ((A = tA ∧ j = h) ∨ inBlk A (fun b => w.heap.size ≤ b))) := by
  have hnl : nn < L.length := (List.getElem?_eq_some_iff.1 hq).1
  have hL64 := hL.1
  have hle := hI.le
  obtain ⟨hqw, hqv, hqc, hqs, hqk, hqp1, hqp2, hqf⟩ := hL.2 _ _ hq
  have hdc := decode_ok m (by rw [hm]; simp) hg B n c w hr hOc hT hS
  obtain ⟨fe, hfe⟩ : ∃ fe : Int, fe = if (nn : Int) + 1 > h + 8 then 93 else 0 := ⟨_, rfl⟩
  have hrf := fun w' (h' : OcAt w' p po pi pm ps ⟨ph, 1, h, 0, tA, tc, textE L h, h⟩ h l R) => refused5 p po pi pm ps ⟨ph, 1, h, 0, tA, tc, textE L h, h⟩ h l R m w' h' (by rw [hm]) (by rw [hm]) (by rw [hm]) rfl (by rw [hm]) rfl (by rw [hm]) (by rw [hm]; dsimp only; omega) (by rw [hm]; dsimp only; omega) (by omega) (by omega)
    (fun e => by
      rw [hm] at e ⊢
      dsimp only at e ⊢
      have : nn = h := by omega
      subst this
      rw [textE_len L hL nn (by omega)]
      exact ⟨hqw, hqv, hqc, hqs, by omega, by omega, hqf⟩) fe (by rw [hm]; exact hfe)
  have hpl := blk_lt hO.hp
  have hil := blk_lt hO.hi.1
  have hml : pm < w.heap.size := by obtain ⟨es, ck, hmm, _⟩ := hO.hi.2; exact blk_lt hmm
  have hol := blk_lt hO.ho
  subst hm
  have HH := Lib.hid hO
  have HI := Lib.hid hI
  have HL := Lib.hid hL
  have HQ := Lib.hid hq
  have HPT := Lib.hid (fun (S : Prop) (hs : S) => hs)
  obtain ⟨q1, q2, q3, q4, q5⟩ := q
  simp only [Msg.v] at hdc hrf
  clear hO hr hg hOc hT hS hI hL hqw hqv hqf hqs hqc hqk hqp1 hqp2 hq
  by_cases hfar : (nn : Int) + 1 > h + 8
  · rw [if_pos hfar] at hfe
    subst hfe
    have HFAR := Lib.hid hfar
    clear hfar
    go_enter Tryz.func32, Tryz.ntmps32
    go_wp2_with (first
      | (go_at_call 25; refine hdc.mono ?_; rintro e w1 ⟨rfl, hm1⟩; have hX2 := blk_new w1 (.cells #[.int .i64 5, .int .i64 1, .int .i64 1, .int .i64 0, .int .i64 0, .int .i64 ((nn : Int) + 1), .int .i64 0, .int .i64 ((nn : Int) + 1), .int .i64 0, .int .i64 q1, .int .i64 q2, .int .u8 q3, .int .i64 q4, .int .i64 q5] 34) rfl; have hQX2 := blk_at hX2; have HO2 := Lib.hid (HH.out.mod0 (hm1.alloc (.cells #[.int .i64 5, .int .i64 1, .int .i64 1, .int .i64 0, .int .i64 0, .int .i64 ((nn : Int) + 1), .int .i64 0, .int .i64 ((nn : Int) + 1), .int .i64 0, .int .i64 q1, .int .i64 q2, .int .u8 q3, .int .i64 q4, .int .i64 q5] 34))))
      | (go_at_call 56; refine (hrf _ HO2.out).mono ?_; rintro e w3 ⟨rfl, hm3⟩)
      | (go_at_call 46; refine (wrap_ok _ _ _).mono ?_; rintro e w4 ⟨⟨a4, rfl⟩, hm4⟩))
    go_ret
    exact ⟨fun _ => ⟨⟨a4, rfl⟩, ((hm1.alloc _).then0 hm3).then0 hm4⟩, fun h => by have := HFAR.out; omega⟩
  · rw [if_neg hfar] at hfe
    subst hfe
    have HFAR := Lib.hid hfar
    clear hfar
    go_enter Tryz.func32, Tryz.ntmps32
    go_upto_region 15 with (first
      | (go_at_call 25; refine hdc.mono ?_; rintro e w1 ⟨rfl, hm1⟩; have hX2 := blk_new w1 (.cells #[.int .i64 5, .int .i64 1, .int .i64 1, .int .i64 0, .int .i64 0, .int .i64 ((nn : Int) + 1), .int .i64 0, .int .i64 ((nn : Int) + 1), .int .i64 0, .int .i64 q1, .int .i64 q2, .int .u8 q3, .int .i64 q4, .int .i64 q5] 34) rfl; have hQX2 := blk_at hX2; have HO2 := Lib.hid (HH.out.mod0 (hm1.alloc (.cells #[.int .i64 5, .int .i64 1, .int .i64 1, .int .i64 0, .int .i64 0, .int .i64 ((nn : Int) + 1), .int .i64 0, .int .i64 ((nn : Int) + 1), .int .i64 0, .int .i64 q1, .int .i64 q2, .int .u8 q3, .int .i64 q4, .int .i64 q5] 34))))
      | (go_at_call 56; refine (hrf _ HO2.out).mono ?_; rintro e w3 ⟨rfl, hm3⟩; have HO3 := Lib.hid (HO2.out.mod0 hm3); have hX3 := hm3.heap hX2 (fun h => h); have hQX3 := blk_at hX3; have hQ3 := blk_at HO3.out.hp; unfold ocL at hQ3; dsimp only at hQ3; have hF3 := blk_free HO3.out.hp))
    have hs1 := hm1.size
    have hbp : w1.heap.size ≠ p := by omega
    refine cut_worldO (F := fun w5 => Hid (OcAt w5 p po pi pm ps ⟨.iface 136 (.agg #[]), 1, h, 0, tA, tc, textE L h, h⟩ h l R ∧ w5.heap[w1.heap.size]? = some (.cells #[.int .i64 5, .int .i64 1, .int .i64 1, .int .i64 0, .int .i64 0, .int .i64 ((nn : Int) + 1), .int .i64 0, .int .i64 ((nn : Int) + 1), .int .i64 0, .int .i64 q1, .int .i64 q2, .int .u8 q3, .int .i64 q4, .int .i64 q5] 34 (0, 0)) ∧ Mod (fun b => b = p ∨ b = pi ∨ b = pm) w w5))
      ⟨HO3.out.setP 2 (.iface 136 (.agg #[])) (ocL_ph po pi ps _ R _) rfl rfl rfl, blk_set_other hX3 hbp _, mod_setO (Mod.of ((hm1.alloc _).then0 hm3)) (.inl (.inl rfl))⟩ ?_
    clear HO3 hX3 hQX3 hQ3 hF3 HO2 hX2 hQX2 hdc hrf
    rintro w5 HW5
    have hQ5 := blk_at HW5.out.1.hp
    unfold ocL at hQ5
    dsimp only at hQ5
    have hX5 := HW5.out.2.1
    have hQX5 := blk_at hX5
    refine wp_region_text (by kernel_rfl) (by kernel_rfl) (by kernel_rfl) (by kernel_rfl) ?_
    go_wp2_with (go_at_call 58; refine (ack_0 po _ _ w5.drew HW5.out.1.ho).mono ?_; rintro e w6 ⟨rfl, rfl⟩)
    refine ⟨rfl, by kernel_rfl, ?_⟩
    go_upto_region 16 with (fail)
    refine wp_region_text (by kernel_rfl) (by kernel_rfl) (by kernel_rfl) (by kernel_rfl) ?_
    by_cases hhere : (findH ((nn : Int) + 1) l).isSome = true ∨ (nn : Int) + 1 ≤ h
    · have hpt := put_here pi pm h ((nn : Int) + 1) l ⟨q1, q2, q3, q4, q5⟩ w5.drew.drew (HW5.out.1.drew.drew).hi (by omega) (by omega) (by omega) (by omega) hhere
      simp only [Op.v] at hpt
      have HHERE := Lib.hid hhere
      clear hhere
      go_wp2_with (go_at_call 59; refine hpt.mono ?_; rintro e w7 ⟨rfl, hm7⟩)
      refine ⟨rfl, by kernel_rfl, ?_⟩
      go_wp2
      go_ret
      refine ⟨fun h => by have := HFAR.out; omega, fun _ => ⟨rfl, h, l, tA, tc, (HW5.out.1.drew.drew).mod0 hm7, HI.out, ⟨Nat.le_refl _, fun k => ⟨fun hk => ⟨HI.out.above k hk, .inl hk⟩, fun hk => ?_⟩, fun k h1 h2 => by omega⟩, (HW5.out.2.2.drew.drew).then0 hm7, .inl ⟨rfl, rfl⟩⟩⟩
      rcases hk with ⟨hk1, hk2 | ⟨rfl, hk3⟩⟩
      · exact hk2
      · rcases HHERE.out with h9 | h9
        · exact h9
        · omega
    · have hn1 : findH ((nn : Int) + 1) l = none := by
        cases hf : findH ((nn : Int) + 1) l with
        | none => rfl
        | some x => exact absurd (.inl (by rw [hf]; rfl)) hhere
      have hlt : (h : Int) < (nn : Int) + 1 := by
        rcases (show (h : Int) < (nn : Int) + 1 ∨ (nn : Int) + 1 ≤ h by omega) with h9 | h9
        · exact h9
        · exact absurd (.inr h9) hhere
      have hpt := put_new pi pm h ((nn : Int) + 1) l ⟨q1, q2, q3, q4, q5⟩ w5.drew.drew (HW5.out.1.drew.drew).hi HW5.out.1.dd.2.2.2.2.2.2.2.2.1 (by omega) (by omega) (by omega) (by omega) hn1 hlt (by have := HFAR.out; omega)
      simp only [Op.v] at hpt
      have HN := Lib.hid hn1
      clear hhere hn1
      have HD' := Lib.hid (distH_push (o := ⟨q1, q2, q3, q4, q5⟩) HI.out.dist HN.out)
      have HIN' := Lib.hid (show heldIn L (l ++ [((nn : Int) + 1, (⟨q1, q2, q3, q4, q5⟩ : Op))]) from fun k x hk => by
        rw [findH_append] at hk
        split at hk
        · exact HI.out.inL k x hk
        · split at hk
          · rename_i e
            cases hk
            exact ⟨nn, by omega, HQ.out⟩
          · cases hk)
      go_wp2_with (first
        | (go_at_call 59; refine hpt.mono ?_; rintro e w7 ⟨rfl, hm7, hI7⟩; have HO7 := Lib.hid ((HW5.out.1.drew.drew).inbox (hm7.mono (fun b _ h => .inr h)) hI7); have hs7 := hm7.size; have hs5 := HW5.out.2.2.size))
      refine ⟨rfl, by kernel_rfl, ?_⟩
      go_wp2_with (first
        | (go_at_call 60; refine (takeIn_ok L HL.out p po pi pm ps _ 1 0 tA tc h _ R w7 HO7.out HD'.out HIN'.out HI.out.le ⟨blk_lt HO7.out.hp, blk_lt HO7.out.hi.1, by obtain ⟨es, ck, hmm, _⟩ := HO7.out.hi.2; exact blk_lt hmm, blk_lt HO7.out.ho⟩).mono ?_; rintro e w8 ⟨rfl, j, l', A', c', hj1, hj2, hO8, hd8, hin8, hf8, hg8, hn8, hm8, hTA8⟩))
      go_ret
      have hst := step_plain L h l nn ⟨q1, q2, q3, q4, q5⟩ j l' HI.out hj1 hf8 hg8 (by omega)
      exact ⟨fun h => by have := HFAR.out; omega, fun _ => ⟨rfl, j, l', A', c', hO8, ⟨hd8, hin8, hst.1, hn8, hj2⟩, hst.2, (HW5.out.2.2.drew.drew.and (hm7.mono (fun b _ h => .inr (.inr h)))).and hm8, hTA8.imp id (fun h a ha => by have h9 : w7.heap.size ≤ a.block := h a ha; have h10 := HW5.out.2.2.size; have h11 : w5.heap.size ≤ w7.heap.size := hm7.size; show w.heap.size ≤ a.block; omega)⟩⟩
end Go.Proofs.YtjojhfphlnfimaaGreatDoor.J
