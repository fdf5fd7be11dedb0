/- joined: the client 1, open in the epoch 1. -/
import Derived.Test.YtjojhfphlnfimaaGreatDoorJoin
namespace Go.Proofs.YtjojhfphlnfimaaGreatDoor.J
open Go Go.RowKit
set_option linter.unusedSimpArgs false
set_option linter.unusedVariables false

def oc0 : Oc := ⟨.iface 114 (.agg #[]), 0, 0, 0, none, 0, [], 0⟩
set_option maxRecDepth 100000 in
set_option maxHeartbeats 1000000 in
theorem newOc_ok (w : World) :
    Calls Tryz.prog 21 #[.int .i64 1] w fun e w' => ∃ p po pi pm ps, e = .returned (.tuple #[.pointer (some ⟨p, 0, none⟩), .int .i64 0]) ∧ OcAt w' p po pi pm ps oc0 0 [] ocR ∧ Mod No w w' ∧ w.heap.size ≤ p ∧ w.heap.size ≤ po ∧ w.heap.size ≤ pi ∧ w.heap.size ≤ pm ∧ w.heap.size ≤ ps := by
  have hz := zero_Client
  go_enter Tryz.func21, Tryz.ntmps21
  go_wp2_with (first | (go_at_call 41; refine (outNew_ok _).mono ?_; rintro e w1 ⟨rfl, rfl⟩) | (go_at_call 42; refine (inNew_ok _).mono ?_; rintro e w1 ⟨rfl, rfl⟩) | (go_at_call 34; refine (spNew_ok _ _).mono ?_; rintro e w1 ⟨rfl, rfl⟩))
  go_ret2
  clear hz
  refine ⟨w.heap.size + 1 + 1 + 1 + 1, w.heap.size, w.heap.size + 1 + 1, w.heap.size + 1, w.heap.size + 1 + 1 + 1, rfl, ?_, (((((Mod.refl _ _).alloc _).alloc _).alloc _).alloc _).alloc _, by omega, by omega, by omega, by omega, by omega⟩
  refine { hp := ?_, ho := ?_, hi := ⟨?_, #[], 0, ?_, heldOk.nil⟩, hs := ?_, ht := Rd.nil _ _, hb := fun a ha => (nomatch ha), dd := by omega }
  · exact blk_new _ _ (by simp)
  · exact blk_alloc (blk_alloc (blk_alloc (blk_alloc (blk_new _ _ rfl) _) _) _) _
  · exact blk_alloc (blk_alloc (blk_new _ _ (by simp)) _) _
  · exact blk_alloc (blk_alloc (blk_alloc (blk_new _ _ (by simp)) _) _) _
  · exact blk_alloc (blk_new _ _ (by simp)) _

/-- The three tables stand in their variables. -/
structure Tabs (w : World) : Prop where
  oc : OcT w
  ws : WsT w
  sh : WshT w
theorem Tabs.mod0 {w w' : World} (h : Tabs w) (hm : Mod No w w') : Tabs w' := ⟨h.oc.mod hm (fun h => h), h.ws.mod hm (fun h => h), h.sh.mod0 hm⟩

theorem OcAt.beside' {w6 w' : World} {p po pi pm ps rb B : Nat} {o : Oc} {cum : Int} {l : List (Int × Op)} {R : List Value} (h : OcAt w6 p po pi pm ps o cum l R) (hm : Mod (fun b => b = rb) w6 w') (hrb : B ≤ rb) (hl : p < B ∧ po < B ∧ pi < B ∧ pm < B ∧ ps < B) (ht : inBlk o.tA (fun b => b ≠ rb) ∨ o.text = []) : OcAt w' p po pi pm ps o cum l R :=
  h.beside hm (by omega) (by omega) (by omega) (by omega) (by omega) ht

set_option maxRecDepth 100000 in
set_option maxHeartbeats 4000000 in
theorem joined_ok (w : World) (hT : Tabs w) :
    Calls Tryz.prog 8 #[.int .i64 1] w fun e w' => ∃ p po pi pm ps, e = .returned (.tuple #[.pointer (some ⟨p, 0, none⟩), .bool true]) ∧ OcAt w' p po pi pm ps ⟨.iface 136 (.agg #[]), 1, 0, 0, none, 0, [], 0⟩ 0 [] ocR ∧ Mod No w w' ∧ w.heap.size ≤ p ∧ w.heap.size ≤ po ∧ w.heap.size ≤ pi ∧ w.heap.size ≤ pm ∧ w.heap.size ≤ ps := by
  have hg4 : goodE ⟨4, 1, 1, 0, 0, 0, 0, 0, 0, ⟨0, 0, 0, 0, 0⟩⟩ := by
    intro f h1 h2
    have : f = 1 ∨ f = 2 ∨ f = 3 ∨ f = 4 ∨ f = 5 ∨ f = 6 ∨ f = 7 ∨ f = 8 ∨ f = 9 ∨ f = 10 ∨ f = 11 ∨ f = 12 ∨ f = 13 := by omega
    rcases this with rfl | rfl | rfl | rfl | rfl | rfl | rfl | rfl | rfl | rfl | rfl | rfl | rfl
    all_goals simp [namedE, holdsE, fromE, toE, Msg.get]
  have hg6 : goodE ⟨6, 1, 1, 0, 0, 0, 0, 0, 0, ⟨0, 0, 0, 0, 0⟩⟩ := by
    intro f h1 h2
    have : f = 1 ∨ f = 2 ∨ f = 3 ∨ f = 4 ∨ f = 5 ∨ f = 6 ∨ f = 7 ∨ f = 8 ∨ f = 9 ∨ f = 10 ∨ f = 11 ∨ f = 12 ∨ f = 13 := by omega
    rcases this with rfl | rfl | rfl | rfl | rfl | rfl | rfl | rfl | rfl | rfl | rfl | rfl | rfl
    all_goals simp [namedE, holdsE, fromE, toE, Msg.get]
  have ht4 : ∀ p po pi pm ps w1, OcAt w1 p po pi pm ps oc0 0 [] ocR → Tabs w1 → Calls Tryz.prog 10 #[.pointer (some ⟨p, 0, none⟩), (⟨4, 1, 1, 0, 0, 0, 0, 0, 0, ⟨0, 0, 0, 0, 0⟩⟩ : Msg).v] w1 fun e w2 => e = .returned (.bool true) ∧ OcAt w2 p po pi pm ps { oc0 with ep := 1, ph := .iface 170 (.agg #[]), base := 0 } 0 [] ocR ∧ Mod (fun b => b = p ∨ b = pi ∨ b = pm ∨ b = po) w1 w2 := by
    intro p po pi pm ps w1 hO hTb
    have l1 := blk_lt hO.hp
    have l2 := blk_lt hO.ho
    have l3 := blk_lt hO.hi.1
    have l4 : pm < w1.heap.size := by obtain ⟨es, ck, hmm, _⟩ := hO.hi.2; exact blk_lt hmm
    have l5 := blk_lt hO.hs
    refine (told_gen _ (by simp) (by simp) hg4 p w1 (fun v w5 w6 => v = .nilIface ∧ OcAt w6 p po pi pm ps { oc0 with ep := 1, ph := .iface 170 (.agg #[]), base := 0 } 0 [] ocR ∧ Mod (fun b => b = p ∨ b = pi ∨ b = pm ∨ b = po) w5 w6) ?_).mono ?_
    · intro w5 B n c hm5 hr5
      refine (recv4 _ rfl p po pi pm ps oc0 0 [] ocR B n c w5 (hO.mod0 hm5) rfl hr5 hg4 (hTb.mod0 hm5).oc (hTb.mod0 hm5).ws (hTb.mod0 hm5).sh).mono ?_
      rintro e w6 ⟨rfl, h6, hm6⟩
      exact ⟨_, rfl, .inl rfl, ⟨rfl, h6, hm6⟩, hm6.mono (fun b _ h => by omega)⟩
    · rintro e w' ⟨v, bv, w5, w6, rb, rfl, hv, ⟨rfl, h6, hm6⟩, hm5, hm7, hr1, hr2⟩
      have hbv : bv = true := by rcases hv with ⟨_, h⟩ | ⟨⟨a, h⟩, _⟩; exact h; cases h
      subst hbv
      exact ⟨rfl, h6.beside' (B := w1.heap.size) hm7 hr1 ⟨l1, l2, l3, l4, l5⟩ (.inr rfl), ((Mod.of hm5).trans hm6 (fun b hb h => h)).trans hm7 (fun b hb h => by omega)⟩
  have ht6 : ∀ p po pi pm ps w1, OcAt w1 p po pi pm ps { oc0 with ep := 1, ph := .iface 170 (.agg #[]), base := 0 } 0 [] ocR → Tabs w1 → Calls Tryz.prog 10 #[.pointer (some ⟨p, 0, none⟩), (⟨6, 1, 1, 0, 0, 0, 0, 0, 0, ⟨0, 0, 0, 0, 0⟩⟩ : Msg).v] w1 fun e w2 => e = .returned (.bool true) ∧ OcAt w2 p po pi pm ps ⟨.iface 136 (.agg #[]), 1, 0, 0, none, 0, [], 0⟩ 0 [] ocR ∧ Mod (fun b => b = p ∨ b = pi ∨ b = pm ∨ b = po) w1 w2 := by
    intro p po pi pm ps w1 hO hTb
    have l1 := blk_lt hO.hp
    have l2 := blk_lt hO.ho
    have l3 := blk_lt hO.hi.1
    have l4 : pm < w1.heap.size := by obtain ⟨es, ck, hmm, _⟩ := hO.hi.2; exact blk_lt hmm
    have l5 := blk_lt hO.hs
    refine (told_gen _ (by simp) (by simp) hg6 p w1 (fun v w5 w6 => v = .nilIface ∧ OcAt w6 p po pi pm ps ⟨.iface 136 (.agg #[]), 1, 0, 0, none, 0, [], 0⟩ 0 [] ocR ∧ Mod (fun b => b = p) w5 w6) ?_).mono ?_
    · intro w5 B n c hm5 hr5
      refine (recv6 _ rfl p po pi pm ps _ 0 [] ocR B n c w5 (hO.mod0 hm5) rfl hr5 hg6 (hTb.mod0 hm5).oc (hTb.mod0 hm5).ws (hTb.mod0 hm5).sh).mono ?_
      rintro e w6 ⟨rfl, h6, hm6⟩
      exact ⟨_, rfl, .inl rfl, ⟨rfl, h6, hm6⟩, hm6.mono (fun b _ h => by omega)⟩
    · rintro e w' ⟨v, bv, w5, w6, rb, rfl, hv, ⟨rfl, h6, hm6⟩, hm5, hm7, hr1, hr2⟩
      have hbv : bv = true := by rcases hv with ⟨_, h⟩ | ⟨⟨a, h⟩, _⟩; exact h; cases h
      subst hbv
      exact ⟨rfl, h6.beside' (B := w1.heap.size) hm7 hr1 ⟨l1, l2, l3, l4, l5⟩ (.inr rfl), ((Mod.of hm5).trans hm6 (fun b hb h => .inl h)).trans hm7 (fun b hb h => by omega)⟩
  simp only [Msg.v] at ht4 ht6
  clear hg4 hg6
  go_enter Tryz.func8, Tryz.ntmps8
  all_goals skip
  go_upto_region 7 with (first
    | (go_at_call 21; refine (newOc_ok _).mono ?_; rintro e w1 ⟨p, po, pi, pm, ps, rfl, hO1, hm1, b1, b2, b3, b4, b5⟩; have HO1 := Lib.hid hO1; have HT1 := Lib.hid (hT.mod0 hm1); clear hO1)
    | (go_at_call 22; refine (num_any _ _).mono ?_; rintro e w' ⟨rfl, rfl⟩)
    | (go_at_call 10; refine (ht4 p po pi pm ps _ HO1.out HT1.out).mono ?_; rintro e w2 ⟨rfl, hO2, hm2⟩; have HO2 := Lib.hid hO2; have HM2 := Lib.hid (hm1.trans hm2 (fun b hb h => by omega)); have HT2 := Lib.hid (hT.mod0 HM2.out); clear hO2 ht4)
    | (go_at_call 10; refine (ht6 p po pi pm ps _ HO2.out HT2.out).mono ?_; rintro e w3 ⟨rfl, hO3, hm3⟩; have HO3 := Lib.hid hO3; have HM3 := Lib.hid (HM2.out.trans hm3 (fun b hb h => by omega)); clear hO3 ht6)
    | (go_at_call 11; refine (view_joined p po pi pm ps _ 0 [] ocR _ HO3.out (by simp) rfl).mono ?_; rintro e w4 ⟨A4, d4, B4, b4', rfl, hm4⟩))
  have HM4 := Lib.hid (HM3.out.then0 hm4)
  have HO4 := Lib.hid (HO3.out.mod0 hm4)
  have hX := blk_new w4 (.cells #[.int .i64 1, .int .i64 1, .bool true, .int .i64 0, .int .i64 0, .slice A4 0 d4, .slice B4 0 b4'] 38) rfl
  have hQX := blk_at hX
  refine wp_region_text (by kernel_rfl) (by kernel_rfl) (by kernel_rfl) (by kernel_rfl) ?_
  go_wp2
  refine ⟨rfl, by kernel_rfl, ?_⟩
  go_wp2
  go_ret2
  exact ⟨p, po, pi, pm, ps, rfl, (HO4.out.mod0 ((Mod.refl No w4).alloc _)).drew, (HM4.out.alloc _).drew, by omega, by omega, by omega, by omega, by omega⟩
end Go.Proofs.YtjojhfphlnfimaaGreatDoor.J
