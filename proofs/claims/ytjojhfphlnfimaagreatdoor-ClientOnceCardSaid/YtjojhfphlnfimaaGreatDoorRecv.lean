/- Receive, of the datagrams that a plain server sends. -/
import Derived.Test.YtjojhfphlnfimaaGreatDoorTake
namespace Go.Proofs.YtjojhfphlnfimaaGreatDoor.J
open Go Go.RowKit
set_option linter.unusedSimpArgs false
set_option linter.unusedVariables false

theorem wrap_ok (a e0 : Int) (w : World) : Calls Tryz.prog 46 #[.int .i64 a, .int .i64 e0] w fun e w' => (∃ q, e = .returned (.iface 157 (.pointer (some q)))) ∧ Mod No w w' := by
  go_enter Tryz.func46, Tryz.ntmps46
  go_wp2
  go_ret
  exact ⟨⟨_, rfl⟩, (Mod.refl No w).alloc _⟩

set_option maxRecDepth 100000 in
set_option maxHeartbeats 4000000 in
theorem recv4 (m : Msg) (hm : m = ⟨4, 1, 1, 0, 0, 0, 0, 0, 0, ⟨0, 0, 0, 0, 0⟩⟩) (p po pi pm ps : Nat) (o : Oc) (cum : Int) (l : List (Int × Op)) (R : List Value) (B : Option Addr) (n c : Nat) (w : World)
    (h : OcAt w p po pi pm ps o cum l R) (he : o.ep = 0) (hr : Rd kB w B n c (encE m)) (hg : goodE m) (hO : OcT w) (hT : WsT w) (hS : WshT w) :
    Calls Tryz.prog 32 #[.pointer (some ⟨p, 0, none⟩), .slice B n c] w fun e w' => e = .returned .nilIface ∧ OcAt w' p po pi pm ps { o with ep := 1, ph := .iface 170 (.agg #[]), base := o.hav } 0 [] R ∧ Mod (fun b => b = p ∨ b = pi ∨ b = pm ∨ b = po) w w' := by
  have hdc := decode_ok m (by rw [hm]; simp) hg B n c w hr hO hT hS
  have hrf := fun w' (h' : OcAt w' p po pi pm ps o cum l R) => refused4 p po pi pm ps o cum l R m w' h' (by rw [hm]) (by rw [hm]) (by rw [hm]) (by omega)
  have hiv := fun w' (h' : OcAt w' p po pi pm ps o cum l R) => invited_ok p po pi pm ps o cum l R w' h' he
  subst hm
  simp only [Msg.v] at hdc hrf
  have HH := Lib.hid h
  clear h hr hg hO hT hS
  go_enter Tryz.func32, Tryz.ntmps32
  go_wp2_with (first
    | (go_at_call 25; refine hdc.mono ?_; rintro e w1 ⟨rfl, hm1⟩; have hX2 := blk_new w1 (.cells #[.int .i64 4, .int .i64 1, .int .i64 1, .int .i64 0, .int .i64 0, .int .i64 0, .int .i64 0, .int .i64 0, .int .i64 0, .int .i64 0, .int .i64 0, .int .u8 0, .int .i64 0, .int .i64 0] 34) rfl; have hQX2 := blk_at hX2; have HO2 := Lib.hid (HH.out.mod0 (hm1.alloc (.cells #[.int .i64 4, .int .i64 1, .int .i64 1, .int .i64 0, .int .i64 0, .int .i64 0, .int .i64 0, .int .i64 0, .int .i64 0, .int .i64 0, .int .i64 0, .int .u8 0, .int .i64 0, .int .i64 0] 34))))
    | (go_at_call 56; refine (hrf _ HO2.out).mono ?_; rintro e w3 ⟨rfl, hm3⟩; have HO3 := Lib.hid (HO2.out.mod0 hm3); have hX3 := hm3.heap hX2 (fun h => h); have hQX3 := blk_at hX3)
    | (go_at_call 57; refine (hiv _ HO3.out).mono ?_; rintro e w4 ⟨rfl, hO4, hm4⟩))
  go_ret
  exact ⟨rfl, hO4, (Mod.of ((hm1.alloc _).then0 hm3)).and hm4⟩

set_option maxRecDepth 100000 in
set_option maxHeartbeats 4000000 in
theorem recv6 (m : Msg) (hm : m = ⟨6, 1, 1, 0, 0, 0, 0, 0, 0, ⟨0, 0, 0, 0, 0⟩⟩) (p po pi pm ps : Nat) (o : Oc) (cum : Int) (l : List (Int × Op)) (R : List Value) (B : Option Addr) (n c : Nat) (w : World)
    (h : OcAt w p po pi pm ps o cum l R) (he : o.ep = 1) (hr : Rd kB w B n c (encE m)) (hg : goodE m) (hO : OcT w) (hT : WsT w) (hS : WshT w) :
    Calls Tryz.prog 32 #[.pointer (some ⟨p, 0, none⟩), .slice B n c] w fun e w' => e = .returned .nilIface ∧ OcAt w' p po pi pm ps { o with ph := .iface 136 (.agg #[]) } cum l R ∧ Mod (fun b => b = p) w w' := by
  have hdc := decode_ok m (by rw [hm]; simp) hg B n c w hr hO hT hS
  have hrf := fun w' (h' : OcAt w' p po pi pm ps o cum l R) => refused6 p po pi pm ps o cum l R m w' h' (by rw [hm]) (by rw [hm]) (by rw [hm]) he (by rw [hm])
  subst hm
  simp only [Msg.v] at hdc hrf
  have HH := Lib.hid h
  obtain ⟨ph, ep, hav, base, tA, tc, text, s2⟩ := o
  dsimp only at he
  subst he
  clear h hr hg hO hT hS
  go_enter Tryz.func32, Tryz.ntmps32
  go_upto_region 12 with (first
    | (go_at_call 25; refine hdc.mono ?_; rintro e w1 ⟨rfl, hm1⟩; have hX2 := blk_new w1 (.cells #[.int .i64 6, .int .i64 1, .int .i64 1, .int .i64 0, .int .i64 0, .int .i64 0, .int .i64 0, .int .i64 0, .int .i64 0, .int .i64 0, .int .i64 0, .int .u8 0, .int .i64 0, .int .i64 0] 34) rfl; have hQX2 := blk_at hX2; have HO2 := Lib.hid (HH.out.mod0 (hm1.alloc (.cells #[.int .i64 6, .int .i64 1, .int .i64 1, .int .i64 0, .int .i64 0, .int .i64 0, .int .i64 0, .int .i64 0, .int .i64 0, .int .i64 0, .int .i64 0, .int .u8 0, .int .i64 0, .int .i64 0] 34))))
    | (go_at_call 56; refine (hrf _ HO2.out).mono ?_; rintro e w3 ⟨rfl, hm3⟩; have HO3 := Lib.hid (HO2.out.mod0 hm3); have hX3 := hm3.heap hX2 (fun h => h); have hQX3 := blk_at hX3; have hQ3 := blk_at HO3.out.hp; unfold ocL at hQ3; dsimp only at hQ3; have hF3 := blk_free HO3.out.hp))
  have hs1 := hm1.size
  have hpl := blk_lt HH.out.hp
  refine cut_worldO (F := fun w5 => Hid (OcAt w5 p po pi pm ps ⟨.iface 136 (.agg #[]), 1, hav, base, tA, tc, text, s2⟩ cum l R ∧ w5.heap[w1.heap.size]? = some (.cells #[.int .i64 6, .int .i64 1, .int .i64 1, .int .i64 0, .int .i64 0, .int .i64 0, .int .i64 0, .int .i64 0, .int .i64 0, .int .i64 0, .int .i64 0, .int .u8 0, .int .i64 0, .int .i64 0] 34 (0, 0)) ∧ Mod (fun b => b = p) w w5))
    ⟨HO3.out.setP 2 (.iface 136 (.agg #[])) (ocL_ph po pi ps _ R _) rfl rfl rfl, blk_set_other hX3 (by dsimp only; omega) _, mod_setO (Mod.of ((hm1.alloc _).then0 hm3)) (.inl rfl)⟩ ?_
  clear HO3 hX3 hQX3 hQ3 hF3 HO2 hX2 hQX2
  rintro w5 HW5
  have hQ5 := blk_at HW5.out.1.hp
  unfold ocL at hQ5
  dsimp only at hQ5
  have hX5 := HW5.out.2.1
  have hQX5 := blk_at hX5
  refine wp_region_text (by kernel_rfl) (by kernel_rfl) (by kernel_rfl) (by kernel_rfl) ?_
  go_wp2_with (go_at_call 58; refine (ack_0 po _ _ w5.drew HW5.out.1.ho).mono ?_; rintro e w6 ⟨rfl, rfl⟩)
  refine ⟨rfl, by kernel_rfl, ?_⟩
  go_wp2
  go_ret
  exact ⟨rfl, HW5.out.1.drew, HW5.out.2.2.drew⟩
end Go.Proofs.YtjojhfphlnfimaaGreatDoor.J
