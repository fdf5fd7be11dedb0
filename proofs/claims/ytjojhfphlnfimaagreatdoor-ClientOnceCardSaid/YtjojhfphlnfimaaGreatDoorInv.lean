/- A new epoch begins; the records that are next are taken in. -/
import Derived.Test.YtjojhfphlnfimaaGreatDoorRef5
namespace Go.Proofs.YtjojhfphlnfimaaGreatDoor.J
open Go Go.RowKit
set_option linter.unusedSimpArgs false
set_option linter.unusedVariables false

section
variable (po pi ps : Nat) (o : Oc) (R : List Value)
theorem ocL_ep (e : Int) : (ocL po pi ps o R).toArray.setIfInBounds 4 (.int .i64 e) = (ocL po pi ps { o with ep := e } R).toArray := by simp [ocL]
theorem ocL_ph (v : Value) : (ocL po pi ps o R).toArray.setIfInBounds 2 v = (ocL po pi ps { o with ph := v } R).toArray := by simp [ocL]
theorem ocL_base (e : Int) : (ocL po pi ps o R).toArray.setIfInBounds 7 (.int .i64 e) = (ocL po pi ps { o with base := e } R).toArray := by simp [ocL]
theorem ocL_hav (e : Int) : (ocL po pi ps o R).toArray.setIfInBounds 6 (.int .i64 e) = (ocL po pi ps { o with hav := e } R).toArray := by simp [ocL]
theorem ocL_s2 (e : Int) : (ocL po pi ps o R).toArray.setIfInBounds 13 (.int .i64 e) = (ocL po pi ps { o with s2 := e } R).toArray := by simp [ocL]
theorem ocL_text (A : Option Addr) (n c : Nat) (l : List Elem) (h : n = l.length) : (ocL po pi ps o R).toArray.setIfInBounds 8 (.slice A n c) = (ocL po pi ps { o with tA := A, tc := c, text := l } R).toArray := by simp [ocL, h]
end

set_option maxRecDepth 100000 in
set_option maxHeartbeats 2000000 in
theorem invited_ok (p po pi pm ps : Nat) (o : Oc) (cum : Int) (l : List (Int × Op)) (R : List Value) (w : World) (h : OcAt w p po pi pm ps o cum l R) (he : o.ep = 0) :
    Calls Tryz.prog 57 #[.pointer (some ⟨p, 0, none⟩), .int .i64 1] w fun e w' => e = .returned (.tuple #[]) ∧ OcAt w' p po pi pm ps { o with ep := 1, ph := .iface 170 (.agg #[]), base := o.hav } 0 [] R ∧ Mod (fun b => b = p ∨ b = pi ∨ b = pm ∨ b = po) w w' := by
  obtain ⟨d1, d2, d3, d4, d5, d6, d7, d8, d9, d10⟩ := h.dd
  have hP := h.hp
  have hP3 := blk_set (blk_set (blk_set hP 4 (.int .i64 1)) 2 (.iface 170 (.agg #[]))) 7 (.int .i64 o.hav)
  rw [ocL_ep, ocL_ph, ocL_base] at hP3
  have hI3 : InAt (((w.setCell ⟨p, 4, none⟩ (.int .i64 1)).setCell ⟨p, 2, none⟩ (.iface 170 (.agg #[]))).setCell ⟨p, 7, none⟩ (.int .i64 o.hav)) pi pm cum l 148 :=
    h.hi.mod (mod_setO (mod_setO (mod_setO (Mod.refl (fun b => b = p) w) (.inl rfl)) (.inl rfl)) (.inl rfl)) d2 d3
  have hM3 : Mod (fun b => b = p) w (((w.setCell ⟨p, 4, none⟩ (.int .i64 1)).setCell ⟨p, 2, none⟩ (.iface 170 (.agg #[]))).setCell ⟨p, 7, none⟩ (.int .i64 o.hav)) := mod_setO (mod_setO (mod_setO (Mod.refl (fun b => b = p) w) (.inl rfl)) (.inl rfl)) (.inl rfl)
  have hQP := blk_at hP
  have hFP := blk_free hP
  have HH := Lib.hid h
  have hir := fun w' (h' : InAt w' pi pm cum l 148) => ireset_ok pi pm cum l w' h' d9
  obtain ⟨ph, ep, hav, base, tA, tc, text, s2⟩ := o
  dsimp only at he hP3 hI3 hM3 ⊢
  subst he
  unfold ocL at hQP
  dsimp only at hQP
  have HP3 := Lib.hid hP3
  have HM3 := Lib.hid hM3
  clear h hP hP3 hM3
  go_enter Tryz.func57, Tryz.ntmps57
  go_wp2_with (first
    | (go_at_call 87; refine (hir _ hI3).mono ?_; rintro e w1 ⟨rfl, hm1, hI1⟩; have hP1 := hm1.heap HP3.out (by omega); have hQ1 := blk_at hP1; unfold ocL at hQ1; dsimp only at hQ1; have hO1 := hm1.heap (HM3.out.heap HH.out.ho d1) (by omega))
    | (go_at_call 88; refine (oreset_0 po _ hO1).mono ?_; rintro e w2 ⟨rfl, hm2, hO2⟩; have hP2 := hm2.heap hP1 (by omega); have hQ2 := blk_at hP2; unfold ocL at hQ2; dsimp only at hQ2))
  go_loopw [45] (fun s45 wr => s45 = .int .i64 0 ∧ wr = w2) (fun _ _ => 0)
  case atStart => exact ⟨rfl, rfl⟩
  case round =>
    obtain ⟨rfl, rfl⟩ := hrel
    go_wp2
    go_end0
    have hMa : Mod (fun b => b = p ∨ b = pi ∨ b = pm ∨ b = po) w wr := ((HM3.out.mono (fun b _ h => .inl h)).and (hm1.mono (fun b _ h => by rcases h with h | h; exact .inr (.inl h); exact .inr (.inr (.inl h))))).and (hm2.mono (fun b _ h => .inr (.inr (.inr h))))
    refine ⟨rfl, ⟨hm2.heap hP1 (by omega), hO2, hI1.mod hm2 (by omega) (by omega), hMa.heap HH.out.hs (by omega), HH.out.ht.mod hMa (fun a ha => ?_), HH.out.hb, HH.out.dd⟩, hMa⟩
    have := HH.out.hb a ha
    dsimp only at this
    omega
end Go.Proofs.YtjojhfphlnfimaaGreatDoor.J
