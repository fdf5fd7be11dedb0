/- The law ClientForms answers true: the row and its card. -/
import Derived.Test.YtjojhfphlnfimaaGreatDoorCards
import Derived.Test.YtjojhfphlnfimaaGreatDoorTie
import Derived.Test.YtjojhfphlnfimaaGreatDoorFm
import Derived.Test.YtjojhfphlnfimaaGreatDoorOtab
import Derived.Test.YtjojhfphlnfimaaGreatDoorOpen
import Derived.WalkKit
import Derived.ProofKit
import Derived.LaidMore
import Derived.OpenShut
import Derived.Stop.Joined
import Derived.SevenTiedAt
namespace Go.Proofs.YtjojhfphlnfimaaGreatDoor.J
open Go Go.ChangeShapes Go.WideShapes Go.ChangeAt Go.RowKit Go.Deep
set_option linter.unusedVariables false

theorem clientFormsOwn : ownKnob Tryz.prog.godebug = none := by kernel_rfl

theorem open_plays {H : Type} {enc : TypeId × Value → H} {w : World} {base : Nat} {held : Bool} {fuel : Nat} {cs : List Value} {x : DataW H × List MemPlace}
    (h : DataW.trod enc Tryz.prog w base (fun _ => true) held fuel 45 cs = some x) : ∃ A n c l, cs = [.slice A n c] ∧ Rd kPlay w A n c l :=
  open_rd (k := kPlay) Tryz.underlying45 Tryz.underlying51 (by kernel_rfl) (by kernel_rfl) rfl (by
    intro l n' hl h
    obtain ⟨u0, y0, e0, t0⟩ := h 0 _ rfl
    obtain ⟨u1, y1, e1, t1⟩ := h 1 _ rfl
    obtain ⟨u2, y2, e2, t2⟩ := h 2 _ rfl
    obtain ⟨x, hx, _⟩ := DataW.trod_int (t := 3) Tryz.underlying3 t0
    obtain ⟨y, hy, _⟩ := DataW.trod_int (t := 3) Tryz.underlying3 t1
    obtain ⟨z, hz, _⟩ := DataW.trod_int (t := 3) Tryz.underlying3 t2
    have hl3 : l.length = 3 := hl
    match l, hl3 with
    | [a0, a1, a2], _ =>
      simp only [List.getElem?_cons_zero, List.getElem?_cons_succ, Option.some.injEq] at e0 e1 e2
      simp only [List.cons.injEq, and_true] at hx hy hz
      subst e0 e1 e2 hx hy hz
      exact ⟨⟨x, y, z⟩, rfl⟩) h

/-- The heap that the program's start leaves meets the condition. -/
theorem clientFormsDoor (os : Os) (args : Array Value) : laidMetH Tryz.prog Rows.clientFormsRow.laid ((World.doorLaid Tryz.prog 400 os).forCall (fun _ _ => 0) ⟨#[], args, []⟩).memory :=
  laidMetH_of_parts3 (fuel := 8) (laidMet_of_run' 8 (by kernel_rfl) (by kernel_rfl)) (by kernel_rfl) (by kernel_rfl)

set_option maxRecDepth 100000 in
set_option maxHeartbeats 1600000 in
theorem clientForms_lifted (os : Os) (started : os.Started) (H : Type) (enc : TypeId × Value → H) :
    ReturnsInHanded {} Tryz.checked os 5 .any (fun w args => (Rows.clientFormsSpec.pre enc Tryz.prog Tryz.f5 [] false w args ∧ laidMetH Tryz.prog Rows.clientFormsRow.laid w) ∧ sizedMet enc Tryz.prog Tryz.f5 (OpenSpec.ofChange Rows.clientFormsSpec) false w args)
      (Rows.clientFormsSpec.post enc Tryz.prog Tryz.f5 false true false false) := by
  refine returnsInHanded_of_change_and (C := Tryz.checked) (X := fun w _ => laidMetH Tryz.prog Rows.clientFormsRow.laid w) (fun _ _ _ hh h => h.of_heap hh) clientFormsOwn started (by kernel_rfl) Tryz.func5
    (ChangeSpec.witness_shaped (enc := enc) (C := Tryz.checked) (os := os) (X := fun w _ => laidMetH Tryz.prog Rows.clientFormsRow.laid w) false (World.doorLaid Tryz.prog 400 os) #[.slice none 0 0] 8 rfl (World.shaped_of_RefB (by kernel_rfl) (by kernel_rfl)) (by kernel_rfl) (by kernel_rfl) (by kernel_rfl) (clientFormsDoor os _)) ?_
  intro W base args ds gs before hval0 hW _ _ hL _
  have hval : ∀ (j : Nat) t v, Tryz.f5.params[j]? = some t → args[j]? = some v → Value.okWide Tryz.prog W .any base t v := hval0
  have hW' := hW
  obtain ⟨p, q, hA0, hV, rfl, hfz, hnd⟩ := hW
  have hA : DataW.TrodAll enc Tryz.prog W 0 (fun _ => true) true Tryz.f5.params.toList args.toList ds p := hA0
  rw [Tryz.params5] at hA hval
  obtain ⟨v0, d0, rfl, rfl, h0⟩ := trodAll_one hA
  obtain ⟨rfl, rfl⟩ := trodVars_none hV
  have h0k := h0
  obtain ⟨A0, n0, c0, rfl⟩ := okWide_slice Tryz.underlying45 (hval 0 45 v0 rfl rfl)
  obtain ⟨f0, hf0⟩ := h0
  obtain ⟨A0', n0', c0', l0, hcs0, hrd0⟩ := open_plays hf0
  have he0 : (Value.slice A0 n0 c0) = .slice A0' n0' c0' := by simpa [Value.cells] using hcs0
  obtain ⟨rfl, rfl, rfl⟩ : A0 = A0' ∧ n0 = n0' ∧ c0 = c0' := by simpa using he0
  clear hA0 hval0 hcs0 he0
  simp only [List.append_nil] at hW'
  refine (forms_any A0 n0 c0 l0 W hrd0 (tabs_of_laid W hL) (ot_of_laid W hL)).mono fun e W' ⟨he, hm⟩ => ?_
  subst he
  have hlt : ∀ x ∈ p, x.block < W.heap.size := fun x hx => hW'.lt x (by simpa using hx)
  have clientFormsLaid : laidOutB Tryz.prog = true := by kernel_rfl
  refine ⟨_, rfl, post_of_mod (pa := p) (pv := []) hW' (fun _ _ _ => trodAll_mk1 (shut_bool Tryz.underlying4 _)) (fun sp hsp => ?_) (fun _ _ => rfl) (by simp) hm (ok_one (by kernel_rfl) rfl (okWide_bool_mk Tryz.underlying4 _))⟩
  exact trodAll_mk1 (WideElems.Trod_stays clientFormsLaid (by kernel_rfl) (of_decide_eq_true (by kernel_rfl)) h0k (fun x hx => hm.below.same (hlt x hx)) (fun x hx => hsp x (by simpa using hx)))

theorem clientForms_row : Rows.ClientFormsSaid :=
  OpenClaim.holds_of_wide 5 Tryz.f5 rfl rfl rfl rfl rfl rfl rfl ⟨rfl, rfl, rfl, rfl, rfl⟩ rfl rfl rfl rfl rfl (by kernel_rfl) Tryz.func5 (by kernel_rfl)
    (of_decide_eq_true (by kernel_rfl)) (by unfold Func.isWrapper; first | (rw [if_pos (by decide +kernel)]; kernel_rfl) | (rw [if_neg (by decide +kernel)]; exact ⟨rfl, rfl⟩))
    (fun os started H enc _ => clientForms_lifted os started H enc)

theorem clientForms_holds : Rows.ClientFormsCardSaid :=
  Claim7.holds_tied_plain_at .later [] [.handle, .data, .funcs, .data, .widerDeep] true (true, "78f672ec6c47b6eb80d6f034eef356866cd0a3584abe53fa106db5a8db1c07df") true
    clientForms_row (fun _ h => by cases h) (by kernel_rfl) (fun _ h => by cases h) clientForms_row_tie rfl ⟨rfl, rfl⟩ (by kernel_rfl) rfl
    (fun f fn hf hfn => by
      obtain rfl : f = 5 := Option.some.inj ((show Tryz.prog.funcNamed "jotter/jotterlaw11.ClientForms" = some 5 by kernel_rfl).symm.trans hf) |>.symm
      obtain rfl : fn = Tryz.f5 := (Option.some.inj (Tryz.func5.symm.trans hfn)).symm
      exact ⟨by kernel_rfl, fun j t ht => by
        rw [Tryz.params5] at ht
        have hm : t ∈ [45] := by simpa using Array.mem_of_getElem? ht
        have hall : ([45].all fun u => !Tryz.prog.wantsStandIn u) = true := by kernel_rfl
        exact (show Tryz.prog.wantsStandIn t = false by simpa using List.all_eq_true.1 hall t hm)⟩)
    (by kernel_rfl)
#print axioms clientForms_holds
end Go.Proofs.YtjojhfphlnfimaaGreatDoor.J
