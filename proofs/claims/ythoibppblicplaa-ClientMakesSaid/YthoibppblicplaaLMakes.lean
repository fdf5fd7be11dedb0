/- The law ClientMakes answers true: the row. No condition. -/
import Derived.Test.YthoibppblicplaaRows
import Derived.Test.YthoibppblicplaaMk
import Derived.Test.YthoibppblicplaaOpen
import Derived.WalkKit
import Derived.ProofKit
namespace Go.Proofs.Ythoibppblicplaa.J
open Go Go.ChangeShapes Go.WideShapes Go.ChangeAt Go.RowKit
set_option linter.unusedVariables false

theorem mkOwn : ownKnob Try.prog.godebug = none := by kernel_rfl
theorem mkLaid : laidOutB Try.prog = true := by kernel_rfl

set_option maxRecDepth 100000 in
set_option maxHeartbeats 1600000 in
theorem makes_lifted (os : Os) (started : os.Started) (H : Type) (enc : TypeId × Value → H) :
    ReturnsInHanded {} Try.checked os 4 .any (Rows.clientMakesSpec.pre6 enc Try.prog Try.f4 Rows.clientMakesRow.domain false) (Rows.clientMakesSpec.post enc Try.prog Try.f4 false true false false) := by
  refine returnsInHanded_of_change (C := Try.checked) mkOwn started (by kernel_rfl) Try.func4
    (ChangeSpec.witness6 (enc := enc) (C := Try.checked) false ⟨#[], #[.int .i64 0, .slice none 0 0], []⟩ 8 (by kernel_rfl) (by kernel_rfl) (by kernel_rfl) (by kernel_rfl)) ?_
  intro W base args ds gs before hval0 hW hcnd _
  have hval : ∀ (j : Nat) t v, Try.f4.params[j]? = some t → args[j]? = some v → Value.okWide Try.prog W .any base t v := hval0
  have hW' := hW
  obtain ⟨p, q, hA0, hV, rfl, hfz, hnd⟩ := hW
  have hA : DataW.TrodAll enc Try.prog W 0 (fun _ => true) true Try.f4.params.toList args.toList ds p := hA0
  rw [Try.params4] at hA hval
  obtain ⟨v0, v1, d0, d1, p0, p1, rfl, rfl, rfl, h0, h1⟩ := trodAll_two hA
  obtain ⟨rfl, rfl⟩ := trodVars_none hV
  have h0k := h0
  have h1k := h1
  obtain ⟨n, rfl, rfl, rfl, wn⟩ := open_int Try.underlying3 (hval 0 3 v0 rfl rfl) h0
  obtain ⟨A0, len, cap, rfl⟩ := okWide_slice Try.underlying23 (hval 1 23 v1 rfl rfl)
  obtain ⟨fuel, hf⟩ := h1
  obtain ⟨A1, n1, c1, ms, hcs, hrd⟩ := open_rd (k := kMade) Try.underlying23 Try.underlying33 (by kernel_rfl) (by kernel_rfl) rfl (by
    intro l n' hl h
    obtain ⟨u0, y0, e0, t0⟩ := h 0 _ rfl
    obtain ⟨u1, y1, e1, t1⟩ := h 1 _ rfl
    obtain ⟨u2, y2, e2, t2⟩ := h 2 _ rfl
    obtain ⟨b, hb, _⟩ := DataW.trod_bool (t := 4) Try.underlying4 t0
    obtain ⟨x, hx, _⟩ := DataW.trod_int (t := 3) Try.underlying3 t1
    obtain ⟨z, hz, _⟩ := DataW.trod_int (t := 3) Try.underlying3 t2
    have hl3 : l.length = 3 := hl
    match l, hl3 with
    | [a0, a1, a2], _ =>
      simp only [List.getElem?_cons_zero, List.getElem?_cons_succ, Option.some.injEq] at e0 e1 e2
      simp only [List.cons.injEq, and_true] at hb hx hz
      subst e0 e1 e2 hb hx hz
      exact ⟨⟨b, x, z⟩, rfl⟩) hf
  have hcs' : (Value.slice A0 len cap) = .slice A1 n1 c1 := by simpa [Value.cells] using hcs
  obtain ⟨rfl, rfl, rfl⟩ : A0 = A1 ∧ len = n1 ∧ cap = c1 := by simpa using hcs'
  clear hA0 hval0 hcs hcs'
  simp only [List.append_nil] at hW'
  refine (makes_any n A0 len cap ms W hrd).mono fun e W' ⟨he, hm⟩ => ?_
  subst he
  have hlt : ∀ x ∈ p1, x.block < W.heap.size := fun x hx => hW'.lt x (by simpa using hx)
  refine ⟨_, rfl, post_of_mod (pa := p1) (pv := []) hW' (fun _ _ _ => trodAll_mk1 (shut_bool Try.underlying4 _)) (fun sp hsp => ?_) (fun _ _ => rfl) (by simp) hm (ok_one (by kernel_rfl) rfl (okWide_bool_mk Try.underlying4 _))⟩
  exact trodAll_mk2 (shut_int Try.underlying3 wn) (WideElems.Trod_stays mkLaid (by kernel_rfl) (of_decide_eq_true (by kernel_rfl)) h1k (fun x hx => hm.below.same (hlt x hx)) (fun x hx => hsp x (by simpa using hx)))

theorem clientMakes_holds : Rows.ClientMakesSaid :=
  OpenClaim.holds_of_wide 4 Try.f4 rfl rfl rfl rfl rfl rfl rfl ⟨rfl, rfl, rfl, rfl, rfl⟩ rfl rfl rfl rfl rfl (by kernel_rfl) Try.func4 (by kernel_rfl)
    (of_decide_eq_true (by kernel_rfl)) (by unfold Func.isWrapper; first | (rw [if_pos (by decide +kernel)]; kernel_rfl) | (rw [if_neg (by decide +kernel)]; exact ⟨rfl, rfl⟩))
    (fun os started H enc _ => makes_lifted os started H enc)
#print axioms clientMakes_holds
end Go.Proofs.Ythoibppblicplaa.J
