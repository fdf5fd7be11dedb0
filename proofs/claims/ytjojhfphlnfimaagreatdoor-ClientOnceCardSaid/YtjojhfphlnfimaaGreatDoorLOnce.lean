/- The law ClientOnce answers true: the row and its card. -/
import Derived.Test.YtjojhfphlnfimaaGreatDoorCards
import Derived.Test.YtjojhfphlnfimaaGreatDoorTie
import Derived.Test.YtjojhfphlnfimaaGreatDoorOnce
import Derived.Test.YtjojhfphlnfimaaGreatDoorTabs
import Derived.Test.YtjojhfphlnfimaaGreatDoorOpen
import Derived.WalkKit
import Derived.ProofKit
import Derived.LaidMore
import Derived.OpenShut
import Derived.Stop.Joined
import Derived.SevenTiedAt
namespace Go.Proofs.YtjojhfphlnfimaaGreatDoor.J
open Go Go.ChangeShapes Go.WideShapes Go.ChangeAt Go.RowKit Go.Deep
set_option linter.unusedVariables false

theorem onOwn : ownKnob Tryz.prog.godebug = none := by kernel_rfl

theorem open_rdz {H : Type} {enc : TypeId × Value → H} {P : Program} {w : World} {base : Nat} {held : Bool} {t e : TypeId} {fuel : Nat} {cs : List Value} {x : DataW H × List MemPlace} (ht : P.underlying t = some (.slice e)) (he : P.underlying e = some (.int .i64)) (hC : P.cellsOf e = 1)
    (h : DataW.trod enc P w base (fun _ => true) held fuel t cs = some x) : ∃ A n c l, cs = [.slice A n c] ∧ Rd kZ w A n c l := by
  rcases open_slice ht h with ⟨h0, _⟩ | ⟨a, len, cap, m, n, D, Pl, hcs, hb, hl, hm, hmm, hx, hi⟩
  · exact ⟨none, 0, 0, [], h0, Rd.nil _ _⟩
  · simp only [if_true] at hmm
    obtain ⟨l, hrd⟩ := Rd.of_cells (k := kZ) (w := w) (a := a) (n := len) (c := cap) hl hm (fun i hil => by
      obtain ⟨cs', hc, ht'⟩ := hi i (by omega)
      rw [hC] at hc
      obtain ⟨_, hcl, hat⟩ := World.cells?_some hc
      obtain ⟨m, rfl, _⟩ := DataW.trod_int he ht'
      refine ⟨m, fun j hj => ?_⟩
      have hj0 : j = 0 := by simp only [kZ] at hj; omega
      subst hj0
      rw [← Go.Deep.add_add]
      have := hat 0 (by decide)
      simpa [kZ] using this)
    exact ⟨some a, len, cap, l, hcs, hrd⟩

/-- The heap that the program's start leaves meets the condition. -/
theorem onDoor (os : Os) (args : Array Value) : laidMetH Tryz.prog Rows.clientOnceRow.laid ((World.doorLaid Tryz.prog 400 os).forCall (fun _ _ => 0) ⟨#[], args, []⟩).memory :=
  laidMetH_of_parts3 (fuel := 8) (laidMet_of_run' 8 (by kernel_rfl) (by kernel_rfl)) (by kernel_rfl) (by kernel_rfl)

set_option maxRecDepth 100000 in
set_option maxHeartbeats 1600000 in
theorem once_lifted (os : Os) (started : os.Started) (H : Type) (enc : TypeId × Value → H) :
    ReturnsInHanded {} Tryz.checked os 3 .any (fun w args => (Rows.clientOnceSpec.pre enc Tryz.prog Tryz.f3 [] false w args ∧ laidMetH Tryz.prog Rows.clientOnceRow.laid w) ∧ sizedMet enc Tryz.prog Tryz.f3 (OpenSpec.ofChange Rows.clientOnceSpec) false w args)
      (Rows.clientOnceSpec.post enc Tryz.prog Tryz.f3 false true false false) := by
  refine returnsInHanded_of_change_and (C := Tryz.checked) (X := fun w _ => laidMetH Tryz.prog Rows.clientOnceRow.laid w) (fun _ _ _ hh h => h.of_heap hh) onOwn started (by kernel_rfl) Tryz.func3
    (ChangeSpec.witness_shaped (enc := enc) (C := Tryz.checked) (os := os) (X := fun w _ => laidMetH Tryz.prog Rows.clientOnceRow.laid w) false (World.doorLaid Tryz.prog 400 os) #[.slice none 0 0, .slice none 0 0] 8 rfl (World.shaped_of_RefB (by kernel_rfl) (by kernel_rfl)) (by kernel_rfl) (by kernel_rfl) (by kernel_rfl) (onDoor os _)) ?_
  intro W base args ds gs before hval0 hW _ _ hL _
  have hval : ∀ (j : Nat) t v, Tryz.f3.params[j]? = some t → args[j]? = some v → Value.okWide Tryz.prog W .any base t v := hval0
  have hW' := hW
  obtain ⟨p, q, hA0, hV, rfl, hfz, hnd⟩ := hW
  have hA : DataW.TrodAll enc Tryz.prog W 0 (fun _ => true) true Tryz.f3.params.toList args.toList ds p := hA0
  rw [Tryz.params3] at hA hval
  obtain ⟨v0, v1, d0, d1, p0, p1, rfl, rfl, rfl, h0, h1⟩ := trodAll_two hA
  obtain ⟨rfl, rfl⟩ := trodVars_none hV
  have h0k := h0
  have h1k := h1
  obtain ⟨A0, n0, c0, rfl⟩ := okWide_slice Tryz.underlying22 (hval 0 22 v0 rfl rfl)
  obtain ⟨A1, n1, c1, rfl⟩ := okWide_slice Tryz.underlying22 (hval 1 22 v1 rfl rfl)
  obtain ⟨f0, hf0⟩ := h0
  obtain ⟨f1, hf1⟩ := h1
  obtain ⟨A0', n0', c0', l0, hcs0, hrd0⟩ := open_rdz Tryz.underlying22 Tryz.underlying3 Tryz.cI hf0
  obtain ⟨A1', n1', c1', l1, hcs1, hrd1⟩ := open_rdz Tryz.underlying22 Tryz.underlying3 Tryz.cI hf1
  have he0 : (Value.slice A0 n0 c0) = .slice A0' n0' c0' := by simpa [Value.cells] using hcs0
  have he1 : (Value.slice A1 n1 c1) = .slice A1' n1' c1' := by simpa [Value.cells] using hcs1
  obtain ⟨rfl, rfl, rfl⟩ : A0 = A0' ∧ n0 = n0' ∧ c0 = c0' := by simpa using he0
  obtain ⟨rfl, rfl, rfl⟩ : A1 = A1' ∧ n1 = n1' ∧ c1 = c1' := by simpa using he1
  clear hA0 hval0 hcs0 hcs1 he0 he1
  simp only [List.append_nil] at hW'
  refine (once_any A0 n0 c0 l0 A1 n1 c1 l1 W hrd0 hrd1 (tabs_of_laid W hL)).mono fun e W' ⟨he, hm⟩ => ?_
  subst he
  have hlt : ∀ x ∈ p0 ++ p1, x.block < W.heap.size := fun x hx => hW'.lt x (by simpa using hx)
  have onLaid : laidOutB Tryz.prog = true := by kernel_rfl
  refine ⟨_, rfl, post_of_mod (pa := p0 ++ p1) (pv := []) hW' (fun _ _ _ => trodAll_mk1 (shut_bool Tryz.underlying4 _)) (fun sp hsp => ?_) (fun _ _ => rfl) (by simp) hm (ok_one (by kernel_rfl) rfl (okWide_bool_mk Tryz.underlying4 _))⟩
  exact trodAll_mk2 (WideElems.Trod_stays onLaid (by kernel_rfl) (of_decide_eq_true (by kernel_rfl)) h0k (fun x hx => hm.below.same (hlt x (by simp [hx]))) (fun x hx => hsp x (by simp [hx]))) (WideElems.Trod_stays onLaid (by kernel_rfl) (of_decide_eq_true (by kernel_rfl)) h1k (fun x hx => hm.below.same (hlt x (by simp [hx]))) (fun x hx => hsp x (by simp [hx])))

theorem clientOnce_row : Rows.ClientOnceSaid :=
  OpenClaim.holds_of_wide 3 Tryz.f3 rfl rfl rfl rfl rfl rfl rfl ⟨rfl, rfl, rfl, rfl, rfl⟩ rfl rfl rfl rfl rfl (by kernel_rfl) Tryz.func3 (by kernel_rfl)
    (of_decide_eq_true (by kernel_rfl)) (by unfold Func.isWrapper; first | (rw [if_pos (by decide +kernel)]; kernel_rfl) | (rw [if_neg (by decide +kernel)]; exact ⟨rfl, rfl⟩))
    (fun os started H enc _ => once_lifted os started H enc)

theorem clientOnce_holds : Rows.ClientOnceCardSaid :=
  Claim7.holds_tied_plain_at .later [] [.handle, .data, .funcs, .data, .widerDeep] true (true, "78f672ec6c47b6eb80d6f034eef356866cd0a3584abe53fa106db5a8db1c07df") true
    clientOnce_row (fun _ h => by cases h) (by kernel_rfl) (fun _ h => by cases h) clientOnce_row_tie rfl ⟨rfl, rfl⟩ (by kernel_rfl) rfl
    (fun f fn hf hfn => by
      obtain rfl : f = 3 := Option.some.inj ((show Tryz.prog.funcNamed "jotter/jotterlaw11.ClientOnce" = some 3 by kernel_rfl).symm.trans hf) |>.symm
      obtain rfl : fn = Tryz.f3 := (Option.some.inj (Tryz.func3.symm.trans hfn)).symm
      exact ⟨by kernel_rfl, fun j t ht => by
        rw [Tryz.params3] at ht
        have hm : t ∈ [22, 22] := by simpa using Array.mem_of_getElem? ht
        have hall : ([22, 22].all fun u => !Tryz.prog.wantsStandIn u) = true := by kernel_rfl
        exact (show Tryz.prog.wantsStandIn t = false by simpa using List.all_eq_true.1 hall t hm)⟩)
    (by kernel_rfl)
#print axioms clientOnce_holds
end Go.Proofs.YtjojhfphlnfimaaGreatDoor.J
