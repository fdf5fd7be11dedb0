/- A region that draws its order, where several may come up: walked up to there; there in each order. -/
import Derived.Test.YtjojhfphlnfimaaGreatDoorSeq
namespace Go.Proofs.YtjojhfphlnfimaaGreatDoor.J
open Go Go.RowKit
set_option linter.unusedSimpArgs false
set_option linter.unusedVariables false
section
variable {P : Program} {ops : Array Oper} {Q : Exit → Act → World → Prop}

/-- As 'plan', but it stops where several may come up: the list so far, the fuel, what has come up. -/
def planF (P : Program) (ops : Array Oper) : Nat → Array Bool → List (Nat × Bool) × Nat × Array Bool
  | 0, listed => ([], 0, listed)
  | fuel + 1, listed =>
    match Region.ready .any ops listed with
    | [] => ([], fuel + 1, listed)
    | r :: rs => match (r :: rs).find? (quietAt P ops listed) with
      | some i => let q := planF P ops fuel (listed.setIfInBounds i true); ((i, false) :: q.1, q.2)
      | none => if rs.isEmpty then let q := planF P ops fuel (listed.setIfInBounds r true); ((r, late ops r && !keepAt ops r) :: q.1, q.2) else ([], fuel + 1, listed)

/-- What must be known of the operands of those that have come up. -/
def dynOn (P : Program) (ops : Array Oper) (fin : Array Bool) (a : Act) : Bool :=
  (List.range ops.size).all fun i => !fin.getD i false || match ops[i]? with
    | some o => !dynKind o.op || !plainKind P o.op || !Region.wanted o (yielded ops a.tmps) || dynOk a.eval o.op
    | none => true
def Qf (P : Program) (ops : Array Oper) (fin : Array Bool) (R : Act → World → Prop) : Exit → Act → World → Prop := fun e a w => e = .normal ∧ dynOn P ops fin a = true ∧ R a w

theorem getD_set_self {listed : Array Bool} {i : Nat} (h : listed.getD i true = false) : (listed.setIfInBounds i true).getD i false = true := by
  rw [Array.getD_eq_getD_getElem?] at h ⊢
  cases hi : listed[i]? with
  | none => rw [hi] at h; simp at h
  | some v =>
    have hlt := (Array.getElem?_eq_some_iff.1 hi).1
    simp [hlt]

theorem planF_facts : ∀ (fuel : Nat) (listed : Array Bool), (∀ q ∈ (planF P ops fuel listed).1, listed.getD q.1 true = false ∧ (planF P ops fuel listed).2.2.getD q.1 false = true) ∧ ∀ j, listed.getD j false = true → (planF P ops fuel listed).2.2.getD j false = true
  | 0, listed => ⟨fun q hq => (by cases hq), fun j h => h⟩
  | fuel + 1, listed => by
    have step : ∀ i g, i ∈ Region.ready .any ops listed →
        (∀ q ∈ (i, g) :: (planF P ops fuel (listed.setIfInBounds i true)).1, listed.getD q.1 true = false ∧ (planF P ops fuel (listed.setIfInBounds i true)).2.2.getD q.1 false = true) ∧ ∀ j, listed.getD j false = true → (planF P ops fuel (listed.setIfInBounds i true)).2.2.getD j false = true := by
      intro i g hi
      have ih := planF_facts fuel (listed.setIfInBounds i true)
      have hun := (mem_ready.1 hi).1
      refine ⟨fun q hq => ?_, fun j hj => ih.2 j ?_⟩
      · rcases List.mem_cons.1 hq with rfl | hq
        · exact ⟨hun, ih.2 i (getD_set_self hun)⟩
        · have h1 := ih.1 q hq
          refine ⟨?_, h1.2⟩
          by_cases hij : i = q.1
          · rw [← hij]; exact hun
          · have h2 := h1.1
            rwa [getD_set_ne true hij] at h2
      · by_cases hij : i = j
        · subst hij; exact getD_set_self hun
        · rw [getD_set_ne false hij]; exact hj
    unfold planF
    cases hr : Region.ready .any ops listed with
    | nil => exact ⟨fun q hq => (by cases hq), fun j h => h⟩
    | cons r rs =>
      rw [hr] at step
      simp only []
      cases hf : (r :: rs).find? (quietAt P ops listed) with
      | some i => exact step i _ (List.mem_of_find?_eq_some hf)
      | none =>
        simp only []
        split
        · exact step r _ (List.mem_cons_self ..)
        · exact ⟨fun q hq => (by cases hq), fun j h => h⟩

theorem load_not_dyn {op : Go.Op} (h : dynKind op = true) : loadKind op = false := by
  cases op <;> simp [dynKind, loadKind] at h ⊢
theorem quiet_dynF {fin : Array Bool} {R : Act → World → Prop} {i : Nat} {oi : Oper} {L : List (Oper × Bool)} {f : Bool} {listed : Array Bool} {a : Act} {w : World} (hi : ops[i]? = some oi) (hun : listed.getD i true = false)
    (hin : fin.getD i false = true) (hq : quietAt P ops listed i = true) (hw : Region.wanted oi (yielded ops a.tmps) = true) (hL : ∀ o ∈ L, ∃ j, ops[j]? = some o.1 ∧ listed.getD j true = false)
    (h : wpSeg P ops (Qf P ops fin R) ((oi, f) :: L) a w) (hk : dynKind oi.op = true) : dynOk a.eval oi.op = true := by
  obtain ⟨af, wf, ⟨_, hd, _⟩, ht⟩ := wpSeg_end (fun e a w h => h.1) _ _ _ h
  have hilt : i < ops.size := (Array.getElem?_eq_some_iff.1 hi).1
  simp only [quietAt, hi, hk, Bool.not_true, Bool.false_or, Bool.and_eq_true] at hq
  have hpl : plainKind P oi.op = true := by
    have := hq.1.1
    rw [load_not_dyn hk, Bool.or_false] at this
    exact this
  have hall := List.all_eq_true.1 hq.2
  have key : ∀ t ∈ oi.looksAt ops, af.tmps[t]? = a.tmps[t]? := by
    intro t htl
    refine ht t fun o ho => ?_
    have : ∃ j, ops[j]? = some o.1 ∧ listed.getD j true = false := by
      rcases List.mem_cons.1 ho with rfl | ho
      · exact ⟨i, hi, hun⟩
      · exact hL o ho
    obtain ⟨j, hj, hju⟩ := this
    have h1 := hall j (List.mem_range.2 (Array.getElem?_eq_some_iff.1 hj).1)
    rw [hju, hj] at h1
    simp only [Bool.false_or] at h1
    intro hdst
    rw [hdst] at h1
    simp only [Bool.not_eq_true', List.contains_eq_mem, decide_eq_false_iff_not] at h1
    exact h1 htl
  have hev : ∀ x ∈ oi.op.operands, a.eval x = af.eval x := by
    intro x hx
    cases x with
    | tmp t =>
      have := key t (List.mem_append_left _ (List.mem_filterMap.2 ⟨.tmp t, by simpa using hx, rfl⟩))
      simp [Act.eval, this]
    | _ => rfl
  have hwa : Region.wanted oi (yielded ops af.tmps) = true := by
    rw [← hw]
    unfold Region.wanted
    cases hg : oi.guard with
    | none => rfl
    | some q =>
      obtain ⟨g, want⟩ := q
      simp only []
      congr 1
      unfold yielded
      cases hog : ops[g]? with
      | none => rfl
      | some og =>
        simp only [Option.bind_some]
        cases hdg : og.dst with
        | none => rfl
        | some d =>
          have := key d (by simp [Oper.looksAt, hg, hog, hdg])
          simp only [Option.bind_some, this]
  have h1 := List.all_eq_true.1 hd i (List.mem_range.2 hilt)
  rw [hi, hin] at h1
  simp only [hk, hpl, hwa, Bool.not_true, Bool.false_or] at h1
  rw [dynOk_congr hev]; exact h1


/-- One that may come up, then what the plan says. -/
theorem forkStep (hQn : ∀ e a w, Q e a w → e = .normal) {fuel : Nat} {listed : Array Bool} {r : Nat} {oi : Oper} {R : Exit → Act → World → Prop} (hRn : ∀ e a w, R e a w → e = .normal) {L : List (Oper × Bool)} {a : Act} {w : World} (hi : ops[r]? = some oi)
    (next : ∀ a' w', wpSeg P ops R L a' w' → wpAnyL P .any ops Q (late ops) fuel (listed.setIfInBounds r true) a' w')
    (h : wpSeg P ops R ((oi, late ops r && !keepAt ops r) :: L) a w) :
    wpOp P ops Q r (fun a' w' => (late ops r = true → Old w w') ∧ wpAnyL P .any ops Q (late ops) fuel (listed.setIfInBounds r true) a' w') a w := by
  have noOut : ¬ LetsOut R := fun ⟨a, w, h⟩ => by have := hRn _ _ _ h; cases this
  unfold wpOp
  rw [hi]
  simp only []
  unfold wpSeg at h
  by_cases hw : Region.wanted oi (yielded ops a.tmps) = true
  · rw [if_pos hw] at h ⊢
    rcases h with h | ⟨_, h⟩
    · left
      by_cases hk0 : keepAt ops r = true
      · have hk : keepKind oi.op = true := by simpa [keepAt, hi] using hk0
        have hkp := keepKind_keeps (P := P) oi a.eval hk
        unfold Oper.wp at h ⊢
        cases hrun : (execOp a.eval oi).run P w with
        | ok n w1 =>
          have hold := hkp w n w1 hrun
          rw [hrun] at h
          have hval : ∃ v, n = .value v := by
            obtain ⟨dst, op, type, pos, after, guard⟩ := oi
            unfold execOp at hrun
            cases op <;> simp only [keepKind, Bool.false_eq_true] at hk <;> simp only [] at hrun <;>
              (obtain ⟨v, w2, h1, h2⟩ := run_bind_ok hrun; rw [Sem.run_pure] at h2; cases h2; exact ⟨v, rfl⟩)
          obtain ⟨v, rfl⟩ := hval
          exact ⟨fun _ => hold, next _ _ h.2⟩
        | halt x w1 =>
          rw [hrun] at h
          cases x <;> simp only [Oper.upon] at h
          exact absurd (hRn _ _ _ h) (fun e => by cases e)
      · have hfl : ∀ {w'}, ((late ops r && !keepAt ops r) = true → Old w w') → late ops r = true → Old w w' := fun hf hl => hf (by simp [hl, hk0])
        unfold Oper.wp at h ⊢
        generalize (execOp a.eval oi).run P w = rr at h ⊢
        cases rr with
        | ok n w1 =>
          cases n <;> simp only [Oper.upon] at h ⊢ <;> first
            | exact ⟨hfl h.1, next _ _ h.2⟩
            | exact Calls.mono h (fun e w2 he => by
                cases e with
                | returned v => exact ⟨hfl he.1, next _ _ he.2⟩
                | panicked c => exact absurd (hRn _ _ _ he) (fun e => by cases e)
                | outgrown => exact absurd he noOut)
            | exact Rows.mono h (fun _ _ he => ⟨hfl he.1, next _ _ he.2⟩)
        | halt x w1 =>
          cases x <;> simp only [Oper.upon] at h
          exact absurd (hRn _ _ _ h) (fun e => by cases e)
    · exact absurd h noOut
  · rw [if_neg hw] at h ⊢
    exact ⟨fun _ => Old.refl _, next _ _ h⟩

/-- The plan, up to where several may come up. -/
theorem planF_sound (hc : closed .any ops = true) (hsel : Region.noSelect ops = true) (hQn : ∀ e a w, Q e a w → e = .normal) : ∀ (fuel : Nat) (listed : Array Bool) (a : Act) (w : World), Down ops listed →
    wpSeg P ops (Qf P ops (planF P ops fuel listed).2.2 (fun a' w' => Down ops (planF P ops fuel listed).2.2 → wpAnyL P .any ops Q (late ops) (planF P ops fuel listed).2.1 (planF P ops fuel listed).2.2 a' w')) ((planF P ops fuel listed).1.filterMap (pick ops)) a w →
    wpAnyL P .any ops Q (late ops) fuel listed a w := by
  intro fuel
  induction fuel with
  | zero => intro listed a w hcl h; exact h.2.2 hcl
  | succ fuel ih =>
    intro listed a w hcl h
    have hfacts := planF_facts (P := P) (ops := ops) (fuel + 1) listed
    obtain ⟨R, hR⟩ : ∃ R, (fun a' w' => Down ops (planF P ops (fuel + 1) listed).2.2 → wpAnyL P .any ops Q (late ops) (planF P ops (fuel + 1) listed).2.1 (planF P ops (fuel + 1) listed).2.2 a' w') = R := ⟨_, rfl⟩
    rw [hR] at h
    unfold planF at h hfacts hR
    have noOut : ∀ fin, ¬ LetsOut (Qf P ops fin R) := fun fin ⟨a, w, h⟩ => by have := h.1; cases this
    cases hr : Region.ready .any ops listed with
    | nil =>
      rw [hr] at h hR
      simp only [] at h hR
      subst hR
      exact h.2.2 hcl
    | cons r rs =>
      rw [hr] at h hfacts hR
      simp only [] at h hfacts hR
      cases hf : (r :: rs).find? (quietAt P ops listed) with
      | some i =>
        rw [hf] at h hfacts hR
        simp only [] at h hfacts hR
        have hmem := fun q hq => (hfacts.1 q hq).1
        have hfin := (hfacts.1 (i, false) (List.mem_cons_self ..)).2
        obtain ⟨l', hl'⟩ : ∃ l', (planF P ops fuel (listed.setIfInBounds i true)).1 = l' := ⟨_, rfl⟩
        obtain ⟨fin, hfn⟩ : ∃ fin, (planF P ops fuel (listed.setIfInBounds i true)).2.2 = fin := ⟨_, rfl⟩
        have ih' := ih (listed.setIfInBounds i true)
        rw [hl', hfn] at ih'
        rw [hfn] at hR
        rw [hR] at ih'
        rw [hl', hfn] at h
        rw [hl'] at hmem
        rw [hfn] at hfin
        have hir : i ∈ Region.ready .any ops listed := by rw [hr]; exact List.mem_of_find?_eq_some hf
        have hq : quietAt P ops listed i = true := by have := List.find?_some hf; exact this
        obtain ⟨hun, oi, hi, _⟩ := mem_ready.1 hir
        rw [List.filterMap_cons, pick_some hi] at h
        simp only [] at h
        have hq2 := hq
        simp only [quietAt, hi, Bool.and_eq_true, Bool.or_eq_true] at hq2
        have hfree := Region.free_spec hi hq2.1.2
        have hQp : ∀ (v : Value) c a w, Q (.panic c) (a.put oi.dst v) w → Q (.panic c) a w := fun v c a w h => by have := hQn _ _ _ h; cases this
        have hL : ∀ o ∈ l'.filterMap (pick ops), ∃ j, ops[j]? = some o.1 ∧ listed.getD j true = false := fun o ho => by
          obtain ⟨j, hj, ho⟩ := List.mem_filterMap.1 ho
          obtain ⟨o1, h1, h2⟩ := Option.map_eq_some_iff.1 ho
          exact ⟨j.1, by rw [h1, ← h2], hmem j (List.mem_cons_of_mem _ hj)⟩
        have first : ∀ {S : World → Prop} {v : Value}, (∀ w w', S w → Old w w' → S w') → ((∀ w, S w) ∨ loadKind oi.op = true) → YieldsIf P ops S oi v a → S w →
            wpSeg P ops (Qf P ops fin R) (l'.filterMap (pick ops)) (a.put oi.dst v) w → wpAnyL P .any ops Q (late ops) (fuel + 1) listed a w := fun hS hLt hy hSw h' =>
          wpAnyL_first hc hi (Region.noSelect_spec hsel) (hQp _) hS hLt fuel listed a w hcl hfree hir hy hSw (ih' _ _ (hcl.set hc hir) h')
        by_cases hw : Region.wanted oi (yielded ops a.tmps) = true
        · have hdyn : dynOk a.eval oi.op = true := by
            by_cases hk : dynKind oi.op = true
            · exact quiet_dynF hi hun hfin hq hw hL h hk
            · exact dynKind_not hk
          unfold wpSeg at h
          rw [if_pos hw] at h
          rcases h with h | ⟨_, h⟩
          · unfold Oper.wp at h
            rcases hq2.1.1 with hpl | hld
            · have hy := plainKind_yields (P := P) oi a.eval hpl hdyn
              cases hrun : (execOp a.eval oi).run P w with
              | ok n w1 =>
                obtain ⟨⟨v, rfl⟩, rfl, hall⟩ := hy w n w1 hrun
                rw [hrun] at h
                exact first (S := fun _ => True) (fun _ _ _ _ => trivial) (.inl fun _ => trivial) (.inl ⟨hw, fun w' _ => hall w'⟩) trivial h.2
              | halt x w1 =>
                rw [hrun] at h
                cases x <;> simp only [Oper.upon] at h
                have := h.1; cases this
            · have hy := loadKind_yields (P := P) oi a.eval hld
              cases hrun : (execOp a.eval oi).run P w with
              | ok n w1 =>
                obtain ⟨⟨v, rfl⟩, rfl, hall⟩ := hy w n w1 hrun
                rw [hrun] at h
                exact first (S := Old w1) (fun _ _ h1 h2 => h1.trans h2) (.inr hld) (.inl ⟨hw, fun w' ho => hall w' ho⟩) (Old.refl _) h.2
              | halt x w1 =>
                rw [hrun] at h
                cases x <;> simp only [Oper.upon] at h
                have := h.1; cases this
          · exact absurd h (noOut _)
        · unfold wpSeg at h
          rw [if_neg hw] at h
          exact first (S := fun _ => True) (fun _ _ _ _ => trivial) (.inl fun _ => trivial) (.inr ⟨by simpa using hw, rfl⟩) trivial h
      | none =>
        rw [hf] at h hR
        simp only [] at h hR
        split at h
        · rename_i hcond
          rw [if_pos hcond] at hR
          obtain rfl := List.isEmpty_iff.1 hcond
          have hir : r ∈ Region.ready .any ops listed := by rw [hr]; exact List.mem_cons_self ..
          obtain ⟨hun, oi, hi, _⟩ := mem_ready.1 hir
          simp only [] at h hR
          rw [List.filterMap_cons, pick_some hi] at h
          simp only [] at h
          refine ⟨(fun h0 => by rw [hr] at h0; cases h0), fun i' hi' => ?_⟩
          rw [hr] at hi'
          obtain rfl : i' = r := by simpa using hi'
          refine forkStep hQn (fun e a w h => h.1) hi (fun a' w' h' => ih _ _ _ (hcl.set hc hir) ?_) h
          rw [hR]; exact h'
        · rename_i hcond
          rw [if_neg hcond] at hR
          simp only [] at hR h
          subst hR
          exact h.2.2 hcl

/-- The end. -/
theorem wpAnyL_done {fuel : Nat} {listed : Array Bool} {a : Act} {w : World} (hr : Region.ready .any ops listed = []) (h : Q .normal a w) : wpAnyL P .any ops Q (late ops) fuel listed a w := by
  cases fuel with
  | zero => exact ⟨hr, h⟩
  | succ fuel => exact ⟨fun _ => h, fun i hi => by rw [hr] at hi; cases hi⟩

/-- Two may come up: each first, then what the plan says. -/
theorem wpAnyL_two (hc : closed .any ops = true) (hsel : Region.noSelect ops = true) (hQn : ∀ e a w, Q e a w → e = .normal) {fuel : Nat} {listed : Array Bool} {a : Act} {w : World} (hcl : Down ops listed) (i j : Nat) (oi oj : Oper) (hi : ops[i]? = some oi) (hj : ops[j]? = some oj)
    (hr : Region.ready .any ops listed = [i, j])
    (h1 : wpSeg P ops (Qf P ops (planF P ops fuel (listed.setIfInBounds i true)).2.2 (fun a' w' => Down ops (planF P ops fuel (listed.setIfInBounds i true)).2.2 → wpAnyL P .any ops Q (late ops) (planF P ops fuel (listed.setIfInBounds i true)).2.1 (planF P ops fuel (listed.setIfInBounds i true)).2.2 a' w'))
      ((oi, late ops i && !keepAt ops i) :: (planF P ops fuel (listed.setIfInBounds i true)).1.filterMap (pick ops)) a w)
    (h2 : wpSeg P ops (Qf P ops (planF P ops fuel (listed.setIfInBounds j true)).2.2 (fun a' w' => Down ops (planF P ops fuel (listed.setIfInBounds j true)).2.2 → wpAnyL P .any ops Q (late ops) (planF P ops fuel (listed.setIfInBounds j true)).2.1 (planF P ops fuel (listed.setIfInBounds j true)).2.2 a' w'))
      ((oj, late ops j && !keepAt ops j) :: (planF P ops fuel (listed.setIfInBounds j true)).1.filterMap (pick ops)) a w) :
    wpAnyL P .any ops Q (late ops) (fuel + 1) listed a w := by
  have hir : i ∈ Region.ready .any ops listed := by rw [hr]; simp
  have hjr : j ∈ Region.ready .any ops listed := by rw [hr]; simp
  refine ⟨fun h0 => (by rw [hr] at h0; cases h0), fun k hk => ?_⟩
  rw [hr] at hk
  rcases List.mem_cons.1 hk with rfl | hk
  · exact forkStep hQn (fun e a w h => h.1) hi (fun a' w' h' => planF_sound hc hsel hQn _ _ _ _ (hcl.set hc hir) h') h1
  · obtain rfl : k = j := by simpa using hk
    exact forkStep hQn (fun e a w h => h.1) hj (fun a' w' h' => planF_sound hc hsel hQn _ _ _ _ (hcl.set hc hjr) h') h2

/-- A region that draws its order: up to where several may come up. -/
theorem wp_region_fork {id : Nat} {a : Act} {w : World} (l : List (Nat × Bool)) (f : Nat) (fin : Array Bool) (hm : P.follows .mixedOrders = true) (hc : closed .any ops = true) (hs : Region.noSelect ops = true)
    (hp : planF P ops ops.size (Array.replicate ops.size false) = (l, f, fin))
    (h : wpSeg P ops (Qf P ops fin (fun a' w' => Down ops fin → wpAnyL P .any ops (fun e a w => e = .normal ∧ Q .normal a w) (late ops) f fin a' w')) (l.filterMap (pick ops)) a w.drew) : (Code.region id ops true).wp P Q a w := by
  have h2 := planF_sound (P := P) (ops := ops) (Q := fun e a w => e = .normal ∧ Q .normal a w) hc hs (fun e a w h => h.1) ops.size (Array.replicate ops.size false) a w.drew (fun j h hj hh hl _ => by
    rw [Array.getD_eq_getD_getElem?] at hl; simp [hj] at hl) (by rw [hp]; exact h)
  refine Code.wp_mono (Q := fun e a w => e = .normal ∧ Q .normal a w) (fun e a w h => ?_) (wp_region_any hm (wpAny_of_late _ _ _ _ h2))
  obtain ⟨rfl, h⟩ := h
  exact h

/-- The same, the plans written out. -/
theorem wpAnyL_fork2 (i j : Nat) (m1 m2 : Bool) (l1 l2 : List (Nat × Bool)) (f1 f2 : Nat) (fin1 fin2 : Array Bool) {fuel : Nat} {listed : Array Bool} {a : Act} {w : World} (hc : closed .any ops = true) (hsel : Region.noSelect ops = true) (hcl : Down ops listed)
    (hi : i < ops.size) (hj : j < ops.size) (hr : Region.ready .any ops listed = [i, j])
    (hp1 : planF P ops fuel (listed.setIfInBounds i true) = (l1, f1, fin1)) (hp2 : planF P ops fuel (listed.setIfInBounds j true) = (l2, f2, fin2))
    (hm1 : (late ops i && !keepAt ops i) = m1) (hm2 : (late ops j && !keepAt ops j) = m2)
    (h1 : wpSeg P ops (Qf P ops fin1 (fun a' w' => Down ops fin1 → wpAnyL P .any ops (fun e a w => e = .normal ∧ Q .normal a w) (late ops) f1 fin1 a' w')) (((i, m1) :: l1).filterMap (pick ops)) a w)
    (h2 : wpSeg P ops (Qf P ops fin2 (fun a' w' => Down ops fin2 → wpAnyL P .any ops (fun e a w => e = .normal ∧ Q .normal a w) (late ops) f2 fin2 a' w')) (((j, m2) :: l2).filterMap (pick ops)) a w) :
    wpAnyL P .any ops (fun e a w => e = .normal ∧ Q .normal a w) (late ops) (fuel + 1) listed a w := by
  subst hm1 hm2
  have e1 : ops[i]? = some ops[i] := Array.getElem?_eq_getElem hi
  have e2 : ops[j]? = some ops[j] := Array.getElem?_eq_getElem hj
  refine wpAnyL_two hc hsel (fun e a w h => h.1) hcl i j _ _ e1 e2 hr ?_ ?_
  · rw [hp1]
    rw [List.filterMap_cons, pick_some e1] at h1
    exact h1
  · rw [hp2]
    rw [List.filterMap_cons, pick_some e2] at h2
    exact h2
/-- One that is marked and wanted. -/
theorem wpSeg_markG {Q : Exit → Act → World → Prop} {o : Oper} {l : List (Oper × Bool)} {a : Act} {w : World} (hg : Region.wanted o (yielded ops a.tmps) = true)
    (h : o.wp P a w (fun a' w' => Old w w' ∧ wpSeg P ops Q l a' w') Q) : wpSeg P ops Q ((o, true) :: l) a w := by
  unfold wpSeg
  rw [if_pos hg]
  exact .inl (Oper.wp_mono (fun a' w' h' => ⟨fun _ => h'.1, h'.2⟩) h)
end
end Go.Proofs.YtjojhfphlnfimaaGreatDoor.J
