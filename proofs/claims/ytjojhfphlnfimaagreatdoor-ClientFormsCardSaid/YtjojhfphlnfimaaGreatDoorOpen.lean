/- A slice of structs that came in, opened to 'Rd'; the row's last step where only old blocks are known. -/
import Derived.Test.YtjojhfphlnfimaaGreatDoorJk
import Derived.Deep.Slices
import Derived.Deep.Fields
import Derived.ChangeSame
import Derived.Carry
import Derived.Below
namespace Go.Proofs.YtjojhfphlnfimaaGreatDoor.J
open Go Go.RowKit Go.ChangeShapes Go.WideShapes Go.Deep

theorem list_of {α : Type} {p : Nat → α → Prop} : ∀ n : Nat, (∀ i, i < n → ∃ x, p i x) → ∃ l : List α, l.length = n ∧ ∀ i x, l[i]? = some x → p i x
  | 0, _ => ⟨[], rfl, fun i x h => by simp at h⟩
  | n + 1, h => by
    obtain ⟨l, hl, hp⟩ := list_of n (fun i hi => h i (Nat.lt_succ_of_lt hi))
    obtain ⟨x, hx⟩ := h n (Nat.lt_succ_self n)
    refine ⟨l ++ [x], by simp [hl], fun i y hy => ?_⟩
    by_cases hi : i < l.length
    · rw [List.getElem?_append_left hi] at hy
      exact hp i y hy
    · have hlt : i < (l ++ [x]).length := (List.getElem?_eq_some_iff.1 hy).1
      simp at hlt
      have : i = l.length := by omega
      subst this
      rw [List.getElem?_append_right (Nat.le_refl _)] at hy
      simp at hy
      subst hy
      rw [hl]; exact hx

theorem spot_of {w : World} {a : Addr} {v : Value} (h : w.cell? a = some v) : a = ⟨a.block, a.off, none⟩ := by
  obtain ⟨b, o, s⟩ := a
  cases s with
  | none => rfl
  | some s => unfold World.cell? at h; split at h <;> simp_all

theorem Rd.of_cells {α : Type} {k : K α} {w : World} {a : Addr} {n c : Nat} (hnc : n ≤ c) (hm : c ≤ maxLen)
    (h : ∀ i, i < n → ∃ x : α, ∀ j, j < k.sz → w.cell? (a.add (i * k.sz + j)) = (k.cs x)[j]?) : ∃ l, Rd k w (some a) n c l := by
  obtain ⟨l, hl, hp⟩ := list_of (p := fun i x => ∀ j, j < k.sz → w.cell? (a.add (i * k.sz + j)) = (k.cs x)[j]?) n h
  have hpos := k.pos
  refine ⟨l, hl.symm, hnc, hm, (fun h => by cases h), fun j u hu => ?_⟩
  have hj : j < l.length * k.sz := by rw [← K.all_length]; exact (List.getElem?_eq_some_iff.1 hu).1
  have hi : j / k.sz < l.length := Nat.div_lt_of_lt_mul (by rw [Nat.mul_comm]; exact hj)
  have h0 : 0 < l.length := Nat.lt_of_le_of_lt (Nat.zero_le _) hi
  obtain ⟨x0, hx0⟩ : ∃ x, l[0]? = some x := ⟨_, List.getElem?_eq_getElem h0⟩
  have c0 := hp 0 x0 hx0 0 hpos
  have hv0 : ∃ v, (k.cs x0)[0]? = some v := ⟨_, List.getElem?_eq_getElem (by rw [k.len]; exact hpos)⟩
  obtain ⟨v0, hv0⟩ := hv0
  rw [hv0, Nat.zero_mul] at c0
  have ha := spot_of (w := w) (a := a) (v := v0) c0
  refine ⟨a.block, a.off, by rw [← ha], ?_⟩
  obtain ⟨x, hx⟩ : ∃ x, l[j / k.sz]? = some x := ⟨_, List.getElem?_eq_getElem hi⟩
  have hr : j % k.sz < k.sz := Nat.mod_lt _ hpos
  have he : j / k.sz * k.sz + j % k.sz = j := by rw [Nat.mul_comm]; exact Nat.div_add_mod j k.sz
  have hg := k.all_get l (j / k.sz) (j % k.sz) x hx hr
  have hc := hp _ x hx _ hr
  rw [he] at hg hc
  rw [ha, add_off] at hc
  rw [hc, ← hg, hu]

section
variable {H : Type} {enc : TypeId × Value → H} {P : Program} {w : World} {base : Nat} {held : Bool}
theorem open_rd {α : Type} {k : K α} {t e : TypeId} {fs : Array Field} {fuel : Nat} {cs : List Value} {x : DataW H × List MemPlace} (ht : P.underlying t = some (.slice e)) (he : P.underlying e = some (.struct fs))
    (hone : oneCellFields P fs = true) (hC : P.cellsOf e = fs.size) (hsz : k.sz = fs.size)
    (hrow : ∀ (l : List Value) (n : Nat), l.length = fs.size → (∀ (j : Nat) (f : Field), fs[j]? = some f → ∃ (v : Value) (y : DataW H × List MemPlace), l[j]? = some v ∧ DataW.trod enc P w base (fun _ => true) held n f.type [v] = some y) → ∃ x : α, l = k.cs x)
    (h : DataW.trod enc P w base (fun _ => true) held fuel t cs = some x) :
    ∃ A n c l, cs = [.slice A n c] ∧ Rd k w A n c l := by
  rcases open_slice ht h with ⟨h0, _⟩ | ⟨a, len, cap, m, n, D, Pl, hcs, hb, hl, hm, hmm, hx, hi⟩
  · exact ⟨none, 0, 0, [], h0, Rd.nil _ _⟩
  · simp only [if_true] at hmm
    obtain ⟨l, hrd⟩ := Rd.of_cells (k := k) (w := w) (a := a) (n := len) (c := cap) hl hm (fun i hil => by
      obtain ⟨cs', hc, ht'⟩ := hi i (by omega)
      rw [hC] at hc
      obtain ⟨ys, n', _, _, _, hyl, hf⟩ := DataW.trod_struct he ht'
      obtain ⟨_, hcl, hat⟩ := World.cells?_some hc
      obtain ⟨x, hxx⟩ := hrow cs' n' hcl (fun j f hj => by
        obtain ⟨ho, hk⟩ := hone_of hone j f hj
        have hjl : j < fs.size := (Array.getElem?_eq_some_iff.1 hj).1
        have hv : cs'[j]? = some (cs'[j]'(by omega)) := List.getElem?_eq_getElem (by omega)
        have h1 := hf j f hj
        rw [ho, hk, List.drop_eq_getElem_cons (by omega)] at h1
        have hys : ys[j]? = some (ys[j]'(by omega)) := List.getElem?_eq_getElem (by omega)
        exact ⟨_, _, hv, h1.trans hys⟩)
      refine ⟨x, fun j hj => ?_⟩
      rw [hsz] at hj ⊢
      rw [← Go.Deep.add_add, hat j hj, hxx])
    exact ⟨some a, len, cap, l, hcs, hrd⟩
end

section
variable {H : Type} {enc : TypeId × Value → H} {P : Program}
/-- The row's last step, of a call that left every old block as it was. -/
theorem post_of_mod {f : Func} {s : ChangeSpec} {apart fresh handsOn again : Bool} {W W' : World} {args : Array Value} {v : Value} {ds gs : List (DataW H)} {before pa pv : List MemPlace}
    (hW : DataW.Whole enc P f.params.toList s.vars apart W args.toList ds gs before)
    (hres : ∀ (b : Nat) (sp : Nat → Bool) (hd : Bool), DataW.TrodAll enc P W' b sp hd f.resultTypes.toList (v.resultList f.resultTypes.size) (s.fn H (ds ++ gs)).results [])
    (hargs : ∀ sp : Nat → Bool, (∀ p ∈ before, sp p.block = true) → DataW.TrodAll enc P W' 0 sp true f.params.toList args.toList (s.fn H (ds ++ gs)).args pa)
    (hvars : ∀ sp : Nat → Bool, (∀ p ∈ before, sp p.block = true) → DataW.TrodVars enc P W' sp s.vars (s.fn H (ds ++ gs)).vars pv)
    (hps : before = pa ++ pv) (hm : Mod No W W')
    (hok : ∀ (j : Nat) (t : TypeId) (r : Value), f.resultTypes[j]? = some t → (v.resultList f.resultTypes.size)[j]? = some r → Value.okWide P W' .any 0 t r) :
    s.post enc P f apart fresh handsOn again W args v W' := by
  have hb := hm.below
  have hlt : ∀ p ∈ before, p.block < W.heap.size := fun p hp => hW.lt p hp
  have hold : ∀ p ∈ before, (fun b => decide (b < W.heap.size)) p.block = true := fun p hp => decide_eq_true (hlt p hp)
  refine ⟨ds, gs, before, [], pa, pv, hW, hres _ _ _, hargs _ hold, hvars _ hold, World.keptBut_mono (fun p hp => ⟨hp, ?_⟩) (hb.frame (· ∈ before)), fun _ => ?_⟩
  · right
    rw [hps] at hp
    exact List.mem_append.1 hp
  · obtain ⟨_, _, _, _, _, hz, hn⟩ := hW
    refine ⟨hok, _, _, ([] ++ pa) ++ pv, ⟨[] ++ pa, pv, trodAll_append (hargs _ (fun _ _ => rfl)) (hres _ _ _), hvars _ (fun _ _ => rfl), rfl, fun b off hp => ?_, fun ha => ?_⟩, fun p hp _ => ?_⟩
    · have hin : MemPlace.cell b off ∈ before := by rw [hps]; simpa using hp
      rw [hb.frozen (hlt _ hin)]
      exact hz b off hin
    · have := hn ha
      rw [hps] at this
      simpa using this
    · rw [hps]
      simpa using hp
end
end Go.Proofs.YtjojhfphlnfimaaGreatDoor.J
