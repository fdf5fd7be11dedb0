/- A cell of an element of an owned slice, written. -/
import Derived.Test.YtjojhfphlnfimaaGreatDoorJk
namespace Go.Proofs.YtjojhfphlnfimaaGreatDoor.J
open Go Go.RowKit
set_option linter.unusedSimpArgs false
set_option linter.unusedVariables false

section
variable {α : Type} {k : K α} {T : TypeId} {w : World} {A : Option Addr} {n c : Nat} {l : List α} {S : Nat → Prop}
theorem K.all_set (k : K α) : ∀ (l : List α) (i j : Nat) (x x' : α) (v : Value), l[i]? = some x → j < k.sz → (k.cs x).set j v = k.cs x' → (k.all l).set (i * k.sz + j) v = k.all (l.set i x')
  | [], i, j, x, x', v, h, _, _ => by simp at h
  | y :: l, 0, j, x, x', v, h, hj, hs => by
    simp at h
    subst h
    rw [K.all_cons, Nat.zero_mul, Nat.zero_add, List.set_append_left _ _ (by rw [k.len]; exact hj), hs, List.set_cons_zero, K.all_cons]
  | y :: l, i + 1, j, x, x', v, h, hj, hs => by
    have h' : l[i]? = some x := by simpa using h
    have hle : (k.cs y).length ≤ (i + 1) * k.sz + j := by rw [k.len, Nat.succ_mul]; omega
    rw [K.all_cons, List.set_append_right _ _ hle, k.len, List.set_cons_succ, K.all_cons]
    have : (i + 1) * k.sz + j - k.sz = i * k.sz + j := by rw [Nat.succ_mul]; omega
    rw [this, K.all_set k l i j x x' v h' hj hs]

/-- Cell j of element i of an owned slice is written: the list with that element changed. -/
theorem Own.setAt (h : Own k T w A n c l S) {i j : Nat} {x x' : α} {v : Value} (hx : l[i]? = some x) (hj : j < k.sz) (hs : (k.cs x).set j v = k.cs x') {b o : Nat} (hA : A = some ⟨b, o, none⟩) :
    Own k T (w.setCell ⟨b, o + (i * k.sz + j), none⟩ v) A n c (l.set i x') S := by
  have hi : i < l.length := (List.getElem?_eq_some_iff.1 hx).1
  refine ⟨by rw [List.length_set]; exact h.1, ?_⟩
  have hn := h.1
  rcases h.2 with ⟨h1, h2, h3⟩ | ⟨g, off, cur, h1, h2, h3, h4, h5, h6, h7⟩
  · omega
  · rw [hA] at h1
    simp only [Option.some.injEq, Addr.mk.injEq, and_true] at h1
    obtain ⟨rfl, rfl⟩ := h1
    refine .inr ⟨b, off, cur.setIfInBounds (off * k.sz + (i * k.sz + j)) v, hA, h2, blk_set h3 _ _, h4, h5, by simpa using h6, ?_⟩
    rw [Array.toList_setIfInBounds, List.drop_set, if_neg (by omega), List.take_set, h7]
    rw [show off * k.sz + (i * k.sz + j) - off * k.sz = i * k.sz + j by omega]
    exact k.all_set l i j x x' v hx hj hs
end
end Go.Proofs.YtjojhfphlnfimaaGreatDoor.J
