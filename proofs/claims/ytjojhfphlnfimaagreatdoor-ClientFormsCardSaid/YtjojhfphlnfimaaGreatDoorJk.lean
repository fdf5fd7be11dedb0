/- Objects in memory: what a call keeps; slices that are read; slices that something owns. Plain lemmas over any program. -/
import Derived.WalkKit
import Derived.Lib.Hide
import Derived.Deep.AppendLies
import Derived.Deep.Draws
namespace Go.Proofs.YtjojhfphlnfimaaGreatDoor.J
open Go Go.RowKit
set_option linter.unusedSimpArgs false
set_option linter.unusedVariables false

/-! ### What a call keeps -/

/-- All that was there is as it was, but for the blocks of S. -/
structure Mod (S : Nat → Prop) (w w' : World) : Prop where
  os : w'.os = w.os
  tape : w'.tape = w.tape
  output : w'.output = w.output
  size : w.heap.size ≤ w'.heap.size
  block : ∀ k, k < w.heap.size → ¬ S k → w'.heap[k]? = w.heap[k]?

abbrev No : Nat → Prop := fun _ => False

section
variable {S S' T : Nat → Prop} {w w' w'' : World}
theorem blk_lt {b : Nat} {o : Obj} (h : w.heap[b]? = some o) : b < w.heap.size := (Array.getElem?_eq_some_iff.1 h).1
theorem Mod.refl (S : Nat → Prop) (w : World) : Mod S w w := ⟨rfl, rfl, rfl, Nat.le_refl _, fun _ _ _ => rfl⟩
theorem Mod.trans (h : Mod S w w') (k : Mod T w' w'') (hs : ∀ b, b < w.heap.size → T b → S b) : Mod S w w'' :=
  ⟨k.os.trans h.os, k.tape.trans h.tape, k.output.trans h.output, Nat.le_trans h.size k.size,
    fun b hb hn => (k.block b (Nat.lt_of_lt_of_le hb h.size) (fun ht => hn (hs b hb ht))).trans (h.block b hb hn)⟩
theorem Mod.mono (h : Mod S w w') (hs : ∀ b, b < w.heap.size → S b → S' b) : Mod S' w w' :=
  ⟨h.os, h.tape, h.output, h.size, fun b hb hn => h.block b hb (fun ht => hn (hs b hb ht))⟩
theorem Mod.of (h : Mod No w w') : Mod S w w' := h.mono (fun _ _ hf => hf.elim)
theorem Mod.then0 (h : Mod S w w') (k : Mod No w' w'') : Mod S w w'' := h.trans k (fun _ _ hf => hf.elim)
theorem Mod.and (h : Mod S w w') (k : Mod S w' w'') : Mod S w w'' := h.trans k (fun _ _ hf => hf)
theorem Mod.alloc (h : Mod S w w') (o : Obj) : Mod S w (w'.alloc o) :=
  h.then0 ⟨rfl, rfl, rfl, by simp, fun k hk _ => Below.heap_alloc w' o k hk⟩
theorem Mod.drew (h : Mod S w w') : Mod S w w'.drew := ⟨h.os, h.tape, h.output, h.size, h.block⟩
theorem Mod.drewN (h : Mod S w w') (n : Nat) : Mod S w (w'.drewN n) := ⟨h.os, h.tape, h.output, h.size, h.block⟩
theorem Mod.setCell (h : Mod S w w') {p : Addr} (hp : S p.block ∨ w.heap.size ≤ p.block) (u : Value) : Mod S w (w'.setCell p u) :=
  h.trans (T := fun b => b = p.block) ⟨rfl, rfl, rfl, by simp [World.setCell], fun k _ hn => Below.heap_setCell _ _ _ _ hn⟩
    (fun b hb hbp => by subst hbp; rcases hp with hp | hp; exact hp; omega)
theorem Mod.ofBelow (h : Below w.heap.size w w') : Mod No w w' := ⟨h.os, h.tape, h.output, h.size, fun k hk _ => h.block k hk⟩
theorem Mod.below (h : Mod No w w') : Below w.heap.size w w' := ⟨h.os, h.tape, h.output, h.size, fun k hk => h.block k hk (fun hf => hf)⟩
theorem Mod.belowB {B : Nat} (h : Mod S w w') (hB : B ≤ w.heap.size) (hs : ∀ b, b < B → ¬ S b) : Below B w w' := ⟨h.os, h.tape, h.output, h.size, fun k hk => h.block k (Nat.lt_of_lt_of_le hk hB) (hs k hk)⟩
theorem Mod.own {B : Nat} (h : Mod No w w') (k : Mod (fun b => B ≤ b) w' w'') (hB : w.heap.size ≤ B) : Mod No w w'' :=
  h.trans k (fun b hb ht => absurd hb (Nat.not_lt.2 (Nat.le_trans hB ht)))
theorem Mod.grown {row : Option Nat} (h : Mod S w w') (hg : w'.grownBy w'' row) (hr : ∀ k, row = some k → S k ∨ w.heap.size ≤ k) : Mod S w w'' :=
  h.trans (T := fun b => row = some b) ⟨hg.os, hg.tape, hg.output, hg.size, fun k hk hn => hg.block k hk (fun e => hn e.symm)⟩
    (fun b hb hbp => by rcases hr b hbp with h | h; exact h; omega)
theorem Mod.heap (h : Mod S w w') {b : Nat} {o : Obj} (hb : w.heap[b]? = some o) (hn : ¬ S b) : w'.heap[b]? = some o :=
  (h.block b (blk_lt hb) hn).trans hb
theorem Mod.cell (h : Mod S w w') {a : Addr} {v : Value} (hc : w.cell? a = some v) (hn : ¬ S a.block) : w'.cell? a = some v := by
  rw [World.cell?_of_block (w := w) (h.block a.block (World.block_lt_of_cell? w a hc) hn)]; exact hc
theorem Mod.frozen (h : Mod S w w') {a : Addr} (hb : a.block < w.heap.size) (hn : ¬ S a.block) : w'.frozen? a = w.frozen? a :=
  World.frozen?_of_block (w := w) (h.block a.block hb hn)
end

/-! ### Blocks -/
section
variable {w : World} {b i : Nat} {C : Array Value} {T : TypeId}
theorem blk_cell (h : w.heap[b]? = some (.cells C T (0, 0))) {i : Nat} {v : Value} (hv : C[i]? = some v) : w.cell? ⟨b, i, none⟩ = some v := by
  simp [World.cell?, h, hv]
theorem blk_at (h : w.heap[b]? = some (.cells C T (0, 0))) (i : Nat) : w.cell? ⟨b, i, none⟩ = C[i]? := by
  simp [World.cell?, h]
theorem blk_free (h : w.heap[b]? = some (.cells C T (0, 0))) (i : Nat) : w.frozen? ⟨b, i, none⟩ = false := by
  simp [World.frozen?, h]
theorem blk_set (h : w.heap[b]? = some (.cells C T (0, 0))) (i : Nat) (v : Value) : (w.setCell ⟨b, i, none⟩ v).heap[b]? = some (.cells (C.setIfInBounds i v) T (0, 0)) :=
  heap_setCell_same w b i C T v h
theorem blk_set_other {o : Obj} (h : w.heap[b]? = some o) {a : Addr} (hn : b ≠ a.block) (v : Value) : (w.setCell a v).heap[b]? = some o := by
  rw [heap_setCell_other w a b v hn]; exact h
theorem blk_alloc {o : Obj} (h : w.heap[b]? = some o) (o' : Obj) : (w.alloc o').heap[b]? = some o := by
  rw [Below.heap_alloc w o' b (blk_lt h)]; exact h
theorem blk_new (w : World) (o : Obj) {b : Nat} (hb : b = w.heap.size) : (w.alloc o).heap[b]? = some o := by subst hb; exact heap_alloc_new w o
end

theorem add_off (b o j : Nat) : (⟨b, o, none⟩ : Addr).add j = ⟨b, o + j, none⟩ := by unfold Addr.add; split <;> simp_all

/-! ### Kinds of elements -/
structure K (α : Type) where
  sz : Nat
  cs : α → List Value
  len : ∀ a, (cs a).length = sz
  one : ∀ a, ∀ v ∈ cs a, v.oneCell' = true
  pos : 0 < sz

variable {α : Type}
def K.all (k : K α) (l : List α) : List Value := l.flatMap k.cs
theorem K.all_nil (k : K α) : k.all [] = [] := rfl
theorem K.all_cons (k : K α) (x : α) (l : List α) : k.all (x :: l) = k.cs x ++ k.all l := rfl
theorem K.all_append (k : K α) (l m : List α) : k.all (l ++ m) = k.all l ++ k.all m := by simp [K.all]
theorem K.all_length (k : K α) (l : List α) : (k.all l).length = l.length * k.sz := by
  induction l with
  | nil => simp [K.all]
  | cons x l ih => rw [K.all_cons, List.length_append, ih, k.len, List.length_cons, Nat.add_mul, Nat.one_mul, Nat.add_comm]
theorem K.all_one (k : K α) (l : List α) : ∀ v ∈ k.all l, v.oneCell' = true := by
  intro v hv
  obtain ⟨a, _, ha⟩ := List.mem_flatMap.1 hv
  exact k.one a v ha
theorem K.all_take (k : K α) (l : List α) (n : Nat) : (k.all l).take (n * k.sz) = k.all (l.take n) := by
  induction l generalizing n with
  | nil => simp [K.all]
  | cons x l ih =>
    cases n with
    | zero => simp [K.all]
    | succ n =>
      rw [K.all_cons, List.take_succ_cons, K.all_cons, ← ih n, Nat.add_mul, Nat.one_mul, Nat.add_comm, List.take_append, k.len]
      rw [List.take_of_length_le (by rw [k.len]; omega)]
      congr 2; omega
theorem K.all_drop (k : K α) (l : List α) (n : Nat) : (k.all l).drop (n * k.sz) = k.all (l.drop n) := by
  have h1 : k.all (l.take n) ++ k.all (l.drop n) = k.all l := by rw [← K.all_append, List.take_append_drop]
  have h2 : (k.all l).take (n * k.sz) ++ (k.all l).drop (n * k.sz) = k.all l := List.take_append_drop _ _
  rw [K.all_take] at h2
  exact List.append_cancel_left (h2.trans h1.symm)
theorem K.all_get (k : K α) (l : List α) (i j : Nat) (x : α) (hx : l[i]? = some x) (hj : j < k.sz) : (k.all l)[i * k.sz + j]? = (k.cs x)[j]? := by
  have h : l = l.take i ++ x :: l.drop (i + 1) := by
    have hi : i < l.length := (List.getElem?_eq_some_iff.1 hx).1
    have he : l[i] = x := (List.getElem?_eq_some_iff.1 hx).2
    rw [← he, List.getElem_cons_drop, List.take_append_drop]
  have hi : i < l.length := (List.getElem?_eq_some_iff.1 hx).1
  have hl : (k.all (l.take i)).length = i * k.sz := by rw [K.all_length, List.length_take, Nat.min_eq_left (by omega)]
  rw [h, K.all_append, K.all_cons, List.getElem?_append_right (by rw [hl]; omega), hl, Nat.add_sub_cancel_left, List.getElem?_append_left (by rw [k.len]; exact hj)]

/-! ### A slice that is read -/
/-- '.slice A n c' reads as l in w. -/
def Rd (k : K α) (w : World) (A : Option Addr) (n c : Nat) (l : List α) : Prop :=
  n = l.length ∧ n ≤ c ∧ c ≤ maxLen ∧ (A = none → c = 0) ∧
  ∀ j u, (k.all l)[j]? = some u → ∃ b o, A = some ⟨b, o, none⟩ ∧ w.cell? ⟨b, o + j, none⟩ = some u

section
variable {k : K α} {w w' : World} {A : Option Addr} {n c : Nat} {l : List α} {S : Nat → Prop}
theorem Rd.len (h : Rd k w A n c l) : n = l.length := h.1
theorem Rd.max (h : Rd k w A n c l) : n ≤ maxLen := Nat.le_trans h.2.1 h.2.2.1
theorem Rd.nil (k : K α) (w : World) : Rd k w none 0 0 [] := ⟨rfl, Nat.le_refl _, by simp [maxLen], fun _ => rfl, fun j u h => by simp [K.all] at h⟩
/-- The block it lies in. -/
def inBlk (A : Option Addr) (S : Nat → Prop) : Prop := ∀ a, A = some a → S a.block
theorem Rd.mod (h : Rd k w A n c l) (hm : Mod S w w') (hn : inBlk A (fun b => ¬ S b)) : Rd k w' A n c l :=
  ⟨h.1, h.2.1, h.2.2.1, h.2.2.2.1, fun j u hu => by
    obtain ⟨b, o, ha, hc⟩ := h.2.2.2.2 j u hu
    exact ⟨b, o, ha, hm.cell hc (fun hs => hn _ ha hs)⟩⟩
theorem Rd.mod0 (h : Rd k w A n c l) (hm : Mod No w w') : Rd k w' A n c l := h.mod hm (fun _ _ hf => hf)
theorem Rd.alloc (h : Rd k w A n c l) (o : Obj) : Rd k (w.alloc o) A n c l := h.mod0 ((Mod.refl _ _).alloc o)
theorem Rd.drew (h : Rd k w A n c l) : Rd k w.drew A n c l := h
theorem Rd.drewN (h : Rd k w A n c l) (m : Nat) : Rd k (w.drewN m) A n c l := h
theorem Rd.at (h : Rd k w A n c l) {i : Nat} {x : α} (hx : l[i]? = some x) : ∃ b o, A = some ⟨b, o, none⟩ ∧ ∀ j u, (k.cs x)[j]? = some u → w.cell? ⟨b, o + (i * k.sz + j), none⟩ = some u := by
  have hp := k.pos
  have hj0 : (k.all l)[i * k.sz + 0]? = (k.cs x)[0]? := K.all_get k l i 0 x hx hp
  have hc0 : ∃ u, (k.cs x)[0]? = some u := ⟨_, List.getElem?_eq_getElem (by rw [k.len]; exact hp)⟩
  obtain ⟨u0, hu0⟩ := hc0
  obtain ⟨b, o, ha, _⟩ := h.2.2.2.2 _ _ (hj0.trans hu0)
  refine ⟨b, o, ha, fun j u hu => ?_⟩
  have hj : j < k.sz := by have := (List.getElem?_eq_some_iff.1 hu).1; rw [k.len] at this; exact this
  obtain ⟨b', o', ha', hc'⟩ := h.2.2.2.2 _ _ ((K.all_get k l i j x hx hj).trans hu)
  rw [ha] at ha'
  obtain ⟨rfl, rfl⟩ : b = b' ∧ o = o' := by simpa using ha'
  exact hc'
/-- A piece of it. -/
theorem Rd.slice (h : Rd k w A n c l) (lo hi : Nat) (h1 : lo ≤ hi) (h2 : hi ≤ n) :
    Rd k w (if c = lo then A else A.map (·.add (lo * k.sz))) (hi - lo) (c - lo) ((l.drop lo).take (hi - lo)) := by
  obtain ⟨e1, e2, e3, e4, e5⟩ := h
  refine ⟨by simp only [List.length_take, List.length_drop]; omega, by omega, by omega, ?_, ?_⟩
  · intro hA
    split at hA
    · omega
    · have := e4 (by simpa using hA); omega
  · intro j u hu
    by_cases hlen : hi = lo
    · subst hlen; simp [K.all] at hu
    rw [if_neg (by omega)]
    rw [← K.all_take, ← K.all_drop, List.getElem?_take] at hu
    split at hu
    · rw [List.getElem?_drop] at hu
      obtain ⟨b, o, ha, hc⟩ := e5 _ _ hu
      subst ha
      by_cases hz : lo * k.sz = 0
      · refine ⟨b, o, by simp [Addr.add, hz], ?_⟩
        rw [hz, Nat.zero_add] at hc; exact hc
      · refine ⟨b, o + lo * k.sz, by simp [Addr.add, hz], ?_⟩
        rw [Nat.add_assoc]; exact hc
    · cases hu
end

theorem Rd.head {k : K α} {w : World} {A : Option Addr} {n c : Nat} {l : List α} (h : Rd k w A n c l) {p : Nat} (hp : p ≤ n) : Rd k w A p c (l.take p) := by
  obtain ⟨e1, e2, e3, e4, e5⟩ := h
  refine ⟨by simp; omega, by omega, e3, e4, fun j u hu => ?_⟩
  rw [← K.all_take, List.getElem?_take] at hu
  split at hu
  · exact e5 j u hu
  · cases hu
theorem Rd.tail {k : K α} {w : World} {A : Option Addr} {n c : Nat} {l : List α} (h : Rd k w A n c l) (lo : Nat) (h1 : lo ≤ n) :
    Rd k w (if c = lo then A else A.map (·.add (lo * k.sz))) (n - lo) (c - lo) (l.drop lo) := by
  have := h.slice lo n h1 (Nat.le_refl _)
  rw [List.take_of_length_le (by rw [List.length_drop, h.1]; exact Nat.le_refl _)] at this
  exact this
theorem Rd.block {k : K α} {w : World} {b o : Nat} {C : Array Value} {T : TypeId} (hb : w.heap[b]? = some (.cells C T (0, 0))) (l : List α) (n c : Nat) (hn : n = l.length) (hc : n ≤ c) (hm : c ≤ maxLen) (hC : ∀ j u, (k.all l)[j]? = some u → C[o + j]? = some u) : Rd k w (some ⟨b, o, none⟩) n c l :=
  ⟨hn, hc, hm, (fun h => nomatch h), fun j u hu => ⟨b, o, rfl, blk_cell hb (hC j u hu)⟩⟩
/-- One element, just built. -/
theorem Rd.one {k : K α} {w : World} {b : Nat} {C : Array Value} {T : TypeId} (hb : w.heap[b]? = some (.cells C T (0, 0))) (x : α) (hC : C.toList = k.cs x) : Rd k w (some ⟨b, 0, none⟩) 1 1 [x] :=
  Rd.block hb [x] 1 1 rfl (Nat.le_refl _) (by simp [maxLen]) (fun j u hu => by
    rw [K.all_cons, K.all_nil, List.append_nil, ← hC] at hu; simpa using hu)

/-! ### A slice that something owns: it may be written behind its end -/
/-- '.slice A n c' holds l, in a block of T that lies in S (or it is nil). -/
def Own (k : K α) (T : TypeId) (w : World) (A : Option Addr) (n c : Nat) (l : List α) (S : Nat → Prop) : Prop :=
  n = l.length ∧
  ((A = none ∧ n = 0 ∧ c = 0) ∨
   ∃ g off cur, A = some ⟨g, off * k.sz, none⟩ ∧ S g ∧ w.heap[g]? = some (.cells cur T (0, 0)) ∧ n ≤ c ∧ c ≤ maxLen ∧ (off + c) * k.sz ≤ cur.size ∧ (cur.toList.drop (off * k.sz)).take (n * k.sz) = k.all l)

section
variable {k : K α} {T : TypeId} {w w' : World} {A : Option Addr} {n c : Nat} {l : List α} {S S' : Nat → Prop}
theorem Own.len (h : Own k T w A n c l S) : n = l.length := h.1
theorem Own.nil (k : K α) (T : TypeId) (w : World) (S : Nat → Prop) : Own k T w none 0 0 [] S := ⟨rfl, .inl ⟨rfl, rfl, rfl⟩⟩
theorem Own.mono (h : Own k T w A n c l S) (hs : ∀ b, b < w.heap.size → S b → S' b) : Own k T w A n c l S' := by
  refine ⟨h.1, ?_⟩
  rcases h.2 with h | ⟨g, off, cur, h1, h2, h3, h4⟩
  · exact .inl h
  · exact .inr ⟨g, off, cur, h1, hs _ (blk_lt h3) h2, h3, h4⟩
theorem Own.mod (h : Own k T w A n c l S) {M : Nat → Prop} (hm : Mod M w w') (hd : ∀ b, b < w.heap.size → S b → ¬ M b) : Own k T w' A n c l S := by
  refine ⟨h.1, ?_⟩
  rcases h.2 with h | ⟨g, off, cur, h1, h2, h3, h4⟩
  · exact .inl h
  · exact .inr ⟨g, off, cur, h1, h2, hm.heap h3 (hd _ (blk_lt h3) h2), h4⟩
theorem Own.mod0 (h : Own k T w A n c l S) (hm : Mod No w w') : Own k T w' A n c l S := h.mod hm (fun _ _ _ hf => hf)
theorem Own.alloc (h : Own k T w A n c l S) (o : Obj) : Own k T (w.alloc o) A n c l S := h.mod0 ((Mod.refl _ _).alloc o)
theorem Own.drew (h : Own k T w A n c l S) : Own k T w.drew A n c l S := h
theorem Own.drewN (h : Own k T w A n c l S) (m : Nat) : Own k T (w.drewN m) A n c l S := h
theorem Own.setOther (h : Own k T w A n c l S) {p : Addr} (hp : ¬ S p.block) (v : Value) : Own k T (w.setCell p v) A n c l S :=
  h.mod (M := fun b => b = p.block) ⟨rfl, rfl, rfl, by simp [World.setCell], fun b _ hn => Below.heap_setCell _ _ _ _ hn⟩ (fun b _ hs e => hp (e ▸ hs))
theorem Own.rd (h : Own k T w A n c l S) : Rd k w A n c l := by
  obtain ⟨e, h⟩ := h
  rcases h with ⟨rfl, rfl, rfl⟩ | ⟨g, off, cur, rfl, _, h3, h4, h5, h6, h7⟩
  · have : l = [] := List.eq_nil_of_length_eq_zero e.symm
    subst this; exact Rd.nil k w
  · refine ⟨e, h4, h5, (fun h => nomatch h), fun j u hu => ⟨g, off * k.sz, rfl, ?_⟩⟩
    rw [← h7, List.getElem?_take] at hu
    split at hu
    · rw [List.getElem?_drop] at hu
      exact blk_cell h3 (by simpa using hu)
    · cases hu
theorem Own.inBlk (h : Own k T w A n c l S) : inBlk A S := by
  intro a ha
  rcases h.2 with ⟨rfl, _⟩ | ⟨g, off, cur, h1, h2, _⟩
  · cases ha
  · rw [h1] at ha; cases ha; exact h2
theorem Own.blkLt (h : Own k T w A n c l S) : J.inBlk A (fun b => b < w.heap.size) := by
  intro a ha
  rcases h.2 with ⟨rfl, _⟩ | ⟨g, off, cur, h1, h2, h3, _⟩
  · cases ha
  · rw [h1] at ha; cases ha; exact blk_lt h3
/-- Its first ones are cut off. -/
theorem Own.tail (h : Own k T w A n c l S) (lo : Nat) (h1 : lo ≤ n) :
    Own k T w (if c = lo then A else A.map (·.add (lo * k.sz))) (n - lo) (c - lo) (l.drop lo) S := by
  obtain ⟨e, h⟩ := h
  refine ⟨by simp [e], ?_⟩
  rcases h with ⟨rfl, rfl, rfl⟩ | ⟨g, off, cur, rfl, h2, h3, h4, h5, h6, h7⟩
  · left
    refine ⟨by simp, by omega, by omega⟩
  · right
    by_cases hc : c = lo
    · have hn : n = lo := by omega
      refine ⟨g, off, cur, by rw [if_pos hc], h2, h3, by omega, by omega, ?_, ?_⟩
      · rw [hc, Nat.sub_self, Nat.add_zero]
        exact Nat.le_trans (Nat.mul_le_mul_right _ (by omega)) h6
      · have : l.drop lo = [] := List.drop_eq_nil_of_le (by omega)
        rw [this, hn]; simp [K.all]
    · refine ⟨g, off + lo, cur, ?_, h2, h3, by omega, by omega, ?_, ?_⟩
      · rw [if_neg hc]
        by_cases hz : lo * k.sz = 0
        · have : lo = 0 := by rcases Nat.mul_eq_zero.1 hz with h | h; exact h; have := k.pos; omega
          subst this; simp [Addr.add]
        · simp [Addr.add, hz, Nat.add_mul]
      · exact Nat.le_trans (Nat.mul_le_mul_right _ (by omega)) h6
      · rw [← K.all_drop, ← h7, List.drop_take, List.drop_drop, Nat.add_mul, Nat.sub_mul]
end

/-! ### append -/
section
variable {P : Program} {k : K α} {T : TypeId} {w : World} {A B : Option Addr} {n c m d : Nat} {l l2 : List α} {S S' : Nat → Prop}

theorem Rd.first (h : Rd k w B m d l2) (w' : World) (hw : w'.heap = w.heap) : (Builtin.firstCells k.sz m (.slice B m d)).run P w' = .ok (k.all l2).toArray w' := by
  cases B with
  | none =>
    have hd := h.2.2.2.1 rfl
    have hm : m = 0 := by have := h.2.1; omega
    have hl : l2 = [] := List.eq_nil_of_length_eq_zero (by have := h.1; omega)
    subst hl
    rw [run_firstCells_none]; rfl
  | some a =>
    refine run_firstCells_some w' k.sz m a m d (k.all l2) (by rw [K.all_length, ← h.1]) fun j u hu => ?_
    obtain ⟨b, o, ha, hc⟩ := h.2.2.2.2 j u hu
    cases ha
    have hadd := add_off b o j
    rw [hadd]
    have : w'.cell? ⟨b, o + j, none⟩ = w.cell? ⟨b, o + j, none⟩ := by simp [World.cell?, hw]
    rw [this]; exact hc

theorem mem_seg (cur : List Value) (a b : Nat) (xs news : List Value) (hx : xs.length = b) (htake : (cur.drop a).take b = xs) (hfit : a + b + news.length ≤ cur.length) :
    ((cur.take (a + b) ++ news ++ cur.drop (a + b + news.length)).drop a).take (b + news.length) = xs ++ news := by
  have e1 : cur.take (a + b) = cur.take a ++ xs := by
    rw [← htake, List.take_add]
  rw [e1, List.append_assoc, List.append_assoc, List.drop_left' (by simp; omega), ← List.append_assoc, List.take_left' (by simp [hx])]

/-- 'append(s, x..)', s owned, x read. -/
theorem run_append_j (t ty : TypeId) (i : TypeInfo) (z : Value) (ht : P.underlying t = some (.slice T)) (hi : P.info? T = some i) (hz : i.zero = some z) (hsize : i.size = k.sz) (hzs : z.cells.size = k.sz)
    (hown : Own k T w A n c l S) (hx : Rd k w B m d l2) (h63 : n + m ≤ maxLen) (hbytes : (n + m) * i.bytes ≤ 140737488355328) :
    ∃ A' c' w', (Builtin.append_ #[t, t] ty #[.slice A n c, .slice B m d]).run P w = .ok (.slice A' (n + m) c') w' ∧
      Own k T w' A' (n + m) c' (l ++ l2) (fun b => S b ∨ b = w.heap.size) ∧ Mod S w w' ∧ w'.heap.size ≤ w.heap.size + 1 ∧ (A' = none ↔ A = none ∧ m = 0) := by
  have hsmall : n + m ≤ 9223372036854775807 := by simp only [maxLen] at h63; omega
  have hlen : n + m = (l ++ l2).length := by rw [List.length_append, ← hown.1, ← hx.1]
  have grown : ∀ (old : Nat), old < n + m →
      Own k T (w.drew.alloc (.cells ((k.all l).toArray ++ (k.all l2).toArray ++ Builtin.zeroCells z.cells (grownCap w (n + m) old T - (n + m))) T)) (some ⟨w.heap.size, 0, none⟩) (n + m) (grownCap w (n + m) old T) (l ++ l2) (fun b => S b ∨ b = w.heap.size) ∧
      Mod S w (w.drew.alloc (.cells ((k.all l).toArray ++ (k.all l2).toArray ++ Builtin.zeroCells z.cells (grownCap w (n + m) old T - (n + m))) T)) := by
    intro old ho
    have hge := grownCap_ge w (n + m) old T
    have hcm : grownCap w (n + m) old T ≤ maxLen := grownCap_le_maxLen w (n + m) old T h63
    refine ⟨⟨hlen, .inr ⟨w.heap.size, 0, _, by simp, .inr rfl, heap_alloc_new w.drew _, hge, hcm, ?_, ?_⟩⟩, (Mod.refl _ _).drew.alloc _⟩
    · simp only [Array.size_append, List.size_toArray, size_zeroCells, hzs, K.all_length, ← hown.1, ← hx.1, ← Nat.add_mul]
      exact Nat.mul_le_mul_right _ (by omega)
    · simp only [Array.toList_append, Nat.zero_mul, List.drop_zero, K.all_append]
      exact List.take_left' (by simp [K.all_length, hlen, Nat.add_mul])
  obtain ⟨e, hcase⟩ := hown
  rcases hcase with ⟨rfl, rfl, rfl⟩ | ⟨g, off, cur, rfl, hSg, hg, hnc, hcm, hcs, htake⟩
  · have hl0 : l = [] := List.eq_nil_of_length_eq_zero e.symm
    subst hl0
    by_cases hm : m = 0
    · subst hm
      have hn : l2 = [] := List.eq_nil_of_length_eq_zero (by have := hx.1; omega)
      subst hn
      have hf := hx.first (P := P) w rfl
      rw [← hsize] at hf
      refine ⟨none, 0, w, ?_, Own.nil k T w _, Mod.refl _ _, by omega, by simp⟩
      simp [Builtin.append_, run_underlying ht, sizeOf, typeInfo, hi, Builtin.lenOf, hf]
    · obtain ⟨u0, hu0⟩ : ∃ u, (k.all l2)[0]? = some u := ⟨_, List.getElem?_eq_getElem (by rw [K.all_length, ← hx.1]; exact Nat.mul_pos (by omega) k.pos)⟩
      obtain ⟨b, o, rfl, _⟩ := hx.2.2.2.2 0 u0 hu0
      have hnews : ∀ j v, (k.all l2)[j]? = some v → w.cell? ((⟨b, o, none⟩ : Addr).add j) = some v := fun j u hu => by
        obtain ⟨b', o', ha, hc⟩ := hx.2.2.2.2 j u hu
        cases ha
        have hadd := add_off b o j
        rw [hadd]; exact hc
      have hr := run_append_nil (P := P) w t ty T i z ht hi hz ⟨b, o, none⟩ m d (k.all l2) (by rw [K.all_length, ← hx.1, hsize]) hnews (by omega) (by omega) (by have hb := hbytes; simp only [Nat.zero_add] at hb; omega)
      have hgr := grown 0 (by omega)
      simp only [Nat.zero_add, List.nil_append, K.all_nil, Array.empty_append] at hgr ⊢
      refine ⟨_, _, _, hr, hgr.1, hgr.2, by rw [World.size_alloc]; exact Nat.le_refl _, by simp [hm]⟩
  · have hlall : (k.all l).length = n * k.sz := by rw [K.all_length, ← e]
    by_cases hroom : n + m ≤ c
    · have hf := hx.first (P := P) w rfl
      have hfit : off * k.sz + n * k.sz + (k.all l2).length ≤ cur.size := by
        rw [K.all_length, ← hx.1, ← Nat.add_mul, ← Nat.add_mul]
        exact Nat.le_trans (Nat.mul_le_mul_right _ (by omega)) hcs
      have hst := run_storeCells_at P g (off * k.sz + n * k.sz) T (k.all l2) 0 cur w hg (by simpa using hfit) (k.all_one l2)
      simp only [Nat.add_zero] at hst
      have hadd := add_off g (off * k.sz) (n * k.sz)
      have hr : (Builtin.append_ #[t, t] ty #[.slice (some ⟨g, off * k.sz, none⟩) n c, .slice B m d]).run P w =
          .ok (.slice (some ⟨g, off * k.sz, none⟩) (n + m) c) (w.setRow g (cur.toList.take (off * k.sz + n * k.sz) ++ k.all l2 ++ cur.toList.drop (off * k.sz + n * k.sz + (k.all l2).length)).toArray) := by
        rw [← hsize] at hf hst hadd ⊢
        simp [Builtin.append_, run_underlying ht, sizeOf, typeInfo, hi, Builtin.lenOf, hroom, hf, hadd, hst]
      refine ⟨_, _, _, hr, ⟨hlen, .inr ⟨g, off, _, rfl, .inl hSg, setRow_heap w g cur _ T _ hg, hroom, hcm, ?_, ?_⟩⟩, ⟨rfl, rfl, rfl, by simp, fun b _ hn => setRow_other w g b _ (fun e => hn (e ▸ hSg))⟩, by simp, by simp⟩
      · simp only [List.size_toArray, List.length_append, List.length_take, List.length_drop, Array.length_toList]
        omega
      · rw [K.all_append, Nat.add_mul]
        have := mem_seg cur.toList (off * k.sz) (n * k.sz) (k.all l) (k.all l2) hlall htake (by simpa using hfit)
        rw [← this, K.all_length, ← hx.1]
    · have hrd : Rd k w (some ⟨g, off * k.sz, none⟩) n c l := Own.rd (S := S) (T := T) ⟨e, .inr ⟨g, off, cur, rfl, hSg, hg, hnc, hcm, hcs, htake⟩⟩
      have holds : ∀ j u, (k.all l)[j]? = some u → w.cell? ((⟨g, off * k.sz, none⟩ : Addr).add j) = some u := fun j u hu => by
        obtain ⟨b', o', ha, hc⟩ := hrd.2.2.2.2 j u hu
        cases ha
        have hadd := add_off g (off * k.sz) j
        rw [hadd]; exact hc
      obtain ⟨u0, hu0⟩ : ∃ u, (k.all l2)[0]? = some u := ⟨_, List.getElem?_eq_getElem (by rw [K.all_length, ← hx.1]; exact Nat.mul_pos (by omega) k.pos)⟩
      obtain ⟨b, o, rfl, _⟩ := hx.2.2.2.2 0 u0 hu0
      have hnews : ∀ j v, (k.all l2)[j]? = some v → w.cell? ((⟨b, o, none⟩ : Addr).add j) = some v := fun j u hu => by
        obtain ⟨b', o', ha, hc⟩ := hx.2.2.2.2 j u hu
        cases ha
        have hadd := add_off b o j
        rw [hadd]; exact hc
      have hr := run_append_grow (P := P) w t ty T i z ht hi hz ⟨g, off * k.sz, none⟩ n c (k.all l) (by rw [hlall, hsize]) holds ⟨b, o, none⟩ m d (k.all l2) (by rw [K.all_length, ← hx.1, hsize]) hnews (by omega) (by omega) (growslice_fits (by omega) hbytes)
      have hgr := grown c (by omega)
      exact ⟨_, _, _, hr, hgr.1, hgr.2, by rw [World.size_alloc]; exact Nat.le_refl _, by simp⟩

theorem wp_append_j {o : Oper} {a : Act} {Kk : Act → World → Prop} {Q : Exit → Act → World → Prop} (s x : Operand) (t : TypeId)
    (ho : o.op = .call { callee := .builtin .append, args := #[s, x], argTypes := #[t, t] })
    (i : TypeInfo) (z : Value) (ht : P.underlying t = some (.slice T)) (hi : P.info? T = some i) (hz : i.zero = some z) (hsize : i.size = k.sz) (hzs : z.cells.size = k.sz)
    (hs : a.eval s = .slice A n c) (hxx : a.eval x = .slice B m d) (hown : Own k T w A n c l S) (hx : Rd k w B m d l2) (h63 : n + m ≤ maxLen) (hbytes : (n + m) * i.bytes ≤ 140737488355328)
    (h : ∀ A' c' w', Own k T w' A' (n + m) c' (l ++ l2) (fun b => S b ∨ b = w.heap.size) → Mod S w w' → w'.heap.size ≤ w.heap.size + 1 → (A' = none ↔ A = none ∧ m = 0) → Kk (a.put o.dst (.slice A' (n + m) c')) w') : o.wp P a w Kk Q := by
  obtain ⟨A', c', w', hr, h2, h3, h4, h5⟩ := run_append_j (P := P) t o.type i z ht hi hz hsize hzs hown hx h63 hbytes
  unfold Oper.wp execOp
  simp only [ho, resolve, invoke, builtin, Sem.run_bind, Sem.run_pure, Result.andThen_ok, List.map_toArray, List.map_cons, List.map_nil, hs, hxx, hr]
  exact h A' c' w' h2 h3 h4 h5

theorem wpList_append_j {ops : Array Oper} {rest : List Oper} {o : Oper} {a : Act} {Q : Exit → Act → World → Prop} (hgd : o.guard = none) (s x : Operand) (t : TypeId)
    (ho : o.op = .call { callee := .builtin .append, args := #[s, x], argTypes := #[t, t] })
    (i : TypeInfo) (z : Value) (ht : P.underlying t = some (.slice T)) (hi : P.info? T = some i) (hz : i.zero = some z) (hsize : i.size = k.sz) (hzs : z.cells.size = k.sz)
    (hs : a.eval s = .slice A n c) (hxx : a.eval x = .slice B m d) (hown : Own k T w A n c l S) (hx : Rd k w B m d l2) (h63 : n + m ≤ maxLen) (hbytes : (n + m) * i.bytes ≤ 140737488355328)
    (h : ∀ A' c' w', Own k T w' A' (n + m) c' (l ++ l2) (fun b => S b ∨ b = w.heap.size) → Mod S w w' → w'.heap.size ≤ w.heap.size + 1 → (A' = none ↔ A = none ∧ m = 0) → wpList P ops Q rest (a.put o.dst (.slice A' (n + m) c')) w') :
    wpList P ops Q (o :: rest) a w :=
  wpList_plain hgd fun _ hK => wp_append_j s x t ho i z ht hi hz hsize hzs hs hxx hown hx h63 hbytes fun A' c' w' h2 h3 h4 h5 => hK _ _ (h A' c' w' h2 h3 h4 h5)

theorem step_append_j {ops : Array Oper} {o : Oper} {a : Act} {Kk : Act → World → Prop} {Q : Exit → Act → World → Prop} {E : Prop} (hgd : o.guard = none) (s x : Operand) (t : TypeId)
    (ho : o.op = .call { callee := .builtin .append, args := #[s, x], argTypes := #[t, t] })
    (i : TypeInfo) (z : Value) (ht : P.underlying t = some (.slice T)) (hi : P.info? T = some i) (hz : i.zero = some z) (hsize : i.size = k.sz) (hzs : z.cells.size = k.sz)
    (hs : a.eval s = .slice A n c) (hxx : a.eval x = .slice B m d) (hown : Own k T w A n c l S) (hx : Rd k w B m d l2) (h63 : n + m ≤ maxLen) (hbytes : (n + m) * i.bytes ≤ 140737488355328)
    (h : ∀ A' c' w', Own k T w' A' (n + m) c' (l ++ l2) (fun b => S b ∨ b = w.heap.size) → Mod S w w' → w'.heap.size ≤ w.heap.size + 1 → (A' = none ↔ A = none ∧ m = 0) → Kk (a.put o.dst (.slice A' (n + m) c')) w') :
    if Region.wanted o (yielded ops a.tmps) = true then Oper.wp P o a w Kk Q else E := by
  have hw : Region.wanted o (yielded ops a.tmps) = true := by simp [Region.wanted, hgd]
  rw [if_pos hw]
  exact wp_append_j s x t ho i z ht hi hz hsize hzs hs hxx hown hx h63 hbytes h
end


/-- 'append' onto a slice that the call made itself, in blocks from B on. -/
theorem wpList_append_l {P : Program} {k : K α} {T : TypeId} {w : World} {A B : Option Addr} {n c m d : Nat} {l l2 : List α} (b0 : Nat)
    {ops : Array Oper} {rest : List Oper} {o : Oper} {a : Act} {Q : Exit → Act → World → Prop} (hgd : o.guard = none) (s x : Operand) (t : TypeId)
    (ho : o.op = .call { callee := .builtin .append, args := #[s, x], argTypes := #[t, t] })
    (i : TypeInfo) (z : Value) (ht : P.underlying t = some (.slice T)) (hi : P.info? T = some i) (hz : i.zero = some z) (hsize : i.size = k.sz) (hzs : z.cells.size = k.sz)
    (hs : a.eval s = .slice A n c) (hxx : a.eval x = .slice B m d) (hb : b0 ≤ w.heap.size) (hown : Own k T w A n c l (fun b => b0 ≤ b)) (hx : Rd k w B m d l2) (h63 : n + m ≤ maxLen) (hbytes : (n + m) * i.bytes ≤ 140737488355328)
    (h : ∀ A' c' w', Own k T w' A' (n + m) c' (l ++ l2) (fun b => b0 ≤ b) → Mod (fun b => b0 ≤ b) w w' → (A' = none ↔ A = none ∧ m = 0) → wpList P ops Q rest (a.put o.dst (.slice A' (n + m) c')) w') :
    wpList P ops Q (o :: rest) a w :=
  wpList_append_j hgd s x t ho i z ht hi hz hsize hzs hs hxx hown hx h63 hbytes fun A' c' w' h1 h2 _ h4 =>
    h A' c' w' (h1.mono (fun b _ hb' => by rcases hb' with hb' | hb'; exact hb'; omega)) h2 h4

/-! ### make -/
section
variable {P : Program} {k : K α} {T : TypeId} {w : World}
theorem madeCells_all (k : K α) (z : Array Value) (x0 : α) (hz : z.toList = k.cs x0) (n : Nat) : (madeCells z (n * k.sz)).toList = k.all (List.replicate n x0) := by
  have hsz : z.size = k.sz := by have := congrArg List.length hz; rw [k.len] at this; simpa using this
  apply List.ext_getElem?
  intro j
  by_cases hj : j < n * k.sz
  · have hp := k.pos
    have hd := Nat.div_add_mod j k.sz
    have hm := Nat.mod_lt j hp
    have hq : j / k.sz < n := (Nat.div_lt_iff_lt_mul hp).2 hj
    have h1 : (List.replicate n x0)[j / k.sz]? = some x0 := by simp [hq]
    have h2 := K.all_get k (List.replicate n x0) (j / k.sz) (j % k.sz) x0 h1 hm
    rw [Nat.mul_comm, hd, ← hz] at h2
    have hzi : z[j % k.sz]? = some z[j % k.sz]! := by rw [getElem!_pos z (j % k.sz) (by omega)]; exact Array.getElem?_eq_getElem (by omega)
    rw [h2]
    simp only [madeCells, Array.toList_map, List.getElem?_map, Array.getElem?_toList]
    rw [Array.getElem?_range, if_pos hj, Option.map_some, hsz, hzi]
  · have h1 : (madeCells z (n * k.sz)).toList[j]? = none := by
      apply List.getElem?_eq_none; rw [Array.length_toList, size_madeCells]; omega
    rw [h1, List.getElem?_eq_none]
    rw [K.all_length, List.length_replicate]; omega

theorem wpList_make_j {ops : Array Oper} {rest : List Oper} {o : Oper} {a : Act} {Q : Exit → Act → World → Prop}
    (hg : o.guard = none) (lo co : Operand) (t : TypeId) (hop : o.op = Op.makeSlice t lo co)
    (i : TypeInfo) (z : Value) (x0 : α) (h1 : P.underlying t = some (.slice T)) (h2 : P.info? T = some i) (h3 : i.zero = some z) (h4 : i.size = k.sz) (hx0 : z.cells.toList = k.cs x0)
    (kl kc : IntKind) (L C : Int) (nl nc : Nat) (hl : a.eval lo = .int kl L) (hc : a.eval co = .int kc C) (hL : L = (nl : Int)) (hC : C = (nc : Int)) (hlc : nl ≤ nc) (b2 : i.bytes * nc ≤ 281474976710656) (b3 : nc ≤ maxLen)
    (hK : ∀ w', Own k T w' (some ⟨w.heap.size, 0, none⟩) nl nc (List.replicate nl x0) (fun b => b = w.heap.size) → Mod No w w' → w'.heap.size = w.heap.size + 1 → wpList P ops Q rest (a.put o.dst (.slice (some ⟨w.heap.size, 0, none⟩) nl nc)) w') :
    wpList P ops Q (o :: rest) a w := by
  refine wpList_plain hg fun Kk hK' => ?_
  subst hL
  subst hC
  have h63' : (nc : Int) ≤ 9223372036854775807 := by
    have h := b3
    simp only [maxLen] at h
    omega
  have hb' : (i.bytes : Int) * (nc : Int) ≤ 281474976710656 := by
    have h : ((i.bytes * nc : Nat) : Int) ≤ 281474976710656 := by omega
    rwa [Int.natCast_mul] at h
  have hr := run_make (P := P) w t T i z h1 h2 h3 kl kc nl nc (by omega) (by omega) hb' h63'
  simp only [Int.toNat_natCast] at hr
  unfold Oper.wp
  simp [execOp, hop, hl, hc, hr, Result.andThen]
  refine hK' _ _ (hK _ ⟨by simp, .inr ⟨w.heap.size, 0, _, by simp, rfl, heap_alloc_new w _, hlc, b3, ?_, ?_⟩⟩ ((Mod.refl _ _).alloc _) (by simp))
  · rw [size_madeCells, h4, Nat.zero_add]; exact Nat.le_refl _
  · rw [h4, madeCells_all k z.cells x0 hx0, Nat.zero_mul, List.drop_zero, K.all_take, List.take_replicate, Nat.min_eq_left hlc]
end
end Go.Proofs.YtjojhfphlnfimaaGreatDoor.J
