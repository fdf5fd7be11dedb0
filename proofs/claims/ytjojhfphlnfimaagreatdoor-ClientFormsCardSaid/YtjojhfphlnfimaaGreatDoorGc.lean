/- A client, whatever it has come to: what its state is, where it lies in memory, how each step keeps it. -/
import Derived.Test.YtjojhfphlnfimaaGreatDoorView
import Derived.Test.YtjojhfphlnfimaaGreatDoorHeld
import Derived.Test.YtjojhfphlnfimaaGreatDoorPast
namespace Go.Proofs.YtjojhfphlnfimaaGreatDoor.J
open Go Go.RowKit
set_option linter.unusedSimpArgs false
set_option linter.unusedVariables false

inductive Ph where
  | out | wait | join
def Ph.v : Ph → Value
  | .out => .iface 114 (.agg #[])
  | .wait => .iface 170 (.agg #[])
  | .join => .iface 136 (.agg #[])

/-- What a client has come to. -/
structure Gc where
  id : Int
  epoch : Int
  made : Int
  hav : Int
  base : Int
  ph : Ph
  text : List Elem
  pending : List Edit
  forms : List Marked
  flast : Int
  acked : Int
  sent : Int
  left : List Edit
  cum : Int
  held : List (Int × Op)
  last : List Int

def Gc.cl (g : Gc) (es : Array MapEntry) (ck : Nat) : Cl :=
  { id := g.id, epoch := g.epoch, made := g.made, hav := g.hav, base := g.base, ph := g.ph.v, text := g.text, pending := g.pending, forms := g.forms, flast := g.flast, acked := g.acked, sent := g.sent, left := g.left, cum := g.cum, hes := es, hck := ck, last := g.last }

/-- The cells of a client's own block. -/
def gcL (m : ClM) (g : Gc) : List Value :=
  .pointer (some ⟨m.po, 0, none⟩) :: .pointer (some ⟨m.pi, 0, none⟩) :: g.ph.v :: .int .i64 g.id :: .int .i64 g.epoch :: .int .i64 g.made :: .int .i64 g.hav :: .int .i64 g.base ::
    .slice m.tA g.text.length m.tc :: .slice m.pA g.pending.length m.pc :: .pointer (some ⟨m.ps, 0, none⟩) :: g.last.map (Value.int .i64)
theorem gcL_cl (m : ClM) (g : Gc) (es : Array MapEntry) (ck : Nat) : clCells m (g.cl es ck) = (gcL m g).toArray := rfl

/-- A client at block p; the blocks of its parts have the colours from t on; what is not yet made has none. -/
structure GcAt (w : World) (p : Nat) (m : ClM) (g : Gc) (col : Nat → Nat) (t : Nat) : Prop where
  cp : col p = t
  co : col m.po = t + 1
  ci : col m.pi = t + 3
  cm : col m.pm = t + 4
  cs : col m.ps = t + 5
  hp : w.heap[p]? = some (.cells (gcL m g).toArray 93 (0, 0))
  ho : OutAt w m.po 8 g.acked g.sent m.lA g.left.length m.lc g.left (fun b => col b = t + 2)
  hi : InAt w m.pi m.pm g.cum g.held 148
  hs : SpAt w m.ps m.fA g.forms.length m.fc g.forms g.flast false (fun b => col b = t + 6)
  ht : Own kElem 95 w m.tA g.text.length m.tc g.text (fun b => col b = t + 7)
  he : Own kEdit 60 w m.pA g.pending.length m.pc g.pending (fun b => col b = t + 8)
  hz : ∀ b, w.heap.size ≤ b → col b = 0
  t1 : 1 ≤ t

section
variable {w w' : World} {p : Nat} {m m' : ClM} {g : Gc} {col col' : Nat → Nat} {t : Nat}
theorem GcAt.pmlt (h : GcAt w p m g col t) : m.pm < w.heap.size := by
  obtain ⟨es, ck, hm, _⟩ := h.hi.2
  exact blk_lt hm
theorem GcAt.cl (h : GcAt w p m g col t) : ∃ es ck, heldOk es g.held ∧ ClAt w p m (g.cl es ck) col t := by
  obtain ⟨es, ck, hm, hh⟩ := h.hi.2
  exact ⟨es, ck, hh, ⟨h.cp, h.co, h.ci, h.cm, h.cs, h.hp, h.ho, h.hi.1, hm, h.hs, h.ht, h.he⟩⟩
theorem GcAt.ofCl {es : Array MapEntry} {ck : Nat} (hh : heldOk es g.held) (h : ClAt w p m (g.cl es ck) col t) (hz : ∀ b, w.heap.size ≤ b → col b = 0) (t1 : 1 ≤ t) : GcAt w p m g col t :=
  ⟨h.cp, h.co, h.ci, h.cm, h.cs, h.hp, h.ho, ⟨h.hi, es, ck, h.hm, hh⟩, h.hs, h.ht, h.he, hz, t1⟩

/-- What is beside a client leaves it as it is. -/
theorem GcAt.keep {M : Nat → Prop} (h : GcAt w p m g col t) (hm : Mod M w w')
    (hd : ∀ b, b < w.heap.size → t ≤ col b → col b ≤ t + 8 → ¬ M b) (hc : ∀ b, b < w.heap.size → col' b = col b) (hz : ∀ b, w'.heap.size ≤ b → col' b = 0) : GcAt w' p m g col' t := by
  obtain ⟨es, ck, hh, hC⟩ := h.cl
  exact GcAt.ofCl hh (hC.keep hm hd hc) hz h.t1
theorem GcAt.keep0 (h : GcAt w p m g col t) (hm : Mod No w w') : GcAt w' p m g col t :=
  h.keep hm (fun _ _ _ _ hf => hf) (fun _ _ => rfl) (fun b hb => h.hz b (Nat.le_trans hm.size hb))
/-- New memory beside it: whatever colours that gets, but the client's. -/
theorem GcAt.cut (h : GcAt w p m g col t) (hc : ∀ b, b < w.heap.size → col' b = col b) (hz : ∀ b, w.heap.size ≤ b → col' b = 0) : GcAt w p m g col' t :=
  h.keep (Mod.refl No w) (fun _ _ _ _ hf => hf) hc hz
end

/-- A client on its way: since world w0 nothing else has changed. -/
structure GRun (w0 : World) (col0 : Nat → Nat) (w : World) (p : Nat) (m : ClM) (g : Gc) (col : Nat → Nat) (t : Nat) : Prop where
  at_ : GcAt w p m g col t
  md : Mod (fun b => t ≤ col0 b ∧ col0 b ≤ t + 8) w0 w
  cl : ∀ b, b < w0.heap.size → col b = col0 b

def paint (col : Nat → Nat) (a b k : Nat) : Nat → Nat := fun x => if a ≤ x ∧ x < b then k else col x
theorem paint_out {col : Nat → Nat} {a b k x : Nat} (h : ¬ (a ≤ x ∧ x < b)) : paint col a b k x = col x := if_neg h
theorem paint_in {col : Nat → Nat} {a b k x : Nat} (h1 : a ≤ x) (h2 : x < b) : paint col a b k x = k := if_pos ⟨h1, h2⟩

section
variable {w0 w w' : World} {p : Nat} {m : ClM} {g g' : Gc} {col0 col : Nat → Nat} {t : Nat}
theorem GRun.start (h : GcAt w p m g col t) : GRun w col w p m g col t := ⟨h, Mod.refl _ _, fun _ _ => rfl⟩
theorem GRun.mod0 (h : GRun w0 col0 w p m g col t) (hm : Mod No w w') : GRun w0 col0 w' p m g col t :=
  ⟨h.at_.keep0 hm, h.md.then0 hm, h.cl⟩
theorem GRun.drew (h : GRun w0 col0 w p m g col t) : GRun w0 col0 w.drew p m g col t := h.mod0 (Mod.refl No w).drew
theorem GRun.alloc (h : GRun w0 col0 w p m g col t) (o : Obj) : GRun w0 col0 (w.alloc o) p m g col t := h.mod0 ((Mod.refl No w).alloc o)
/-- What is written is nobody's, and new. -/
theorem GRun.junk (h : GRun w0 col0 w p m g col t) (hm : Mod (fun b => w0.heap.size ≤ b ∧ col b = 0) w w') : GRun w0 col0 w' p m g col t := by
  have h1 := h.at_.t1
  exact ⟨h.at_.keep hm (fun b hb a1 a2 a3 => by have := a3.2; omega) (fun _ _ => rfl) (fun b hb => h.at_.hz b (Nat.le_trans hm.size hb)),
    h.md.trans hm (fun b hb a => by have := a.1; omega), h.cl⟩
theorem GRun.sizes (h : GRun w0 col0 w p m g col t) : w0.heap.size ≤ w.heap.size := h.md.size
theorem GRun.isold (h : GRun w0 col0 w p m g col t) {b : Nat} (hb : b < w0.heap.size) (h1 : t ≤ col b) (h2 : col b ≤ t + 8) : t ≤ col0 b ∧ col0 b ≤ t + 8 := by
  rw [h.cl b hb] at h1 h2
  exact ⟨h1, h2⟩

/-- What no store to the own block changes. -/
def Gc.rest (g : Gc) := (g.text, g.pending, g.forms, g.flast, g.acked, g.sent, g.left, g.cum, g.held)
theorem GRun.store (h : GRun w0 col0 w p m g col t) (i : Nat) (v : Value) (hl : (gcL m g).set i v = gcL m g') (hr : g'.rest = g.rest) : GRun w0 col0 (w.setCell ⟨p, i, none⟩ v) p m g' col t := by
  simp only [Gc.rest, Prod.mk.injEq] at hr
  obtain ⟨r1, r2, r3, r4, r5, r6, r7, r8, r9⟩ := hr
  have hA := h.at_
  have c1 := hA.cp
  have c2 := hA.co
  have c3 := hA.ci
  have c4 := hA.cm
  have c5 := hA.cs
  have hM : Mod (fun b => b = p) w (w.setCell ⟨p, i, none⟩ v) := (Mod.refl (fun b => b = p) w).setCell (p := ⟨p, i, none⟩) (.inl rfl) v
  have hP := blk_set hA.hp i v
  rw [List.setIfInBounds_toArray, hl] at hP
  have hlt := blk_lt hA.hp
  refine ⟨⟨c1, c2, c3, c4, c5, hP, ?_, ?_, ?_, ?_, ?_, fun b hb => hA.hz b (by simpa using hb), hA.t1⟩, ?_, h.cl⟩
  · rw [r5, r6, r7]
    exact hA.ho.mod hM (fun e => by rw [e] at c2; omega) (fun b hb hs e => by rw [e] at hs; omega) (fun b hb hs => hs)
  · rw [r8, r9]
    exact hA.hi.mod hM (fun e => by rw [e] at c3; omega) (fun e => by rw [e] at c4; omega)
  · rw [r3, r4]
    exact hA.hs.mod hM (fun e => by rw [e] at c5; omega) (fun b hb hs e => by rw [e] at hs; omega) (fun b hb hs => hs)
  · rw [r1]
    exact hA.ht.mod' hM (fun b hb hs e => by rw [e] at hs; omega) (fun b hb hs => hs)
  · rw [r2]
    exact hA.he.mod' hM (fun b hb hs e => by rw [e] at hs; omega) (fun b hb hs => hs)
  · exact h.md.trans hM (fun b hb e => by subst e; exact h.isold hb (by omega) (by omega))
theorem GRun.setPh (h : GRun w0 col0 w p m g col t) (q : Ph) : GRun w0 col0 (w.setCell ⟨p, 2, none⟩ q.v) p m { g with ph := q } col t := h.store 2 _ rfl rfl
theorem GRun.setEpoch (h : GRun w0 col0 w p m g col t) (q : Int) : GRun w0 col0 (w.setCell ⟨p, 4, none⟩ (.int .i64 q)) p m { g with epoch := q } col t := h.store 4 _ rfl rfl
theorem GRun.setHav (h : GRun w0 col0 w p m g col t) (q : Int) : GRun w0 col0 (w.setCell ⟨p, 6, none⟩ (.int .i64 q)) p m { g with hav := q } col t := h.store 6 _ rfl rfl
theorem GRun.setBase (h : GRun w0 col0 w p m g col t) (q : Int) : GRun w0 col0 (w.setCell ⟨p, 7, none⟩ (.int .i64 q)) p m { g with base := q } col t := h.store 7 _ rfl rfl
theorem GRun.setLast (h : GRun w0 col0 w p m g col t) (i : Nat) (q : Int) : GRun w0 col0 (w.setCell ⟨p, 11 + i, none⟩ (.int .i64 q)) p m { g with last := g.last.set i q } col t := by
  refine h.store (11 + i) _ ?_ rfl
  rw [Nat.add_comm]
  simp [gcL, List.map_set]

theorem GRun.inbox {cum' : Int} {held' : List (Int × Op)} (h : GRun w0 col0 w p m g col t) (hm : Mod (fun b => b = m.pi ∨ b = m.pm) w w') (hi : InAt w' m.pi m.pm cum' held' 148) :
    GRun w0 col0 w' p m { g with cum := cum', held := held' } col t := by
  have hA := h.at_
  have c1 := hA.cp
  have c2 := hA.co
  have c3 := hA.ci
  have c4 := hA.cm
  have c5 := hA.cs
  refine ⟨⟨c1, c2, c3, c4, c5, hm.heap hA.hp ?_, ?_, hi, ?_, ?_, ?_, fun b hb => hA.hz b (Nat.le_trans hm.size hb), hA.t1⟩, ?_, h.cl⟩
  · rintro (e | e) <;> (rw [e] at c1; omega)
  · exact hA.ho.mod hm (fun e => by rcases e with e | e <;> (rw [e] at c2; omega)) (fun b hb hs e => by rcases e with e | e <;> (rw [e] at hs; omega)) (fun b hb hs => hs)
  · exact hA.hs.mod hm (fun e => by rcases e with e | e <;> (rw [e] at c5; omega)) (fun b hb hs e => by rcases e with e | e <;> (rw [e] at hs; omega)) (fun b hb hs => hs)
  · exact hA.ht.mod' hm (fun b hb hs e => by rcases e with e | e <;> (rw [e] at hs; omega)) (fun b hb hs => hs)
  · exact hA.he.mod' hm (fun b hb hs e => by rcases e with e | e <;> (rw [e] at hs; omega)) (fun b hb hs => hs)
  · exact h.md.trans hm (fun b hb e => by rcases e with e | e <;> (subst e; exact h.isold hb (by omega) (by omega)))

theorem GRun.outbox {acked' sent' : Int} {A : Option Addr} {n d : Nat} {l : List Edit} (h : GRun w0 col0 w p m g col t) (hm : Mod (fun b => b = m.po ∨ col b = t + 2) w w')
    (ho : OutAt w' m.po 8 acked' sent' A n d l (fun b => (b < w.heap.size ∧ col b = t + 2) ∨ w.heap.size ≤ b)) :
    GRun w0 col0 w' p { m with lA := A, lc := d } { g with acked := acked', sent := sent', left := l } (paint col w.heap.size w'.heap.size (t + 2)) t := by
  have hA := h.at_
  have c1 := hA.cp
  have c2 := hA.co
  have c3 := hA.ci
  have c4 := hA.cm
  have c5 := hA.cs
  have lt := h.sizes
  have l1 := blk_lt hA.hp
  have l2 := blk_lt hA.ho.1
  have l3 := blk_lt hA.hi.1
  have l4 := hA.pmlt
  have l5 := blk_lt hA.hs.1
  have ep : ∀ b, b < w.heap.size → paint col w.heap.size w'.heap.size (t + 2) b = col b := fun b hb => paint_out (by omega)
  have hn := ho.2.1
  refine ⟨⟨(ep _ l1).trans c1, (ep _ l2).trans c2, (ep _ l3).trans c3, (ep _ l4).trans c4, (ep _ l5).trans c5, hm.heap hA.hp ?_, ?_, ?_, ?_, ?_, ?_, fun b hb => ?_, hA.t1⟩, ?_, fun b hb => ?_⟩
  · rintro (e | e)
    · rw [← e] at c2; omega
    · omega
  · subst hn
    exact ⟨ho.1, ho.2.mono (fun b hb hs => by
      rcases hs with hs | hs
      · rw [ep b hs.1]; exact hs.2
      · exact paint_in hs hb)⟩
  · exact hA.hi.mod hm (fun e => by rcases e with e | e; rw [e] at c3; omega; omega) (fun e => by rcases e with e | e; rw [e] at c4; omega; omega)
  · exact hA.hs.mod hm (fun e => by rcases e with e | e; rw [e] at c5; omega; omega) (fun b hb hs e => by rcases e with e | e; rw [e] at hs; omega; omega) (fun b hb hs => by rw [ep b hb]; exact hs)
  · exact hA.ht.mod' hm (fun b hb hs e => by rcases e with e | e; rw [e] at hs; omega; omega) (fun b hb hs => by rw [ep b hb]; exact hs)
  · exact hA.he.mod' hm (fun b hb hs e => by rcases e with e | e; rw [e] at hs; omega; omega) (fun b hb hs => by rw [ep b hb]; exact hs)
  · rw [paint_out (by omega)]; exact hA.hz b (Nat.le_trans hm.size hb)
  · exact h.md.trans hm (fun b hb e => by rcases e with e | e; (subst e; exact h.isold hb (by omega) (by omega)); exact h.isold hb (by omega) (by omega))
  · rw [ep b (by omega)]; exact h.cl b hb

theorem GRun.space {last' : Int} {A : Option Addr} {n d : Nat} {l : List Marked} (h : GRun w0 col0 w p m g col t) (hm : Mod (fun b => b = m.ps ∨ col b = t + 6) w w')
    (hs : SpAt w' m.ps A n d l last' false (fun b => (b < w.heap.size ∧ col b = t + 6) ∨ w.heap.size ≤ b)) :
    GRun w0 col0 w' p { m with fA := A, fc := d } { g with forms := l, flast := last' } (paint col w.heap.size w'.heap.size (t + 6)) t := by
  have hA := h.at_
  have c1 := hA.cp
  have c2 := hA.co
  have c3 := hA.ci
  have c4 := hA.cm
  have c5 := hA.cs
  have lt := h.sizes
  have l1 := blk_lt hA.hp
  have l2 := blk_lt hA.ho.1
  have l3 := blk_lt hA.hi.1
  have l4 := hA.pmlt
  have l5 := blk_lt hA.hs.1
  have ep : ∀ b, b < w.heap.size → paint col w.heap.size w'.heap.size (t + 6) b = col b := fun b hb => paint_out (by omega)
  have hn := hs.2.1
  refine ⟨⟨(ep _ l1).trans c1, (ep _ l2).trans c2, (ep _ l3).trans c3, (ep _ l4).trans c4, (ep _ l5).trans c5, hm.heap hA.hp ?_, ?_, ?_, ?_, ?_, ?_, fun b hb => ?_, hA.t1⟩, ?_, fun b hb => ?_⟩
  · rintro (e | e)
    · rw [← e] at c5; omega
    · omega
  · exact hA.ho.mod hm (fun e => by rcases e with e | e; rw [e] at c2; omega; omega) (fun b hb hs e => by rcases e with e | e; rw [e] at hs; omega; omega) (fun b hb hs => by rw [ep b hb]; exact hs)
  · exact hA.hi.mod hm (fun e => by rcases e with e | e; rw [e] at c3; omega; omega) (fun e => by rcases e with e | e; rw [e] at c4; omega; omega)
  · subst hn
    exact ⟨hs.1, hs.2.mono (fun b hb hs => by
      rcases hs with hs | hs
      · rw [ep b hs.1]; exact hs.2
      · exact paint_in hs hb)⟩
  · exact hA.ht.mod' hm (fun b hb hs e => by rcases e with e | e; rw [e] at hs; omega; omega) (fun b hb hs => by rw [ep b hb]; exact hs)
  · exact hA.he.mod' hm (fun b hb hs e => by rcases e with e | e; rw [e] at hs; omega; omega) (fun b hb hs => by rw [ep b hb]; exact hs)
  · rw [paint_out (by omega)]; exact hA.hz b (Nat.le_trans hm.size hb)
  · exact h.md.trans hm (fun b hb e => by rcases e with e | e; (subst e; exact h.isold hb (by omega) (by omega)); exact h.isold hb (by omega) (by omega))
  · rw [ep b (by omega)]; exact h.cl b hb

/-- The space's list is changed in its place. -/
theorem GRun.spaceIn {last' : Int} {l : List Marked} (h : GRun w0 col0 w p m g col t) (hm : Mod (fun b => b = m.ps ∨ col b = t + 6) w w') (hs : SpAt w' m.ps m.fA l.length m.fc l last' false (fun b => col b = t + 6)) :
    GRun w0 col0 w' p m { g with forms := l, flast := last' } col t := by
  have hA := h.at_
  have c1 := hA.cp
  have c2 := hA.co
  have c3 := hA.ci
  have c4 := hA.cm
  have c5 := hA.cs
  refine ⟨⟨c1, c2, c3, c4, c5, hm.heap hA.hp ?_, ?_, ?_, hs, ?_, ?_, fun b hb => hA.hz b (Nat.le_trans hm.size hb), hA.t1⟩, ?_, h.cl⟩
  · rintro (e | e)
    · rw [← e] at c5; omega
    · omega
  · exact hA.ho.mod hm (fun e => by rcases e with e | e; rw [e] at c2; omega; omega) (fun b hb hs e => by rcases e with e | e; rw [e] at hs; omega; omega) (fun b hb hs => hs)
  · exact hA.hi.mod hm (fun e => by rcases e with e | e; rw [e] at c3; omega; omega) (fun e => by rcases e with e | e; rw [e] at c4; omega; omega)
  · exact hA.ht.mod' hm (fun b hb hs e => by rcases e with e | e; rw [e] at hs; omega; omega) (fun b hb hs => hs)
  · exact hA.he.mod' hm (fun b hb hs e => by rcases e with e | e; rw [e] at hs; omega; omega) (fun b hb hs => hs)
  · exact h.md.trans hm (fun b hb e => by rcases e with e | e; (subst e; exact h.isold hb (by omega) (by omega)); exact h.isold hb (by omega) (by omega))

/-- The text is replaced by another, in memory that is new and nobody's. -/
theorem GRun.setText {A : Option Addr} {n d : Nat} {L : List Elem} {B B' : Nat} (h : GRun w0 col0 w p m g col t) (hO : Own kElem 95 w A n d L (fun b => B ≤ b ∧ b < B')) (h0 : w0.heap.size ≤ B) (hB : B' ≤ w.heap.size) (hf : ∀ b, B ≤ b → b < B' → col b = 0) :
    GRun w0 col0 (w.setCell ⟨p, 8, none⟩ (.slice A n d)) p { m with tA := A, tc := d } { g with text := L } (paint col B B' (t + 7)) t := by
  have hA := h.at_
  have c1 := hA.cp
  have c2 := hA.co
  have c3 := hA.ci
  have c4 := hA.cm
  have c5 := hA.cs
  have t1 := hA.t1
  have hM : Mod (fun b => b = p) w (w.setCell ⟨p, 8, none⟩ (.slice A n d)) := (Mod.refl (fun b => b = p) w).setCell (p := ⟨p, 8, none⟩) (.inl rfl) _
  have hP := blk_set hA.hp 8 (.slice A n d)
  have hn := hO.1
  subst hn
  rw [List.setIfInBounds_toArray] at hP
  have ep : ∀ b, t ≤ col b → paint col B B' (t + 7) b = col b := fun b hb => by
    by_cases hx : B ≤ b ∧ b < B'
    · have := hf b hx.1 hx.2; omega
    · exact paint_out hx
  refine ⟨⟨(ep p (by omega)).trans c1, (ep m.po (by omega)).trans c2, (ep m.pi (by omega)).trans c3, (ep m.pm (by omega)).trans c4, (ep m.ps (by omega)).trans c5, hP, ?_, ?_, ?_, ?_, ?_, fun b hb => ?_, hA.t1⟩, ?_, fun b hb => ?_⟩
  · exact hA.ho.mod hM (fun e => by rw [e] at c2; omega) (fun b hb hs e => by rw [e] at hs; omega) (fun b hb hs => by rw [ep b (by omega)]; exact hs)
  · exact hA.hi.mod hM (fun e => by rw [e] at c3; omega) (fun e => by rw [e] at c4; omega)
  · exact hA.hs.mod hM (fun e => by rw [e] at c5; omega) (fun b hb hs e => by rw [e] at hs; omega) (fun b hb hs => by rw [ep b (by omega)]; exact hs)
  · exact hO.mod' hM (fun b hb hs e => by subst e; have := hf _ hs.1 hs.2; omega) (fun b hb hs => paint_in hs.1 hs.2)
  · exact hA.he.mod' hM (fun b hb hs e => by rw [e] at hs; omega) (fun b hb hs => by rw [ep b (by omega)]; exact hs)
  · simp only [World.size_setCell] at hb
    rw [paint_out (by omega)]; exact hA.hz b hb
  · exact h.md.trans hM (fun b hb e => by subst e; exact h.isold hb (by omega) (by omega))
  · rw [paint_out (by omega)]; exact h.cl b hb

/-- What waits is replaced by a piece of it. -/
theorem GRun.setPend {A : Option Addr} {n d : Nat} {L : List Edit} (h : GRun w0 col0 w p m g col t) (hO : Own kEdit 60 w A n d L (fun b => col b = t + 8)) :
    GRun w0 col0 (w.setCell ⟨p, 9, none⟩ (.slice A n d)) p { m with pA := A, pc := d } { g with pending := L } col t := by
  have hA := h.at_
  have c1 := hA.cp
  have c2 := hA.co
  have c3 := hA.ci
  have c4 := hA.cm
  have c5 := hA.cs
  have hM : Mod (fun b => b = p) w (w.setCell ⟨p, 9, none⟩ (.slice A n d)) := (Mod.refl (fun b => b = p) w).setCell (p := ⟨p, 9, none⟩) (.inl rfl) _
  have hP := blk_set hA.hp 9 (.slice A n d)
  have hn := hO.1
  subst hn
  rw [List.setIfInBounds_toArray] at hP
  refine ⟨⟨c1, c2, c3, c4, c5, hP, ?_, ?_, ?_, ?_, ?_, fun b hb => hA.hz b (by simpa using hb), hA.t1⟩, ?_, h.cl⟩
  · exact hA.ho.mod hM (fun e => by rw [e] at c2; omega) (fun b hb hs e => by rw [e] at hs; omega) (fun b hb hs => hs)
  · exact hA.hi.mod hM (fun e => by rw [e] at c3; omega) (fun e => by rw [e] at c4; omega)
  · exact hA.hs.mod hM (fun e => by rw [e] at c5; omega) (fun b hb hs e => by rw [e] at hs; omega) (fun b hb hs => hs)
  · exact hA.ht.mod' hM (fun b hb hs e => by rw [e] at hs; omega) (fun b hb hs => hs)
  · exact hO.mod' hM (fun b hb hs e => by rw [e] at hs; omega) (fun b hb hs => hs)
  · exact h.md.trans hM (fun b hb e => by subst e; exact h.isold hb (by omega) (by omega))
end

end Go.Proofs.YtjojhfphlnfimaaGreatDoor.J
