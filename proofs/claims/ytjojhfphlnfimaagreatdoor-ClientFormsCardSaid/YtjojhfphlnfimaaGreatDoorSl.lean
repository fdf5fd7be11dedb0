/- The stage of the laws ClientText and ClientForms: a client, a plain server beside it; where they lie in memory, how each step keeps them. The stage's calls: logged. -/
import Derived.Test.YtjojhfphlnfimaaGreatDoorGx
namespace Go.Proofs.YtjojhfphlnfimaaGreatDoor.J
open Go Go.RowKit
set_option linter.unusedSimpArgs false
set_option linter.unusedVariables false

structure St where
  g : Gc
  side : List Marked
  slast : Int
  text : List Elem
  log : List Op
  mine : List Edit
  has_ : Nat
  seq : Nat
  down : Nat
  base : Nat
  epoch : Nat

structure StX where
  p : Nat
  m : ClM
  sp : Nat
  sA : Option Addr
  sc : Nat
  tA : Option Addr
  tc : Nat
  lA : Option Addr
  lc : Nat
  mA : Option Addr
  mc : Nat

def stL (x : StX) (s : St) : List Value :=
  [.pointer (some ⟨x.p, 0, none⟩), .pointer (some ⟨x.sp, 0, none⟩), .slice x.tA s.text.length x.tc, .slice x.lA s.log.length x.lc, .slice x.mA s.mine.length x.mc, .int .i64 (s.has_ : Int), .int .i64 (s.seq : Int), .int .i64 (s.down : Int), .int .i64 (s.base : Int), .int .i64 (s.epoch : Int)]

structure StAt (w0 w : World) (q : Nat) (x : StX) (s : St) (col : Nat → Nat) : Prop where
  b : Base w0 w col
  c : GcAt w x.p x.m s.g col 1
  cq : col q = 20
  cp : col x.sp = 21
  hq : w.heap[q]? = some (.cells (stL x s).toArray 54 (0, 0))
  hs : SpAt w x.sp x.sA s.side.length x.sc s.side s.slast true (fun b => col b = 22)
  ht : Own kElem 95 w x.tA s.text.length x.tc s.text (fun b => col b = 23)
  hl : Own kOp 32 w x.lA s.log.length x.lc s.log (fun b => col b = 24)
  hm : Own kEdit 60 w x.mA s.mine.length x.mc s.mine (fun b => col b = 25)

section
variable {w0 w w' : World} {q : Nat} {x : StX} {s s' : St} {col col' : Nat → Nat}
theorem GcAt.recolor {p : Nat} {m : ClM} {g : Gc} {t : Nat} (h : GcAt w p m g col t) (hc : ∀ b, t ≤ col b → col b ≤ t + 8 → col' b = col b) (hz : ∀ b, w.heap.size ≤ b → col' b = 0) : GcAt w p m g col' t := by
  have c1 := h.cp
  have c2 := h.co
  have c3 := h.ci
  have c4 := h.cm
  have c5 := h.cs
  exact ⟨(hc _ (by omega) (by omega)).trans c1, (hc m.po (by omega) (by omega)).trans c2, (hc m.pi (by omega) (by omega)).trans c3, (hc m.pm (by omega) (by omega)).trans c4, (hc m.ps (by omega) (by omega)).trans c5, h.hp,
    ⟨h.ho.1, h.ho.2.mono (fun b _ hs => by rw [hc b (by omega) (by omega)]; exact hs)⟩, h.hi, ⟨h.hs.1, h.hs.2.mono (fun b _ hs => by rw [hc b (by omega) (by omega)]; exact hs)⟩,
    h.ht.mono (fun b _ hs => by rw [hc b (by omega) (by omega)]; exact hs), h.he.mono (fun b _ hs => by rw [hc b (by omega) (by omega)]; exact hs), hz, h.t1⟩

theorem StAt.new (h : StAt w0 w q x s col) : ∀ b, col b ≠ 0 → w0.heap.size ≤ b ∧ b < w.heap.size := fun b hb => by
  constructor
  · rcases Nat.lt_or_ge b w0.heap.size with h9 | h9
    · exact absurd (h.b.old b h9) hb
    · exact h9
  · rcases Nat.lt_or_ge b w.heap.size with h9 | h9
    · exact h9
    · exact absurd (h.c.hz b h9) hb
/-- What happens beside the stage. -/
theorem StAt.keep {M : Nat → Prop} (h : StAt w0 w q x s col) (hm : Mod M w w') (hM : ∀ b, b < w.heap.size → M b → col b = 0 ∧ w0.heap.size ≤ b) : StAt w0 w' q x s col := by
  have n : ∀ b, b < w.heap.size → col b ≠ 0 → ¬ M b := fun b hb hc hm => hc (hM b hb hm).1
  have cq := h.cq
  have cp := h.cp
  exact ⟨⟨h.b.tabs, h.b.ot, h.b.md.trans hm (fun b hb hx => by have := (hM b (Nat.lt_of_lt_of_le hb h.b.md.size) hx).2; omega), h.b.old⟩, h.c.keep hm (fun b hb h1 h2 => n b hb (by omega)) (fun _ _ => rfl) (fun b hb => h.c.hz b (Nat.le_trans hm.size hb)), cq, cp,
    hm.heap h.hq (n _ (blk_lt h.hq) (by omega)), h.hs.mod hm (n _ (blk_lt h.hs.1) (by omega)) (fun b hb hs => n b hb (by omega)) (fun b _ hs => hs),
    h.ht.mod' hm (fun b hb hs => n b hb (by omega)) (fun b _ hs => hs), h.hl.mod' hm (fun b hb hs => n b hb (by omega)) (fun b _ hs => hs), h.hm.mod' hm (fun b hb hs => n b hb (by omega)) (fun b _ hs => hs)⟩
theorem StAt.mod0 (h : StAt w0 w q x s col) (hm : Mod No w w') : StAt w0 w' q x s col := h.keep hm (fun _ _ hf => hf.elim)
theorem StAt.drew (h : StAt w0 w q x s col) : StAt w0 w.drew q x s col := h.mod0 (Mod.refl No w).drew
theorem StAt.alloc (h : StAt w0 w q x s col) (o : Obj) : StAt w0 (w.alloc o) q x s col := h.mod0 ((Mod.refl No w).alloc o)
/-- The client has gone on. -/
theorem StAt.client {m' : ClM} {g' : Gc} (h : StAt w0 w q x s col) (hr : GRun w col w' x.p m' g' col' 1) : StAt w0 w' q { x with m := m' } { s with g := g' } col' := by
  have cq := h.cq
  have cp := h.cp
  have lq := blk_lt h.hq
  have lp := blk_lt h.hs.1
  exact ⟨h.b.run hr, hr.at_, (hr.cl _ lq).trans cq, (hr.cl _ lp).trans cp, hr.md.heap h.hq (by omega), h.hs.mod hr.md (by omega) (fun b hb hs => by omega) (fun b hb hs => by rw [hr.cl b hb]; exact hs),
    h.ht.mod' hr.md (fun b hb hs => by omega) (fun b hb hs => by rw [hr.cl b hb]; exact hs), h.hl.mod' hr.md (fun b hb hs => by omega) (fun b hb hs => by rw [hr.cl b hb]; exact hs), h.hm.mod' hr.md (fun b hb hs => by omega) (fun b hb hs => by rw [hr.cl b hb]; exact hs)⟩

def St.rest (s : St) := (s.g, s.side, s.slast, s.text, s.log, s.mine)
/-- A number of the stage's is written. -/
theorem StAt.store (h : StAt w0 w q x s col) (i : Nat) (v : Value) (hl : (stL x s).set i v = stL x s') (hr : s'.rest = s.rest) : StAt w0 (w.setCell ⟨q, i, none⟩ v) q x s' col := by
  simp only [St.rest, Prod.mk.injEq] at hr
  obtain ⟨r1, r2, r3, r4, r5, r6⟩ := hr
  have cq := h.cq
  have cp := h.cp
  have hM : Mod (fun b => b = q) w (w.setCell ⟨q, i, none⟩ v) := (Mod.refl (fun b => b = q) w).setCell (p := ⟨q, i, none⟩) (.inl rfl) v
  have hQ := blk_set h.hq i v
  rw [List.setIfInBounds_toArray, hl] at hQ
  have hnew := (h.new q (by omega)).1
  refine ⟨⟨h.b.tabs, h.b.ot, h.b.md.trans hM (fun b hb e => by omega), h.b.old⟩, ?_, cq, cp, hQ, ?_, ?_, ?_, ?_⟩
  · rw [r1]; exact h.c.keep hM (fun b hb h1 h2 e => by subst e; omega) (fun _ _ => rfl) (fun b hb => h.c.hz b (by simpa using hb))
  · rw [r2, r3]; exact h.hs.mod hM (fun e => by rw [e] at cp; omega) (fun b hb hs e => by subst e; omega) (fun b _ hs => hs)
  · rw [r4]; exact h.ht.mod' hM (fun b hb hs e => by subst e; omega) (fun b _ hs => hs)
  · rw [r5]; exact h.hl.mod' hM (fun b hb hs e => by subst e; omega) (fun b _ hs => hs)
  · rw [r6]; exact h.hm.mod' hM (fun b hb hs e => by subst e; omega) (fun b _ hs => hs)
theorem StAt.setHas (h : StAt w0 w q x s col) (n : Nat) : StAt w0 (w.setCell ⟨q, 5, none⟩ (.int .i64 (n : Int))) q x { s with has_ := n } col := h.store 5 _ rfl rfl
theorem StAt.setSeq (h : StAt w0 w q x s col) (n : Nat) : StAt w0 (w.setCell ⟨q, 6, none⟩ (.int .i64 (n : Int))) q x { s with seq := n } col := h.store 6 _ rfl rfl
theorem StAt.setDown (h : StAt w0 w q x s col) (n : Nat) : StAt w0 (w.setCell ⟨q, 7, none⟩ (.int .i64 (n : Int))) q x { s with down := n } col := h.store 7 _ rfl rfl
theorem StAt.setBase (h : StAt w0 w q x s col) (n : Nat) : StAt w0 (w.setCell ⟨q, 8, none⟩ (.int .i64 (n : Int))) q x { s with base := n } col := h.store 8 _ rfl rfl
theorem StAt.setEpoch (h : StAt w0 w q x s col) (n : Nat) : StAt w0 (w.setCell ⟨q, 9, none⟩ (.int .i64 (n : Int))) q x { s with epoch := n } col := h.store 9 _ rfl rfl

/-- New blocks get a colour of the stage's. -/
theorem StAt.paint (h : StAt w0 w q x s col) (a k : Nat) (ha : w0.heap.size ≤ a) (hf : ∀ b, a ≤ b → col b = 0) : StAt w0 w q x s (paint col a w.heap.size k) := by
  have cq := h.cq
  have cp := h.cp
  have e : ∀ b, col b ≠ 0 → J.paint col a w.heap.size k b = col b := fun b hb => by
    by_cases hx : a ≤ b ∧ b < w.heap.size
    · exact absurd (hf b hx.1) hb
    · exact paint_out hx
  exact ⟨⟨h.b.tabs, h.b.ot, h.b.md, fun b hb => by rw [paint_out (by omega)]; exact h.b.old b hb⟩, h.c.recolor (fun b h1 h2 => e b (by omega)) (fun b hb => by rw [paint_out (by omega)]; exact h.c.hz b hb), (e _ (by omega)).trans cq, (e _ (by omega)).trans cp, h.hq,
    ⟨h.hs.1, h.hs.2.mono (fun b _ hs => by rw [e b (by omega)]; exact hs)⟩, h.ht.mono (fun b _ hs => by rw [e b (by omega)]; exact hs), h.hl.mono (fun b _ hs => by rw [e b (by omega)]; exact hs), h.hm.mono (fun b _ hs => by rw [e b (by omega)]; exact hs)⟩

/-- Text, log, edits are replaced. -/
theorem StAt.setText {A : Option Addr} {n d : Nat} {L : List Elem} (h : StAt w0 w q x s col) (hO : Own kElem 95 w A n d L (fun b => col b = 23)) : StAt w0 (w.setCell ⟨q, 2, none⟩ (.slice A n d)) q { x with tA := A, tc := d } { s with text := L } col := by
  have hn := hO.1
  subst hn
  have h2 : StAt w0 w q x s col := h
  have cq := h.cq
  have cp := h.cp
  have hM : Mod (fun b => b = q) w (w.setCell ⟨q, 2, none⟩ (.slice A L.length d)) := (Mod.refl (fun b => b = q) w).setCell (p := ⟨q, 2, none⟩) (.inl rfl) _
  have hQ := blk_set h.hq 2 (.slice A L.length d)
  rw [List.setIfInBounds_toArray] at hQ
  have hnew := (h.new q (by omega)).1
  exact ⟨⟨h.b.tabs, h.b.ot, h.b.md.trans hM (fun b hb e => by omega), h.b.old⟩, h.c.keep hM (fun b hb h1 h2 e => by subst e; omega) (fun _ _ => rfl) (fun b hb => h.c.hz b (by simpa using hb)), cq, cp, hQ,
    h.hs.mod hM (fun e => by rw [e] at cp; omega) (fun b hb hs e => by subst e; omega) (fun b _ hs => hs), hO.mod' hM (fun b hb hs e => by subst e; omega) (fun b _ hs => hs), h.hl.mod' hM (fun b hb hs e => by subst e; omega) (fun b _ hs => hs), h.hm.mod' hM (fun b hb hs e => by subst e; omega) (fun b _ hs => hs)⟩
/-- A record is put behind the log: the append (new blocks painted), then the store. -/
theorem StAt.setLog {A : Option Addr} {n d : Nat} {L : List Op} (h : StAt w0 w q x s col) (hm : Mod (fun b => col b = 24) w w') (hO : Own kOp 32 w' A n d L (fun b => col b = 24 ∨ w.heap.size ≤ b)) :
    StAt w0 (w'.setCell ⟨q, 3, none⟩ (.slice A n d)) q { x with lA := A, lc := d } { s with log := L } (J.paint col w.heap.size w'.heap.size 24) := by
  have hn := hO.1
  subst hn
  have cq := h.cq
  have cp := h.cp
  have lq := blk_lt h.hq
  have lp := blk_lt h.hs.1
  have hnew := (h.new q (by omega)).1
  have hM : Mod (fun b => col b = 24 ∨ b = q) w (w'.setCell ⟨q, 3, none⟩ (.slice A L.length d)) := (hm.mono (fun b _ h => .inl h)).setCell (p := ⟨q, 3, none⟩) (.inl (.inr rfl)) _
  have hQ := blk_set (hm.heap h.hq (by omega)) 3 (.slice A L.length d)
  rw [List.setIfInBounds_toArray] at hQ
  have e : ∀ b, b < w.heap.size → J.paint col w.heap.size w'.heap.size 24 b = col b := fun b hb => paint_out (by omega)
  have n0 : ∀ b, b < w0.heap.size → ¬ (col b = 24 ∨ b = q) := fun b hb hx => by have := h.b.old b hb; rcases hx with hx | hx <;> omega
  have hcl : GcAt (w'.setCell ⟨q, 3, none⟩ (.slice A L.length d)) x.p x.m s.g (J.paint col w.heap.size w'.heap.size 24) 1 :=
    h.c.keep hM (fun b hb h1 h2 hx => by rcases hx with hx | hx; omega; subst hx; omega) (fun b hb => e b hb) (fun b hb => by
      have hb' : w'.heap.size ≤ b := by simpa using hb
      rw [paint_out (by omega)]; exact h.c.hz b (Nat.le_trans hm.size hb'))
  exact ⟨⟨h.b.tabs, h.b.ot, h.b.md.trans hM (fun b hb hx => absurd hx (n0 b hb)), fun b hb => by rw [e b (Nat.lt_of_lt_of_le hb h.b.md.size)]; exact h.b.old b hb⟩, hcl, (e _ lq).trans cq, (e _ lp).trans cp, hQ,
    h.hs.mod hM (fun hx => by rcases hx with hx | hx; omega; rw [hx] at cp; omega) (fun b hb hs hx => by rcases hx with hx | hx; omega; subst hx; omega) (fun b hb hs => by rw [e b hb]; exact hs),
    h.ht.mod' hM (fun b hb hs hx => by rcases hx with hx | hx; omega; subst hx; omega) (fun b hb hs => by rw [e b hb]; exact hs),
    (hO.mod' (w' := w'.setCell ⟨q, 3, none⟩ (.slice A L.length d)) (M := fun b => b = q) ((Mod.refl (fun b => b = q) w').setCell (p := ⟨q, 3, none⟩) (.inl rfl) _) (fun b hb hs hx => by subst hx; rcases hs with hs | hs <;> omega) (fun b hb hs => by
      rcases hs with hs | hs
      · rw [e b (h.new b (by omega)).2]; exact hs
      · exact paint_in hs hb)),
    h.hm.mod' hM (fun b hb hs hx => by rcases hx with hx | hx; omega; subst hx; omega) (fun b hb hs => by rw [e b hb]; exact hs)⟩
theorem StAt.setMine {A : Option Addr} {n d : Nat} {L : List Edit} (h : StAt w0 w q x s col) (hm : Mod (fun b => col b = 25) w w') (hO : Own kEdit 60 w' A n d L (fun b => col b = 25 ∨ w.heap.size ≤ b)) :
    StAt w0 (w'.setCell ⟨q, 4, none⟩ (.slice A n d)) q { x with mA := A, mc := d } { s with mine := L } (J.paint col w.heap.size w'.heap.size 25) := by
  have hn := hO.1
  subst hn
  have cq := h.cq
  have cp := h.cp
  have lq := blk_lt h.hq
  have lp := blk_lt h.hs.1
  have hnew := (h.new q (by omega)).1
  have hM : Mod (fun b => col b = 25 ∨ b = q) w (w'.setCell ⟨q, 4, none⟩ (.slice A L.length d)) := (hm.mono (fun b _ h => .inl h)).setCell (p := ⟨q, 4, none⟩) (.inl (.inr rfl)) _
  have hQ := blk_set (hm.heap h.hq (by omega)) 4 (.slice A L.length d)
  rw [List.setIfInBounds_toArray] at hQ
  have e : ∀ b, b < w.heap.size → J.paint col w.heap.size w'.heap.size 25 b = col b := fun b hb => paint_out (by omega)
  have n0 : ∀ b, b < w0.heap.size → ¬ (col b = 25 ∨ b = q) := fun b hb hx => by have := h.b.old b hb; rcases hx with hx | hx <;> omega
  have hcl : GcAt (w'.setCell ⟨q, 4, none⟩ (.slice A L.length d)) x.p x.m s.g (J.paint col w.heap.size w'.heap.size 25) 1 :=
    h.c.keep hM (fun b hb h1 h2 hx => by rcases hx with hx | hx; omega; subst hx; omega) (fun b hb => e b hb) (fun b hb => by
      have hb' : w'.heap.size ≤ b := by simpa using hb
      rw [paint_out (by omega)]; exact h.c.hz b (Nat.le_trans hm.size hb'))
  exact ⟨⟨h.b.tabs, h.b.ot, h.b.md.trans hM (fun b hb hx => absurd hx (n0 b hb)), fun b hb => by rw [e b (Nat.lt_of_lt_of_le hb h.b.md.size)]; exact h.b.old b hb⟩, hcl, (e _ lq).trans cq, (e _ lp).trans cp, hQ,
    h.hs.mod hM (fun hx => by rcases hx with hx | hx; omega; rw [hx] at cp; omega) (fun b hb hs hx => by rcases hx with hx | hx; omega; subst hx; omega) (fun b hb hs => by rw [e b hb]; exact hs),
    h.ht.mod' hM (fun b hb hs hx => by rcases hx with hx | hx; omega; subst hx; omega) (fun b hb hs => by rw [e b hb]; exact hs),
    h.hl.mod' hM (fun b hb hs hx => by rcases hx with hx | hx; omega; subst hx; omega) (fun b hb hs => by rw [e b hb]; exact hs),
    (hO.mod' (w' := w'.setCell ⟨q, 4, none⟩ (.slice A L.length d)) (M := fun b => b = q) ((Mod.refl (fun b => b = q) w').setCell (p := ⟨q, 4, none⟩) (.inl rfl) _) (fun b hb hs hx => by subst hx; rcases hs with hs | hs <;> omega) (fun b hb hs => by
      rcases hs with hs | hs
      · rw [e b (h.new b (by omega)).2]; exact hs
      · exact paint_in hs hb))⟩
/-- The server's space has gone on. -/
theorem StAt.space {A : Option Addr} {d : Nat} {l : List Marked} {last' : Int} (h : StAt w0 w q x s col) (hm : Mod (fun b => b = x.sp ∨ col b = 22) w w') (hs : SpAt w' x.sp A l.length d l last' true (fun b => col b = 22 ∨ w.heap.size ≤ b)) :
    StAt w0 w' q { x with sA := A, sc := d } { s with side := l, slast := last' } (J.paint col w.heap.size w'.heap.size 22) := by
  have cq := h.cq
  have cp := h.cp
  have lq := blk_lt h.hq
  have lp := blk_lt h.hs.1
  have hnew := (h.new x.sp (by omega)).1
  have e : ∀ b, b < w.heap.size → J.paint col w.heap.size w'.heap.size 22 b = col b := fun b hb => paint_out (by omega)
  have n0 : ∀ b, b < w0.heap.size → ¬ (b = x.sp ∨ col b = 22) := fun b hb hx => by have := h.b.old b hb; rcases hx with hx | hx <;> omega
  have hcl : GcAt w' x.p x.m s.g (J.paint col w.heap.size w'.heap.size 22) 1 :=
    h.c.keep hm (fun b hb h1 h2 hx => by rcases hx with hx | hx; subst hx; omega; omega) (fun b hb => e b hb) (fun b hb => by rw [paint_out (by omega)]; exact h.c.hz b (Nat.le_trans hm.size hb))
  exact ⟨⟨h.b.tabs, h.b.ot, h.b.md.trans hm (fun b hb hx => absurd hx (n0 b hb)), fun b hb => by rw [e b (Nat.lt_of_lt_of_le hb h.b.md.size)]; exact h.b.old b hb⟩, hcl, (e _ lq).trans cq, (e _ lp).trans cp, hm.heap h.hq (fun hx => by rcases hx with hx | hx; rw [← hx] at cp; omega; omega),
    ⟨hs.1, hs.2.mono (fun b hb hx => by
      rcases hx with hx | hx
      · rw [e b (h.new b (by omega)).2]; exact hx
      · exact paint_in hx hb)⟩,
    h.ht.mod' hm (fun b hb hs hx => by rcases hx with hx | hx; subst hx; omega; omega) (fun b hb hs => by rw [e b hb]; exact hs),
    h.hl.mod' hm (fun b hb hs hx => by rcases hx with hx | hx; subst hx; omega; omega) (fun b hb hs => by rw [e b hb]; exact hs),
    h.hm.mod' hm (fun b hb hs hx => by rcases hx with hx | hx; subst hx; omega; omega) (fun b hb hs => by rw [e b hb]; exact hs)⟩
/-- The server's space: its operations are changed in their places. -/
theorem StAt.spaceIn {mk : List Op} (h : StAt w0 w q x s col) (hm : Mod (fun b => col b = 22) w w') (hs : SpAt w' x.sp x.sA s.side.length x.sc (setOps s.side mk) s.slast true (fun b => col b = 22)) (hl : mk.length = s.side.length) :
    StAt w0 w' q x { s with side := setOps s.side mk } col := by
  have cq := h.cq
  have cp := h.cp
  have n0 : ∀ b, b < w0.heap.size → ¬ (col b = 22) := fun b hb hx => by have := h.b.old b hb; omega
  exact ⟨⟨h.b.tabs, h.b.ot, h.b.md.trans hm (fun b hb hx => absurd hx (n0 b hb)), h.b.old⟩, h.c.keep hm (fun b hb h1 h2 hx => by omega) (fun b hb => rfl) (fun b hb => h.c.hz b (Nat.le_trans hm.size hb)), cq, cp, hm.heap h.hq (by omega),
    by dsimp only; rw [setOps_len hl]; exact hs,
    h.ht.mod' hm (fun b hb hs hx => by omega) (fun b hb hs => hs), h.hl.mod' hm (fun b hb hs hx => by omega) (fun b hb hs => hs), h.hm.mod' hm (fun b hb hs hx => by omega) (fun b hb hs => hs)⟩
theorem StAt.cells (h : StAt w0 w q x s col) : w.cell? ⟨q, 0, none⟩ = some (.pointer (some ⟨x.p, 0, none⟩)) ∧ w.cell? ⟨q, 1, none⟩ = some (.pointer (some ⟨x.sp, 0, none⟩)) ∧ w.cell? ⟨q, 2, none⟩ = some (.slice x.tA s.text.length x.tc) ∧ w.cell? ⟨q, 3, none⟩ = some (.slice x.lA s.log.length x.lc) ∧ w.cell? ⟨q, 4, none⟩ = some (.slice x.mA s.mine.length x.mc) ∧
    w.cell? ⟨q, 5, none⟩ = some (.int .i64 (s.has_ : Int)) ∧ w.cell? ⟨q, 6, none⟩ = some (.int .i64 (s.seq : Int)) ∧ w.cell? ⟨q, 7, none⟩ = some (.int .i64 (s.down : Int)) ∧ w.cell? ⟨q, 8, none⟩ = some (.int .i64 (s.base : Int)) ∧ w.cell? ⟨q, 9, none⟩ = some (.int .i64 (s.epoch : Int)) := by
  have := blk_at h.hq
  refine ⟨?_, ?_, ?_, ?_, ?_, ?_, ?_, ?_, ?_, ?_⟩ <;> (rw [this]; rfl)
theorem StAt.cf (h : StAt w0 w q x s col) (i : Nat) : w.frozen? ⟨q, i, none⟩ = false := blk_free h.hq i
end
end Go.Proofs.YtjojhfphlnfimaaGreatDoor.J

namespace Go.Proofs.YtjojhfphlnfimaaGreatDoor.J
open Go Go.RowKit
set_option linter.unusedSimpArgs false
set_option linter.unusedVariables false

/-- The stage has gone on to s'; what has no colour is as it was. -/
def StTo (w0 w : World) (q : Nat) (col : Nat → Nat) (s' : St) (w' : World) : Prop :=
  ∃ x' col', StAt w0 w' q x' s' col' ∧ Mod (fun b => col b ≠ 0) w w' ∧ ∀ b, b < w.heap.size → col b = 0 → col' b = 0

section
variable {w0 w w' : World} {q : Nat} {x : StX} {s s' : St} {col : Nat → Nat}
theorem StAt.q_ne (h : StAt w0 w q x s col) : col q ≠ 0 := by rw [h.cq]; decide
theorem StAt.rT (h : StAt w0 w q x s col) : Rd kElem w x.tA s.text.length x.tc s.text := h.ht.rd
theorem painted0 {col : Nat → Nat} {a b k y : Nat} (h1 : y < a) (h2 : col y = 0) : paint col a b k y = 0 := by rw [paint_out (by omega)]; exact h2
end

set_option maxRecDepth 100000 in
set_option maxHeartbeats 4000000 in
theorem logged_any (w0 w : World) (q : Nat) (x : StX) (s : St) (col : Nat → Nat) (op : Op) (h : StAt w0 w q x s col) (hf : fitsE s.text.length op = 0) (hl : s.log.length ≤ 1000) :
    Calls Tryz.prog 39 #[.pointer (some ⟨q, 0, none⟩), op.v] w fun e w' => e = .returned (.bool true) ∧ StTo w0 w q col { s with text := applyE s.text op, log := s.log ++ [op] } w' := by
  obtain ⟨hv, hn0, hn1, hf1, hf2⟩ := fitsE_zero hf
  obtain ⟨z1, z2, z3, z4, z5, z6, z7, z8, z9, z10, z11⟩ := validE_zero hv
  have hpt := fun w' (h' : StAt w0 w' q x s col) => put_ok x.tA s.text.length x.tc op s.text w' h'.rT (by omega) z1 z2 (fun e => ⟨z9, (hf1 e).2⟩) (fun e => ⟨z9, hf2 e⟩)
  have hal := applyE_len hf
  obtain ⟨i, hi1, hi2, hi3, hi4⟩ := info_parts Tryz.infoOpP
  clear hf hv z1 z2 z3 z4 z5 z6 z7 z8 z9 z10 z11 hf1 hf2
  obtain ⟨T, hT⟩ : ∃ T, applyE s.text op = T := ⟨_, rfl⟩
  rw [hT] at hpt hal ⊢
  clear hT
  obtain ⟨q1, q2, q3, q4, q5⟩ := op
  simp only [Op.v] at hpt ⊢
  have h0 := h.alloc (.cells #[.int .i64 q1, .int .i64 q2, .int .u8 q3, .int .i64 q4, .int .i64 q5] 32)
  have hM0 : Mod (fun b => col b ≠ 0) w (w.alloc (.cells #[.int .i64 q1, .int .i64 q2, .int .u8 q3, .int .i64 q4, .int .i64 q5] 32)) := (Mod.refl _ w).alloc _
  have hX0 : (w.alloc (.cells #[.int .i64 q1, .int .i64 q2, .int .u8 q3, .int .i64 q4, .int .i64 q5] 32)).heap[w.heap.size]? = some (.cells #[.int .i64 q1, .int .i64 q2, .int .u8 q3, .int .i64 q4, .int .i64 q5] 32 (0, 0)) := blk_new _ _ rfl
  have hcx : col w.heap.size = 0 := h.c.hz _ (Nat.le_refl _)
  have hqn := h.q_ne
  have hQX := blk_at hX0
  obtain ⟨k0, k1, k2, k3, k4, k5, k6, k7, k8, k9⟩ := h0.cells
  have hsz0 : w0.heap.size ≤ w.heap.size := h.b.md.size
  have hzz := h.c.hz
  have H0 := Lib.hid h0
  have HQ := Lib.hid h.cq
  clear h h0
  go_enter Tryz.func39, Tryz.ntmps39
  go_upto_region 1 with (fail)
  refine wp_region_text (by kernel_rfl) (by kernel_rfl) (by kernel_rfl) (by kernel_rfl) ?_
  go_wp2_with (go_at_call 12; refine (hpt _ H0.out.drew).mono ?_; rintro e w1 ⟨A1, n1, c1, rfl, hm1, hO1⟩; have H1 := Lib.hid (H0.out.drew.mod0 hm1); have hX1 := hm1.heap (w := (w.alloc _).drew) hX0 (fun h => h); have f1 := H1.out.cf; obtain ⟨l0, l1, l2, l3, l4, l5, l6, l7, l8, l9⟩ := H1.out.cells)
  refine ⟨rfl, by kernel_rfl, ?_⟩
  have hsz1 := hm1.size
  simp only [World.size_drew, World.size_alloc] at hsz1
  have hO1' : Own kElem 95 w1 A1 n1 c1 T (fun b => paint col (w.heap.size + 1) w1.heap.size 23 b = 23) := hO1.mono (fun b hb h => paint_in (by simpa using h) hb)
  have HP := Lib.hid ((H1.out.paint (w.heap.size + 1) 23 (by omega) (fun b hb => hzz b (by omega))).setText hO1')
  have hM1 : Mod (fun b => col b ≠ 0) w (w1.setCell ⟨q, 2, none⟩ (.slice A1 n1 c1)) := mod_setO ((hM0.drew).then0 hm1) (.inl hqn)
  have hX2 : (w1.setCell ⟨q, 2, none⟩ (.slice A1 n1 c1)).heap[w.heap.size]? = some (.cells #[.int .i64 q1, .int .i64 q2, .int .u8 q3, .int .i64 q4, .int .i64 q5] 32 (0, 0)) := blk_set_other hX1 (by dsimp only; intro e; rw [← e] at hqn; exact hqn hcx) _
  go_upto_region 3 with (fail)
  refine cut_worldO (F := fun w3 => Hid (StAt w0 w3 q { x with tA := A1, tc := c1 } { s with text := T } (paint col (w.heap.size + 1) w1.heap.size 23)) ∧ w3.heap[w.heap.size]? = some (.cells #[.int .i64 q1, .int .i64 q2, .int .u8 q3, .int .i64 q4, .int .i64 q5] 32 (0, 0)) ∧ Mod (fun b => col b ≠ 0) w w3) ⟨HP, hX2, hM1⟩ ?_
  clear HP hX2 hM1 hO1' hO1 hX1 H1 f1 hm1 l0 l1 l2 l3 l4 l5 l6 l7 l8 l9 H0 hM0 k0 k1 k2 k3 k4 k5 k6 k7 k8 k9 hQX hX0 hpt hal
  rintro w3 ⟨H3, hX3, hM3⟩
  obtain ⟨k0, k1, k2, k3, k4, k5, k6, k7, k8, k9⟩ := H3.out.cells
  have hcolq := H3.out.cq
  have hQX3 := blk_at hX3
  have ff := H3.out.cf
  have hlq := blk_lt H3.out.hq
  have hlX := blk_lt hX3
  have hz3 := H3.out.c.hz
  have hOl0 := H3.out.hl
  dsimp only at hOl0 k0 k1 k2 k3 k4 k5 k6 k7 k8 k9
  have hOl := Lib.hid hOl0
  clear hOl0
  refine wp_region_text (by kernel_rfl) (by kernel_rfl) (by kernel_rfl) (by kernel_rfl) ?_
  go_wp2_with (at_builtin; refine wpList_append_j (k := kOp) (T := 32) (by rfl) _ _ _ (by rfl) i _ Tryz.underlying23 hi1 hi2 hi3 rfl (by rfl) (by rfl) (Own.drew (hOl.out.alloc _)) (Rd.drew (Rd.one (heap_alloc_new _ _) (⟨q1, q2, q3, q4, q5⟩ : Op) rfl)) (by unfold maxLen; omega) (by rw [hi4]; omega) ?_; intro A5 c5 w5 hO5 hm5 hs5 _; have H4 := Lib.hid ((H3.out.alloc (.cells #[.int .i64 q1, .int .i64 q2, .int .u8 q3, .int .i64 q4, .int .i64 q5] 32)).drew); have hQ5 := hm5.heap H4.out.hq (by rw [hcolq]; decide); have f5 := blk_free hQ5; have g5 := blk_at hQ5; simp only [stL] at g5)
  refine ⟨rfl, by kernel_rfl, ?_⟩
  go_wp2
  go_ret
  have H5 := Lib.hid (H4.out.setLog hm5 (hO5.mono (fun b _ h => by rcases h with h | h; exact .inl h; exact .inr (Nat.le_of_eq h.symm))))
  refine ⟨rfl, _, _, H5.out, ?_, fun b hb hc => ?_⟩
  · refine mod_setO (Mod.trans (T := fun b => paint col (w.heap.size + 1) w1.heap.size 23 b = 24) ((hM3.alloc _).drew) hm5 (fun b hb h => ?_)) (.inl hqn)
    intro e
    rw [painted0 (by omega) e] at h
    omega
  · have := hM3.size
    exact painted0 (by simp; omega) (painted0 (by omega) hc)
end Go.Proofs.YtjojhfphlnfimaaGreatDoor.J
