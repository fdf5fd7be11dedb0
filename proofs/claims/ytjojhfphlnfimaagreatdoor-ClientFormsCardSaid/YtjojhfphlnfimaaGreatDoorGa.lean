/- What a client's steps come to: plain functions of its state. Why a record's operation can't be taken in: accepts. -/
import Derived.Test.YtjojhfphlnfimaaGreatDoorGc
import Derived.Test.YtjojhfphlnfimaaGreatDoorSp
import Derived.Test.YtjojhfphlnfimaaGreatDoorSame
import Derived.Test.YtjojhfphlnfimaaGreatDoorFork
import Derived.Deep.DeepCutAuto
import Derived.Deep.QuietTactic
import Derived.BigQuiet
namespace Go.Proofs.YtjojhfphlnfimaaGreatDoor.J
open Go Go.RowKit
set_option linter.unusedSimpArgs false
set_option linter.unusedVariables false

/-- Why a record's operation can't be taken in now (0: it can). -/
def acceptsE (g : Gc) (o : Op) : Int :=
  if o.client = g.id then
    match g.forms with
    | [] => 116
    | q :: _ => if q.op = o then 0 else 116
  else if o.seq ≠ g.last.getD o.client.toNat 0 + 1 then 117
  else if fitsE g.text.length (pastE o (opsOf g.forms) false).1 ≠ 0 then 117 else 0

/-- The next record is taken in. -/
def Gc.take1 (g : Gc) (o : Op) : Gc :=
  if o.client = g.id then
    { g with hav := g.hav + 1, cum := g.cum + 1, held := delH (g.cum + 1) g.held, pending := g.pending.tail, forms := dropE o.seq g.forms }
  else
    { g with hav := g.hav + 1, cum := g.cum + 1, held := delH (g.cum + 1) g.held, last := g.last.set o.client.toNat o.seq,
             forms := setOps g.forms (pastE o (opsOf g.forms) false).2, text := applyE g.text (pastE o (opsOf g.forms) false).1 }

def Gc.takeIn : Nat → Gc → Gc
  | 0, g => g
  | n + 1, g => match findH (g.cum + 1) g.held with
    | none => g
    | some o => if acceptsE g o = 0 then Gc.takeIn n (g.take1 o) else { g with held := delH (g.cum + 1) g.held }

/-- A new epoch. -/
def Gc.invited (g : Gc) (e : Int) : Gc :=
  if e = g.epoch then g else { g with epoch := e, ph := .wait, base := g.hav, cum := 0, held := [], acked := 0, sent := 0, left := g.pending }

/-- What holds of a client's numbers. -/
structure Gc.Ok (g : Gc) : Prop where
  id1 : 1 ≤ g.id
  id2 : g.id ≤ 64
  e0 : 0 ≤ g.epoch
  e1 : g.epoch ≤ 255
  m0 : 0 ≤ g.made
  m1 : g.made ≤ 64
  fl : g.flast ≤ g.made
  fpl : g.forms.length = g.pending.length
  pm : (g.pending.length : Int) ≤ g.made
  fq : ∀ (i : Nat) (q : Marked), g.forms[i]? = some q → q.mark = g.made - g.forms.length + 1 + i ∧ q.op.seq = q.mark ∧ q.op.client = g.id
  fb : ∀ q ∈ g.forms, bnd (4096 + g.hav) q.op
  pq : ∀ e ∈ g.pending, 0 ≤ e.tag ∧ e.tag ≤ 4096 ∧ validE e.op = 0 ∧ e.op.client = g.id
  lf : ∀ e ∈ g.left, 0 ≤ e.tag ∧ e.tag ≤ 4096 ∧ validE e.op = 0 ∧ e.op.client = g.id
  a0 : 0 ≤ g.acked
  a1 : g.acked + g.left.length ≤ g.made
  ak : g.acked ≤ g.sent
  sl : g.sent ≤ g.acked + g.left.length
  tn : g.text.length ≤ 4096
  hv : g.hav = g.base + g.cum
  b0 : 0 ≤ g.base
  c0 : 0 ≤ g.cum
  hm : g.hav ≤ 4096
  hd : distH g.held
  hq : ∀ k q, findH k g.held = some q → g.cum < k ∧ g.base + k ≤ 4096 ∧ validE q = 0
  ll : g.last.length = 65
  lq : ∀ (i : Nat) (x : Int), g.last[i]? = some x → 0 ≤ x ∧ x ≤ 64

theorem wf_of_valid {o : Op} (h : validE o = 0) : o.wf := by
  obtain ⟨z1, z2, z3, z4, z5, z6, z7, z8, _⟩ := validE_zero h
  unfold Op.wf
  by_cases hk : o.kind = 1
  · have := z7 hk; omega
  · have := z8 hk; omega
theorem bnd_of_valid {o : Op} (h : validE o = 0) {B : Int} (hB : 4096 ≤ B) : bnd B o := by
  obtain ⟨_, _, _, _, _, _, _, _, z9, z10, _⟩ := validE_zero h
  unfold bnd; omega
theorem bnd.mono {B B' : Int} {o : Op} (h : bnd B o) (hb : B ≤ B') : bnd B' o := by unfold bnd at *; omega

theorem GcAt.pm_ne {w : World} {p : Nat} {m : ClM} {g : Gc} {col : Nat → Nat} {t : Nat} (h : GcAt w p m g col t) : m.pm ≠ m.pi := fun e => by
  have h1 := h.ci
  have h2 := h.cm
  rw [e] at h2; omega

section
variable {w : World} {p : Nat} {m : ClM} {g : Gc} {col : Nat → Nat} {t : Nat} (h : GcAt w p m g col t)
include h
theorem GcAt.c0 : w.cell? ⟨p, 0, none⟩ = some (.pointer (some ⟨m.po, 0, none⟩)) := by rw [blk_at h.hp]; rfl
theorem GcAt.c1 : w.cell? ⟨p, 1, none⟩ = some (.pointer (some ⟨m.pi, 0, none⟩)) := by rw [blk_at h.hp]; rfl
theorem GcAt.c2 : w.cell? ⟨p, 2, none⟩ = some g.ph.v := by rw [blk_at h.hp]; rfl
theorem GcAt.c3 : w.cell? ⟨p, 3, none⟩ = some (.int .i64 g.id) := by rw [blk_at h.hp]; rfl
theorem GcAt.c4 : w.cell? ⟨p, 4, none⟩ = some (.int .i64 g.epoch) := by rw [blk_at h.hp]; rfl
theorem GcAt.c5 : w.cell? ⟨p, 5, none⟩ = some (.int .i64 g.made) := by rw [blk_at h.hp]; rfl
theorem GcAt.c6 : w.cell? ⟨p, 6, none⟩ = some (.int .i64 g.hav) := by rw [blk_at h.hp]; rfl
theorem GcAt.c7 : w.cell? ⟨p, 7, none⟩ = some (.int .i64 g.base) := by rw [blk_at h.hp]; rfl
theorem GcAt.c8 : w.cell? ⟨p, 8, none⟩ = some (.slice m.tA g.text.length m.tc) := by rw [blk_at h.hp]; rfl
theorem GcAt.c9 : w.cell? ⟨p, 9, none⟩ = some (.slice m.pA g.pending.length m.pc) := by rw [blk_at h.hp]; rfl
theorem GcAt.c10 : w.cell? ⟨p, 10, none⟩ = some (.pointer (some ⟨m.ps, 0, none⟩)) := by rw [blk_at h.hp]; rfl
theorem GcAt.cLast {i : Nat} {x : Int} (hx : g.last[i]? = some x) : w.cell? ⟨p, 11 + i, none⟩ = some (.int .i64 x) := by
  rw [blk_at h.hp, Nat.add_comm]
  simp [gcL, hx]
theorem GcAt.cells : w.cell? ⟨p, 0, none⟩ = some (.pointer (some ⟨m.po, 0, none⟩)) ∧ w.cell? ⟨p, 1, none⟩ = some (.pointer (some ⟨m.pi, 0, none⟩)) ∧ w.cell? ⟨p, 2, none⟩ = some g.ph.v ∧ w.cell? ⟨p, 3, none⟩ = some (.int .i64 g.id) ∧ w.cell? ⟨p, 4, none⟩ = some (.int .i64 g.epoch) ∧ w.cell? ⟨p, 5, none⟩ = some (.int .i64 g.made) ∧ w.cell? ⟨p, 6, none⟩ = some (.int .i64 g.hav) ∧ w.cell? ⟨p, 7, none⟩ = some (.int .i64 g.base) ∧ w.cell? ⟨p, 8, none⟩ = some (.slice m.tA g.text.length m.tc) ∧ w.cell? ⟨p, 9, none⟩ = some (.slice m.pA g.pending.length m.pc) ∧ w.cell? ⟨p, 10, none⟩ = some (.pointer (some ⟨m.ps, 0, none⟩)) :=
  ⟨h.c0, h.c1, h.c2, h.c3, h.c4, h.c5, h.c6, h.c7, h.c8, h.c9, h.c10⟩
theorem GcAt.cf (i : Nat) : w.frozen? ⟨p, i, none⟩ = false := blk_free h.hp i
end
end Go.Proofs.YtjojhfphlnfimaaGreatDoor.J

namespace Go.Proofs.YtjojhfphlnfimaaGreatDoor.J
open Go Go.RowKit
set_option linter.unusedSimpArgs false
set_option linter.unusedVariables false

theorem accE_nil {g : Gc} {o : Op} (hid : o.client = g.id) (hf : g.forms = []) : acceptsE g o = 116 := by
  unfold acceptsE; rw [if_pos hid, hf]
theorem accE_eq {g : Gc} {o : Op} {q : Marked} {r : List Marked} (hid : o.client = g.id) (hf : g.forms = q :: r) (hq : q.op = o) : acceptsE g o = 0 := by
  unfold acceptsE; rw [if_pos hid, hf]; simp only [hq, if_pos]
theorem accE_ne {g : Gc} {o : Op} {q : Marked} {r : List Marked} (hid : o.client = g.id) (hf : g.forms = q :: r) (hq : ¬ q.op = o) : acceptsE g o = 116 := by
  unfold acceptsE; rw [if_pos hid, hf]; simp only [hq, if_false]
theorem ret_i {E F : Int} (h : E = F) : Ending.returned (.int .i64 E) = Ending.returned (.int .i64 F) := by rw [h]

set_option maxRecDepth 100000 in
set_option maxHeartbeats 4000000 in
theorem accepts_own (p : Nat) (m : ClM) (g : Gc) (col : Nat → Nat) (t : Nat) (op : Op) (w : World) (h : GcAt w p m g col t) (hk : g.Ok) (hid : op.client = g.id) :
    Calls Tryz.prog 86 #[.pointer (some ⟨p, 0, none⟩), op.v] w fun e w' => e = .returned (.int .i64 (acceptsE g op)) ∧ Mod No w w' := by
  have hfn : g.forms.length ≤ 4096 := by have := hk.fpl; have := hk.pm; have := hk.m1; omega
  have hqu := fun w' (h' : GcAt w' p m g col t) => queue_any m.ps m.fA g.forms.length m.fc g.forms g.flast false (fun b => col b = t + 6) w' h'.hs (by omega)
  have hnq := fun p0 p1 p2 p3 p4 r0 r1 r2 r3 r4 w => neq_Op w p0 p1 p2 p3 p4 r0 r1 r2 r3 r4
  obtain ⟨E, hE⟩ : ∃ E, acceptsE g op = E := ⟨_, rfl⟩
  rw [hE]
  have HE := Lib.hid hE
  clear hE
  obtain ⟨q1, q2, q3, q4, q5⟩ := op
  dsimp only at hid
  subst hid
  have h0 : GcAt (w.alloc (.cells #[.int .i64 q1, .int .i64 q2, .int .u8 q3, .int .i64 g.id, .int .i64 q5] 32)) p m g col t := h.keep0 ((Mod.refl No w).alloc _)
  have hM0 := (Mod.refl No w).alloc (.cells #[.int .i64 q1, .int .i64 q2, .int .u8 q3, .int .i64 g.id, .int .i64 q5] 32)
  have hA0 : (w.alloc (.cells #[.int .i64 q1, .int .i64 q2, .int .u8 q3, .int .i64 g.id, .int .i64 q5] 32)).heap[w.heap.size]? = some (.cells #[.int .i64 q1, .int .i64 q2, .int .u8 q3, .int .i64 g.id, .int .i64 q5] 32 (0, 0)) := blk_new _ _ rfl
  have hQA := blk_at hA0
  have k3 := h0.c3
  have k10 := h0.c10
  have HH0 := Lib.hid h0
  clear h h0 hk
  simp only [Op.v]
  obtain ⟨N, hN⟩ : ∃ N, g.forms.length = N := ⟨_, rfl⟩
  rw [hN] at hqu hfn
  have HNN := Lib.hid hN
  clear hN
  go_enter Tryz.func86, Tryz.ntmps86
  go_upto_region 1 with (fail)
  refine wp_region_text (by kernel_rfl) (by kernel_rfl) (by kernel_rfl) (by kernel_rfl) ?_
  go_wp2
  refine ⟨rfl, by kernel_rfl, ?_⟩
  go_upto_region 3 with (go_at_call 40; refine (hqu _ (HH0.out.keep0 (Mod.refl No _).drew)).mono ?_; rintro e w1 ⟨A1, d1, rfl, hm1, hO1⟩)
  have hA1 := hm1.heap (w := (w.alloc _).drew) hA0 (fun h => h)
  have hQA1 := blk_at hA1
  have hM1 := hM0.drew.then0 hm1
  have hr1 := hO1.rd
  cases hf : g.forms with
  | nil =>
    have hN0 : N = 0 := by rw [← HNN.out, hf]; rfl
    subst hN0
    have HE2 := Lib.hid (HE.out.symm.trans (accE_nil rfl hf))
    clear hf HNN hqu hm1 hO1 hr1 HE
    refine wp_region_text (by kernel_rfl) (by kernel_rfl) (by kernel_rfl) (by kernel_rfl) ?_
    go_wp2
    refine ⟨rfl, by kernel_rfl, ?_⟩
    go_wp2
    go_ret
    exact ⟨ret_i HE2.out.symm, hM1.drew⟩
  | cons q rest =>
    have hN0 : N = rest.length + 1 := by rw [← HNN.out, hf]; rfl
    have hNb : ((N : Int) == 0) = false := by rw [beq_eq_false_iff_ne]; omega
    have hN1 : 0 < N := by omega
    obtain ⟨bl, ol, x, hx, rfl, x1, x2, x3, x4, x5, x6⟩ := hr1.markedC (i := 0) hN1
    rw [hf] at hx
    obtain rfl : q = x := by simpa using hx
    have HF := Lib.hid hf
    obtain ⟨mk, ⟨r1, r2, r3, r4, r5⟩⟩ := q
    dsimp only at x1 x2 x3 x4 x5 x6 ⊢
    simp only [Nat.zero_mul, Nat.add_zero] at x1 x2 x3 x4 x5 x6
    have HN1 := Lib.hid hN0
    clear hf hx HNN hqu hm1 hO1 hr1 hN0
    by_cases hq : (⟨r1, r2, r3, r4, r5⟩ : Op) = ⟨q1, q2, q3, g.id, q5⟩
    · have HE2 := Lib.hid (HE.out.symm.trans (accE_eq rfl HF.out hq))
      simp only [Op.mk.injEq] at hq
      obtain ⟨rfl, rfl, rfl, rfl, rfl⟩ := hq
      go_quiet (fail)
      go_wp2
      go_ret
      exact ⟨ret_i HE2.out.symm, hM1.drewN _⟩
    · have HE2 := Lib.hid (HE.out.symm.trans (accE_ne rfl HF.out hq))
      have hqd : (!decide (r1 = q1) || (!decide (r2 = q2) || (!decide (r3 = q3) || (!decide (r4 = g.id) || !decide (r5 = q5))))) = true := by
        have := decide_eq_false hq
        simp only [Op.mk.injEq, Bool.decide_and] at this
        rw [← Bool.not_and, ← Bool.not_and, ← Bool.not_and, ← Bool.not_and, this]; rfl
      clear hq
      go_quiet (fail)
      go_wp2
      go_ret
      exact ⟨ret_i HE2.out.symm, hM1.drewN _⟩
theorem accE_seq {g : Gc} {o : Op} (hid : o.client ≠ g.id) (hs : o.seq ≠ g.last.getD o.client.toNat 0 + 1) : acceptsE g o = 117 := by
  unfold acceptsE; rw [if_neg hid, if_pos hs]
theorem accE_fit {g : Gc} {o : Op} (hid : o.client ≠ g.id) (hs : o.seq = g.last.getD o.client.toNat 0 + 1) (hf : fitsE g.text.length (pastE o (opsOf g.forms) false).1 ≠ 0) : acceptsE g o = 117 := by
  unfold acceptsE; rw [if_neg hid, if_neg (fun h => h hs), if_pos hf]
theorem accE_ok {g : Gc} {o : Op} (hid : o.client ≠ g.id) (hs : o.seq = g.last.getD o.client.toNat 0 + 1) (hf : fitsE g.text.length (pastE o (opsOf g.forms) false).1 = 0) : acceptsE g o = 0 := by
  unfold acceptsE; rw [if_neg hid, if_neg (fun h => h hs), if_neg (fun h => h hf)]
theorem shiftE_ch (a b : Op) (f : Bool) : (shiftE a b f).ch = a.ch ∨ (shiftE a b f).ch = 0 := by
  unfold shiftE
  split
  · exact .inl rfl
  · exact .inr rfl
theorem shiftE_wf {a : Op} (b : Op) (f : Bool) (h : a.wf) : (shiftE a b f).wf := by
  unfold Op.wf at *
  rcases shiftE_ch a b f with e | e <;> (rw [e]; omega)
theorem pastE_wf (f : Bool) : ∀ (l : List Op) (op : Op), op.wf → (pastE op l f).1.wf
  | [], op, h => h
  | x :: l, op, h => by
    unfold pastE
    exact pastE_wf f l _ (shiftE_wf _ _ h)
theorem Gc.Ok.lastAt {g : Gc} (hk : g.Ok) {o : Op} (hv : validE o = 0) : ∃ L : Int, g.last[o.client.toNat]? = some L ∧ g.last.getD o.client.toNat 0 = L ∧ 0 ≤ L ∧ L ≤ 64 := by
  obtain ⟨_, _, z3, z4, _⟩ := validE_zero hv
  have hll := hk.ll
  have hl : o.client.toNat < g.last.length := by omega
  have hx := List.getElem?_eq_getElem hl
  have hb := hk.lq _ _ hx
  exact ⟨_, hx, by rw [List.getD_eq_getElem?_getD, hx]; rfl, hb.1, hb.2⟩
theorem Gc.Ok.fbnd {g : Gc} (hk : g.Ok) : ∀ x ∈ g.forms, bnd 8192 x.op := fun x hx => (hk.fb x hx).mono (by have := hk.hm; omega)

set_option maxRecDepth 100000 in
set_option maxHeartbeats 8000000 in
theorem accepts_other (p : Nat) (m : ClM) (g : Gc) (col : Nat → Nat) (t : Nat) (op : Op) (w : World) (h : GcAt w p m g col t) (hk : g.Ok) (hv : validE op = 0) (hid : op.client ≠ g.id) (hT : OtT w) :
    Calls Tryz.prog 86 #[.pointer (some ⟨p, 0, none⟩), op.v] w fun e w' => e = .returned (.int .i64 (acceptsE g op)) ∧ Mod No w w' := by
  have hfn : g.forms.length ≤ 4096 := by have := hk.fpl; have := hk.pm; have := hk.m1; omega
  have hu := wf_of_valid hv
  have hlk := fun w' hT' (h' : GcAt w' p m g col t) => look_any op hu hv m.ps m.fA g.forms.length m.fc g.forms g.flast false (fun b => col b = t + 6) w' hT' h'.hs hfn 8192 (by decide) (by decide) (bnd_of_valid hv (by decide)) hk.fbnd
  have hft := fun w' => fits_any g.text.length (pastE op (opsOf g.forms) false).1 w' (pastE_wf _ _ _ hu)
  obtain ⟨L, hLk, hLg, hL0, hL1⟩ := hk.lastAt hv
  have hE : (op.seq ≠ L + 1 ∧ acceptsE g op = 117) ∨ (op.seq = L + 1 ∧ ((fitsE g.text.length (pastE op (opsOf g.forms) false).1 ≠ 0 ∧ acceptsE g op = 117) ∨ (fitsE g.text.length (pastE op (opsOf g.forms) false).1 = 0 ∧ acceptsE g op = 0))) := by
    rw [← hLg]
    by_cases h1 : op.seq = g.last.getD op.client.toNat 0 + 1
    · refine .inr ⟨h1, ?_⟩
      by_cases h2 : fitsE g.text.length (pastE op (opsOf g.forms) false).1 = 0
      · exact .inr ⟨h2, accE_ok hid h1 h2⟩
      · exact .inl ⟨h2, accE_fit hid h1 h2⟩
    · exact .inl ⟨h1, accE_seq hid h1⟩
  obtain ⟨E, hEE⟩ : ∃ E, acceptsE g op = E := ⟨_, rfl⟩
  rw [hEE]
  have HE := Lib.hid hEE
  clear hEE
  obtain ⟨_, _, z3, z4, _⟩ := validE_zero hv
  obtain ⟨F, hF⟩ : ∃ F, fitsE g.text.length (pastE op (opsOf g.forms) false).1 = F := ⟨_, rfl⟩
  rw [hF] at hft hE
  obtain ⟨R, hR⟩ : ∃ R, (pastE op (opsOf g.forms) false).1 = R := ⟨_, rfl⟩
  rw [hR] at hlk hft
  obtain ⟨r1, r2, r3, r4, r5⟩ := R
  clear hF hR hLg hu hfn
  obtain ⟨q1, q2, q3, q4, q5⟩ := op
  obtain ⟨nc, rfl⟩ := Int.eq_ofNat_of_zero_le (show 0 ≤ q4 by dsimp only at z3; omega)
  dsimp only at hid hLk z3 z4 hE
  simp only [Int.toNat_natCast] at hLk
  have hidb : ((nc : Int) == g.id) = false := beq_eq_false_iff_ne.2 hid
  have HLk := Lib.hid hLk
  have nc0 : (0 : Int) ≤ (nc : Int) := by omega
  have hnc : nc ≤ 64 := by omega
  have h0 : GcAt (w.alloc (.cells #[.int .i64 q1, .int .i64 q2, .int .u8 q3, .int .i64 nc, .int .i64 q5] 32)) p m g col t := h.keep0 ((Mod.refl No w).alloc _)
  have hM0 := (Mod.refl No w).alloc (.cells #[.int .i64 q1, .int .i64 q2, .int .u8 q3, .int .i64 nc, .int .i64 q5] 32)
  have hA0 : (w.alloc (.cells #[.int .i64 q1, .int .i64 q2, .int .u8 q3, .int .i64 nc, .int .i64 q5] 32)).heap[w.heap.size]? = some (.cells #[.int .i64 q1, .int .i64 q2, .int .u8 q3, .int .i64 nc, .int .i64 q5] 32 (0, 0)) := blk_new _ _ rfl
  have hT0 : OtT (w.alloc (.cells #[.int .i64 q1, .int .i64 q2, .int .u8 q3, .int .i64 nc, .int .i64 q5] 32)) := hT.mod hM0 (fun h => h)
  have hQA := blk_at hA0
  have k3 := h0.c3
  have k10 := h0.c10
  have HH0 := Lib.hid h0
  have HT0 := Lib.hid hT0
  clear h h0 hk hv hid hLk hT hT0
  simp only [Op.v] at hlk hft ⊢
  go_enter Tryz.func86, Tryz.ntmps86
  go_upto_region 1 with (fail)
  refine wp_region_text (by kernel_rfl) (by kernel_rfl) (by kernel_rfl) (by kernel_rfl) ?_
  go_wp2
  refine ⟨rfl, by kernel_rfl, ?_⟩
  go_upto_region 6 with (fail)
  refine wp_region_fork ([0, 1, 2, 3, 4].map (·, false)) 7 #[true, true, true, true, true, false, false, false, false, false, false, false] (by kernel_rfl) (by kernel_rfl) (by kernel_rfl) (by kernel_rfl) ?_
  simp only [List.map_cons, List.map_nil, List.filterMap_cons, List.filterMap_nil, pick, List.getElem?_toArray, List.getElem?_cons_zero, List.getElem?_cons_succ, Option.map_some]
  refine wpSeg_rest [_, _, _, _, _] ?_
  go_wp2
  refine ⟨rfl, by kernel_rfl, fun hd => ?_⟩
  refine wpAnyL_fork2 5 9 false false [(6, false), (7, false), (8, false), (9, false), (10, false), (11, false)] [(5, false), (6, false), (7, false), (8, false), (10, false), (11, false)] 0 0 #[true, true, true, true, true, true, true, true, true, true, true, true] #[true, true, true, true, true, true, true, true, true, true, true, true] (by kernel_rfl) (by kernel_rfl) hd (by decide) (by decide) (by kernel_rfl) (by kernel_rfl) (by kernel_rfl) (by kernel_rfl) (by kernel_rfl) ?_ ?_
  · simp only [List.map_cons, List.map_nil, List.filterMap_cons, List.filterMap_nil, pick, List.getElem?_toArray, List.getElem?_cons_zero, List.getElem?_cons_succ, Option.map_some]
    refine wpSeg_rest [_, _, _, _, _, _, _] ?_
    go_wp2_with (go_at_call 110; refine (hlk ((w.alloc (.cells #[.int .i64 q1, .int .i64 q2, .int .u8 q3, .int .i64 nc, .int .i64 q5] 32)).drew.drew) (HT0.out.mod ((Mod.refl No _).drew.drew) (fun h => h)) (HH0.out.keep0 ((Mod.refl No _).drew.drew))).mono ?_; rintro e w1 ⟨rfl, hm1⟩)
    have hA1 := blk_alloc (hm1.heap hA0 (fun h => h)) (.cells #[.int .i64 r1, .int .i64 r2, .int .u8 r3, .int .i64 r4, .int .i64 r5] 32)
    have h1 := (HH0.out.keep0 ((Mod.refl No _).drew.drew.then0 hm1)).keep0 ((Mod.refl No _).alloc (.cells #[.int .i64 r1, .int .i64 r2, .int .u8 r3, .int .i64 r4, .int .i64 r5] 32))
    have hM1 := (hM0.drew.drew.then0 hm1).alloc (.cells #[.int .i64 r1, .int .i64 r2, .int .u8 r3, .int .i64 r4, .int .i64 r5] 32)
    have hX1 := blk_new w1 (.cells #[.int .i64 r1, .int .i64 r2, .int .u8 r3, .int .i64 r4, .int .i64 r5] 32) rfl
    refine ⟨rfl, by kernel_rfl, fun _ => wpAnyL_done (by kernel_rfl) ⟨rfl, ?_⟩⟩
    refine cut_worldO (F := fun w5 => w5.heap[w.heap.size]? = some (.cells #[.int .i64 q1, .int .i64 q2, .int .u8 q3, .int .i64 nc, .int .i64 q5] 32 (0, 0)) ∧ w5.heap[w1.heap.size]? = some (.cells #[.int .i64 r1, .int .i64 r2, .int .u8 r3, .int .i64 r4, .int .i64 r5] 32 (0, 0)) ∧ GcAt w5 p m g col t ∧ Mod No w w5) ⟨hA1, hX1, h1, hM1⟩ ?_
    clear hA1 hX1 h1 hM1 hm1 hlk hQA k3 k10 HH0 HT0 hA0 hM0
    rintro w5 ⟨hA5, hX5, h5, hM5⟩
    have hQA5 := blk_at hA5
    have hQX5 := blk_at hX5
    have j3 := h5.c3
    have j8 := h5.c8
    have jL := h5.cLast HLk.out
    go_upto_region 7 with (fail)
    rcases hE with hE | ⟨hE1, hE⟩
    · have HE2 := Lib.hid (HE.out.symm.trans hE.2)
      have hsb : (q5 != L + 1) = true := bne_iff_ne.2 hE.1
      clear hE
      refine wp_region_text (by kernel_rfl) (by kernel_rfl) (by kernel_rfl) (by kernel_rfl) ?_
      go_wp2
      refine ⟨rfl, by kernel_rfl, ?_⟩
      go_wp2
      go_ret
      exact ⟨ret_i HE2.out.symm, hM5.drew⟩
    · subst hE1
      rcases hE with hE | hE
      · have HE2 := Lib.hid (HE.out.symm.trans hE.2)
        have hfb : (F != 0) = true := bne_iff_ne.2 hE.1
        clear hE
        refine wp_region_text (by kernel_rfl) (by kernel_rfl) (by kernel_rfl) (by kernel_rfl) ?_
        go_wp2_with (go_at_call 100; refine (hft _).mono ?_; rintro e w2 ⟨rfl, hm2⟩)
        refine ⟨rfl, by kernel_rfl, ?_⟩
        go_wp2
        go_ret
        exact ⟨ret_i HE2.out.symm, hM5.drew.then0 hm2⟩
      · have HE2 := Lib.hid (HE.out.symm.trans hE.2)
        have hF0 := hE.1
        subst hF0
        clear hE
        refine wp_region_text (by kernel_rfl) (by kernel_rfl) (by kernel_rfl) (by kernel_rfl) ?_
        go_wp2_with (go_at_call 100; refine (hft _).mono ?_; rintro e w2 ⟨rfl, hm2⟩)
        refine ⟨rfl, by kernel_rfl, ?_⟩
        go_wp2
        go_ret
        exact ⟨ret_i HE2.out.symm, hM5.drew.then0 hm2⟩
  · simp only [List.map_cons, List.map_nil, List.filterMap_cons, List.filterMap_nil, pick, List.getElem?_toArray, List.getElem?_cons_zero, List.getElem?_cons_succ, Option.map_some]
    refine wpSeg_rest [_, _, _, _, _, _, _] ?_
    have hZ0 := blk_new (w.alloc (.cells #[.int .i64 q1, .int .i64 q2, .int .u8 q3, .int .i64 nc, .int .i64 q5] 32)) (.cells #[.int .i64 0, .int .i64 0, .int .u8 0, .int .i64 0, .int .i64 0] 32) (b := w.heap.size + 1) (by simp)
    go_wp2_with (go_at_call 110; refine (hlk (((w.alloc (.cells #[.int .i64 q1, .int .i64 q2, .int .u8 q3, .int .i64 nc, .int .i64 q5] 32)).alloc (.cells #[.int .i64 0, .int .i64 0, .int .u8 0, .int .i64 0, .int .i64 0] 32)).drew.drew) (HT0.out.mod (((Mod.refl No _).alloc _).drew.drew) (fun h => h)) (HH0.out.keep0 (((Mod.refl No _).alloc _).drew.drew))).mono ?_; rintro e w1 ⟨rfl, hm1⟩; have hA1 := hm1.heap (blk_alloc hA0 (.cells #[.int .i64 0, .int .i64 0, .int .u8 0, .int .i64 0, .int .i64 0] 32)) (fun h => h); have hZ1 := hm1.heap hZ0 (fun h => h); have h1 := HH0.out.keep0 ((((Mod.refl No _).alloc (.cells #[.int .i64 0, .int .i64 0, .int .u8 0, .int .i64 0, .int .i64 0] 32)).drew.drew).then0 hm1); have hM1 := ((hM0.alloc (.cells #[.int .i64 0, .int .i64 0, .int .u8 0, .int .i64 0, .int .i64 0] 32)).drew.drew.then0 hm1); have hQZ1 := blk_at hZ1; have hFZ1 := blk_free hZ1)
    refine ⟨rfl, by kernel_rfl, fun _ => wpAnyL_done (by kernel_rfl) ⟨rfl, ?_⟩⟩
    have r1' : No (w.heap.size + 1) ∨ w.heap.size ≤ w.heap.size + 1 := .inr (by omega)
    have r2' : (fun b => b = w.heap.size + 1) (w.heap.size + 1) ∨ w1.heap.size ≤ w.heap.size + 1 := .inl rfl
    have hc9 : col (w.heap.size + 1) = 0 := HH0.out.hz _ (by simp)
    have ht1 := HH0.out.t1
    refine cut_worldO (F := fun w5 => w5.heap[w.heap.size]? = some (.cells #[.int .i64 q1, .int .i64 q2, .int .u8 q3, .int .i64 nc, .int .i64 q5] 32 (0, 0)) ∧ w5.heap[w.heap.size + 1]? = some (.cells #[.int .i64 r1, .int .i64 r2, .int .u8 r3, .int .i64 r4, .int .i64 r5] 32 (0, 0)) ∧ GcAt w5 p m g col t ∧ Mod No w w5)
      ⟨blk_set_other (blk_set_other (blk_set_other (blk_set_other (blk_set_other hA1 (by dsimp only; omega) _) (by dsimp only; omega) _) (by dsimp only; omega) _) (by dsimp only; omega) _) (by dsimp only; omega) _,
       blk_set (blk_set (blk_set (blk_set (blk_set hZ1 0 _) 1 _) 2 _) 3 _) 4 _,
       h1.keep (mod_setO (mod_setO (mod_setO (mod_setO (mod_setO (Mod.refl (fun b => b = w.heap.size + 1) w1) r2') r2') r2') r2') r2') (fun b hb a1 a2 e => by subst e; omega) (fun _ _ => rfl) (fun b hb => h1.hz b (by simpa using hb)),
       mod_setO (mod_setO (mod_setO (mod_setO (mod_setO hM1 r1') r1') r1') r1') r1'⟩ ?_
    clear hA1 hZ1 h1 hM1 hm1 hlk hQA k3 k10 HH0 HT0 hA0 hM0 hZ0 hQZ1 hFZ1
    rintro w5 ⟨hA5, hX5, h5, hM5⟩
    have hQA5 := blk_at hA5
    have hQX5 := blk_at hX5
    have j3 := h5.c3
    have j8 := h5.c8
    have jL := h5.cLast HLk.out
    go_upto_region 7 with (fail)
    rcases hE with hE | ⟨hE1, hE⟩
    · have HE2 := Lib.hid (HE.out.symm.trans hE.2)
      have hsb : (q5 != L + 1) = true := bne_iff_ne.2 hE.1
      clear hE
      refine wp_region_text (by kernel_rfl) (by kernel_rfl) (by kernel_rfl) (by kernel_rfl) ?_
      go_wp2
      refine ⟨rfl, by kernel_rfl, ?_⟩
      go_wp2
      go_ret
      exact ⟨ret_i HE2.out.symm, hM5.drew⟩
    · subst hE1
      rcases hE with hE | hE
      · have HE2 := Lib.hid (HE.out.symm.trans hE.2)
        have hfb : (F != 0) = true := bne_iff_ne.2 hE.1
        clear hE
        refine wp_region_text (by kernel_rfl) (by kernel_rfl) (by kernel_rfl) (by kernel_rfl) ?_
        go_wp2_with (go_at_call 100; refine (hft _).mono ?_; rintro e w2 ⟨rfl, hm2⟩)
        refine ⟨rfl, by kernel_rfl, ?_⟩
        go_wp2
        go_ret
        exact ⟨ret_i HE2.out.symm, hM5.drew.then0 hm2⟩
      · have HE2 := Lib.hid (HE.out.symm.trans hE.2)
        have hF0 := hE.1
        subst hF0
        clear hE
        refine wp_region_text (by kernel_rfl) (by kernel_rfl) (by kernel_rfl) (by kernel_rfl) ?_
        go_wp2_with (go_at_call 100; refine (hft _).mono ?_; rintro e w2 ⟨rfl, hm2⟩)
        refine ⟨rfl, by kernel_rfl, ?_⟩
        go_wp2
        go_ret
        exact ⟨ret_i HE2.out.symm, hM5.drew.then0 hm2⟩

theorem accepts_any (p : Nat) (m : ClM) (g : Gc) (col : Nat → Nat) (t : Nat) (op : Op) (w : World) (h : GcAt w p m g col t) (hk : g.Ok) (hv : validE op = 0) (hT : OtT w) :
    Calls Tryz.prog 86 #[.pointer (some ⟨p, 0, none⟩), op.v] w fun e w' => e = .returned (.int .i64 (acceptsE g op)) ∧ Mod No w w' := by
  by_cases hid : op.client = g.id
  · exact accepts_own p m g col t op w h hk hid
  · exact accepts_other p m g col t op w h hk hv hid hT
end Go.Proofs.YtjojhfphlnfimaaGreatDoor.J
