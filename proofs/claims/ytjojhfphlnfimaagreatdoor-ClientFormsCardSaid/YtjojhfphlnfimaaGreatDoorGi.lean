/- What holds of a client's numbers goes on holding: plain. A client that is invited into a new epoch: invited. -/
import Derived.Test.YtjojhfphlnfimaaGreatDoorGa
import Derived.Test.YtjojhfphlnfimaaGreatDoorGo
import Derived.Test.YtjojhfphlnfimaaGreatDoorFork
import Derived.Deep.DeepCutAuto
namespace Go.Proofs.YtjojhfphlnfimaaGreatDoor.J
open Go Go.RowKit
set_option linter.unusedSimpArgs false
set_option linter.unusedVariables false

theorem shiftE_who (a b : Op) (f : Bool) : (shiftE a b f).client = a.client ∧ (shiftE a b f).seq = a.seq := by
  unfold shiftE
  split <;> exact ⟨rfl, rfl⟩
/-- The line past an operation, one by one. -/
theorem pastE_at (f : Bool) : ∀ (l : List Op) (op : Op) (i : Nat) (x : Op), l[i]? = some x → ∃ q, (pastE op l f).2[i]? = some (shiftE x q f)
  | [], op, i, x, h => by simp at h
  | y :: l, op, 0, x, h => by
    have : y = x := by simpa using h
    subst this
    exact ⟨op, by unfold pastE; simp⟩
  | y :: l, op, i + 1, x, h => by
    have h' : l[i]? = some x := by simpa using h
    obtain ⟨q, hq⟩ := pastE_at f l (shiftE op y (!f)) i x h'
    exact ⟨q, by unfold pastE; simpa using hq⟩
theorem setOps_at {l : List Marked} {os : List Op} (hl : os.length = l.length) {i : Nat} {q : Marked} (h : (setOps l os)[i]? = some q) : ∃ x o, l[i]? = some x ∧ os[i]? = some o ∧ q = ⟨x.mark, o⟩ := by
  unfold setOps at h
  rw [List.getElem?_zipWith] at h
  cases hx : l[i]? with
  | none => rw [hx] at h; simp at h
  | some x =>
    cases ho : os[i]? with
    | none => rw [hx, ho] at h; simp at h
    | some o => rw [hx, ho] at h; exact ⟨x, o, rfl, rfl, (Option.some.inj h).symm⟩
theorem opsOf_at {l : List Marked} {i : Nat} {x : Marked} (h : l[i]? = some x) : (opsOf l)[i]? = some x.op := by unfold opsOf; rw [List.getElem?_map, h]; rfl
theorem past_len (o : Op) (l : List Marked) (f : Bool) : (pastE o (opsOf l) f).2.length = l.length := by rw [pastE_len]; simp [opsOf]

theorem idxH_lt {n : Int} {l : List (Int × Op)} {o : Op} (h : findH n l = some o) : idxH n l < l.length := by
  induction l with
  | nil => simp [findH] at h
  | cons p r ih =>
    unfold findH at h
    unfold idxH
    split at h
    · rename_i e; rw [if_pos e]; simp
    · rename_i e; rw [if_neg e]; simp; exact ih h
theorem delH_len {n : Int} {l : List (Int × Op)} {o : Op} (h : findH n l = some o) : (delH n l).length + 1 = l.length := by
  have := idxH_lt h
  unfold delH
  rw [List.length_eraseIdx, if_pos this]
  omega

theorem applyE_len {l : List Elem} {o : Op} (h : fitsE l.length o = 0) : (applyE l o).length ≤ 4096 ∧ ((applyE l o).length : Int) = l.length + (if o.kind = 1 then 1 else if o.kind = 2 then -1 else 0) := by
  obtain ⟨hv, h0, h1, h2, h3⟩ := fitsE_zero h
  obtain ⟨_, _, _, _, _, _, _, _, z9, z10, _⟩ := validE_zero hv
  unfold applyE
  by_cases k1 : o.kind = 1
  · have := h2 k1
    rw [if_pos k1, if_pos k1]
    simp only [List.length_append, List.length_take, List.length_drop, List.length_cons, List.length_nil]
    omega
  · rw [if_neg k1, if_neg k1]
    by_cases k2 : o.kind = 2
    · have := h3 k2
      rw [if_pos k2, if_pos k2]
      simp only [List.length_append, List.length_take, List.length_drop]
      omega
    · rw [if_neg k2, if_neg k2]
      omega

theorem acc_of {g : Gc} {o : Op} (ha : acceptsE g o = 0) : (o.client = g.id ∧ ∃ q r, g.forms = q :: r ∧ q.op = o) ∨ (o.client ≠ g.id ∧ o.seq = g.last.getD o.client.toNat 0 + 1 ∧ fitsE g.text.length (pastE o (opsOf g.forms) false).1 = 0) := by
  unfold acceptsE at ha
  split at ha
  · rename_i hid
    left
    refine ⟨hid, ?_⟩
    cases hf : g.forms with
    | nil => rw [hf] at ha; simp at ha
    | cons q r =>
      rw [hf] at ha
      simp only at ha
      split at ha
      · rename_i e; exact ⟨q, r, rfl, e⟩
      · omega
  · rename_i hid
    right
    split at ha
    · omega
    · rename_i hs
      split at ha
      · omega
      · rename_i hfit
        exact ⟨hid, by simpa using hs, by simpa using hfit⟩

section
variable {g : Gc} (hk : g.Ok)
include hk
theorem Gc.Ok.dropOwn {o : Op} {q : Marked} {r : List Marked} (hf : g.forms = q :: r) (hq : q.op = o) : dropE o.seq g.forms = r := by
  have h0 := hk.fq 0 q (by rw [hf]; rfl)
  have hl : g.forms.length = r.length + 1 := by rw [hf]; rfl
  have : dropE o.seq g.forms = g.forms.drop 1 := by
    refine dropWhile_at _ g.forms 1 (fun x hx => ?_) (fun x hx => ?_)
    · rw [hf] at hx
      have : x = q := by simpa using hx
      subst this
      rw [← hq]
      simp; omega
    · have h1 := hk.fq 1 x hx
      rw [← hq]
      simp; omega
  rw [this, hf]; rfl

theorem Gc.Ok.take1 {o : Op} (hf : findH (g.cum + 1) g.held = some o) (ha : acceptsE g o = 0) : (g.take1 o).Ok := by
  obtain ⟨hq1, hq2, hq3⟩ := hk.hq _ _ hf
  have hhv := hk.hv
  have hhq : ∀ k q, findH k (delH (g.cum + 1) g.held) = some q → g.cum + 1 < k ∧ g.base + k ≤ 4096 ∧ validE q = 0 := fun k q h => by
    rw [findH_del hk.hd] at h
    split at h
    · cases h
    · rename_i hne
      obtain ⟨a, b, c⟩ := hk.hq k q h
      exact ⟨by omega, b, c⟩
  have hc0 := hk.c0
  have hb0 := hk.b0
  obtain ⟨z1, z2, z3, z4, z5, z6, _⟩ := validE_zero hq3
  rcases acc_of ha with ⟨hid, q, r, hfm, hqo⟩ | ⟨hid, hs, hfit⟩
  · have hd := hk.dropOwn hfm hqo
    have hl : g.forms.length = r.length + 1 := by rw [hfm]; rfl
    have hpl := hk.fpl
    have hpm := hk.pm
    unfold Gc.take1
    rw [if_pos hid, hd]
    exact { hk with
      fpl := by simp only [List.length_tail]; omega
      pm := by simp only [List.length_tail]; omega
      fq := fun i x hx => by
        have := hk.fq (i + 1) x (by rw [hfm]; simpa using hx)
        simp only at *
        refine ⟨?_, this.2.1, this.2.2⟩
        rw [this.1, hl]; omega
      fb := fun x hx => (hk.fb x (by rw [hfm]; exact List.mem_cons_of_mem _ hx)).mono (by simp only; omega)
      pq := fun e he => hk.pq e (List.mem_of_mem_tail he)
      hv := by simp only; omega
      c0 := by simp only; omega
      hm := by simp only; omega
      hd := distH_del hk.hd
      hq := hhq }
  · unfold Gc.take1
    rw [if_neg hid]
    have hlen := past_len o g.forms false
    have hal := applyE_len hfit
    exact { hk with
      fpl := by simp only; rw [setOps_len hlen]; exact hk.fpl
      fq := fun i x hx => by
        obtain ⟨y, u, hy, hu, rfl⟩ := setOps_at hlen hx
        have := hk.fq i y hy
        obtain ⟨v, hv⟩ := pastE_at false _ o i _ (opsOf_at hy)
        rw [hu] at hv
        cases hv
        simp only at *
        rw [setOps_len hlen, (shiftE_who _ _ _).1, (shiftE_who _ _ _).2]
        exact this
      fb := fun x hx => by
        obtain ⟨i, hi, hix⟩ := List.getElem_of_mem hx
        obtain ⟨y, u, hy, hu, rfl⟩ := setOps_at hlen (List.getElem?_eq_some_iff.2 ⟨hi, hix⟩)
        obtain ⟨v, hv⟩ := pastE_at false _ o i _ (opsOf_at hy)
        rw [hu] at hv
        cases hv
        have hb := hk.fb y (List.mem_of_getElem? hy)
        have := shiftE_bnd (B := 4096 + g.hav) (by omega) v false hb
        simp only
        rw [show 4096 + (g.hav + 1) = 4096 + g.hav + 1 by omega]
        exact this
      tn := hal.1
      hv := by simp only; omega
      c0 := by simp only; omega
      hm := by simp only; omega
      hd := distH_del hk.hd
      hq := hhq
      ll := by simp only [List.length_set]; exact hk.ll
      lq := fun i x hx => by
        simp only [List.getElem?_set] at hx
        split at hx
        · split at hx
          · cases hx; exact ⟨by omega, by omega⟩
          · cases hx
        · exact hk.lq i x hx }

theorem Gc.Ok.toss : ({ g with held := delH (g.cum + 1) g.held } : Gc).Ok :=
  { hk with
    hd := distH_del hk.hd
    hq := fun k q h => by
      rw [findH_del hk.hd] at h
      split at h
      · cases h
      · exact hk.hq k q h }
end
theorem Gc.Ok.takeIn : ∀ (n : Nat) (g : Gc), g.Ok → (g.takeIn n).Ok
  | 0, g, hk => hk
  | n + 1, g, hk => by
    unfold Gc.takeIn
    split
    · exact hk
    · rename_i o ho
      split
      · rename_i ha; exact Gc.Ok.takeIn n _ (hk.take1 ho ha)
      · exact hk.toss
theorem takeIn_none {g : Gc} (h : findH (g.cum + 1) g.held = none) : g.takeIn g.held.length = g := by
  cases hn : g.held.length with
  | zero => rfl
  | succ n => unfold Gc.takeIn; rw [h]
theorem take1_held (g : Gc) (o : Op) : (g.take1 o).held = delH (g.cum + 1) g.held := by unfold Gc.take1; split <;> rfl
theorem takeIn_some {g : Gc} {o : Op} (h : findH (g.cum + 1) g.held = some o) (ha : acceptsE g o = 0) : g.takeIn g.held.length = (g.take1 o).takeIn (g.take1 o).held.length := by
  have hl := delH_len h
  rw [take1_held, ← hl]
  conv => lhs; unfold Gc.takeIn
  rw [h]
  simp only
  rw [if_pos ha]
theorem takeIn_bad {g : Gc} {o : Op} (h : findH (g.cum + 1) g.held = some o) (ha : acceptsE g o ≠ 0) : g.takeIn g.held.length = { g with held := delH (g.cum + 1) g.held } := by
  have hl := delH_len h
  rw [← hl]
  unfold Gc.takeIn
  rw [h]
  simp only
  rw [if_neg ha]

theorem Gc.Ok.invited {g : Gc} (hk : g.Ok) {e : Int} (h0 : 0 ≤ e) (h1 : e ≤ 255) : (g.invited e).Ok := by
  have hhm := hk.hm
  have hhv := hk.hv
  have hb0 := hk.b0
  have hc0 := hk.c0
  have hpm := hk.pm
  unfold Gc.invited
  split
  · exact hk
  · exact { hk with
      e0 := h0
      e1 := h1
      lf := hk.pq
      a0 := Int.le_refl _
      a1 := by simp only; omega
      ak := Int.le_refl _
      sl := by simp only; omega
      hv := by simp only; omega
      b0 := by simp only; omega
      c0 := Int.le_refl _
      hd := List.Pairwise.nil
      hq := fun k q h => by simp [findH] at h }
end Go.Proofs.YtjojhfphlnfimaaGreatDoor.J

namespace Go.Proofs.YtjojhfphlnfimaaGreatDoor.J
open Go Go.RowKit
set_option linter.unusedSimpArgs false
set_option linter.unusedVariables false

/-- What stays of the places through an invitation. -/
def samePl (m m' : ClM) : Prop := m'.po = m.po ∧ m'.pA = m.pA ∧ m'.pc = m.pc

theorem invited_same (p : Nat) (m : ClM) (g : Gc) (col : Nat → Nat) (t : Nat) (w : World) (h : GcAt w p m g col t) :
    Calls Tryz.prog 57 #[.pointer (some ⟨p, 0, none⟩), .int .i64 g.epoch] w fun e w' => e = .returned (.tuple #[]) ∧ w' = w := by
  have k4 := h.c4
  clear h
  go_enter Tryz.func57, Tryz.ntmps57
  go_wp2
  refine bodyPost_ret (results_none rfl _ _ _) rfl ?_
  exact ⟨rfl, rfl⟩

set_option maxRecDepth 100000 in
set_option maxHeartbeats 4000000 in
theorem invited_new (p : Nat) (m : ClM) (g : Gc) (col : Nat → Nat) (t : Nat) (e : Int) (w : World) (h : GcAt w p m g col t) (hk : g.Ok) (he : e ≠ g.epoch) :
    Calls Tryz.prog 57 #[.pointer (some ⟨p, 0, none⟩), .int .i64 e] w fun en w' => en = .returned (.tuple #[]) ∧ ∃ m' col', GRun w col w' p m' (g.invited e) col' t := by
  have hiE : g.invited e = { g with epoch := e, ph := .wait, base := g.hav, cum := 0, held := [], acked := 0, sent := 0, left := g.pending } := by unfold Gc.invited; rw [if_neg he]
  rw [hiE]
  clear hiE
  have heb : (e == g.epoch) = false := beq_eq_false_iff_ne.2 he
  obtain ⟨k0, k1, k2, k3, k4, k5, k6, k7, k8, k9, k10⟩ := h.cells
  have kf := h.cf
  have hplt := blk_lt h.hp
  have hne := h.pm_ne
  have hpn : g.pending.length ≤ 64 := by have := hk.pm; have := hk.m1; omega
  have HR3 := Lib.hid (((((GRun.start h).setEpoch e).setPh .wait).setBase g.hav))
  have hir := fun w' (h' : InAt w' m.pi m.pm g.cum g.held 148) => ireset_ok m.pi m.pm g.cum g.held w' h' hne
  obtain ⟨N, hN⟩ : ∃ N, g.pending.length = N := ⟨_, rfl⟩
  have HN := Lib.hid hN
  rw [hN] at hpn
  have H0 := Lib.hid h
  clear h hk he hN
  go_enter Tryz.func57, Tryz.ntmps57
  go_wp2_with (first
    | (go_at_call 87; refine (hir _ HR3.out.at_.hi).mono ?_; rintro e1 w4 ⟨rfl, hm4, hI4⟩; have HR4 := Lib.hid (HR3.out.inbox hm4 hI4); clear hm4 hI4; have u0 := HR4.out.at_.c0)
    | (go_at_call 88; refine (oreset_any m.po _ _ _ _ _ _ _ _ _ HR4.out.at_.ho).mono ?_; rintro e1 w5 ⟨rfl, hm5, hO5⟩; have HR5 := Lib.hid (HR4.out.outbox (hm5.mono (fun b _ h => .inl h)) ⟨hO5.1, Own.nil _ _ _ _⟩); clear hm5 hO5; have v9 := HR5.out.at_.c9; dsimp only at v9; rw [HN.out] at v9))
  have HP5 := Lib.hid (show samePl m { m with lA := none, lc := 0 } from ⟨rfl, rfl, rfl⟩)
  go_loopw [45] (fun s45 wr => ∃ (k : Nat) (m' : ClM) (col' : Nat → Nat), k ≤ N ∧ s45 = .int .i64 k ∧ Hid (GRun w col wr p m' { g with epoch := e, ph := .wait, base := g.hav, cum := 0, held := [], acked := 0, sent := 0, left := g.pending.take k } col' t) ∧ Hid (samePl m m')) (fun s45 _ => N - (intOf s45).toNat)
  case atStart => exact ⟨0, _, _, Nat.zero_le _, rfl, by rw [List.take_zero]; exact HR5, HP5⟩
  case round =>
    obtain ⟨k, m', col', hk, rfl, HR, HP⟩ := hrel
    clear HR5 HR4 HR3 v9 u0 k0 k1 k2 k3 k4 k5 k6 k7 k8 k9 k10 kf HP5
    have j0 : (0 : Int) ≤ (k : Int) := by omega
    by_cases hlt : k < N
    · obtain ⟨e1, e2, e3⟩ := HP.out
      have hA := HR.out.at_
      have hrd := hA.he.rd
      rw [e2, e3] at hrd
      simp only [HN.out] at hrd
      obtain ⟨b0, o0, x, hx, hAe, x1, x2, x3, x4, x5, x6⟩ := hrd.edit hlt
      obtain ⟨xt, ⟨y1, y2, y3, y4, y5⟩⟩ := x
      dsimp only at x1 x2 x3 x4 x5 x6
      have hz := hA.hz
      have hco := hA.co
      have k0 := hA.c0
      have hpl := blk_lt hA.hp
      have HTK := Lib.hid (take_map id g.pending k _ hx)
      have hlen : (g.pending.take k).length = k := by rw [List.length_take, HN.out]; omega
      have hps := fun w' (hm : Mod No wr w') => outPush_ok m'.po 8 0 0 m'.lA k m'.lc (g.pending.take k) (fun b => col' b = t + 2) ⟨xt, ⟨y1, y2, y3, y4, y5⟩⟩ w' (by have := (hA.keep0 hm).ho; rw [hlen] at this; exact this) (by rw [hco]; omega) (by decide) (by omega)
      simp only [Edit.v] at hps
      obtain ⟨A0, hA0⟩ : ∃ A0, m.pA = A0 := ⟨_, rfl⟩
      rw [hA0] at hAe ⊢
      subst hAe
      clear hA0 hx hA hrd hlen
      go_upto_region 9 with (fail)
      refine wp_region_text (by kernel_rfl) (by kernel_rfl) (by kernel_rfl) (by kernel_rfl) ?_
      have hX := blk_new wr (.cells #[.int .i64 xt, .int .i64 y1, .int .i64 y2, .int .u8 y3, .int .i64 y4, .int .i64 y5] 60) rfl
      have hQX := blk_at hX
      rw [e1] at hps k0
      go_wp2_with (go_at_call 71; refine (hps _ (((Mod.refl No wr).alloc (.cells #[.int .i64 xt, .int .i64 y1, .int .i64 y2, .int .u8 y3, .int .i64 y4, .int .i64 y5] 60)).drew)).mono ?_; rintro en w6 ⟨rfl, A6, c6, hO6, hm6⟩)
      refine ⟨rfl, by kernel_rfl, ?_⟩
      go_wp2
      go_roundw
      case rel =>
        have HR1 := (HR.out.alloc (.cells #[.int .i64 xt, .int .i64 y1, .int .i64 y2, .int .u8 y3, .int .i64 y4, .int .i64 y5] 60)).drew
        have hzz : ∀ b, col' b = t + 2 → b < wr.heap.size := fun b hb => by
          rcases Nat.lt_or_ge b wr.heap.size with h | h
          · exact h
          · have := hz b h; omega
        have HR2 := HR1.outbox (hm6.mono (fun b _ h => by rw [e1]; exact h)) ⟨by rw [e1]; exact hO6.1, hO6.2.mono (fun b hb h => by
          rcases h with h | h
          · exact .inl ⟨by have := hzz b h; simp; omega, h⟩
          · exact .inr h)⟩
        have e9 : g.pending.take k ++ [⟨xt, ⟨y1, y2, y3, y4, y5⟩⟩] = g.pending.take (k + 1) := by simpa using HTK.out
        rw [e9] at HR2
        exact ⟨k + 1, _, _, by omega, by go_num, Lib.hid HR2, Lib.hid ⟨e1, e2, e3⟩⟩
      case measure => simp [intOf]; omega
    · obtain rfl : k = N := by omega
      go_wp2
      go_end0
      have hall : g.pending.take k = g.pending := List.take_of_length_le (by rw [HN.out]; exact Nat.le_refl _)
      rw [hall] at HR
      exact ⟨rfl, m', col', HR.out⟩
end Go.Proofs.YtjojhfphlnfimaaGreatDoor.J
