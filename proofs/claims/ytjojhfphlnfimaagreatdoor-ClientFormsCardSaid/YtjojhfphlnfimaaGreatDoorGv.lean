/- A datagram that is a message comes to a client: Receive, general. -/
import Derived.Test.YtjojhfphlnfimaaGreatDoorGr
import Derived.Test.YtjojhfphlnfimaaGreatDoorGt
import Derived.Test.YtjojhfphlnfimaaGreatDoorGi
import Derived.Test.YtjojhfphlnfimaaGreatDoorRecv5
namespace Go.Proofs.YtjojhfphlnfimaaGreatDoor.J
open Go Go.RowKit
set_option linter.unusedSimpArgs false
set_option linter.unusedVariables false

theorem GRun.trans {w0 w1 w2 : World} {col0 col1 col2 : Nat → Nat} {p : Nat} {m1 m2 : ClM} {g1 g2 : Gc} {t : Nat} (h : GRun w0 col0 w1 p m1 g1 col1 t) (k : GRun w1 col1 w2 p m2 g2 col2 t) : GRun w0 col0 w2 p m2 g2 col2 t :=
  ⟨k.at_, h.md.trans k.md (fun b hb hc => by rw [h.cl b hb] at hc; exact hc), fun b hb => (k.cl b (Nat.lt_of_lt_of_le hb h.sizes)).trans (h.cl b hb)⟩
theorem GRun.other {w w' : World} {col col' : Nat → Nat} {p : Nat} {m : ClM} {g : Gc} {t b : Nat} {o : Obj} (h : GRun w col w' p m g col' t) (hb : w.heap[b]? = some o) (hc : col b = 0) : w'.heap[b]? = some o ∧ col' b = 0 := by
  have h1 := h.at_.t1
  exact ⟨h.md.heap hb (by omega), (h.cl b (blk_lt hb)).trans hc⟩

/-- All up to number a are acknowledged. -/
def Gc.ackE (g : Gc) (a : Int) : Gc := if g.acked < a then { g with acked := a, left := g.left.drop (a - g.acked).toNat } else g
/-- A record is held, if it is new. -/
def Gc.putE (g : Gc) (n : Int) (o : Op) : Gc := if (findH n g.held).isSome ∨ n ≤ g.cum then g else { g with held := g.held ++ [(n, o)] }.takeIn (g.held.length + 1)
/-- What a message that is not dropped comes to. -/
def recvE (g : Gc) (m : Msg) : Gc :=
  if m.kind = 4 then g.invited m.epoch
  else if m.kind = 6 then ({ g with ph := .join } : Gc).ackE m.ack
  else (({ g with ph := .join } : Gc).ackE m.ack).putE m.num m.op

theorem Gc.Ok.join {g : Gc} (hk : g.Ok) (q : Ph) : ({ g with ph := q } : Gc).Ok := { hk with }
theorem Gc.Ok.ack {g : Gc} (hk : g.Ok) {a : Int} (h1 : a ≤ g.sent) : (g.ackE a).Ok := by
  have := hk.a0
  have := hk.a1
  have := hk.sl
  unfold Gc.ackE
  split
  · exact { hk with
      lf := fun e he => hk.lf e (List.mem_of_mem_drop he)
      a0 := by simp only; omega
      a1 := by simp only [List.length_drop]; omega
      ak := h1
      sl := by simp only [List.length_drop]; omega }
  · exact hk
theorem ackE_same (g : Gc) (a : Int) : (g.ackE a).cum = g.cum ∧ (g.ackE a).held = g.held ∧ (g.ackE a).base = g.base := by
  unfold Gc.ackE; split <;> exact ⟨rfl, rfl, rfl⟩
theorem Gc.Ok.held {g : Gc} (hk : g.Ok) {n : Int} {o : Op} (hn : findH n g.held = none) (hc : g.cum < n) (hb : g.base + n ≤ 4096) (hv : validE o = 0) : ({ g with held := g.held ++ [(n, o)] } : Gc).Ok :=
  { hk with
    hd := distH_push hk.hd hn
    hq := fun k q h => by
      simp only at h
      rw [findH_append] at h
      split at h
      · exact hk.hq k q h
      · split at h
        · rename_i e; cases h; subst e; exact ⟨hc, hb, hv⟩
        · cases h }

set_option maxRecDepth 100000 in
theorem ackG (p : Nat) (m : ClM) (g : Gc) (col : Nat → Nat) (t : Nat) (a : Int) (w : World) (h : GcAt w p m g col t) (hk : g.Ok) (h0 : 0 ≤ a) (h1 : a ≤ g.sent) :
    Calls Tryz.prog 58 #[.pointer (some ⟨m.po, 0, none⟩), .int .i64 a] w fun e w' => e = .returned (.int .i64 0) ∧ ∃ m' col', GRun w col w' p m' (g.ackE a) col' t := by
  have e0 := hk.a0
  have e1 := hk.a1
  have e2 := hk.m1
  have e3 := hk.sl
  have hco := h.co
  unfold Gc.ackE
  by_cases hlt : g.acked < a
  · rw [if_pos hlt]
    obtain ⟨j, hj⟩ : ∃ j : Nat, a = g.acked + j := ⟨(a - g.acked).toNat, by omega⟩
    subst hj
    refine (ack_new m.po 8 g.acked g.sent j m.lA g.left.length m.lc g.left (fun b => col b = t + 2) w h.ho (by omega) h1 (by omega) (by omega) (by omega) (by omega)).mono ?_
    rintro e w' ⟨he, A', c', ho, hm⟩
    have := (GRun.start h).outbox (hm.mono (fun b _ h => .inl h)) ⟨ho.1, ho.2.mono (fun b _ h => .inr h)⟩
    rw [show (g.acked + (j : Int) - g.acked).toNat = j by omega]
    exact ⟨he, _, _, this⟩
  · rw [if_neg hlt]
    refine (ack_old m.po 8 g.acked g.sent a m.lA g.left.length m.lc g.left (fun b => col b = t + 2) w h.ho h0 h1 (by omega)).mono ?_
    rintro e w' ⟨he, rfl⟩
    exact ⟨he, m, col, GRun.start h⟩

/-- What Receive answers and what becomes of the client. -/
def RecvPost (w : World) (p : Nat) (m : ClM) (g : Gc) (col : Nat → Nat) (t : Nat) (mg : Msg) (e : Ending) (w' : World) : Prop :=
  (refusedE g mg ≠ 0 ∧ (∃ a, e = .returned (.iface 157 (.pointer (some a)))) ∧ GRun w col w' p m g col t) ∨
  (refusedE g mg = 0 ∧ e = .returned .nilIface ∧ ∃ m' col', GRun w col w' p m' (recvE g mg) col' t)

set_option maxRecDepth 100000 in
set_option maxHeartbeats 2000000 in
theorem recv_k4 (p : Nat) (m : ClM) (g : Gc) (col : Nat → Nat) (t : Nat) (ep cl hv fi nu ac re ta ok op oc ol os : Int) (bs : Value) (w : World) (h : GcAt w p m g col t) (hk : g.Ok) (hT : OtT w) (hG : col 4 = 0)
    (ha0 : 0 ≤ ac) (hn0 : 0 ≤ nu) (hn1 : nu ≤ 4096)
    (hdc : Calls Tryz.prog 25 #[bs] w fun e w' => e = .returned (.tuple #[.agg #[.int .i64 4, .int .i64 ep, .int .i64 cl, .int .i64 hv, .int .i64 fi, .int .i64 nu, .int .i64 ac, .int .i64 re, .int .i64 ta, .int .i64 ok, .int .i64 op, .int .u8 oc, .int .i64 ol, .int .i64 os], .nilIface]) ∧ Mod No w w') :
    Calls Tryz.prog 32 #[.pointer (some ⟨p, 0, none⟩), bs] w (RecvPost w p m g col t ⟨4, ep, cl, hv, fi, nu, ac, re, ta, ⟨ok, op, oc, ol, os⟩⟩) := by
  have hrf := fun w' (h' : GcAt w' p m g col t) hT' => refused_k4 p m g col t ep cl hv fi nu ac re ta ok op oc ol os w' h' hk hn0 hn1 (.inr trivial) hT'
  obtain ⟨E, hE⟩ : ∃ E, refusedE g ⟨4, ep, cl, hv, fi, nu, ac, re, ta, ⟨ok, op, oc, ol, os⟩⟩ = E := ⟨_, rfl⟩
  rw [hE] at hrf
  have HR0 := Lib.hid (GRun.start h)
  have HK := Lib.hid hk
  have HT := Lib.hid hT
  have HG := Lib.hid hG
  have HN := Lib.hid (h.colsNo hG)
  have hz := h.hz
  have HE := Lib.hid hE
  clear hk hT hG hE h
  by_cases hE0 : E = 0
  · subst hE0
    by_cases hep : ep = g.epoch
    · subst hep
      have hiv := fun w' (h' : GcAt w' p m g col t) => invited_same p m g col t w' h'
      go_enter Tryz.func32, Tryz.ntmps32
      go_wp2_with (first
        | (go_at_call 25; refine hdc.mono ?_; rintro e w1 ⟨rfl, hm1⟩; have hX2 := blk_new w1 (.cells #[.int .i64 4, .int .i64 g.epoch, .int .i64 cl, .int .i64 hv, .int .i64 fi, .int .i64 nu, .int .i64 ac, .int .i64 re, .int .i64 ta, .int .i64 ok, .int .i64 op, .int .u8 oc, .int .i64 ol, .int .i64 os] 34) rfl; have hQX2 := blk_at hX2; have HR2 := Lib.hid (HR0.out.mod0 (hm1.alloc (.cells #[.int .i64 4, .int .i64 g.epoch, .int .i64 cl, .int .i64 hv, .int .i64 fi, .int .i64 nu, .int .i64 ac, .int .i64 re, .int .i64 ta, .int .i64 ok, .int .i64 op, .int .u8 oc, .int .i64 ol, .int .i64 os] 34)))) | (go_at_call 56; refine (hrf _ HR2.out.at_ (HT.out.mod HR2.out.md HN.out)).mono ?_; rintro e w3 ⟨rfl, hm3⟩; have HR3 := Lib.hid (HR2.out.mod0 hm3); have hX3 := hm3.heap hX2 (fun h => h); have hQX3 := blk_at hX3; have c2 := HR3.out.at_.c2; have cf := HR3.out.at_.cf)
        | (go_at_call 57; refine (hiv _ HR3.out.at_).mono ?_; rintro e w4 ⟨rfl, rfl⟩))
      go_ret
      have hgE : recvE g ⟨4, g.epoch, cl, hv, fi, nu, ac, re, ta, ⟨ok, op, oc, ol, os⟩⟩ = g := by simp [recvE, Gc.invited]
      exact .inr ⟨HE.out, rfl, m, col, by rw [hgE]; exact HR3.out⟩
    · have hiv := fun w' (h' : GcAt w' p m g col t) => invited_new p m g col t ep w' h' HK.out hep
      have HEP := Lib.hid hep
      clear hep
      go_enter Tryz.func32, Tryz.ntmps32
      go_wp2_with (first
        | (go_at_call 25; refine hdc.mono ?_; rintro e w1 ⟨rfl, hm1⟩; have hX2 := blk_new w1 (.cells #[.int .i64 4, .int .i64 ep, .int .i64 cl, .int .i64 hv, .int .i64 fi, .int .i64 nu, .int .i64 ac, .int .i64 re, .int .i64 ta, .int .i64 ok, .int .i64 op, .int .u8 oc, .int .i64 ol, .int .i64 os] 34) rfl; have hQX2 := blk_at hX2; have HR2 := Lib.hid (HR0.out.mod0 (hm1.alloc (.cells #[.int .i64 4, .int .i64 ep, .int .i64 cl, .int .i64 hv, .int .i64 fi, .int .i64 nu, .int .i64 ac, .int .i64 re, .int .i64 ta, .int .i64 ok, .int .i64 op, .int .u8 oc, .int .i64 ol, .int .i64 os] 34)))) | (go_at_call 56; refine (hrf _ HR2.out.at_ (HT.out.mod HR2.out.md HN.out)).mono ?_; rintro e w3 ⟨rfl, hm3⟩; have HR3 := Lib.hid (HR2.out.mod0 hm3); have hX3 := hm3.heap hX2 (fun h => h); have hQX3 := blk_at hX3; have c2 := HR3.out.at_.c2; have cf := HR3.out.at_.cf)
        | (go_at_call 57; refine (hiv _ HR3.out.at_).mono ?_; rintro e w4 ⟨rfl, m4, col4, hR4⟩; have HR4 := Lib.hid (HR3.out.trans hR4)))
      go_ret
      have hgE : recvE g ⟨4, ep, cl, hv, fi, nu, ac, re, ta, ⟨ok, op, oc, ol, os⟩⟩ = g.invited ep := by simp [recvE]
      exact .inr ⟨HE.out, rfl, m4, col4, by rw [hgE]; exact HR4.out⟩
  · have hEb : (E != 0) = true := bne_iff_ne.2 hE0
    have HE0 := Lib.hid hE0
    clear hE0
    go_enter Tryz.func32, Tryz.ntmps32
    go_wp2_with (first
    | (go_at_call 25; refine hdc.mono ?_; rintro e w1 ⟨rfl, hm1⟩; have hX2 := blk_new w1 (.cells #[.int .i64 4, .int .i64 ep, .int .i64 cl, .int .i64 hv, .int .i64 fi, .int .i64 nu, .int .i64 ac, .int .i64 re, .int .i64 ta, .int .i64 ok, .int .i64 op, .int .u8 oc, .int .i64 ol, .int .i64 os] 34) rfl; have hQX2 := blk_at hX2; have HR2 := Lib.hid (HR0.out.mod0 (hm1.alloc (.cells #[.int .i64 4, .int .i64 ep, .int .i64 cl, .int .i64 hv, .int .i64 fi, .int .i64 nu, .int .i64 ac, .int .i64 re, .int .i64 ta, .int .i64 ok, .int .i64 op, .int .u8 oc, .int .i64 ol, .int .i64 os] 34)))) | (go_at_call 56; refine (hrf _ HR2.out.at_ (HT.out.mod HR2.out.md HN.out)).mono ?_; rintro e w3 ⟨rfl, hm3⟩; have HR3 := Lib.hid (HR2.out.mod0 hm3); have hX3 := hm3.heap hX2 (fun h => h); have hQX3 := blk_at hX3; have c2 := HR3.out.at_.c2; have cf := HR3.out.at_.cf)
    | (go_at_call 46; refine (wrap_ok _ _ _).mono ?_; rintro e w4 ⟨⟨a4, rfl⟩, hm4⟩))
    go_ret
    exact .inl ⟨by rw [HE.out]; exact HE0.out, ⟨a4, rfl⟩, HR3.out.mod0 hm4⟩

theorem ref6_ack {g : Gc} {ep cl hv fi nu ac re ta ok op oc ol os : Int} (h : refusedE g ⟨6, ep, cl, hv, fi, nu, ac, re, ta, ⟨ok, op, oc, ol, os⟩⟩ = 0) : ac ≤ g.sent ∧ True := by
  refine ⟨?_, trivial⟩
  unfold refusedE at h
  simp only at h
  (repeat' split at h) <;> first | omega | (simp at h)
theorem ref5_ack {g : Gc} {ep cl hv fi nu ac re ta ok op oc ol os : Int} (h : refusedE g ⟨5, ep, cl, hv, fi, nu, ac, re, ta, ⟨ok, op, oc, ol, os⟩⟩ = 0) : ac ≤ g.sent ∧ re = g.base + nu ∧ nu ≤ g.cum + 8 := by
  unfold refusedE at h
  simp only at h
  (repeat' split at h) <;> first | omega | (simp at h; omega) | (simp at h)

set_option maxRecDepth 100000 in
set_option maxHeartbeats 2000000 in
theorem recv_k6 (p : Nat) (m : ClM) (g : Gc) (col : Nat → Nat) (t : Nat) (ep cl hv fi nu ac re ta ok op oc ol os : Int) (bs : Value) (w : World) (h : GcAt w p m g col t) (hk : g.Ok) (hT : OtT w) (hG : col 4 = 0)
    (ha0 : 0 ≤ ac) (hn0 : 0 ≤ nu) (hn1 : nu ≤ 4096)
    (hdc : Calls Tryz.prog 25 #[bs] w fun e w' => e = .returned (.tuple #[.agg #[.int .i64 6, .int .i64 ep, .int .i64 cl, .int .i64 hv, .int .i64 fi, .int .i64 nu, .int .i64 ac, .int .i64 re, .int .i64 ta, .int .i64 ok, .int .i64 op, .int .u8 oc, .int .i64 ol, .int .i64 os], .nilIface]) ∧ Mod No w w') :
    Calls Tryz.prog 32 #[.pointer (some ⟨p, 0, none⟩), bs] w (RecvPost w p m g col t ⟨6, ep, cl, hv, fi, nu, ac, re, ta, ⟨ok, op, oc, ol, os⟩⟩) := by
  have hrf := fun w' (h' : GcAt w' p m g col t) hT' => refused_k6 p m g col t ep cl hv fi nu ac re ta ok op oc ol os w' h' hk hn0 hn1 (.inr trivial) hT'
  obtain ⟨E, hE⟩ : ∃ E, refusedE g ⟨6, ep, cl, hv, fi, nu, ac, re, ta, ⟨ok, op, oc, ol, os⟩⟩ = E := ⟨_, rfl⟩
  rw [hE] at hrf
  have HR0 := Lib.hid (GRun.start h)
  have HK := Lib.hid hk
  have HT := Lib.hid hT
  have HG := Lib.hid hG
  have HN := Lib.hid (h.colsNo hG)
  have hz := h.hz
  have HE := Lib.hid hE
  clear hk hT hG hE h
  have HX0 := Lib.hid (@ref6_ack g ep cl hv fi nu ac re ta ok op oc ol os)
  by_cases hE0 : E = 0
  · subst hE0
    obtain ⟨hac, hlst⟩ := HX0.out HE.out
    have HLST := Lib.hid hlst
    clear hlst
    have hjk := HK.out.join .join
    go_enter Tryz.func32, Tryz.ntmps32
    go_upto_region 12 with (first
        | (go_at_call 25; refine hdc.mono ?_; rintro e w1 ⟨rfl, hm1⟩; have hX2 := blk_new w1 (.cells #[.int .i64 6, .int .i64 ep, .int .i64 cl, .int .i64 hv, .int .i64 fi, .int .i64 nu, .int .i64 ac, .int .i64 re, .int .i64 ta, .int .i64 ok, .int .i64 op, .int .u8 oc, .int .i64 ol, .int .i64 os] 34) rfl; have hQX2 := blk_at hX2; have HR2 := Lib.hid (HR0.out.mod0 (hm1.alloc (.cells #[.int .i64 6, .int .i64 ep, .int .i64 cl, .int .i64 hv, .int .i64 fi, .int .i64 nu, .int .i64 ac, .int .i64 re, .int .i64 ta, .int .i64 ok, .int .i64 op, .int .u8 oc, .int .i64 ol, .int .i64 os] 34)))) | (go_at_call 56; refine (hrf _ HR2.out.at_ (HT.out.mod HR2.out.md HN.out)).mono ?_; rintro e w3 ⟨rfl, hm3⟩; have HR3 := Lib.hid (HR2.out.mod0 hm3); have hX3 := hm3.heap hX2 (fun h => h); have hQX3 := blk_at hX3; have c2 := HR3.out.at_.c2; have cf := HR3.out.at_.cf))
    have hwl : w.heap.size ≤ w1.heap.size := hm1.size
    have HR4 : GRun w col (w3.setCell ⟨p, 2, none⟩ (.iface 136 (.agg #[]))) p m { g with ph := .join } col t := HR3.out.setPh .join
    refine cut_worldO (F := fun w5 => Hid (GRun w col w5 p m { g with ph := .join } col t) ∧ w5.heap[w1.heap.size]? = some (.cells #[.int .i64 6, .int .i64 ep, .int .i64 cl, .int .i64 hv, .int .i64 fi, .int .i64 nu, .int .i64 ac, .int .i64 re, .int .i64 ta, .int .i64 ok, .int .i64 op, .int .u8 oc, .int .i64 ol, .int .i64 os] 34 (0, 0))) ⟨Lib.hid HR4, blk_set_other hX3 (by dsimp only; have := blk_lt HR0.out.at_.hp; omega) (.iface 136 (.agg #[]))⟩ ?_
    clear HR4 hX3 hQX3 HR3 hX2 hQX2 HR2 hm3 c2 cf hm1 hdc hrf
    rintro w5 ⟨HR5, hX5⟩
    have hz5 := hz _ hwl
    obtain ⟨d0, d1, d2, d3, d4, d5, d6, d7, d8, d9, d10⟩ := HR5.out.at_.cells
    have df := HR5.out.at_.cf
    have hQX5 := blk_at hX5
    have hlx5 := blk_lt hX5
    refine wp_region_text (by kernel_rfl) (by kernel_rfl) (by kernel_rfl) (by kernel_rfl) ?_
    go_wp2_with (go_at_call 58; refine (ackG p m _ col t ac w5.drew HR5.out.drew.at_ hjk ha0 hac).mono ?_; rintro e w6 ⟨rfl, m6, col6, hR6⟩; have HR6 := Lib.hid (HR5.out.drew.trans hR6); have hX6 := hR6.other (b := w1.heap.size) hX5 hz5; clear hR6)
    refine ⟨rfl, by kernel_rfl, ?_⟩
    go_wp2
    go_ret
    have hgE : recvE g ⟨6, ep, cl, hv, fi, nu, ac, re, ta, ⟨ok, op, oc, ol, os⟩⟩ = ({ g with ph := .join } : Gc).ackE ac := by simp [recvE]
    exact .inr ⟨HE.out, rfl, m6, col6, by rw [hgE]; exact HR6.out⟩
  · have hEb : (E != 0) = true := bne_iff_ne.2 hE0
    have HE0 := Lib.hid hE0
    clear hE0
    go_enter Tryz.func32, Tryz.ntmps32
    go_wp2_with (first
    | (go_at_call 25; refine hdc.mono ?_; rintro e w1 ⟨rfl, hm1⟩; have hX2 := blk_new w1 (.cells #[.int .i64 6, .int .i64 ep, .int .i64 cl, .int .i64 hv, .int .i64 fi, .int .i64 nu, .int .i64 ac, .int .i64 re, .int .i64 ta, .int .i64 ok, .int .i64 op, .int .u8 oc, .int .i64 ol, .int .i64 os] 34) rfl; have hQX2 := blk_at hX2; have HR2 := Lib.hid (HR0.out.mod0 (hm1.alloc (.cells #[.int .i64 6, .int .i64 ep, .int .i64 cl, .int .i64 hv, .int .i64 fi, .int .i64 nu, .int .i64 ac, .int .i64 re, .int .i64 ta, .int .i64 ok, .int .i64 op, .int .u8 oc, .int .i64 ol, .int .i64 os] 34)))) | (go_at_call 56; refine (hrf _ HR2.out.at_ (HT.out.mod HR2.out.md HN.out)).mono ?_; rintro e w3 ⟨rfl, hm3⟩; have HR3 := Lib.hid (HR2.out.mod0 hm3); have hX3 := hm3.heap hX2 (fun h => h); have hQX3 := blk_at hX3; have c2 := HR3.out.at_.c2; have cf := HR3.out.at_.cf)
    | (go_at_call 46; refine (wrap_ok _ _ _).mono ?_; rintro e w4 ⟨⟨a4, rfl⟩, hm4⟩))
    go_ret
    exact .inl ⟨by rw [HE.out]; exact HE0.out, ⟨a4, rfl⟩, HR3.out.mod0 hm4⟩

set_option maxRecDepth 100000 in
set_option maxHeartbeats 2000000 in
theorem recv_k5 (p : Nat) (m : ClM) (g : Gc) (col : Nat → Nat) (t : Nat) (ep cl hv fi nu ac re ta ok op oc ol os : Int) (bs : Value) (w : World) (h : GcAt w p m g col t) (hk : g.Ok) (hT : OtT w) (hG : col 4 = 0)
    (ha0 : 0 ≤ ac) (hn0 : 0 ≤ nu) (hn1 : nu ≤ 4096) (hn2 : 1 ≤ nu) (hr1 : re ≤ 4096) (hvl : validE ⟨ok, op, oc, ol, os⟩ = 0)
    (hdc : Calls Tryz.prog 25 #[bs] w fun e w' => e = .returned (.tuple #[.agg #[.int .i64 5, .int .i64 ep, .int .i64 cl, .int .i64 hv, .int .i64 fi, .int .i64 nu, .int .i64 ac, .int .i64 re, .int .i64 ta, .int .i64 ok, .int .i64 op, .int .u8 oc, .int .i64 ol, .int .i64 os], .nilIface]) ∧ Mod No w w') :
    Calls Tryz.prog 32 #[.pointer (some ⟨p, 0, none⟩), bs] w (RecvPost w p m g col t ⟨5, ep, cl, hv, fi, nu, ac, re, ta, ⟨ok, op, oc, ol, os⟩⟩) := by
  have hrf := fun w' (h' : GcAt w' p m g col t) hT' => refused_k5 p m g col t ep cl hv fi nu ac re ta ok op oc ol os w' h' hk hn0 hn1 (.inl hvl) hT'
  obtain ⟨E, hE⟩ : ∃ E, refusedE g ⟨5, ep, cl, hv, fi, nu, ac, re, ta, ⟨ok, op, oc, ol, os⟩⟩ = E := ⟨_, rfl⟩
  rw [hE] at hrf
  have HR0 := Lib.hid (GRun.start h)
  have HK := Lib.hid hk
  have HT := Lib.hid hT
  have HG := Lib.hid hG
  have HN := Lib.hid (h.colsNo hG)
  have hz := h.hz
  have HE := Lib.hid hE
  clear hk hT hG hE h
  have HVL := Lib.hid hvl
  clear hvl
  have HX0 := Lib.hid (@ref5_ack g ep cl hv fi nu ac re ta ok op oc ol os)
  by_cases hE0 : E = 0
  · subst hE0
    obtain ⟨hac, hlst⟩ := HX0.out HE.out
    have HLST := Lib.hid hlst
    clear hlst
    have hjk := HK.out.join .join
    go_enter Tryz.func32, Tryz.ntmps32
    go_upto_region 15 with (first
        | (go_at_call 25; refine hdc.mono ?_; rintro e w1 ⟨rfl, hm1⟩; have hX2 := blk_new w1 (.cells #[.int .i64 5, .int .i64 ep, .int .i64 cl, .int .i64 hv, .int .i64 fi, .int .i64 nu, .int .i64 ac, .int .i64 re, .int .i64 ta, .int .i64 ok, .int .i64 op, .int .u8 oc, .int .i64 ol, .int .i64 os] 34) rfl; have hQX2 := blk_at hX2; have HR2 := Lib.hid (HR0.out.mod0 (hm1.alloc (.cells #[.int .i64 5, .int .i64 ep, .int .i64 cl, .int .i64 hv, .int .i64 fi, .int .i64 nu, .int .i64 ac, .int .i64 re, .int .i64 ta, .int .i64 ok, .int .i64 op, .int .u8 oc, .int .i64 ol, .int .i64 os] 34)))) | (go_at_call 56; refine (hrf _ HR2.out.at_ (HT.out.mod HR2.out.md HN.out)).mono ?_; rintro e w3 ⟨rfl, hm3⟩; have HR3 := Lib.hid (HR2.out.mod0 hm3); have hX3 := hm3.heap hX2 (fun h => h); have hQX3 := blk_at hX3; have c2 := HR3.out.at_.c2; have cf := HR3.out.at_.cf))
    have hwl : w.heap.size ≤ w1.heap.size := hm1.size
    have HR4 : GRun w col (w3.setCell ⟨p, 2, none⟩ (.iface 136 (.agg #[]))) p m { g with ph := .join } col t := HR3.out.setPh .join
    refine cut_worldO (F := fun w5 => Hid (GRun w col w5 p m { g with ph := .join } col t) ∧ w5.heap[w1.heap.size]? = some (.cells #[.int .i64 5, .int .i64 ep, .int .i64 cl, .int .i64 hv, .int .i64 fi, .int .i64 nu, .int .i64 ac, .int .i64 re, .int .i64 ta, .int .i64 ok, .int .i64 op, .int .u8 oc, .int .i64 ol, .int .i64 os] 34 (0, 0))) ⟨Lib.hid HR4, blk_set_other hX3 (by dsimp only; have := blk_lt HR0.out.at_.hp; omega) (.iface 136 (.agg #[]))⟩ ?_
    clear HR4 hX3 hQX3 HR3 hX2 hQX2 HR2 hm3 c2 cf hm1 hdc hrf
    rintro w5 ⟨HR5, hX5⟩
    have hz5 := hz _ hwl
    obtain ⟨d0, d1, d2, d3, d4, d5, d6, d7, d8, d9, d10⟩ := HR5.out.at_.cells
    have df := HR5.out.at_.cf
    have hQX5 := blk_at hX5
    have hlx5 := blk_lt hX5
    refine wp_region_text (by kernel_rfl) (by kernel_rfl) (by kernel_rfl) (by kernel_rfl) ?_
    go_wp2_with (go_at_call 58; refine (ackG p m _ col t ac w5.drew HR5.out.drew.at_ hjk ha0 hac).mono ?_; rintro e w6 ⟨rfl, m6, col6, hR6⟩; have HR6 := Lib.hid (HR5.out.drew.trans hR6); have hX6 := hR6.other (b := w1.heap.size) hX5 hz5; clear hR6)
    refine ⟨rfl, by kernel_rfl, ?_⟩
    obtain ⟨f1, f2, f3⟩ := ackE_same ({ g with ph := .join } : Gc) ac
    have hk6 := hjk.ack hac
    obtain ⟨g6, hg6⟩ : ∃ g6, ({ g with ph := .join } : Gc).ackE ac = g6 := ⟨_, rfl⟩
    rw [hg6] at HR6 f1 f2 f3 hk6
    have hgE : recvE g ⟨5, ep, cl, hv, fi, nu, ac, re, ta, ⟨ok, op, oc, ol, os⟩⟩ = g6.putE nu ⟨ok, op, oc, ol, os⟩ := by rw [← hg6]; simp [recvE]
    have HGE := Lib.hid hgE
    obtain ⟨hrev, hfar⟩ := HLST.out
    have hb9 : g6.base + nu ≤ 4096 := by rw [f3]; dsimp only; omega
    have hc9 : nu ≤ g6.cum + 8 := by rw [f1]; exact hfar
    have hq0 := hk6.c0
    have hq1 : g6.cum ≤ 4096 := by have := hk6.hv; have := hk6.b0; have := hk6.hm; omega
    have HK6 := Lib.hid hk6
    have HG6 := Lib.hid (show col6 4 = 0 from (HR6.out.cl _ (by have := HT.out 0 0 (by decide) (by decide); exact World.block_lt_of_cell? w _ this)).trans HG.out)
    clear hg6 f1 f2 f3 hk6 hgE d0 d1 d2 d3 d4 d5 d6 d7 d8 d9 d10 df hX5 hQX5 HR5 hjk hrev hfar
    obtain ⟨d0, d1, d2, d3, d4, d5, d6, d7, d8, d9, d10⟩ := HR6.out.at_.cells
    have hQX6 := blk_at hX6.1
    go_upto_region 16 with (fail)
    by_cases hh : (findH nu g6.held).isSome = true ∨ nu ≤ g6.cum
    · have hpt := put_here m6.pi m6.pm g6.cum nu g6.held ⟨ok, op, oc, ol, os⟩ w6.drew HR6.out.drew.at_.hi (by omega) hn1 hq0 hq1 hh
      simp only [Op.v] at hpt
      have hpe : g6.putE nu ⟨ok, op, oc, ol, os⟩ = g6 := by unfold Gc.putE; rw [if_pos hh]
      have HPE := Lib.hid hpe
      clear hpe hh
      refine wp_region_text (by kernel_rfl) (by kernel_rfl) (by kernel_rfl) (by kernel_rfl) ?_
      go_wp2_with (go_at_call 59; refine hpt.mono ?_; rintro e w7 ⟨rfl, hm7⟩)
      refine ⟨rfl, by kernel_rfl, ?_⟩
      go_wp2
      go_ret
      exact .inr ⟨HE.out, rfl, m6, col6, by rw [HGE.out, HPE.out]; exact HR6.out.drew.mod0 hm7⟩
    · have hnn : findH nu g6.held = none := by
        cases hf : findH nu g6.held with
        | none => rfl
        | some x => exact absurd (.inl (by rw [hf]; rfl)) hh
      have hcl : g6.cum < nu := by
        rcases (show g6.cum < nu ∨ nu ≤ g6.cum by omega) with h9 | h9
        · exact h9
        · exact absurd (.inr h9) hh
      have hpt := put_new m6.pi m6.pm g6.cum nu g6.held ⟨ok, op, oc, ol, os⟩ w6.drew HR6.out.drew.at_.hi HR6.out.at_.pm_ne (by omega) hn1 hq0 hq1 hnn hcl hc9
      simp only [Op.v] at hpt
      have hpe : g6.putE nu ⟨ok, op, oc, ol, os⟩ = ({ g6 with held := g6.held ++ [(nu, ⟨ok, op, oc, ol, os⟩)] } : Gc).takeIn (g6.held ++ [(nu, (⟨ok, op, oc, ol, os⟩ : Op))]).length := by unfold Gc.putE; rw [if_neg hh, List.length_append]; rfl
      have HPE := Lib.hid hpe
      have HK7 := Lib.hid (HK6.out.held hnn hcl hb9 HVL.out)
      clear hpe hh hnn
      refine wp_region_text (by kernel_rfl) (by kernel_rfl) (by kernel_rfl) (by kernel_rfl) ?_
      go_wp2_with (go_at_call 59; refine hpt.mono ?_; rintro e w7 ⟨rfl, hm7, hI7⟩; have HR7 := Lib.hid (HR6.out.drew.inbox (hm7.mono (fun b _ h => .inr h)) hI7))
      refine ⟨rfl, by kernel_rfl, ?_⟩
      go_wp2_with (go_at_call 60; refine (takeIn_any p m6 _ col6 t w7 HR7.out.at_ HK7.out (HT.out.mod HR7.out.md HN.out) HG6.out).mono ?_; rintro e w8 ⟨rfl, m8, col8, hR8⟩; have HR8 := Lib.hid (HR7.out.trans hR8))
      go_ret
      exact .inr ⟨HE.out, rfl, m8, col8, by rw [HGE.out, HPE.out]; exact HR8.out⟩
  · have hEb : (E != 0) = true := bne_iff_ne.2 hE0
    have HE0 := Lib.hid hE0
    clear hE0
    go_enter Tryz.func32, Tryz.ntmps32
    go_wp2_with (first
    | (go_at_call 25; refine hdc.mono ?_; rintro e w1 ⟨rfl, hm1⟩; have hX2 := blk_new w1 (.cells #[.int .i64 5, .int .i64 ep, .int .i64 cl, .int .i64 hv, .int .i64 fi, .int .i64 nu, .int .i64 ac, .int .i64 re, .int .i64 ta, .int .i64 ok, .int .i64 op, .int .u8 oc, .int .i64 ol, .int .i64 os] 34) rfl; have hQX2 := blk_at hX2; have HR2 := Lib.hid (HR0.out.mod0 (hm1.alloc (.cells #[.int .i64 5, .int .i64 ep, .int .i64 cl, .int .i64 hv, .int .i64 fi, .int .i64 nu, .int .i64 ac, .int .i64 re, .int .i64 ta, .int .i64 ok, .int .i64 op, .int .u8 oc, .int .i64 ol, .int .i64 os] 34)))) | (go_at_call 56; refine (hrf _ HR2.out.at_ (HT.out.mod HR2.out.md HN.out)).mono ?_; rintro e w3 ⟨rfl, hm3⟩; have HR3 := Lib.hid (HR2.out.mod0 hm3); have hX3 := hm3.heap hX2 (fun h => h); have hQX3 := blk_at hX3; have c2 := HR3.out.at_.c2; have cf := HR3.out.at_.cf)
    | (go_at_call 46; refine (wrap_ok _ _ _).mono ?_; rintro e w4 ⟨⟨a4, rfl⟩, hm4⟩))
    go_ret
    exact .inl ⟨by rw [HE.out]; exact HE0.out, ⟨a4, rfl⟩, HR3.out.mod0 hm4⟩

end Go.Proofs.YtjojhfphlnfimaaGreatDoor.J
