/- A client is told a message of the server's: told, general. -/
import Derived.Test.YtjojhfphlnfimaaGreatDoorGw
import Derived.Test.YtjojhfphlnfimaaGreatDoorJoin2
namespace Go.Proofs.YtjojhfphlnfimaaGreatDoor.J
open Go Go.RowKit
set_option linter.unusedSimpArgs false
set_option linter.unusedVariables false

/-- The world that the law began in: its tables; all that it has made since is new. -/
structure Base (w0 w : World) (col : Nat → Nat) : Prop where
  tabs : Tabs w0
  ot : OtT w0
  md : Mod No w0 w
  old : ∀ b, b < w0.heap.size → col b = 0
theorem Base.tab {w0 w : World} {col : Nat → Nat} (h : Base w0 w col) : Tabs w := h.tabs.mod0 h.md
theorem Base.otT {w0 w : World} {col : Nat → Nat} (h : Base w0 w col) : OtT w := h.ot.mod h.md (fun h => h)
theorem Base.gl {w0 w : World} {col : Nat → Nat} (h : Base w0 w col) : col 4 = 0 := h.old _ (World.block_lt_of_cell? w0 _ (h.ot 0 0 (by decide) (by decide)))
theorem Base.mod0 {w0 w w' : World} {col : Nat → Nat} (h : Base w0 w col) (hm : Mod No w w') : Base w0 w' col := ⟨h.tabs, h.ot, h.md.then0 hm, h.old⟩
theorem Base.run {w0 w w' : World} {col col' : Nat → Nat} {p : Nat} {m : ClM} {g : Gc} {t : Nat} (h : Base w0 w col) (hr : GRun w col w' p m g col' t) : Base w0 w' col' :=
  ⟨h.tabs, h.ot, h.md.trans hr.md (fun b hb hc => by have := h.old b hb; have := hr.at_.t1; omega), fun b hb => by rw [hr.cl b (Nat.lt_of_lt_of_le hb h.md.size)]; exact h.old b hb⟩

theorem good_num {m : Msg} (hg : goodE m) : 0 ≤ m.num ∧ m.num ≤ 4096 ∧ 0 ≤ m.ack ∧ (m.kind = 5 → 1 ≤ m.num ∧ m.rev ≤ 4096 ∧ validE m.op = 0) := by
  have h5 := hg 5 (by decide) (by decide)
  have h6 := hg 6 (by decide) (by decide)
  have h7 := hg 7 (by decide) (by decide)
  have h9 := hg 9 (by decide) (by decide)
  have h10 := hg 10 (by decide) (by decide)
  have h11 := hg 11 (by decide) (by decide)
  have h12 := hg 12 (by decide) (by decide)
  have h13 := hg 13 (by decide) (by decide)
  have e5 : 0 ≤ m.num ∧ m.num ≤ 4096 := by
    by_cases h : 5 ∈ namedE m.kind
    · have := h5.1 h; simp [holdsE, fromE, toE, Msg.get] at this; omega
    · have := h5.2 h; simp [Msg.get] at this; omega
  have e6 : 0 ≤ m.ack := by
    by_cases h : 6 ∈ namedE m.kind
    · have := h6.1 h; simp [holdsE, fromE, toE, Msg.get] at this; omega
    · have := h6.2 h; simp [Msg.get] at this; omega
  refine ⟨e5.1, e5.2, e6, fun hk => ?_⟩
  rw [hk] at h5 h7 h9 h10 h11 h12 h13
  have f5 := h5.1 (by decide)
  have f7 := h7.1 (by decide)
  have f9 := h9.1 (by decide)
  have f10 := h10.1 (by decide)
  have f11 := h11.1 (by decide)
  have f12 := h12.1 (by decide)
  have f13 := h13.1 (by decide)
  simp [holdsE, fromE, toE, Msg.get, hk] at f5 f7 f9 f10 f11 f12 f13
  refine ⟨f5.1, f7.2, ?_⟩
  unfold validE
  rw [if_neg (by rw [inR_false]; omega), if_neg (by simp only [inR_false]; omega), if_neg ?_, if_neg ?_, if_neg ?_]
  · rw [inR_false]; split at f10 <;> split <;> omega
  · rintro ⟨h1, h2⟩
    rw [if_neg h1] at f11
    rw [if_neg h1] at f11
    omega
  · rintro ⟨h1, h2⟩
    rw [inR_false] at h2
    rw [if_pos h1] at f11
    rw [if_pos h1] at f11
    omega

/-- What told answers and what becomes of the client. -/
def ToldG (w : World) (p : Nat) (m : ClM) (g : Gc) (col : Nat → Nat) (t : Nat) (mg : Msg) (e : Ending) (w' : World) : Prop :=
  (refusedE g mg ≠ 0 ∧ e = .returned (.bool false) ∧ GRun w col w' p m g col t) ∨
  (refusedE g mg = 0 ∧ e = .returned (.bool true) ∧ ∃ m' col', GRun w col w' p m' (recvE g mg) col' t)

theorem told_any (mg : Msg) (hkk : mg.kind = 4 ∨ mg.kind = 5 ∨ mg.kind = 6) (hg : goodE mg) (p : Nat) (m : ClM) (g : Gc) (col : Nat → Nat) (t : Nat) (w0 w : World) (h : GcAt w p m g col t) (hk : g.Ok) (hB : Base w0 w col) :
    Calls Tryz.prog 10 #[.pointer (some ⟨p, 0, none⟩), mg.v] w (ToldG w p m g col t mg) := by
  have hz := h.hz
  have ht1 := h.t1
  obtain ⟨n0, n1, a0, n5⟩ := good_num hg
  refine (told_gen mg (by omega) (by omega) hg p w (fun v w5 w6 => (refusedE g mg ≠ 0 ∧ v ≠ .nilIface ∧ GRun w5 col w6 p m g col t) ∨ (refusedE g mg = 0 ∧ v = .nilIface ∧ ∃ m' col', GRun w5 col w6 p m' (recvE g mg) col' t)) ?_).mono ?_
  · intro w5 B n c hm5 hr5
    have h5 := h.keep0 hm5
    have hB5 := hB.mod0 hm5
    have hdc := decode_ok mg (by omega) hg B n c w5 hr5 hB5.tab.oc hB5.tab.ws hB5.tab.sh
    have hp : Calls Tryz.prog 32 #[.pointer (some ⟨p, 0, none⟩), .slice B n c] w5 (RecvPost w5 p m g col t mg) := by
      obtain ⟨K, ep, cl, hv, fi, nu, ac, re, ta, ⟨ok, op, oc, ol, os⟩⟩ := mg
      dsimp only at hkk n0 n1 a0 n5
      rcases hkk with rfl | rfl | rfl
      · exact recv_k4 p m g col t ep cl hv fi nu ac re ta ok op oc ol os _ w5 h5 hk hB5.otT hB5.gl a0 n0 n1 hdc
      · obtain ⟨b1, b2, b3⟩ := n5 rfl
        exact recv_k5 p m g col t ep cl hv fi nu ac re ta ok op oc ol os _ w5 h5 hk hB5.otT hB5.gl a0 n0 n1 b1 b2 b3 hdc
      · exact recv_k6 p m g col t ep cl hv fi nu ac re ta ok op oc ol os _ w5 h5 hk hB5.otT hB5.gl a0 n0 n1 hdc
    have hmd : ∀ {w6 : World}, Mod (fun b => t ≤ col b ∧ col b ≤ t + 8) w5 w6 → Mod (fun b => b < w.heap.size) w5 w6 := fun hm => hm.mono (fun b _ hc => by
      rcases Nat.lt_or_ge b w.heap.size with h9 | h9
      · exact h9
      · have := hz b h9; omega)
    refine hp.mono ?_
    rintro e w6 (⟨hE, ⟨a, rfl⟩, hR⟩ | ⟨hE, rfl, m', col', hR⟩)
    · exact ⟨_, rfl, .inr ⟨a, rfl⟩, .inl ⟨hE, by simp, hR⟩, hmd hR.md⟩
    · exact ⟨_, rfl, .inl rfl, .inr ⟨hE, rfl, m', col', hR⟩, hmd hR.md⟩
  · rintro e w' ⟨v, bv, w5, w6, rb, rfl, hv, hRR, hm5, hm7, hr1, hr2⟩
    rcases hRR with ⟨hE, hvn, hR⟩ | ⟨hE, rfl, m', col', hR⟩
    · have hbv : bv = false := by rcases hv with ⟨h9, _⟩ | ⟨_, h9⟩; exact absurd h9 hvn; exact h9
      subst hbv
      exact .inl ⟨hE, rfl, (((GRun.start h).mod0 hm5).trans hR).junk (hm7.mono (fun b _ e => by subst e; exact ⟨hr1, hz _ hr1⟩))⟩
    · have hbv : bv = true := by rcases hv with ⟨_, h9⟩ | ⟨⟨a, h9⟩, _⟩; exact h9; cases h9
      subst hbv
      exact .inr ⟨hE, rfl, m', col', (((GRun.start h).mod0 hm5).trans hR).junk (hm7.mono (fun b _ e => by subst e; exact ⟨hr1, by rw [hR.cl _ hr2]; exact hz _ hr1⟩))⟩
end Go.Proofs.YtjojhfphlnfimaaGreatDoor.J
