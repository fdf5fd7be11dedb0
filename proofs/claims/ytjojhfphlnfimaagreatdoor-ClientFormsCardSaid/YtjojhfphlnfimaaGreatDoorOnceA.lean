/- A record is told. ClientOnce: what holds at each round. -/
import Derived.Test.YtjojhfphlnfimaaGreatDoorJoin2
namespace Go.Proofs.YtjojhfphlnfimaaGreatDoor.J
open Go Go.RowKit
set_option linter.unusedSimpArgs false
set_option linter.unusedVariables false

def recMsg (nn : Nat) (q : Op) : Msg := ⟨5, 1, 1, 0, 0, (nn : Int) + 1, 0, (nn : Int) + 1, 0, q⟩
theorem recMsg_good (L : List Op) (hL : recsOk L) (nn : Nat) (q : Op) (hq : L[nn]? = some q) : goodE (recMsg nn q) := by
  have hn : nn < L.length := (List.getElem?_eq_some_iff.1 hq).1
  have h64 := hL.1
  obtain ⟨_, hv, hc, hs, hk, hp1, hp2, _⟩ := hL.2 _ _ hq
  obtain ⟨_, _, _, _, _, _, hch, _, _, hp3, _⟩ := validE_zero hv
  obtain ⟨c1, c2⟩ := hch hk
  obtain ⟨q1, q2, q3, q4, q5⟩ := q
  dsimp only at hc hs hk hp1 hp2 hp3 c1 c2
  subst hc hs hk
  intro f h1 h2
  have : f = 1 ∨ f = 2 ∨ f = 3 ∨ f = 4 ∨ f = 5 ∨ f = 6 ∨ f = 7 ∨ f = 8 ∨ f = 9 ∨ f = 10 ∨ f = 11 ∨ f = 12 ∨ f = 13 := by omega
  rcases this with rfl | rfl | rfl | rfl | rfl | rfl | rfl | rfl | rfl | rfl | rfl | rfl | rfl
  all_goals simp [recMsg, namedE, holdsE, fromE, toE, Msg.get]
  all_goals omega

def oJ (L : List Op) (h : Nat) (A : Option Addr) (tc : Nat) : Oc := ⟨.iface 136 (.agg #[]), 1, h, 0, A, tc, textE L h, h⟩
def Told5 (L : List Op) (nn h : Nat) (l : List (Int × Op)) (p po pi pm ps : Nat) (tA : Option Addr) (w1 : World) (e : Ending) (w2 : World) : Prop :=
  ∃ (bv : Bool) (j : Nat) (l' : List (Int × Op)) (A' : Option Addr) (tc' : Nat), e = .returned (.bool bv) ∧ (bv = true ↔ nn + 1 ≤ h + 8) ∧ OcAt w2 p po pi pm ps (oJ L j A' tc') j l' ocR ∧ HeldInv L j l' ∧ (bv = true → heldStep h l (nn + 1) j l') ∧ (bv = false → j = h ∧ l' = l) ∧
    Mod (fun b => b = p ∨ b = pi ∨ b = pm) w1 w2 ∧ ((A' = tA ∧ j = h) ∨ inBlk A' (fun b => w1.heap.size ≤ b))

set_option maxHeartbeats 1000000 in
theorem told5 (L : List Op) (hL : recsOk L) (nn : Nat) (q : Op) (hq : L[nn]? = some q) (p po pi pm ps : Nat) (tA : Option Addr) (tc h : Nat) (l : List (Int × Op)) (w1 : World)
    (hO : OcAt w1 p po pi pm ps (oJ L h tA tc) h l ocR) (hI : HeldInv L h l) (hTb : Tabs w1) :
    Calls Tryz.prog 10 #[.pointer (some ⟨p, 0, none⟩), (recMsg nn q).v] w1 (Told5 L nn h l p po pi pm ps tA w1) := by
  have l1 := blk_lt hO.hp
  have l2 := blk_lt hO.ho
  have l3 := blk_lt hO.hi.1
  have l4 : pm < w1.heap.size := by obtain ⟨es, ck, hmm, _⟩ := hO.hi.2; exact blk_lt hmm
  have l5 := blk_lt hO.hs
  have hg := recMsg_good L hL nn q hq
  have hto := hO.textOld
  refine (told_gen (recMsg nn q) (by simp [recMsg]) (by simp [recMsg]) hg p w1 (fun v w5 w6 =>
    (nn + 1 > h + 8 → (∃ a, v = .iface 157 (.pointer (some a))) ∧ Mod No w5 w6) ∧
      (nn + 1 ≤ h + 8 → v = .nilIface ∧ ∃ (j : Nat) (l' : List (Int × Op)) (A : Option Addr) (tc' : Nat), OcAt w6 p po pi pm ps (oJ L j A tc') j l' ocR ∧ HeldInv L j l' ∧ heldStep h l (nn + 1) j l' ∧ Mod (fun b => b = p ∨ b = pi ∨ b = pm) w5 w6 ∧ ((A = tA ∧ j = h) ∨ inBlk A (fun b => w5.heap.size ≤ b)))) ?_).mono ?_
  · intro w5 B n c hm5 hr5
    have hT5 := hTb.mod0 hm5
    have hs5 := hm5.size
    refine (recv5 L hL q nn hq _ rfl p po pi pm ps _ tA tc h l ocR B n c w5 (hO.mod0 hm5) hI hr5 hg hT5.oc hT5.ws hT5.sh).mono ?_
    rintro e w6 ⟨hfar, hnear⟩
    by_cases hc : nn + 1 ≤ h + 8
    · obtain ⟨rfl, j, l', A, tc', h6, hI6, hst, hm6, hA⟩ := hnear hc
      exact ⟨_, rfl, .inl rfl, ⟨fun h => by omega, fun _ => ⟨rfl, j, l', A, tc', h6, hI6, hst, hm6, hA⟩⟩, hm6.mono (fun b _ h => by omega)⟩
    · obtain ⟨⟨a, rfl⟩, hm6⟩ := hfar (by omega)
      exact ⟨_, rfl, .inr ⟨a, rfl⟩, ⟨fun _ => ⟨⟨a, rfl⟩, hm6⟩, fun h => by omega⟩, hm6.mono (fun b _ h => h.elim)⟩
  · rintro e w' ⟨v, bv, w5, w6, rb, rfl, hv, ⟨hfar, hnear⟩, hm5, hm7, hr1, hr2⟩
    have hs5 := hm5.size
    by_cases hc : nn + 1 ≤ h + 8
    · obtain ⟨rfl, j, l', A, tc', h6, hI6, hst, hm6, hA⟩ := hnear hc
      have hbv : bv = true := by rcases hv with ⟨_, h⟩ | ⟨⟨a, h⟩, _⟩; exact h; cases h
      subst hbv
      refine ⟨true, j, l', A, tc', rfl, ⟨fun _ => hc, fun _ => rfl⟩, h6.beside' (B := w1.heap.size) hm7 hr1 ⟨l1, l2, l3, l4, l5⟩ ?_, hI6, fun _ => hst, (fun h => nomatch h), ((Mod.of hm5).trans hm6 (fun b hb h => h)).trans hm7 (fun b hb h => by omega), ?_⟩
      · rcases hA with ⟨rfl, rfl⟩ | hA
        · rcases hto with h8 | h8
          · exact .inl (fun a ha => by have h9 : a.block < w1.heap.size := h8 a ha; show a.block ≠ rb; omega)
          · exact .inr h8
        · exact .inl (fun a ha => by have h9 : w5.heap.size ≤ a.block := hA a ha; show a.block ≠ rb; omega)
      · rcases hA with ⟨rfl, rfl⟩ | hA
        · exact .inl ⟨rfl, rfl⟩
        · exact .inr (fun a ha => by have h9 : w5.heap.size ≤ a.block := hA a ha; show w1.heap.size ≤ a.block; omega)
    · obtain ⟨⟨a, rfl⟩, hm6⟩ := hfar (by omega)
      have hbv : bv = false := by rcases hv with ⟨h, _⟩ | ⟨_, h⟩; cases h; exact h
      subst hbv
      refine ⟨false, h, l, tA, tc, rfl, ⟨(fun h => nomatch h), fun h => by omega⟩, ((hO.mod0 hm5).mod0 hm6).beside' (B := w1.heap.size) hm7 hr1 ⟨l1, l2, l3, l4, l5⟩ ?_, hI, (fun h => nomatch h), fun _ => ⟨rfl, rfl⟩, (Mod.of (hm5.then0 hm6)).trans hm7 (fun b hb h => by omega), .inl ⟨rfl, rfl⟩⟩
      rcases hto with h8 | h8
      · exact .inl (fun a ha => by have h9 : a.block < w1.heap.size := h8 a ha; show a.block ≠ rb; omega)
      · exact .inr h8
end Go.Proofs.YtjojhfphlnfimaaGreatDoor.J

namespace Go.Proofs.YtjojhfphlnfimaaGreatDoor.J
open Go Go.RowKit
set_option linter.unusedSimpArgs false
set_option linter.unusedVariables false

def kBool : K Bool := ⟨1, fun b => [.bool b], fun _ => rfl, fun a v h => by simp at h; subst h; rfl, by decide⟩
theorem Own.atBool {T : TypeId} {w : World} {b o n c : Nat} {l : List Bool} {S : Nat → Prop} (h : Own kBool T w (some ⟨b, o, none⟩) n c l S) {i : Nat} {x : Bool} (hx : l[i]? = some x) : w.cell? ⟨b, o + i, none⟩ = some (.bool x) := by
  obtain ⟨b1, a1, hA1, hz⟩ := h.rd.at hx
  simp only [Option.some.injEq, Addr.mk.injEq, and_true] at hA1
  obtain ⟨rfl, rfl⟩ := hA1
  simpa [kBool] using hz 0 _ rfl
theorem Own.setBool {T : TypeId} {w : World} {b o n c : Nat} {l : List Bool} {S : Nat → Prop} (h : Own kBool T w (some ⟨b, o, none⟩) n c l S) {i : Nat} (hi : i < n) (x : Bool) : Own kBool T (w.setCell ⟨b, o + i, none⟩ (.bool x)) (some ⟨b, o, none⟩) n c (l.set i x) S := by
  have hx := List.getElem?_eq_getElem (l := l) (i := i) (by rw [← h.1]; exact hi)
  have := h.setAt (j := 0) (x' := x) (v := .bool x) hx (by decide) rfl rfl
  simpa [kBool] using this

def CameInv (N h : Nat) (l : List (Int × Op)) (cv : List Bool) : Prop := cv.length = N + 1 ∧ ∀ k : Nat, 1 ≤ k → k ≤ N → (cv[k]? = some true ↔ k ≤ h ∨ (findH (k : Int) l).isSome = true)
theorem CameInv.zero (N : Nat) : CameInv N 0 [] (List.replicate (N + 1) false) := by
  refine ⟨by simp, fun k h1 h2 => ?_⟩
  rw [List.getElem?_replicate]
  simp [findH]
  omega
theorem CameInv.step {N h : Nat} {l : List (Int × Op)} {cv : List Bool} (hc : CameInv N h l cv) {n j : Nat} {l' : List (Int × Op)} (hn : n ≤ N) (hs : heldStep h l n j l') : CameInv N j l' (cv.set n true) := by
  obtain ⟨hj, h2, h3⟩ := hs
  refine ⟨by simp [hc.1], fun k hk1 hk2 => ?_⟩
  have h4 := hc.2 k hk1 hk2
  have h5 := h2 (k : Int)
  have h6 := h3 (k : Int)
  rw [List.getElem?_set]
  by_cases hnk : n = k
  · subst hnk
    rw [if_pos rfl, if_pos (by rw [hc.1]; omega)]
    simp only [true_iff]
    by_cases hle : n ≤ j
    · exact .inl hle
    · exact .inr (h5.2 ⟨by omega, .inr ⟨rfl, by omega⟩⟩)
  · rw [if_neg hnk, h4]
    constructor
    · rintro (g | g)
      · exact .inl (Nat.le_trans g hj)
      · by_cases hle : k ≤ j
        · exact .inl hle
        · exact .inr (h5.2 ⟨by omega, .inl g⟩)
    · rintro (g | g)
      · by_cases hle : k ≤ h
        · exact .inl hle
        · rcases h6 (by omega) (by omega) with h7 | h7
          · exact .inr h7
          · exact absurd (by omega : n = k) hnk
      · rcases (h5.1 g).2 with h7 | h7
        · exact .inr h7
        · exact absurd (by omega : n = k) hnk

structure OnceAt (L : List Op) (N cb p po pi pm ps : Nat) (B : Option Addr) (d : Nat) (w wr : World) (h : Nat) (l : List (Int × Op)) (A : Option Addr) (tc : Nat) (cv : List Bool) : Prop where
  oc : OcAt wr p po pi pm ps (oJ L h A tc) h l ocR
  inv : HeldInv L h l
  own : Own kBool 4 wr (some ⟨cb, 0, none⟩) (N + 1) (N + 1) cv (fun b => b = cb)
  came : CameInv N h l cv
  rl : Rd kOp wr B N d L
  txt : inBlk A (fun b => b ≠ cb) ∨ textE L h = []
  md : Mod No w wr
  pb : w.heap.size ≤ p ∧ w.heap.size ≤ pi ∧ w.heap.size ≤ pm ∧ w.heap.size ≤ cb
  ne : p ≠ cb ∧ po ≠ cb ∧ pi ≠ cb ∧ pm ≠ cb ∧ ps ≠ cb
  bb : inBlk B (fun b => b ≠ p ∧ b ≠ pi ∧ b ≠ pm ∧ b ≠ cb)
theorem OnceAt.mod0 {L : List Op} {N cb p po pi pm ps : Nat} {B : Option Addr} {d : Nat} {w wr wr' : World} {h : Nat} {l : List (Int × Op)} {A : Option Addr} {tc : Nat} {cv : List Bool} (H : OnceAt L N cb p po pi pm ps B d w wr h l A tc cv) (hm : Mod No wr wr') : OnceAt L N cb p po pi pm ps B d w wr' h l A tc cv :=
  ⟨H.oc.mod0 hm, H.inv, H.own.mod0 hm, H.came, H.rl.mod0 hm, H.txt, H.md.then0 hm, H.pb, H.ne, H.bb⟩
theorem OnceAt.told {L : List Op} {N cb p po pi pm ps : Nat} {B : Option Addr} {d : Nat} {w wr w2 : World} {h : Nat} {l : List (Int × Op)} {A : Option Addr} {tc : Nat} {cv : List Bool} {nn : Nat} {e : Ending} (H : OnceAt L N cb p po pi pm ps B d w wr h l A tc cv) (hn : nn < N)
    (T : Told5 L nn h l p po pi pm ps A wr e w2) : ∃ bv, e = .returned (.bool bv) ∧ (bv = true ↔ nn + 1 ≤ h + 8) ∧
      (bv = true → (∃ cv, Own kBool 4 w2 (some ⟨cb, 0, none⟩) (N + 1) (N + 1) cv (fun b => b = cb) ∧ cv.length = N + 1) ∧ ∃ j l' A' tc', OnceAt L N cb p po pi pm ps B d w (w2.setCell ⟨cb, nn + 1, none⟩ (.bool true)) j l' A' tc' (cv.set (nn + 1) true) ∧ h ≤ j) ∧
      (bv = false → ∃ A' tc', OnceAt L N cb p po pi pm ps B d w w2 h l A' tc' cv) := by
  obtain ⟨bv, j, l', A', tc', rfl, hb, hO, hI, hst, hsf, hm, hA⟩ := T
  obtain ⟨n1, n2, n3, n4, n5⟩ := H.ne
  obtain ⟨p1, p2, p3, p4⟩ := H.pb
  have hown := H.own.mod hm (fun b _ hS hM => by omega)
  have hrl := H.rl.mod hm (fun a ha hM => by
    obtain ⟨x1, x2, x3, x4⟩ := H.bb a ha
    have hM' : a.block = p ∨ a.block = pi ∨ a.block = pm := hM
    omega)
  have hcb := H.own.blkLt _ rfl
  have hmd := H.md.trans hm (fun b hb hM => by omega)
  have htx : inBlk A' (fun b => b ≠ cb) ∨ textE L j = [] := by
    rcases hA with ⟨rfl, rfl⟩ | hA
    · exact H.txt
    · exact .inl (fun a ha => by
        have h9 : wr.heap.size ≤ a.block := hA a ha
        have h8 : cb < wr.heap.size := hcb
        show a.block ≠ cb
        omega)
  refine ⟨bv, rfl, hb, fun hbv => ⟨⟨cv, hown, H.came.1⟩, j, l', A', tc', ?_, (hst hbv).1⟩, fun hbv => ?_⟩
  · have hset := hown.setBool (i := nn + 1) (by omega) true
    rw [Nat.zero_add] at hset
    have hm1 : Mod (fun b => b = cb) w2 (w2.setCell ⟨cb, nn + 1, none⟩ (.bool true)) := mod_setO (Mod.refl _ _) (.inl rfl)
    exact ⟨hO.beside hm1 n1 n2 n3 n4 n5 htx, hI, hset, H.came.step (by omega) (hst hbv), hrl.mod hm1 (fun a ha hM => (H.bb a ha).2.2.2 hM), htx, hmd.trans hm1 (fun b hb hM => by omega), H.pb, H.ne, H.bb⟩
  · obtain ⟨rfl, rfl⟩ := hsf hbv
    exact ⟨A', tc', hO, hI, hown, H.came, hrl, htx, hmd, H.pb, H.ne, H.bb⟩
end Go.Proofs.YtjojhfphlnfimaaGreatDoor.J
