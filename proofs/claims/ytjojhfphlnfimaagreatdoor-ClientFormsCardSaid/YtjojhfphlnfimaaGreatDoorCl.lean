/- The waiting queue of package space: what its calls answer and what becomes of it. The sending half of a link (package outbox, of edits): what its calls answer and what becomes of it. A client in memory: what is at its block, and what New gives. -/
import Derived.Test.YtjojhfphlnfimaaGreatDoorDoc
import Derived.Deep.QuietTactic
import Derived.BigQuiet
import Derived.Test.YtjojhfphlnfimaaGreatDoorSeq
namespace Go.Proofs.YtjojhfphlnfimaaGreatDoor.J
open Go Go.RowKit
set_option linter.unusedSimpArgs false
set_option linter.unusedVariables false

theorem Tryz.infoMarked : (Tryz.prog.info? 108).map (fun i => (i.zero, i.size, i.bytes)) = some (some (.agg #[.int .i64 0, .int .i64 0, .int .i64 0, .int .u8 0, .int .i64 0, .int .i64 0]), 6, 48) := by kernel_rfl

/-- A space at block p: its list, its last mark. -/
def SpAt (w : World) (p : Nat) (A : Option Addr) (n c : Nat) (l : List Marked) (last : Int) (first : Bool) (S : Nat → Prop) : Prop :=
  w.heap[p]? = some (.cells #[.slice A n c, .int .i64 last, .bool first] 102 (0, 0)) ∧ Own kMarked 108 w A n c l S

set_option maxRecDepth 100000 in
set_option maxHeartbeats 1000000 in
theorem keep_ok (p : Nat) (A : Option Addr) (n c : Nat) (l : List Marked) (last : Int) (first : Bool) (S : Nat → Prop) (mark : Int) (o : Op) (w : World)
    (hu : o.wf) (hs : SpAt w p A n c l last first S) (hp : ¬ S p) (hv : validE o = 0) (h1 : last < mark) (h2 : mark ≤ 4096) (hn : n ≤ 4096) :
    Calls Tryz.prog 62 #[.pointer (some ⟨p, 0, none⟩), .int .i64 mark, o.v] w fun e w' => e = .returned (.int .i64 0) ∧
      ∃ A' c', SpAt w' p A' (n + 1) c' (l ++ [⟨mark, o⟩]) mark first (fun b => S b ∨ w.heap.size ≤ b) ∧ Mod (fun b => b = p ∨ S b) w w' := by
  have hval := fun w => valid_any o w hu
  rw [hv] at hval
  clear hv
  obtain ⟨hB, hO⟩ := hs
  obtain ⟨i, hi1, hi2, hi3, hi4⟩ := info_parts Tryz.infoMarked
  have hplt := blk_lt hB
  obtain ⟨k, ps, ch, cl, sq⟩ := o
  simp only [Op.v] at *
  go_enter Tryz.func62, Tryz.ntmps62
  go_wp2_with (first | (go_at_call 92; refine (hval _).mono ?_; rintro e w1 ⟨rfl, hm1⟩; have hX := hm1.heap (heap_alloc_new _ _) (fun h => h); have hB1 := hm1.heap (blk_alloc hB _) (fun h => h); have hC := blk_at hB1; have hF := blk_free hB1; have hD := blk_at hX; have hp1 := blk_lt hB1))
  have hO1 := hO.mod0 (((Mod.refl No w).alloc _).then0 hm1)
  refine wp_region_text (by kernel_rfl) (by kernel_rfl) (by kernel_rfl) (by kernel_rfl) ?_
  go_wp2_with (at_builtin; refine wpList_append_j (k := kMarked) (T := 108) (by rfl) _ _ _ (by rfl) i _ Tryz.underlying98 hi1 hi2 hi3 rfl (by rfl) (by rfl) (Own.drew (hO1.alloc _)) (Rd.drew (Rd.one (heap_alloc_new _ _) (⟨mark, ⟨k, ps, ch, cl, sq⟩⟩ : Marked) rfl)) (by unfold maxLen; omega) (by rw [hi4]; omega) ?_; intro A2 c2 w2 hO2 hm2 hs2 _; have hB2 := hm2.heap (blk_alloc hB1 _) hp; have hC2 := blk_at hB2; have hF2 := blk_free hB2)
  refine ⟨rfl, by kernel_rfl, ?_⟩
  go_wp2
  go_ret
  have hpn : ¬ (S p ∨ p = ((w1.alloc (.cells #[.int .i64 mark, .int .i64 k, .int .i64 ps, .int .u8 ch, .int .i64 cl, .int .i64 sq] 108)).drew).heap.size) := by
    rintro (h | h)
    · exact hp h
    · simp at h; omega
  have hsz := hm1.size
  rw [World.size_alloc] at hsz
  refine ⟨rfl, A2, c2, ⟨blk_set (blk_set hB2 0 _) 1 _, ((hO2.setOther hpn _).setOther hpn _).mono fun b hb h => ?_⟩, ?_⟩
  · rcases h with h | h
    · exact .inl h
    · right; simp at h; omega
  · exact ((((((Mod.refl No w).alloc _).then0 hm1).of.alloc _).drew.trans hm2 (fun b _ h => .inr h)).setCell (p := ⟨p, 0, none⟩) (.inl (.inl rfl)) _).setCell (p := ⟨p, 1, none⟩) (.inl (.inl rfl)) _
end Go.Proofs.YtjojhfphlnfimaaGreatDoor.J

namespace Go.Proofs.YtjojhfphlnfimaaGreatDoor.J
open Go Go.RowKit
set_option linter.unusedSimpArgs false
set_option linter.unusedVariables false

theorem Tryz.infoEdit : (Tryz.prog.info? 60).map (fun i => (i.zero, i.size, i.bytes)) = some (some (.agg #[.int .i64 0, .int .i64 0, .int .i64 0, .int .u8 0, .int .i64 0, .int .i64 0]), 6, 48) := by kernel_rfl

/-- An outbox at block p. -/
def OutAt (w : World) (p : Nat) (win acked sent : Int) (A : Option Addr) (n c : Nat) (l : List Edit) (S : Nat → Prop) : Prop :=
  w.heap[p]? = some (.cells #[.int .i64 win, .int .i64 acked, .int .i64 sent, .slice A n c] 145 (0, 0)) ∧ Own kEdit 60 w A n c l S

theorem outNew_ok (w : World) :
    Calls Tryz.prog 41 #[.int .i64 8] w fun e w' => e = .returned (.tuple #[.pointer (some ⟨w.heap.size, 0, none⟩), .int .i64 0]) ∧
      w' = w.alloc (.cells #[.int .i64 8, .int .i64 0, .int .i64 0, .slice none 0 0] 145) := by
  go_enter Tryz.func41, Tryz.ntmps41
  go_wp2
  go_ret2
  exact ⟨rfl, rfl⟩

theorem outLast_any (p : Nat) (win acked sent : Int) (A : Option Addr) (n c : Nat) (w : World) (h0 : 0 ≤ acked) (h1 : acked ≤ 4096) (hn : n ≤ 4096)
    (hB : w.heap[p]? = some (.cells #[.int .i64 win, .int .i64 acked, .int .i64 sent, .slice A n c] 145 (0, 0))) :
    Calls Tryz.prog 101 #[.pointer (some ⟨p, 0, none⟩)] w fun e w' => e = .returned (.int .i64 (acked + n)) ∧ Mod No w w' := by
  have hC := blk_at hB
  go_enter Tryz.func101, Tryz.ntmps101
  go_wp2
  refine wp_region_text (by kernel_rfl) (by kernel_rfl) (by kernel_rfl) (by kernel_rfl) ?_
  go_wp2
  refine ⟨rfl, by kernel_rfl, ?_⟩
  go_wp2
  go_ret
  exact ⟨rfl, (Mod.refl _ _).drew⟩

set_option maxRecDepth 100000 in
set_option maxHeartbeats 1000000 in
theorem outPush_ok (p : Nat) (win acked sent : Int) (A : Option Addr) (n c : Nat) (l : List Edit) (S : Nat → Prop) (x : Edit) (w : World)
    (hs : OutAt w p win acked sent A n c l S) (hp : ¬ S p) (h0 : 0 ≤ acked) (h1 : acked + n < 4096) :
    Calls Tryz.prog 71 #[.pointer (some ⟨p, 0, none⟩), x.v] w fun e w' => e = .returned (.tuple #[.int .i64 (acked + n + 1), .int .i64 0]) ∧
      ∃ A' c', OutAt w' p win acked sent A' (n + 1) c' (l ++ [x]) (fun b => S b ∨ w.heap.size ≤ b) ∧ Mod (fun b => b = p ∨ S b) w w' := by
  obtain ⟨hB, hO⟩ := hs
  obtain ⟨i, hi1, hi2, hi3, hi4⟩ := info_parts Tryz.infoEdit
  have hplt := blk_lt hB
  obtain ⟨t, k, ps, ch, cl, sq⟩ := x
  have hne : (acked + (n : Int) == 4096) = false := by rw [beq_eq_false_iff_ne]; omega
  simp only [Edit.v] at *
  go_enter Tryz.func71, Tryz.ntmps71
  go_wp2_with (go_at_call 101; refine (outLast_any p win acked sent A n c _ h0 (by omega) (by omega) (blk_alloc hB _)).mono ?_; rintro e w1 ⟨rfl, hm1⟩; have hX := hm1.heap (heap_alloc_new _ _) (fun h => h); have hB1 := hm1.heap (blk_alloc hB _) (fun h => h); have hC := blk_at hB1; have hF := blk_free hB1; have hD := blk_at hX; have hp1 := blk_lt hB1)
  have hO1 := hO.mod0 (((Mod.refl No w).alloc _).then0 hm1)
  refine wp_region_text (by kernel_rfl) (by kernel_rfl) (by kernel_rfl) (by kernel_rfl) ?_
  go_wp2_with (at_builtin; refine wpList_append_j (k := kEdit) (T := 60) (by rfl) _ _ _ (by rfl) i _ Tryz.underlying36 hi1 hi2 hi3 rfl (by rfl) (by rfl) (Own.drew (hO1.alloc _)) (Rd.drew (Rd.one (heap_alloc_new _ _) (⟨t, ⟨k, ps, ch, cl, sq⟩⟩ : Edit) rfl)) (by unfold maxLen; omega) (by rw [hi4]; omega) ?_; intro A2 c2 w2 hO2 hm2 hs2 _; have hB2 := hm2.heap (blk_alloc hB1 _) hp; have hC2 := blk_at hB2; have hF2 := blk_free hB2)
  refine ⟨rfl, by kernel_rfl, ?_⟩
  have hB3 := blk_set hB2 3 (.slice A2 (n + 1) c2)
  go_wp2_with (go_at_call 101; refine (outLast_any p win acked sent A2 (n + 1) c2 _ h0 (by omega) (by omega) hB3).mono ?_; rintro e w3 ⟨rfl, hm3⟩)
  go_ret2
  have hpn : ¬ (S p ∨ p = ((w1.alloc (.cells #[.int .i64 t, .int .i64 k, .int .i64 ps, .int .u8 ch, .int .i64 cl, .int .i64 sq] 60)).drew).heap.size) := by
    rintro (h | h)
    · exact hp h
    · simp at h; omega
  have hsz := hm1.size
  rw [World.size_alloc] at hsz
  refine ⟨by rw [show acked + (n : Int) + 1 = acked + ((n + 1 : Nat) : Int) by omega]; rfl, A2, c2, ⟨hm3.heap hB3 (fun h => h), ((hO2.setOther hpn _).mod0 hm3).mono fun b hb h => ?_⟩, ?_⟩
  · rcases h with h | h
    · exact .inl h
    · right; simp at h; omega
  · exact (((((((Mod.refl No w).alloc _).then0 hm1).of.alloc _).drew.trans hm2 (fun b _ h => .inr h)).setCell (p := ⟨p, 3, none⟩) (.inl (.inl rfl)) _)).then0 hm3
end Go.Proofs.YtjojhfphlnfimaaGreatDoor.J

namespace Go.Proofs.YtjojhfphlnfimaaGreatDoor.J
open Go Go.RowKit
set_option linter.unusedSimpArgs false
set_option linter.unusedVariables false

theorem inNew_ok (w : World) :
    Calls Tryz.prog 42 #[.int .i64 8] w fun e w' => e = .returned (.tuple #[.pointer (some ⟨w.heap.size + 1, 0, none⟩), .int .i64 0]) ∧
      w' = (w.alloc (.map #[] 0)).alloc (.cells #[.int .i64 8, .int .i64 0, .map (some w.heap.size)] 148) := by
  have hmm := @run_makeMap Tryz.prog
  go_enter Tryz.func42, Tryz.ntmps42
  go_wp2
  go_ret2
  exact ⟨rfl, rfl⟩

theorem spNew_ok (b : Bool) (w : World) :
    Calls Tryz.prog 34 #[.bool b] w fun e w' => e = .returned (.pointer (some ⟨w.heap.size, 0, none⟩)) ∧
      w' = w.alloc (.cells #[.slice none 0 0, .int .i64 0, .bool b] 102) := by
  go_enter Tryz.func34, Tryz.ntmps34
  go_wp2
  go_ret
  exact ⟨rfl, rfl⟩

/-- What a client comes to. -/
structure Cl where
  id : Int
  epoch : Int
  made : Int
  hav : Int
  base : Int
  ph : Value
  text : List Elem
  pending : List Edit
  forms : List Marked
  flast : Int
  acked : Int
  sent : Int
  left : List Edit
  cum : Int
  hes : Array MapEntry
  hck : Nat
  last : List Int

/-- Where its parts lie. -/
structure ClM where
  po : Nat
  pi : Nat
  pm : Nat
  ps : Nat
  tA : Option Addr
  tc : Nat
  pA : Option Addr
  pc : Nat
  lA : Option Addr
  lc : Nat
  fA : Option Addr
  fc : Nat

def clCells (m : ClM) (c : Cl) : Array Value :=
  (.pointer (some ⟨m.po, 0, none⟩) :: .pointer (some ⟨m.pi, 0, none⟩) :: c.ph :: .int .i64 c.id :: .int .i64 c.epoch :: .int .i64 c.made :: .int .i64 c.hav :: .int .i64 c.base ::
    .slice m.tA c.text.length m.tc :: .slice m.pA c.pending.length m.pc :: .pointer (some ⟨m.ps, 0, none⟩) :: c.last.map (Value.int .i64)).toArray

/-- A client at block p; the blocks of its parts have the colours from t on. -/
structure ClAt (w : World) (p : Nat) (m : ClM) (c : Cl) (col : Nat → Nat) (t : Nat) : Prop where
  cp : col p = t
  co : col m.po = t + 1
  ci : col m.pi = t + 3
  cm : col m.pm = t + 4
  cs : col m.ps = t + 5
  hp : w.heap[p]? = some (.cells (clCells m c) 93 (0, 0))
  ho : OutAt w m.po 8 c.acked c.sent m.lA c.left.length m.lc c.left (fun b => col b = t + 2)
  hi : w.heap[m.pi]? = some (.cells #[.int .i64 8, .int .i64 c.cum, .map (some m.pm)] 148 (0, 0))
  hm : w.heap[m.pm]? = some (.map c.hes c.hck)
  hs : SpAt w m.ps m.fA c.forms.length m.fc c.forms c.flast false (fun b => col b = t + 6)
  ht : Own kElem 95 w m.tA c.text.length m.tc c.text (fun b => col b = t + 7)
  he : Own kEdit 60 w m.pA c.pending.length m.pc c.pending (fun b => col b = t + 8)

theorem OutAt.mod {w w' : World} {p : Nat} {win acked sent : Int} {A : Option Addr} {n c : Nat} {l : List Edit} {S S' M : Nat → Prop} (h : OutAt w p win acked sent A n c l S) (hm : Mod M w w') (hp : ¬ M p) (hd : ∀ b, b < w.heap.size → S b → ¬ M b) (hs : ∀ b, b < w.heap.size → S b → S' b) : OutAt w' p win acked sent A n c l S' :=
  ⟨hm.heap h.1 hp, (h.2.mono (S' := fun b => S b ∧ S' b) (fun b hb hsb => ⟨hsb, hs b hb hsb⟩)).mod hm (fun b hb hsb => hd b hb hsb.1) |>.mono (fun b _ hsb => hsb.2)⟩
theorem SpAt.mod {w w' : World} {p : Nat} {A : Option Addr} {n c : Nat} {l : List Marked} {last : Int} {first : Bool} {S S' M : Nat → Prop} (h : SpAt w p A n c l last first S) (hm : Mod M w w') (hp : ¬ M p) (hd : ∀ b, b < w.heap.size → S b → ¬ M b) (hs : ∀ b, b < w.heap.size → S b → S' b) : SpAt w' p A n c l last first S' :=
  ⟨hm.heap h.1 hp, (h.2.mono (S' := fun b => S b ∧ S' b) (fun b hb hsb => ⟨hsb, hs b hb hsb⟩)).mod hm (fun b hb hsb => hd b hb hsb.1) |>.mono (fun b _ hsb => hsb.2)⟩
theorem Own.mod' {α : Type} {k : K α} {T : TypeId} {w w' : World} {A : Option Addr} {n c : Nat} {l : List α} {S S' M : Nat → Prop} (h : Own k T w A n c l S) (hm : Mod M w w') (hd : ∀ b, b < w.heap.size → S b → ¬ M b) (hs : ∀ b, b < w.heap.size → S b → S' b) : Own k T w' A n c l S' :=
  (h.mono (S' := fun b => S b ∧ S' b) (fun b hb hsb => ⟨hsb, hs b hb hsb⟩)).mod hm (fun b hb hsb => hd b hb hsb.1) |>.mono (fun b _ hsb => hsb.2)

/-- What is beside a client leaves it as it is. -/
theorem ClAt.keep {w w' : World} {p : Nat} {m : ClM} {c : Cl} {col col' : Nat → Nat} {t : Nat} {M : Nat → Prop} (h : ClAt w p m c col t) (hm : Mod M w w')
    (hd : ∀ b, b < w.heap.size → t ≤ col b → col b ≤ t + 8 → ¬ M b) (hc : ∀ b, b < w.heap.size → col' b = col b) : ClAt w' p m c col' t := by
  have lp := blk_lt h.hp
  have lo := blk_lt h.ho.1
  have li := blk_lt h.hi
  have lm := blk_lt h.hm
  have ls := blk_lt h.hs.1
  have e1 := h.cp
  have e2 := h.co
  have e3 := h.ci
  have e4 := h.cm
  have e5 := h.cs
  exact {
    cp := by rw [hc _ lp]; exact e1
    co := by rw [hc _ lo]; exact e2
    ci := by rw [hc _ li]; exact e3
    cm := by rw [hc _ lm]; exact e4
    cs := by rw [hc _ ls]; exact e5
    hp := hm.heap h.hp (hd _ lp (by omega) (by omega))
    ho := h.ho.mod hm (hd _ lo (by omega) (by omega)) (fun b hb hs => hd b hb (by omega) (by omega)) (fun b hb hs => by rw [hc b hb]; exact hs)
    hi := hm.heap h.hi (hd _ li (by omega) (by omega))
    hm := hm.heap h.hm (hd _ lm (by omega) (by omega))
    hs := h.hs.mod hm (hd _ ls (by omega) (by omega)) (fun b hb hs => hd b hb (by omega) (by omega)) (fun b hb hs => by rw [hc b hb]; exact hs)
    ht := h.ht.mod' hm (fun b hb hs => hd b hb (by omega) (by omega)) (fun b hb hs => by rw [hc b hb]; exact hs)
    he := h.he.mod' hm (fun b hb hs => hd b hb (by omega) (by omega)) (fun b hb hs => by rw [hc b hb]; exact hs) }
theorem ClAt.keep0 {w w' : World} {p : Nat} {m : ClM} {c : Cl} {col : Nat → Nat} {t : Nat} (h : ClAt w p m c col t) (hm : Mod No w w') : ClAt w' p m c col t :=
  h.keep hm (fun _ _ _ _ hf => hf) (fun _ _ => rfl)

/-- A new client. -/
def Cl.new (id : Int) : Cl := { id := id, epoch := 0, made := 0, hav := 0, base := 0, ph := .iface 114 (.agg #[]), text := [], pending := [], forms := [], flast := 0, acked := 0, sent := 0, left := [], cum := 0, hes := #[], hck := 0, last := List.replicate 65 0 }

theorem zero_Client (w : World) : (zeroValue 93).run Tryz.prog w = .ok (.agg #[.pointer none, .pointer none, .nilIface, .int .i64 0, .int .i64 0, .int .i64 0, .int .i64 0, .int .i64 0, .slice none 0 0, .slice none 0 0, .pointer none, .int .i64 0, .int .i64 0, .int .i64 0, .int .i64 0, .int .i64 0, .int .i64 0, .int .i64 0, .int .i64 0, .int .i64 0, .int .i64 0, .int .i64 0, .int .i64 0, .int .i64 0, .int .i64 0, .int .i64 0, .int .i64 0, .int .i64 0, .int .i64 0, .int .i64 0, .int .i64 0, .int .i64 0, .int .i64 0, .int .i64 0, .int .i64 0, .int .i64 0, .int .i64 0, .int .i64 0, .int .i64 0, .int .i64 0, .int .i64 0, .int .i64 0, .int .i64 0, .int .i64 0, .int .i64 0, .int .i64 0, .int .i64 0, .int .i64 0, .int .i64 0, .int .i64 0, .int .i64 0, .int .i64 0, .int .i64 0, .int .i64 0, .int .i64 0, .int .i64 0, .int .i64 0, .int .i64 0, .int .i64 0, .int .i64 0, .int .i64 0, .int .i64 0, .int .i64 0, .int .i64 0, .int .i64 0, .int .i64 0, .int .i64 0, .int .i64 0, .int .i64 0, .int .i64 0, .int .i64 0, .int .i64 0, .int .i64 0, .int .i64 0, .int .i64 0, .int .i64 0]) w := by kernel_rfl

set_option maxRecDepth 100000 in
set_option maxHeartbeats 1000000 in
theorem clNew_ok (id : Int) (w : World) (col : Nat → Nat) (t : Nat) (h1 : 1 ≤ id) (h2 : id ≤ 64) :
    Calls Tryz.prog 21 #[.int .i64 id] w fun e w' => ∃ p m col', e = .returned (.tuple #[.pointer (some ⟨p, 0, none⟩), .int .i64 0]) ∧
      ClAt w' p m (Cl.new id) col' t ∧ Mod No w w' ∧ ∀ b, b < w.heap.size → col' b = col b := by
  have hz := zero_Client
  go_enter Tryz.func21, Tryz.ntmps21
  go_wp2_with (first | (go_at_call 41; refine (outNew_ok _).mono ?_; rintro e w1 ⟨rfl, rfl⟩) | (go_at_call 42; refine (inNew_ok _).mono ?_; rintro e w1 ⟨rfl, rfl⟩) | (go_at_call 34; refine (spNew_ok _ _).mono ?_; rintro e w1 ⟨rfl, rfl⟩))
  go_ret2
  refine ⟨w.heap.size + 1 + 1 + 1 + 1, ⟨w.heap.size, w.heap.size + 1 + 1, w.heap.size + 1, w.heap.size + 1 + 1 + 1, none, 0, none, 0, none, 0, none, 0⟩,
    fun b => if b < w.heap.size then col b else if b = w.heap.size then t + 1 else if b = w.heap.size + 1 then t + 4 else if b = w.heap.size + 2 then t + 3 else if b = w.heap.size + 3 then t + 5 else t, rfl, ?_, (((((Mod.refl _ _).alloc _).alloc _).alloc _).alloc _).alloc _, fun b hb => by simp [hb]⟩
  clear hz
  refine { cp := by ((try dsimp only); (repeat' split) <;> omega), co := by ((try dsimp only); (repeat' split) <;> omega), ci := by ((try dsimp only); (repeat' split) <;> omega), cm := by ((try dsimp only); (repeat' split) <;> omega), cs := by ((try dsimp only); (repeat' split) <;> omega), hp := ?_, ho := ⟨?_, Own.nil _ _ _ _⟩, hi := ?_, hm := ?_, hs := ⟨?_, Own.nil _ _ _ _⟩, ht := Own.nil _ _ _ _, he := Own.nil _ _ _ _ }
  · exact blk_new _ _ (by simp)
  · exact blk_alloc (blk_alloc (blk_alloc (blk_alloc (blk_new _ _ rfl) _) _) _) _
  · exact blk_alloc (blk_alloc (blk_new _ _ (by simp)) _) _
  · exact blk_alloc (blk_alloc (blk_alloc (blk_new _ _ (by simp)) _) _) _
  · exact blk_alloc (blk_new _ _ (by simp)) _
end Go.Proofs.YtjojhfphlnfimaaGreatDoor.J
