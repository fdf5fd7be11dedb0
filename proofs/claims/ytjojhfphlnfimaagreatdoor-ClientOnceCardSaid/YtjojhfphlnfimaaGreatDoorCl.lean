/- A client in memory: what is at its block, and what New gives. -/
import Derived.Test.YtjojhfphlnfimaaGreatDoorSpace
import Derived.Test.YtjojhfphlnfimaaGreatDoorOut
namespace Go.Proofs.YtjojhfphlnfimaaGreatDoor.J
open Go Go.RowKit
set_option linter.unusedSimpArgs false
set_option linter.unusedVariables false

theorem inNew_ok (w : World) :
    Calls Tryz.prog 42 #[.int .i64 8] w fun e w' => e = .returned (.tuple #[.pointer (some ⟨w.heap.size + 1, 0, none⟩), .int .i64 0]) ∧
      w' = (w.alloc (.map #[] 0)).alloc (.cells #[.int .i64 8, .int .i64 0, .map (some w.heap.size)] 148) := by
  have hmm := @run_makeMap Tryz.prog
  go_enter Tryz.func42, Tryz.ntmps42
  go_wp2
  go_ret2
  exact ⟨rfl, rfl⟩

theorem spNew_ok (b : Bool) (w : World) :
    Calls Tryz.prog 34 #[.bool b] w fun e w' => e = .returned (.pointer (some ⟨w.heap.size, 0, none⟩)) ∧
      w' = w.alloc (.cells #[.slice none 0 0, .int .i64 0, .bool b] 102) := by
  go_enter Tryz.func34, Tryz.ntmps34
  go_wp2
  go_ret
  exact ⟨rfl, rfl⟩

/-- What a client comes to. -/
structure Cl where
  id : Int
  epoch : Int
  made : Int
  hav : Int
  base : Int
  ph : Value
  text : List Elem
  pending : List Edit
  forms : List Marked
  flast : Int
  acked : Int
  sent : Int
  left : List Edit
  cum : Int
  hes : Array MapEntry
  hck : Nat
  last : List Int

/-- Where its parts lie. -/
structure ClM where
  po : Nat
  pi : Nat
  pm : Nat
  ps : Nat
  tA : Option Addr
  tc : Nat
  pA : Option Addr
  pc : Nat
  lA : Option Addr
  lc : Nat
  fA : Option Addr
  fc : Nat

def clCells (m : ClM) (c : Cl) : Array Value :=
  (.pointer (some ⟨m.po, 0, none⟩) :: .pointer (some ⟨m.pi, 0, none⟩) :: c.ph :: .int .i64 c.id :: .int .i64 c.epoch :: .int .i64 c.made :: .int .i64 c.hav :: .int .i64 c.base ::
    .slice m.tA c.text.length m.tc :: .slice m.pA c.pending.length m.pc :: .pointer (some ⟨m.ps, 0, none⟩) :: c.last.map (Value.int .i64)).toArray

/-- A client at block p; the blocks of its parts have the colours from t on. -/
structure ClAt (w : World) (p : Nat) (m : ClM) (c : Cl) (col : Nat → Nat) (t : Nat) : Prop where
  cp : col p = t
  co : col m.po = t + 1
  ci : col m.pi = t + 3
  cm : col m.pm = t + 4
  cs : col m.ps = t + 5
  hp : w.heap[p]? = some (.cells (clCells m c) 93 (0, 0))
  ho : OutAt w m.po 8 c.acked c.sent m.lA c.left.length m.lc c.left (fun b => col b = t + 2)
  hi : w.heap[m.pi]? = some (.cells #[.int .i64 8, .int .i64 c.cum, .map (some m.pm)] 148 (0, 0))
  hm : w.heap[m.pm]? = some (.map c.hes c.hck)
  hs : SpAt w m.ps m.fA c.forms.length m.fc c.forms c.flast false (fun b => col b = t + 6)
  ht : Own kElem 95 w m.tA c.text.length m.tc c.text (fun b => col b = t + 7)
  he : Own kEdit 60 w m.pA c.pending.length m.pc c.pending (fun b => col b = t + 8)

theorem OutAt.mod {w w' : World} {p : Nat} {win acked sent : Int} {A : Option Addr} {n c : Nat} {l : List Edit} {S S' M : Nat → Prop} (h : OutAt w p win acked sent A n c l S) (hm : Mod M w w') (hp : ¬ M p) (hd : ∀ b, b < w.heap.size → S b → ¬ M b) (hs : ∀ b, b < w.heap.size → S b → S' b) : OutAt w' p win acked sent A n c l S' :=
  ⟨hm.heap h.1 hp, (h.2.mono (S' := fun b => S b ∧ S' b) (fun b hb hsb => ⟨hsb, hs b hb hsb⟩)).mod hm (fun b hb hsb => hd b hb hsb.1) |>.mono (fun b _ hsb => hsb.2)⟩
theorem SpAt.mod {w w' : World} {p : Nat} {A : Option Addr} {n c : Nat} {l : List Marked} {last : Int} {first : Bool} {S S' M : Nat → Prop} (h : SpAt w p A n c l last first S) (hm : Mod M w w') (hp : ¬ M p) (hd : ∀ b, b < w.heap.size → S b → ¬ M b) (hs : ∀ b, b < w.heap.size → S b → S' b) : SpAt w' p A n c l last first S' :=
  ⟨hm.heap h.1 hp, (h.2.mono (S' := fun b => S b ∧ S' b) (fun b hb hsb => ⟨hsb, hs b hb hsb⟩)).mod hm (fun b hb hsb => hd b hb hsb.1) |>.mono (fun b _ hsb => hsb.2)⟩
theorem Own.mod' {α : Type} {k : K α} {T : TypeId} {w w' : World} {A : Option Addr} {n c : Nat} {l : List α} {S S' M : Nat → Prop} (h : Own k T w A n c l S) (hm : Mod M w w') (hd : ∀ b, b < w.heap.size → S b → ¬ M b) (hs : ∀ b, b < w.heap.size → S b → S' b) : Own k T w' A n c l S' :=
  (h.mono (S' := fun b => S b ∧ S' b) (fun b hb hsb => ⟨hsb, hs b hb hsb⟩)).mod hm (fun b hb hsb => hd b hb hsb.1) |>.mono (fun b _ hsb => hsb.2)

/-- What is beside a client leaves it as it is. -/
theorem ClAt.keep {w w' : World} {p : Nat} {m : ClM} {c : Cl} {col col' : Nat → Nat} {t : Nat} {M : Nat → Prop} (h : ClAt w p m c col t) (hm : Mod M w w')
    (hd : ∀ b, b < w.heap.size → t ≤ col b → col b ≤ t + 8 → ¬ M b) (hc : ∀ b, b < w.heap.size → col' b = col b) : ClAt w' p m c col' t := by
  have lp := blk_lt h.hp
  have lo := blk_lt h.ho.1
  have li := blk_lt h.hi
  have lm := blk_lt h.hm
  have ls := blk_lt h.hs.1
  have e1 := h.cp
  have e2 := h.co
  have e3 := h.ci
  have e4 := h.cm
  have e5 := h.cs
  exact {
    cp := by rw [hc _ lp]; exact e1
    co := by rw [hc _ lo]; exact e2
    ci := by rw [hc _ li]; exact e3
    cm := by rw [hc _ lm]; exact e4
    cs := by rw [hc _ ls]; exact e5
    hp := hm.heap h.hp (hd _ lp (by omega) (by omega))
    ho := h.ho.mod hm (hd _ lo (by omega) (by omega)) (fun b hb hs => hd b hb (by omega) (by omega)) (fun b hb hs => by rw [hc b hb]; exact hs)
    hi := hm.heap h.hi (hd _ li (by omega) (by omega))
    hm := hm.heap h.hm (hd _ lm (by omega) (by omega))
    hs := h.hs.mod hm (hd _ ls (by omega) (by omega)) (fun b hb hs => hd b hb (by omega) (by omega)) (fun b hb hs => by rw [hc b hb]; exact hs)
    ht := h.ht.mod' hm (fun b hb hs => hd b hb (by omega) (by omega)) (fun b hb hs => by rw [hc b hb]; exact hs)
    he := h.he.mod' hm (fun b hb hs => hd b hb (by omega) (by omega)) (fun b hb hs => by rw [hc b hb]; exact hs) }
theorem ClAt.keep0 {w w' : World} {p : Nat} {m : ClM} {c : Cl} {col : Nat → Nat} {t : Nat} (h : ClAt w p m c col t) (hm : Mod No w w') : ClAt w' p m c col t :=
  h.keep hm (fun _ _ _ _ hf => hf) (fun _ _ => rfl)

/-- A new client. -/
def Cl.new (id : Int) : Cl := { id := id, epoch := 0, made := 0, hav := 0, base := 0, ph := .iface 114 (.agg #[]), text := [], pending := [], forms := [], flast := 0, acked := 0, sent := 0, left := [], cum := 0, hes := #[], hck := 0, last := List.replicate 65 0 }

theorem zero_Client (w : World) : (zeroValue 93).run Tryz.prog w = .ok (.agg #[.pointer none, .pointer none, .nilIface, .int .i64 0, .int .i64 0, .int .i64 0, .int .i64 0, .int .i64 0, .slice none 0 0, .slice none 0 0, .pointer none, .int .i64 0, .int .i64 0, .int .i64 0, .int .i64 0, .int .i64 0, .int .i64 0, .int .i64 0, .int .i64 0, .int .i64 0, .int .i64 0, .int .i64 0, .int .i64 0, .int .i64 0, .int .i64 0, .int .i64 0, .int .i64 0, .int .i64 0, .int .i64 0, .int .i64 0, .int .i64 0, .int .i64 0, .int .i64 0, .int .i64 0, .int .i64 0, .int .i64 0, .int .i64 0, .int .i64 0, .int .i64 0, .int .i64 0, .int .i64 0, .int .i64 0, .int .i64 0, .int .i64 0, .int .i64 0, .int .i64 0, .int .i64 0, .int .i64 0, .int .i64 0, .int .i64 0, .int .i64 0, .int .i64 0, .int .i64 0, .int .i64 0, .int .i64 0, .int .i64 0, .int .i64 0, .int .i64 0, .int .i64 0, .int .i64 0, .int .i64 0, .int .i64 0, .int .i64 0, .int .i64 0, .int .i64 0, .int .i64 0, .int .i64 0, .int .i64 0, .int .i64 0, .int .i64 0, .int .i64 0, .int .i64 0, .int .i64 0, .int .i64 0, .int .i64 0, .int .i64 0]) w := by kernel_rfl

set_option maxRecDepth 100000 in
set_option maxHeartbeats 1000000 in
theorem clNew_ok (id : Int) (w : World) (col : Nat → Nat) (t : Nat) (h1 : 1 ≤ id) (h2 : id ≤ 64) :
    Calls Tryz.prog 21 #[.int .i64 id] w fun e w' => ∃ p m col', e = .returned (.tuple #[.pointer (some ⟨p, 0, none⟩), .int .i64 0]) ∧
      ClAt w' p m (Cl.new id) col' t ∧ Mod No w w' ∧ ∀ b, b < w.heap.size → col' b = col b := by
  have hz := zero_Client
  go_enter Tryz.func21, Tryz.ntmps21
  go_wp2_with (first | (go_at_call 41; refine (outNew_ok _).mono ?_; rintro e w1 ⟨rfl, rfl⟩) | (go_at_call 42; refine (inNew_ok _).mono ?_; rintro e w1 ⟨rfl, rfl⟩) | (go_at_call 34; refine (spNew_ok _ _).mono ?_; rintro e w1 ⟨rfl, rfl⟩))
  go_ret2
  refine ⟨w.heap.size + 1 + 1 + 1 + 1, ⟨w.heap.size, w.heap.size + 1 + 1, w.heap.size + 1, w.heap.size + 1 + 1 + 1, none, 0, none, 0, none, 0, none, 0⟩,
    fun b => if b < w.heap.size then col b else if b = w.heap.size then t + 1 else if b = w.heap.size + 1 then t + 4 else if b = w.heap.size + 2 then t + 3 else if b = w.heap.size + 3 then t + 5 else t, rfl, ?_, (((((Mod.refl _ _).alloc _).alloc _).alloc _).alloc _).alloc _, fun b hb => by simp [hb]⟩
  clear hz
  refine { cp := by ((try dsimp only); (repeat' split) <;> omega), co := by ((try dsimp only); (repeat' split) <;> omega), ci := by ((try dsimp only); (repeat' split) <;> omega), cm := by ((try dsimp only); (repeat' split) <;> omega), cs := by ((try dsimp only); (repeat' split) <;> omega), hp := ?_, ho := ⟨?_, Own.nil _ _ _ _⟩, hi := ?_, hm := ?_, hs := ⟨?_, Own.nil _ _ _ _⟩, ht := Own.nil _ _ _ _, he := Own.nil _ _ _ _ }
  · exact blk_new _ _ (by simp)
  · exact blk_alloc (blk_alloc (blk_alloc (blk_alloc (blk_new _ _ rfl) _) _) _) _
  · exact blk_alloc (blk_alloc (blk_new _ _ (by simp)) _) _
  · exact blk_alloc (blk_alloc (blk_alloc (blk_new _ _ (by simp)) _) _) _
  · exact blk_alloc (blk_new _ _ (by simp)) _
end Go.Proofs.YtjojhfphlnfimaaGreatDoor.J
