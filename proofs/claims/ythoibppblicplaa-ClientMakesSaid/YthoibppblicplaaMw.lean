/- The law ClientMakes: each edit is refused for the reason that its numbers give, or holds at once. What the numbers give. -/
import Derived.Test.YthoibppblicplaaPut
namespace Go.Proofs.Ythoibppblicplaa.J
open Go Go.RowKit
set_option linter.unusedSimpArgs false
set_option linter.unusedVariables false

structure Made where
  del : Bool
  pos : Int
  ch : Int
def Made.cs (m : Made) : List Value := [.bool m.del, .int .i64 m.pos, .int .i64 m.ch]
def kMade : K Made := ⟨3, Made.cs, fun _ => rfl, fun a v h => by simp [Made.cs] at h; rcases h with rfl | rfl | rfl <;> rfl, by decide⟩

/-- A client that has made these edits, and nothing else. -/
def clOf (id : Int) (d : List Elem) (all : List Edit) : Cl :=
  { Cl.new id with made := all.length, text := d, pending := all, forms := all.map (fun e => ⟨e.op.seq, e.op⟩), flast := all.length }
theorem clOf_nil (id : Int) : clOf id [] [] = Cl.new id := by simp [clOf, Cl.new]
theorem clOf_edited (id : Int) (d : List Elem) (all : List Edit) (o : Op) (h : o.seq = (all.length : Int) + 1) : (clOf id d all).edited o = clOf id (applyE d o) (all ++ [⟨0, o⟩]) := by
  simp [clOf, Cl.edited, Cl.new, h]
theorem clOf_ok {id : Int} {d : List Elem} {all : List Edit} (h1 : 1 ≤ id) (h2 : id ≤ 64) (hd : d.length ≤ all.length) (ha : all.length ≤ 64) : (clOf id d all).Ok :=
  { id1 := h1, id2 := h2, m0 := by simp [clOf], m1 := by simp [clOf]; omega, fl := by simp [clOf], fn := by simp [clOf]; omega, pn := by simp [clOf]; omega, a0 := by simp [clOf, Cl.new], a1 := by simp [clOf, Cl.new], tn := by simp [clOf]; omega }
theorem applyE_len (l : List Elem) (o : Op) : (applyE l o).length ≤ l.length + 1 := by
  unfold applyE
  split
  · simp; omega
  · split
    · simp; omega
    · omega

def badCh (d : Bool) (c : Int) : Bool := !d && (decide (c < 32) || decide (126 < c))
def badPos (d : Bool) (p : Int) (dl : Nat) : Bool := decide (p < 0) || (decide ((dl : Int) < p) || (d && p == dl))
def wantE (d : Bool) (p c : Int) (dl al : Nat) : Int := if badCh d c = true then 42 else if badPos d p dl = true then 43 else if 64 ≤ al then 111 else 0

theorem want_ins {id p c : Int} {d : List Elem} {all : List Edit} (ha : all.length ≤ 64) : insE (clOf id d all) p c = wantE false p c d.length all.length := by
  unfold insE wantE badCh badPos
  change (if c < 32 ∨ 126 < c then (42 : Int) else if p < 0 ∨ (d.length : Int) < p then 43 else if (all.length : Int) = 64 then 111 else 0) = _
  simp only [Bool.not_false, Bool.true_and, Bool.false_and, Bool.or_false, Bool.or_eq_true, decide_eq_true_eq]
  by_cases h1 : c < 32 ∨ 126 < c
  · rw [if_pos h1, if_pos h1]
  · rw [if_neg h1, if_neg h1]
    by_cases h2 : p < 0 ∨ (d.length : Int) < p
    · rw [if_pos h2, if_pos h2]
    · rw [if_neg h2, if_neg h2]
      by_cases h3 : 64 ≤ all.length
      · rw [if_pos (by omega), if_pos h3]
      · rw [if_neg (by omega), if_neg h3]
theorem badPos_del (p : Int) (dl : Nat) : badPos true p dl = decide (p < 0 ∨ (dl : Int) ≤ p) := by
  unfold badPos
  rw [Bool.eq_iff_iff]
  simp only [Bool.true_and, Bool.or_eq_true, decide_eq_true_eq, beq_iff_eq]
  omega
theorem want_del {id p c : Int} {d : List Elem} {all : List Edit} (ha : all.length ≤ 64) : delE (clOf id d all) p = wantE true p c d.length all.length := by
  unfold delE wantE
  rw [badPos_del, show badCh true c = false from rfl]
  change (if p < 0 ∨ (d.length : Int) ≤ p then (43 : Int) else if (all.length : Int) = 64 then 111 else 0) = _
  rw [if_neg (by decide : ¬ (false = true))]
  by_cases h2 : p < 0 ∨ (d.length : Int) ≤ p
  · rw [if_pos h2, if_pos (decide_eq_true h2)]
  · have hd : decide (p < 0 ∨ (d.length : Int) ≤ p) = false := decide_eq_false h2
    rw [if_neg h2, hd, if_neg (by decide : ¬ (false = true))]
    by_cases h3 : 64 ≤ all.length
    · rw [if_pos (by omega), if_pos h3]
    · rw [if_neg (by omega), if_neg h3]

theorem want_ch {p c : Int} {dl al : Nat} (h : wantE false p c dl al = 0) : 32 ≤ c ∧ c ≤ 126 := by
  unfold wantE at h
  by_cases h1 : badCh false c = true
  · rw [if_pos h1] at h; omega
  · simp [badCh] at h1; omega
theorem want_pos {b : Bool} {p c : Int} {dl al : Nat} (h : wantE b p c dl al = 0) : 0 ≤ p ∧ p ≤ dl ∧ (b = true → p < dl) := by
  unfold wantE at h
  by_cases h1 : badCh b c = true
  · rw [if_pos h1] at h; omega
  · rw [if_neg h1] at h
    by_cases h2 : badPos b p dl = true
    · rw [if_pos h2] at h; omega
    · simp only [badPos, Bool.or_eq_true, decide_eq_true_eq, Bool.and_eq_true, beq_iff_eq] at h2
      refine ⟨by omega, by omega, fun hb => ?_⟩
      have : ¬ p = dl := fun e => h2 (.inr (.inr ⟨hb, e⟩))
      omega
theorem want_64 {b : Bool} {p c : Int} {dl al : Nat} (h : wantE b p c dl al = 0) : al < 64 := by
  unfold wantE at h
  repeat' split at h
  all_goals omega


/-- The round that holds: the client, the text and the list under the new colours. -/
theorem mk_rel {id : Int} {p : Nat} {m4 : ClM} {col col4 : Nat → Nat} {w wr w5 w6 w7 wz : World} {D : List Elem} {all' : List Edit} {A6 A7 : Option Addr} {c6 c7 n6 : Nat}
    (hM : Mod No w wr) (hM5 : Mod (fun b => (1 ≤ col b ∧ col b ≤ 1 + 8) ∨ wr.heap.size ≤ b) wr w5) (hma : Mod (fun b => col4 b = 21) w5 w6) (hm7 : Mod No w6 w7) (hmz : Mod No w7 wz)
    (hc5 : ClAt w5 p m4 (clOf id D all') col4 1) (hD7 : Own kElem 70 w7 A7 D.length c7 D (fun b => w6.heap.size ≤ b)) {b0 : Nat} (hE6 : Own kEdit 37 w6 A6 n6 c6 all' (fun b => col4 b = 21 ∨ b = b0)) (hb0 : w5.heap.size ≤ b0)
    (hcol4' : ∀ b, b < wr.heap.size + 3 → col4 b = col b) (hcol : ∀ b, b < w.heap.size → col b = 0) :
    ∃ colZ : Nat → Nat, ClAt wz p m4 (clOf id D all') colZ 1 ∧ Own kElem 70 wz A7 D.length c7 D (fun b => colZ b = 20) ∧ Own kEdit 37 wz A6 n6 c6 all' (fun b => colZ b = 21) ∧
      Mod No w wz ∧ (∀ b, b < w.heap.size → colZ b = 0) ∧ (∀ b, wz.heap.size ≤ b → colZ b = 0) := by
  have s1 := hM.size
  have s2 := hM5.size
  have s3 := hma.size
  have s4 := hm7.size
  have s5 := hmz.size
  obtain ⟨colZ, hz⟩ : ∃ colZ : Nat → Nat, colZ = fun b => if b < w5.heap.size then col4 b else if b < w6.heap.size then 21 else if b < w7.heap.size then 20 else 0 := ⟨_, rfl⟩
  have z1 : ∀ b, b < w5.heap.size → colZ b = col4 b := fun b hb => by rw [hz]; exact if_pos hb
  have z2 : ∀ b, w5.heap.size ≤ b → b < w6.heap.size → colZ b = 21 := fun b h1 h2 => by rw [hz]; dsimp only; rw [if_neg (by omega), if_pos h2]
  have z3 : ∀ b, w6.heap.size ≤ b → b < w7.heap.size → colZ b = 20 := fun b h1 h2 => by rw [hz]; dsimp only; rw [if_neg (by omega), if_neg (by omega), if_pos h2]
  have z4 : ∀ b, w7.heap.size ≤ b → colZ b = 0 := fun b h1 => by rw [hz]; dsimp only; rw [if_neg (by omega), if_neg (by omega), if_neg (by omega)]
  clear hz
  have hall := ((hma.then0 hm7).then0 hmz)
  refine ⟨colZ, hc5.keep hall (fun b hb h1 h2 h => by omega) z1, (hD7.mono (fun b hb h => z3 b h hb)).mod0 hmz, ((hE6.mono (S' := fun b => colZ b = 21) (fun b hb h => ?_)).mod0 hm7).mod0 hmz, ?_, fun b hb => ?_, fun b hb => z4 b (by omega)⟩
  · by_cases h5 : b < w5.heap.size
    · rcases h with h | h
      · rw [z1 b h5]; exact h
      · omega
    · exact z2 b (by omega) hb
  · refine (hM.trans hM5 (fun b hb h => ?_)).trans hall (fun b hb h => ?_)
    · have := hcol b hb; omega
    · have := hcol b hb
      have := hcol4' b (by omega)
      omega
  · rw [z1 b (by omega), hcol4' b (by omega)]
    exact hcol b hb
end Go.Proofs.Ythoibppblicplaa.J
