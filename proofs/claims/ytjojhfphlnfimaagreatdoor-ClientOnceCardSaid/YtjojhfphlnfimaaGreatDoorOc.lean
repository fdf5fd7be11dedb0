/- A client that makes no edit: its state, and whether it takes a record. -/
import Derived.Test.YtjojhfphlnfimaaGreatDoorBox
import Derived.Test.YtjojhfphlnfimaaGreatDoorDec
import Derived.Test.YtjojhfphlnfimaaGreatDoorCl
namespace Go.Proofs.YtjojhfphlnfimaaGreatDoor.J
open Go Go.RowKit
set_option linter.unusedSimpArgs false
set_option linter.unusedVariables false

structure Oc where
  ph : Value
  ep : Int
  hav : Int
  base : Int
  tA : Option Addr
  tc : Nat
  text : List Elem
  s2 : Int

def ocR : List Value := List.replicate 62 (.int .i64 0)
def ocL (po pi ps : Nat) (o : Oc) (R : List Value) : List Value :=
  .pointer (some ⟨po, 0, none⟩) :: .pointer (some ⟨pi, 0, none⟩) :: o.ph :: .int .i64 1 :: .int .i64 o.ep :: .int .i64 0 :: .int .i64 o.hav :: .int .i64 o.base ::
    .slice o.tA o.text.length o.tc :: .slice none 0 0 :: .pointer (some ⟨ps, 0, none⟩) :: .int .i64 0 :: .int .i64 0 :: .int .i64 o.s2 :: R
structure OcAt (w : World) (p po pi pm ps : Nat) (o : Oc) (cum : Int) (l : List (Int × Op)) (R : List Value) : Prop where
  hp : w.heap[p]? = some (.cells (ocL po pi ps o R).toArray 93 (0, 0))
  ho : w.heap[po]? = some (.cells #[.int .i64 8, .int .i64 0, .int .i64 0, .slice none 0 0] 145 (0, 0))
  hi : InAt w pi pm cum l 148
  hs : Sp0 w ps
  ht : Rd kElem w o.tA o.text.length o.tc o.text
  hb : inBlk o.tA (fun b => b ≠ p ∧ b ≠ pi ∧ b ≠ pm ∧ b ≠ po)
  dd : po ≠ p ∧ pi ≠ p ∧ pm ≠ p ∧ ps ≠ p ∧ po ≠ pi ∧ po ≠ pm ∧ ps ≠ pi ∧ ps ≠ pm ∧ pm ≠ pi ∧ po ≠ ps
theorem OcAt.mod0 {w w' : World} {p po pi pm ps : Nat} {o : Oc} {cum : Int} {l : List (Int × Op)} {R : List Value} (h : OcAt w p po pi pm ps o cum l R) (hm : Mod No w w') : OcAt w' p po pi pm ps o cum l R :=
  ⟨hm.heap h.hp (fun h => h), hm.heap h.ho (fun h => h), h.hi.mod hm (fun h => h) (fun h => h), hm.heap h.hs (fun h => h), h.ht.mod0 hm, h.hb, h.dd⟩

set_option maxRecDepth 100000 in
set_option maxHeartbeats 2000000 in
theorem accepts_ok (p po pi pm ps : Nat) (o : Oc) (cum : Int) (l : List (Int × Op)) (R : List Value) (op : Op) (w : World) (h : OcAt w p po pi pm ps o cum l R)
    (hu : op.wf) (hv : validE op = 0) (hc : op.client = 2) (hq : op.seq = o.s2 + 1) (hs0 : 0 ≤ o.s2) (hs1 : o.s2 ≤ 4096) (hf : fitsE o.text.length op = 0) :
    Calls Tryz.prog 86 #[.pointer (some ⟨p, 0, none⟩), op.v] w fun e w' => e = .returned (.int .i64 0) ∧ Mod No w w' := by
  have hlk := fun w' (h : Sp0 w' ps) => look_0 op hu hv ps w' h
  have hft := fun w' => fits_any o.text.length op w' hu
  rw [hf] at hft
  obtain ⟨q1, q2, q3, q4, q5⟩ := op
  dsimp only at hc hq
  subst hc
  subst hq
  simp only [Op.v] at hlk hft ⊢
  have hP := h.hp
  have hS := h.hs
  obtain ⟨ph, ep, hav, base, tA, tc, text, s2⟩ := o
  dsimp only at hs0 hs1 hft
  obtain ⟨n, hn⟩ : ∃ n, text.length = n := ⟨_, rfl⟩
  unfold ocL at hP
  dsimp only at hP
  rw [hn] at hP hft
  clear h hu hv hf hn
  have hA0 : (w.alloc (.cells #[.int .i64 q1, .int .i64 q2, .int .u8 q3, .int .i64 2, .int .i64 (s2 + 1)] 32)).heap[w.heap.size]? = some (.cells #[.int .i64 q1, .int .i64 q2, .int .u8 q3, .int .i64 2, .int .i64 (s2 + 1)] 32 (0, 0)) := blk_new _ _ rfl
  have hP0 := blk_alloc hP (.cells #[.int .i64 q1, .int .i64 q2, .int .u8 q3, .int .i64 2, .int .i64 (s2 + 1)] 32)
  have hS0 : Sp0 (w.alloc (.cells #[.int .i64 q1, .int .i64 q2, .int .u8 q3, .int .i64 2, .int .i64 (s2 + 1)] 32)) ps := blk_alloc hS _
  have hM0 := (Mod.refl No w).alloc (.cells #[.int .i64 q1, .int .i64 q2, .int .u8 q3, .int .i64 2, .int .i64 (s2 + 1)] 32)
  have hQA := blk_at hA0
  have hQP := blk_at hP0
  clear hP hS
  go_enter Tryz.func86, Tryz.ntmps86
  go_upto_region 1 with (fail)
  refine wp_region_text (by kernel_rfl) (by kernel_rfl) (by kernel_rfl) (by kernel_rfl) ?_
  go_wp2
  refine ⟨rfl, by kernel_rfl, ?_⟩
  go_upto_region 6 with (fail)
  refine wp_region_fork ([0, 1, 2, 3, 4].map (·, false)) 7 #[true, true, true, true, true, false, false, false, false, false, false, false] (by kernel_rfl) (by kernel_rfl) (by kernel_rfl) (by kernel_rfl) ?_
  simp only [List.map_cons, List.map_nil, List.filterMap_cons, List.filterMap_nil, pick, List.getElem?_toArray, List.getElem?_cons_zero, List.getElem?_cons_succ, Option.map_some]
  refine wpSeg_rest [_, _, _, _, _] ?_
  go_wp2
  refine ⟨rfl, by kernel_rfl, fun hd => ?_⟩
  refine wpAnyL_fork2 5 9 false false [(6, false), (7, false), (8, false), (9, false), (10, false), (11, false)] [(5, false), (6, false), (7, false), (8, false), (10, false), (11, false)] 0 0 #[true, true, true, true, true, true, true, true, true, true, true, true] #[true, true, true, true, true, true, true, true, true, true, true, true] (by kernel_rfl) (by kernel_rfl) hd (by decide) (by decide) (by kernel_rfl) (by kernel_rfl) (by kernel_rfl) (by kernel_rfl) (by kernel_rfl) ?_ ?_
  · simp only [List.map_cons, List.map_nil, List.filterMap_cons, List.filterMap_nil, pick, List.getElem?_toArray, List.getElem?_cons_zero, List.getElem?_cons_succ, Option.map_some]
    refine wpSeg_rest [_, _, _, _, _, _, _] ?_
    go_wp2_with (go_at_call 110; refine (hlk ((w.alloc (.cells #[.int .i64 q1, .int .i64 q2, .int .u8 q3, .int .i64 2, .int .i64 (s2 + 1)] 32)).drew.drew) hS0).mono ?_; rintro e w1 ⟨rfl, hm1⟩)
    have hA1 := blk_alloc (hm1.heap hA0 (fun h => h)) (.cells #[.int .i64 q1, .int .i64 q2, .int .u8 q3, .int .i64 2, .int .i64 (s2 + 1)] 32)
    have hP1 := blk_alloc (hm1.heap hP0 (fun h => h)) (.cells #[.int .i64 q1, .int .i64 q2, .int .u8 q3, .int .i64 2, .int .i64 (s2 + 1)] 32)
    have hM1 := (hM0.drew.drew.then0 hm1).alloc (.cells #[.int .i64 q1, .int .i64 q2, .int .u8 q3, .int .i64 2, .int .i64 (s2 + 1)] 32)
    have hX1 := blk_new w1 (.cells #[.int .i64 q1, .int .i64 q2, .int .u8 q3, .int .i64 2, .int .i64 (s2 + 1)] 32) rfl
    have hQA1 := blk_at hA1
    have hQP1 := blk_at hP1
    have hQX1 := blk_at hX1
    refine ⟨rfl, by kernel_rfl, fun _ => wpAnyL_done (by kernel_rfl) ⟨rfl, ?_⟩⟩
    go_upto_region 7 with (fail)
    refine wp_region_text (by kernel_rfl) (by kernel_rfl) (by kernel_rfl) (by kernel_rfl) ?_
    go_wp2_with (go_at_call 100; refine (hft _).mono ?_; rintro e w2 ⟨rfl, hm2⟩)
    refine ⟨rfl, by kernel_rfl, ?_⟩
    go_wp2
    go_ret
    exact ⟨rfl, hM1.drew.then0 hm2⟩
  · simp only [List.map_cons, List.map_nil, List.filterMap_cons, List.filterMap_nil, pick, List.getElem?_toArray, List.getElem?_cons_zero, List.getElem?_cons_succ, Option.map_some]
    refine wpSeg_rest [_, _, _, _, _, _, _] ?_
    have hZ0 := blk_new (w.alloc (.cells #[.int .i64 q1, .int .i64 q2, .int .u8 q3, .int .i64 2, .int .i64 (s2 + 1)] 32)) (.cells #[.int .i64 0, .int .i64 0, .int .u8 0, .int .i64 0, .int .i64 0] 32) (b := w.heap.size + 1) (by simp)
    go_wp2_with (go_at_call 110; refine (hlk (((w.alloc (.cells #[.int .i64 q1, .int .i64 q2, .int .u8 q3, .int .i64 2, .int .i64 (s2 + 1)] 32)).alloc (.cells #[.int .i64 0, .int .i64 0, .int .u8 0, .int .i64 0, .int .i64 0] 32)).drew.drew) (blk_alloc hS0 (.cells #[.int .i64 0, .int .i64 0, .int .u8 0, .int .i64 0, .int .i64 0] 32))).mono ?_; rintro e w1 ⟨rfl, hm1⟩; have hA1 := hm1.heap (blk_alloc hA0 (.cells #[.int .i64 0, .int .i64 0, .int .u8 0, .int .i64 0, .int .i64 0] 32)) (fun h => h); have hP1 := hm1.heap (blk_alloc hP0 (.cells #[.int .i64 0, .int .i64 0, .int .u8 0, .int .i64 0, .int .i64 0] 32)) (fun h => h); have hZ1 := hm1.heap hZ0 (fun h => h); have hM1 := ((hM0.alloc (.cells #[.int .i64 0, .int .i64 0, .int .u8 0, .int .i64 0, .int .i64 0] 32)).drew.drew.then0 hm1); have hQZ1 := blk_at hZ1; have hFZ1 := blk_free hZ1)
    refine ⟨rfl, by kernel_rfl, fun _ => wpAnyL_done (by kernel_rfl) ⟨rfl, ?_⟩⟩
    have hs1 := hm1.size
    simp only [World.size_drew, World.size_alloc] at hs1
    have hplt := blk_lt hP0
    have r1 : No (w.heap.size + 1) ∨ w.heap.size ≤ w.heap.size + 1 := .inr (by omega)
    have hpne : p ≠ w.heap.size + 1 := by simp at hplt; omega
    refine cut_worldO (F := fun w5 => w5.heap[w.heap.size]? = some (.cells #[.int .i64 q1, .int .i64 q2, .int .u8 q3, .int .i64 2, .int .i64 (s2 + 1)] 32 (0, 0)) ∧ w5.heap[w.heap.size + 1]? = some (.cells #[.int .i64 q1, .int .i64 q2, .int .u8 q3, .int .i64 2, .int .i64 (s2 + 1)] 32 (0, 0)) ∧ w5.heap[p]? = some (.cells (Value.pointer (some ⟨po, 0, none⟩) :: .pointer (some ⟨pi, 0, none⟩) :: ph :: .int .i64 1 :: .int .i64 ep :: .int .i64 0 :: .int .i64 hav :: .int .i64 base :: .slice tA n tc :: .slice none 0 0 :: .pointer (some ⟨ps, 0, none⟩) :: .int .i64 0 :: .int .i64 0 :: .int .i64 s2 :: R).toArray 93 (0, 0)) ∧ Mod No w w5)
      ⟨blk_set_other (blk_set_other (blk_set_other (blk_set_other (blk_set_other hA1 (by dsimp only; omega) _) (by dsimp only; omega) _) (by dsimp only; omega) _) (by dsimp only; omega) _) (by dsimp only; omega) _,
       blk_set (blk_set (blk_set (blk_set (blk_set hZ1 0 _) 1 _) 2 _) 3 _) 4 _,
       blk_set_other (blk_set_other (blk_set_other (blk_set_other (blk_set_other hP1 hpne _) hpne _) hpne _) hpne _) hpne _,
       mod_setO (mod_setO (mod_setO (mod_setO (mod_setO hM1 r1) r1) r1) r1) r1⟩ ?_
    clear hA1 hZ1 hP1 hM1 hQZ1 hFZ1 hm1 hs1 hQA hQP hP0 hA0 hS0 hM0 hZ0
    rintro w5 ⟨hA5, hX5, hP5, hM5⟩
    have hQA5 := blk_at hA5
    have hQX5 := blk_at hX5
    have hQP5 := blk_at hP5
    go_upto_region 7 with (fail)
    refine wp_region_text (by kernel_rfl) (by kernel_rfl) (by kernel_rfl) (by kernel_rfl) ?_
    go_wp2_with (go_at_call 100; refine (hft _).mono ?_; rintro e w2 ⟨rfl, hm2⟩)
    refine ⟨rfl, by kernel_rfl, ?_⟩
    go_wp2
    go_ret
    exact ⟨rfl, hM5.drew.then0 hm2⟩
end Go.Proofs.YtjojhfphlnfimaaGreatDoor.J
