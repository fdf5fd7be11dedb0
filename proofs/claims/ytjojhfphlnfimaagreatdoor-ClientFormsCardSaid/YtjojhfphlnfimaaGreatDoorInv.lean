/- A client that makes no edit: its state, and whether it takes a record. What a client that makes no edit refuses. .. of records. A new epoch begins; the records that are next are taken in. -/
import Derived.Test.YtjojhfphlnfimaaGreatDoorBox
import Derived.Test.YtjojhfphlnfimaaGreatDoorDec
import Derived.Test.YtjojhfphlnfimaaGreatDoorCl
namespace Go.Proofs.YtjojhfphlnfimaaGreatDoor.J
open Go Go.RowKit
set_option linter.unusedSimpArgs false
set_option linter.unusedVariables false

structure Oc where
  ph : Value
  ep : Int
  hav : Int
  base : Int
  tA : Option Addr
  tc : Nat
  text : List Elem
  s2 : Int

def ocR : List Value := List.replicate 62 (.int .i64 0)
def ocL (po pi ps : Nat) (o : Oc) (R : List Value) : List Value :=
  .pointer (some ⟨po, 0, none⟩) :: .pointer (some ⟨pi, 0, none⟩) :: o.ph :: .int .i64 1 :: .int .i64 o.ep :: .int .i64 0 :: .int .i64 o.hav :: .int .i64 o.base ::
    .slice o.tA o.text.length o.tc :: .slice none 0 0 :: .pointer (some ⟨ps, 0, none⟩) :: .int .i64 0 :: .int .i64 0 :: .int .i64 o.s2 :: R
structure OcAt (w : World) (p po pi pm ps : Nat) (o : Oc) (cum : Int) (l : List (Int × Op)) (R : List Value) : Prop where
  hp : w.heap[p]? = some (.cells (ocL po pi ps o R).toArray 93 (0, 0))
  ho : w.heap[po]? = some (.cells #[.int .i64 8, .int .i64 0, .int .i64 0, .slice none 0 0] 145 (0, 0))
  hi : InAt w pi pm cum l 148
  hs : Sp0 w ps
  ht : Rd kElem w o.tA o.text.length o.tc o.text
  hb : inBlk o.tA (fun b => b ≠ p ∧ b ≠ pi ∧ b ≠ pm ∧ b ≠ po)
  dd : po ≠ p ∧ pi ≠ p ∧ pm ≠ p ∧ ps ≠ p ∧ po ≠ pi ∧ po ≠ pm ∧ ps ≠ pi ∧ ps ≠ pm ∧ pm ≠ pi ∧ po ≠ ps
theorem OcAt.mod0 {w w' : World} {p po pi pm ps : Nat} {o : Oc} {cum : Int} {l : List (Int × Op)} {R : List Value} (h : OcAt w p po pi pm ps o cum l R) (hm : Mod No w w') : OcAt w' p po pi pm ps o cum l R :=
  ⟨hm.heap h.hp (fun h => h), hm.heap h.ho (fun h => h), h.hi.mod hm (fun h => h) (fun h => h), hm.heap h.hs (fun h => h), h.ht.mod0 hm, h.hb, h.dd⟩

set_option maxRecDepth 100000 in
set_option maxHeartbeats 2000000 in
theorem accepts_ok (p po pi pm ps : Nat) (o : Oc) (cum : Int) (l : List (Int × Op)) (R : List Value) (op : Op) (w : World) (h : OcAt w p po pi pm ps o cum l R)
    (hu : op.wf) (hv : validE op = 0) (hc : op.client = 2) (hq : op.seq = o.s2 + 1) (hs0 : 0 ≤ o.s2) (hs1 : o.s2 ≤ 4096) (hf : fitsE o.text.length op = 0) :
    Calls Tryz.prog 86 #[.pointer (some ⟨p, 0, none⟩), op.v] w fun e w' => e = .returned (.int .i64 0) ∧ Mod No w w' := by
  have hlk := fun w' (h : Sp0 w' ps) => look_0 op hu hv ps w' h
  have hft := fun w' => fits_any o.text.length op w' hu
  rw [hf] at hft
  obtain ⟨q1, q2, q3, q4, q5⟩ := op
  dsimp only at hc hq
  subst hc
  subst hq
  simp only [Op.v] at hlk hft ⊢
  have hP := h.hp
  have hS := h.hs
  obtain ⟨ph, ep, hav, base, tA, tc, text, s2⟩ := o
  dsimp only at hs0 hs1 hft
  obtain ⟨n, hn⟩ : ∃ n, text.length = n := ⟨_, rfl⟩
  unfold ocL at hP
  dsimp only at hP
  rw [hn] at hP hft
  clear h hu hv hf hn
  have hA0 : (w.alloc (.cells #[.int .i64 q1, .int .i64 q2, .int .u8 q3, .int .i64 2, .int .i64 (s2 + 1)] 32)).heap[w.heap.size]? = some (.cells #[.int .i64 q1, .int .i64 q2, .int .u8 q3, .int .i64 2, .int .i64 (s2 + 1)] 32 (0, 0)) := blk_new _ _ rfl
  have hP0 := blk_alloc hP (.cells #[.int .i64 q1, .int .i64 q2, .int .u8 q3, .int .i64 2, .int .i64 (s2 + 1)] 32)
  have hS0 : Sp0 (w.alloc (.cells #[.int .i64 q1, .int .i64 q2, .int .u8 q3, .int .i64 2, .int .i64 (s2 + 1)] 32)) ps := blk_alloc hS _
  have hM0 := (Mod.refl No w).alloc (.cells #[.int .i64 q1, .int .i64 q2, .int .u8 q3, .int .i64 2, .int .i64 (s2 + 1)] 32)
  have hQA := blk_at hA0
  have hQP := blk_at hP0
  clear hP hS
  go_enter Tryz.func86, Tryz.ntmps86
  go_upto_region 1 with (fail)
  refine wp_region_text (by kernel_rfl) (by kernel_rfl) (by kernel_rfl) (by kernel_rfl) ?_
  go_wp2
  refine ⟨rfl, by kernel_rfl, ?_⟩
  go_upto_region 6 with (fail)
  refine wp_region_fork ([0, 1, 2, 3, 4].map (·, false)) 7 #[true, true, true, true, true, false, false, false, false, false, false, false] (by kernel_rfl) (by kernel_rfl) (by kernel_rfl) (by kernel_rfl) ?_
  simp only [List.map_cons, List.map_nil, List.filterMap_cons, List.filterMap_nil, pick, List.getElem?_toArray, List.getElem?_cons_zero, List.getElem?_cons_succ, Option.map_some]
  refine wpSeg_rest [_, _, _, _, _] ?_
  go_wp2
  refine ⟨rfl, by kernel_rfl, fun hd => ?_⟩
  refine wpAnyL_fork2 5 9 false false [(6, false), (7, false), (8, false), (9, false), (10, false), (11, false)] [(5, false), (6, false), (7, false), (8, false), (10, false), (11, false)] 0 0 #[true, true, true, true, true, true, true, true, true, true, true, true] #[true, true, true, true, true, true, true, true, true, true, true, true] (by kernel_rfl) (by kernel_rfl) hd (by decide) (by decide) (by kernel_rfl) (by kernel_rfl) (by kernel_rfl) (by kernel_rfl) (by kernel_rfl) ?_ ?_
  · simp only [List.map_cons, List.map_nil, List.filterMap_cons, List.filterMap_nil, pick, List.getElem?_toArray, List.getElem?_cons_zero, List.getElem?_cons_succ, Option.map_some]
    refine wpSeg_rest [_, _, _, _, _, _, _] ?_
    go_wp2_with (go_at_call 110; refine (hlk ((w.alloc (.cells #[.int .i64 q1, .int .i64 q2, .int .u8 q3, .int .i64 2, .int .i64 (s2 + 1)] 32)).drew.drew) hS0).mono ?_; rintro e w1 ⟨rfl, hm1⟩)
    have hA1 := blk_alloc (hm1.heap hA0 (fun h => h)) (.cells #[.int .i64 q1, .int .i64 q2, .int .u8 q3, .int .i64 2, .int .i64 (s2 + 1)] 32)
    have hP1 := blk_alloc (hm1.heap hP0 (fun h => h)) (.cells #[.int .i64 q1, .int .i64 q2, .int .u8 q3, .int .i64 2, .int .i64 (s2 + 1)] 32)
    have hM1 := (hM0.drew.drew.then0 hm1).alloc (.cells #[.int .i64 q1, .int .i64 q2, .int .u8 q3, .int .i64 2, .int .i64 (s2 + 1)] 32)
    have hX1 := blk_new w1 (.cells #[.int .i64 q1, .int .i64 q2, .int .u8 q3, .int .i64 2, .int .i64 (s2 + 1)] 32) rfl
    have hQA1 := blk_at hA1
    have hQP1 := blk_at hP1
    have hQX1 := blk_at hX1
    refine ⟨rfl, by kernel_rfl, fun _ => wpAnyL_done (by kernel_rfl) ⟨rfl, ?_⟩⟩
    go_upto_region 7 with (fail)
    refine wp_region_text (by kernel_rfl) (by kernel_rfl) (by kernel_rfl) (by kernel_rfl) ?_
    go_wp2_with (go_at_call 100; refine (hft _).mono ?_; rintro e w2 ⟨rfl, hm2⟩)
    refine ⟨rfl, by kernel_rfl, ?_⟩
    go_wp2
    go_ret
    exact ⟨rfl, hM1.drew.then0 hm2⟩
  · simp only [List.map_cons, List.map_nil, List.filterMap_cons, List.filterMap_nil, pick, List.getElem?_toArray, List.getElem?_cons_zero, List.getElem?_cons_succ, Option.map_some]
    refine wpSeg_rest [_, _, _, _, _, _, _] ?_
    have hZ0 := blk_new (w.alloc (.cells #[.int .i64 q1, .int .i64 q2, .int .u8 q3, .int .i64 2, .int .i64 (s2 + 1)] 32)) (.cells #[.int .i64 0, .int .i64 0, .int .u8 0, .int .i64 0, .int .i64 0] 32) (b := w.heap.size + 1) (by simp)
    go_wp2_with (go_at_call 110; refine (hlk (((w.alloc (.cells #[.int .i64 q1, .int .i64 q2, .int .u8 q3, .int .i64 2, .int .i64 (s2 + 1)] 32)).alloc (.cells #[.int .i64 0, .int .i64 0, .int .u8 0, .int .i64 0, .int .i64 0] 32)).drew.drew) (blk_alloc hS0 (.cells #[.int .i64 0, .int .i64 0, .int .u8 0, .int .i64 0, .int .i64 0] 32))).mono ?_; rintro e w1 ⟨rfl, hm1⟩; have hA1 := hm1.heap (blk_alloc hA0 (.cells #[.int .i64 0, .int .i64 0, .int .u8 0, .int .i64 0, .int .i64 0] 32)) (fun h => h); have hP1 := hm1.heap (blk_alloc hP0 (.cells #[.int .i64 0, .int .i64 0, .int .u8 0, .int .i64 0, .int .i64 0] 32)) (fun h => h); have hZ1 := hm1.heap hZ0 (fun h => h); have hM1 := ((hM0.alloc (.cells #[.int .i64 0, .int .i64 0, .int .u8 0, .int .i64 0, .int .i64 0] 32)).drew.drew.then0 hm1); have hQZ1 := blk_at hZ1; have hFZ1 := blk_free hZ1)
    refine ⟨rfl, by kernel_rfl, fun _ => wpAnyL_done (by kernel_rfl) ⟨rfl, ?_⟩⟩
    have hs1 := hm1.size
    simp only [World.size_drew, World.size_alloc] at hs1
    have hplt := blk_lt hP0
    have r1 : No (w.heap.size + 1) ∨ w.heap.size ≤ w.heap.size + 1 := .inr (by omega)
    have hpne : p ≠ w.heap.size + 1 := by simp at hplt; omega
    refine cut_worldO (F := fun w5 => w5.heap[w.heap.size]? = some (.cells #[.int .i64 q1, .int .i64 q2, .int .u8 q3, .int .i64 2, .int .i64 (s2 + 1)] 32 (0, 0)) ∧ w5.heap[w.heap.size + 1]? = some (.cells #[.int .i64 q1, .int .i64 q2, .int .u8 q3, .int .i64 2, .int .i64 (s2 + 1)] 32 (0, 0)) ∧ w5.heap[p]? = some (.cells (Value.pointer (some ⟨po, 0, none⟩) :: .pointer (some ⟨pi, 0, none⟩) :: ph :: .int .i64 1 :: .int .i64 ep :: .int .i64 0 :: .int .i64 hav :: .int .i64 base :: .slice tA n tc :: .slice none 0 0 :: .pointer (some ⟨ps, 0, none⟩) :: .int .i64 0 :: .int .i64 0 :: .int .i64 s2 :: R).toArray 93 (0, 0)) ∧ Mod No w w5)
      ⟨blk_set_other (blk_set_other (blk_set_other (blk_set_other (blk_set_other hA1 (by dsimp only; omega) _) (by dsimp only; omega) _) (by dsimp only; omega) _) (by dsimp only; omega) _) (by dsimp only; omega) _,
       blk_set (blk_set (blk_set (blk_set (blk_set hZ1 0 _) 1 _) 2 _) 3 _) 4 _,
       blk_set_other (blk_set_other (blk_set_other (blk_set_other (blk_set_other hP1 hpne _) hpne _) hpne _) hpne _) hpne _,
       mod_setO (mod_setO (mod_setO (mod_setO (mod_setO hM1 r1) r1) r1) r1) r1⟩ ?_
    clear hA1 hZ1 hP1 hM1 hQZ1 hFZ1 hm1 hs1 hQA hQP hP0 hA0 hS0 hM0 hZ0
    rintro w5 ⟨hA5, hX5, hP5, hM5⟩
    have hQA5 := blk_at hA5
    have hQX5 := blk_at hX5
    have hQP5 := blk_at hP5
    go_upto_region 7 with (fail)
    refine wp_region_text (by kernel_rfl) (by kernel_rfl) (by kernel_rfl) (by kernel_rfl) ?_
    go_wp2_with (go_at_call 100; refine (hft _).mono ?_; rintro e w2 ⟨rfl, hm2⟩)
    refine ⟨rfl, by kernel_rfl, ?_⟩
    go_wp2
    go_ret
    exact ⟨rfl, hM5.drew.then0 hm2⟩
end Go.Proofs.YtjojhfphlnfimaaGreatDoor.J

namespace Go.Proofs.YtjojhfphlnfimaaGreatDoor.J
open Go Go.RowKit
set_option linter.unusedSimpArgs false
set_option linter.unusedVariables false

set_option maxRecDepth 100000 in
set_option maxHeartbeats 4000000 in
theorem refused4 (p po pi pm ps : Nat) (o : Oc) (cum : Int) (l : List (Int × Op)) (R : List Value) (m : Msg) (w : World) (h : OcAt w p po pi pm ps o cum l R)
    (hk : m.kind = 4) (hc : m.client = 1) (he : m.epoch = 1) (hep : o.ep ≤ 1) :
    Calls Tryz.prog 56 #[.pointer (some ⟨p, 0, none⟩), m.v] w fun e w' => e = .returned (.int .i64 0) ∧ Mod No w w' := by
  obtain ⟨k, mep, mcl, hv, fi, nu, ac, re, ta, ⟨ok, op, oc, ol, os⟩⟩ := m
  dsimp only at hk hc he
  subst hk hc he
  simp only [Msg.v]
  have hP := h.hp
  obtain ⟨ph, ep, hav, base, tA, tc, text, s2⟩ := o
  unfold ocL at hP
  dsimp only at hP hep
  clear h
  have hA0 : (w.alloc (.cells #[.int .i64 4, .int .i64 1, .int .i64 1, .int .i64 hv, .int .i64 fi, .int .i64 nu, .int .i64 ac, .int .i64 re, .int .i64 ta, .int .i64 ok, .int .i64 op, .int .u8 oc, .int .i64 ol, .int .i64 os] 34)).heap[w.heap.size]? = some (.cells #[.int .i64 4, .int .i64 1, .int .i64 1, .int .i64 hv, .int .i64 fi, .int .i64 nu, .int .i64 ac, .int .i64 re, .int .i64 ta, .int .i64 ok, .int .i64 op, .int .u8 oc, .int .i64 ol, .int .i64 os] 34 (0, 0)) := blk_new _ _ rfl
  have hP0 := blk_alloc hP (.cells #[.int .i64 4, .int .i64 1, .int .i64 1, .int .i64 hv, .int .i64 fi, .int .i64 nu, .int .i64 ac, .int .i64 re, .int .i64 ta, .int .i64 ok, .int .i64 op, .int .u8 oc, .int .i64 ol, .int .i64 os] 34)
  have hQA := blk_at hA0
  have hQP := blk_at hP0
  have hd : decide ((1 : Int) < ep) = false := by simp; omega
  clear hP
  go_enter Tryz.func56, Tryz.ntmps56
  go_upto_region 3 with (fail)
  refine wp_region_text (by kernel_rfl) (by kernel_rfl) (by kernel_rfl) (by kernel_rfl) ?_
  go_wp2
  refine ⟨rfl, by kernel_rfl, ?_⟩
  go_upto_region 5 with (fail)
  refine wp_region_text (by kernel_rfl) (by kernel_rfl) (by kernel_rfl) (by kernel_rfl) ?_
  go_wp2
  refine ⟨rfl, by kernel_rfl, ?_⟩
  go_wp2
  go_ret
  exact ⟨rfl, ((((Mod.refl No w).alloc _).drew).drew)⟩

set_option maxRecDepth 100000 in
set_option maxHeartbeats 4000000 in
theorem refused6 (p po pi pm ps : Nat) (o : Oc) (cum : Int) (l : List (Int × Op)) (R : List Value) (m : Msg) (w : World) (h : OcAt w p po pi pm ps o cum l R)
    (hk : m.kind = 6) (hc : m.client = 1) (he : m.epoch = 1) (hep : o.ep = 1) (ha : m.ack = 0) :
    Calls Tryz.prog 56 #[.pointer (some ⟨p, 0, none⟩), m.v] w fun e w' => e = .returned (.int .i64 0) ∧ Mod No w w' := by
  obtain ⟨k, mep, mcl, hv, fi, nu, ac, re, ta, ⟨ok, op, oc, ol, os⟩⟩ := m
  dsimp only at hk hc he ha
  subst hk hc he ha
  simp only [Msg.v]
  have hP := h.hp
  have hO := h.ho
  obtain ⟨ph, ep, hav, base, tA, tc, text, s2⟩ := o
  unfold ocL at hP
  dsimp only at hP hep
  subst hep
  clear h
  have hA0 : (w.alloc (.cells #[.int .i64 6, .int .i64 1, .int .i64 1, .int .i64 hv, .int .i64 fi, .int .i64 nu, .int .i64 0, .int .i64 re, .int .i64 ta, .int .i64 ok, .int .i64 op, .int .u8 oc, .int .i64 ol, .int .i64 os] 34)).heap[w.heap.size]? = some (.cells #[.int .i64 6, .int .i64 1, .int .i64 1, .int .i64 hv, .int .i64 fi, .int .i64 nu, .int .i64 0, .int .i64 re, .int .i64 ta, .int .i64 ok, .int .i64 op, .int .u8 oc, .int .i64 ol, .int .i64 os] 34 (0, 0)) := blk_new _ _ rfl
  have hP0 := blk_alloc hP (.cells #[.int .i64 6, .int .i64 1, .int .i64 1, .int .i64 hv, .int .i64 fi, .int .i64 nu, .int .i64 0, .int .i64 re, .int .i64 ta, .int .i64 ok, .int .i64 op, .int .u8 oc, .int .i64 ol, .int .i64 os] 34)
  have hO0 := blk_alloc hO (.cells #[.int .i64 6, .int .i64 1, .int .i64 1, .int .i64 hv, .int .i64 fi, .int .i64 nu, .int .i64 0, .int .i64 re, .int .i64 ta, .int .i64 ok, .int .i64 op, .int .u8 oc, .int .i64 ol, .int .i64 os] 34)
  have hQA := blk_at hA0
  have hQP := blk_at hP0
  clear hP hO
  obtain ⟨w1, hw1⟩ : ∃ w1, w1 = w.alloc (.cells #[.int .i64 6, .int .i64 1, .int .i64 1, .int .i64 hv, .int .i64 fi, .int .i64 nu, .int .i64 0, .int .i64 re, .int .i64 ta, .int .i64 ok, .int .i64 op, .int .u8 oc, .int .i64 ol, .int .i64 os] 34) := ⟨_, rfl⟩
  go_enter Tryz.func56, Tryz.ntmps56
  go_upto_region 3 with (fail)
  refine wp_region_text (by kernel_rfl) (by kernel_rfl) (by kernel_rfl) (by kernel_rfl) ?_
  go_wp2
  refine ⟨rfl, by kernel_rfl, ?_⟩
  go_upto_region 5 with (fail)
  refine wp_region_text (by kernel_rfl) (by kernel_rfl) (by kernel_rfl) (by kernel_rfl) ?_
  go_wp2
  refine ⟨rfl, by kernel_rfl, ?_⟩
  go_upto_region 9 with (fail)
  refine wp_region_seg ([0, 1, 2, 3, 4, 5, 6].map (·, false) ++ [(7, true), (8, false), (9, false)]) (by kernel_rfl) (by kernel_rfl) (by kernel_rfl) (by kernel_rfl) ?_
  simp only [List.map_cons, List.map_nil, List.cons_append, List.nil_append, List.filterMap_cons, List.filterMap_nil, pick, List.getElem?_toArray, List.getElem?_cons_zero, List.getElem?_cons_succ, Option.map_some]
  refine wpSeg_cut (fun e a w h => h.1) [_, _, _, _, _, _, _] _ _ _ ?_
  go_wp2
  refine wpSeg_mark rfl ?_
  go_wp2_with (go_at_call 84; refine (sent_0 po _ _ _ _ _ ((w.alloc (.cells #[.int .i64 6, .int .i64 1, .int .i64 1, .int .i64 hv, .int .i64 fi, .int .i64 nu, .int .i64 0, .int .i64 re, .int .i64 ta, .int .i64 ok, .int .i64 op, .int .u8 oc, .int .i64 ol, .int .i64 os] 34)).drew.drew.drew) hO0).mono ?_; rintro e w2 ⟨rfl, rfl⟩; refine ⟨Old.refl _, ?_⟩)
  refine wpSeg_rest [_, _] ?_
  go_wp2
  refine ⟨rfl, by kernel_rfl, ?_⟩
  go_wp2
  go_ret
  exact ⟨rfl, (((Mod.refl No w).alloc _).drew).drew.drew⟩
end Go.Proofs.YtjojhfphlnfimaaGreatDoor.J

namespace Go.Proofs.YtjojhfphlnfimaaGreatDoor.J
open Go Go.RowKit
set_option linter.unusedSimpArgs false
set_option linter.unusedVariables false

set_option maxRecDepth 100000 in
set_option maxHeartbeats 4000000 in
theorem refused5 (p po pi pm ps : Nat) (o : Oc) (cum : Int) (l : List (Int × Op)) (R : List Value) (m : Msg) (w : World) (h : OcAt w p po pi pm ps o cum l R)
    (hk : m.kind = 5) (hc : m.client = 1) (he : m.epoch = 1) (hep : o.ep = 1) (ha : m.ack = 0) (hb : o.base = 0) (hrev : m.rev = m.num) (hn1 : 1 ≤ m.num) (hn2 : m.num ≤ 4096) (hc0 : 0 ≤ cum) (hc1 : cum ≤ 4096)
    (hacc : m.num = cum + 1 → m.op.wf ∧ validE m.op = 0 ∧ m.op.client = 2 ∧ m.op.seq = o.s2 + 1 ∧ 0 ≤ o.s2 ∧ o.s2 ≤ 4096 ∧ fitsE o.text.length m.op = 0) (fe : Int) (hfe : Hid (fe = if m.num > cum + 8 then 93 else 0)) :
    Calls Tryz.prog 56 #[.pointer (some ⟨p, 0, none⟩), m.v] w fun e w' => e = .returned (.int .i64 fe) ∧ Mod No w w' := by
  have hac2 := fun (h9 : m.num = cum + 1) w' (h' : OcAt w' p po pi pm ps o cum l R) => accepts_ok p po pi pm ps o cum l R m.op w' h' (hacc h9).1 (hacc h9).2.1 (hacc h9).2.2.1 (hacc h9).2.2.2.1 (hacc h9).2.2.2.2.1 (hacc h9).2.2.2.2.2.1 (hacc h9).2.2.2.2.2.2
  clear hacc
  obtain ⟨k, mep, mcl, hv, fi, nu, ac, re, ta, ⟨ok, op, oc, ol, os⟩⟩ := m
  dsimp only at hk hc he ha hrev hn1 hn2 hac2 hfe ⊢
  subst hk hc he ha hrev
  simp only [Msg.v, Op.v] at hac2 ⊢
  have hP := h.hp
  have hO := h.ho
  have hI := h.hi.1
  obtain ⟨ph, ep, hav, base, tA, tc, text, s2⟩ := o
  unfold ocL at hP
  dsimp only at hP hep hb
  subst hep hb
  have HH := Lib.hid h
  clear h
  go_enter Tryz.func56, Tryz.ntmps56
  go_wp2
  refine cut_worldO (F := fun w1 => w1.heap[w.heap.size]? = some (.cells #[.int .i64 5, .int .i64 1, .int .i64 1, .int .i64 hv, .int .i64 fi, .int .i64 re, .int .i64 0, .int .i64 re, .int .i64 ta, .int .i64 ok, .int .i64 op, .int .u8 oc, .int .i64 ol, .int .i64 os] 34 (0, 0)) ∧ Mod No w w1)
    ⟨blk_new _ _ rfl, (Mod.refl No w).alloc _⟩ ?_
  rintro w1 ⟨hA1, hM1⟩
  have hP1 := hM1.heap hP (fun h => h)
  have hO1 := hM1.heap hO (fun h => h)
  have hI1 := hM1.heap hI (fun h => h)
  have HH1 := Lib.hid (HH.out.mod0 hM1)
  have hQA := blk_at hA1
  have hQP := blk_at hP1
  clear hP hO hI HH
  go_upto_region 3 with (fail)
  refine wp_region_text (by kernel_rfl) (by kernel_rfl) (by kernel_rfl) (by kernel_rfl) ?_
  go_wp2
  refine ⟨rfl, by kernel_rfl, ?_⟩
  go_upto_region 5 with (fail)
  refine wp_region_text (by kernel_rfl) (by kernel_rfl) (by kernel_rfl) (by kernel_rfl) ?_
  go_wp2
  refine ⟨rfl, by kernel_rfl, ?_⟩
  go_upto_region 9 with (fail)
  refine wp_region_seg ([0, 1, 2, 3, 4, 5, 6].map (·, false) ++ [(7, true), (8, false), (9, false)]) (by kernel_rfl) (by kernel_rfl) (by kernel_rfl) (by kernel_rfl) ?_
  simp only [List.map_cons, List.map_nil, List.cons_append, List.nil_append, List.filterMap_cons, List.filterMap_nil, pick, List.getElem?_toArray, List.getElem?_cons_zero, List.getElem?_cons_succ, Option.map_some]
  refine wpSeg_cut (fun e a w h => h.1) [_, _, _, _, _, _, _] _ _ _ ?_
  go_wp2
  refine wpSeg_mark rfl ?_
  go_wp2_with (go_at_call 84; refine (sent_0 po _ _ _ _ _ (w1.drew.drew.drew) hO1).mono ?_; rintro e w2 ⟨rfl, rfl⟩; refine ⟨Old.refl _, ?_⟩)
  refine wpSeg_rest [_, _] ?_
  go_wp2
  refine ⟨rfl, by kernel_rfl, ?_⟩
  go_upto_region 13 with (fail)
  refine wp_region_text (by kernel_rfl) (by kernel_rfl) (by kernel_rfl) (by kernel_rfl) ?_
  go_wp2
  refine ⟨rfl, by kernel_rfl, ?_⟩
  go_upto_region 15 with (fail)
  refine wp_region_seg ([0, 1, 2, 3, 4, 5, 6].map (·, false) ++ [(7, true), (8, false), (9, false), (10, false)]) (by kernel_rfl) (by kernel_rfl) (by kernel_rfl) (by kernel_rfl) ?_
  simp only [List.map_cons, List.map_nil, List.cons_append, List.nil_append, List.filterMap_cons, List.filterMap_nil, pick, List.getElem?_toArray, List.getElem?_cons_zero, List.getElem?_cons_succ, Option.map_some]
  refine wpSeg_cut (fun e a w h => h.1) [_, _, _, _, _, _, _] _ _ _ ?_
  go_wp2
  refine wpSeg_mark rfl ?_
  go_wp2_with (go_at_call 85; refine (cum_ok pi _ _ _ _ (w1.drew.drew.drew.drew.drew) hI1).mono ?_; rintro e w2 ⟨rfl, rfl⟩; refine ⟨Old.refl _, ?_⟩)
  refine wpSeg_rest [_, _, _] ?_
  by_cases hfar : re > cum + 8
  · have hd : decide (cum + 8 < re) = true := by simp; omega
    have HF := Lib.hid hfar
    clear hfar
    go_wp2
    refine ⟨rfl, by kernel_rfl, ?_⟩
    go_wp2
    go_ret
    exact ⟨by rw [hfe.out, if_pos (by have := HF.out; omega)]; rfl, hM1.drew.drew.drew.drew.drew⟩
  · have hd : decide (cum + 8 < re) = false := by simp; omega
    have HF := Lib.hid hfar
    clear hfar
    go_wp2
    refine ⟨rfl, by kernel_rfl, ?_⟩
    go_upto_region 17 with (fail)
    refine wp_region_seg ([0, 1, 2, 3, 4, 5, 6].map (·, false) ++ [(7, true), (8, false), (9, false), (10, false)]) (by kernel_rfl) (by kernel_rfl) (by kernel_rfl) (by kernel_rfl) ?_
    simp only [List.map_cons, List.map_nil, List.cons_append, List.nil_append, List.filterMap_cons, List.filterMap_nil, pick, List.getElem?_toArray, List.getElem?_cons_zero, List.getElem?_cons_succ, Option.map_some]
    refine wpSeg_cut (fun e a w h => h.1) [_, _, _, _, _, _, _] _ _ _ ?_
    go_wp2
    refine wpSeg_mark rfl ?_
    go_wp2_with (go_at_call 85; refine (cum_ok pi _ _ _ _ (w1.drew.drew.drew.drew.drew.drew) hI1).mono ?_; rintro e w2 ⟨rfl, rfl⟩; refine ⟨Old.refl _, ?_⟩)
    refine wpSeg_rest [_, _, _] ?_
    by_cases hnx : re = cum + 1
    · have hac3 := hac2 hnx
      have hd2 : (re == cum + 1) = true := by simp [hnx]
      clear hnx hac2
      go_wp2
      refine ⟨rfl, by kernel_rfl, ?_⟩
      go_wp2_with (go_at_call 86; refine (hac3 _ (HH1.out.mod0 (Mod.refl No w1).drew.drew.drew.drew.drew.drew)).mono ?_; rintro e w4 ⟨rfl, hm4⟩)
      go_ret
      exact ⟨by rw [hfe.out, if_neg (by have := HF.out; omega)]; rfl, hM1.drew.drew.drew.drew.drew.drew.then0 hm4⟩
    · have hd2 : (re == cum + 1) = false := by simp [hnx]
      clear hnx hac2
      go_wp2
      refine ⟨rfl, by kernel_rfl, ?_⟩
      go_wp2
      go_ret
      exact ⟨by rw [hfe.out, if_neg (by have := HF.out; omega)]; rfl, hM1.drew.drew.drew.drew.drew.drew⟩
end Go.Proofs.YtjojhfphlnfimaaGreatDoor.J

namespace Go.Proofs.YtjojhfphlnfimaaGreatDoor.J
open Go Go.RowKit
set_option linter.unusedSimpArgs false
set_option linter.unusedVariables false

section
variable (po pi ps : Nat) (o : Oc) (R : List Value)
theorem ocL_ep (e : Int) : (ocL po pi ps o R).toArray.setIfInBounds 4 (.int .i64 e) = (ocL po pi ps { o with ep := e } R).toArray := by simp [ocL]
theorem ocL_ph (v : Value) : (ocL po pi ps o R).toArray.setIfInBounds 2 v = (ocL po pi ps { o with ph := v } R).toArray := by simp [ocL]
theorem ocL_base (e : Int) : (ocL po pi ps o R).toArray.setIfInBounds 7 (.int .i64 e) = (ocL po pi ps { o with base := e } R).toArray := by simp [ocL]
theorem ocL_hav (e : Int) : (ocL po pi ps o R).toArray.setIfInBounds 6 (.int .i64 e) = (ocL po pi ps { o with hav := e } R).toArray := by simp [ocL]
theorem ocL_s2 (e : Int) : (ocL po pi ps o R).toArray.setIfInBounds 13 (.int .i64 e) = (ocL po pi ps { o with s2 := e } R).toArray := by simp [ocL]
theorem ocL_text (A : Option Addr) (n c : Nat) (l : List Elem) (h : n = l.length) : (ocL po pi ps o R).toArray.setIfInBounds 8 (.slice A n c) = (ocL po pi ps { o with tA := A, tc := c, text := l } R).toArray := by simp [ocL, h]
end

set_option maxRecDepth 100000 in
set_option maxHeartbeats 2000000 in
theorem invited_ok (p po pi pm ps : Nat) (o : Oc) (cum : Int) (l : List (Int × Op)) (R : List Value) (w : World) (h : OcAt w p po pi pm ps o cum l R) (he : o.ep = 0) :
    Calls Tryz.prog 57 #[.pointer (some ⟨p, 0, none⟩), .int .i64 1] w fun e w' => e = .returned (.tuple #[]) ∧ OcAt w' p po pi pm ps { o with ep := 1, ph := .iface 170 (.agg #[]), base := o.hav } 0 [] R ∧ Mod (fun b => b = p ∨ b = pi ∨ b = pm ∨ b = po) w w' := by
  obtain ⟨d1, d2, d3, d4, d5, d6, d7, d8, d9, d10⟩ := h.dd
  have hP := h.hp
  have hP3 := blk_set (blk_set (blk_set hP 4 (.int .i64 1)) 2 (.iface 170 (.agg #[]))) 7 (.int .i64 o.hav)
  rw [ocL_ep, ocL_ph, ocL_base] at hP3
  have hI3 : InAt (((w.setCell ⟨p, 4, none⟩ (.int .i64 1)).setCell ⟨p, 2, none⟩ (.iface 170 (.agg #[]))).setCell ⟨p, 7, none⟩ (.int .i64 o.hav)) pi pm cum l 148 :=
    h.hi.mod (mod_setO (mod_setO (mod_setO (Mod.refl (fun b => b = p) w) (.inl rfl)) (.inl rfl)) (.inl rfl)) d2 d3
  have hM3 : Mod (fun b => b = p) w (((w.setCell ⟨p, 4, none⟩ (.int .i64 1)).setCell ⟨p, 2, none⟩ (.iface 170 (.agg #[]))).setCell ⟨p, 7, none⟩ (.int .i64 o.hav)) := mod_setO (mod_setO (mod_setO (Mod.refl (fun b => b = p) w) (.inl rfl)) (.inl rfl)) (.inl rfl)
  have hQP := blk_at hP
  have hFP := blk_free hP
  have HH := Lib.hid h
  have hir := fun w' (h' : InAt w' pi pm cum l 148) => ireset_ok pi pm cum l w' h' d9
  obtain ⟨ph, ep, hav, base, tA, tc, text, s2⟩ := o
  dsimp only at he hP3 hI3 hM3 ⊢
  subst he
  unfold ocL at hQP
  dsimp only at hQP
  have HP3 := Lib.hid hP3
  have HM3 := Lib.hid hM3
  clear h hP hP3 hM3
  go_enter Tryz.func57, Tryz.ntmps57
  go_wp2_with (first
    | (go_at_call 87; refine (hir _ hI3).mono ?_; rintro e w1 ⟨rfl, hm1, hI1⟩; have hP1 := hm1.heap HP3.out (by omega); have hQ1 := blk_at hP1; unfold ocL at hQ1; dsimp only at hQ1; have hO1 := hm1.heap (HM3.out.heap HH.out.ho d1) (by omega))
    | (go_at_call 88; refine (oreset_0 po _ hO1).mono ?_; rintro e w2 ⟨rfl, hm2, hO2⟩; have hP2 := hm2.heap hP1 (by omega); have hQ2 := blk_at hP2; unfold ocL at hQ2; dsimp only at hQ2))
  go_loopw [45] (fun s45 wr => s45 = .int .i64 0 ∧ wr = w2) (fun _ _ => 0)
  case atStart => exact ⟨rfl, rfl⟩
  case round =>
    obtain ⟨rfl, rfl⟩ := hrel
    go_wp2
    go_end0
    have hMa : Mod (fun b => b = p ∨ b = pi ∨ b = pm ∨ b = po) w wr := ((HM3.out.mono (fun b _ h => .inl h)).and (hm1.mono (fun b _ h => by rcases h with h | h; exact .inr (.inl h); exact .inr (.inr (.inl h))))).and (hm2.mono (fun b _ h => .inr (.inr (.inr h))))
    refine ⟨rfl, ⟨hm2.heap hP1 (by omega), hO2, hI1.mod hm2 (by omega) (by omega), hMa.heap HH.out.hs (by omega), HH.out.ht.mod hMa (fun a ha => ?_), HH.out.hb, HH.out.dd⟩, hMa⟩
    have := HH.out.hb a ha
    dsimp only at this
    omega
end Go.Proofs.YtjojhfphlnfimaaGreatDoor.J
