/- The records that are next are taken in. takeIn: the walk. Receive, of the datagrams that a plain server sends. Receive of a record. -/
import Derived.Test.YtjojhfphlnfimaaGreatDoorInv
import Derived.Deep.DeepCutAuto
namespace Go.Proofs.YtjojhfphlnfimaaGreatDoor.J
open Go Go.RowKit
set_option linter.unusedSimpArgs false
set_option linter.unusedVariables false

section
variable {w w' : World} {p po pi pm ps : Nat} {o o' : Oc} {cum cum' : Int} {l l' : List (Int × Op)} {R : List Value}
theorem OcAt.inbox (h : OcAt w p po pi pm ps o cum l R) (hm : Mod (fun b => b = pi ∨ b = pm) w w') (hi : InAt w' pi pm cum' l' 148) : OcAt w' p po pi pm ps o cum' l' R := by
  obtain ⟨d1, d2, d3, d4, d5, d6, d7, d8, d9, d10⟩ := h.dd
  exact ⟨hm.heap h.hp (by omega), hm.heap h.ho (by omega), hi, hm.heap h.hs (by omega), h.ht.mod hm (fun a ha => by have := h.hb a ha; dsimp only at this; omega), h.hb, h.dd⟩
theorem OcAt.setP (h : OcAt w p po pi pm ps o cum l R) (i : Nat) (v : Value) (hl : (ocL po pi ps o R).toArray.setIfInBounds i v = (ocL po pi ps o' R).toArray) (h1 : o'.tA = o.tA) (h2 : o'.tc = o.tc) (h3 : o'.text = o.text) :
    OcAt (w.setCell ⟨p, i, none⟩ v) p po pi pm ps o' cum l R := by
  obtain ⟨d1, d2, d3, d4, d5, d6, d7, d8, d9, d10⟩ := h.dd
  have hm : Mod (fun b => b = p) w (w.setCell ⟨p, i, none⟩ v) := mod_setO (Mod.refl (fun b => b = p) w) (.inl rfl)
  have hP := blk_set h.hp i v
  rw [hl] at hP
  exact ⟨hP, hm.heap h.ho (by omega), h.hi.mod hm (by omega) (by omega), hm.heap h.hs (by omega), by rw [h1, h2, h3]; exact h.ht.mod hm (fun a ha => by have := h.hb a ha; dsimp only at this; omega), by rw [h1]; exact h.hb, h.dd⟩
theorem OcAt.setT (h : OcAt w p po pi pm ps o cum l R) (A : Option Addr) (n c : Nat) (tx : List Elem) (hr : Rd kElem w A n c tx) (hb : inBlk A (fun b => b ≠ p ∧ b ≠ pi ∧ b ≠ pm ∧ b ≠ po)) :
    OcAt (w.setCell ⟨p, 8, none⟩ (.slice A n c)) p po pi pm ps { o with tA := A, tc := c, text := tx } cum l R := by
  obtain ⟨d1, d2, d3, d4, d5, d6, d7, d8, d9, d10⟩ := h.dd
  have hm : Mod (fun b => b = p) w (w.setCell ⟨p, 8, none⟩ (.slice A n c)) := mod_setO (Mod.refl (fun b => b = p) w) (.inl rfl)
  have hP := blk_set h.hp 8 (.slice A n c)
  rw [ocL_text po pi ps o R A n c tx hr.1] at hP
  have hn := hr.1
  subst hn
  exact ⟨hP, hm.heap h.ho (by omega), h.hi.mod hm (by omega) (by omega), hm.heap h.hs (by omega), hr.mod hm (fun a ha => by have := hb a ha; dsimp only at this; omega), hb, h.dd⟩
theorem cell_lt {w : World} {a : Addr} {v : Value} (h : w.cell? a = some v) : a.block < w.heap.size := by
  rcases Nat.lt_or_ge a.block w.heap.size with hl | hl
  · exact hl
  · have e : w.heap[a.block]? = none := Array.getElem?_eq_none hl
    unfold World.cell? at h
    simp [e] at h
theorem OcAt.textOld (h : OcAt w p po pi pm ps o cum l R) : inBlk o.tA (fun b => b < w.heap.size) ∨ o.text = [] := by
  by_cases hn : o.text = []
  · exact .inr hn
  · refine .inl (fun a ha => ?_)
    have hl : 0 < o.text.length := List.length_pos_iff.2 hn
    have hx := List.getElem?_eq_getElem (l := o.text) (i := 0) hl
    obtain ⟨b, off, hA, hc⟩ := h.ht.at hx
    rw [hA] at ha
    cases ha
    exact cell_lt (hc 0 _ rfl)
theorem OcAt.beside {B : Nat} (h : OcAt w p po pi pm ps o cum l R) (hm : Mod (fun b => b = B) w w') (h1 : p ≠ B) (h2 : po ≠ B) (h3 : pi ≠ B) (h4 : pm ≠ B) (h5 : ps ≠ B) (ht : inBlk o.tA (fun b => b ≠ B) ∨ o.text = []) : OcAt w' p po pi pm ps o cum l R := by
  refine ⟨hm.heap h.hp h1, hm.heap h.ho h2, h.hi.mod hm h3 h4, hm.heap h.hs h5, ?_, h.hb, h.dd⟩
  rcases ht with ht | ht
  · exact h.ht.mod hm ht
  · have := h.ht
    rw [ht] at this ⊢
    exact ⟨this.1, this.2.1, this.2.2.1, this.2.2.2.1, fun j u hu => by simp [K.all] at hu⟩
theorem OcAt.drewN (h : OcAt w p po pi pm ps o cum l R) (n : Nat) : OcAt (w.drewN n) p po pi pm ps o cum l R := h.mod0 ((Mod.refl No w).drewN n)
theorem OcAt.drew (h : OcAt w p po pi pm ps o cum l R) : OcAt w.drew p po pi pm ps o cum l R := h.mod0 (Mod.refl No w).drew
end

/-- One record is taken in: from Pop on. -/
def opCells (q : Op) : Array Value := #[.int .i64 q.kind, .int .i64 q.pos, .int .u8 q.ch, .int .i64 q.client, .int .i64 q.seq]

/-- The text behind the first n of the records. -/
def textE (L : List Op) (n : Nat) : List Elem := (L.take n).foldl applyE []
theorem textE_next (L : List Op) (n : Nat) (q : Op) (h : L[n]? = some q) : textE L (n + 1) = applyE (textE L n) q := by
  unfold textE; rw [List.take_add_one, h]; simp
/-- Records that follow one another, each an insertion of client 2's that fits. -/
def recsOk (L : List Op) : Prop := L.length ≤ 64 ∧ ∀ (i : Nat) (q : Op), L[i]? = some q → q.wf ∧ validE q = 0 ∧ q.client = 2 ∧ q.seq = (i : Int) + 1 ∧ q.kind = 1 ∧ 0 ≤ q.pos ∧ q.pos ≤ i ∧ fitsE (i : Int) q = 0
theorem textE_len (L : List Op) (h : recsOk L) (n : Nat) (hn : n ≤ L.length) : (textE L n).length = n := by
  induction n with
  | zero => simp [textE]
  | succ n ih =>
    have hx := List.getElem?_eq_getElem (l := L) (i := n) (by omega)
    obtain ⟨_, _, _, _, hk, h1, h2, _⟩ := h.2 n _ hx
    rw [textE_next L n _ hx]
    have ih' := ih (by omega)
    generalize L[n]'(by omega) = q at *
    unfold applyE
    rw [if_pos hk]
    simp only [List.length_append, List.length_take, List.length_drop, List.length_cons, List.length_nil, ih']
    omega
def heldIn (L : List Op) (l : List (Int × Op)) : Prop := ∀ k q, findH k l = some q → ∃ i : Nat, k = (i : Int) + 1 ∧ L[i]? = some q
end Go.Proofs.YtjojhfphlnfimaaGreatDoor.J

namespace Go.Proofs.YtjojhfphlnfimaaGreatDoor.J
open Go Go.RowKit
set_option linter.unusedSimpArgs false
set_option linter.unusedVariables false

set_option maxRecDepth 100000 in
set_option maxHeartbeats 8000000 in
theorem takeIn_ok (L : List Op) (hL : recsOk L) (p po pi pm ps : Nat) (ph : Value) (ep base : Int) (tA : Option Addr) (tc : Nat) (h : Nat) (l : List (Int × Op)) (R : List Value) (w : World)
    (hO : OcAt w p po pi pm ps ⟨ph, ep, h, base, tA, tc, textE L h, h⟩ h l R) (hd : distH l) (hin : heldIn L l) (hh : h ≤ L.length) (hlb : p < w.heap.size ∧ pi < w.heap.size ∧ pm < w.heap.size ∧ po < w.heap.size) :
    Calls Tryz.prog 60 #[.pointer (some ⟨p, 0, none⟩)] w fun e w' => e = .returned (.tuple #[]) ∧ ∃ (j : Nat) (l' : List (Int × Op)) (A : Option Addr) (c : Nat), h ≤ j ∧ j ≤ L.length ∧ OcAt w' p po pi pm ps ⟨ph, ep, j, base, A, c, textE L j, j⟩ j l' R ∧ distH l' ∧ heldIn L l' ∧
      (∀ k : Int, findH k l' = if k ≤ j ∧ (h : Int) < k then none else findH k l) ∧ (∀ k : Int, (h : Int) < k → k ≤ j → (findH k l).isSome = true) ∧ findH (j + 1) l' = none ∧ Mod (fun b => b = p ∨ b = pi ∨ b = pm) w w' ∧ ((A = tA ∧ j = h) ∨ inBlk A (fun b => w.heap.size ≤ b)) := by
  have HL := Lib.hid hL
  have hL64 := hL.1
  have HO := Lib.hid hO
  have HIN := Lib.hid hin
  have HD := Lib.hid hd
  clear hL hO hin hd
  go_enter Tryz.func60, Tryz.ntmps60
  go_wp2
  go_loopw [2, 3, 4, 5] (fun _ _ _ _ wr => ∃ (j : Nat) (l' : List (Int × Op)) (A : Option Addr) (c : Nat), Hid (h ≤ j ∧ j ≤ L.length ∧ OcAt wr p po pi pm ps ⟨ph, ep, j, base, A, c, textE L j, j⟩ j l' R ∧ distH l' ∧ heldIn L l' ∧
      (∀ k : Int, findH k l' = if k ≤ j ∧ (h : Int) < k then none else findH k l) ∧ (∀ k : Int, (h : Int) < k → k ≤ j → (findH k l).isSome = true) ∧ Mod (fun b => b = p ∨ b = pi ∨ b = pm) w wr ∧ ((A = tA ∧ j = h) ∨ inBlk A (fun b => w.heap.size ≤ b)))) (fun _ _ _ _ wr => L.length - (intOf ((wr.cell? ⟨p, 6, none⟩).getD undef)).toNat)
  case atStart => exact ⟨h, l, tA, tc, Lib.hid ⟨Nat.le_refl _, hh, HO.out, HD.out, HIN.out, fun k => by rw [if_neg (by omega)], fun k h1 h2 => by omega, Mod.refl _ _, .inl ⟨rfl, rfl⟩⟩⟩
  case round =>
    clear HO HIN HD
    obtain ⟨j, l', A, c, HREL⟩ := hrel
    obtain ⟨hj1, hj2, hO, hd, hin, hf1, hf2, hM, hTA⟩ := HREL.out
    have HTA := Lib.hid hTA
    clear hTA
    have hcell : (wr.cell? ⟨p, 6, none⟩).getD undef = .int .i64 j := by rw [blk_at hO.hp]; simp [ocL]
    have hhd := head_ok pi pm j l' wr hO.hi (by omega) (by omega)
    have HO := Lib.hid hO
    have hP := hO.hp
    have HMs := Lib.hid hcell
    cases hfind : findH ((j : Int) + 1) l' with
    | none =>
      rw [hfind] at hhd
      simp only [Option.getD_none, Option.isSome_none, Op.v, Op.zero] at hhd
      have HF := Lib.hid hfind
      have hQP := blk_at hP
      unfold ocL at hQP
      dsimp only at hQP
      have HM := Lib.hid hM
      have H1 := Lib.hid hf1
      have H2 := Lib.hid hf2
      have HD := Lib.hid hd
      have HIN := Lib.hid hin
      clear hP hO hM hf1 hf2 hd hin hfind HREL hcell
      go_wp2_with (go_at_call 89; refine hhd.mono ?_; rintro e w1 ⟨rfl, hm1⟩)
      refine bodyPost_ret (results_none rfl _ _ _) rfl ?_
      exact ⟨rfl, j, l', A, c, hj1, hj2, HO.out.mod0 (hm1.alloc _), HD.out, HIN.out, H1.out, H2.out, HF.out, (HM.out.then0 hm1).alloc _, HTA.out⟩
    | some q =>
      obtain ⟨i0, hi0, hLi⟩ := hin _ _ hfind
      obtain rfl : i0 = j := by omega
      have hjl : i0 < L.length := (List.getElem?_eq_some_iff.1 hLi).1
      obtain ⟨hqw, hqv, hqc, hqs, hqk, hqp1, hqp2, hqf⟩ := HL.out.2 _ _ hLi
      have htn := textE_next L i0 q hLi
      have htl := textE_len L HL.out i0 (by omega)
      rw [hfind] at hhd
      simp only [Option.getD_some, Option.isSome_some, Op.v] at hhd
      have hac := fun w' (h' : OcAt w' p po pi pm ps ⟨ph, ep, i0, base, A, c, textE L i0, i0⟩ i0 l' R) => accepts_ok p po pi pm ps ⟨ph, ep, i0, base, A, c, textE L i0, i0⟩ i0 l' R q w' h' hqw hqv hqc (by dsimp only; exact hqs) (by dsimp only; omega) (by dsimp only; omega) (by dsimp only; rw [htl]; exact hqf)
      have hpp := fun w' h' => pop_ok pi pm i0 l' q w' h' hO.dd.2.2.2.2.2.2.2.2.1 (by omega) (by omega) hfind
      have hcr := fun w' (h' : Sp0 w' ps) => cross_0 q hqw hqv ps w' h'
      have hap := fun w' (h' : Rd kElem w' A (textE L i0).length c (textE L i0)) => apply_ok A (textE L i0).length c q (textE L i0) w' hqw h' (by rw [htl]; exact hqf)
      rw [← htn] at hap
      have HT := Lib.hid htl
      have HDl := Lib.hid (distH_del (n := (i0 : Int) + 1) hd)
      have HFD := Lib.hid (fun k => findH_del (n := (i0 : Int) + 1) (k := k) hd)
      have HF := Lib.hid hfind
      have HM := Lib.hid hM
      have H1 := Lib.hid hf1
      have H2 := Lib.hid hf2
      have HIN := Lib.hid hin
      obtain ⟨q1, q2, q3, q4, q5⟩ := q
      dsimp only at hqc hqs hqk
      subst hqc
      subst hqk
      simp only [Op.v] at hac hcr hap
      have hQP := blk_at hP
      unfold ocL at hQP
      dsimp only at hQP
      have hq0 : q5 = (i0 : Int) + 1 := hqs
      subst hq0
      clear hP hO hM hf1 hf2 hd hin hfind HREL hcell htn htl hqw hqv hqf hqs hLi
      go_upto_region 6 with (first
        | (go_at_call 89; refine hhd.mono ?_; rintro e w1 ⟨rfl, hm1⟩; have hX2 := blk_new w1 (.cells #[.int .i64 1, .int .i64 q2, .int .u8 q3, .int .i64 2, .int .i64 ((i0 : Int) + 1)] 32) rfl; have HO2 := Lib.hid (HO.out.mod0 (hm1.alloc (.cells #[.int .i64 1, .int .i64 q2, .int .u8 q3, .int .i64 2, .int .i64 ((i0 : Int) + 1)] 32))); have hQ2 := blk_at HO2.out.hp; unfold ocL at hQ2; dsimp only at hQ2; have hQX2 := blk_at hX2)
        | (go_at_call 86; refine (hac _ HO2.out).mono ?_; rintro e w3 ⟨rfl, hm3⟩; have HO3 := Lib.hid (HO2.out.mod0 hm3); have hX3 := hm3.heap hX2 (fun h => h); have hQ3 := blk_at HO3.out.hp; unfold ocL at hQ3; dsimp only at hQ3)
        | (go_at_call 91; refine (hpp _ HO3.out.hi).mono ?_; rintro e w4 ⟨rfl, hm4, hI4⟩; have HO4 := Lib.hid (HO3.out.inbox hm4 hI4); have hQ4 := blk_at HO4.out.hp; unfold ocL at hQ4; dsimp only at hQ4; have hF4 := blk_free HO4.out.hp))
      have hsz1 := hm1.size
      obtain ⟨b2, hb2⟩ : ∃ b2, w1.heap.size = b2 := ⟨_, rfl⟩
      have hl1 := blk_lt HO.out.hp
      have hl2 := blk_lt HO.out.hi.1
      have hl3 : pm < wr.heap.size := by obtain ⟨es, ck, hmm, _⟩ := HO.out.hi.2; exact blk_lt hmm
      have hX4 := hm4.heap hX3 (by omega)
      have hMa : Mod (fun b => b = p ∨ b = pi ∨ b = pm) w w4 := ((HM.out.then0 hm1).alloc _).then0 hm3 |>.and (hm4.mono (fun b _ h => .inr h))
      have hbp : b2 ≠ p := by omega
      rw [hb2] at hX4 ⊢
      refine cut_worldO (F := fun w5 => Hid (OcAt w5 p po pi pm ps ⟨ph, ep, (i0 : Int) + 1, base, A, c, textE L i0, i0⟩ ((i0 : Int) + 1) (delH ((i0 : Int) + 1) l') R ∧ w5.heap[b2]? = some (.cells #[.int .i64 1, .int .i64 q2, .int .u8 q3, .int .i64 2, .int .i64 ((i0 : Int) + 1)] 32 (0, 0)) ∧ Mod (fun b => b = p ∨ b = pi ∨ b = pm) w w5))
        ⟨HO4.out.setP 6 (.int .i64 ((i0 : Int) + 1)) (ocL_hav po pi ps _ R _) rfl rfl rfl, blk_set_other hX4 (by dsimp only; omega) _, mod_setO hMa (.inl (.inl rfl))⟩ ?_
      clear HO4 hQ4 hF4 hX4 hMa hm4 hI4 HO3 hX3 hQ3 hm3 HO2 hX2 hQ2 hQX2 hm1 hsz1 HM HO hQP
      rintro w5 HW5
      have hQ5 := blk_at HW5.out.1.hp
      have hF5 := blk_free HW5.out.1.hp
      unfold ocL at hQ5
      dsimp only at hQ5
      have hX5 := HW5.out.2.1
      have hQX5 := blk_at hX5
      refine wp_region_text (by kernel_rfl) (by kernel_rfl) (by kernel_rfl) (by kernel_rfl) ?_
      go_wp2
      refine ⟨rfl, by kernel_rfl, ?_⟩
      go_upto_region 9 with (fail)
      refine wp_region_text (by kernel_rfl) (by kernel_rfl) (by kernel_rfl) (by kernel_rfl) ?_
      go_wp2
      refine ⟨rfl, by kernel_rfl, ?_⟩
      go_upto_region 10 with (fail)
      refine cut_worldO (F := fun w6 => Hid (OcAt w6 p po pi pm ps ⟨ph, ep, (i0 : Int) + 1, base, A, c, textE L i0, (i0 : Int) + 1⟩ ((i0 : Int) + 1) (delH ((i0 : Int) + 1) l') R ∧ w6.heap[b2]? = some (.cells #[.int .i64 1, .int .i64 q2, .int .u8 q3, .int .i64 2, .int .i64 ((i0 : Int) + 1)] 32 (0, 0)) ∧ Mod (fun b => b = p ∨ b = pi ∨ b = pm) w w6))
        ⟨(HW5.out.1.setP 13 (.int .i64 ((i0 : Int) + 1)) (ocL_s2 po pi ps _ R _) rfl rfl rfl).drew.drew, blk_set_other hX5 hbp _, (mod_setO HW5.out.2.2 (.inl (.inl rfl))).drew.drew⟩ ?_
      clear HW5 hQ5 hF5 hX5 hQX5
      rintro w6 HW6
      have hQ6 := blk_at HW6.out.1.hp
      unfold ocL at hQ6
      dsimp only at hQ6
      have hX6 := HW6.out.2.1
      have hQX6 := blk_at hX6
      have hS6 := HW6.out.1.hs
      refine wp_region_fork ([0, 1, 2, 3, 4].map (·, false)) 7 #[true, true, true, true, true, false, false, false, false, false, false, false] (by kernel_rfl) (by kernel_rfl) (by kernel_rfl) (by kernel_rfl) ?_
      simp only [List.map_cons, List.map_nil, List.filterMap_cons, List.filterMap_nil, pick, List.getElem?_toArray, List.getElem?_cons_zero, List.getElem?_cons_succ, Option.map_some]
      refine wpSeg_rest [_, _, _, _, _] ?_
      go_wp2
      refine ⟨rfl, by kernel_rfl, fun hd => ?_⟩
      refine wpAnyL_fork2 5 9 false false [(6, false), (7, false), (8, false), (9, false), (10, false), (11, false)] [(5, false), (6, false), (7, false), (8, false), (10, false), (11, false)] 0 0 #[true, true, true, true, true, true, true, true, true, true, true, true] #[true, true, true, true, true, true, true, true, true, true, true, true] (by kernel_rfl) (by kernel_rfl) hd (by decide) (by decide) (by kernel_rfl) (by kernel_rfl) (by kernel_rfl) (by kernel_rfl) (by kernel_rfl) ?_ ?_
      · simp only [List.map_cons, List.map_nil, List.filterMap_cons, List.filterMap_nil, pick, List.getElem?_toArray, List.getElem?_cons_zero, List.getElem?_cons_succ, Option.map_some]
        refine wpSeg_rest [_, _, _, _, _, _, _] ?_
        go_wp2_with (go_at_call 38; refine (hcr w6.drew hS6).mono ?_; rintro e w7 ⟨rfl, hm7⟩)
        refine ⟨rfl, by kernel_rfl, fun _ => wpAnyL_done (by kernel_rfl) ⟨rfl, ?_⟩⟩
        refine cut_worldO (F := fun w9 => Hid (OcAt w9 p po pi pm ps ⟨ph, ep, (i0 : Int) + 1, base, A, c, textE L i0, (i0 : Int) + 1⟩ ((i0 : Int) + 1) (delH ((i0 : Int) + 1) l') R ∧ w9.heap[w7.heap.size]? = some (.cells #[.int .i64 1, .int .i64 q2, .int .u8 q3, .int .i64 2, .int .i64 ((i0 : Int) + 1)] 32 (0, 0)) ∧ Mod (fun b => b = p ∨ b = pi ∨ b = pm) w w9))
          ⟨(HW6.out.1.drew.mod0 hm7).mod0 ((Mod.refl No w7).alloc _), blk_new w7 (.cells #[.int .i64 1, .int .i64 q2, .int .u8 q3, .int .i64 2, .int .i64 ((i0 : Int) + 1)] 32) rfl, (HW6.out.2.2.drew.then0 hm7).alloc _⟩ ?_
        rintro w9 HW9
        have hQ9 := blk_at HW9.out.1.hp
        unfold ocL at hQ9
        dsimp only at hQ9
        have hX9 := HW9.out.2.1
        have hQX9 := blk_at hX9
        go_upto_region 11 with (fail)
        refine wp_region_text (by kernel_rfl) (by kernel_rfl) (by kernel_rfl) (by kernel_rfl) ?_
        go_wp2_with (go_at_call 70; refine (hap _ (show Rd kElem (World.drew w9) A _ c _ from HW9.out.1.ht.drew)).mono ?_; rintro e w10 ⟨A', n', c', rfl, hm10, hO10⟩; have HO10 := Lib.hid (HW9.out.1.drew.mod0 hm10); have hF10 := blk_free HO10.out.hp; have hQ10 := blk_at HO10.out.hp; unfold ocL at hQ10; dsimp only at hQ10)
        refine ⟨rfl, by kernel_rfl, ?_⟩
        go_wp2
        have hs10 := HW9.out.2.2.size
        have hs11 : w9.heap.size ≤ w10.heap.size := hm10.size
        have hbA : inBlk A' (fun b => b ≠ p ∧ b ≠ pi ∧ b ≠ pm ∧ b ≠ po) := fun a ha => by
          have h9 : w9.heap.size ≤ a.block := hO10.inBlk a ha
          dsimp only
          omega
        have HT10 := Lib.hid (HO10.out.setT A' n' c' (textE L (i0 + 1)) hO10.rd hbA)
        have hMf : Mod (fun b => b = p ∨ b = pi ∨ b = pm) w (w10.setCell ⟨p, 8, none⟩ (.slice A' n' c')) := mod_setO (HW9.out.2.2.drew.then0 hm10) (.inl (.inl rfl))
        go_roundw
        case rel =>
          refine ⟨i0 + 1, _, A', c', Lib.hid ⟨by omega, by omega, HT10.out, HDl.out, ?_, ?_, ?_, hMf, .inr (fun a ha => by have h9 : w9.heap.size ≤ a.block := hO10.inBlk a ha; dsimp only; omega)⟩⟩
          · intro k q hk
            rw [HFD.out] at hk
            split at hk
            · cases hk
            · exact HIN.out k q hk
          · intro k
            rw [HFD.out, H1.out]
            by_cases h1 : k = (i0 : Int) + 1
            · rw [if_pos h1, if_pos (by omega)]
            · rw [if_neg h1]
              by_cases h2 : k ≤ (i0 : Int) ∧ (h : Int) < k
              · rw [if_pos h2, if_pos (by omega)]
              · rw [if_neg h2, if_neg (by omega)]
          · intro k h1 h2
            by_cases h3 : k = (i0 : Int) + 1
            · have := HF.out
              rw [H1.out, if_neg (by omega)] at this
              rw [h3, this]; rfl
            · exact H2.out k h1 (by omega)
        case measure =>
          have e1 : (World.cell? (w10.setCell ⟨p, 8, none⟩ (.slice A' n' c')) ⟨p, 6, none⟩).getD undef = .int .i64 ((i0 : Int) + 1) := by rw [blk_at HT10.out.hp]; simp [ocL]
          first
            | (rw [HMs.out, e1]; simp [intOf]; omega)
            | (simp only [HMs.out, e1]; simp [intOf]; omega)
      · simp only [List.map_cons, List.map_nil, List.filterMap_cons, List.filterMap_nil, pick, List.getElem?_toArray, List.getElem?_cons_zero, List.getElem?_cons_succ, Option.map_some]
        refine wpSeg_rest [_, _, _, _, _, _, _] ?_
        have hZ6 := blk_new w6 (.cells #[.int .i64 0, .int .i64 0, .int .u8 0, .int .i64 0, .int .i64 0] 32) rfl
        have hX6a := blk_alloc hX6 (.cells #[.int .i64 0, .int .i64 0, .int .u8 0, .int .i64 0, .int .i64 0] 32)
        have hP6a := blk_alloc HW6.out.1.hp (.cells #[.int .i64 0, .int .i64 0, .int .u8 0, .int .i64 0, .int .i64 0] 32)
        have hQX6a := blk_at hX6a
        have hQ6a := blk_at hP6a
        unfold ocL at hQ6a
        dsimp only at hQ6a
        go_wp2_with (go_at_call 38; refine (hcr ((w6.alloc (.cells #[.int .i64 0, .int .i64 0, .int .u8 0, .int .i64 0, .int .i64 0] 32)).drew) (blk_alloc hS6 (.cells #[.int .i64 0, .int .i64 0, .int .u8 0, .int .i64 0, .int .i64 0] 32))).mono ?_; rintro e w7 ⟨rfl, hm7⟩; have hZ7 := hm7.heap hZ6 (fun h => h); have hQZ7 := blk_at hZ7; have hFZ7 := blk_free hZ7)
        refine ⟨rfl, by kernel_rfl, fun _ => wpAnyL_done (by kernel_rfl) ⟨rfl, ?_⟩⟩
        have hs7 : w6.heap.size + 1 ≤ w7.heap.size := by have := hm7.size; simpa using this
        have hs6 := HW6.out.2.2.size
        have hM7 := (HW6.out.2.2.alloc (.cells #[.int .i64 0, .int .i64 0, .int .u8 0, .int .i64 0, .int .i64 0] 32)).drew.then0 hm7
        have hOc7 := Lib.hid ((HW6.out.1.mod0 ((Mod.refl No w6).alloc (.cells #[.int .i64 0, .int .i64 0, .int .u8 0, .int .i64 0, .int .i64 0] 32))).drew.mod0 hm7)
        have hMs7 : ∀ v0 v1 v2 v3 v4, Mod (fun b => b = w6.heap.size) w7 (((((w7.setCell ⟨w6.heap.size, 0, none⟩ v0).setCell ⟨w6.heap.size, 1, none⟩ v1).setCell ⟨w6.heap.size, 2, none⟩ v2).setCell ⟨w6.heap.size, 3, none⟩ v3).setCell ⟨w6.heap.size, 4, none⟩ v4) := fun v0 v1 v2 v3 v4 => mod_setO (mod_setO (mod_setO (mod_setO (mod_setO (Mod.refl _ _) (.inl rfl)) (.inl rfl)) (.inl rfl)) (.inl rfl)) (.inl rfl)
        have r7 : (fun b => b = p ∨ b = pi ∨ b = pm) w6.heap.size ∨ w.heap.size ≤ w6.heap.size := .inr hs6
        have h6p := blk_lt HW6.out.1.hp
        have h6o := blk_lt HW6.out.1.ho
        have h6i := blk_lt HW6.out.1.hi.1
        have h6m : pm < w6.heap.size := by obtain ⟨es, ck, hmm, _⟩ := HW6.out.1.hi.2; exact blk_lt hmm
        have h6s := blk_lt HW6.out.1.hs
        have hOf := Lib.hid (fun v0 v1 v2 v3 v4 => hOc7.out.beside (hMs7 v0 v1 v2 v3 v4) (by omega) (by omega) (by omega) (by omega) (by omega) (HW6.out.1.textOld.imp (fun h a ha => Nat.ne_of_lt (h a ha)) id))
        refine cut_worldO (F := fun w9 => Hid (OcAt w9 p po pi pm ps ⟨ph, ep, (i0 : Int) + 1, base, A, c, textE L i0, (i0 : Int) + 1⟩ ((i0 : Int) + 1) (delH ((i0 : Int) + 1) l') R ∧ w9.heap[w6.heap.size]? = some (.cells #[.int .i64 1, .int .i64 q2, .int .u8 q3, .int .i64 2, .int .i64 ((i0 : Int) + 1)] 32 (0, 0)) ∧ Mod (fun b => b = p ∨ b = pi ∨ b = pm) w w9))
          ⟨hOf.out _ _ _ _ _, blk_set (blk_set (blk_set (blk_set (blk_set hZ7 0 _) 1 _) 2 _) 3 _) 4 _, mod_setO (mod_setO (mod_setO (mod_setO (mod_setO hM7 r7) r7) r7) r7) r7⟩ ?_
        clear hZ6 hX6a hP6a hQX6a hQ6a hZ7 hQZ7 hFZ7 hm7 hs7 hM7 hOc7 hMs7 hOf
        rintro w9 HW9
        have hQ9 := blk_at HW9.out.1.hp
        unfold ocL at hQ9
        dsimp only at hQ9
        have hX9 := HW9.out.2.1
        have hQX9 := blk_at hX9
        go_upto_region 11 with (fail)
        refine wp_region_text (by kernel_rfl) (by kernel_rfl) (by kernel_rfl) (by kernel_rfl) ?_
        go_wp2_with (go_at_call 70; refine (hap _ (show Rd kElem (World.drew w9) A _ c _ from HW9.out.1.ht.drew)).mono ?_; rintro e w10 ⟨A', n', c', rfl, hm10, hO10⟩; have HO10 := Lib.hid (HW9.out.1.drew.mod0 hm10); have hF10 := blk_free HO10.out.hp; have hQ10 := blk_at HO10.out.hp; unfold ocL at hQ10; dsimp only at hQ10)
        refine ⟨rfl, by kernel_rfl, ?_⟩
        go_wp2
        have hs10 := HW9.out.2.2.size
        have hs11 : w9.heap.size ≤ w10.heap.size := hm10.size
        have hbA : inBlk A' (fun b => b ≠ p ∧ b ≠ pi ∧ b ≠ pm ∧ b ≠ po) := fun a ha => by
          have h9 : w9.heap.size ≤ a.block := hO10.inBlk a ha
          dsimp only
          omega
        have HT10 := Lib.hid (HO10.out.setT A' n' c' (textE L (i0 + 1)) hO10.rd hbA)
        have hMf : Mod (fun b => b = p ∨ b = pi ∨ b = pm) w (w10.setCell ⟨p, 8, none⟩ (.slice A' n' c')) := mod_setO (HW9.out.2.2.drew.then0 hm10) (.inl (.inl rfl))
        go_roundw
        case rel =>
          refine ⟨i0 + 1, _, A', c', Lib.hid ⟨by omega, by omega, HT10.out, HDl.out, ?_, ?_, ?_, hMf, .inr (fun a ha => by have h9 : w9.heap.size ≤ a.block := hO10.inBlk a ha; dsimp only; omega)⟩⟩
          · intro k q hk
            rw [HFD.out] at hk
            split at hk
            · cases hk
            · exact HIN.out k q hk
          · intro k
            rw [HFD.out, H1.out]
            by_cases h1 : k = (i0 : Int) + 1
            · rw [if_pos h1, if_pos (by omega)]
            · rw [if_neg h1]
              by_cases h2 : k ≤ (i0 : Int) ∧ (h : Int) < k
              · rw [if_pos h2, if_pos (by omega)]
              · rw [if_neg h2, if_neg (by omega)]
          · intro k h1 h2
            by_cases h3 : k = (i0 : Int) + 1
            · have := HF.out
              rw [H1.out, if_neg (by omega)] at this
              rw [h3, this]; rfl
            · exact H2.out k h1 (by omega)
        case measure =>
          have e1 : (World.cell? (w10.setCell ⟨p, 8, none⟩ (.slice A' n' c')) ⟨p, 6, none⟩).getD undef = .int .i64 ((i0 : Int) + 1) := by rw [blk_at HT10.out.hp]; simp [ocL]
          first
            | (rw [HMs.out, e1]; simp [intOf]; omega)
            | (simp only [HMs.out, e1]; simp [intOf]; omega)
end Go.Proofs.YtjojhfphlnfimaaGreatDoor.J

namespace Go.Proofs.YtjojhfphlnfimaaGreatDoor.J
open Go Go.RowKit
set_option linter.unusedSimpArgs false
set_option linter.unusedVariables false

theorem wrap_ok (a e0 : Int) (w : World) : Calls Tryz.prog 46 #[.int .i64 a, .int .i64 e0] w fun e w' => (∃ q, e = .returned (.iface 157 (.pointer (some q)))) ∧ Mod No w w' := by
  go_enter Tryz.func46, Tryz.ntmps46
  go_wp2
  go_ret
  exact ⟨⟨_, rfl⟩, (Mod.refl No w).alloc _⟩

set_option maxRecDepth 100000 in
set_option maxHeartbeats 4000000 in
theorem recv4 (m : Msg) (hm : m = ⟨4, 1, 1, 0, 0, 0, 0, 0, 0, ⟨0, 0, 0, 0, 0⟩⟩) (p po pi pm ps : Nat) (o : Oc) (cum : Int) (l : List (Int × Op)) (R : List Value) (B : Option Addr) (n c : Nat) (w : World)
    (h : OcAt w p po pi pm ps o cum l R) (he : o.ep = 0) (hr : Rd kB w B n c (encE m)) (hg : goodE m) (hO : OcT w) (hT : WsT w) (hS : WshT w) :
    Calls Tryz.prog 32 #[.pointer (some ⟨p, 0, none⟩), .slice B n c] w fun e w' => e = .returned .nilIface ∧ OcAt w' p po pi pm ps { o with ep := 1, ph := .iface 170 (.agg #[]), base := o.hav } 0 [] R ∧ Mod (fun b => b = p ∨ b = pi ∨ b = pm ∨ b = po) w w' := by
  have hdc := decode_ok m (by rw [hm]; simp) hg B n c w hr hO hT hS
  have hrf := fun w' (h' : OcAt w' p po pi pm ps o cum l R) => refused4 p po pi pm ps o cum l R m w' h' (by rw [hm]) (by rw [hm]) (by rw [hm]) (by omega)
  have hiv := fun w' (h' : OcAt w' p po pi pm ps o cum l R) => invited_ok p po pi pm ps o cum l R w' h' he
  subst hm
  simp only [Msg.v] at hdc hrf
  have HH := Lib.hid h
  clear h hr hg hO hT hS
  go_enter Tryz.func32, Tryz.ntmps32
  go_wp2_with (first
    | (go_at_call 25; refine hdc.mono ?_; rintro e w1 ⟨rfl, hm1⟩; have hX2 := blk_new w1 (.cells #[.int .i64 4, .int .i64 1, .int .i64 1, .int .i64 0, .int .i64 0, .int .i64 0, .int .i64 0, .int .i64 0, .int .i64 0, .int .i64 0, .int .i64 0, .int .u8 0, .int .i64 0, .int .i64 0] 34) rfl; have hQX2 := blk_at hX2; have HO2 := Lib.hid (HH.out.mod0 (hm1.alloc (.cells #[.int .i64 4, .int .i64 1, .int .i64 1, .int .i64 0, .int .i64 0, .int .i64 0, .int .i64 0, .int .i64 0, .int .i64 0, .int .i64 0, .int .i64 0, .int .u8 0, .int .i64 0, .int .i64 0] 34))))
    | (go_at_call 56; refine (hrf _ HO2.out).mono ?_; rintro e w3 ⟨rfl, hm3⟩; have HO3 := Lib.hid (HO2.out.mod0 hm3); have hX3 := hm3.heap hX2 (fun h => h); have hQX3 := blk_at hX3)
    | (go_at_call 57; refine (hiv _ HO3.out).mono ?_; rintro e w4 ⟨rfl, hO4, hm4⟩))
  go_ret
  exact ⟨rfl, hO4, (Mod.of ((hm1.alloc _).then0 hm3)).and hm4⟩

set_option maxRecDepth 100000 in
set_option maxHeartbeats 4000000 in
theorem recv6 (m : Msg) (hm : m = ⟨6, 1, 1, 0, 0, 0, 0, 0, 0, ⟨0, 0, 0, 0, 0⟩⟩) (p po pi pm ps : Nat) (o : Oc) (cum : Int) (l : List (Int × Op)) (R : List Value) (B : Option Addr) (n c : Nat) (w : World)
    (h : OcAt w p po pi pm ps o cum l R) (he : o.ep = 1) (hr : Rd kB w B n c (encE m)) (hg : goodE m) (hO : OcT w) (hT : WsT w) (hS : WshT w) :
    Calls Tryz.prog 32 #[.pointer (some ⟨p, 0, none⟩), .slice B n c] w fun e w' => e = .returned .nilIface ∧ OcAt w' p po pi pm ps { o with ph := .iface 136 (.agg #[]) } cum l R ∧ Mod (fun b => b = p) w w' := by
  have hdc := decode_ok m (by rw [hm]; simp) hg B n c w hr hO hT hS
  have hrf := fun w' (h' : OcAt w' p po pi pm ps o cum l R) => refused6 p po pi pm ps o cum l R m w' h' (by rw [hm]) (by rw [hm]) (by rw [hm]) he (by rw [hm])
  subst hm
  simp only [Msg.v] at hdc hrf
  have HH := Lib.hid h
  obtain ⟨ph, ep, hav, base, tA, tc, text, s2⟩ := o
  dsimp only at he
  subst he
  clear h hr hg hO hT hS
  go_enter Tryz.func32, Tryz.ntmps32
  go_upto_region 12 with (first
    | (go_at_call 25; refine hdc.mono ?_; rintro e w1 ⟨rfl, hm1⟩; have hX2 := blk_new w1 (.cells #[.int .i64 6, .int .i64 1, .int .i64 1, .int .i64 0, .int .i64 0, .int .i64 0, .int .i64 0, .int .i64 0, .int .i64 0, .int .i64 0, .int .i64 0, .int .u8 0, .int .i64 0, .int .i64 0] 34) rfl; have hQX2 := blk_at hX2; have HO2 := Lib.hid (HH.out.mod0 (hm1.alloc (.cells #[.int .i64 6, .int .i64 1, .int .i64 1, .int .i64 0, .int .i64 0, .int .i64 0, .int .i64 0, .int .i64 0, .int .i64 0, .int .i64 0, .int .i64 0, .int .u8 0, .int .i64 0, .int .i64 0] 34))))
    | (go_at_call 56; refine (hrf _ HO2.out).mono ?_; rintro e w3 ⟨rfl, hm3⟩; have HO3 := Lib.hid (HO2.out.mod0 hm3); have hX3 := hm3.heap hX2 (fun h => h); have hQX3 := blk_at hX3; have hQ3 := blk_at HO3.out.hp; unfold ocL at hQ3; dsimp only at hQ3; have hF3 := blk_free HO3.out.hp))
  have hs1 := hm1.size
  have hpl := blk_lt HH.out.hp
  refine cut_worldO (F := fun w5 => Hid (OcAt w5 p po pi pm ps ⟨.iface 136 (.agg #[]), 1, hav, base, tA, tc, text, s2⟩ cum l R ∧ w5.heap[w1.heap.size]? = some (.cells #[.int .i64 6, .int .i64 1, .int .i64 1, .int .i64 0, .int .i64 0, .int .i64 0, .int .i64 0, .int .i64 0, .int .i64 0, .int .i64 0, .int .i64 0, .int .u8 0, .int .i64 0, .int .i64 0] 34 (0, 0)) ∧ Mod (fun b => b = p) w w5))
    ⟨HO3.out.setP 2 (.iface 136 (.agg #[])) (ocL_ph po pi ps _ R _) rfl rfl rfl, blk_set_other hX3 (by dsimp only; omega) _, mod_setO (Mod.of ((hm1.alloc _).then0 hm3)) (.inl rfl)⟩ ?_
  clear HO3 hX3 hQX3 hQ3 hF3 HO2 hX2 hQX2
  rintro w5 HW5
  have hQ5 := blk_at HW5.out.1.hp
  unfold ocL at hQ5
  dsimp only at hQ5
  have hX5 := HW5.out.2.1
  have hQX5 := blk_at hX5
  refine wp_region_text (by kernel_rfl) (by kernel_rfl) (by kernel_rfl) (by kernel_rfl) ?_
  go_wp2_with (go_at_call 58; refine (ack_0 po _ _ w5.drew HW5.out.1.ho).mono ?_; rintro e w6 ⟨rfl, rfl⟩)
  refine ⟨rfl, by kernel_rfl, ?_⟩
  go_wp2
  go_ret
  exact ⟨rfl, HW5.out.1.drew, HW5.out.2.2.drew⟩
end Go.Proofs.YtjojhfphlnfimaaGreatDoor.J

namespace Go.Proofs.YtjojhfphlnfimaaGreatDoor.J
open Go Go.RowKit
set_option linter.unusedSimpArgs false
set_option linter.unusedVariables false

/-- What is held, of records. -/
structure HeldInv (L : List Op) (h : Nat) (l : List (Int × Op)) : Prop where
  dist : distH l
  inL : heldIn L l
  above : ∀ k, (findH k l).isSome = true → (h : Int) < k
  next : findH ((h : Int) + 1) l = none
  le : h ≤ L.length

/-- What becomes of it by number n. -/
def heldStep (h : Nat) (l : List (Int × Op)) (n : Nat) (j : Nat) (l' : List (Int × Op)) : Prop :=
  h ≤ j ∧ (∀ k : Int, (findH k l').isSome = true ↔ ((j : Int) < k ∧ ((findH k l).isSome = true ∨ (k = n ∧ (h : Int) < k)))) ∧ (∀ k : Int, (h : Int) < k → k ≤ j → (findH k l).isSome = true ∨ k = n)

theorem step_plain (L : List Op) (h : Nat) (l : List (Int × Op)) (nn : Nat) (q : Op) (j : Nat) (l' : List (Int × Op)) (hI : HeldInv L h l) (hj : h ≤ j)
    (hf : ∀ k : Int, findH k l' = if k ≤ j ∧ (h : Int) < k then none else findH k (l ++ [((nn : Int) + 1, q)])) (hg : ∀ k : Int, (h : Int) < k → k ≤ j → (findH k (l ++ [((nn : Int) + 1, q)])).isSome = true) (hlt : (h : Int) < (nn : Int) + 1) :
    (∀ k, (findH k l').isSome = true → (j : Int) < k) ∧ heldStep h l (nn + 1) j l' := by
  have hap : ∀ k, (findH k (l ++ [((nn : Int) + 1, q)])).isSome = true ↔ (findH k l).isSome = true ∨ k = (nn : Int) + 1 := by
    intro k
    rw [findH_append]
    cases hs : (findH k l).isSome
    · by_cases hk : k = (nn : Int) + 1
      · simp [hk]
      · simp [hk]
    · simp [hs]
  have hiff : ∀ k, (findH k l').isSome = true ↔ ¬ (k ≤ j ∧ (h : Int) < k) ∧ ((findH k l).isSome = true ∨ k = (nn : Int) + 1) := by
    intro k
    rw [hf, ← hap]
    by_cases hc : k ≤ (j : Int) ∧ (h : Int) < k
    · simp [hc]
    · rw [if_neg hc]; simp [hc]
  have habv : ∀ k, ((findH k l).isSome = true ∨ k = (nn : Int) + 1) → (h : Int) < k := by
    intro k hk
    rcases hk with hk | rfl
    · exact hI.above k hk
    · exact hlt
  refine ⟨fun k hk => ?_, hj, fun k => ?_, fun k h1 h2 => ?_⟩
  · obtain ⟨h1, h2⟩ := (hiff k).1 hk
    have := habv k h2
    omega
  · rw [hiff]
    push_cast
    constructor
    · rintro ⟨h1, h2⟩
      have h3 := habv k h2
      refine ⟨by omega, ?_⟩
      rcases h2 with h2 | h2
      · exact .inl h2
      · exact .inr ⟨h2, h3⟩
    · rintro ⟨h1, h2⟩
      refine ⟨by omega, ?_⟩
      rcases h2 with h2 | h2
      · exact .inl h2
      · exact .inr h2.1
  · have := (hap k).1 (hg k h1 h2)
    push_cast
    exact this

set_option maxRecDepth 100000 in
set_option maxHeartbeats 8000000 in
theorem recv5 (L : List Op) (hL : recsOk L) (q : Op) (nn : Nat) (hq : L[nn]? = some q) (m : Msg) (hm : m = ⟨5, 1, 1, 0, 0, (nn : Int) + 1, 0, (nn : Int) + 1, 0, q⟩)
    (p po pi pm ps : Nat) (ph : Value) (tA : Option Addr) (tc h : Nat) (l : List (Int × Op)) (R : List Value) (B : Option Addr) (n c : Nat) (w : World)
    (hO : OcAt w p po pi pm ps ⟨ph, 1, h, 0, tA, tc, textE L h, h⟩ h l R) (hI : HeldInv L h l) (hr : Rd kB w B n c (encE m)) (hg : goodE m) (hOc : OcT w) (hT : WsT w) (hS : WshT w) :
    Calls Tryz.prog 32 #[.pointer (some ⟨p, 0, none⟩), .slice B n c] w fun e w' =>
      (nn + 1 > h + 8 → (∃ a, e = .returned (.iface 157 (.pointer (some a)))) ∧ Mod No w w') ∧
      (nn + 1 ≤ h + 8 → e = .returned .nilIface ∧ ∃ (j : Nat) (l' : List (Int × Op)) (A : Option Addr) (tc' : Nat), OcAt w' p po pi pm ps ⟨.iface 136 (.agg #[]), 1, j, 0, A, tc', textE L j, j⟩ j l' R ∧ HeldInv L j l' ∧ heldStep h l (nn + 1) j l' ∧ Mod (fun b => b = p ∨ b = pi ∨ b = pm) w w' ∧ ((A = tA ∧ j = h) ∨ inBlk A (fun b => w.heap.size ≤ b))) := by
  have hnl : nn < L.length := (List.getElem?_eq_some_iff.1 hq).1
  have hL64 := hL.1
  have hle := hI.le
  obtain ⟨hqw, hqv, hqc, hqs, hqk, hqp1, hqp2, hqf⟩ := hL.2 _ _ hq
  have hdc := decode_ok m (by rw [hm]; simp) hg B n c w hr hOc hT hS
  obtain ⟨fe, hfe⟩ : ∃ fe : Int, fe = if (nn : Int) + 1 > h + 8 then 93 else 0 := ⟨_, rfl⟩
  have hrf := fun w' (h' : OcAt w' p po pi pm ps ⟨ph, 1, h, 0, tA, tc, textE L h, h⟩ h l R) => refused5 p po pi pm ps ⟨ph, 1, h, 0, tA, tc, textE L h, h⟩ h l R m w' h' (by rw [hm]) (by rw [hm]) (by rw [hm]) rfl (by rw [hm]) rfl (by rw [hm]) (by rw [hm]; dsimp only; omega) (by rw [hm]; dsimp only; omega) (by omega) (by omega)
    (fun e => by
      rw [hm] at e ⊢
      dsimp only at e ⊢
      have : nn = h := by omega
      subst this
      rw [textE_len L hL nn (by omega)]
      exact ⟨hqw, hqv, hqc, hqs, by omega, by omega, hqf⟩) fe (by rw [hm]; exact hfe)
  have hpl := blk_lt hO.hp
  have hil := blk_lt hO.hi.1
  have hml : pm < w.heap.size := by obtain ⟨es, ck, hmm, _⟩ := hO.hi.2; exact blk_lt hmm
  have hol := blk_lt hO.ho
  subst hm
  have HH := Lib.hid hO
  have HI := Lib.hid hI
  have HL := Lib.hid hL
  have HQ := Lib.hid hq
  have HPT := Lib.hid (fun (S : Prop) (hs : S) => hs)
  obtain ⟨q1, q2, q3, q4, q5⟩ := q
  simp only [Msg.v] at hdc hrf
  clear hO hr hg hOc hT hS hI hL hqw hqv hqf hqs hqc hqk hqp1 hqp2 hq
  by_cases hfar : (nn : Int) + 1 > h + 8
  · rw [if_pos hfar] at hfe
    subst hfe
    have HFAR := Lib.hid hfar
    clear hfar
    go_enter Tryz.func32, Tryz.ntmps32
    go_wp2_with (first
      | (go_at_call 25; refine hdc.mono ?_; rintro e w1 ⟨rfl, hm1⟩; have hX2 := blk_new w1 (.cells #[.int .i64 5, .int .i64 1, .int .i64 1, .int .i64 0, .int .i64 0, .int .i64 ((nn : Int) + 1), .int .i64 0, .int .i64 ((nn : Int) + 1), .int .i64 0, .int .i64 q1, .int .i64 q2, .int .u8 q3, .int .i64 q4, .int .i64 q5] 34) rfl; have hQX2 := blk_at hX2; have HO2 := Lib.hid (HH.out.mod0 (hm1.alloc (.cells #[.int .i64 5, .int .i64 1, .int .i64 1, .int .i64 0, .int .i64 0, .int .i64 ((nn : Int) + 1), .int .i64 0, .int .i64 ((nn : Int) + 1), .int .i64 0, .int .i64 q1, .int .i64 q2, .int .u8 q3, .int .i64 q4, .int .i64 q5] 34))))
      | (go_at_call 56; refine (hrf _ HO2.out).mono ?_; rintro e w3 ⟨rfl, hm3⟩)
      | (go_at_call 46; refine (wrap_ok _ _ _).mono ?_; rintro e w4 ⟨⟨a4, rfl⟩, hm4⟩))
    go_ret
    exact ⟨fun _ => ⟨⟨a4, rfl⟩, ((hm1.alloc _).then0 hm3).then0 hm4⟩, fun h => by have := HFAR.out; omega⟩
  · rw [if_neg hfar] at hfe
    subst hfe
    have HFAR := Lib.hid hfar
    clear hfar
    go_enter Tryz.func32, Tryz.ntmps32
    go_upto_region 15 with (first
      | (go_at_call 25; refine hdc.mono ?_; rintro e w1 ⟨rfl, hm1⟩; have hX2 := blk_new w1 (.cells #[.int .i64 5, .int .i64 1, .int .i64 1, .int .i64 0, .int .i64 0, .int .i64 ((nn : Int) + 1), .int .i64 0, .int .i64 ((nn : Int) + 1), .int .i64 0, .int .i64 q1, .int .i64 q2, .int .u8 q3, .int .i64 q4, .int .i64 q5] 34) rfl; have hQX2 := blk_at hX2; have HO2 := Lib.hid (HH.out.mod0 (hm1.alloc (.cells #[.int .i64 5, .int .i64 1, .int .i64 1, .int .i64 0, .int .i64 0, .int .i64 ((nn : Int) + 1), .int .i64 0, .int .i64 ((nn : Int) + 1), .int .i64 0, .int .i64 q1, .int .i64 q2, .int .u8 q3, .int .i64 q4, .int .i64 q5] 34))))
      | (go_at_call 56; refine (hrf _ HO2.out).mono ?_; rintro e w3 ⟨rfl, hm3⟩; have HO3 := Lib.hid (HO2.out.mod0 hm3); have hX3 := hm3.heap hX2 (fun h => h); have hQX3 := blk_at hX3; have hQ3 := blk_at HO3.out.hp; unfold ocL at hQ3; dsimp only at hQ3; have hF3 := blk_free HO3.out.hp))
    have hs1 := hm1.size
    have hbp : w1.heap.size ≠ p := by omega
    refine cut_worldO (F := fun w5 => Hid (OcAt w5 p po pi pm ps ⟨.iface 136 (.agg #[]), 1, h, 0, tA, tc, textE L h, h⟩ h l R ∧ w5.heap[w1.heap.size]? = some (.cells #[.int .i64 5, .int .i64 1, .int .i64 1, .int .i64 0, .int .i64 0, .int .i64 ((nn : Int) + 1), .int .i64 0, .int .i64 ((nn : Int) + 1), .int .i64 0, .int .i64 q1, .int .i64 q2, .int .u8 q3, .int .i64 q4, .int .i64 q5] 34 (0, 0)) ∧ Mod (fun b => b = p ∨ b = pi ∨ b = pm) w w5))
      ⟨HO3.out.setP 2 (.iface 136 (.agg #[])) (ocL_ph po pi ps _ R _) rfl rfl rfl, blk_set_other hX3 hbp _, mod_setO (Mod.of ((hm1.alloc _).then0 hm3)) (.inl (.inl rfl))⟩ ?_
    clear HO3 hX3 hQX3 hQ3 hF3 HO2 hX2 hQX2 hdc hrf
    rintro w5 HW5
    have hQ5 := blk_at HW5.out.1.hp
    unfold ocL at hQ5
    dsimp only at hQ5
    have hX5 := HW5.out.2.1
    have hQX5 := blk_at hX5
    refine wp_region_text (by kernel_rfl) (by kernel_rfl) (by kernel_rfl) (by kernel_rfl) ?_
    go_wp2_with (go_at_call 58; refine (ack_0 po _ _ w5.drew HW5.out.1.ho).mono ?_; rintro e w6 ⟨rfl, rfl⟩)
    refine ⟨rfl, by kernel_rfl, ?_⟩
    go_upto_region 16 with (fail)
    refine wp_region_text (by kernel_rfl) (by kernel_rfl) (by kernel_rfl) (by kernel_rfl) ?_
    by_cases hhere : (findH ((nn : Int) + 1) l).isSome = true ∨ (nn : Int) + 1 ≤ h
    · have hpt := put_here pi pm h ((nn : Int) + 1) l ⟨q1, q2, q3, q4, q5⟩ w5.drew.drew (HW5.out.1.drew.drew).hi (by omega) (by omega) (by omega) (by omega) hhere
      simp only [Op.v] at hpt
      have HHERE := Lib.hid hhere
      clear hhere
      go_wp2_with (go_at_call 59; refine hpt.mono ?_; rintro e w7 ⟨rfl, hm7⟩)
      refine ⟨rfl, by kernel_rfl, ?_⟩
      go_wp2
      go_ret
      refine ⟨fun h => by have := HFAR.out; omega, fun _ => ⟨rfl, h, l, tA, tc, (HW5.out.1.drew.drew).mod0 hm7, HI.out, ⟨Nat.le_refl _, fun k => ⟨fun hk => ⟨HI.out.above k hk, .inl hk⟩, fun hk => ?_⟩, fun k h1 h2 => by omega⟩, (HW5.out.2.2.drew.drew).then0 hm7, .inl ⟨rfl, rfl⟩⟩⟩
      rcases hk with ⟨hk1, hk2 | ⟨rfl, hk3⟩⟩
      · exact hk2
      · rcases HHERE.out with h9 | h9
        · exact h9
        · omega
    · have hn1 : findH ((nn : Int) + 1) l = none := by
        cases hf : findH ((nn : Int) + 1) l with
        | none => rfl
        | some x => exact absurd (.inl (by rw [hf]; rfl)) hhere
      have hlt : (h : Int) < (nn : Int) + 1 := by
        rcases (show (h : Int) < (nn : Int) + 1 ∨ (nn : Int) + 1 ≤ h by omega) with h9 | h9
        · exact h9
        · exact absurd (.inr h9) hhere
      have hpt := put_new pi pm h ((nn : Int) + 1) l ⟨q1, q2, q3, q4, q5⟩ w5.drew.drew (HW5.out.1.drew.drew).hi HW5.out.1.dd.2.2.2.2.2.2.2.2.1 (by omega) (by omega) (by omega) (by omega) hn1 hlt (by have := HFAR.out; omega)
      simp only [Op.v] at hpt
      have HN := Lib.hid hn1
      clear hhere hn1
      have HD' := Lib.hid (distH_push (o := ⟨q1, q2, q3, q4, q5⟩) HI.out.dist HN.out)
      have HIN' := Lib.hid (show heldIn L (l ++ [((nn : Int) + 1, (⟨q1, q2, q3, q4, q5⟩ : Op))]) from fun k x hk => by
        rw [findH_append] at hk
        split at hk
        · exact HI.out.inL k x hk
        · split at hk
          · rename_i e
            cases hk
            exact ⟨nn, by omega, HQ.out⟩
          · cases hk)
      go_wp2_with (first
        | (go_at_call 59; refine hpt.mono ?_; rintro e w7 ⟨rfl, hm7, hI7⟩; have HO7 := Lib.hid ((HW5.out.1.drew.drew).inbox (hm7.mono (fun b _ h => .inr h)) hI7); have hs7 := hm7.size; have hs5 := HW5.out.2.2.size))
      refine ⟨rfl, by kernel_rfl, ?_⟩
      go_wp2_with (first
        | (go_at_call 60; refine (takeIn_ok L HL.out p po pi pm ps _ 1 0 tA tc h _ R w7 HO7.out HD'.out HIN'.out HI.out.le ⟨blk_lt HO7.out.hp, blk_lt HO7.out.hi.1, by obtain ⟨es, ck, hmm, _⟩ := HO7.out.hi.2; exact blk_lt hmm, blk_lt HO7.out.ho⟩).mono ?_; rintro e w8 ⟨rfl, j, l', A', c', hj1, hj2, hO8, hd8, hin8, hf8, hg8, hn8, hm8, hTA8⟩))
      go_ret
      have hst := step_plain L h l nn ⟨q1, q2, q3, q4, q5⟩ j l' HI.out hj1 hf8 hg8 (by omega)
      exact ⟨fun h => by have := HFAR.out; omega, fun _ => ⟨rfl, j, l', A', c', hO8, ⟨hd8, hin8, hst.1, hn8, hj2⟩, hst.2, (HW5.out.2.2.drew.drew.and (hm7.mono (fun b _ h => .inr (.inr h)))).and hm8, hTA8.imp id (fun h a ha => by have h9 : w7.heap.size ≤ a.block := h a ha; have h10 := HW5.out.2.2.size; have h11 : w5.heap.size ≤ w7.heap.size := hm7.size; show w.heap.size ≤ a.block; omega)⟩⟩
end Go.Proofs.YtjojhfphlnfimaaGreatDoor.J
