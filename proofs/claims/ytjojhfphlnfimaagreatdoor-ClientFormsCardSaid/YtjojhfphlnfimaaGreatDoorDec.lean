/- wire: the fields of a message are read from its bytes. wire.pick, on. wire.pick: the walk. wire.Decode of a message's datagram. -/
import Derived.Test.YtjojhfphlnfimaaGreatDoorWire
import Derived.Laws.EntriesVeiled
import Derived.Deep.DeepCutAuto
namespace Go.Proofs.YtjojhfphlnfimaaGreatDoor.J
open Go Go.RowKit
set_option linter.unusedSimpArgs false
set_option linter.unusedVariables false

set_option maxRecDepth 100000 in
set_option maxHeartbeats 4000000 in
theorem bounds_any (m : Msg) (f : Nat) (hf1 : 1 ≤ f) (hf : f < 14) (hk2 : m.kind ≠ 2) (p : Nat) (w : World) (h9 : f = 10 ∨ f = 11 → w.cell? ⟨p, 9, none⟩ = some (.int .i64 m.op.kind)) :
    Calls Tryz.prog 95 #[.int .i64 f, .pointer (some ⟨p, 0, none⟩), .int .i64 0] w fun e w' => e = .returned (.tuple #[.int .i64 (fromE m f), .int .i64 (toE m f)]) ∧ w' = w := by
  have h9a : ∀ h : f = 10 ∨ f = 11, w.cell? ⟨p, 9, none⟩ = some (.int .i64 m.op.kind) := h9
  have : f = 1 ∨ f = 2 ∨ f = 3 ∨ f = 4 ∨ f = 5 ∨ f = 6 ∨ f = 7 ∨ f = 8 ∨ f = 9 ∨ f = 10 ∨ f = 11 ∨ f = 12 ∨ f = 13 := by omega
  clear hf hf1 h9
  obtain ⟨ok, hok⟩ : ∃ k, m.op.kind = k := ⟨_, rfl⟩
  rw [hok] at h9a
  rcases this with rfl | rfl | rfl | rfl | rfl | rfl | rfl | rfl | rfl | rfl | rfl | rfl | rfl
  all_goals (first | (have h9b := h9a (by decide)) | skip)
  all_goals clear h9a
  all_goals go_enter Tryz.func95, Tryz.ntmps95
  all_goals go_wp2
  all_goals go_ret2
  all_goals refine ⟨?_, rfl⟩
  all_goals first | rfl | simp_all [fromE, toE]

/-- Values by their numbers. -/
def vc (g : Nat → Int) : Array Value := ((List.range 14).map fun i => Value.int .i64 (g i)).toArray
theorem vc_at (g : Nat → Int) {i : Nat} (h : i < 14) : (vc g)[i]? = some (.int .i64 (g i)) := by simp [vc, h]
theorem vc_set (g : Nat → Int) (i : Nat) (v : Int) : (vc g).setIfInBounds i (.int .i64 v) = vc (fun j => if j = i then v else g j) := by
  apply Array.ext'
  rw [Array.toList_setIfInBounds]
  apply List.ext_getElem?
  intro q
  rw [List.getElem?_set]
  simp only [vc, List.length_map, List.length_range, List.getElem?_map]
  by_cases hq : q < 14
  · by_cases hp : i = q
    · subst hp; simp [hq]
    · simp [hq, hp, Ne.symm hp]
  · by_cases hp : i = q
    · subst hp; simp [hq]
    · simp [hq, hp]

set_option maxRecDepth 100000 in
theorem may_any (m : Msg) (f : Nat) (hf1 : 1 ≤ f) (hf : f < 14) (hk2 : m.kind ≠ 2) (p : Nat) (g : Nat → Int) (w : World) (hB : w.heap[p]? = some (.cells (vc g) 125 (0, 0))) (h9 : f = 10 ∨ f = 11 → g 9 = m.op.kind) (hgf : g f = m.get f) (hh : holdsE m f) :
    Calls Tryz.prog 67 #[.int .i64 f, .pointer (some ⟨p, 0, none⟩), .int .i64 0] w fun e w' => e = .returned (.bool true) ∧ w' = w := by
  have hbd := bounds_any m f hf1 hf hk2 p w (fun h => by rw [blk_at hB, vc_at g (by decide), h9 h])
  have hcf : w.cell? ⟨p, f, none⟩ = some (.int .i64 (m.get f)) := by rw [blk_at hB, vc_at g hf, hgf]
  obtain ⟨h1, h2⟩ := hh
  obtain ⟨x, hx⟩ : ∃ x, m.get f = x := ⟨_, rfl⟩
  obtain ⟨a, ha⟩ : ∃ x, fromE m f = x := ⟨_, rfl⟩
  obtain ⟨b, hb⟩ : ∃ x, toE m f = x := ⟨_, rfl⟩
  rw [hx] at h1 h2 hcf
  rw [ha] at h1
  rw [hb] at h2
  rw [ha, hb] at hbd
  clear hx ha hb hgf h9 hB hf1
  have f0 : (0 : Int) ≤ (f : Int) := by omega
  go_enter Tryz.func67, Tryz.ntmps67
  go_wp2_with (go_at_call 95; refine hbd.mono ?_; rintro e w1 ⟨rfl, rfl⟩)
  go_ret
  exact ⟨rfl, rfl⟩
end Go.Proofs.YtjojhfphlnfimaaGreatDoor.J

namespace Go.Proofs.YtjojhfphlnfimaaGreatDoor.J
open Go Go.RowKit
set_option linter.unusedSimpArgs false
set_option linter.unusedVariables false

/-- The sizes of the fields stand in their variable. -/
def WsT (w : World) : Prop := ∀ f, f < 14 → w.cell? ⟨1, f, none⟩ = some (.int .i64 (wideE f : Nat))
theorem WsT.mod {S : Nat → Prop} {w w' : World} (h : WsT w) (hm : Mod S w w') (hs : ¬ S 1) : WsT w' := fun i hi => hm.cell (h i hi) hs
def WshT (w : World) : Prop := ∀ k : Nat, 1 ≤ k → k ≤ 6 → ∃ A n c, w.cell? ⟨0, k, none⟩ = some (.slice A n c) ∧ Rd kInt w A n c (namedE k)
theorem WshT.mod0 {w w' : World} (h : WshT w) (hm : Mod No w w') : WshT w' := fun k h1 h2 => let ⟨A, n, c, a, b⟩ := h k h1 h2; ⟨A, n, c, hm.cell a (fun h => h), b.mod0 hm⟩

def offE (l : List Nat) (j : Nat) : Nat := ((l.take j).map wideE).foldl (· + ·) 0
theorem wideE_12 (f : Nat) : wideE f = 1 ∨ wideE f = 2 := by unfold wideE; split <;> simp
theorem fieldB_wide (m : Msg) (f : Nat) : (fieldB m f).length = wideE f := by
  unfold fieldB
  rcases wideE_12 f with h | h <;> simp [h]
theorem foldl_add (l : List Nat) : ∀ a, l.foldl (· + ·) a = a + l.foldl (· + ·) 0 := by
  induction l with
  | nil => intro a; simp
  | cons x l ih => intro a; simp only [List.foldl_cons]; rw [ih, ih (0 + x)]; omega
theorem offE_len (m : Msg) (l : List Nat) (j : Nat) : (bytesE m (l.take j)).length = offE l j := by
  unfold offE
  generalize l.take j = q
  induction q with
  | nil => rfl
  | cons f q ih =>
    simp only [bytesE, List.flatMap_cons, List.length_append, List.map_cons, List.foldl_cons, Nat.zero_add] at *
    rw [foldl_add, ih, fieldB_wide]
theorem offE_next (l : List Nat) (j f : Nat) (h : l[j]? = some f) : offE l (j + 1) = offE l j + wideE f := by
  unfold offE
  rw [List.take_add_one, h]
  simp
theorem offE_le (l : List Nat) (m : Msg) {j : Nat} (f : Nat) (h : l[j]? = some f) : offE l j + wideE f ≤ (bytesE m l).length := by
  rw [← offE_next l j f h, ← offE_len m]
  unfold bytesE
  have : (l.take (j + 1)).flatMap (fieldB m) ++ (l.drop (j + 1)).flatMap (fieldB m) = l.flatMap (fieldB m) := by rw [← List.flatMap_append, List.take_append_drop]
  rw [← this, List.length_append]; omega
theorem bytesE_split (l : List Nat) (m : Msg) {j : Nat} (f : Nat) (h : l[j]? = some f) : ∃ r, bytesE m l = bytesE m (l.take j) ++ (fieldB m f ++ r) := by
  refine ⟨bytesE m (l.drop (j + 1)), ?_⟩
  unfold bytesE
  rw [← List.append_assoc]
  have e : (l.take j).flatMap (fieldB m) ++ fieldB m f = (l.take (j + 1)).flatMap (fieldB m) := by rw [List.take_add_one, h]; simp
  rw [e, ← List.flatMap_append, List.take_append_drop]
theorem field_num (m : Msg) (hk2 : m.kind ≠ 2) (l : List Nat) (c : Nat) {j f : Nat} (h : l[j]? = some f) (hh : holdsE m f) (hf1 : 1 ≤ f) (hf : f < 14) :
    ((numE (fun i => (c :: bytesE m l).getD (1 + offE l j + i) 0) (wideE f) : Nat) : Int) = m.get f := by
  obtain ⟨r, hr⟩ := bytesE_split l m f h
  have hlo := holds_lo hk2 hh
  have hhi := holds_hi hk2 hh
  have hg : ∀ i, (c :: bytesE m l).getD (1 + offE l j + i) 0 = (fieldB m f ++ r).getD i 0 := by
    intro i
    rw [show 1 + offE l j + i = (offE l j + i) + 1 by omega]
    simp only [List.getD_eq_getElem?_getD, List.getElem?_cons_succ]
    rw [hr, List.getElem?_append_right (by rw [offE_len]; omega), offE_len, show offE l j + i - offE l j = i by omega]
  simp only [hg]
  by_cases hw : wideE f = 2
  · have hb : fieldB m f = [(m.get f / 256).toNat % 256, (m.get f % 256).toNat] := by unfold fieldB; rw [if_pos hw]
    rw [hw, hb]
    simp [numE]
    omega
  · have hw1 : wideE f = 1 := by rcases wideE_12 f with h | h; exact h; exact absurd h hw
    have hb : fieldB m f = [(m.get f % 256).toNat] := by unfold fieldB; rw [if_neg hw]
    have hsm : m.get f < 256 := by
      have h2 := hh.2
      have : f = 1 ∨ f = 2 ∨ f = 3 ∨ f = 4 ∨ f = 5 ∨ f = 6 ∨ f = 7 ∨ f = 8 ∨ f = 9 ∨ f = 10 ∨ f = 11 ∨ f = 12 ∨ f = 13 := by omega
      rcases this with rfl | rfl | rfl | rfl | rfl | rfl | rfl | rfl | rfl | rfl | rfl | rfl | rfl
      all_goals first
        | (exfalso; exact absurd hw (by decide))
        | (simp only [toE, hk2] at h2; simp at h2; (repeat' split at h2) <;> omega)
    rw [hw1, hb]
    simp [numE]
    omega
/-- What is read by and by. -/
def pickG (m : Msg) (l : List Nat) (j : Nat) (i : Nat) : Int := if i = 0 then m.kind else if i ∈ l.take j then m.get i else 0
theorem pickG_next (m : Msg) (l : List Nat) (j f : Nat) (h : l[j]? = some f) (hf : 1 ≤ f) : (fun i => if i = f then m.get f else pickG m l j i) = pickG m l (j + 1) := by
  funext i
  unfold pickG
  rw [List.take_add_one, h]
  by_cases hi : i = f
  · subst hi; simp [show ¬ i = 0 by omega]
  · simp [hi]
theorem pickG_all (m : Msg) (hg : goodE m) (n : Nat) (hn : n = (namedE m.kind).length) : vc (pickG m (namedE m.kind) n) = vc (fun i => if i = 0 then m.kind else m.get i) := by
  unfold vc
  congr 1
  apply List.map_congr_left
  intro i hi
  simp only [List.mem_range] at hi
  unfold pickG
  rw [List.take_of_length_le (by omega)]
  by_cases h0 : i = 0
  · simp [h0]
  · by_cases hm : i ∈ namedE m.kind
    · simp [h0, hm]
    · simp [h0, hm, (hg i (by omega) (by omega)).2 hm]
theorem nine_first (k : Int) (j f : Nat) (h : (namedE k)[j]? = some f) (hf : f = 10 ∨ f = 11) : 9 ∈ (namedE k).take j := by
  unfold namedE at h ⊢
  split at h
  · exfalso; match j, h with | 0, h | 1, h | 2, h | 3, h => simp at h; omega
  split at h
  · rename_i h1 h2; simp only [h1, if_false, h2, if_true]
    match j, h with
    | 0, h | 1, h | 2, h | 3, h | 4, h | 5, h | 8, h | 9, h => simp at h; omega
    | 6, _ | 7, _ => decide
  split at h
  · exfalso; match j, h with | 0, h | 1, h | 2, h => simp at h; omega
  split at h
  · exfalso; match j, h with | 0, h | 1, h => simp at h; omega
  split at h
  · rename_i h1 h2 h3 h4 h5; simp only [h1, h2, h3, h4, if_false, h5, if_true]
    match j, h with
    | 0, h | 1, h | 2, h | 3, h | 4, h | 5, h | 8, h | 9, h => simp at h; omega
    | 6, _ | 7, _ => decide
  split at h
  · exfalso; match j, h with | 0, h | 1, h | 2, h => simp at h; omega
  · simp at h
end Go.Proofs.YtjojhfphlnfimaaGreatDoor.J

namespace Go.Proofs.YtjojhfphlnfimaaGreatDoor.J
open Go Go.RowKit
set_option linter.unusedSimpArgs false
set_option linter.unusedVariables false

theorem vc_zero : vc (fun _ => 0) = #[.int .i64 0, .int .i64 0, .int .i64 0, .int .i64 0, .int .i64 0, .int .i64 0, .int .i64 0, .int .i64 0, .int .i64 0, .int .i64 0, .int .i64 0, .int .i64 0, .int .i64 0, .int .i64 0] := rfl
theorem RdrAt.mod {M : Nat → Prop} {w w' : World} {p : Nat} {A : Option Addr} {n c : Nat} {l : List Nat} {t : Nat} (h : RdrAt w p A n c l t) (hm : Mod M w w') (hp : ¬ M p) (hn : inBlk A (fun b => ¬ M b)) : RdrAt w' p A n c l t :=
  ⟨hm.heap h.1 hp, h.2.1.mod hm hn, h.2.2⟩

set_option maxRecDepth 100000 in
set_option maxHeartbeats 4000000 in
theorem pick_ok (m : Msg) (hk : m.kind = 3 ∨ m.kind = 4 ∨ m.kind = 5 ∨ m.kind = 6 ∨ m.kind = 1) (hg : goodE m) (A : Option Addr) (n c : Nat) (L : Option Addr) (ln lc : Nat) (w : World)
    (hr : Rd kB w A n c ((m.kind % 256).toNat :: bytesE m (namedE m.kind))) (hL : Rd kInt w L ln lc (namedE m.kind)) (hT : WsT w) (hn : n ≤ 60) :
    Calls Tryz.prog 48 #[.slice A n c, .slice L ln lc, .bool false] w fun e w' => e = .returned (.tuple #[.agg (vc (fun i => if i = 0 then m.kind else m.get i)), .nilIface]) ∧ Mod No w w' := by
  have hk2 : m.kind ≠ 2 := by omega
  have hbo : bytesOk ((m.kind % 256).toNat :: bytesE m (namedE m.kind)) := by
    intro c hc
    rcases List.mem_cons.1 hc with rfl | hc
    · omega
    · exact bytesE_ok _ _ c hc
  have hnl := hr.1
  have hF0 : ((numE (fun i => ((m.kind % 256).toNat :: bytesE m (namedE m.kind)).getD (0 + i) 0) 1 : Nat) : Int) = m.kind := by simp [numE]; omega
  have hFj : ∀ j f, (namedE m.kind)[j]? = some f → ((numE (fun i => ((m.kind % 256).toNat :: bytesE m (namedE m.kind)).getD (1 + offE (namedE m.kind) j + i) 0) (wideE f) : Nat) : Int) = m.get f := by
    intro j f h
    have h1 := namedE_in (List.mem_of_getElem? h)
    exact field_num m hk2 _ _ h ((hg f h1.1 (by omega)).1 (List.mem_of_getElem? h)) h1.1 h1.2
  have hFb : ∀ j f, (namedE m.kind)[j]? = some f → 1 + offE (namedE m.kind) j + wideE f ≤ n := by
    intro j f h
    have := offE_le _ m f h
    rw [hnl, List.length_cons]; omega
  have hn1 : 0 + 1 ≤ n := by rw [hnl, List.length_cons]; omega
  have hFm : ∀ j f, (namedE m.kind)[j]? = some f → 1 ≤ f ∧ f < 14 ∧ holdsE m f ∧ (f = 10 ∨ f = 11 → pickG m (namedE m.kind) j 9 = m.op.kind) := by
    intro j f h
    have h1 := namedE_in (List.mem_of_getElem? h)
    refine ⟨h1.1, h1.2, (hg f h1.1 (by omega)).1 (List.mem_of_getElem? h), fun h2 => ?_⟩
    have := nine_first _ _ _ h h2
    unfold pickG
    rw [if_neg (by omega), if_pos this]; rfl
  have hall : ∀ q, q = (namedE m.kind).length → vc (pickG m (namedE m.kind) q) = vc (fun i => if i = 0 then m.kind else m.get i) := fun q hq => pickG_all m hg q hq
  have hln10 : ln ≤ 10 := by rw [hL.1]; exact namedE_len _
  obtain ⟨bs, hbs⟩ : ∃ bs, ((m.kind % 256).toNat :: bytesE m (namedE m.kind)) = bs := ⟨_, rfl⟩
  rw [hbs] at hr hbo hF0
  simp only [hbs] at hFj
  obtain ⟨l, hl⟩ : ∃ l, namedE m.kind = l := ⟨_, rfl⟩
  rw [hl] at hL
  simp only [hl] at hFj hFb hFm hall
  clear hnl hbs hl hg hk
  have hLn := Lib.hid hL.1
  have hmxL := hL.max
  unfold maxLen at hmxL
  have hnr := newReader_ok A n c _ ((w.alloc (.cells (vc (fun _ => 0)) 125)).alloc (.cells (vc (fun _ => 0)) 125)) ((hr.alloc _).alloc _) hn
  have hV0 : ((w.alloc (.cells (vc (fun _ => 0)) 125)).alloc (.cells (vc (fun _ => 0)) 125)).heap[w.heap.size + 1]? = some (.cells (vc (fun _ => 0)) 125 (0, 0)) := blk_new _ _ (by simp)
  have hW0 : ((w.alloc (.cells (vc (fun _ => 0)) 125)).alloc (.cells (vc (fun _ => 0)) 125)).heap[w.heap.size]? = some (.cells (vc (fun _ => 0)) 125 (0, 0)) := blk_alloc (blk_new _ _ rfl) _
  have hM0 : Mod No w ((w.alloc (.cells (vc (fun _ => 0)) 125)).alloc (.cells (vc (fun _ => 0)) 125)) := ((Mod.refl No w).alloc _).alloc _
  rw [vc_zero] at hnr hV0 hW0 hM0
  have hsz0 : ∀ o1 o2, ((w.alloc o1).alloc o2).heap.size = w.heap.size + 1 + 1 := fun o1 o2 => by simp
  simp only [hsz0] at hnr
  clear hr
  go_enter Tryz.func48, Tryz.ntmps48
  go_wp2_with (first
    | (go_at_call 75; refine hnr.mono ?_; rintro e w1 ⟨p, B, rfl, hm1, hR1, hp1, hB1⟩; have hG1 : (w1.alloc (.cells #[.nilFunc, .nilFunc, .nilFunc] 166)).heap[w1.heap.size]? = some (.cells #[.nilFunc, .nilFunc, .nilFunc] 166 (0, 0)) := blk_new _ _ rfl; have hQG := blk_at hG1; have hFG := blk_free hG1)
    | (go_at_call 76; refine (u8_ok p B n n _ 0 _ (hR1.mod ((Mod.refl No w1).alloc _) (fun h => h) (fun _ _ h => h)) hbo hn1 hn).mono ?_; rintro e w2 ⟨rfl, hm2, hR2⟩; have hV2 := hm2.heap (blk_alloc (hm1.heap hV0 (fun h => h)) _) (by omega); have hQV := blk_at hV2; have hFV := blk_free hV2))
  have hp1' : w.heap.size + 2 ≤ p := hp1
  have hpw1 : p < w1.heap.size := blk_lt hR1.1
  have hG2 : w2.heap[w1.heap.size]? = some (.cells #[.nilFunc, .func (.func 76) #[.pointer (some ⟨p, 0, none⟩)] #[], .func (.func 77) #[.pointer (some ⟨p, 0, none⟩)] #[]] 166 (0, 0)) := hm2.heap (blk_new _ _ rfl) (by omega)
  have hW2 := hm2.heap (blk_alloc (hm1.heap hW0 (fun h => h)) _) (b := w.heap.size) (by omega)
  have hMw2 : Mod No w w2 := (((hM0.then0 hm1).alloc _).trans hm2 (fun b hb h => by omega))
  have hV3 := blk_set hV2 0 (.int .i64 ((numE (fun i => bs.getD (0 + i) 0) 1 : Nat) : Int))
  rw [← vc_zero, vc_set] at hV3
  have e0 : vc (fun j => if j = 0 then ((numE (fun i => bs.getD (0 + i) 0) 1 : Nat) : Int) else 0) = vc (pickG m l 0) := by
    congr 1
    funext j
    rw [hF0]
    simp [pickG]
  rw [e0] at hV3
  have hB2 : inBlk B (fun b => ¬ b = w.heap.size + 1) := fun a ha => by have := hB1 a ha; omega
  have hmS : ∀ v, Mod (fun b => b = w.heap.size + 1) w2 (w2.setCell ⟨w.heap.size + 1, 0, none⟩ v) := fun v => (Mod.refl (fun b => b = w.heap.size + 1) w2).setCell (p := ⟨w.heap.size + 1, 0, none⟩) (.inl rfl) v
  go_loopw [12, 13, 14, 27] (fun _ _ _ s27 wr => ∃ j : Nat, j ≤ ln ∧ s27 = .int .i64 j ∧ RdrAt wr p B n n bs (1 + offE l j) ∧ Mod No w wr ∧
     wr.heap[w.heap.size + 1]? = some (.cells (vc (pickG m l j)) 125 (0, 0)) ∧
     wr.heap[w.heap.size]? = some (.cells (vc (fun _ => 0)) 125 (0, 0)) ∧
     wr.heap[w1.heap.size]? = some (.cells #[.nilFunc, .func (.func 76) #[.pointer (some ⟨p, 0, none⟩)] #[], .func (.func 77) #[.pointer (some ⟨p, 0, none⟩)] #[]] 166 (0, 0))) (fun _ _ _ s27 _ => ln - (intOf s27).toNat)
  case atStart =>
    refine ⟨0, Nat.zero_le _, rfl, ?_, hMw2.setCell (p := ⟨w.heap.size + 1, 0, none⟩) (.inr (by show w.heap.size ≤ w.heap.size + 1; omega)) _, hV3, blk_set_other hW2 (by dsimp only; omega) _, blk_set_other hG2 (by dsimp only; omega) _⟩
    have : offE l 0 = 0 := by simp [offE]
    rw [this]
    exact hR2.mod (hmS _) (by omega) hB2
  case round =>
    clear hV0 hW0 hM0 hnr hm1 hR1 hG1 hQG hFG hm2 hR2 hV2 hQV hFV hG2 hW2 hMw2 hV3 e0 hmS hF0
    obtain ⟨j, hj, rfl, hR, hM, hV, hW, hG⟩ := hrel
    have j0 : (0 : Int) ≤ (j : Int) := by omega
    have hQG := blk_at hG
    by_cases hlt : j < ln
    · obtain ⟨b0, o0, f, hx, rfl, x1⟩ := (hL.mod0 hM).int hlt
      obtain ⟨hf1, hf14, hfh, hf9⟩ := hFm j f hx
      have hfb := hFb j f hx
      have hfn := hFj j f hx
      have hws := hM.cell (hT f hf14) (fun h => h)
      have HX := Lib.hid hx
      have hnx := offE_next l j f hx
      have hgn := pickG_next m l j f hx hf1
      have hu8 := u8_ok p B n n bs (1 + offE l j) wr hR hbo
      have hu16 := u16_ok p B n n bs (1 + offE l j) wr hR hbo
      have hat := at_ok p B n n bs (1 + offE l j) wr hR
      clear hx hFj hFb hFm hR hall
      have f0 : (0 : Int) ≤ (f : Int) := by omega
      have HNX := Lib.hid hnx
      have HGN := Lib.hid hgn
      clear hnx hgn
      rcases wideE_12 f with hw | hw
      · rw [hw] at hfn hfb hws HNX
        have hu := hu8 hfb hn
        rw [hfn] at hu
        clear hu8 hu16 hfn
        go_wp2_with (first
          | (go_at_call 78; refine hat.mono ?_; rintro e w3 ⟨rfl, rfl⟩)
          | (go_at_call 76; refine hu.mono ?_; rintro e w4 ⟨rfl, hm4, hR4⟩; have hV4 := hm4.heap hV (by omega); have hcf : w4.cell? ⟨w.heap.size + 1, f, none⟩ = some (.int .i64 (pickG m l j f)) := (by rw [blk_at hV4, vc_at _ hf14]); have hff := blk_free hV4)
          | (go_at_call 67; refine (may_any m f hf1 hf14 hk2 (w.heap.size + 1) (pickG m l (j + 1)) _ (by have hV5 := blk_set hV4 f (.int .i64 (m.get f)); rw [vc_set, HGN.out] at hV5; exact hV5) (fun h => by rw [← HGN.out]; dsimp only; rw [if_neg (by omega)]; exact hf9 h) (by rw [← HGN.out]; simp) hfh).mono ?_; rintro e w6 ⟨rfl, rfl⟩))
        have hV5 := blk_set hV4 f (.int .i64 (m.get f))
        rw [vc_set, HGN.out] at hV5
        have hmS : Mod (fun b => b = w.heap.size + 1) w4 (w4.setCell ⟨w.heap.size + 1, f, none⟩ (.int .i64 (m.get f))) := (Mod.refl (fun b => b = w.heap.size + 1) w4).setCell (p := ⟨w.heap.size + 1, f, none⟩) (.inl rfl) _
        have hM5 : Mod No w (w4.setCell ⟨w.heap.size + 1, f, none⟩ (.int .i64 (m.get f))) := (hM.trans hm4 (fun b hb h => by omega)).trans hmS (fun b hb h => by omega)
        go_roundw
        case rel =>
          refine ⟨j + 1, by omega, by go_num, ?_, hM5, hV5, blk_set_other (hm4.heap hW (by omega)) (by dsimp only; omega) _, blk_set_other (hm4.heap hG (by omega)) (by dsimp only; omega) _⟩
          rw [HNX.out, ← Nat.add_assoc]
          exact hR4.mod hmS (by omega) hB2
        case measure => simp [intOf]; omega
      · rw [hw] at hfn hfb hws HNX
        have hu := hu16 hfb hn
        rw [hfn] at hu
        clear hu8 hu16 hfn
        go_wp2_with (first
          | (go_at_call 78; refine hat.mono ?_; rintro e w3 ⟨rfl, rfl⟩)
          | (go_at_call 77; refine hu.mono ?_; rintro e w4 ⟨rfl, hm4, hR4⟩; have hV4 := hm4.heap hV (by omega); have hcf : w4.cell? ⟨w.heap.size + 1, f, none⟩ = some (.int .i64 (pickG m l j f)) := (by rw [blk_at hV4, vc_at _ hf14]); have hff := blk_free hV4)
          | (go_at_call 67; refine (may_any m f hf1 hf14 hk2 (w.heap.size + 1) (pickG m l (j + 1)) _ (by have hV5 := blk_set hV4 f (.int .i64 (m.get f)); rw [vc_set, HGN.out] at hV5; exact hV5) (fun h => by rw [← HGN.out]; dsimp only; rw [if_neg (by omega)]; exact hf9 h) (by rw [← HGN.out]; simp) hfh).mono ?_; rintro e w6 ⟨rfl, rfl⟩))
        have hV5 := blk_set hV4 f (.int .i64 (m.get f))
        rw [vc_set, HGN.out] at hV5
        have hmS : Mod (fun b => b = w.heap.size + 1) w4 (w4.setCell ⟨w.heap.size + 1, f, none⟩ (.int .i64 (m.get f))) := (Mod.refl (fun b => b = w.heap.size + 1) w4).setCell (p := ⟨w.heap.size + 1, f, none⟩) (.inl rfl) _
        have hM5 : Mod No w (w4.setCell ⟨w.heap.size + 1, f, none⟩ (.int .i64 (m.get f))) := (hM.trans hm4 (fun b hb h => by omega)).trans hmS (fun b hb h => by omega)
        go_roundw
        case rel =>
          refine ⟨j + 1, by omega, by go_num, ?_, hM5, hV5, blk_set_other (hm4.heap hW (by omega)) (by dsimp only; omega) _, blk_set_other (hm4.heap hG (by omega)) (by dsimp only; omega) _⟩
          rw [HNX.out, ← Nat.add_assoc]
          exact hR4.mod hmS (by omega) hB2
        case measure => simp [intOf]; omega
    · obtain rfl : j = ln := by omega
      rw [hall j hLn.out] at hV
      have hvm : vc (fun i => if i = 0 then m.kind else m.get i) = #[.int .i64 m.kind, .int .i64 m.epoch, .int .i64 m.client, .int .i64 m.have_, .int .i64 m.first, .int .i64 m.num, .int .i64 m.ack, .int .i64 m.rev, .int .i64 m.tag, .int .i64 m.op.kind, .int .i64 m.op.pos, .int .i64 m.op.ch, .int .i64 m.op.client, .int .i64 m.op.seq] := rfl
      have HVM := Lib.hid hvm
      rw [hvm] at hV
      rw [vc_zero] at hW
      clear hvm
      have hQV := blk_at hV
      have hQW := blk_at hW
      have hFW := blk_free hW
      clear hFj hFb hFm hR hall hG hQG hL
      have hwlt := blk_lt hW
      go_wp2
      have r0 : No w.heap.size ∨ w.heap.size ≤ w.heap.size := .inr (Nat.le_refl _)
      refine bodyPost_ret (v := .tuple #[.agg #[.int .i64 m.kind, .int .i64 m.epoch, .int .i64 m.client, .int .i64 m.have_, .int .i64 m.first, .int .i64 m.num, .int .i64 m.ack, .int .i64 m.rev, .int .i64 m.tag, .int .i64 m.op.kind, .int .i64 m.op.pos, .int .i64 m.op.ch, .int .i64 m.op.client, .int .i64 m.op.seq], .nilIface]) (by simp [results, Tryz.results48, go_sem, hQW, hFW]) rfl ⟨by rw [HVM.out], ?_⟩
      exact mod_setO (mod_setO (mod_setO (mod_setO (mod_setO (mod_setO (mod_setO (mod_setO (mod_setO (mod_setO (mod_setO (mod_setO (mod_setO (mod_setO hM r0) r0) r0) r0) r0) r0) r0) r0) r0) r0) r0) r0) r0) r0
end Go.Proofs.YtjojhfphlnfimaaGreatDoor.J

namespace Go.Proofs.YtjojhfphlnfimaaGreatDoor.J
open Go Go.RowKit
set_option linter.unusedSimpArgs false
set_option linter.unusedVariables false

def msgVals (m : Msg) : Array Value := #[.int .i64 m.kind, .int .i64 m.epoch, .int .i64 m.client, .int .i64 m.have_, .int .i64 m.first, .int .i64 m.num, .int .i64 m.ack, .int .i64 m.rev, .int .i64 m.tag, .int .i64 m.op.kind, .int .i64 m.op.pos, .int .i64 m.op.ch, .int .i64 m.op.client, .int .i64 m.op.seq]
theorem vcM (m : Msg) : vc (fun i => if i = 0 then m.kind else m.get i) = msgVals m := rfl

set_option maxRecDepth 100000 in
set_option maxHeartbeats 2000000 in
theorem vop_ok (m : Msg) (hch : 0 ≤ m.op.ch ∧ m.op.ch ≤ 255) (p : Nat) (w : World) (hB : w.heap[p]? = some (.cells (msgVals m) 125 (0, 0))) :
    Calls Tryz.prog 49 #[.pointer (some ⟨p, 0, none⟩)] w fun e w' => e = .returned (.agg #[.int .i64 m.op.kind, .int .i64 m.op.pos, .int .u8 m.op.ch, .int .i64 m.op.client, .int .i64 m.op.seq]) ∧ Mod No w w' := by
  have hR1 : (w.alloc (.cells #[.int .i64 0, .int .i64 0, .int .u8 0, .int .i64 0, .int .i64 0] 32)).heap[w.heap.size]? = some (.cells #[.int .i64 0, .int .i64 0, .int .u8 0, .int .i64 0, .int .i64 0] 32 (0, 0)) := blk_new _ _ rfl
  have hB1 := blk_alloc hB (.cells #[.int .i64 0, .int .i64 0, .int .u8 0, .int .i64 0, .int .i64 0] 32)
  have hM1 := (Mod.refl No w).alloc (.cells #[.int .i64 0, .int .i64 0, .int .u8 0, .int .i64 0, .int .i64 0] 32)
  unfold msgVals at hB1
  have hQB := blk_at hB1
  have hQR := blk_at hR1
  have hFR := blk_free hR1
  obtain ⟨c1, c2⟩ := hch
  clear hB
  obtain ⟨k, ep, cl, hv, fi, nu, ac, re, ta, ⟨ok, op, oc, ol, os⟩⟩ := m
  dsimp only at *
  go_enter Tryz.func49, Tryz.ntmps49
  go_wp2
  refine wp_region_text (by kernel_rfl) (by kernel_rfl) (by kernel_rfl) (by kernel_rfl) ?_
  go_wp2
  refine ⟨rfl, by kernel_rfl, ?_⟩
  go_wp2
  have hR2 : (w.alloc (.cells #[.int .i64 ok, .int .i64 op, .int .u8 oc, .int .i64 ol, .int .i64 os] 32)).heap[w.heap.size]? = some (.cells #[.int .i64 ok, .int .i64 op, .int .u8 oc, .int .i64 ol, .int .i64 os] 32 (0, 0)) := blk_new _ _ rfl
  have hQ2 := blk_at hR2
  have hF2 := blk_free hR2
  refine bodyPost_ret (v := .agg #[.int .i64 ok, .int .i64 op, .int .u8 oc, .int .i64 ol, .int .i64 os]) (by simp [results, Tryz.results49, go_sem, hQ2, hF2]) rfl ⟨rfl, ?_⟩
  exact ((Mod.refl No w).alloc _).drew

theorem foldl_off (l : List Nat) (n : Nat) (hn : n = l.length) : offE l n = (l.map wideE).foldl (· + ·) 0 := by
  unfold offE; rw [List.take_of_length_le (by omega)]

set_option maxRecDepth 100000 in
set_option maxHeartbeats 1000000 in
theorem long_ok (L : Option Addr) (n c : Nat) (l : List Nat) (w : World) (hL : Rd kInt w L n c l) (hl : ∀ f ∈ l, f < 14) (hn : n ≤ 100) (hT : WsT w) :
    Calls Tryz.prog 47 #[.slice L n c] w fun e w' => e = .returned (.int .i64 (1 + offE l n : Nat)) ∧ w' = w := by
  have hb : ∀ j, j ≤ n → offE l j ≤ 2 * j := by
    intro j
    induction j with
    | zero => intro _; simp [offE]
    | succ j ih =>
      intro hj
      have hjl : j < l.length := by rw [← hL.1]; omega
      have hx := List.getElem?_eq_getElem (l := l) (i := j) hjl
      rw [offE_next l j _ hx]
      have := ih (by omega)
      rcases wideE_12 (l[j]'hjl) with h | h <;> omega
  go_enter Tryz.func47, Tryz.ntmps47
  go_wp2
  go_loopw [3, 8] (fun s3 s8 wr => ∃ j : Nat, j ≤ n ∧ s8 = .int .i64 j ∧ s3 = .int .i64 (1 + offE l j : Nat) ∧ wr = w) (fun _ s8 _ => n - (intOf s8).toNat)
  case atStart => exact ⟨0, Nat.zero_le _, rfl, by simp [offE], rfl⟩
  case round =>
    obtain ⟨j, hj, rfl, rfl, rfl⟩ := hrel
    have j0 : (0 : Int) ≤ (j : Int) := by omega
    by_cases hlt : j < n
    · obtain ⟨b0, o0, f, hx, rfl, x1⟩ := hL.int hlt
      have hf := hl f (List.mem_of_getElem? hx)
      have hw := hT f hf
      have hnx := offE_next l j f hx
      have hbj := hb j hj
      have hw2 := wideE_12 f
      have HNX := Lib.hid hnx
      clear hx hnx hb hT hl
      obtain ⟨q, hq⟩ : ∃ q, offE l j = q := ⟨_, rfl⟩
      obtain ⟨d, hd⟩ : ∃ q, wideE f = q := ⟨_, rfl⟩
      rw [hq] at HNX hbj ⊢
      rw [hd] at HNX hw hw2
      clear hq hd
      have f0 : (0 : Int) ≤ (f : Int) := by omega
      go_wp2
      go_roundw
      case rel => exact ⟨j + 1, by omega, by go_num, by rw [HNX.out]; congr 1; push_cast; omega, trivial⟩
      case measure => simp [intOf]; omega
    · obtain rfl : j = n := by omega
      go_wp2
      go_ret
      exact ⟨rfl, rfl⟩

set_option maxRecDepth 100000 in
set_option maxHeartbeats 4000000 in
theorem decode_ok (m : Msg) (hk : m.kind = 3 ∨ m.kind = 4 ∨ m.kind = 5 ∨ m.kind = 6 ∨ m.kind = 1) (hg : goodE m) (A : Option Addr) (n c : Nat) (w : World)
    (hr : Rd kB w A n c (encE m)) (hO : OcT w) (hT : WsT w) (hS : WshT w) :
    Calls Tryz.prog 25 #[.slice A n c] w fun e w' => e = .returned (.tuple #[m.v, .nilIface]) ∧ Mod No w w' := by
  have hch := goodE_ch hg
  obtain ⟨bs, hbs⟩ : ∃ bs, ((m.kind % 256).toNat :: bytesE m (namedE m.kind)) = bs := ⟨_, rfl⟩
  have hbo : bytesOk bs := by
    rw [← hbs]
    intro c hc
    rcases List.mem_cons.1 hc with rfl | hc
    · omega
    · exact bytesE_ok _ _ c hc
  have hlen : bs.length = 1 + offE (namedE m.kind) (namedE m.kind).length := by
    rw [← hbs, List.length_cons, ← offE_len m, List.take_of_length_le (Nat.le_refl _)]; omega
  have hlen21 : bs.length ≤ 21 := by
    have h1 := bytesE_len m (namedE m.kind)
    have h2 := namedE_len m.kind
    rw [← hbs, List.length_cons]; omega
  have hb0 : bs[0]? = some m.kind.toNat := by rw [← hbs]; simp; omega
  unfold encE at hr
  rw [hbs] at hr
  obtain ⟨q, hq⟩ : ∃ q, bs.length = q := ⟨_, rfl⟩
  have hn : n = q + 4 := by rw [hr.1, sealE, List.length_append, sumB_len, hq]
  subst hn
  rw [hq] at hlen hlen21
  have hbd := wbody_ok A q c bs (w.alloc (.cells #[.int .i64 0, .int .i64 0, .int .i64 0, .int .i64 0, .int .i64 0, .int .i64 0, .int .i64 0, .int .i64 0, .int .i64 0, .int .i64 0, .int .i64 0, .int .u8 0, .int .i64 0, .int .i64 0] 34)) (hr.alloc _) hbo (fun i hi => ((Mod.refl No w).alloc _).cell (hO i hi) (fun h => h)) (by omega) (by omega)
  have hM0 := (Mod.refl No w).alloc (.cells #[.int .i64 0, .int .i64 0, .int .i64 0, .int .i64 0, .int .i64 0, .int .i64 0, .int .i64 0, .int .i64 0, .int .i64 0, .int .i64 0, .int .i64 0, .int .u8 0, .int .i64 0, .int .i64 0] 34)
  have hW0 : (w.alloc (.cells #[.int .i64 0, .int .i64 0, .int .i64 0, .int .i64 0, .int .i64 0, .int .i64 0, .int .i64 0, .int .i64 0, .int .i64 0, .int .i64 0, .int .i64 0, .int .u8 0, .int .i64 0, .int .i64 0] 34)).heap[w.heap.size]? = some (.cells #[.int .i64 0, .int .i64 0, .int .i64 0, .int .i64 0, .int .i64 0, .int .i64 0, .int .i64 0, .int .i64 0, .int .i64 0, .int .i64 0, .int .i64 0, .int .u8 0, .int .i64 0, .int .i64 0] 34 (0, 0)) := blk_new _ _ rfl
  obtain ⟨K, hK⟩ : ∃ K : Nat, m.kind = (K : Int) := ⟨m.kind.toNat, by omega⟩
  have hK1 : 1 ≤ K := by omega
  have hK6 : K ≤ 6 := by omega
  have hK2 : ((K : Int) == 2) = false := by rw [beq_eq_false_iff_ne]; omega
  obtain ⟨L, ln, lc, hcS, hRS⟩ := hS K hK1 hK6
  have hl14 : ∀ f ∈ namedE (K : Int), f < 14 := fun f hf => (namedE_in hf).2
  have hln : ln = (namedE m.kind).length := by rw [hK]; exact hRS.1
  have hln10 : ln ≤ 10 := by rw [hln]; exact namedE_len _
  have hlq : 1 + offE (namedE (K : Int)) ln = q := by rw [hlen, ← hln, hK]
  have hlg := fun w hR hT => long_ok L ln lc (namedE (K : Int)) w hR hl14 (by omega) hT
  rw [hlq] at hlg
  have hpk := fun B b w hR hL hT => pick_ok m hk hg B q b L ln lc w hR hL hT (by omega)
  rw [hbs] at hpk
  rw [vcM] at hpk
  unfold msgVals at hpk
  have hvo := fun p w hB => vop_ok m hch p w hB
  unfold msgVals at hvo
  rw [hK] at hpk hb0
  simp only [hK] at hvo
  have hb0' : bs[0]? = some K := by rw [hb0]; rfl
  have hvm : m.v = .agg #[.int .i64 (K : Int), .int .i64 m.epoch, .int .i64 m.client, .int .i64 m.have_, .int .i64 m.first, .int .i64 m.num, .int .i64 m.ack, .int .i64 m.rev, .int .i64 m.tag, .int .i64 m.op.kind, .int .i64 m.op.pos, .int .u8 m.op.ch, .int .i64 m.op.client, .int .i64 m.op.seq] := by unfold Msg.v; rw [hK]
  rw [hvm]
  have hq0 : 0 < q := by omega
  have hK0 : (0 : Int) ≤ (K : Int) := by omega
  have hk1' : decide ((K : Int) < 1) = false := by simp; omega
  have hk6' : decide ((6 : Int) < (K : Int)) = false := by simp; omega
  clear hb0 hvm hlq hln hl14 hlen hbs hk hg hr hO hS hK hbo
  go_enter Tryz.func25, Tryz.ntmps25
  go_upto_region 12 with (first
    | (go_at_call 45; refine hbd.mono ?_; rintro e w1 ⟨B, rfl, hm1, hR1⟩; obtain ⟨b1, o1, x, hx, rfl, x1⟩ := hR1.byte (i := 0) hq0; rw [Nat.add_zero] at x1; obtain rfl : x = K := (by rw [hx] at hb0'; exact Option.some.inj hb0'); have hM1 := hM0.then0 hm1; have hT1 := hT.mod hM1 (fun h => h); have hcS1 := hM1.cell hcS (fun h => h); have hRS1 := hRS.mod0 hM1; have hW1 := hm1.heap hW0 (fun h => h))
    | (go_at_call 47; refine (hlg _ hRS1 hT1).mono ?_; rintro e w2 ⟨rfl, rfl⟩)
    | (go_at_call 48; refine (hpk _ _ _ hR1 hRS1 hT1).mono ?_; rintro e w3 ⟨rfl, hm3⟩; have hM3 := hM1.then0 hm3; have hW3 := hm3.heap hW1 (fun h => h)))
  have hV3 : (w3.alloc (.cells #[.int .i64 (x : Int), .int .i64 m.epoch, .int .i64 m.client, .int .i64 m.have_, .int .i64 m.first, .int .i64 m.num, .int .i64 m.ack, .int .i64 m.rev, .int .i64 m.tag, .int .i64 m.op.kind, .int .i64 m.op.pos, .int .i64 m.op.ch, .int .i64 m.op.client, .int .i64 m.op.seq] 125)).heap[w3.heap.size]? = some (.cells #[.int .i64 (x : Int), .int .i64 m.epoch, .int .i64 m.client, .int .i64 m.have_, .int .i64 m.first, .int .i64 m.num, .int .i64 m.ack, .int .i64 m.rev, .int .i64 m.tag, .int .i64 m.op.kind, .int .i64 m.op.pos, .int .i64 m.op.ch, .int .i64 m.op.client, .int .i64 m.op.seq] 125 (0, 0)) := blk_new _ _ rfl
  have hW4 := blk_alloc hW3 (.cells #[.int .i64 (x : Int), .int .i64 m.epoch, .int .i64 m.client, .int .i64 m.have_, .int .i64 m.first, .int .i64 m.num, .int .i64 m.ack, .int .i64 m.rev, .int .i64 m.tag, .int .i64 m.op.kind, .int .i64 m.op.pos, .int .i64 m.op.ch, .int .i64 m.op.client, .int .i64 m.op.seq] 125)
  have hM4 := hM3.alloc (.cells #[.int .i64 (x : Int), .int .i64 m.epoch, .int .i64 m.client, .int .i64 m.have_, .int .i64 m.first, .int .i64 m.num, .int .i64 m.ack, .int .i64 m.rev, .int .i64 m.tag, .int .i64 m.op.kind, .int .i64 m.op.pos, .int .i64 m.op.ch, .int .i64 m.op.client, .int .i64 m.op.seq] 125)
  obtain ⟨w5, hw5⟩ : ∃ w5, w5 = w3.alloc (.cells #[.int .i64 (x : Int), .int .i64 m.epoch, .int .i64 m.client, .int .i64 m.have_, .int .i64 m.first, .int .i64 m.num, .int .i64 m.ack, .int .i64 m.rev, .int .i64 m.tag, .int .i64 m.op.kind, .int .i64 m.op.pos, .int .i64 m.op.ch, .int .i64 m.op.client, .int .i64 m.op.seq] 125) := ⟨_, rfl⟩
  rw [← hw5] at hV3 hW4 hM4 ⊢
  clear hw5 hW0 hM0 hm1 hR1 x1 hM1 hT1 hcS1 hRS1 hW1 hm3 hM3 hW3 hpk hlg hbd hT hcS hRS hx hb0'
  have hQV := blk_at hV3
  have hplt := blk_lt hW4
  refine wp_region_seg ([0, 1, 2, 3, 4, 5, 6, 7, 8, 9, 10, 11, 12, 13, 14, 15, 16].map (·, false) ++ [(17, true), (18, false), (19, false), (20, false)]) (by kernel_rfl) (by kernel_rfl) (by kernel_rfl) (by kernel_rfl) ?_
  simp only [List.map_cons, List.map_nil, List.cons_append, List.nil_append, List.filterMap_cons, List.filterMap_nil, pick, List.getElem?_toArray, List.getElem?_cons_zero, List.getElem?_cons_succ, Option.map_some]
  refine wpSeg_cut (fun e a w h => h.1) [_, _, _, _, _, _, _, _, _, _, _, _, _, _, _, _, _] _ _ _ ?_
  go_wp2
  refine wpSeg_mark rfl ?_
  go_wp2_with (go_at_call 49; refine (hvo _ w5.drew hV3).mono ?_; rintro e w6 ⟨rfl, hm6⟩; refine ⟨fun b hb => hm6.block b hb (fun hf => hf), ?_⟩)
  have hW6 := hm6.heap hW4 (fun h => h)
  have hQ6 := blk_at hW6
  have hF6 := blk_free hW6
  refine wpSeg_rest [_, _, _] ?_
  go_wp2
  refine ⟨rfl, by kernel_rfl, ?_⟩
  go_wp2
  have r0 : No w.heap.size ∨ w.heap.size ≤ w.heap.size := .inr (Nat.le_refl _)
  refine bodyPost_ret (v := .tuple #[.agg #[.int .i64 (x : Int), .int .i64 m.epoch, .int .i64 m.client, .int .i64 m.have_, .int .i64 m.first, .int .i64 m.num, .int .i64 m.ack, .int .i64 m.rev, .int .i64 m.tag, .int .i64 m.op.kind, .int .i64 m.op.pos, .int .u8 m.op.ch, .int .i64 m.op.client, .int .i64 m.op.seq], .nilIface]) (by simp [results, Tryz.results25, go_sem, hQ6, hF6]) rfl ⟨rfl, ?_⟩
  have hM6 := hM4.drew.then0 hm6
  exact mod_setO (mod_setO (mod_setO (mod_setO (mod_setO (mod_setO (mod_setO (mod_setO (mod_setO (mod_setO (mod_setO (mod_setO (mod_setO (mod_setO hM6 r0) r0) r0) r0) r0) r0) r0) r0) r0) r0) r0) r0) r0) r0
end Go.Proofs.YtjojhfphlnfimaaGreatDoor.J
