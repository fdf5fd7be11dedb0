/- One edit of a client: what edit, Insert and Delete answer and what becomes of the client. -/
import Derived.Test.YtjojhfphlnfimaaGreatDoorCl
namespace Go.Proofs.YtjojhfphlnfimaaGreatDoor.J
open Go Go.RowKit
set_option linter.unusedSimpArgs false
set_option linter.unusedVariables false

theorem mod_set {S : Nat → Prop} {w w' : World} {b i : Nat} {v : Value} (h : Mod S w w') (hp : S b ∨ w.heap.size ≤ b) : Mod S w (w'.setCell ⟨b, i, none⟩ v) := h.setCell (p := ⟨b, i, none⟩) hp v

theorem cut_world {G F : World → Prop} {W : World} (hF : F W) (h : ∀ w', F w' → G w') : G W := h W hF

theorem clCells_made (m : ClM) (c : Cl) (v : Int) : (clCells m c).setIfInBounds 5 (.int .i64 v) = clCells m { c with made := v } := by simp [clCells]
theorem clCells_text (m : ClM) (c : Cl) (A : Option Addr) (d : Nat) (l : List Elem) : (clCells m c).setIfInBounds 8 (.slice A l.length d) = clCells { m with tA := A, tc := d } { c with text := l } := by simp [clCells]
theorem clCells_pending (m : ClM) (c : Cl) (A : Option Addr) (d n : Nat) (l : List Edit) (hn : n = l.length) : (clCells m c).setIfInBounds 9 (.slice A n d) = clCells { m with pA := A, pc := d } { c with pending := l } := by subst hn; simp [clCells]

/-- The client behind an edit of its own. -/
def Cl.edited (c : Cl) (o : Op) : Cl :=
  { c with made := c.made + 1, text := applyE c.text o, pending := c.pending ++ [⟨c.hav, o⟩], forms := c.forms ++ [⟨c.made + 1, o⟩], flast := c.made + 1, left := if 0 < c.epoch then c.left ++ [⟨c.hav, o⟩] else c.left }

/-- The parts of an edited client put together. -/
theorem ed_final {p : Nat} {m : ClM} {c : Cl} {col : Nat → Nat} {t : Nat} {o : Op} {w w9 : World} (hc : ClAt w p m c col t) {L : List Elem} (hL : applyE c.text o = L) {n3 n4 n6 n7 : Nat} {A2 A5 A7 A9 : Option Addr} {c2 c5 c7 c9 : Nat} {lf : List Edit}
    (hlf : lf = if 0 < c.epoch then c.left ++ [⟨c.hav, o⟩] else c.left)
    (h3 : w.heap.size + 2 ≤ n3) (h4 : n3 + 1 ≤ n4) (h6 : n4 + 1 ≤ n6) (h7 : n6 ≤ n7)
    (hM : Mod (fun b => b = p ∨ (b < w.heap.size ∧ (col b = t + 8 ∨ col b = t + 6 ∨ col b = t + 5 ∨ col b = t + 1 ∨ col b = t + 2))) w w9)
    (hB : w9.heap[p]? = some (.cells (clCells { m with tA := A2, tc := c2, pA := A5, pc := c5 } { c with made := c.made + 1, text := L, pending := c.pending ++ [⟨c.hav, o⟩] }) 93 (0, 0)))
    (hT : Own kElem 95 w9 A2 L.length c2 L (fun b => w.heap.size + 2 ≤ b ∧ b < n3))
    (hE : Own kEdit 60 w9 A5 (c.pending.length + 1) c5 (c.pending ++ [⟨c.hav, o⟩]) (fun b => (b < w.heap.size ∧ col b = t + 8) ∨ (n4 ≤ b ∧ b < n6)))
    (hS : SpAt w9 m.ps A7 (c.forms.length + 1) c7 (c.forms ++ [⟨c.made + 1, o⟩]) (c.made + 1) false (fun b => (b < w.heap.size ∧ col b = t + 6) ∨ (n6 ≤ b ∧ b < n7)))
    (hO : OutAt w9 m.po 8 c.acked c.sent A9 lf.length c9 lf (fun b => (b < w.heap.size ∧ col b = t + 2) ∨ n7 ≤ b)) :
    ∃ m' col', ClAt w9 p m' (c.edited o) col' t ∧ Mod (fun b => t ≤ col b ∧ col b ≤ t + 8) w w9 ∧ ∀ b, b < w.heap.size → col' b = col b := by
  have cp := hc.cp
  have co := hc.co
  have ci := hc.ci
  have cm := hc.cm
  have cs := hc.cs
  have lp := blk_lt hc.hp
  have lo := blk_lt hc.ho.1
  have li := blk_lt hc.hi
  have lm := blk_lt hc.hm
  have ls := blk_lt hc.hs.1
  have hlen : (c.pending ++ [(⟨c.hav, o⟩ : Edit)]).length = c.pending.length + 1 := by simp
  have hfl : (c.forms ++ [(⟨c.made + 1, o⟩ : Marked)]).length = c.forms.length + 1 := by simp
  refine ⟨{ m with tA := A2, tc := c2, pA := A5, pc := c5, fA := A7, fc := c7, lA := A9, lc := c9 },
    fun b => if b < w.heap.size then col b else if b < w.heap.size + 2 then 0 else if b < n3 then t + 7 else if b < n4 then 0 else if b < n6 then t + 8 else if b < n7 then t + 6 else t + 2, ?_, ?_, fun b hb => by simp [hb]⟩
  · have e : ∀ b, b < w.heap.size → (if b < w.heap.size then col b else if b < w.heap.size + 2 then 0 else if b < n3 then t + 7 else if b < n4 then 0 else if b < n6 then t + 8 else if b < n7 then t + 6 else t + 2) = col b := fun b hb => by simp [hb]
    refine { cp := (e _ lp).trans cp, co := (e _ lo).trans co, ci := (e _ li).trans ci, cm := (e _ lm).trans cm, cs := (e _ ls).trans cs, hp := ?_, ho := ?_, hi := ?_, hm := ?_, hs := ?_, ht := ?_, he := ?_ }
    · rw [hB]; subst hL; simp [clCells, Cl.edited]
    · simp only [Cl.edited, ← hlf]
      exact ⟨hO.1, hO.2.mono (fun b hb h => by
        rcases h with h | h
        · rw [e b h.1]; exact h.2
        · (repeat' split) <;> omega)⟩
    · refine hM.heap (b := m.pi) hc.hi (fun h => ?_)
      rcases h with h | h
      · rw [h] at ci; omega
      · have := h.2; omega
    · refine hM.heap (b := m.pm) hc.hm (fun h => ?_)
      rcases h with h | h
      · rw [h] at cm; omega
      · have := h.2; omega
    · simp only [Cl.edited, hfl]
      exact ⟨hS.1, hS.2.mono (fun b hb h => by
        rcases h with h | h
        · rw [e b h.1]; exact h.2
        · (repeat' split) <;> omega)⟩
    · simp only [Cl.edited, hL]
      exact hT.mono (fun b hb h => by (repeat' split) <;> omega)
    · simp only [Cl.edited, hlen]
      exact hE.mono (fun b hb h => by
        rcases h with h | h
        · rw [e b h.1]; exact h.2
        · (repeat' split) <;> omega)
  · exact hM.mono (fun b hb h => by
      rcases h with h | h
      · rw [h]; omega
      · have := h.2; omega)

set_option maxRecDepth 100000 in
set_option maxHeartbeats 1000000 in
theorem edit_ok (p : Nat) (m : ClM) (c : Cl) (col : Nat → Nat) (t : Nat) (k ps ch cl0 sq0 : Int) (w : World) (hc : ClAt w p m c col t) (hu : 0 ≤ ch ∧ ch ≤ 255)
    (h0 : 0 ≤ c.made) (h64 : c.made < 64) (hfit : fitsE c.text.length ⟨k, ps, ch, c.id, c.made + 1⟩ = 0) (hfl : c.flast ≤ c.made) (hfn : c.forms.length ≤ 4096) (hpn : c.pending.length ≤ 4096)
    (ha0 : 0 ≤ c.acked) (ha1 : c.acked + c.left.length < 4096) (htn : c.text.length ≤ 4096) :
    Calls Tryz.prog 44 #[.pointer (some ⟨p, 0, none⟩), .agg #[.int .i64 k, .int .i64 ps, .int .u8 ch, .int .i64 cl0, .int .i64 sq0]] w fun e w' =>
      e = .returned (.tuple #[.agg #[.int .i64 c.hav, .int .i64 k, .int .i64 ps, .int .u8 ch, .int .i64 c.id, .int .i64 (c.made + 1)], .int .i64 0]) ∧
      ∃ m' col', ClAt w' p m' (c.edited ⟨k, ps, ch, c.id, c.made + 1⟩) col' t ∧ Mod (fun b => t ≤ col b ∧ col b ≤ t + 8) w w' ∧ ∀ b, b < w.heap.size → col' b = col b := by
  have hne : (c.made == 64) = false := by rw [beq_eq_false_iff_ne]; omega
  have hB := hc.hp
  have hC := blk_at hB
  have hF := blk_free hB
  simp only [clCells] at hC
  have hplt := blk_lt hB
  obtain ⟨i, hi1, hi2, hi3, hi4⟩ := info_parts Tryz.infoEdit
  have hA := fun w hr => apply_ok m.tA c.text.length m.tc ⟨k, ps, ch, c.id, c.made + 1⟩ c.text w hu hr hfit
  simp only [Op.v] at hA
  have hval := (fitsE_zero hfit).1
  clear hfit
  obtain ⟨L, hL⟩ : ∃ L, applyE c.text ⟨k, ps, ch, c.id, c.made + 1⟩ = L := ⟨_, rfl⟩
  rw [hL] at hA
  have HL := Lib.hid hL
  clear hL
  have Hval := Lib.hid hval
  clear hval
  go_enter Tryz.func44, Tryz.ntmps44
  go_wp2
  refine wp_region_text (by kernel_rfl) (by kernel_rfl) (by kernel_rfl) (by kernel_rfl) ?_
  go_wp2_with (go_at_call 70; refine (hA _ (Rd.drew ((hc.ht.rd.alloc _).alloc _))).mono ?_; rintro e w2 ⟨A2, n2, c2, rfl, hm2, hO2⟩; obtain rfl := hO2.1; have hB2 := hm2.heap (blk_alloc (blk_alloc hB _) _) (fun h => h); have hC2 := blk_at hB2; have hF2 := blk_free hB2; simp only [clCells] at hC2)
  refine ⟨rfl, by kernel_rfl, ?_⟩
  go_wp2
  have hsz2 := hm2.size
  simp only [World.size_drew, World.size_alloc] at hsz2
  have hX2 := hm2.heap (b := w.heap.size) (blk_alloc (blk_new w _ rfl) _) (fun h => h)
  have hR2 := hm2.heap (b := w.heap.size + 1) (blk_new _ _ (by simp)) (fun h => h)
  have hB3 := blk_set (blk_set hB2 5 (.int .i64 (c.made + 1))) 8 (.slice A2 L.length c2)
  rw [clCells_made, clCells_text] at hB3
  have hM2 : Mod No w w2 := (((Mod.refl No w).alloc _).alloc _).drew.then0 hm2
  refine cut_world (F := fun w3 => w3.heap[p]? = some (.cells (clCells { m with tA := A2, tc := c2 } { c with made := c.made + 1, text := L }) 93 (0, 0)) ∧
      Mod (fun b => b = p) w w3 ∧ Own kElem 95 w3 A2 L.length c2 L (fun b => w.heap.size + 2 ≤ b ∧ b < w3.heap.size) ∧
      w3.heap[w.heap.size]? = some (.cells #[.int .i64 k, .int .i64 ps, .int .u8 ch, .int .i64 c.id, .int .i64 (c.made + 1)] 32 (0, 0)) ∧
      w3.heap[w.heap.size + 1]? = some (.cells #[.int .i64 0, .int .i64 0, .int .i64 0, .int .u8 0, .int .i64 0, .int .i64 0] 60 (0, 0)) ∧ w.heap.size + 2 ≤ w3.heap.size)
    ⟨hB3, ((hM2.of (S := fun b => b = p)).setCell (p := ⟨p, 5, none⟩) (.inl rfl) _).setCell (p := ⟨p, 8, none⟩) (.inl rfl) _,
      (((hO2.mono (S' := fun b => w.heap.size + 2 ≤ b ∧ b < w2.heap.size) (fun b hb h => ⟨by simpa using h, hb⟩)).setOther (p := ⟨p, 5, none⟩) (fun h => by have := h.1; dsimp only at this; omega) _).setOther (p := ⟨p, 8, none⟩) (fun h => by have := h.1; dsimp only at this; omega) _).mono (fun b hb h => ⟨h.1, by simpa using h.2⟩),
      blk_set_other (blk_set_other hX2 (by dsimp only; omega) _) (by dsimp only; omega) _, blk_set_other (blk_set_other hR2 (by dsimp only; omega) _) (by dsimp only; omega) _, by simp only [World.size_setCell]; omega⟩ ?_
  clear hC hF hB2 hC2 hF2 hO2 hm2 hX2 hR2 hB3 hM2 hsz2 hne hA
  clear w2
  rintro w3 ⟨hB3, hM3, hT3, hX3, hR3, hS3⟩
  have hC3 := blk_at hB3
  simp only [clCells] at hC3
  have hD3 := blk_at hX3
  refine wp_region_text (by kernel_rfl) (by kernel_rfl) (by kernel_rfl) (by kernel_rfl) ?_
  go_wp2
  refine ⟨rfl, by kernel_rfl, ?_⟩
  go_wp2
  have hB4 := blk_alloc (w := w3) hB3 (.cells #[.int .i64 c.hav, .int .i64 k, .int .i64 ps, .int .u8 ch, .int .i64 c.id, .int .i64 (c.made + 1)] 60)
  refine cut_world (F := fun w4 => w4.heap[p]? = some (.cells (clCells { m with tA := A2, tc := c2 } { c with made := c.made + 1, text := L }) 93 (0, 0)) ∧
      Mod (fun b => b = p) w w4 ∧ Own kElem 95 w4 A2 L.length c2 L (fun b => w.heap.size + 2 ≤ b ∧ b < w3.heap.size) ∧
      w4.heap[w.heap.size]? = some (.cells #[.int .i64 k, .int .i64 ps, .int .u8 ch, .int .i64 c.id, .int .i64 (c.made + 1)] 32 (0, 0)) ∧
      w4.heap[w.heap.size + 1]? = some (.cells #[.int .i64 0, .int .i64 0, .int .i64 0, .int .u8 0, .int .i64 0, .int .i64 0] 60 (0, 0)) ∧
      w4.heap[w3.heap.size]? = some (.cells #[.int .i64 c.hav, .int .i64 k, .int .i64 ps, .int .u8 ch, .int .i64 c.id, .int .i64 (c.made + 1)] 60 (0, 0)) ∧ w3.heap.size + 1 ≤ w4.heap.size)
    ⟨hB4, (hM3.alloc _).drew, (hT3.alloc _).drew, blk_alloc hX3 _, blk_alloc hR3 _, blk_new _ _ rfl, by simp⟩ ?_
  clear hB3 hC3 hD3 hX3 hR3 hB4
  rintro w4 ⟨hB4, hM4, hT4, hX4, hR4, hY4, hS4⟩
  clear hT3
  have hC4 := blk_at hB4
  simp only [clCells] at hC4
  have hF4 := blk_free hB4
  have hY4' := blk_at hY4
  have hE4 : Own kEdit 60 w4 m.pA c.pending.length m.pc c.pending (fun b => b < w.heap.size ∧ col b = t + 8) :=
    hc.he.mod' hM4 (fun b hb hs he => by have := hc.cp; subst he; omega) (fun b hb hs => ⟨hb, hs⟩)
  refine wp_region_text (by kernel_rfl) (by kernel_rfl) (by kernel_rfl) (by kernel_rfl) ?_
  go_wp2_with (at_builtin; refine wpList_append_j (k := kEdit) (T := 60) (by rfl) _ _ _ (by rfl) i _ Tryz.underlying36 hi1 hi2 hi3 rfl (by rfl) (by rfl) (Own.drew (hE4.alloc _)) (Rd.drew (Rd.one (heap_alloc_new _ _) (⟨c.hav, ⟨k, ps, ch, c.id, c.made + 1⟩⟩ : Edit) rfl)) (by unfold maxLen; omega) (by rw [hi4]; omega) ?_; intro A5 c5 w5 hE5 hm5 hs5 _; have hB5 := hm5.heap (blk_alloc hB4 _) (fun h => by have h2 := hc.cp; have h3 := h.2; omega); have hC5 := blk_at hB5; have hF5 := blk_free hB5; simp only [clCells] at hC5)
  refine ⟨rfl, by kernel_rfl, ?_⟩
  go_wp2
  have hX5 := hm5.heap (blk_alloc hX4 _) (fun h => by have := h.1; omega)
  have hR5 := hm5.heap (blk_alloc hR4 _) (fun h => by have := h.1; omega)
  have hY5 := hm5.heap (blk_alloc hY4 _) (fun h => by have := h.1; omega)
  have hsz5 := hm5.size
  simp only [World.size_drew, World.size_alloc] at hsz5
  have hB6 := blk_set hB5 9 (.slice A5 (c.pending.length + 1) c5)
  rw [clCells_pending _ _ _ _ _ (c.pending ++ [⟨c.hav, ⟨k, ps, ch, c.id, c.made + 1⟩⟩]) (by simp)] at hB6
  refine cut_world (F := fun w6 => w6.heap[p]? = some (.cells (clCells { m with tA := A2, tc := c2, pA := A5, pc := c5 } { c with made := c.made + 1, text := L, pending := c.pending ++ [⟨c.hav, ⟨k, ps, ch, c.id, c.made + 1⟩⟩] }) 93 (0, 0)) ∧
      Mod (fun b => b = p ∨ (b < w.heap.size ∧ col b = t + 8)) w w6 ∧ Own kElem 95 w6 A2 L.length c2 L (fun b => w.heap.size + 2 ≤ b ∧ b < w3.heap.size) ∧
      Own kEdit 60 w6 A5 (c.pending.length + 1) c5 (c.pending ++ [⟨c.hav, ⟨k, ps, ch, c.id, c.made + 1⟩⟩]) (fun b => (b < w.heap.size ∧ col b = t + 8) ∨ (w4.heap.size ≤ b ∧ b < w6.heap.size)) ∧
      w6.heap[w.heap.size]? = some (.cells #[.int .i64 k, .int .i64 ps, .int .u8 ch, .int .i64 c.id, .int .i64 (c.made + 1)] 32 (0, 0)) ∧
      w6.heap[w.heap.size + 1]? = some (.cells #[.int .i64 0, .int .i64 0, .int .i64 0, .int .u8 0, .int .i64 0, .int .i64 0] 60 (0, 0)) ∧
      w6.heap[w3.heap.size]? = some (.cells #[.int .i64 c.hav, .int .i64 k, .int .i64 ps, .int .u8 ch, .int .i64 c.id, .int .i64 (c.made + 1)] 60 (0, 0)) ∧ w4.heap.size + 1 ≤ w6.heap.size)
    ⟨hB6, (((hM4.mono (fun b _ h => .inl h)).alloc _).drew.trans hm5 (fun b _ h => .inr h)).setCell (p := ⟨p, 9, none⟩) (.inl (.inl rfl)) _,
      (((hT4.alloc _).drew.mod hm5 (fun b _ h1 h2 => by have := h1.1; have := h2.1; omega))).setOther (p := ⟨p, 9, none⟩) (fun h => by have := h.1; dsimp only at this; omega) _,
      (((hE5.mono (S' := fun b => (b < w.heap.size ∧ col b = t + 8) ∨ (w4.heap.size ≤ b ∧ b < w5.heap.size)) (fun b hb h => by rcases h with h | h; exact .inl h; exact .inr ⟨by simp at h; omega, hb⟩))).setOther (p := ⟨p, 9, none⟩) (fun h => by have h2 := hc.cp; rcases h with h | h; have := h.2; dsimp only at this; omega; have := h.1; dsimp only at this; omega) _).mono (fun b hb h => by simpa using h),
      blk_set_other hX5 (by dsimp only; omega) _, blk_set_other hR5 (by dsimp only; omega) _, blk_set_other hY5 (by dsimp only; omega) _, by simp only [World.size_setCell]; omega⟩ ?_
  clear hB4 hC4 hF4 hY4' hX4 hR4 hY4 hB5 hC5 hF5 hX5 hR5 hY5 hB6 hE5 hm5 hs5 hM4 hE4 hsz5
  clear w5
  rintro w6 ⟨hB6, hM6, hT6, hE6, hX6, hR6, hY6, hS6⟩
  clear hT4
  have hC6 := blk_at hB6
  simp only [clCells] at hC6
  have hD6 := blk_at hX6
  have cp := hc.cp
  have cs := hc.cs
  have co := hc.co
  have hs6 : SpAt w6 m.ps m.fA c.forms.length m.fc c.forms c.flast false (fun b => b < w.heap.size ∧ col b = t + 6) :=
    hc.hs.mod hM6 (fun h => by rcases h with h | h; rw [h] at cs; omega; have := h.2; omega) (fun b hb hs he => by rcases he with h | h; rw [h] at hs; omega; have := h.2; omega) (fun b hb hs => ⟨hb, hs⟩)
  have ho6 : OutAt w6 m.po 8 c.acked c.sent m.lA c.left.length m.lc c.left (fun b => b < w.heap.size ∧ col b = t + 2) :=
    hc.ho.mod hM6 (fun h => by rcases h with h | h; rw [h] at co; omega; have := h.2; omega) (fun b hb hs he => by rcases he with h | h; rw [h] at hs; omega; have := h.2; omega) (fun b hb hs => ⟨hb, hs⟩)
  have lps := blk_lt hc.hs.1
  have lpo := blk_lt hc.ho.1
  refine wp_region_text (by kernel_rfl) (by kernel_rfl) (by kernel_rfl) (by kernel_rfl) ?_
  go_wp2_with (go_at_call 62; refine (keep_ok m.ps m.fA c.forms.length m.fc c.forms c.flast false (fun b => b < w.heap.size ∧ col b = t + 6) (c.made + 1) ⟨k, ps, ch, c.id, c.made + 1⟩ _ hu (hs6.mod (Mod.drew (Mod.refl No _)) (fun h => h) (fun _ _ _ h => h) (fun _ _ h => h)) (fun h => by have := h.2; omega) Hval.out (by omega) (by omega) hfn).mono ?_; rintro e w7 ⟨rfl, A7, c7, hS7, hm7⟩)
  refine ⟨rfl, by kernel_rfl, ?_⟩
  have hnp : ¬ (p = m.ps ∨ (p < w.heap.size ∧ col p = t + 6)) := by
    rintro (h | h)
    · rw [← h] at cs; omega
    · have := h.2; omega
  have hB7 := hm7.heap (w := w6.drew) hB6 hnp
  have hX7 := hm7.heap (w := w6.drew) hX6 (fun h => by rcases h with h | h; omega; have := h.1; omega)
  have hR7 := hm7.heap (w := w6.drew) hR6 (fun h => by rcases h with h | h; omega; have := h.1; omega)
  have hY7 := hm7.heap (w := w6.drew) hY6 (fun h => by rcases h with h | h; omega; have := h.1; omega)
  have hT7 := hT6.drew.mod hm7 (fun b hb h1 h2 => by have h1 := h1.1; rcases h2 with h | h; omega; have := h.1; omega)
  have hE7 := hE6.drew.mod hm7 (fun b hb h1 h2 => by
    have h3 := cs
    rcases h2 with h | h
    · rw [h] at h1; rcases h1 with h1 | h1
      · have := h1.2; omega
      · have := h1.1; omega
    · have h4 := h.1; have h5 := h.2; rcases h1 with h1 | h1
      · have := h1.2; omega
      · have := h1.1; omega)
  have hM7 : Mod (fun b => b = p ∨ (b < w.heap.size ∧ (col b = t + 8 ∨ col b = t + 6 ∨ col b = t + 5))) w w7 :=
    ((hM6.mono (fun b _ h => by rcases h with h | h; exact .inl h; exact .inr ⟨h.1, .inl h.2⟩)).drew).trans hm7 (fun b hb h => by
      rcases h with h | h
      · rw [h]; exact .inr ⟨lps, .inr (.inr cs)⟩
      · exact .inr ⟨h.1, .inr (.inl h.2)⟩)
  have hS7' : SpAt w7 m.ps A7 (c.forms.length + 1) c7 (c.forms ++ [⟨c.made + 1, ⟨k, ps, ch, c.id, c.made + 1⟩⟩]) (c.made + 1) false (fun b => (b < w.heap.size ∧ col b = t + 6) ∨ (w6.heap.size ≤ b ∧ b < w7.heap.size)) :=
    ⟨hS7.1, hS7.2.mono (fun b hb h => by rcases h with h | h; exact .inl h; exact .inr ⟨h, hb⟩)⟩
  have ho7 := ho6.mod (S' := fun b => b < w.heap.size ∧ col b = t + 2) ((Mod.drew (Mod.refl No w6)).of.trans hm7 (fun _ _ h => h)) (fun h => by rcases h with h | h; rw [h] at co; omega; have := h.2; omega) (fun b hb hs he => by have h2 := hs.2; rcases he with h | h; rw [h] at h2; omega; have := h.2; omega) (fun b hb hs => hs)
  have hsz7 := hm7.size
  simp only [World.size_drew] at hsz7
  clear hB6 hC6 hD6 hX6 hR6 hY6 hT6 hE6 hs6 ho6 hM6 hm7 hS7 hnp
  have hC7 := blk_at hB7
  simp only [clCells] at hC7
  have hZ7 := blk_at hY7
  have hQ7 := blk_at hR7
  have hQf7 := blk_free hR7
  have lpo7 := ho7.1
  by_cases hep : 0 < c.epoch
  · have hd : decide (0 < c.epoch) = true := by simp [hep]
    go_wp2
    refine wp_region_text (by kernel_rfl) (by kernel_rfl) (by kernel_rfl) (by kernel_rfl) ?_
    go_wp2_with (go_at_call 71; refine (outPush_ok m.po 8 c.acked c.sent m.lA c.left.length m.lc c.left (fun b => b < w.heap.size ∧ col b = t + 2) ⟨c.hav, ⟨k, ps, ch, c.id, c.made + 1⟩⟩ _ (ho7.mod (Mod.drew (Mod.refl No _)) (fun h => h) (fun _ _ _ h => h) (fun _ _ h => h)) (fun h => by have := h.2; omega) ha0 ha1).mono ?_; rintro e w8 ⟨rfl, A9, c9, hO8, hm8⟩)
    refine ⟨rfl, by kernel_rfl, ?_⟩
    have hnp : ¬ (p = m.po ∨ (p < w.heap.size ∧ col p = t + 2)) := by
      rintro (h | h)
      · rw [← h] at co; omega
      · have := h.2; omega
    have hB8 := hm8.heap (w := w7.drew) hB7 hnp
    have hR8 := hm8.heap (w := w7.drew) hR7 (fun h => by rcases h with h | h; omega; have := h.1; omega)
    have hY8 := hm8.heap (w := w7.drew) hY7 (fun h => by rcases h with h | h; omega; have := h.1; omega)
    have hZ8 := blk_at hY8
    have hQ8 := blk_at hR8
    have hQf8 := blk_free hR8
    have hT8 := hT7.drew.mod hm8 (fun b hb h1 h2 => by have h1 := h1.1; rcases h2 with h | h; omega; have := h.1; omega)
    have hE8 := hE7.drew.mod hm8 (fun b hb h1 h2 => by
      have h3 := co
      rcases h2 with h | h
      · rw [h] at h1; rcases h1 with h1 | h1
        · have := h1.2; omega
        · have := h1.1; omega
      · have h4 := h.1; have h5 := h.2; rcases h1 with h1 | h1
        · have := h1.2; omega
        · have := h1.1; omega)
    have hS8 := hS7'.mod (S' := fun b => (b < w.heap.size ∧ col b = t + 6) ∨ (w6.heap.size ≤ b ∧ b < w7.heap.size)) ((Mod.drew (Mod.refl No w7)).of.trans hm8 (fun _ _ h => h)) (fun h => by rcases h with h | h; rw [h] at cs; omega; have := h.2; omega) (fun b hb h1 h2 => by
      have h3 := co
      rcases h2 with h | h
      · rw [h] at h1; rcases h1 with h1 | h1
        · have := h1.2; omega
        · have := h1.1; omega
      · have h4 := h.1; have h5 := h.2; rcases h1 with h1 | h1
        · have := h1.2; omega
        · have := h1.1; omega) (fun _ _ h => h)
    have hsz8 := hm8.size
    simp only [World.size_drew] at hsz8
    have hM8 : Mod (fun b => b = p ∨ (b < w.heap.size ∧ (col b = t + 8 ∨ col b = t + 6 ∨ col b = t + 5 ∨ col b = t + 1 ∨ col b = t + 2))) w w8 :=
      ((hM7.mono (fun b _ h => by rcases h with h | h; exact .inl h; exact .inr ⟨h.1, by omega⟩)).drew).trans hm8 (fun b hb h => by
        rcases h with h | h
        · rw [h]; exact .inr ⟨lpo, by omega⟩
        · exact .inr ⟨h.1, by omega⟩)
    clear hB7 hC7 hR7 hY7 hX7 hZ7 hQ7 hQf7 hT7 hE7 hS7' ho7 hm8 hM7 lpo7
    go_wp2
    refine bodyPost_ret (v := .tuple #[.agg #[.int .i64 c.hav, .int .i64 k, .int .i64 ps, .int .u8 ch, .int .i64 c.id, .int .i64 (c.made + 1)], .int .i64 0]) (by simp [results, Tryz.results44, go_sem, hQ8, hQf8]) rfl ⟨rfl, ?_⟩
    have hlf : c.left ++ [(⟨c.hav, ⟨k, ps, ch, c.id, c.made + 1⟩⟩ : Edit)] = if 0 < c.epoch then c.left ++ [⟨c.hav, ⟨k, ps, ch, c.id, c.made + 1⟩⟩] else c.left := by rw [if_pos hep]
    have hlen : (c.left ++ [(⟨c.hav, ⟨k, ps, ch, c.id, c.made + 1⟩⟩ : Edit)]).length = c.left.length + 1 := by simp
    rw [← hlen] at hO8
    have r0 : (fun b => b = w.heap.size + 1) (w.heap.size + 1) := rfl
    have hW : Mod (fun b => b = w.heap.size + 1) w8 ((((((w8.setCell ⟨w.heap.size + 1, 0, none⟩ (.int .i64 c.hav)).setCell ⟨w.heap.size + 1, 1, none⟩ (.int .i64 k)).setCell ⟨w.heap.size + 1, 2, none⟩ (.int .i64 ps)).setCell ⟨w.heap.size + 1, 3, none⟩ (.int .u8 ch)).setCell ⟨w.heap.size + 1, 4, none⟩ (.int .i64 c.id)).setCell ⟨w.heap.size + 1, 5, none⟩ (.int .i64 (c.made + 1))) :=
      mod_set (mod_set (mod_set (mod_set (mod_set (mod_set (Mod.refl _ _) (.inl r0)) (.inl r0)) (.inl r0)) (.inl r0)) (.inl r0)) (.inl r0)
    generalize hWW : ((((((w8.setCell ⟨w.heap.size + 1, 0, none⟩ (.int .i64 c.hav)).setCell ⟨w.heap.size + 1, 1, none⟩ (.int .i64 k)).setCell ⟨w.heap.size + 1, 2, none⟩ (.int .i64 ps)).setCell ⟨w.heap.size + 1, 3, none⟩ (.int .u8 ch)).setCell ⟨w.heap.size + 1, 4, none⟩ (.int .i64 c.id)).setCell ⟨w.heap.size + 1, 5, none⟩ (.int .i64 (c.made + 1))) = W at hW ⊢
    clear hWW
    have k1 := hM8.trans hW (fun b hb h => by omega)
    have k2 := hW.heap hB8 (fun h => by omega)
    have k3 := hT8.mod hW (fun b hb h1 h2 => by have := h1.1; omega)
    have k4 := hE8.mod hW (fun b hb h1 h2 => by rcases h1 with h1 | h1 <;> (have := h1.1; omega))
    have k5 := hS8.mod hW (S' := fun b => (b < w.heap.size ∧ col b = t + 6) ∨ (w6.heap.size ≤ b ∧ b < w7.heap.size)) (fun h => by omega) (fun b hb h1 h2 => by rcases h1 with h1 | h1 <;> (have := h1.1; omega)) (fun _ _ h => h)
    have k6 := hO8.mod hW (S' := fun b => (b < w.heap.size ∧ col b = t + 2) ∨ w7.heap.size ≤ b) (fun h => by omega) (fun b hb h1 h2 => by simp only [World.size_drew] at h1; rcases h1 with h1 | h1 <;> (try have := h1.1) <;> omega) (fun b hb h => by simp only [World.size_drew] at h; exact h)
    exact ed_final hc HL.out hlf hS3 hS4 hS6 hsz7 k1 k2 k3 k4 k5 k6
  · have hd : decide (0 < c.epoch) = false := by simp [hep]
    have hM7' := hM7.mono (S' := fun b => b = p ∨ (b < w.heap.size ∧ (col b = t + 8 ∨ col b = t + 6 ∨ col b = t + 5 ∨ col b = t + 1 ∨ col b = t + 2))) (fun b _ h => by rcases h with h | h; exact .inl h; exact .inr ⟨h.1, by omega⟩)
    clear hM7
    go_wp2
    refine bodyPost_ret (v := .tuple #[.agg #[.int .i64 c.hav, .int .i64 k, .int .i64 ps, .int .u8 ch, .int .i64 c.id, .int .i64 (c.made + 1)], .int .i64 0]) (by simp [results, Tryz.results44, go_sem, hQ7, hQf7]) rfl ⟨rfl, ?_⟩
    have hlf : c.left = if 0 < c.epoch then c.left ++ [⟨c.hav, ⟨k, ps, ch, c.id, c.made + 1⟩⟩] else c.left := by rw [if_neg (by omega)]
    have r0 : (fun b => b = w.heap.size + 1) (w.heap.size + 1) := rfl
    have hW : Mod (fun b => b = w.heap.size + 1) w7 ((((((w7.setCell ⟨w.heap.size + 1, 0, none⟩ (.int .i64 c.hav)).setCell ⟨w.heap.size + 1, 1, none⟩ (.int .i64 k)).setCell ⟨w.heap.size + 1, 2, none⟩ (.int .i64 ps)).setCell ⟨w.heap.size + 1, 3, none⟩ (.int .u8 ch)).setCell ⟨w.heap.size + 1, 4, none⟩ (.int .i64 c.id)).setCell ⟨w.heap.size + 1, 5, none⟩ (.int .i64 (c.made + 1))) :=
      mod_set (mod_set (mod_set (mod_set (mod_set (mod_set (Mod.refl _ _) (.inl r0)) (.inl r0)) (.inl r0)) (.inl r0)) (.inl r0)) (.inl r0)
    generalize hWW : ((((((w7.setCell ⟨w.heap.size + 1, 0, none⟩ (.int .i64 c.hav)).setCell ⟨w.heap.size + 1, 1, none⟩ (.int .i64 k)).setCell ⟨w.heap.size + 1, 2, none⟩ (.int .i64 ps)).setCell ⟨w.heap.size + 1, 3, none⟩ (.int .u8 ch)).setCell ⟨w.heap.size + 1, 4, none⟩ (.int .i64 c.id)).setCell ⟨w.heap.size + 1, 5, none⟩ (.int .i64 (c.made + 1))) = W at hW ⊢
    clear hWW
    have k1 := hM7'.trans hW (fun b hb h => by omega)
    have k2 := hW.heap hB7 (fun h => by omega)
    have k3 := hT7.mod hW (fun b hb h1 h2 => by have := h1.1; omega)
    have k4 := hE7.mod hW (fun b hb h1 h2 => by rcases h1 with h1 | h1 <;> (have := h1.1; omega))
    have k5 := hS7'.mod hW (S' := fun b => (b < w.heap.size ∧ col b = t + 6) ∨ (w6.heap.size ≤ b ∧ b < w7.heap.size)) (fun h => by omega) (fun b hb h1 h2 => by rcases h1 with h1 | h1 <;> (have := h1.1; omega)) (fun _ _ h => h)
    have k6 := ho7.mod hW (S' := fun b => (b < w.heap.size ∧ col b = t + 2) ∨ w7.heap.size ≤ b) (fun h => by omega) (fun b hb h1 h2 => by have := h1.1; omega) (fun b hb h => .inl h)
    exact ed_final hc HL.out hlf hS3 hS4 hS6 hsz7 k1 k2 k3 k4 k5 k6
end Go.Proofs.YtjojhfphlnfimaaGreatDoor.J
