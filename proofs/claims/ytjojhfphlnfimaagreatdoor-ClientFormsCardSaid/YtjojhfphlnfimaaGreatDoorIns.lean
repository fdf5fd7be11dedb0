/- Insert and Delete of a client: what they answer and what becomes of the client. -/
import Derived.Test.YtjojhfphlnfimaaGreatDoorEd
namespace Go.Proofs.YtjojhfphlnfimaaGreatDoor.J
open Go Go.RowKit
set_option linter.unusedSimpArgs false
set_option linter.unusedVariables false

theorem fits_insert {n pos ch id seq : Int} (h0 : 0 ≤ pos) (h1 : pos ≤ n) (h2 : n < 4096) (h3 : 32 ≤ ch) (h4 : ch ≤ 126) (h5 : 1 ≤ id) (h6 : id ≤ 64) (h7 : 1 ≤ seq) (h8 : seq ≤ 64) : fitsE n ⟨1, pos, ch, id, seq⟩ = 0 := by
  have hv : validE ⟨1, pos, ch, id, seq⟩ = 0 := by
    have : inR pos 0 4095 = true := inR_true.2 ⟨h0, by omega⟩
    have a1 : inR 1 0 2 = true := rfl
    have a2 : inR id 1 64 = true := inR_true.2 ⟨h5, h6⟩
    have a3 : inR seq 1 64 = true := inR_true.2 ⟨h7, h8⟩
    have a4 : inR ch 32 126 = true := inR_true.2 ⟨h3, h4⟩
    simp [validE, this, a1, a2, a3, a4]
  have b1 : inR n 0 4096 = true := inR_true.2 ⟨by omega, by omega⟩
  unfold fitsE
  rw [if_neg (by simp [hv]), if_neg (by simp [b1]; omega), if_neg (by simp; omega)]
theorem fits_delete {n pos id seq : Int} (h0 : 0 ≤ pos) (h1 : pos < n) (h2 : n ≤ 4096) (h5 : 1 ≤ id) (h6 : id ≤ 64) (h7 : 1 ≤ seq) (h8 : seq ≤ 64) : fitsE n ⟨2, pos, 0, id, seq⟩ = 0 := by
  have hv : validE ⟨2, pos, 0, id, seq⟩ = 0 := by
    have : inR pos 0 4095 = true := inR_true.2 ⟨h0, by omega⟩
    have a1 : inR 2 0 2 = true := rfl
    have a2 : inR id 1 64 = true := inR_true.2 ⟨h5, h6⟩
    have a3 : inR seq 1 64 = true := inR_true.2 ⟨h7, h8⟩
    simp [validE, this, a1, a2, a3]
  have b1 : inR n 0 4096 = true := inR_true.2 ⟨by omega, by omega⟩
  unfold fitsE
  rw [if_neg (by simp [hv]), if_neg (by simp [b1]), if_neg (by simp; omega)]

/-- The colours of what there is; all else has none. -/
def cut0 (col : Nat → Nat) (n : Nat) : Nat → Nat := fun b => if b < n then col b else 0
theorem cut0_lt {col : Nat → Nat} {n b : Nat} (h : b < n) : cut0 col n b = col b := if_pos h
theorem cut0_ge {col : Nat → Nat} {n b : Nat} (h : n ≤ b) : cut0 col n b = 0 := if_neg (Nat.not_lt.2 h)

/-- What holds of a client's numbers. -/
structure Cl.Ok (c : Cl) : Prop where
  id1 : 1 ≤ c.id
  id2 : c.id ≤ 64
  m0 : 0 ≤ c.made
  m1 : c.made ≤ 64
  fl : c.flast ≤ c.made
  fn : c.forms.length ≤ 4096
  pn : c.pending.length ≤ 4096
  a0 : 0 ≤ c.acked
  a1 : c.acked + c.left.length < 4096
  tn : c.text.length ≤ 4096

set_option maxRecDepth 100000 in
set_option maxHeartbeats 1000000 in
theorem edit_quota (p : Nat) (m : ClM) (c : Cl) (col : Nat → Nat) (t : Nat) (k ps ch cl0 sq0 : Int) (w : World) (hc : ClAt w p m c col t) (h64 : c.made = 64) :
    Calls Tryz.prog 44 #[.pointer (some ⟨p, 0, none⟩), .agg #[.int .i64 k, .int .i64 ps, .int .u8 ch, .int .i64 cl0, .int .i64 sq0]] w fun e w' =>
      e = .returned (.tuple #[.agg #[.int .i64 0, .int .i64 0, .int .i64 0, .int .u8 0, .int .i64 0, .int .i64 0], .int .i64 111]) ∧ Mod No w w' := by
  have hB := hc.hp
  have hC := blk_at hB
  simp only [clCells, h64] at hC
  have hplt := blk_lt hB
  clear h64
  go_enter Tryz.func44, Tryz.ntmps44
  go_wp2
  exact bodyPost_ret (v := .tuple #[.agg #[.int .i64 0, .int .i64 0, .int .i64 0, .int .u8 0, .int .i64 0, .int .i64 0], .int .i64 111]) (by simp [results, Tryz.results44, go_sem]) rfl ⟨rfl, ((Mod.refl _ _).alloc _).alloc _⟩

/-- The error of an insertion. -/
def insE (c : Cl) (pos ch : Int) : Int := if ch < 32 ∨ 126 < ch then 42 else if pos < 0 ∨ (c.text.length : Int) < pos then 43 else if c.made = 64 then 111 else 0
def delE (c : Cl) (pos : Int) : Int := if pos < 0 ∨ (c.text.length : Int) ≤ pos then 43 else if c.made = 64 then 111 else 0

set_option maxRecDepth 100000 in
set_option maxHeartbeats 1000000 in
theorem insert_bad (p : Nat) (m : ClM) (c : Cl) (col : Nat → Nat) (t : Nat) (pos ch : Int) (w : World) (hc : ClAt w p m c col t) (hk : c.Ok) (hE : insE c pos ch ≠ 0) :
    Calls Tryz.prog 24 #[.pointer (some ⟨p, 0, none⟩), .int .i64 pos, .int .i64 ch] w fun e w' =>
      e = .returned (.tuple #[.agg #[.int .i64 0, .int .i64 0, .int .i64 0, .int .u8 0, .int .i64 0, .int .i64 0], .int .i64 (insE c pos ch)]) ∧ Mod No w w' := by
  have hB := hc.hp
  have hC := blk_at hB
  simp only [clCells] at hC
  have hplt := blk_lt hB
  have htn := hk.tn
  by_cases h1 : ch < 32 ∨ 126 < ch
  · have hv : insE c pos ch = 42 := by simp [insE, h1]
    rw [hv]
    clear hE hv
    rcases h1 with h1 | h1
    all_goals
      go_enter Tryz.func24, Tryz.ntmps24
      go_wp2
      exact bodyPost_ret (v := .tuple #[.agg #[.int .i64 0, .int .i64 0, .int .i64 0, .int .u8 0, .int .i64 0, .int .i64 0], .int .i64 42]) (by simp [results, Tryz.results24, go_sem]) rfl ⟨rfl, (Mod.refl _ _).alloc _⟩
  · have h1a : 32 ≤ ch := by omega
    have h1b : ch ≤ 126 := by omega
    by_cases h2 : pos < 0 ∨ (c.text.length : Int) < pos
    · have hv : insE c pos ch = 43 := by simp only [insE, if_neg h1, if_pos h2]
      rw [hv]
      clear hE hv h1
      rcases h2 with h2 | h2
      all_goals
        go_enter Tryz.func24, Tryz.ntmps24
        go_wp2
        exact bodyPost_ret (v := .tuple #[.agg #[.int .i64 0, .int .i64 0, .int .i64 0, .int .u8 0, .int .i64 0, .int .i64 0], .int .i64 43]) (by simp [results, Tryz.results24, go_sem]) rfl ⟨rfl, (Mod.refl _ _).alloc _⟩
    · have h64 : c.made = 64 := by
        by_cases h : c.made = 64
        · exact h
        · exact absurd (by simp only [insE, if_neg h1, if_neg h2, if_neg h]) hE
      have hv : insE c pos ch = 111 := by simp only [insE, if_neg h1, if_neg h2, if_pos h64]
      rw [hv]
      have h2a : 0 ≤ pos := by omega
      have h2b : pos ≤ (c.text.length : Int) := by omega
      clear hE hv h1 h2
      have H64 := Lib.hid h64
      clear h64
      go_enter Tryz.func24, Tryz.ntmps24
      go_wp2_with (go_at_call 44; refine (edit_quota p m c col t _ _ _ _ _ _ (hc.keep0 ((Mod.refl _ _).alloc _)) H64.out).mono ?_; rintro e w1 ⟨rfl, hm1⟩; have hR1 := hm1.heap (blk_new w _ rfl) (fun h => h); have hQ1 := blk_at hR1; have hQf := blk_free hR1)
      refine bodyPost_ret (v := .tuple #[.agg #[.int .i64 0, .int .i64 0, .int .i64 0, .int .u8 0, .int .i64 0, .int .i64 0], .int .i64 111]) (by simp [results, Tryz.results24, go_sem, hQ1, hQf]) rfl ⟨rfl, ?_⟩
      have r0 : No w.heap.size ∨ w.heap.size ≤ w.heap.size := .inr (Nat.le_refl _)
      exact mod_set (mod_set (mod_set (mod_set (mod_set (mod_set (((Mod.refl No w).alloc _).then0 hm1) r0) r0) r0) r0) r0) r0

set_option maxRecDepth 100000 in
set_option maxHeartbeats 1000000 in
theorem insert_ok (p : Nat) (m : ClM) (c : Cl) (col : Nat → Nat) (t : Nat) (pos ch : Int) (w : World) (ht : 1 ≤ t) (hc : ClAt w p m c col t) (hk : c.Ok) (htn : c.text.length < 4096) (hE : insE c pos ch = 0) :
    Calls Tryz.prog 24 #[.pointer (some ⟨p, 0, none⟩), .int .i64 pos, .int .i64 ch] w fun e w' =>
      e = .returned (.tuple #[.agg #[.int .i64 c.hav, .int .i64 1, .int .i64 pos, .int .u8 ch, .int .i64 c.id, .int .i64 (c.made + 1)], .int .i64 0]) ∧
      ∃ m' col', ClAt w' p m' (c.edited ⟨1, pos, ch, c.id, c.made + 1⟩) col' t ∧ Mod (fun b => t ≤ col b ∧ col b ≤ t + 8) w w' ∧ ∀ b, b < w.heap.size → col' b = col b := by
  have hB := hc.hp
  have hC := blk_at hB
  simp only [clCells] at hC
  have hplt := blk_lt hB
  have h1 : ¬ (ch < 32 ∨ 126 < ch) := fun h => by simp [insE, h] at hE
  have h2 : ¬ (pos < 0 ∨ (c.text.length : Int) < pos) := fun h => by simp only [insE, if_neg h1, if_pos h] at hE; omega
  have h64 : c.made ≠ 64 := fun h => by simp only [insE, if_neg h1, if_neg h2, if_pos h] at hE; omega
  have h1a : 32 ≤ ch := by omega
  have h1b : ch ≤ 126 := by omega
  have h2a : 0 ≤ pos := by omega
  have h2b : pos ≤ (c.text.length : Int) := by omega
  have hm1 := hk.m1
  have hm0 := hk.m0
  have he := fun w' hc' => edit_ok p m c (cut0 col w.heap.size) t 1 pos ch 0 0 w' hc' ⟨by omega, by omega⟩ hk.m0 (by omega) (fits_insert h2a h2b (by omega) h1a h1b hk.id1 hk.id2 (by omega) (by omega)) hk.fl hk.fn hk.pn hk.a0 hk.a1 hk.tn
  clear hE h1 h2 h64
  go_enter Tryz.func24, Tryz.ntmps24
  go_wp2_with (go_at_call 44; refine (he _ (hc.keep ((Mod.refl No _).alloc _) (fun _ _ _ _ h => h) (fun b hb => cut0_lt hb))).mono ?_; rintro e w1 ⟨rfl, m1, col1, hc1, hM1, hcol1⟩; have hR1 := hM1.heap (blk_new w _ rfl) (fun h => by have h1 := h.1; rw [cut0_ge (Nat.le_refl _)] at h1; omega); have hQ1 := blk_at hR1; have hQf := blk_free hR1)
  refine bodyPost_ret (v := .tuple #[.agg #[.int .i64 c.hav, .int .i64 1, .int .i64 pos, .int .u8 ch, .int .i64 c.id, .int .i64 (c.made + 1)], .int .i64 0]) (by simp [results, Tryz.results24, go_sem, hQ1, hQf]) rfl ⟨rfl, m1, col1, ?_, ?_, ?_⟩
  · have r0 : (fun b => b = w.heap.size) w.heap.size ∨ w1.heap.size ≤ w.heap.size := .inl rfl
    have hl : col1 w.heap.size = 0 := by rw [hcol1 _ (by simp), cut0_ge (Nat.le_refl _)]
    exact hc1.keep (mod_set (mod_set (mod_set (mod_set (mod_set (mod_set (Mod.refl _ w1) r0) r0) r0) r0) r0) r0) (fun b hb h1 h2 h => by subst h; omega) (fun _ _ => rfl)
  · have r0 : (fun b => t ≤ col b ∧ col b ≤ t + 8) w.heap.size ∨ w.heap.size ≤ w.heap.size := .inr (Nat.le_refl _)
    exact mod_set (mod_set (mod_set (mod_set (mod_set (mod_set (((Mod.refl _ w).alloc _).trans hM1 (fun b hb h => by rw [cut0_lt hb] at h; exact h)) r0) r0) r0) r0) r0) r0
  · intro b hb
    rw [hcol1 b (by simp; omega), cut0_lt hb]

set_option maxRecDepth 100000 in
set_option maxHeartbeats 1000000 in
theorem delete_bad (p : Nat) (m : ClM) (c : Cl) (col : Nat → Nat) (t : Nat) (pos : Int) (w : World) (hc : ClAt w p m c col t) (hk : c.Ok) (hE : delE c pos ≠ 0) :
   Calls Tryz.prog 61 #[.pointer (some ⟨p, 0, none⟩), .int .i64 pos] w fun e w' =>
     e = .returned (.tuple #[.agg #[.int .i64 0, .int .i64 0, .int .i64 0, .int .u8 0, .int .i64 0, .int .i64 0], .int .i64 (delE c pos)]) ∧ Mod No w w' := by
 have hB := hc.hp
 have hC := blk_at hB
 simp only [clCells] at hC
 have hplt := blk_lt hB
 have htn := hk.tn
 by_cases h2 : pos < 0 ∨ (c.text.length : Int) ≤ pos
 · have hv : delE c pos = 43 := by simp only [delE, if_pos h2]
   rw [hv]
   clear hE hv
   rcases h2 with h2 | h2
   all_goals
     go_enter Tryz.func61, Tryz.ntmps61
     go_wp2
     exact bodyPost_ret (v := .tuple #[.agg #[.int .i64 0, .int .i64 0, .int .i64 0, .int .u8 0, .int .i64 0, .int .i64 0], .int .i64 43]) (by simp [results, Tryz.results61, go_sem]) rfl ⟨rfl, (Mod.refl _ _).alloc _⟩
 · have h64 : c.made = 64 := by
     by_cases h : c.made = 64
     · exact h
     · exact absurd (by simp only [delE, if_neg h2, if_neg h]) hE
   have hv : delE c pos = 111 := by simp only [delE, if_neg h2, if_pos h64]
   rw [hv]
   have h2a : 0 ≤ pos := by omega
   have h2b : pos < (c.text.length : Int) := by omega
   clear hE hv h2
   have H64 := Lib.hid h64
   clear h64
   go_enter Tryz.func61, Tryz.ntmps61
   go_wp2_with (go_at_call 44; refine (edit_quota p m c col t _ _ _ _ _ _ (hc.keep0 ((Mod.refl _ _).alloc _)) H64.out).mono ?_; rintro e w1 ⟨rfl, hm1⟩; have hR1 := hm1.heap (blk_new w _ rfl) (fun h => h); have hQ1 := blk_at hR1; have hQf := blk_free hR1)
   refine bodyPost_ret (v := .tuple #[.agg #[.int .i64 0, .int .i64 0, .int .i64 0, .int .u8 0, .int .i64 0, .int .i64 0], .int .i64 111]) (by simp [results, Tryz.results61, go_sem, hQ1, hQf]) rfl ⟨rfl, ?_⟩
   have r0 : No w.heap.size ∨ w.heap.size ≤ w.heap.size := .inr (Nat.le_refl _)
   exact mod_set (mod_set (mod_set (mod_set (mod_set (mod_set (((Mod.refl No w).alloc _).then0 hm1) r0) r0) r0) r0) r0) r0

set_option maxRecDepth 100000 in
set_option maxHeartbeats 1000000 in
theorem delete_ok (p : Nat) (m : ClM) (c : Cl) (col : Nat → Nat) (t : Nat) (pos : Int) (w : World) (ht : 1 ≤ t) (hc : ClAt w p m c col t) (hk : c.Ok) (hE : delE c pos = 0) :
   Calls Tryz.prog 61 #[.pointer (some ⟨p, 0, none⟩), .int .i64 pos] w fun e w' =>
     e = .returned (.tuple #[.agg #[.int .i64 c.hav, .int .i64 2, .int .i64 pos, .int .u8 0, .int .i64 c.id, .int .i64 (c.made + 1)], .int .i64 0]) ∧
     ∃ m' col', ClAt w' p m' (c.edited ⟨2, pos, 0, c.id, c.made + 1⟩) col' t ∧ Mod (fun b => t ≤ col b ∧ col b ≤ t + 8) w w' ∧ ∀ b, b < w.heap.size → col' b = col b := by
 have hB := hc.hp
 have hC := blk_at hB
 simp only [clCells] at hC
 have hplt := blk_lt hB
 have htn := hk.tn
 have h2 : ¬ (pos < 0 ∨ (c.text.length : Int) ≤ pos) := fun h => by simp only [delE, if_pos h] at hE; omega
 have h64 : c.made ≠ 64 := fun h => by simp only [delE, if_neg h2, if_pos h] at hE; omega
 have h2a : 0 ≤ pos := by omega
 have h2b : pos < (c.text.length : Int) := by omega
 have hm1 := hk.m1
 have hm0 := hk.m0
 have he := fun w' hc' => edit_ok p m c (cut0 col w.heap.size) t 2 pos 0 0 0 w' hc' ⟨by omega, by omega⟩ hk.m0 (by omega) (fits_delete h2a h2b (by omega) hk.id1 hk.id2 (by omega) (by omega)) hk.fl hk.fn hk.pn hk.a0 hk.a1 hk.tn
 clear hE h2 h64
 go_enter Tryz.func61, Tryz.ntmps61
 go_wp2_with (go_at_call 44; refine (he _ (hc.keep ((Mod.refl No _).alloc _) (fun _ _ _ _ h => h) (fun b hb => cut0_lt hb))).mono ?_; rintro e w1 ⟨rfl, m1, col1, hc1, hM1, hcol1⟩; have hR1 := hM1.heap (blk_new w _ rfl) (fun h => by have h1 := h.1; rw [cut0_ge (Nat.le_refl _)] at h1; omega); have hQ1 := blk_at hR1; have hQf := blk_free hR1)
 refine bodyPost_ret (v := .tuple #[.agg #[.int .i64 c.hav, .int .i64 2, .int .i64 pos, .int .u8 0, .int .i64 c.id, .int .i64 (c.made + 1)], .int .i64 0]) (by simp [results, Tryz.results61, go_sem, hQ1, hQf]) rfl ⟨rfl, m1, col1, ?_, ?_, ?_⟩
 · have r0 : (fun b => b = w.heap.size) w.heap.size ∨ w1.heap.size ≤ w.heap.size := .inl rfl
   have hl : col1 w.heap.size = 0 := by rw [hcol1 _ (by simp), cut0_ge (Nat.le_refl _)]
   exact hc1.keep (mod_set (mod_set (mod_set (mod_set (mod_set (mod_set (Mod.refl _ w1) r0) r0) r0) r0) r0) r0) (fun b hb h1 h2 h => by subst h; omega) (fun _ _ => rfl)
 · have r0 : (fun b => t ≤ col b ∧ col b ≤ t + 8) w.heap.size ∨ w.heap.size ≤ w.heap.size := .inr (Nat.le_refl _)
   exact mod_set (mod_set (mod_set (mod_set (mod_set (mod_set (((Mod.refl _ w).alloc _).trans hM1 (fun b hb h => by rw [cut0_lt hb] at h; exact h)) r0) r0) r0) r0) r0) r0
 · intro b hb
   rw [hcol1 b (by simp; omega), cut0_lt hb]
end Go.Proofs.YtjojhfphlnfimaaGreatDoor.J
