/- A client's other calls, and what it is told: New, Insert, Delete, Doc, Pending, Forms, View; told. -/
import Derived.Test.YtjojhfphlnfimaaGreatDoorGv
import Derived.Test.YtjojhfphlnfimaaGreatDoorForms
import Derived.Test.YtjojhfphlnfimaaGreatDoorJoin2
namespace Go.Proofs.YtjojhfphlnfimaaGreatDoor.J
open Go Go.RowKit
set_option linter.unusedSimpArgs false
set_option linter.unusedVariables false

def Gc.new (id : Int) : Gc := { id := id, epoch := 0, made := 0, hav := 0, base := 0, ph := .out, text := [], pending := [], forms := [], flast := 0, acked := 0, sent := 0, left := [], cum := 0, held := [], last := List.replicate 65 0 }
theorem Gc.new_ok (id : Int) (h1 : 1 ≤ id) (h2 : id ≤ 64) : (Gc.new id).Ok := by
  unfold Gc.new
  exact {
    id1 := h1, id2 := h2, e0 := by simp, e1 := by simp, m0 := by simp, m1 := by simp, fl := by simp, fpl := rfl, pm := by simp
    fq := fun i q h => by simp at h
    fb := fun q h => by simp at h
    pq := fun e h => by simp at h
    lf := fun e h => by simp at h
    a0 := by simp, a1 := by simp, ak := by simp, sl := by simp, tn := by simp, hv := by simp, b0 := by simp, c0 := by simp, hm := by simp
    hd := List.Pairwise.nil
    hq := fun k q h => by simp [findH] at h
    ll := by simp
    lq := fun i x h => by
      rw [List.getElem?_replicate] at h
      split at h
      · cases h; omega
      · cases h }

def cutz (col : Nat → Nat) (n : Nat) : Nat → Nat := cut0 col n

theorem gNew (id : Int) (w : World) (col : Nat → Nat) (t : Nat) (h1 : 1 ≤ id) (h2 : id ≤ 64) (t1 : 1 ≤ t) :
    Calls Tryz.prog 21 #[.int .i64 id] w fun e w' => ∃ p m col', e = .returned (.tuple #[.pointer (some ⟨p, 0, none⟩), .int .i64 0]) ∧ GcAt w' p m (Gc.new id) col' t ∧ Mod No w w' ∧ ∀ b, b < w.heap.size → col' b = col b := by
  refine (clNew_ok id w (fun b => if b < w.heap.size then col b else 0) t h1 h2).mono ?_
  rintro e w' ⟨p, m, col', rfl, hC, hm, hc⟩
  refine ⟨p, m, cut0 col' w'.heap.size, rfl, GcAt.ofCl heldOk.nil (hC.keep (Mod.refl No w') (fun _ _ _ _ h => h) (fun b hb => cut0_lt hb)) (fun b hb => cut0_ge hb) t1, hm, fun b hb => ?_⟩
  rw [cut0_lt (Nat.lt_of_lt_of_le hb hm.size), hc b hb, if_pos hb]

/-- The client behind an edit of its own. -/
def Gc.edited (g : Gc) (o : Op) : Gc :=
  { g with made := g.made + 1, text := applyE g.text o, pending := g.pending ++ [⟨g.hav, o⟩], forms := g.forms ++ [⟨g.made + 1, o⟩], flast := g.made + 1, left := if 0 < g.epoch then g.left ++ [⟨g.hav, o⟩] else g.left }
def insG (g : Gc) (pos ch : Int) : Int := if ch < 32 ∨ 126 < ch then 42 else if pos < 0 ∨ (g.text.length : Int) < pos then 43 else if g.made = 64 then 111 else 0
def delG (g : Gc) (pos : Int) : Int := if pos < 0 ∨ (g.text.length : Int) ≤ pos then 43 else if g.made = 64 then 111 else 0
theorem Gc.Ok.cl {g : Gc} (hk : g.Ok) (es : Array MapEntry) (ck : Nat) : (g.cl es ck).Ok := by
  have := hk.a1
  have := hk.m1
  have := hk.pm
  have := hk.fpl
  exact { id1 := hk.id1, id2 := hk.id2, m0 := hk.m0, m1 := hk.m1, fl := hk.fl, fn := by simp only [Gc.cl]; omega, pn := by simp only [Gc.cl]; omega, a0 := hk.a0, a1 := by simp only [Gc.cl]; omega, tn := hk.tn }

theorem Gc.Ok.edited {g : Gc} (hk : g.Ok) {o : Op} (hm : g.made < 64) (hf : fitsE g.text.length o = 0) (hc : o.client = g.id) (hs : o.seq = g.made + 1) : (g.edited o).Ok := by
  obtain ⟨hv, _⟩ := fitsE_zero hf
  have h1 := hk.m0
  have h2 := hk.fpl
  have h3 := hk.pm
  have h4 := hk.hv
  have h5 := hk.b0
  have h6 := hk.c0
  have h7 := hk.hm
  have h8 := hk.a1
  have h9 := hk.sl
  have he : 0 ≤ g.hav ∧ g.hav ≤ 4096 ∧ validE o = 0 ∧ o.client = g.id := ⟨by omega, h7, hv, hc⟩
  unfold Gc.edited
  exact { hk with
    m0 := by simp only; omega
    m1 := by simp only; omega
    fl := by simp only; omega
    fpl := by simp only [List.length_append, List.length_cons, List.length_nil]; omega
    pm := by simp only [List.length_append, List.length_cons, List.length_nil]; omega
    fq := fun i q h => by
      simp only [List.length_append, List.length_cons, List.length_nil]
      simp only at h
      rw [List.getElem?_append] at h
      split at h
      · have := hk.fq i q h
        refine ⟨?_, this.2⟩
        rw [this.1]; omega
      · rename_i hlt
        have hi : i = g.forms.length := by
          have := (List.getElem?_eq_some_iff.1 h).1
          simp at this; omega
        subst hi
        simp at h
        subst h
        exact ⟨by simp only; omega, by simp only; omega, hc⟩
    fb := fun q h => by
      simp only at h
      rcases List.mem_append.1 h with h | h
      · exact hk.fb q h
      · simp at h; subst h; exact bnd_of_valid hv (by simp only; omega)
    pq := fun e h => by
      simp only at h
      rcases List.mem_append.1 h with h | h
      · exact hk.pq e h
      · simp at h; subst h; exact he
    lf := fun e h => by
      simp only at h
      split at h
      · rcases List.mem_append.1 h with h | h
        · exact hk.lf e h
        · simp at h; subst h; exact he
      · exact hk.lf e h
    a1 := by
      simp only
      split
      · simp only [List.length_append, List.length_cons, List.length_nil]; omega
      · omega
    sl := by
      simp only
      split
      · simp only [List.length_append, List.length_cons, List.length_nil]; omega
      · omega
    tn := (applyE_len hf).1 }

theorem gInsertBad (p : Nat) (m : ClM) (g : Gc) (col : Nat → Nat) (t : Nat) (pos ch : Int) (w : World) (h : GcAt w p m g col t) (hk : g.Ok) (hE : insG g pos ch ≠ 0) :
    Calls Tryz.prog 24 #[.pointer (some ⟨p, 0, none⟩), .int .i64 pos, .int .i64 ch] w fun e w' =>
      e = .returned (.tuple #[.agg #[.int .i64 0, .int .i64 0, .int .i64 0, .int .u8 0, .int .i64 0, .int .i64 0], .int .i64 (insG g pos ch)]) ∧ Mod No w w' := by
  obtain ⟨es, ck, hh, hC⟩ := h.cl
  exact insert_bad p m (g.cl es ck) col t pos ch w hC (hk.cl es ck) hE
theorem gInsert (p : Nat) (m : ClM) (g : Gc) (col : Nat → Nat) (t : Nat) (pos ch : Int) (w : World) (h : GcAt w p m g col t) (hk : g.Ok) (htn : g.text.length < 4096) (hE : insG g pos ch = 0) :
    Calls Tryz.prog 24 #[.pointer (some ⟨p, 0, none⟩), .int .i64 pos, .int .i64 ch] w fun e w' =>
      e = .returned (.tuple #[.agg #[.int .i64 g.hav, .int .i64 1, .int .i64 pos, .int .u8 ch, .int .i64 g.id, .int .i64 (g.made + 1)], .int .i64 0]) ∧
      ∃ m' col', GRun w col w' p m' (g.edited ⟨1, pos, ch, g.id, g.made + 1⟩) col' t := by
  obtain ⟨es, ck, hh, hC⟩ := h.cl
  refine (insert_ok p m (g.cl es ck) col t pos ch w h.t1 hC (hk.cl es ck) htn hE).mono ?_
  rintro e w' ⟨rfl, m', col', hC', hm, hc⟩
  refine ⟨rfl, m', cut0 col' w'.heap.size, ⟨GcAt.ofCl (g := g.edited ⟨1, pos, ch, g.id, g.made + 1⟩) (es := es) (ck := ck) hh (ClAt.keep hC' (Mod.refl No w') (fun _ _ _ _ h => h) (fun b hb => cut0_lt hb)) (fun b hb => cut0_ge hb) h.t1, hm, fun b hb => ?_⟩⟩
  rw [cut0_lt (Nat.lt_of_lt_of_le hb hm.size), hc b hb]

theorem gDeleteBad (p : Nat) (m : ClM) (g : Gc) (col : Nat → Nat) (t : Nat) (pos : Int) (w : World) (h : GcAt w p m g col t) (hk : g.Ok) (hE : delG g pos ≠ 0) :
   Calls Tryz.prog 61 #[.pointer (some ⟨p, 0, none⟩), .int .i64 pos] w fun e w' =>
     e = .returned (.tuple #[.agg #[.int .i64 0, .int .i64 0, .int .i64 0, .int .u8 0, .int .i64 0, .int .i64 0], .int .i64 (delG g pos)]) ∧ Mod No w w' := by
 obtain ⟨es, ck, hh, hC⟩ := h.cl
 exact delete_bad p m (g.cl es ck) col t pos w hC (hk.cl es ck) hE
theorem gDelete (p : Nat) (m : ClM) (g : Gc) (col : Nat → Nat) (t : Nat) (pos : Int) (w : World) (h : GcAt w p m g col t) (hk : g.Ok) (hE : delG g pos = 0) :
   Calls Tryz.prog 61 #[.pointer (some ⟨p, 0, none⟩), .int .i64 pos] w fun e w' =>
     e = .returned (.tuple #[.agg #[.int .i64 g.hav, .int .i64 2, .int .i64 pos, .int .u8 0, .int .i64 g.id, .int .i64 (g.made + 1)], .int .i64 0]) ∧
     ∃ m' col', GRun w col w' p m' (g.edited ⟨2, pos, 0, g.id, g.made + 1⟩) col' t := by
 obtain ⟨es, ck, hh, hC⟩ := h.cl
 refine (delete_ok p m (g.cl es ck) col t pos w h.t1 hC (hk.cl es ck) hE).mono ?_
 rintro e w' ⟨rfl, m', col', hC', hm, hc⟩
 refine ⟨rfl, m', cut0 col' w'.heap.size, ⟨GcAt.ofCl (g := g.edited ⟨2, pos, 0, g.id, g.made + 1⟩) (es := es) (ck := ck) hh (ClAt.keep hC' (Mod.refl No w') (fun _ _ _ _ h => h) (fun b hb => cut0_lt hb)) (fun b hb => cut0_ge hb) h.t1, hm, fun b hb => ?_⟩⟩
 rw [cut0_lt (Nat.lt_of_lt_of_le hb hm.size), hc b hb]

theorem gDoc (p : Nat) (m : ClM) (g : Gc) (col : Nat → Nat) (t : Nat) (w : World) (h : GcAt w p m g col t) (hk : g.Ok) :
    Calls Tryz.prog 14 #[.pointer (some ⟨p, 0, none⟩)] w fun e w' => ∃ A d, e = .returned (.slice A g.text.length d) ∧ Mod No w w' ∧ Own kElem 95 w' A g.text.length d g.text (fun b => w.heap.size ≤ b) := by
  obtain ⟨es, ck, hh, hC⟩ := h.cl
  exact doc_ok p m (g.cl es ck) col t w hC hk.tn
theorem gPending (p : Nat) (m : ClM) (g : Gc) (col : Nat → Nat) (t : Nat) (w : World) (h : GcAt w p m g col t) (hk : g.Ok) :
    Calls Tryz.prog 20 #[.pointer (some ⟨p, 0, none⟩)] w fun e w' => ∃ A d, e = .returned (.slice A g.pending.length d) ∧ Mod No w w' ∧ Own kEdit 60 w' A g.pending.length d g.pending (fun b => w.heap.size ≤ b) := by
  obtain ⟨es, ck, hh, hC⟩ := h.cl
  exact pending_ok p m (g.cl es ck) col t w hC (by have := hk.pm; have := hk.m1; simp only [Gc.cl]; omega)
theorem gForms (p : Nat) (m : ClM) (g : Gc) (col : Nat → Nat) (t : Nat) (w : World) (h : GcAt w p m g col t) (hk : g.Ok) :
    Calls Tryz.prog 19 #[.pointer (some ⟨p, 0, none⟩)] w fun e w' => ∃ A d, e = .returned (.slice A g.forms.length d) ∧ Mod No w w' ∧ Own kOp 32 w' A g.forms.length d (opsOf g.forms) (fun b => w.heap.size ≤ b) := by
  obtain ⟨es, ck, hh, hC⟩ := h.cl
  exact forms_ok p m (g.cl es ck) col t w hC (by have := hk.pm; have := hk.m1; have := hk.fpl; simp only [Gc.cl]; omega)

theorem open_join (w : World) : Calls Tryz.prog 141 #[.agg #[]] w fun e w' => e = .returned (.bool true) ∧ Mod No w w' := by
  go_enter Tryz.func141, Tryz.ntmps141
  go_wp2
  go_ret
  exact ⟨rfl, (Mod.refl _ _).alloc _⟩

theorem method_open_join (n : Nat) (w : World) : (method (n + 1) 136 (.agg #[]) "jotter/client.open").run Tryz.prog w = .ok (141, .agg #[]) w := by kernel_rfl

set_option maxRecDepth 100000 in
set_option maxHeartbeats 2000000 in
theorem view_join (p : Nat) (m : ClM) (c : Cl) (col : Nat → Nat) (t : Nat) (w : World) (hc : ClAt w p m c col t) (hn : c.text.length ≤ 4096) (hpn : c.pending.length ≤ 4096) (hph : c.ph = .iface 136 (.agg #[])) :
    Calls Tryz.prog 11 #[.pointer (some ⟨p, 0, none⟩)] w fun e w' => ∃ A d B b, e = .returned (.agg #[.int .i64 c.id, .int .i64 c.epoch, .bool true, .int .i64 c.made, .int .i64 c.hav, .slice A c.text.length d, .slice B c.pending.length b]) ∧ Mod No w w' ∧
      Own kElem 95 w' A c.text.length d c.text (fun b => w.heap.size ≤ b) ∧ Own kEdit 60 w' B c.pending.length b c.pending (fun b => w.heap.size ≤ b) := by
  have hC := blk_at hc.hp
  simp only [clCells, hph] at hC
  have hplt := blk_lt hc.hp
  clear hph
  have hmo := method_open_join
  go_enter Tryz.func11, Tryz.ntmps11
  go_wp2
  refine wp_region_seg ([0, 1, 2, 3, 4, 5, 6, 7, 8, 9, 10, 11, 13, 14, 15, 16, 17, 18, 19, 20, 21, 23].map (·, false) ++ [(12, true), (22, true), (24, true), (25, false), (26, false)]) (by kernel_rfl) (by kernel_rfl) (by kernel_rfl) (by kernel_rfl) ?_
  simp only [List.map_cons, List.map_nil, List.cons_append, List.nil_append, List.filterMap_cons, List.filterMap_nil, pick, List.getElem?_toArray, List.getElem?_cons_zero, List.getElem?_cons_succ, Option.map_some]
  refine wpSeg_cut (fun e a w h => h.1) [_, _, _, _, _, _, _, _, _, _, _, _, _, _, _, _, _, _, _, _, _, _] _ _ _ ?_
  go_wp2
  refine wpSeg_mark rfl ?_
  go_wp2_with (go_at_call 141; refine (open_join _).mono ?_; rintro e w1 ⟨rfl, hm1⟩; refine ⟨hm1.old, ?_⟩)
  have hM1 : Mod No w w1 := ((Mod.refl No w).alloc _).drew.then0 hm1
  refine wpSeg_mark rfl ?_
  go_wp2_with (go_at_call 14; refine (doc_ok p m c col t _ (hc.keep0 hM1) hn).mono ?_; rintro e w2 ⟨A, d, rfl, hm2, hO2⟩; refine ⟨hm2.old, ?_⟩)
  refine wpSeg_mark rfl ?_
  go_wp2_with (go_at_call 20; refine (pending_ok p m c col t _ (hc.keep0 (hM1.then0 hm2)) hpn).mono ?_; rintro e w3 ⟨B, b, rfl, hm3, hO3⟩; refine ⟨hm3.old, ?_⟩)
  have hR1 := hm1.heap (b := w.heap.size) (blk_new _ _ rfl) (fun h => h)
  have hR3 := hm3.heap (hm2.heap hR1 (fun h => h)) (fun h => h)
  have hQ3 := blk_at hR3
  have hQf := blk_free hR3
  refine wpSeg_rest [_, _] ?_
  go_wp2
  refine ⟨rfl, by kernel_rfl, ?_⟩
  go_wp2
  have l1 : w.heap.size + 1 ≤ w1.heap.size := by have := hm1.size; simpa using this
  have l2 : w1.heap.size ≤ w2.heap.size := hm2.size
  refine bodyPost_ret (v := .agg #[.int .i64 c.id, .int .i64 c.epoch, .bool true, .int .i64 c.made, .int .i64 c.hav, .slice A c.text.length d, .slice B c.pending.length b]) (by simp [results, Tryz.results11, go_sem, hQ3, hQf]) rfl ⟨A, d, B, b, rfl, ?_, ?_, ?_⟩
  · have r0 : No w.heap.size ∨ w.heap.size ≤ w.heap.size := .inr (Nat.le_refl _)
    exact mod_set (mod_set (mod_set (mod_set (mod_set (mod_set (mod_set ((hM1.then0 hm2).then0 hm3) r0) r0) r0) r0) r0) r0) r0
  · have r0 : (fun b => b = w.heap.size) w.heap.size ∨ w3.heap.size ≤ w.heap.size := .inl rfl
    exact (((hO2.mod0 hm3).mod (mod_set (mod_set (mod_set (mod_set (mod_set (mod_set (mod_set (Mod.refl _ w3) r0) r0) r0) r0) r0) r0) r0) (fun b _ h1 h2 => by omega))).mono (fun b _ h => by omega)
  · have r0 : (fun b => b = w.heap.size) w.heap.size ∨ w3.heap.size ≤ w.heap.size := .inl rfl
    exact (hO3.mod (mod_set (mod_set (mod_set (mod_set (mod_set (mod_set (mod_set (Mod.refl _ w3) r0) r0) r0) r0) r0) r0) r0) (fun b _ h1 h2 => by omega)).mono (fun b _ h => by omega)

theorem open_wait (w : World) : Calls Tryz.prog 147 #[.agg #[]] w fun e w' => e = .returned (.bool false) ∧ Mod No w w' := by
  go_enter Tryz.func147, Tryz.ntmps147
  go_wp2
  go_ret
  exact ⟨rfl, (Mod.refl _ _).alloc _⟩

theorem method_open_wait (n : Nat) (w : World) : (method (n + 1) 170 (.agg #[]) "jotter/client.open").run Tryz.prog w = .ok (147, .agg #[]) w := by kernel_rfl

set_option maxRecDepth 100000 in
set_option maxHeartbeats 2000000 in
theorem view_wait (p : Nat) (m : ClM) (c : Cl) (col : Nat → Nat) (t : Nat) (w : World) (hc : ClAt w p m c col t) (hn : c.text.length ≤ 4096) (hpn : c.pending.length ≤ 4096) (hph : c.ph = .iface 170 (.agg #[])) :
    Calls Tryz.prog 11 #[.pointer (some ⟨p, 0, none⟩)] w fun e w' => ∃ A d B b, e = .returned (.agg #[.int .i64 c.id, .int .i64 c.epoch, .bool false, .int .i64 c.made, .int .i64 c.hav, .slice A c.text.length d, .slice B c.pending.length b]) ∧ Mod No w w' ∧
      Own kElem 95 w' A c.text.length d c.text (fun b => w.heap.size ≤ b) ∧ Own kEdit 60 w' B c.pending.length b c.pending (fun b => w.heap.size ≤ b) := by
  have hC := blk_at hc.hp
  simp only [clCells, hph] at hC
  have hplt := blk_lt hc.hp
  clear hph
  have hmo := method_open_wait
  go_enter Tryz.func11, Tryz.ntmps11
  go_wp2
  refine wp_region_seg ([0, 1, 2, 3, 4, 5, 6, 7, 8, 9, 10, 11, 13, 14, 15, 16, 17, 18, 19, 20, 21, 23].map (·, false) ++ [(12, true), (22, true), (24, true), (25, false), (26, false)]) (by kernel_rfl) (by kernel_rfl) (by kernel_rfl) (by kernel_rfl) ?_
  simp only [List.map_cons, List.map_nil, List.cons_append, List.nil_append, List.filterMap_cons, List.filterMap_nil, pick, List.getElem?_toArray, List.getElem?_cons_zero, List.getElem?_cons_succ, Option.map_some]
  refine wpSeg_cut (fun e a w h => h.1) [_, _, _, _, _, _, _, _, _, _, _, _, _, _, _, _, _, _, _, _, _, _] _ _ _ ?_
  go_wp2
  refine wpSeg_mark rfl ?_
  go_wp2_with (go_at_call 147; refine (open_wait _).mono ?_; rintro e w1 ⟨rfl, hm1⟩; refine ⟨hm1.old, ?_⟩)
  have hM1 : Mod No w w1 := ((Mod.refl No w).alloc _).drew.then0 hm1
  refine wpSeg_mark rfl ?_
  go_wp2_with (go_at_call 14; refine (doc_ok p m c col t _ (hc.keep0 hM1) hn).mono ?_; rintro e w2 ⟨A, d, rfl, hm2, hO2⟩; refine ⟨hm2.old, ?_⟩)
  refine wpSeg_mark rfl ?_
  go_wp2_with (go_at_call 20; refine (pending_ok p m c col t _ (hc.keep0 (hM1.then0 hm2)) hpn).mono ?_; rintro e w3 ⟨B, b, rfl, hm3, hO3⟩; refine ⟨hm3.old, ?_⟩)
  have hR1 := hm1.heap (b := w.heap.size) (blk_new _ _ rfl) (fun h => h)
  have hR3 := hm3.heap (hm2.heap hR1 (fun h => h)) (fun h => h)
  have hQ3 := blk_at hR3
  have hQf := blk_free hR3
  refine wpSeg_rest [_, _] ?_
  go_wp2
  refine ⟨rfl, by kernel_rfl, ?_⟩
  go_wp2
  have l1 : w.heap.size + 1 ≤ w1.heap.size := by have := hm1.size; simpa using this
  have l2 : w1.heap.size ≤ w2.heap.size := hm2.size
  refine bodyPost_ret (v := .agg #[.int .i64 c.id, .int .i64 c.epoch, .bool false, .int .i64 c.made, .int .i64 c.hav, .slice A c.text.length d, .slice B c.pending.length b]) (by simp [results, Tryz.results11, go_sem, hQ3, hQf]) rfl ⟨A, d, B, b, rfl, ?_, ?_, ?_⟩
  · have r0 : No w.heap.size ∨ w.heap.size ≤ w.heap.size := .inr (Nat.le_refl _)
    exact mod_set (mod_set (mod_set (mod_set (mod_set (mod_set (mod_set ((hM1.then0 hm2).then0 hm3) r0) r0) r0) r0) r0) r0) r0
  · have r0 : (fun b => b = w.heap.size) w.heap.size ∨ w3.heap.size ≤ w.heap.size := .inl rfl
    exact (((hO2.mod0 hm3).mod (mod_set (mod_set (mod_set (mod_set (mod_set (mod_set (mod_set (Mod.refl _ w3) r0) r0) r0) r0) r0) r0) r0) (fun b _ h1 h2 => by omega))).mono (fun b _ h => by omega)
  · have r0 : (fun b => b = w.heap.size) w.heap.size ∨ w3.heap.size ≤ w.heap.size := .inl rfl
    exact (hO3.mod (mod_set (mod_set (mod_set (mod_set (mod_set (mod_set (mod_set (Mod.refl _ w3) r0) r0) r0) r0) r0) r0) r0) (fun b _ h1 h2 => by omega)).mono (fun b _ h => by omega)

def Ph.opn : Ph → Bool
  | .join => true
  | .wait => false
  | .out => false
theorem gView (p : Nat) (m : ClM) (g : Gc) (col : Nat → Nat) (t : Nat) (w : World) (h : GcAt w p m g col t) (hk : g.Ok) :
    Calls Tryz.prog 11 #[.pointer (some ⟨p, 0, none⟩)] w fun e w' => ∃ A d B b, e = .returned (.agg #[.int .i64 g.id, .int .i64 g.epoch, .bool g.ph.opn, .int .i64 g.made, .int .i64 g.hav, .slice A g.text.length d, .slice B g.pending.length b]) ∧ Mod No w w' ∧
      Own kElem 95 w' A g.text.length d g.text (fun b => w.heap.size ≤ b) ∧ Own kEdit 60 w' B g.pending.length b g.pending (fun b => w.heap.size ≤ b) := by
  obtain ⟨es, ck, hh, hC⟩ := h.cl
  have hpn : (g.cl es ck).pending.length ≤ 4096 := by have := hk.pm; have := hk.m1; simp only [Gc.cl]; omega
  cases hp : g.ph with
  | out => exact view_out p m (g.cl es ck) col t w hC hk.tn hpn (by simp only [Gc.cl, hp]; rfl)
  | wait => exact view_wait p m (g.cl es ck) col t w hC hk.tn hpn (by simp only [Gc.cl, hp]; rfl)
  | join => exact view_join p m (g.cl es ck) col t w hC hk.tn hpn (by simp only [Gc.cl, hp]; rfl)

end Go.Proofs.YtjojhfphlnfimaaGreatDoor.J
