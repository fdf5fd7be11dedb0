/- Two operations made at one text, carried past one another, lead to one text: plain. The grid of the client and its plain server: plain lists. -/
import Derived.Test.YtjojhfphlnfimaaGreatDoorGi
namespace Go.Proofs.YtjojhfphlnfimaaGreatDoor.J
open Go Go.RowKit
set_option linter.unusedSimpArgs false
set_option linter.unusedVariables false

def insL (l : List Elem) (p : Nat) (x : Elem) : List Elem := l.take p ++ [x] ++ l.drop p
def delL (l : List Elem) (p : Nat) : List Elem := l.take p ++ l.drop (p + 1)
theorem insL_at (l : List Elem) (p : Nat) (x : Elem) (h : p ≤ l.length) (i : Nat) : (insL l p x)[i]? = if i < p then l[i]? else if i = p then some x else l[i - 1]? := by
  unfold insL
  have ht : (l.take p).length = p := by simp; omega
  by_cases h1 : i < p
  · rw [if_pos h1, List.append_assoc, List.getElem?_append_left (by omega), List.getElem?_take, if_pos h1]
  · rw [if_neg h1, List.append_assoc, List.getElem?_append_right (by omega), ht]
    by_cases h2 : i = p
    · rw [if_pos h2]; subst h2; simp
    · rw [if_neg h2]
      obtain ⟨j, hj⟩ : ∃ j, i - p = j + 1 := ⟨i - p - 1, by omega⟩
      rw [hj]
      simp only [List.cons_append, List.nil_append, List.getElem?_cons_succ, List.getElem?_drop]
      congr 1; omega
theorem delL_at (l : List Elem) (p : Nat) (h : p ≤ l.length) (i : Nat) : (delL l p)[i]? = if i < p then l[i]? else l[i + 1]? := by
  unfold delL
  have ht : (l.take p).length = p := by simp; omega
  by_cases h1 : i < p
  · rw [if_pos h1, List.getElem?_append_left (by omega), List.getElem?_take, if_pos h1]
  · rw [if_neg h1, List.getElem?_append_right (by omega), ht, List.getElem?_drop]
    congr 1; omega
theorem insL_len (l : List Elem) (p : Nat) (x : Elem) (h : p ≤ l.length) : (insL l p x).length = l.length + 1 := by simp [insL]; omega
theorem delL_len (l : List Elem) (p : Nat) (h : p < l.length) : (delL l p).length = l.length - 1 := by simp [delL]; omega

theorem ins_ins (l : List Elem) (p q : Nat) (x y : Elem) (hp : p ≤ l.length) (hq : q ≤ l.length) (h : p ≤ q) : insL (insL l p x) (q + 1) y = insL (insL l q y) p x := by
  apply List.ext_getElem?
  intro i
  rw [insL_at (insL l p x) (q + 1) y (by rw [insL_len _ _ _ hp]; omega), insL_at (insL l q y) p x (by rw [insL_len _ _ _ hq]; omega)]
  simp only [insL_at l p x hp, insL_at l q y hq]
  (repeat' split) <;> first | rfl | omega | (congr 1; omega)
theorem ins_del (l : List Elem) (p q : Nat) (x : Elem) (hp : p ≤ l.length) (hq : q < l.length) (h : p ≤ q) : delL (insL l p x) (q + 1) = insL (delL l q) p x := by
  apply List.ext_getElem?
  intro i
  rw [delL_at (insL l p x) (q + 1) (by rw [insL_len _ _ _ hp]; omega), insL_at (delL l q) p x (by rw [delL_len _ _ hq]; omega)]
  simp only [insL_at l p x hp, delL_at l q (by omega)]
  (repeat' split) <;> first | rfl | omega | (congr 1; omega)
theorem del_ins (l : List Elem) (p q : Nat) (x : Elem) (hp : p < l.length) (hq : q ≤ l.length) (h : p < q) : insL (delL l p) (q - 1) x = delL (insL l q x) p := by
  apply List.ext_getElem?
  intro i
  rw [insL_at (delL l p) (q - 1) x (by rw [delL_len _ _ hp]; omega), delL_at (insL l q x) p (by rw [insL_len _ _ _ hq]; omega)]
  simp only [insL_at l q x hq, delL_at l p (by omega)]
  (repeat' split) <;> first | rfl | omega | (congr 1; omega)
theorem del_del (l : List Elem) (p q : Nat) (hp : p < l.length) (hq : q < l.length) (h : p < q) : delL (delL l p) (q - 1) = delL (delL l q) p := by
  apply List.ext_getElem?
  intro i
  rw [delL_at (delL l p) (q - 1) (by rw [delL_len _ _ hp]; omega), delL_at (delL l q) p (by rw [delL_len _ _ hq]; omega)]
  simp only [delL_at l p (by omega), delL_at l q (by omega)]
  (repeat' split) <;> first | rfl | omega | (congr 1; omega)

theorem fits_of {n : Int} {o : Op} (hv : validE o = 0) (h0 : 0 ≤ n) (h1 : n ≤ 4096) (h2 : o.kind = 1 → n < 4096 ∧ o.pos ≤ n) (h3 : o.kind = 2 → o.pos < n) : fitsE n o = 0 := by
  unfold fitsE
  rw [if_neg (by rw [hv]; simp), if_neg, if_neg]
  · rintro (⟨a, b⟩ | ⟨a, b⟩)
    · have := h2 a; omega
    · have := h3 a; omega
  · rintro (a | ⟨a, b⟩)
    · rw [inR_false] at a; omega
    · have := h2 a; omega
theorem valid_of {k p c cl sq : Int} (h1 : 0 ≤ k ∧ k ≤ 2) (h2 : 1 ≤ cl ∧ cl ≤ 64) (h3 : 1 ≤ sq ∧ sq ≤ 64) (h4 : k = 1 → 32 ≤ c ∧ c ≤ 126) (h5 : k ≠ 1 → c = 0) (h6 : 0 ≤ p ∧ p ≤ 4095) (h7 : k = 0 → p = 0) : validE ⟨k, p, c, cl, sq⟩ = 0 := by
  unfold validE
  dsimp only
  rw [if_neg (by rw [inR_false]; omega), if_neg (by simp only [inR_false]; omega), if_neg (fun h => by have := h4 h.1; rw [inR_false] at h; omega), if_neg (fun h => h.2 (h5 h.1)), if_neg]
  rw [inR_false]
  split
  · rename_i h; have := h7 h; omega
  · omega

theorem app_ins (d : List Elem) (p : Nat) (c cl sq : Int) : applyE d ⟨1, (p : Int), c, cl, sq⟩ = insL d p ⟨c, cl, sq⟩ := by unfold applyE insL; simp
theorem app_del (d : List Elem) (p : Nat) (c cl sq : Int) : applyE d ⟨2, (p : Int), c, cl, sq⟩ = delL d p := by unfold applyE delL; simp
theorem app_nop (d : List Elem) (p c cl sq : Int) : applyE d ⟨0, p, c, cl, sq⟩ = d := by unfold applyE; simp
theorem sh_nop (p c cl sq : Int) (b : Op) (f : Bool) : shiftE ⟨0, p, c, cl, sq⟩ b f = ⟨0, p, c, cl, sq⟩ := by
  unfold shiftE rowE; simp [ruleE]
theorem sh_past (a : Op) (p c cl sq : Int) (f : Bool) : shiftE a ⟨0, p, c, cl, sq⟩ f = a := by
  have e : ∀ i, ruleE i (rowE 0) a.pos p f = (a.pos, true) := fun i => by
    show ruleE i 0 a.pos p f = (a.pos, true)
    unfold ruleE
    split <;> simp_all
  unfold shiftE
  dsimp only
  rw [e]
  simp
theorem sh_11 (p q c cl sq c' cl' sq' : Int) (f : Bool) : shiftE ⟨1, p, c, cl, sq⟩ ⟨1, q, c', cl', sq'⟩ f = if q < p ∨ (q = p ∧ f = false) then ⟨1, p + 1, c, cl, sq⟩ else ⟨1, p, c, cl, sq⟩ := by
  unfold shiftE rowE; simp only [ruleE]; simp only [if_pos, reduceIte]; split <;> simp_all [ruleE]
theorem sh_12 (p q c cl sq c' cl' sq' : Int) (f : Bool) : shiftE ⟨1, p, c, cl, sq⟩ ⟨2, q, c', cl', sq'⟩ f = if q < p then ⟨1, p - 1, c, cl, sq⟩ else ⟨1, p, c, cl, sq⟩ := by
  have e : ruleE (rowE 1) (rowE 2) p q f = if q < p then (p - 1, true) else (p, true) := rfl
  unfold shiftE; dsimp only; rw [e]; split <;> simp
theorem sh_21 (p q c cl sq c' cl' sq' : Int) (f : Bool) : shiftE ⟨2, p, c, cl, sq⟩ ⟨1, q, c', cl', sq'⟩ f = if q ≤ p then ⟨2, p + 1, c, cl, sq⟩ else ⟨2, p, c, cl, sq⟩ := by
  have e : ruleE (rowE 2) (rowE 1) p q f = if q ≤ p then (p + 1, true) else (p, true) := rfl
  unfold shiftE; dsimp only; rw [e]; split <;> simp
theorem sh_22 (p q c cl sq c' cl' sq' : Int) (f : Bool) : shiftE ⟨2, p, c, cl, sq⟩ ⟨2, q, c', cl', sq'⟩ f = if q < p then ⟨2, p - 1, c, cl, sq⟩ else if q = p then ⟨0, 0, 0, cl, sq⟩ else ⟨2, p, c, cl, sq⟩ := by
  have e : ruleE (rowE 2) (rowE 2) p q f = if q < p then (p - 1, true) else if q = p then (0, false) else (p, true) := rfl
  unfold shiftE; dsimp only; rw [e]; (repeat' split) <;> simp_all

/-- Two operations at one text; f: the first comes first in the server's order. -/
theorem tp1 (d : List Elem) (a b : Op) (f : Bool) (hd : d.length ≤ 4000) (ha : fitsE d.length a = 0) (hb : fitsE d.length b = 0) :
    fitsE (applyE d b).length (shiftE a b f) = 0 ∧ fitsE (applyE d a).length (shiftE b a (!f)) = 0 ∧ applyE (applyE d b) (shiftE a b f) = applyE (applyE d a) (shiftE b a (!f)) := by
  obtain ⟨va, _, _, a1, a2⟩ := fitsE_zero ha
  obtain ⟨vb, _, _, b1, b2⟩ := fitsE_zero hb
  obtain ⟨y1, y2, y3, y4, y5, y6, y7, y8, y9, y10, y11⟩ := validE_zero va
  obtain ⟨z1, z2, z3, z4, z5, z6, z7, z8, z9, z10, z11⟩ := validE_zero vb
  have la := (applyE_len ha).2
  have lb := (applyE_len hb).2
  obtain ⟨ka, pa, ca, cla, sa⟩ := a
  obtain ⟨kb, pb, cb, clb, sb⟩ := b
  dsimp only at *
  obtain ⟨p, rfl⟩ := Int.eq_ofNat_of_zero_le y9
  obtain ⟨q, rfl⟩ := Int.eq_ofNat_of_zero_le z9
  have hka : ka = 0 ∨ ka = 1 ∨ ka = 2 := by omega
  have hkb : kb = 0 ∨ kb = 1 ∨ kb = 2 := by omega
  rcases hka with rfl | rfl | rfl
  · rw [sh_nop, sh_past, app_nop, app_nop]
    exact ⟨fits_of va (by omega) (by (repeat' split at lb) <;> omega) (by simp) (by simp), hb, rfl⟩
  · have hx := a1 rfl
    have hp : p ≤ d.length := by omega
    simp at la
    rcases hkb with rfl | rfl | rfl
    · rw [sh_nop, sh_past, app_nop, app_nop]
      exact ⟨ha, fits_of vb (by omega) (by omega) (by simp) (by simp), rfl⟩
    · have hy := b1 rfl
      have hq : q ≤ d.length := by omega
      simp at lb
      rw [sh_11, sh_11]
      have va' : validE ⟨1, (p : Int) + 1, ca, cla, sa⟩ = 0 := valid_of (by omega) ⟨y3, y4⟩ ⟨y5, y6⟩ (fun _ => y7 rfl) (by simp) (by omega) (by simp)
      have vb' : validE ⟨1, (q : Int) + 1, cb, clb, sb⟩ = 0 := valid_of (by omega) ⟨z3, z4⟩ ⟨z5, z6⟩ (fun _ => z7 rfl) (by simp) (by omega) (by simp)
      have key : ∀ (f' : Bool), f' = f → (q < p ∨ (q = p ∧ f' = false)) ∨ (p < q ∨ (p = q ∧ f' = true)) := fun f' _ => by cases f' <;> simp <;> omega
      rcases key f rfl with h | h
      · rw [if_pos (by rcases h with h | h; exact .inl (by omega); exact .inr ⟨by omega, h.2⟩), if_neg (by rintro (h9 | ⟨h9, h8⟩); omega; rcases h with h | ⟨_, h⟩; omega; rw [h] at h8; simp at h8)]
        rw [show (p : Int) + 1 = ((p + 1 : Nat) : Int) by omega, app_ins, app_ins, app_ins, app_ins]
        rw [app_ins] at la lb
        refine ⟨fits_of (by rwa [show ((p + 1 : Nat) : Int) = (p : Int) + 1 by omega]) (by omega) (by omega) (fun _ => by dsimp only; omega) (by simp), fits_of vb (by omega) (by omega) (fun _ => by dsimp only; omega) (by simp), ins_ins d q p _ _ hq hp (by omega)⟩
      · rw [if_neg (by rintro (h9 | ⟨h9, h8⟩); omega; rcases h with h | ⟨_, h⟩; omega; rw [h] at h8; simp at h8), if_pos (by rcases h with h | h; exact .inl (by omega); exact .inr ⟨by omega, by rw [h.2]; rfl⟩)]
        rw [show (q : Int) + 1 = ((q + 1 : Nat) : Int) by omega, app_ins, app_ins, app_ins, app_ins]
        rw [app_ins] at la lb
        refine ⟨fits_of va (by omega) (by omega) (fun _ => by dsimp only; omega) (by simp), fits_of (by rwa [show ((q + 1 : Nat) : Int) = (q : Int) + 1 by omega]) (by omega) (by omega) (fun _ => by dsimp only; omega) (by simp), (ins_ins d p q _ _ hp hq (by omega)).symm⟩
    · have hy := b2 rfl
      have hq : q < d.length := by omega
      simp at lb
      rw [sh_12, sh_21]
      by_cases h : q < p
      · rw [if_pos (by omega), if_neg (by omega)]
        rw [show (p : Int) - 1 = ((p - 1 : Nat) : Int) by omega, app_ins, app_ins, app_del, app_del]
        rw [app_ins] at la
        rw [app_del] at lb
        refine ⟨fits_of (valid_of (by omega) ⟨y3, y4⟩ ⟨y5, y6⟩ (fun _ => y7 rfl) (by simp) (by omega) (by simp)) (by omega) (by omega) (fun _ => by dsimp only; omega) (by simp), fits_of vb (by omega) (by omega) (by simp) (fun _ => by dsimp only; omega), del_ins d q p _ hq hp h⟩
      · rw [if_neg (by omega), if_pos (by omega)]
        rw [show (q : Int) + 1 = ((q + 1 : Nat) : Int) by omega, app_ins, app_ins, app_del, app_del]
        rw [app_ins] at la
        rw [app_del] at lb
        refine ⟨fits_of va (by omega) (by omega) (fun _ => by dsimp only; omega) (by simp), fits_of (valid_of (by omega) ⟨z3, z4⟩ ⟨z5, z6⟩ (by simp) (fun _ => z8 (by decide)) (by omega) (by simp)) (by omega) (by omega) (by simp) (fun _ => by dsimp only; omega), (ins_del d p q _ hp hq (by omega)).symm⟩
  · have hx := a2 rfl
    have hp : p < d.length := by omega
    simp at la
    rcases hkb with rfl | rfl | rfl
    · rw [sh_nop, sh_past, app_nop, app_nop]
      exact ⟨ha, fits_of vb (by omega) (by omega) (by simp) (by simp), rfl⟩
    · have hy := b1 rfl
      have hq : q ≤ d.length := by omega
      simp at lb
      rw [sh_21, sh_12]
      by_cases h : q ≤ p
      · rw [if_pos (by omega), if_neg (by omega)]
        rw [show (p : Int) + 1 = ((p + 1 : Nat) : Int) by omega, app_ins, app_ins, app_del, app_del]
        rw [app_del] at la
        rw [app_ins] at lb
        refine ⟨fits_of (valid_of (by omega) ⟨y3, y4⟩ ⟨y5, y6⟩ (by simp) (fun _ => y8 (by decide)) (by omega) (by simp)) (by omega) (by omega) (by simp) (fun _ => by dsimp only; omega), fits_of vb (by omega) (by omega) (fun _ => by dsimp only; omega) (by simp), ins_del d q p _ hq hp h⟩
      · rw [if_neg (by omega), if_pos (by omega)]
        rw [show (q : Int) - 1 = ((q - 1 : Nat) : Int) by omega, app_ins, app_ins, app_del, app_del]
        rw [app_del] at la
        rw [app_ins] at lb
        refine ⟨fits_of va (by omega) (by omega) (by simp) (fun _ => by dsimp only; omega), fits_of (valid_of (by omega) ⟨z3, z4⟩ ⟨z5, z6⟩ (fun _ => z7 rfl) (by simp) (by omega) (by simp)) (by omega) (by omega) (fun _ => by dsimp only; omega) (by simp), (del_ins d p q _ hp hq (by omega)).symm⟩
    · have hy := b2 rfl
      have hq : q < d.length := by omega
      simp at lb
      rw [sh_22, sh_22]
      rcases Nat.lt_trichotomy p q with h | rfl | h
      · rw [if_neg (by omega), if_neg (by omega), if_pos (by omega)]
        rw [show (q : Int) - 1 = ((q - 1 : Nat) : Int) by omega, app_del, app_del, app_del, app_del]
        rw [app_del] at la lb
        refine ⟨fits_of va (by omega) (by omega) (by simp) (fun _ => by dsimp only; omega), fits_of (valid_of (by omega) ⟨z3, z4⟩ ⟨z5, z6⟩ (by simp) (fun _ => z8 (by decide)) (by omega) (by simp)) (by omega) (by omega) (by simp) (fun _ => by dsimp only; omega), (del_del d p q hp hq h).symm⟩
      · rw [if_neg (by omega), if_pos rfl, if_neg (by omega), if_pos rfl, app_nop, app_nop, app_del, app_del]
        rw [app_del] at la lb
        refine ⟨fits_of (valid_of (by omega) ⟨y3, y4⟩ ⟨y5, y6⟩ (by simp) (by simp) (by omega) (by simp)) (by omega) (by omega) (by simp) (by simp), fits_of (valid_of (by omega) ⟨z3, z4⟩ ⟨z5, z6⟩ (by simp) (by simp) (by omega) (by simp)) (by omega) (by omega) (by simp) (by simp), rfl⟩
      · rw [if_pos (by omega), if_neg (by omega), if_neg (by omega)]
        rw [show (p : Int) - 1 = ((p - 1 : Nat) : Int) by omega, app_del, app_del, app_del, app_del]
        rw [app_del] at la lb
        refine ⟨fits_of (valid_of (by omega) ⟨y3, y4⟩ ⟨y5, y6⟩ (by simp) (fun _ => y8 (by decide)) (by omega) (by simp)) (by omega) (by omega) (by simp) (fun _ => by dsimp only; omega), fits_of vb (by omega) (by omega) (by simp) (fun _ => by dsimp only; omega), del_del d q p hq hp h⟩
end Go.Proofs.YtjojhfphlnfimaaGreatDoor.J

namespace Go.Proofs.YtjojhfphlnfimaaGreatDoor.J
open Go Go.RowKit
set_option linter.unusedSimpArgs false
set_option linter.unusedVariables false

/-! ### Texts and lines -/
def fitA : List Elem → List Op → Prop
  | _, [] => True
  | d, o :: l => fitsE d.length o = 0 ∧ fitA (applyE d o) l
def appA (d : List Elem) (l : List Op) : List Elem := l.foldl applyE d
theorem appA_cons (d : List Elem) (o : Op) (l : List Op) : appA d (o :: l) = appA (applyE d o) l := rfl
theorem appA_append (d : List Elem) (l m : List Op) : appA d (l ++ m) = appA (appA d l) m := by unfold appA; rw [List.foldl_append]
theorem fitA_append : ∀ (d : List Elem) (l m : List Op), fitA d (l ++ m) ↔ fitA d l ∧ fitA (appA d l) m
  | d, [], m => by simp [fitA, appA]
  | d, o :: l, m => by
    simp only [List.cons_append, fitA, appA_cons]
    rw [fitA_append (applyE d o) l m, and_assoc]
theorem app_len_le {d : List Elem} {o : Op} (h : fitsE d.length o = 0) : (applyE d o).length ≤ d.length + 1 := by
  have := (applyE_len h).2
  (repeat' split at this) <;> omega
theorem appA_len : ∀ (l : List Op) (d : List Elem), fitA d l → (appA d l).length ≤ d.length + l.length
  | [], d, _ => by simp [appA]
  | o :: l, d, h => by
    have h1 := appA_len l (applyE d o) h.2
    have h2 := app_len_le h.1
    rw [appA_cons, List.length_cons]; omega

theorem tp_line (f : Bool) : ∀ (l : List Op) (d : List Elem) (b : Op), d.length + l.length ≤ 4000 → fitsE d.length b = 0 → fitA d l →
    fitA (applyE d b) (pastE b l f).2 ∧ fitsE (appA d l).length (pastE b l f).1 = 0 ∧ appA (applyE d b) (pastE b l f).2 = applyE (appA d l) (pastE b l f).1
  | [], d, b, _, hb, _ => ⟨trivial, hb, rfl⟩
  | x :: l, d, b, hn, hb, hl => by
    obtain ⟨t1, t2, t3⟩ := tp1 d x b f (by simp at hn; omega) hl.1 hb
    have hlen := app_len_le hl.1
    obtain ⟨i1, i2, i3⟩ := tp_line f l (applyE d x) (shiftE b x (!f)) (by simp at hn; omega) t2 hl.2
    refine ⟨⟨t1, ?_⟩, i2, ?_⟩
    · rw [t3]; exact i1
    · show appA (applyE (applyE d b) (shiftE x b f)) _ = _
      rw [t3]; exact i3

/-! ### The records that the client has not seen -/
def runE (F : List Op) (k : Int) : List Op → Option (List Op × List Marked)
  | [] => some (F, [])
  | o :: L =>
    if o.client = 1 then
      match F with
      | [] => none
      | f :: F' => if f = o then runE F' (k + 1) L else none
    else
      match runE (pastE o F false).2 (k + 1) L with
      | none => none
      | some (Z, V) => some (Z, ⟨k, (pastE o F false).1⟩ :: V)
theorem runE_own {F : List Op} {k : Int} {o : Op} {L : List Op} {R : List Op × List Marked} (ho : o.client = 1) (h : runE F k (o :: L) = some R) : ∃ F', F = o :: F' ∧ runE F' (k + 1) L = some R := by
  unfold runE at h
  rw [if_pos ho] at h
  cases F with
  | nil => simp at h
  | cons f F' =>
    simp only at h
    split at h
    · rename_i e; subst e; exact ⟨F', rfl, h⟩
    · cases h
theorem runE_own_mk {F : List Op} {k : Int} {o : Op} {L : List Op} (ho : o.client = 1) : runE (o :: F) k (o :: L) = runE F (k + 1) L := by
  conv => lhs; unfold runE
  rw [if_pos ho]; simp
theorem runE_other {F : List Op} {k : Int} {o : Op} {L : List Op} {Z : List Op} {V : List Marked} (ho : o.client ≠ 1) (h : runE F k (o :: L) = some (Z, V)) : ∃ V', V = ⟨k, (pastE o F false).1⟩ :: V' ∧ runE (pastE o F false).2 (k + 1) L = some (Z, V') := by
  unfold runE at h
  rw [if_neg ho] at h
  split at h
  · cases h
  · rename_i Z' V' he
    cases h
    exact ⟨V', rfl, he⟩
theorem runE_other_mk {F : List Op} {k : Int} {o : Op} {L : List Op} {Z : List Op} {V : List Marked} (ho : o.client ≠ 1) (h : runE (pastE o F false).2 (k + 1) L = some (Z, V)) : runE F k (o :: L) = some (Z, ⟨k, (pastE o F false).1⟩ :: V) := by
  conv => lhs; unfold runE
  rw [if_neg ho, h]

theorem run_client (a : Op) : ∀ (L : List Op) (F : List Op) (k : Int) (Z : List Op) (V : List Marked), runE F k L = some (Z, V) →
    runE (F ++ [a]) k L = some (Z ++ [(pastE a (opsOf V) true).1], setOps V (pastE a (opsOf V) true).2)
  | [], F, k, Z, V, h => by
    cases h
    simp [runE, opsOf, pastE, setOps]
  | o :: L, F, k, Z, V, h => by
    by_cases ho : o.client = 1
    · obtain ⟨F', rfl, h'⟩ := runE_own ho h
      rw [List.cons_append, runE_own_mk ho]
      exact run_client a L F' (k + 1) Z V h'
    · obtain ⟨V', rfl, h'⟩ := runE_other ho h
      have ih := run_client (shiftE a (pastE o F false).1 false) L _ (k + 1) Z V' h'
      have hs := pastE_snoc false a F o
      have hr := runE_other_mk (F := F ++ [a]) (k := k) (o := o) (L := L) ho (by rw [hs]; exact ih)
      rw [hr, hs]
      simp only [opsOf, List.map_cons, pastE, setOps, List.zipWith_cons_cons, Bool.not_false, Bool.not_true]
theorem run_other (b : Op) (hb : b.client ≠ 1) : ∀ (L : List Op) (F : List Op) (k : Int) (Z : List Op) (V : List Marked), runE F k L = some (Z, V) →
    runE F k (L ++ [b]) = some ((pastE b Z false).2, V ++ [⟨k + L.length, (pastE b Z false).1⟩])
  | [], F, k, Z, V, h => by
    cases h
    have := runE_other_mk (F := F) (k := k) (o := b) (L := []) (Z := (pastE b F false).2) (V := []) hb rfl
    rw [List.nil_append, this]; simp
  | o :: L, F, k, Z, V, h => by
    by_cases ho : o.client = 1
    · obtain ⟨F', rfl, h'⟩ := runE_own ho h
      rw [List.cons_append, runE_own_mk ho, run_other b hb L F' (k + 1) Z V h']
      rw [show k + 1 + (L.length : Int) = k + ((o :: L).length : Int) by simp only [List.length_cons]; omega]
    · obtain ⟨V', rfl, h'⟩ := runE_other ho h
      have ih := run_other b hb L _ (k + 1) Z V' h'
      rw [List.cons_append, runE_other_mk ho ih]
      rw [show k + 1 + (L.length : Int) = k + ((o :: L).length : Int) by simp only [List.length_cons]; omega]
      rfl
theorem run_own (o : Op) (ho : o.client = 1) : ∀ (L : List Op) (F : List Op) (k : Int) (Z : List Op) (V : List Marked), runE F k L = some (o :: Z, V) → runE F k (L ++ [o]) = some (Z, V)
  | [], F, k, Z, V, h => by
    cases h
    rw [List.nil_append, runE_own_mk ho]; rfl
  | x :: L, F, k, Z, V, h => by
    by_cases hx : x.client = 1
    · obtain ⟨F', rfl, h'⟩ := runE_own hx h
      rw [List.cons_append, runE_own_mk hx]
      exact run_own o ho L F' (k + 1) Z V h'
    · obtain ⟨V', rfl, h'⟩ := runE_other hx h
      rw [List.cons_append]
      exact runE_other_mk hx (run_own o ho L _ (k + 1) Z V' h')
theorem run_marks : ∀ (L : List Op) (F : List Op) (k : Int) (Z : List Op) (V : List Marked), runE F k L = some (Z, V) → ∀ m ∈ V, k ≤ m.mark
  | [], F, k, Z, V, h, m, hm => by cases h; cases hm
  | o :: L, F, k, Z, V, h, m, hm => by
    by_cases ho : o.client = 1
    · obtain ⟨F', rfl, h'⟩ := runE_own ho h
      have := run_marks L F' (k + 1) Z V h' m hm; omega
    · obtain ⟨V', rfl, h'⟩ := runE_other ho h
      rcases List.mem_cons.1 hm with rfl | hm
      · exact Int.le_refl _
      · have := run_marks L _ (k + 1) Z V' h' m hm; omega
theorem run_text : ∀ (L : List Op) (F : List Op) (k : Int) (Z : List Op) (V : List Marked) (d : List Elem), d.length + F.length + L.length ≤ 4000 → runE F k L = some (Z, V) → fitA d F → fitA d L → fitA (appA d L) Z
  | [], F, k, Z, V, d, _, h, hF, _ => by cases h; exact hF
  | o :: L, F, k, Z, V, d, hn, h, hF, hL => by
    have hlen := app_len_le hL.1
    simp only [List.length_cons] at hn
    by_cases ho : o.client = 1
    · obtain ⟨F', rfl, h'⟩ := runE_own ho h
      simp only [List.length_cons] at hn
      exact run_text L F' (k + 1) Z V (applyE d o) (by omega) h' hF.2 hL.2
    · obtain ⟨V', rfl, h'⟩ := runE_other ho h
      obtain ⟨t1, _, _⟩ := tp_line false F d o (by omega) hL.1 hF
      exact run_text L _ (k + 1) Z V' (applyE d o) (by rw [pastE_len]; omega) h' t1 hL.2

/-! ### The server's space -/
theorem dropE_snoc {k : Int} {S : List Marked} {m : Marked} (h : k < m.mark) : dropE k (S ++ [m]) = dropE k S ++ [m] := by
  unfold dropE
  induction S with
  | nil => simp [List.dropWhile_cons]; omega
  | cons x S ih =>
    simp only [List.cons_append, List.dropWhile_cons]
    split
    · exact ih
    · rfl
theorem dropE_drop {k k' : Int} (h : k ≤ k') (l : List Marked) : dropE k' (dropE k l) = dropE k' l := by
  unfold dropE
  induction l with
  | nil => rfl
  | cons x l ih =>
    by_cases hx : x.mark ≤ k
    · rw [List.dropWhile_cons, if_pos (by simpa using hx), ih, List.dropWhile_cons, if_pos (by simp; omega)]
    · rw [List.dropWhile_cons, if_neg (by simpa using hx)]
theorem dropE_all {k : Int} {l : List Marked} (h : ∀ m ∈ l, k < m.mark) : dropE k l = l := by
  unfold dropE
  cases l with
  | nil => rfl
  | cons x l =>
    have := h x (by simp)
    rw [List.dropWhile_cons, if_neg (by simp; omega)]
theorem setOps_marks {l : List Marked} {os : List Op} {k : Int} (h : ∀ m ∈ l, k < m.mark) : ∀ m ∈ setOps l os, k < m.mark := by
  intro m hm
  unfold setOps at hm
  obtain ⟨i, hi, he⟩ := List.getElem_of_mem hm
  rw [List.getElem_zipWith] at he
  subst he
  have h1 : i < l.length := by simp at hi; omega
  exact h l[i] (List.getElem_mem h1)
theorem opsOf_snoc (S : List Marked) (m : Marked) : opsOf (S ++ [m]) = opsOf S ++ [m.op] := by simp [opsOf]
theorem setOps_snoc {S : List Marked} {os : List Op} {m : Marked} {o : Op} (h : os.length = S.length) : setOps (S ++ [m]) (os ++ [o]) = setOps S os ++ [⟨m.mark, o⟩] := by
  unfold setOps
  rw [List.zipWith_append (by omega)]; rfl

def srvE : List Marked → List Edit → List Op × List Marked
  | S, [] => ([], S)
  | S, e :: P => ((pastE e.op (opsOf (dropE e.tag S)) true).1 :: (srvE (setOps (dropE e.tag S) (pastE e.op (opsOf (dropE e.tag S)) true).2) P).1, (srvE (setOps (dropE e.tag S) (pastE e.op (opsOf (dropE e.tag S)) true).2) P).2)
theorem srv_client (e : Edit) : ∀ (P : List Edit) (S : List Marked), srvE S (P ++ [e]) = ((srvE S P).1 ++ [(pastE e.op (opsOf (dropE e.tag (srvE S P).2)) true).1], setOps (dropE e.tag (srvE S P).2) (pastE e.op (opsOf (dropE e.tag (srvE S P).2)) true).2)
  | [], S => rfl
  | x :: P, S => by
    simp only [List.cons_append, srvE, srv_client e P]
theorem srv_other : ∀ (P : List Edit) (S : List Marked) (m : Marked), (∀ e ∈ P, e.tag < m.mark) →
    srvE (S ++ [m]) P = ((pastE m.op (srvE S P).1 false).2, (srvE S P).2 ++ [⟨m.mark, (pastE m.op (srvE S P).1 false).1⟩])
  | [], S, m, _ => rfl
  | e :: P, S, m, h => by
    have h1 := h e (by simp)
    have hd := dropE_snoc (S := S) h1
    have hs := pastE_snoc true m.op (opsOf (dropE e.tag S)) e.op
    have hl := past_len e.op (dropE e.tag S) true
    have ih := srv_other P (setOps (dropE e.tag S) (pastE e.op (opsOf (dropE e.tag S)) true).2) ⟨m.mark, shiftE m.op (pastE e.op (opsOf (dropE e.tag S)) true).1 true⟩ (fun x hx => h x (List.mem_cons_of_mem _ hx))
    simp only [srvE, hd, opsOf_snoc, hs, setOps_snoc hl, ih, pastE, Bool.not_true, Bool.not_false]
theorem srv_len : ∀ (P : List Edit) (S : List Marked), (srvE S P).1.length = P.length
  | [], S => rfl
  | e :: P, S => by simp only [srvE, List.length_cons, srv_len P]
theorem pastE_who (f : Bool) : ∀ (l : List Op) (op : Op), (pastE op l f).1.client = op.client ∧ (pastE op l f).1.seq = op.seq
  | [], op => ⟨rfl, rfl⟩
  | x :: l, op => by
    obtain ⟨h1, h2⟩ := pastE_who f l (shiftE op x (!f))
    obtain ⟨h3, h4⟩ := shiftE_who op x (!f)
    exact ⟨h1.trans h3, h2.trans h4⟩
end Go.Proofs.YtjojhfphlnfimaaGreatDoor.J
