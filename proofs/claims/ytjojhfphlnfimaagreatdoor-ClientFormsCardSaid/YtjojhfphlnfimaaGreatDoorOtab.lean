/- From the row's condition on the listed variables to the three tables in memory. From the row's condition on the listed variables to the table of rules in memory. -/
import Derived.Test.YtjojhfphlnfimaaGreatDoorRows
import Derived.Test.YtjojhfphlnfimaaGreatDoorOnceA
import Derived.LaidMore
import Derived.Lib.LaidTab
import Derived.Test.YtjojhfphlnfimaaGreatDoorOt
import Derived.LaidHandle
namespace Go.Proofs.YtjojhfphlnfimaaGreatDoor.J
open Go Go.RowKit Go.Lib
set_option linter.unusedSimpArgs false
set_option linter.unusedVariables false

theorem cells_of_arr {H : Type} {enc : TypeId × Value → H} {P : Program} {w : World} {base : Nat} {sp : Nat → Bool} {held : Bool} {fuel : Nat} {t e : TypeId} {n : Nat} {cs : List Value} {ds : List (DataW H)} {p : List MemPlace}
    (ht : P.underlying t = some (.array n e)) (hce : P.cellsOf e = 1) (hct : P.cellsOf t = n)
    (h : DataW.trod enc P w base sp held fuel t cs = some (.agg ds, p)) (i : Nat) (d : DataW H) (hd : ds[i]? = some d) : ∃ f c q, cs[i]? = some c ∧ DataW.trod enc P w base sp held f e [c] = some (d, q) := by
  cases fuel with
  | zero => simp [DataW.trod] at h
  | succ fuel =>
    simp only [DataW.trod, ht, hce, hct, Nat.mul_one] at h
    split at h
    · rename_i hl
      obtain ⟨xs, hm, hx⟩ := Option.map_eq_some_iff.1 h
      have hxs : xs.map (·.1) = ds := by
        have := congrArg Prod.fst hx
        simpa using this
      have hxl : xs.length = n := by simpa using mapM_length hm
      have hi : i < n := by
        have := (List.getElem?_eq_some_iff.1 hd).1
        rw [← hxs, List.length_map] at this
        omega
      obtain ⟨b, hb, hf⟩ := mapM_at hm i i (by simp [hi])
      have hlen : i < cs.length := by omega
      have e1 : (cs.drop i).take 1 = [cs[i]] := by
        rw [List.drop_eq_getElem_cons hlen]; rfl
      rw [← hxs, List.getElem?_map, hb] at hd
      simp only [Option.map_some, Option.some.injEq] at hd
      refine ⟨fuel, cs[i], b.2, List.getElem?_eq_getElem hlen, ?_⟩
      rw [e1] at hf
      rw [hf, ← hd]
    · cases h

theorem Tryz.gOc : Tryz.prog.globalNamed "jotter/octet.table" = some 3 := by kernel_rfl
theorem Tryz.gWs : Tryz.prog.globalNamed "jotter/wire.size" = some 1 := by kernel_rfl
theorem Tryz.gSh : Tryz.prog.globalNamed "jotter/wire.shapes" = some 0 := by kernel_rfl
theorem Tryz.tOc : (Tryz.prog.globals[3]?).map (·.type) = some 202 := by kernel_rfl
theorem Tryz.tWs : (Tryz.prog.globals[1]?).map (·.type) = some 124 := by kernel_rfl
theorem Tryz.tSh : (Tryz.prog.globals[0]?).map (·.type) = some 123 := by kernel_rfl
theorem Tryz.cOc : Tryz.prog.cellsOf 202 = 16 := by kernel_rfl
theorem Tryz.cWs : Tryz.prog.cellsOf 124 = 14 := by kernel_rfl
theorem Tryz.cSh : Tryz.prog.cellsOf 123 = 7 := by kernel_rfl
theorem Tryz.cU : Tryz.prog.cellsOf 167 = 1 := by kernel_rfl
theorem Tryz.cI : Tryz.prog.cellsOf 3 = 1 := by kernel_rfl
theorem Tryz.cS : Tryz.prog.cellsOf 22 = 1 := by kernel_rfl

def ocZ : List Int := tbl.map Int.ofNat
def wsZ : List Int := [1, 1, 1, 2, 1, 2, 2, 2, 2, 1, 2, 1, 1, 1]
theorem ocZ_at : ∀ i, i < 16 → ocZ.getD i 0 = ((tb i : Nat) : Int) := by decide +kernel
theorem wsZ_at : ∀ i, i < 14 → wsZ.getD i 0 = ((wideE i : Nat) : Int) := by decide +kernel
def shD (l : List Nat) : DataW Unit := .slice (l.map fun (n : Nat) => DataW.lit (.int .i64 (n : Int))) []
theorem kInt_all (l : List Nat) : kInt.all l = l.map (fun (n : Nat) => Value.int .i64 (n : Int)) := by
  induction l with
  | nil => rfl
  | cons x l ih => rw [K.all_cons, ih]; rfl
theorem sh_rd (W : World) (l : List Nat) (hl : l ≠ []) (f : Nat) (c : Value) (q : List MemPlace) (h : DataW.trod (fun _ => ()) Tryz.prog W 0 (fun _ => true) false f 22 [c] = some (shD l, q)) : ∃ A n d, c = .slice A n d ∧ Rd kInt W A n d l := by
  have hmax : ∀ A n d, c = .slice A n d → d ≤ maxLen := by
    intro A n d he
    rcases DataW.trod_slice Tryz.underlying22 h with ⟨h0, _⟩ | ⟨a, len, cap, _, _, _, _, h0, _, _, _, hm, _⟩
    · simp only [List.cons.injEq, and_true] at h0
      rw [he] at h0
      cases h0
      exact Nat.zero_le _
    · simp only [List.cons.injEq, and_true] at h0
      rw [he] at h0
      cases h0
      exact hm
  obtain ⟨a, cap, hc, hcap, hel⟩ := open_row Tryz.underlying22 Tryz.cI h
  simp only [List.length_map, List.cons.injEq, and_true] at hc hcap
  have hat : ∀ (i : Nat) (x : Nat), l[i]? = some x → W.cell? (a.add i) = some (.int .i64 (x : Int)) := by
    intro i x hx
    obtain ⟨v, n, q, hv, ht⟩ := hel i (DataW.lit (.int .i64 (x : Int))) (by rw [List.getElem?_map, hx]; rfl)
    obtain ⟨m, he, hy, _⟩ := DataW.trod_int Tryz.underlying3 ht
    simp only [List.cons.injEq, and_true] at he
    simp only [Prod.mk.injEq, DataW.lit.injEq, Lit.int.injEq, true_and] at hy
    rw [hv, he, ← hy.1]
  have hsp : ∃ b o, a = ⟨b, o, none⟩ := by
    cases l with
    | nil => exact absurd rfl hl
    | cons x l =>
      have h0 := hat 0 x rfl
      have e0 : a.add 0 = a := by simp [Addr.add]
      rw [e0] at h0
      obtain ⟨b, o, s⟩ := a
      cases s with
      | none => exact ⟨b, o, rfl⟩
      | some s => unfold World.cell? at h0; split at h0 <;> simp_all
  obtain ⟨b, o, rfl⟩ := hsp
  refine ⟨_, _, _, hc, rfl, hcap, hmax _ _ _ hc, fun h => (by cases h), fun j u hu => ⟨b, o, rfl, ?_⟩⟩
  have hj : (kInt.all l)[j]? = (l[j]?).map (fun (n : Nat) => Value.int .i64 (n : Int)) := by
    rw [kInt_all, List.getElem?_map]
  rw [hj] at hu
  obtain ⟨x, hx, rfl⟩ := Option.map_eq_some_iff.1 hu
  rw [← add_off]
  exact hat j x hx

/-- What each law of the client lists. -/
def L5 : List (String × DataW Unit) := [("errors.errorType", Rows.laid_errors_errorType), ("jotter/octet.table", Rows.laid_jotter_octet_table), ("jotter/ot.rules", Rows.laid_jotter_ot_rules), ("jotter/wire.size", Rows.laid_jotter_wire_size), ("jotter/wire.shapes", Rows.laid_jotter_wire_shapes)]
theorem tabs_of_laid (W : World) (h : laidMetH Tryz.prog L5 W) : Tabs W := by
  have h1 : laidMet Tryz.prog [("jotter/octet.table", tabData .u32 ocZ), ("jotter/wire.size", tabData .i64 wsZ), ("jotter/wire.shapes", .agg [.nil, shD [1, 2, 3, 4], shD [1, 2, 5, 6, 8, 9, 10, 11, 12, 13], shD [1, 2, 6], shD [1, 2], shD [1, 2, 5, 6, 7, 9, 10, 11, 12, 13], shD [1, 2, 6]])] W := h.1
  obtain ⟨ps, ⟨g1, t1, cs1, f1, p1, q1, hg1, ht1, hv1, hd1, hrest, _⟩, _⟩ := h1
  obtain ⟨g2, t2, cs2, f2, p2, q2, hg2, ht2, hv2, hd2, hrest2, _⟩ := hrest
  obtain ⟨g3, t3, cs3, f3, p3, q3, hg3, ht3, hv3, hd3, _, _⟩ := hrest2
  obtain rfl := Option.some.inj (Tryz.gOc.symm.trans hg1)
  obtain rfl := Option.some.inj (Tryz.gWs.symm.trans hg2)
  obtain rfl := Option.some.inj (Tryz.gSh.symm.trans hg3)
  obtain rfl := Option.some.inj (Tryz.tOc.symm.trans ht1)
  obtain rfl := Option.some.inj (Tryz.tWs.symm.trans ht2)
  obtain rfl := Option.some.inj (Tryz.tSh.symm.trans ht3)
  refine ⟨fun i hi => ?_, fun i hi => ?_, fun k h1 h2 => ?_⟩
  · have e := cells_of_tab Tryz.underlying202 Tryz.underlying167 Tryz.cU Tryz.cOc hd1
    have := World.var?_cell Tryz.gOc hv1 i
    rw [this, ← Array.getElem?_toList, e, List.getElem?_map, ← ocZ_at i hi]
    have hl : i < ocZ.length := hi
    rw [List.getElem?_eq_getElem hl, List.getD_eq_getElem?_getD, List.getElem?_eq_getElem hl]; rfl
  · have e := cells_of_tab Tryz.underlying124 Tryz.underlying3 Tryz.cI Tryz.cWs hd2
    have := World.var?_cell Tryz.gWs hv2 i
    rw [this, ← Array.getElem?_toList, e, List.getElem?_map, ← wsZ_at i hi]
    have hl : i < wsZ.length := hi
    rw [List.getElem?_eq_getElem hl, List.getD_eq_getElem?_getD, List.getElem?_eq_getElem hl]; rfl
  · have hc := fun i d hd => cells_of_arr Tryz.underlying123 Tryz.cS Tryz.cSh hd3 i d hd
    have hv := World.var?_cell Tryz.gSh hv3 k
    have hk : k = 1 ∨ k = 2 ∨ k = 3 ∨ k = 4 ∨ k = 5 ∨ k = 6 := by omega
    rcases hk with rfl | rfl | rfl | rfl | rfl | rfl
    · obtain ⟨f, c, q, hcc, htr⟩ := hc 1 _ rfl
      obtain ⟨A, n, d, rfl, hR⟩ := sh_rd W _ (by simp) f c q htr
      exact ⟨A, n, d, by rw [hv, ← Array.getElem?_toList, hcc], hR⟩
    · obtain ⟨f, c, q, hcc, htr⟩ := hc 2 _ rfl
      obtain ⟨A, n, d, rfl, hR⟩ := sh_rd W _ (by simp) f c q htr
      exact ⟨A, n, d, by rw [hv, ← Array.getElem?_toList, hcc], hR⟩
    · obtain ⟨f, c, q, hcc, htr⟩ := hc 3 _ rfl
      obtain ⟨A, n, d, rfl, hR⟩ := sh_rd W _ (by simp) f c q htr
      exact ⟨A, n, d, by rw [hv, ← Array.getElem?_toList, hcc], hR⟩
    · obtain ⟨f, c, q, hcc, htr⟩ := hc 4 _ rfl
      obtain ⟨A, n, d, rfl, hR⟩ := sh_rd W _ (by simp) f c q htr
      exact ⟨A, n, d, by rw [hv, ← Array.getElem?_toList, hcc], hR⟩
    · obtain ⟨f, c, q, hcc, htr⟩ := hc 5 _ rfl
      obtain ⟨A, n, d, rfl, hR⟩ := sh_rd W _ (by simp) f c q htr
      exact ⟨A, n, d, by rw [hv, ← Array.getElem?_toList, hcc], hR⟩
    · obtain ⟨f, c, q, hcc, htr⟩ := hc 6 _ rfl
      obtain ⟨A, n, d, rfl, hR⟩ := sh_rd W _ (by simp) f c q htr
      exact ⟨A, n, d, by rw [hv, ← Array.getElem?_toList, hcc], hR⟩
end Go.Proofs.YtjojhfphlnfimaaGreatDoor.J

namespace Go.Proofs.YtjojhfphlnfimaaGreatDoor.J
open Go Go.RowKit Go.Lib
set_option linter.unusedSimpArgs false
set_option linter.unusedVariables false

/-- An array of arrays, cell by cell. -/
theorem cells_of_arr2 {H : Type} {enc : TypeId × Value → H} {P : Program} {w : World} {base : Nat} {sp : Nat → Bool} {held : Bool} {fuel : Nat} {t e : TypeId} {n m : Nat} {cs : List Value} {ds : List (DataW H)} {p : List MemPlace}
    (ht : P.underlying t = some (.array n e)) (hce : P.cellsOf e = m) (hct : P.cellsOf t = n * m)
    (h : DataW.trod enc P w base sp held fuel t cs = some (.agg ds, p)) (i : Nat) (d : DataW H) (hd : ds[i]? = some d) : ∃ f q, DataW.trod enc P w base sp held f e ((cs.drop (i * m)).take m) = some (d, q) := by
  cases fuel with
  | zero => simp [DataW.trod] at h
  | succ fuel =>
    simp only [DataW.trod, ht, hce, hct] at h
    split at h
    · rename_i hl
      obtain ⟨xs, hm, hx⟩ := Option.map_eq_some_iff.1 h
      have hxs : xs.map (·.1) = ds := by
        have := congrArg Prod.fst hx
        simpa using this
      have hxl : xs.length = n := by simpa using mapM_length hm
      have hi : i < n := by
        have := (List.getElem?_eq_some_iff.1 hd).1
        rw [← hxs, List.length_map] at this
        omega
      obtain ⟨b, hb, hf⟩ := mapM_at hm i i (by simp [hi])
      rw [← hxs, List.getElem?_map, hb] at hd
      simp only [Option.map_some, Option.some.injEq] at hd
      exact ⟨fuel, b.2, by rw [hf, ← hd]⟩
    · cases h

theorem Tryz.gOt : Tryz.prog.globalNamed "jotter/ot.rules" = some 4 := by kernel_rfl
theorem Tryz.tOt : (Tryz.prog.globals[4]?).map (·.type) = some 225 := by kernel_rfl
theorem Tryz.cOt : Tryz.prog.cellsOf 225 = 9 := by kernel_rfl
theorem Tryz.cOt3 : Tryz.prog.cellsOf 224 = 3 := by kernel_rfl
theorem Tryz.cOt1 : Tryz.prog.cellsOf 223 = 1 := by kernel_rfl
def ruleN : Nat → Nat → List UInt8
  | 1, 1 => [106, 111, 116, 116, 101, 114, 47, 111, 116, 46, 105, 110, 115, 101, 114, 116, 80, 97, 115, 116, 73, 110, 115, 101, 114, 116]
  | 1, 2 => [106, 111, 116, 116, 101, 114, 47, 111, 116, 46, 105, 110, 115, 101, 114, 116, 80, 97, 115, 116, 68, 101, 108, 101, 116, 101]
  | 2, 1 => [106, 111, 116, 116, 101, 114, 47, 111, 116, 46, 100, 101, 108, 101, 116, 101, 80, 97, 115, 116, 73, 110, 115, 101, 114, 116]
  | 2, 2 => [106, 111, 116, 116, 101, 114, 47, 111, 116, 46, 100, 101, 108, 101, 116, 101, 80, 97, 115, 116, 68, 101, 108, 101, 116, 101]
  | _, _ => [106, 111, 116, 116, 101, 114, 47, 111, 116, 46, 115, 116, 97, 121, 115]
theorem ruleN_all : ((List.range 3).all fun i => (List.range 3).all fun j => ((List.range Tryz.prog.funcs.size).filter fun f => (Tryz.prog.funcs[f]?).any (·.name.toUTF8.data.toList == ruleN i j)) == [ruleF i j]) = true := by kernel_rfl
theorem ruleN_one (i j : Nat) (hi : i < 3) (hj : j < 3) : ((List.range Tryz.prog.funcs.size).filter fun f => (Tryz.prog.funcs[f]?).any (·.name.toUTF8.data.toList == ruleN i j)) = [ruleF i j] := by
  have h := List.all_eq_true.1 ruleN_all i (List.mem_range.2 hi)
  exact beq_iff_eq.1 (List.all_eq_true.1 h j (List.mem_range.2 hj))

theorem ot_of_laid (W : World) (h : laidMetH Tryz.prog L5 W) : OtT W := by
  obtain ⟨g, t, cs, fuel, p, hg, ht, hv, hd⟩ := h.funcs (n := "jotter/ot.rules") (List.mem_cons_of_mem _ (List.mem_cons_of_mem _ (List.mem_cons_self ..)))
  obtain rfl := Option.some.inj (Tryz.gOt.symm.trans hg)
  obtain rfl := Option.some.inj (Tryz.tOt.symm.trans ht)
  have hd' : DataW.trod (funcToken Tryz.prog) Tryz.prog W 0 (fun _ => true) true fuel 225 cs.toList = some (.agg [.agg [.held (ruleN 0 0), .held (ruleN 0 1), .held (ruleN 0 2)], .agg [.held (ruleN 1 0), .held (ruleN 1 1), .held (ruleN 1 2)], .agg [.held (ruleN 2 0), .held (ruleN 2 1), .held (ruleN 2 2)]], p) := hd
  have hrow : ∀ i d, [DataW.agg [.held (ruleN 0 0), .held (ruleN 0 1), .held (ruleN 0 2)], .agg [.held (ruleN 1 0), .held (ruleN 1 1), .held (ruleN 1 2)], .agg [.held (ruleN 2 0), .held (ruleN 2 1), .held (ruleN 2 2)]][i]? = some d → _ := fun i d hd => cells_of_arr2 Tryz.underlying225 Tryz.cOt3 Tryz.cOt hd' i d hd
  have hcell : ∀ i j f q, i < 3 → j < 3 → DataW.trod (funcToken Tryz.prog) Tryz.prog W 0 (fun _ => true) true f 224 ((cs.toList.drop (i * 3)).take 3) = some (.agg [.held (ruleN i 0), .held (ruleN i 1), .held (ruleN i 2)], q) → cs[3 * i + j]? = some (.func (.func (ruleF i j)) #[] #[]) := by
    intro i j f q hi hj hq
    have hjj : [DataW.held (ruleN i 0), .held (ruleN i 1), .held (ruleN i 2)][j]? = some (.held (ruleN i j)) := by
      have hj' : j = 0 ∨ j = 1 ∨ j = 2 := by omega
      rcases hj' with rfl | rfl | rfl <;> rfl
    obtain ⟨f1, c1, q1, hc1, ht1⟩ := cells_of_arr Tryz.underlying224 Tryz.cOt1 Tryz.cOt3 hq j _ hjj
    have hone := ruleN_one i j hi hj
    obtain ⟨b, r, hbr⟩ : ∃ b r, ruleN i j = b :: r := by
      have hi' : i = 0 ∨ i = 1 ∨ i = 2 := by omega
      have hj' : j = 0 ∨ j = 1 ∨ j = 2 := by omega
      rcases hi' with rfl | rfl | rfl <;> rcases hj' with rfl | rfl | rfl <;> exact ⟨_, _, rfl⟩
    rw [hbr] at ht1 hone
    obtain rfl := func_of_trod Tryz.underlying223 hone ht1
    rw [List.getElem?_take_of_lt hj, List.getElem?_drop, Nat.mul_comm] at hc1
    rw [← Array.getElem?_toList]; exact hc1
  intro i j hi hj
  have := World.var?_cell Tryz.gOt hv (3 * i + j)
  rw [this]
  have hi' : i = 0 ∨ i = 1 ∨ i = 2 := by omega
  rcases hi' with rfl | rfl | rfl
  · obtain ⟨f, q, hq⟩ := hrow 0 _ rfl
    exact hcell 0 j f q (by decide) hj hq
  · obtain ⟨f, q, hq⟩ := hrow 1 _ rfl
    exact hcell 1 j f q (by decide) hj hq
  · obtain ⟨f, q, hq⟩ := hrow 2 _ rfl
    exact hcell 2 j f q (by decide) hj hq
end Go.Proofs.YtjojhfphlnfimaaGreatDoor.J
