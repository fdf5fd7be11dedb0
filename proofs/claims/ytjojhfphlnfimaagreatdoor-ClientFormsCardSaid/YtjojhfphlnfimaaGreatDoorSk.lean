/- What holds of the stage at every moment, and that each step keeps it: plain. The stage's invariant, on: records come down, new epochs, the beginning: plain. -/
import Derived.Test.YtjojhfphlnfimaaGreatDoorSi
import Derived.Test.YtjojhfphlnfimaaGreatDoorSw
namespace Go.Proofs.YtjojhfphlnfimaaGreatDoor.J
open Go Go.RowKit
set_option linter.unusedSimpArgs false
set_option linter.unusedVariables false

def foreign (l : List Op) : List Op := l.filter fun o => decide (o.client ≠ 1)
theorem foreign_snoc_own {l : List Op} {o : Op} (h : o.client = 1) : foreign (l ++ [o]) = foreign l := by simp [foreign, h]
theorem foreign_snoc {l : List Op} {o : Op} (h : o.client ≠ 1) : foreign (l ++ [o]) = foreign l ++ [o] := by simp [foreign, h]

structure Inv (s : St) : Prop where
  gok : s.g.Ok
  id : s.g.id = 1
  made : s.g.made = (s.mine.length : Int)
  hav : s.g.hav = (s.down : Int)
  base : s.g.base = (s.base : Int)
  ep : s.g.epoch = (s.epoch : Int)
  e0 : 1 ≤ s.epoch
  e1 : s.epoch ≤ 255
  held : s.g.held = []
  dn : s.down ≤ s.log.length
  hs : s.has_ ≤ s.mine.length
  bd : s.base ≤ s.down
  sq : s.seq ≤ 64
  ll : s.log.length = s.has_ + s.seq
  sl : s.slast ≤ (s.log.length : Int)
  pend : s.g.pending = s.mine.drop (s.mine.length - s.g.pending.length)
  raw : ∀ (i : Nat) (e : Edit), s.mine[i]? = some e → e.tag ≤ (s.down : Int) ∧ validE e.op = 0 ∧ e.op.client = 1 ∧ e.op.seq = (i : Int) + 1
  sn : s.side.length ≤ s.seq
  sb : ∀ m ∈ s.side, bnd (4096 + s.has_) m.op
  grid : ∃ V, runE (opsOf s.g.forms) ((s.down : Int) + 1) (s.log.drop s.down) = some ((srvE s.side (s.mine.drop s.has_)).1, V) ∧ dropE s.down (srvE s.side (s.mine.drop s.has_)).2 = V
  ft : fitA [] s.log
  tx : s.text = appA [] s.log
  fg : fitA (appA [] (s.log.take s.down)) (opsOf s.g.forms)
  tg : s.g.text = appA (appA [] (s.log.take s.down)) (opsOf s.g.forms)
  l2 : s.g.last.getD 2 0 = ((foreign (s.log.take s.down)).length : Int)
  fs : ∀ (i : Nat) (o : Op), (foreign s.log)[i]? = some o → o.seq = (i : Int) + 1 ∧ o.client = 2
  fc : (foreign s.log).length = s.seq

section
variable {s : St} (h : Inv s)
include h
theorem Inv.mn : s.mine.length ≤ 64 := by have := h.gok.m1; have := h.made; omega
theorem Inv.logLen : s.log.length ≤ 128 := by have := h.mn; have := h.hs; have := h.sq; have := h.ll; omega
theorem Inv.formsLen : s.g.forms.length = s.g.pending.length := h.gok.fpl
theorem Inv.pendLen : s.g.pending.length ≤ s.mine.length := by have := h.gok.pm; have := h.made; omega
theorem Inv.textLen : s.text.length ≤ 128 := by
  have := appA_len s.log [] h.ft
  have := h.logLen
  rw [h.tx]; simp at *; omega
theorem Inv.d0Len : (appA [] (s.log.take s.down)).length ≤ 128 := by
  have hf : fitA [] (s.log.take s.down) := by
    have := h.ft
    rw [← List.take_append_drop s.down s.log, fitA_append] at this
    exact this.1
  have := appA_len _ _ hf
  have := h.logLen
  simp at *; omega
theorem Inv.gtextLen : s.g.text.length ≤ 192 := by
  have h1 := appA_len _ _ h.fg
  have h2 := h.d0Len
  have h3 : (opsOf s.g.forms).length = s.g.forms.length := by simp [opsOf]
  have := h.formsLen
  have := h.pendLen
  have := h.mn
  rw [h.tg]; omega
theorem Inv.fitRest : fitA [] (s.log.take s.down) ∧ fitA (appA [] (s.log.take s.down)) (s.log.drop s.down) := by
  have := h.ft
  rw [← List.take_append_drop s.down s.log, fitA_append] at this
  exact this
theorem Inv.textRest : s.text = appA (appA [] (s.log.take s.down)) (s.log.drop s.down) := by rw [h.tx, ← appA_append, List.take_append_drop]
/-- The edits that the server has not yet, as they stand behind all its records. -/
theorem Inv.zfit {Z : List Op} {V : List Marked} (hr : runE (opsOf s.g.forms) ((s.down : Int) + 1) (s.log.drop s.down) = some (Z, V)) : fitA s.text Z := by
  rw [h.textRest]
  refine run_text _ _ _ Z V _ ?_ hr h.fg h.fitRest.2
  have := h.d0Len
  have := h.logLen
  have := h.formsLen
  have := h.pendLen
  have := h.mn
  have h3 : (opsOf s.g.forms).length = s.g.forms.length := by simp [opsOf]
  rw [h3, List.length_drop]; omega
theorem Inv.tagNew : ∀ e ∈ s.mine.drop s.has_, e.tag < (s.log.length : Int) + 1 := fun e he => by
  obtain ⟨i, hi⟩ := List.getElem?_of_mem (List.mem_of_mem_drop he)
  have := (h.raw i e hi).1
  have := h.dn
  omega

theorem Inv.owned {op : Op} (hm : s.mine.length < 64) (hf : fitsE s.g.text.length op = 0) (hc : op.client = 1) (hq : op.seq = (s.mine.length : Int) + 1) : Inv (s.owned op) := by
  have hok := h.gok.edited (o := op) (by have := h.made; omega) hf (by rw [hc]; exact h.id.symm) (by rw [hq, h.made])
  have hpl := h.pendLen
  obtain ⟨V, hr, hd⟩ := h.grid
  have hmk := run_marks _ _ _ _ _ hr
  have hVd : dropE s.down V = V := dropE_all (fun m hm => by have := hmk m hm; omega)
  have htag : s.g.hav = (s.down : Int) := h.hav
  unfold St.owned
  exact {
    gok := hok
    id := h.id
    made := by simp only [Gc.edited, List.length_append, List.length_cons, List.length_nil]; rw [h.made]; omega
    hav := h.hav
    base := h.base
    ep := h.ep
    e0 := h.e0
    e1 := h.e1
    held := h.held
    dn := h.dn
    hs := by simp only [List.length_append]; have := h.hs; omega
    bd := h.bd
    sq := h.sq
    ll := h.ll
    sl := h.sl
    pend := by
      simp only [Gc.edited, List.length_append, List.length_cons, List.length_nil]
      rw [show s.mine.length + (0 + 1) - (s.g.pending.length + (0 + 1)) = s.mine.length - s.g.pending.length by omega, List.drop_append_of_le_length (by omega), ← h.pend]
    raw := fun i e he => by
      simp only at he
      rw [List.getElem?_append] at he
      split at he
      · exact h.raw i e he
      · rename_i hlt
        have hi : i = s.mine.length := by
          have := (List.getElem?_eq_some_iff.1 he).1
          simp at this; omega
        subst hi
        simp at he
        subst he
        exact ⟨by simp only; omega, (fitsE_zero hf).1, hc, hq⟩
    sn := h.sn
    sb := h.sb
    grid := by
      have hfo : opsOf (s.g.edited op).forms = opsOf s.g.forms ++ [op] := opsOf_snoc _ _
      have hrc := run_client op _ _ _ _ _ hr
      have hsc := srv_client ⟨s.g.hav, op⟩ (s.mine.drop s.has_) s.side
      simp only at hsc
      rw [htag, hd] at hsc
      refine ⟨setOps V (pastE op (opsOf V) true).2, ?_, ?_⟩
      · simp only
        rw [hfo, hrc, List.drop_append_of_le_length h.hs, htag, hsc]
      · simp only
        rw [List.drop_append_of_le_length h.hs, htag, hsc]
        exact dropE_all (setOps_marks (fun m hm => by have := hmk m hm; omega))
    ft := h.ft
    tx := h.tx
    fg := by
      have hfo : opsOf (s.g.edited op).forms = opsOf s.g.forms ++ [op] := opsOf_snoc _ _
      simp only
      rw [hfo, fitA_append, ← h.tg]
      exact ⟨h.fg, hf, trivial⟩
    tg := by
      have hfo : opsOf (s.g.edited op).forms = opsOf s.g.forms ++ [op] := opsOf_snoc _ _
      simp only
      rw [hfo, appA_append, ← h.tg]; rfl
    l2 := h.l2
    fs := h.fs
    fc := h.fc }

theorem Inv.wrote {op : Op} (hm : s.seq < 64) (hf : fitsE s.text.length op = 0) (hc : op.client = 2) (hq : op.seq = (s.seq : Int) + 1) : Inv (s.wrote op) := by
  obtain ⟨hv, _⟩ := fitsE_zero hf
  have hc1 : op.client ≠ 1 := by omega
  obtain ⟨V, hr, hd⟩ := h.grid
  have hdn := h.dn
  have htk : (s.log ++ [op]).take s.down = s.log.take s.down := List.take_append_of_le_length hdn
  unfold St.wrote
  exact {
    gok := h.gok
    id := h.id
    made := h.made
    hav := h.hav
    base := h.base
    ep := h.ep
    e0 := h.e0
    e1 := h.e1
    held := h.held
    dn := by simp only [List.length_append]; omega
    hs := h.hs
    bd := h.bd
    sq := by simp only; omega
    ll := by simp only [List.length_append, List.length_cons, List.length_nil]; have := h.ll; omega
    sl := by simp only [List.length_append, List.length_cons, List.length_nil]; omega
    pend := h.pend
    raw := h.raw
    sn := by simp only [List.length_append, List.length_cons, List.length_nil]; have := h.sn; omega
    sb := fun m hm => by
      simp only at hm
      rcases List.mem_append.1 hm with hm | hm
      · exact h.sb m hm
      · simp at hm; subst hm; exact bnd_of_valid hv (by simp only; omega)
    grid := by
      have hro := run_other op hc1 _ _ _ _ _ hr
      have hso := srv_other (s.mine.drop s.has_) s.side ⟨(s.log.length : Int) + 1, op⟩ h.tagNew
      simp only at hso
      refine ⟨V ++ [⟨(s.down : Int) + 1 + ((s.log.drop s.down).length : Int), (pastE op (srvE s.side (s.mine.drop s.has_)).1 false).1⟩], ?_, ?_⟩
      · simp only
        rw [List.drop_append_of_le_length hdn, hso, hro]
      · simp only
        rw [hso]
        simp only
        rw [dropE_snoc (by simp only; omega), hd]
        rw [show (s.down : Int) + 1 + ((s.log.drop s.down).length : Int) = (s.log.length : Int) + 1 by rw [List.length_drop]; omega]
    ft := by
      simp only
      rw [fitA_append, ← h.tx]
      exact ⟨h.ft, hf, trivial⟩
    tx := by simp only; rw [appA_append, ← h.tx]; rfl
    fg := by simp only; rw [htk]; exact h.fg
    tg := by simp only; rw [htk]; exact h.tg
    l2 := by simp only; rw [htk]; exact h.l2
    fs := fun i o ho => by
      simp only at ho
      rw [foreign_snoc hc1, List.getElem?_append] at ho
      split at ho
      · exact h.fs i o ho
      · rename_i hlt
        have hi : i = (foreign s.log).length := by
          have := (List.getElem?_eq_some_iff.1 ho).1
          simp at this; omega
        subst hi
        simp at ho
        subst ho
        exact ⟨by rw [hq, h.fc], hc⟩
    fc := by simp only; rw [foreign_snoc hc1, List.length_append, h.fc]; rfl }

theorem Inv.tookFit {e : Edit} (he : s.mine[s.has_]? = some e) : fitsE s.text.length (pastE e.op (opsOf (dropE e.tag s.side)) true).1 = 0 := by
  obtain ⟨V, hr, hd⟩ := h.grid
  have hlt : s.has_ < s.mine.length := (List.getElem?_eq_some_iff.1 he).1
  have hdr : s.mine.drop s.has_ = e :: s.mine.drop (s.has_ + 1) := by
    rw [List.drop_eq_getElem_cons hlt]
    rw [List.getElem?_eq_getElem hlt] at he
    rw [Option.some.inj he]
  have hz := h.zfit hr
  rw [hdr] at hz
  exact hz.1
theorem Inv.took {e : Edit} (he : s.mine[s.has_]? = some e) : Inv (s.took e) := by
  have hft := h.tookFit he
  obtain ⟨V, hr, hd⟩ := h.grid
  have hlt : s.has_ < s.mine.length := (List.getElem?_eq_some_iff.1 he).1
  have hdr : s.mine.drop s.has_ = e :: s.mine.drop (s.has_ + 1) := by
    rw [List.drop_eq_getElem_cons hlt]
    rw [List.getElem?_eq_getElem hlt] at he
    rw [Option.some.inj he]
  rw [hdr] at hr hd
  simp only [srvE] at hr hd
  have hdn := h.dn
  obtain ⟨_, _, hec, _⟩ := h.raw _ _ he
  have hw := pastE_who true (opsOf (dropE e.tag s.side)) e.op
  have hl := past_len e.op (dropE e.tag s.side) true
  have hlog := h.logLen
  unfold St.took
  obtain ⟨R, hR⟩ : ∃ R, pastE e.op (opsOf (dropE e.tag s.side)) true = R := ⟨_, rfl⟩
  rw [hR] at hft hr hd hw hl ⊢
  have hoc : R.1.client = 1 := by rw [hw.1]; exact hec
  have htk : (s.log ++ [R.1]).take s.down = s.log.take s.down := List.take_append_of_le_length hdn
  exact {
    gok := h.gok
    id := h.id
    made := h.made
    hav := h.hav
    base := h.base
    ep := h.ep
    e0 := h.e0
    e1 := h.e1
    held := h.held
    dn := by simp only [List.length_append]; omega
    hs := by simp only; omega
    bd := h.bd
    sq := h.sq
    ll := by simp only [List.length_append, List.length_cons, List.length_nil]; have := h.ll; omega
    sl := by simp only [List.length_append, List.length_cons, List.length_nil]; have := h.sl; omega
    pend := h.pend
    raw := h.raw
    sn := by
      simp only
      rw [setOps_len hl]
      exact Nat.le_trans (dropE_le _ _) h.sn
    sb := fun m hm => by
      simp only at hm
      obtain ⟨i, hi, hix⟩ := List.getElem_of_mem hm
      obtain ⟨y, u, hy, hu, rfl⟩ := setOps_at hl (List.getElem?_eq_some_iff.2 ⟨hi, hix⟩)
      obtain ⟨v, hv⟩ := pastE_at true _ e.op i _ (opsOf_at hy)
      rw [hR, hu] at hv
      cases hv
      have hb := h.sb y (dropE_sub _ _ (List.mem_of_getElem? hy))
      have := shiftE_bnd (B := 4096 + s.has_) (by omega) v true hb
      simp only
      rw [show (4096 : Int) + ((s.has_ + 1 : Nat) : Int) = 4096 + s.has_ + 1 by omega]
      exact this
    grid := by
      refine ⟨V, ?_, ?_⟩
      · simp only
        rw [List.drop_append_of_le_length hdn]
        exact run_own R.1 hoc _ _ _ _ _ hr
      · exact hd
    ft := by
      simp only
      rw [fitA_append, ← h.tx]
      exact ⟨h.ft, hft, trivial⟩
    tx := by simp only; rw [appA_append, ← h.tx]; rfl
    fg := by simp only; rw [htk]; exact h.fg
    tg := by simp only; rw [htk]; exact h.tg
    l2 := by simp only; rw [htk]; exact h.l2
    fs := fun i o ho => by
      simp only at ho
      rw [foreign_snoc_own hoc] at ho
      exact h.fs i o ho
    fc := by simp only; rw [foreign_snoc_own hoc]; exact h.fc }
end
end Go.Proofs.YtjojhfphlnfimaaGreatDoor.J

namespace Go.Proofs.YtjojhfphlnfimaaGreatDoor.J
open Go Go.RowKit
set_option linter.unusedSimpArgs false
set_option linter.unusedVariables false

theorem good_record {e n r : Int} {o : Op} (he : 1 ≤ e ∧ e ≤ 255) (hn : 1 ≤ n ∧ n ≤ 4096) (hr : 1 ≤ r ∧ r ≤ 4096) (hv : validE o = 0) : goodE ⟨5, e, 1, 0, 0, n, 0, r, 0, o⟩ := by
  obtain ⟨z1, z2, z3, z4, z5, z6, z7, z8, z9, z10, z11⟩ := validE_zero hv
  intro f h1 h2
  have : f = 1 ∨ f = 2 ∨ f = 3 ∨ f = 4 ∨ f = 5 ∨ f = 6 ∨ f = 7 ∨ f = 8 ∨ f = 9 ∨ f = 10 ∨ f = 11 ∨ f = 12 ∨ f = 13 := by omega
  rcases this with rfl | rfl | rfl | rfl | rfl | rfl | rfl | rfl | rfl | rfl | rfl | rfl | rfl
  all_goals simp [namedE, holdsE, fromE, toE, Msg.get]
  all_goals first | omega | ((repeat' split) <;> omega) | (constructor <;> (repeat' split) <;> omega)
theorem good_4 {e : Int} (he : 1 ≤ e ∧ e ≤ 255) : goodE ⟨4, e, 1, 0, 0, 0, 0, 0, 0, ⟨0, 0, 0, 0, 0⟩⟩ := by
  intro f h1 h2
  have : f = 1 ∨ f = 2 ∨ f = 3 ∨ f = 4 ∨ f = 5 ∨ f = 6 ∨ f = 7 ∨ f = 8 ∨ f = 9 ∨ f = 10 ∨ f = 11 ∨ f = 12 ∨ f = 13 := by omega
  rcases this with rfl | rfl | rfl | rfl | rfl | rfl | rfl | rfl | rfl | rfl | rfl | rfl | rfl
  all_goals simp [namedE, holdsE, fromE, toE, Msg.get]
  all_goals omega
theorem good_6 {e a : Int} (he : 1 ≤ e ∧ e ≤ 255) (ha : 0 ≤ a ∧ a ≤ 4096) : goodE ⟨6, e, 1, 0, 0, 0, a, 0, 0, ⟨0, 0, 0, 0, 0⟩⟩ := by
  intro f h1 h2
  have : f = 1 ∨ f = 2 ∨ f = 3 ∨ f = 4 ∨ f = 5 ∨ f = 6 ∨ f = 7 ∨ f = 8 ∨ f = 9 ∨ f = 10 ∨ f = 11 ∨ f = 12 ∨ f = 13 := by omega
  rcases this with rfl | rfl | rfl | rfl | rfl | rfl | rfl | rfl | rfl | rfl | rfl | rfl | rfl
  all_goals simp [namedE, holdsE, fromE, toE, Msg.get]
  all_goals omega

theorem foreign_append (l m : List Op) : foreign (l ++ m) = foreign l ++ foreign m := by simp [foreign]

theorem St.dropD {s : St} {o : Op} (ho : s.log[s.down]? = some o) : s.log.drop s.down = o :: s.log.drop (s.down + 1) ∧ s.log.take (s.down + 1) = s.log.take s.down ++ [o] := by
  have hlt : s.down < s.log.length := (List.getElem?_eq_some_iff.1 ho).1
  refine ⟨?_, by rw [List.take_add_one, ho]; rfl⟩
  rw [List.drop_eq_getElem_cons hlt]
  rw [List.getElem?_eq_getElem hlt] at ho
  rw [Option.some.inj ho]
section
variable {s : St} (h : Inv s)
include h
theorem Inv.fitO {o : Op} (ho : s.log[s.down]? = some o) : fitsE (appA [] (s.log.take s.down)).length o = 0 := by
  have := h.fitRest.2
  rw [(St.dropD ho).1] at this
  exact this.1
theorem Inv.foreignO {o : Op} (ho : s.log[s.down]? = some o) (hc : o.client ≠ 1) : o.seq = s.g.last.getD 2 0 + 1 ∧ o.client = 2 := by
  have hd := St.dropD ho
  have hf : foreign s.log = foreign (s.log.take s.down) ++ o :: foreign (s.log.drop (s.down + 1)) := by
    conv => lhs; rw [← List.take_append_drop s.down s.log]
    rw [foreign_append, hd.1]
    simp [foreign, hc]
  have hx : (foreign s.log)[(foreign (s.log.take s.down)).length]? = some o := by
    rw [hf, List.getElem?_append_right (Nat.le_refl _), Nat.sub_self]; rfl
  have := h.fs _ _ hx
  exact ⟨by rw [h.l2]; exact this.1, this.2⟩
theorem Inv.lineLen : (appA [] (s.log.take s.down)).length + (opsOf s.g.forms).length ≤ 4000 := by
  have := h.d0Len
  have := h.formsLen
  have := h.pendLen
  have := h.mn
  have h3 : (opsOf s.g.forms).length = s.g.forms.length := by simp [opsOf]
  omega
theorem Inv.acc {o : Op} (ho : s.log[s.down]? = some o) : acceptsE s.g o = 0 := by
  obtain ⟨V, hr, hd⟩ := h.grid
  rw [(St.dropD ho).1] at hr
  by_cases hc : o.client = 1
  · obtain ⟨F', hF, _⟩ := runE_own hc hr
    cases hf : s.g.forms with
    | nil => rw [hf] at hF; simp [opsOf] at hF
    | cons q r =>
      rw [hf] at hF
      have : q.op = o := by
        have := congrArg List.head? hF
        simpa [opsOf] using this
      exact accE_eq (by rw [hc, h.id]) hf this
  · obtain ⟨hs, hc2⟩ := h.foreignO ho hc
    have ht := (tp_line false (opsOf s.g.forms) _ o h.lineLen (h.fitO ho) h.fg).2.1
    rw [← h.tg] at ht
    exact accE_ok (by rw [h.id]; omega) (by rw [hs, hc2]; rfl) ht
theorem Inv.cum : s.g.cum = (s.down : Int) - s.base := by have := h.gok.hv; have := h.hav; have := h.base; omega
theorem Inv.notRefused {o : Op} (ho : s.log[s.down]? = some o) : refusedE s.g (s.msg o) = 0 := by
  have hc := h.cum
  have := h.gok.ak
  have := h.gok.a0
  unfold refusedE St.msg
  simp only
  rw [if_neg (by omega), if_neg (by rw [h.id]; simp), if_neg (by rw [h.ep]; omega), if_neg (by omega), if_neg (by omega), if_neg (by omega), if_neg (by rw [h.base]; omega), if_neg (by omega), if_pos (by omega)]
  exact h.acc ho
/-- The client with the record held. -/
def St.gHeld (s : St) (o : Op) : Gc := { s.g with ph := .join, held := [(s.g.cum + 1, o)] }
theorem Inv.recvIs {o : Op} (ho : s.log[s.down]? = some o) : recvE s.g (s.msg o) = (s.gHeld o).take1 o ∧ (s.gHeld o).Ok := by
  have hc := h.cum
  have ha := h.acc ho
  have hlt : s.down < s.log.length := (List.getElem?_eq_some_iff.1 ho).1
  have hll := h.logLen
  have hheld := h.held
  have hv := (fitsE_zero (h.fitO ho)).1
  have ha0 := h.gok.a0
  have hnum : (s.down : Int) + 1 - s.base = s.g.cum + 1 := by omega
  have hE : ({ s.g with ph := .join } : Gc).ackE 0 = { s.g with ph := .join } := by unfold Gc.ackE; rw [if_neg (by simp only; omega)]
  have hgh : ({ s.g with ph := .join, held := s.g.held ++ [(s.g.cum + 1, o)] } : Gc) = s.gHeld o := by unfold St.gHeld; rw [hheld]; rfl
  constructor
  · unfold recvE St.msg
    simp only
    rw [if_neg (by omega), if_neg (by omega), hE, hnum]
    unfold Gc.putE
    simp only
    rw [hheld]
    rw [if_neg (by simp [findH]; omega)]
    show (St.gHeld s o).takeIn 1 = _
    unfold Gc.takeIn
    have hf : findH ((s.gHeld o).cum + 1) (s.gHeld o).held = some o := by simp [St.gHeld, findH]
    rw [hf]
    simp only
    have hac : acceptsE (s.gHeld o) o = 0 := by rw [← ha]; rfl
    rw [if_pos hac]
    rfl
  · rw [← hgh]
    exact (h.gok.join .join).held (n := s.g.cum + 1) (by simp [hheld, findH]) (by simp only; omega) (by simp only; rw [h.base]; omega) hv

theorem Inv.downed {o : Op} (ho : s.log[s.down]? = some o) :
    goodE (s.msg o) ∧ refusedE s.g (s.msg o) = 0 ∧ (recvE s.g (s.msg o)).Ok ∧ (recvE s.g (s.msg o)).hav = (s.down : Int) + 1 ∧ (recvE s.g (s.msg o)).made = (s.mine.length : Int) ∧ Inv { s with g := recvE s.g (s.msg o), down := s.down + 1 } := by
  have hc := h.cum
  have hlt : s.down < s.log.length := (List.getElem?_eq_some_iff.1 ho).1
  have hll := h.logLen
  have hbd := h.bd
  have hv := (fitsE_zero (h.fitO ho)).1
  obtain ⟨hre, hgo⟩ := h.recvIs ho
  have hfh : findH ((s.gHeld o).cum + 1) (s.gHeld o).held = some o := by simp [St.gHeld, findH]
  have hac : acceptsE (s.gHeld o) o = 0 := by rw [← h.acc ho]; rfl
  have hok := hgo.take1 hfh hac
  have hav : ((s.gHeld o).take1 o).hav = (s.down : Int) + 1 := by
    unfold Gc.take1; split <;> (simp only [St.gHeld]; rw [h.hav])
  have hmd : ((s.gHeld o).take1 o).made = (s.mine.length : Int) := by
    unfold Gc.take1; split <;> (simp only [St.gHeld]; rw [h.made])
  have hgid : ((s.gHeld o).take1 o).id = 1 ∧ ((s.gHeld o).take1 o).base = (s.base : Int) ∧ ((s.gHeld o).take1 o).epoch = (s.epoch : Int) := by
    unfold Gc.take1; split <;> exact ⟨h.id, h.base, h.ep⟩
  have hhe : ((s.gHeld o).take1 o).held = [] := by
    rw [take1_held]; simp [St.gHeld, delH, idxH]
  refine ⟨good_record (by have := h.e0; have := h.e1; omega) (by omega) (by omega) hv, h.notRefused ho, by rw [hre]; exact hok, by rw [hre]; exact hav, by rw [hre]; exact hmd, ?_⟩
  rw [hre]
  obtain ⟨V, hr, hd⟩ := h.grid
  obtain ⟨hd1, hd2⟩ := St.dropD ho
  rw [hd1] at hr
  have base : ∀ (g' : Gc), g' = (s.gHeld o).take1 o → (g'.pending = s.mine.drop (s.mine.length - g'.pending.length)) →
      (∃ V, runE (opsOf g'.forms) ((s.down : Int) + 1 + 1) (s.log.drop (s.down + 1)) = some ((srvE s.side (s.mine.drop s.has_)).1, V) ∧ dropE ((s.down : Int) + 1) (srvE s.side (s.mine.drop s.has_)).2 = V) →
      fitA (applyE (appA [] (s.log.take s.down)) o) (opsOf g'.forms) → g'.text = appA (applyE (appA [] (s.log.take s.down)) o) (opsOf g'.forms) →
      g'.last.getD 2 0 = ((foreign (s.log.take s.down ++ [o])).length : Int) → Inv { s with g := (s.gHeld o).take1 o, down := s.down + 1 } := by
    intro g' hg' h1 h2 h3 h4 h5
    rw [← hg'] at hok hav hmd hgid hhe ⊢
    exact {
      gok := hok
      id := hgid.1
      made := hmd
      hav := by simp only; rw [hav]; omega
      base := hgid.2.1
      ep := hgid.2.2
      e0 := h.e0
      e1 := h.e1
      held := hhe
      dn := by simp only; omega
      hs := h.hs
      bd := by simp only; omega
      sq := h.sq
      ll := h.ll
      sl := h.sl
      pend := h1
      raw := fun i e he => by
        obtain ⟨a, b⟩ := h.raw i e he
        exact ⟨by simp only; omega, b⟩
      sn := h.sn
      sb := h.sb
      grid := by
        obtain ⟨V, v1, v2⟩ := h2
        refine ⟨V, ?_, ?_⟩
        · simp only
          rw [show ((s.down + 1 : Nat) : Int) = (s.down : Int) + 1 by omega]
          exact v1
        · simp only
          rw [show ((s.down + 1 : Nat) : Int) = (s.down : Int) + 1 by omega]
          exact v2
      ft := h.ft
      tx := h.tx
      fg := by simp only; rw [hd2, appA_append]; exact h3
      tg := by simp only; rw [hd2, appA_append]; exact h4
      l2 := by simp only; rw [hd2]; exact h5
      fs := h.fs
      fc := h.fc }
  have hpl := h.pendLen
  by_cases hcl : o.client = 1
  · obtain ⟨F', hF, hr'⟩ := runE_own hcl hr
    have hmk := run_marks _ _ _ _ _ hr'
    have hfg := h.fg
    have htg := h.tg
    rw [hF] at hfg htg
    obtain ⟨q, r, hfq⟩ : ∃ q r, s.g.forms = q :: r := by
      cases hf : s.g.forms with
      | nil => rw [hf] at hF; simp [opsOf] at hF
      | cons q r => exact ⟨q, r, rfl⟩
    have hqo : q.op = o ∧ opsOf r = F' := by rw [hfq] at hF; simpa [opsOf] using hF
    have hdo := h.gok.dropOwn hfq hqo.1
    have ht1 : (s.gHeld o).take1 o = { s.gHeld o with hav := s.g.hav + 1, cum := s.g.cum + 1, held := delH (s.g.cum + 1) (s.gHeld o).held, pending := s.g.pending.tail, forms := r } := by
      unfold Gc.take1
      rw [if_pos (by show o.client = s.g.id; rw [hcl, h.id])]
      show ({ s.gHeld o with hav := s.g.hav + 1, cum := s.g.cum + 1, held := delH (s.g.cum + 1) (s.gHeld o).held, pending := s.g.pending.tail, forms := dropE o.seq s.g.forms } : Gc) = _
      rw [hdo]
    have hfl := h.formsLen
    rw [hfq] at hfl
    simp only [List.length_cons] at hfl
    refine base _ rfl ?_ ?_ ?_ ?_ ?_
    · rw [ht1]
      simp only [List.length_tail]
      rw [h.pend, List.tail_drop]
      rw [List.length_drop]
      congr 1; omega
    · refine ⟨V, ?_, ?_⟩
      · rw [ht1]; simp only; rw [hqo.2]; exact hr'
      · rw [← dropE_drop (k := (s.down : Int)) (k' := (s.down : Int) + 1) (by omega), hd]
        exact dropE_all (fun m hm => by have := hmk m hm; omega)
    · rw [ht1]; simp only; rw [hqo.2]; exact hfg.2
    · rw [ht1]; simp only [St.gHeld]; rw [hqo.2]; exact htg
    · rw [ht1]; simp only [St.gHeld]; rw [foreign_snoc_own hcl]; exact h.l2
  · obtain ⟨V', rfl, hr'⟩ := runE_other hcl hr
    have hmk := run_marks _ _ _ _ _ hr'
    obtain ⟨hsq, hc2⟩ := h.foreignO ho hcl
    obtain ⟨t1, t2, t3⟩ := tp_line false (opsOf s.g.forms) _ o h.lineLen (h.fitO ho) h.fg
    have hlen := past_len o s.g.forms false
    have ht1 : (s.gHeld o).take1 o = { s.gHeld o with hav := s.g.hav + 1, cum := s.g.cum + 1, held := delH (s.g.cum + 1) (s.gHeld o).held, last := s.g.last.set 2 o.seq, forms := setOps s.g.forms (pastE o (opsOf s.g.forms) false).2, text := applyE s.g.text (pastE o (opsOf s.g.forms) false).1 } := by
      unfold Gc.take1
      rw [if_neg (by show ¬ o.client = s.g.id; rw [h.id]; exact hcl), hc2]
      rfl
    have hops : opsOf (setOps s.g.forms (pastE o (opsOf s.g.forms) false).2) = (pastE o (opsOf s.g.forms) false).2 := by
      unfold opsOf setOps
      apply List.ext_getElem?
      intro i
      rw [List.getElem?_map, List.getElem?_zipWith]
      by_cases hi : i < s.g.forms.length
      · have e1 := List.getElem?_eq_getElem hi
        have hi2 : i < (pastE o (opsOf s.g.forms) false).2.length := by omega
        have e2 := List.getElem?_eq_getElem hi2
        unfold opsOf at e2
        rw [e1, e2]; rfl
      · have e1 : s.g.forms[i]? = none := List.getElem?_eq_none (by omega)
        have e2 : (pastE o (opsOf s.g.forms) false).2[i]? = none := List.getElem?_eq_none (by omega)
        unfold opsOf at e2
        rw [e1, e2]; rfl
    refine base _ rfl ?_ ?_ ?_ ?_ ?_
    · rw [ht1]; exact h.pend
    · refine ⟨V', ?_, ?_⟩
      · rw [ht1]; simp only; rw [hops]; exact hr'
      · rw [← dropE_drop (k := (s.down : Int)) (by omega), hd]
        unfold dropE
        rw [List.dropWhile_cons, if_pos (by simp)]
        exact dropE_all (k := (s.down : Int) + 1) (fun m hm => by have := hmk m hm; omega)
    · rw [ht1]; simp only; rw [hops]; exact t1
    · rw [ht1]; simp only; rw [hops, t3, h.tg]
    · rw [ht1]
      simp only
      rw [foreign_snoc hcl, List.length_append, List.getD_eq_getElem?_getD, List.getElem?_set_self (by have := h.gok.ll; omega)]
      simp only [Option.getD_some, List.length_cons, List.length_nil]
      rw [hsq, h.l2]; omega
end
end Go.Proofs.YtjojhfphlnfimaaGreatDoor.J
