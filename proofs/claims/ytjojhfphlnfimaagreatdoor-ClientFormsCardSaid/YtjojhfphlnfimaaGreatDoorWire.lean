/- The sum by a table of half bytes and the remainder of the long division, bit by bit, are one: plain. octet.Sum: the sum by the table of half bytes. octet.with: bytes with more behind them, in new memory; octet.Seal. jotterref01: copied, bits, Sum, Seal. jotterref01.Sum and Seal. Messages: their fields, what may stand in them, their bytes: plain; and jotterref06's small functions. jotterref06: what may stand in a message, its bytes, its datagram. jotterref06: a message's bytes, and its datagram. jotterref06.Encode: of a message that can be written: its datagram. octet.Open of sealed bytes; wire.body; the reader. -/
import Derived.Test.YtjojhfphlnfimaaGreatDoorDoc
import Derived.Test.YtjojhfphlnfimaaGreatDoorProg
import Derived.Test.YtjojhfphlnfimaaGreatDoorSet
import Derived.Laws.CopyOwn
import Derived.ProofKit
import Derived.Test.YtjojhfphlnfimaaGreatDoorOt
import Derived.OwnWalk
import Derived.Deep.QuietTactic
import Derived.BigQuiet
namespace Go.Proofs.YtjojhfphlnfimaaGreatDoor.J
open Go Go.RowKit
set_option linter.unusedSimpArgs false
set_option linter.unusedVariables false

/-- One step of the register, its bits as a function. -/
def Lb (x : Nat → Bool) : Nat → Bool := fun k => (x (k + 1)) ^^ (x 0 && Nat.testBit 3988292384 k)
def Lbn : Nat → (Nat → Bool) → Nat → Bool
  | 0, x => x
  | n + 1, x => Lbn n (Lb x)
theorem Lb_xor (x y : Nat → Bool) : Lb (fun k => x k ^^ y k) = fun k => Lb x k ^^ Lb y k := by
  funext k
  simp only [Lb]
  cases x (k + 1) <;> cases y (k + 1) <;> cases x 0 <;> cases y 0 <;> cases Nat.testBit 3988292384 k <;> rfl
theorem Lbn_xor (n : Nat) : ∀ x y : Nat → Bool, Lbn n (fun k => x k ^^ y k) = fun k => Lbn n x k ^^ Lbn n y k := by
  induction n with
  | zero => intro x y; rfl
  | succ n ih => intro x y; simp only [Lbn, Lb_xor]; exact ih _ _
theorem Lbn_add (n m : Nat) : ∀ x, Lbn (n + m) x = Lbn m (Lbn n x) := by
  induction n with
  | zero => intro x; simp [Lbn]
  | succ n ih => intro x; rw [show n + 1 + m = (n + m) + 1 by omega]; simp only [Lbn]; exact ih _
theorem Lbn_hi (n : Nat) : ∀ x : Nat → Bool, (∀ k, k < n → x k = false) → Lbn n x = fun k => x (k + n) := by
  induction n with
  | zero => intro x _; rfl
  | succ n ih =>
    intro x hx
    have h0 : Lb x = fun k => x (k + 1) := by funext k; simp [Lb, hx 0 (by omega)]
    simp only [Lbn, h0]
    rw [ih _ (fun k hk => hx (k + 1) (by omega))]
    funext k; exact congrArg x (by omega)

def tbl : List Nat := [0, 498536548, 997073096, 651767980, 1994146192, 1802195444, 1303535960, 1342533948, 3988292384, 4027552580, 3604390888, 3412177804, 2607071920, 2262029012, 2685067896, 3183342108]
def tb (i : Nat) : Nat := tbl.getD i 0
theorem low_bit (k : Nat) (h : 32 ≤ k) : Nat.testBit 3988292384 k = false :=
  Nat.testBit_lt_two_pow (Nat.lt_of_lt_of_le (by decide : 3988292384 < 2 ^ 32) (Nat.pow_le_pow_right (by omega) h))
theorem low_tb (i k : Nat) (hi : i < 16) (h : 32 ≤ k) : Nat.testBit (tb i) k = false :=
  Nat.testBit_lt_two_pow (Nat.lt_of_lt_of_le ((by decide +kernel : ∀ i, i < 16 → tb i < 2 ^ 32) i hi) (Nat.pow_le_pow_right (by omega) h))
theorem nib_low : ∀ i, i < 16 → ∀ k, k < 32 → Lbn 4 (Nat.testBit i) k = Nat.testBit (tb i) k := by decide +kernel
theorem nib_all (i : Nat) (hi : i < 16) : Lbn 4 (Nat.testBit i) = Nat.testBit (tb i) := by
  funext k
  rcases Nat.lt_or_ge k 32 with h | h
  · exact nib_low i hi k h
  · rw [low_tb i k hi h]
    have e : ∀ j, 4 ≤ j → Nat.testBit i j = false := fun j hj => Nat.testBit_lt_two_pow (Nat.lt_of_lt_of_le (by omega : i < 2 ^ 4) (Nat.pow_le_pow_right (by omega) hj))
    simp [Lbn, Lb, low_bit _ h, low_bit (k + 1) (by omega), low_bit (k + 1 + 1) (by omega), low_bit (k + 1 + 1 + 1) (by omega), e (k + 1 + 1 + 1 + 1) (by omega), e (k + 4) (by omega), low_bit (k + 2) (by omega), low_bit (k + 3) (by omega)]

/-- A step by the table: half a byte. -/
def nib (r : Nat) : Nat := (r >>> 4) ^^^ tb (r % 16)
theorem nib_bits (r : Nat) : Nat.testBit (nib r) = Lbn 4 (Nat.testBit r) := by
  have e : Nat.testBit r = fun k => Nat.testBit (r % 16) k ^^ (decide (4 ≤ k) && Nat.testBit r k) := by
    funext k
    rw [show (16 : Nat) = 2 ^ 4 from rfl, Nat.testBit_mod_two_pow]
    rcases Nat.lt_or_ge k 4 with h | h
    · simp [h, Nat.not_le.2 h]
    · simp [Nat.not_lt.2 h, h]
  have e2 : Lbn 4 (Nat.testBit r) = fun k => Lbn 4 (Nat.testBit (r % 16)) k ^^ Nat.testBit r (k + 4) := by
    conv => lhs; rw [e]
    rw [Lbn_xor, Lbn_hi 4 (fun k => decide (4 ≤ k) && Nat.testBit r k) (fun k hk => by simp; omega)]
    funext k
    simp
  rw [e2, nib_all _ (Nat.mod_lt _ (by omega))]
  funext k
  rw [nib, Nat.testBit_xor, Nat.testBit_shiftRight, Bool.xor_comm, Nat.add_comm]

/-- The register behind one byte. -/
def crc1 (r c : Nat) : Nat := nib (nib (r ^^^ c))
theorem crc1_bits (r c : Nat) : Nat.testBit (crc1 r c) = Lbn 8 (Nat.testBit (r ^^^ c)) := by
  rw [crc1, nib_bits, nib_bits, ← Lbn_add 4 4]
theorem nib_lt (r : Nat) (h : r < 2 ^ 32) : nib r < 2 ^ 32 :=
  Nat.xor_lt_two_pow (Nat.lt_of_le_of_lt (Nat.shiftRight_le _ _) h) ((by decide +kernel : ∀ i, i < 16 → tb i < 2 ^ 32) _ (Nat.mod_lt _ (by omega)))
theorem crc1_lt (r c : Nat) (h : r < 2 ^ 32) (hc : c < 256) : crc1 r c < 2 ^ 32 := nib_lt _ (nib_lt _ (Nat.xor_lt_two_pow h (by omega)))
def crcR (r : Nat) (l : List Nat) : Nat := l.foldl crc1 r
theorem crcR_lt (l : List Nat) : ∀ r, r < 2 ^ 32 → (∀ c ∈ l, c < 256) → crcR r l < 2 ^ 32 := by
  induction l with
  | nil => intro r h _; exact h
  | cons c l ih => intro r h hc; exact ih _ (crc1_lt _ _ h (hc c (by simp))) (fun x hx => hc x (by simp [hx]))

/-- The bits of bytes, the lowest of each first. -/
def bitsOf (l : List Nat) (p : Nat) : Bool := Nat.testBit (l.getD (p / 8) 0) (p % 8)
theorem crc_bits (l : List Nat) : ∀ r : Nat, (∀ c ∈ l, c < 256) → Lbn (8 * l.length) (fun k => Nat.testBit r k ^^ bitsOf l k) = Nat.testBit (crcR r l) := by
  induction l with
  | nil =>
    intro r _
    have : (fun k => Nat.testBit r k ^^ bitsOf [] k) = Nat.testBit r := by funext k; simp [bitsOf]
    simp only [List.length_nil, Nat.mul_zero, Lbn, crcR, List.foldl_nil, this]
  | cons c l ih =>
    intro r hc
    have hc1 : c < 256 := hc c (by simp)
    rw [List.length_cons, show 8 * (l.length + 1) = 8 + 8 * l.length by omega, Lbn_add]
    have e : (fun k => Nat.testBit r k ^^ bitsOf (c :: l) k) = fun k => Nat.testBit (r ^^^ c) k ^^ (decide (8 ≤ k) && bitsOf (c :: l) k) := by
      funext k
      rw [Nat.testBit_xor]
      rcases Nat.lt_or_ge k 8 with h | h
      · have : bitsOf (c :: l) k = Nat.testBit c k := by
          simp [bitsOf, Nat.div_eq_of_lt h, Nat.mod_eq_of_lt h]
        rw [this]; simp [Nat.not_le.2 h]
      · have : Nat.testBit c k = false := Nat.testBit_lt_two_pow (Nat.lt_of_lt_of_le (by omega : c < 2 ^ 8) (Nat.pow_le_pow_right (by omega) h))
        rw [this]; simp [h]
    rw [e, Lbn_xor, Lbn_hi 8 (fun k => decide (8 ≤ k) && bitsOf (c :: l) k) (fun k hk => by simp; omega), ← crc1_bits]
    have e3 : (fun k => Nat.testBit (crc1 r c) k ^^ (decide (8 ≤ k + 8) && bitsOf (c :: l) (k + 8))) = fun k => Nat.testBit (crc1 r c) k ^^ bitsOf l k := by
      funext k
      have e1 : (k + 8) / 8 = k / 8 + 1 := by omega
      have e2 : (k + 8) % 8 = k % 8 := by omega
      simp [bitsOf, e1, e2]
    rw [e3, ih _ (fun x hx => hc x (by simp [hx]))]
    rfl
/-- The sum. -/
def crcE (l : List Nat) : Nat := 4294967295 ^^^ crcR 4294967295 l

/-- The long division: behind i steps; the polynomial's coefficients from the highest on. -/
def polyP (k : Nat) : Bool := if k = 0 then true else Nat.testBit 3988292384 (k - 1)
def divStep (i : Nat) (m : Nat → Bool) (p : Nat) : Bool := if i ≤ p then m p ^^ (m i && polyP (p - i)) else m p
def divN : Nat → (Nat → Bool) → Nat → Bool
  | 0, m => m
  | i + 1, m => divStep i (divN i m)
theorem divN_bits (m : Nat → Bool) (n : Nat) : (fun k => divN n m (n + k)) = Lbn n m := by
  induction n with
  | zero => funext k; simp [divN, Lbn]
  | succ n ih =>
    rw [Lbn_add n 1, ← ih]
    funext k
    simp only [Lbn, Lb, divN, divStep, polyP]
    rw [if_pos (by omega : n ≤ n + 1 + k), if_neg (by omega : ¬ n + 1 + k - n = 0)]
    rw [show n + 1 + k - n - 1 = k by omega, show n + (k + 1) = n + 1 + k by omega]
    simp only [Nat.add_zero]
/-- The message: its bits, the first 32 turned round. -/
def msgB (l : List Nat) (p : Nat) : Bool := decide (p < 32) ^^ bitsOf l p
theorem ones_bit (k : Nat) : Nat.testBit 4294967295 k = decide (k < 32) := by
  rw [show (4294967295 : Nat) = 2 ^ 32 - 1 from rfl, Nat.testBit_two_pow_sub_one]
/-- The remainder, turned round, is the sum. -/
theorem div_crc (l : List Nat) (hc : ∀ c ∈ l, c < 256) (k : Nat) (hk : k < 32) : Nat.testBit (crcE l) k = !divN (8 * l.length) (msgB l) (8 * l.length + k) := by
  have h1 := congrFun (divN_bits (msgB l) (8 * l.length)) k
  have e : msgB l = fun k => Nat.testBit 4294967295 k ^^ bitsOf l k := by funext k; rw [ones_bit]; rfl
  rw [e, crc_bits l _ hc, ← e] at h1
  rw [crcE, Nat.testBit_xor, ones_bit]
  rw [show divN (8 * l.length) (msgB l) (8 * l.length + k) = Nat.testBit (crcR 4294967295 l) k from h1]
  simp [hk]
theorem crcE_lt (l : List Nat) (hc : ∀ c ∈ l, c < 256) : crcE l < 2 ^ 32 := Nat.xor_lt_two_pow (by decide) (crcR_lt l _ (by decide) hc)
end Go.Proofs.YtjojhfphlnfimaaGreatDoor.J

namespace Go.Proofs.YtjojhfphlnfimaaGreatDoor.J
open Go Go.RowKit
set_option linter.unusedSimpArgs false
set_option linter.unusedVariables false

def kB : K Nat := ⟨1, fun n => [.int .u8 n], fun _ => rfl, fun a v h => by simp at h; subst h; rfl, by decide⟩
def bytesOk (l : List Nat) : Prop := ∀ c ∈ l, c < 256
/-- The table of sums stands in its variable. -/
def OcT (w : World) : Prop := ∀ i, i < 16 → w.cell? ⟨3, i, none⟩ = some (.int .u32 (tb i))
theorem OcT.mod {S : Nat → Prop} {w w' : World} (h : OcT w) (hm : Mod S w w') (hs : ¬ S 3) : OcT w' := fun i hi => hm.cell (h i hi) hs

theorem Rd.byte {w : World} {A : Option Addr} {n c : Nat} {l : List Nat} (h : Rd kB w A n c l) {i : Nat} (hi : i < n) : ∃ b o, ∃ x : Nat, l[i]? = some x ∧ A = some ⟨b, o, none⟩ ∧ w.cell? ⟨b, o + i, none⟩ = some (.int .u8 x) := by
  have hx := List.getElem?_eq_getElem (l := l) (i := i) (by rw [← h.1]; exact hi)
  obtain ⟨b, o, ha, hc⟩ := h.at hx
  exact ⟨b, o, _, hx, ha, by simpa [kB] using hc 0 _ rfl⟩

theorem wrap_u32 (n : Int) : IntKind.u32.wrap n = n % 4294967296 := by simp [IntKind.wrap, IntKind.bits, IntKind.signed]
theorem wrap_u8 (n : Int) : IntKind.u8.wrap n = n % 256 := by simp [IntKind.wrap, IntKind.bits, IntKind.signed]
theorem xor_u32 (a b : Nat) (ha : a < 4294967296) (hb : b < 4294967296) : bits .xor .u32 (a : Int) (b : Int) = ((a ^^^ b : Nat) : Int) := by
  have hx : a ^^^ b < 2 ^ 32 := Nat.xor_lt_two_pow (by omega) (by omega)
  have h1 : (BitVec.ofInt 32 (a : Int)).toNat = a := by rw [BitVec.ofInt_natCast, BitVec.toNat_ofNat]; exact Nat.mod_eq_of_lt (by omega)
  have h2 : (BitVec.ofInt 32 (b : Int)).toNat = b := by rw [BitVec.ofInt_natCast, BitVec.toNat_ofNat]; exact Nat.mod_eq_of_lt (by omega)
  show IntKind.u32.wrap ((BitVec.ofInt 32 (a : Int) ^^^ BitVec.ofInt 32 (b : Int)).toNat : Int) = _
  rw [BitVec.toNat_xor, h1, h2, wrap_u32]
  omega
theorem and15_u32 (a : Nat) (ha : a < 4294967296) : bits .and .u32 (a : Int) 15 = ((a % 16 : Nat) : Int) := by
  have h1 : (BitVec.ofInt 32 (a : Int)).toNat = a := by rw [BitVec.ofInt_natCast, BitVec.toNat_ofNat]; exact Nat.mod_eq_of_lt (by omega)
  have h2 : (BitVec.ofInt 32 15).toNat = 15 := by decide
  have h3 : a &&& 15 = a % 16 := Nat.and_two_pow_sub_one_eq_mod a 4
  show IntKind.u32.wrap ((BitVec.ofInt 32 (a : Int) &&& BitVec.ofInt 32 15).toNat : Int) = _
  rw [BitVec.toNat_and, h1, h2, wrap_u32, h3]
  omega
theorem tb_lt (i : Nat) (hi : i < 16) : tb i < 4294967296 := (by decide +kernel : ∀ i, i < 16 → tb i < 2 ^ 32) i hi
theorem take_fold (r : Nat) (l : List Nat) (k x : Nat) (h : l[k]? = some x) : crcR r (l.take (k + 1)) = crc1 (crcR r (l.take k)) x := by
  rw [List.take_add_one, h]; simp [crcR]

set_option maxRecDepth 100000 in
set_option maxHeartbeats 1000000 in
theorem osum_any (A : Option Addr) (n c : Nat) (l : List Nat) (w : World) (hr : Rd kB w A n c l) (hb : bytesOk l) (hT : OcT w) :
    Calls Tryz.prog 96 #[.slice A n c] w fun e w' => e = .returned (.int .u32 (crcE l)) ∧ w' = w := by
  have hl := hr.1
  have HL := Lib.hid hl
  have hmx := hr.max
  unfold maxLen at hmx
  clear hl
  go_enter Tryz.func96, Tryz.ntmps96
  go_wp2
  go_loopw [3, 8] (fun s3 s8 wr => ∃ k : Nat, k ≤ n ∧ s8 = .int .i64 k ∧ s3 = .int .u32 (crcR 4294967295 (l.take k)) ∧ wr = w) (fun _ s8 _ => n - (intOf s8).toNat)
  case atStart => exact ⟨0, Nat.zero_le _, rfl, rfl, rfl⟩
  case round =>
    obtain ⟨k, hk, rfl, rfl, rfl⟩ := hrel
    by_cases hlt : k < n
    · obtain ⟨b0, o0, x, hx, rfl, x1⟩ := hr.byte hlt
      have HX := Lib.hid hx
      have h0 : (0 : Int) ≤ (k : Int) := by omega
      have hxb : x < 256 := hb x (List.mem_of_getElem? hx)
      clear hx
      obtain ⟨r, hre⟩ : ∃ r, crcR 4294967295 (l.take k) = r := ⟨_, rfl⟩
      rw [hre]
      have HR := Lib.hid hre
      clear hre
      have hr32 : r < 4294967296 := by rw [← HR.out]; exact crcR_lt _ _ (by decide) (fun c hc => hb c (List.mem_of_mem_take hc))
      have e1 := xor_u32 r x hr32 (by omega)
      have q32 : r ^^^ x < 4294967296 := Nat.xor_lt_two_pow (n := 32) hr32 (by omega)
      obtain ⟨q, hq⟩ : ∃ q, r ^^^ x = q := ⟨_, rfl⟩
      rw [hq] at e1 q32
      have HQ := Lib.hid hq
      clear hq
      have e2 := and15_u32 q q32
      have j1 : q % 16 < 16 := Nat.mod_lt _ (by omega)
      have t1 := hT _ j1
      have t1b := tb_lt _ j1
      have e3 := xor_u32 (q / 16) (tb (q % 16)) (by omega) t1b
      have q2e : q / 16 ^^^ tb (q % 16) = nib q := by rw [nib, Nat.shiftRight_eq_div_pow]
      have n32 : nib q < 4294967296 := nib_lt q q32
      rw [q2e] at e3
      clear q2e
      obtain ⟨m, hm⟩ : ∃ m, nib q = m := ⟨_, rfl⟩
      rw [hm] at e3 n32
      have HM := Lib.hid hm
      clear hm
      have f2 := and15_u32 m n32
      have j2 : m % 16 < 16 := Nat.mod_lt _ (by omega)
      have t2 := hT _ j2
      have t2b := tb_lt _ j2
      have f3 := xor_u32 (m / 16) (tb (m % 16)) (by omega) t2b
      have m2e : m / 16 ^^^ tb (m % 16) = nib m := by rw [nib, Nat.shiftRight_eq_div_pow]
      rw [m2e] at f3
      clear m2e
      obtain ⟨ta, hta⟩ : ∃ t, tb (q % 16) = t := ⟨_, rfl⟩
      rw [hta] at t1 e3
      clear hta t1b
      obtain ⟨tc, htc⟩ : ∃ t, tb (m % 16) = t := ⟨_, rfl⟩
      rw [htc] at t2 f3
      clear htc t2b
      obtain ⟨j, hj⟩ : ∃ j, q % 16 = j := ⟨_, rfl⟩
      rw [hj] at e2 t1 j1
      clear hj
      obtain ⟨j', hj'⟩ : ∃ j, m % 16 = j := ⟨_, rfl⟩
      rw [hj'] at f2 t2 j2
      clear hj'
      have d1 : ((q : Nat) : Int) / 16 = ((q / 16 : Nat) : Int) := by omega
      have d2 : ((m : Nat) : Int) / 16 = ((m / 16 : Nat) : Int) := by omega
      rw [← d1] at e3
      rw [← d2] at f3
      clear d1 d2 hT hb
      go_wp2
      go_roundw
      case rel => exact ⟨k + 1, by omega, by go_num, by rw [take_fold _ _ _ _ HX.out, HR.out, crc1, HQ.out, HM.out], trivial⟩
      case measure => simp [intOf]; omega
    · have hkn : k = n := by omega
      subst hkn
      have hr32 : crcR 4294967295 l < 4294967296 := crcR_lt _ _ (by decide) hb
      rw [List.take_of_length_le (Nat.le_of_eq HL.out.symm)]
      have e1 := xor_u32 4294967295 _ (by decide) hr32
      have hE : crcE l = 4294967295 ^^^ crcR 4294967295 l := rfl
      rw [← hE] at e1
      have em : IntKind.u32.max = ((4294967295 : Nat) : Int) := by decide
      rw [← em] at e1
      clear hE em
      go_wp2
      go_ret
      exact ⟨rfl, rfl⟩
end Go.Proofs.YtjojhfphlnfimaaGreatDoor.J

namespace Go.Proofs.YtjojhfphlnfimaaGreatDoor.J
open Go Go.RowKit
set_option linter.unusedSimpArgs false
set_option linter.unusedVariables false

theorem Tryz.infoB : (Tryz.prog.info? 5).map (fun i => (i.zero, i.size, i.bytes)) = some (some (.int .u8 0), 1, 1) := by kernel_rfl
theorem Tryz.sizeB : (Tryz.prog.info? 5).map (·.size) = some 1 := by kernel_rfl

theorem kB_all_get {l : List Nat} {j : Nat} {v : Value} (h : (kB.all l)[j]? = some v) : ∃ x, l[j]? = some x ∧ v = .int .u8 x := by
  have hl : (kB.all l).length = l.length := by rw [K.all_length]; simp [kB]
  have hj : j < l.length := by rw [← hl]; exact (List.getElem?_eq_some_iff.1 h).1
  refine ⟨l[j], List.getElem?_eq_getElem hj, ?_⟩
  have := K.all_get kB l j 0 _ (List.getElem?_eq_getElem hj) (by decide)
  simp only [kB, Nat.mul_one, Nat.add_zero] at this
  have h' : (kB.all l)[j]? = some (.int .u8 l[j]) := by simpa [kB] using this
  rw [h'] at h
  exact (Option.some.inj h).symm
theorem kB_all_len (l : List Nat) : (kB.all l).length = l.length := by rw [K.all_length]; simp [kB]
theorem Rd.srcB {w : World} {A : Option Addr} {n c : Nat} {l : List Nat} (h : Rd kB w A n c l) (hn : 0 < n) : ∃ ad, A = some ad ∧ ∀ j v, (kB.all l)[j]? = some v → w.cell? (ad.add j) = some v := by
  obtain ⟨b, o, x, _, ha, _⟩ := h.byte hn
  refine ⟨⟨b, o, none⟩, ha, fun j v hv => ?_⟩
  obtain ⟨y, hy, rfl⟩ := kB_all_get hv
  have hj : j < n := by rw [h.1]; exact (List.getElem?_eq_some_iff.1 hy).1
  obtain ⟨b', o', y', hy', ha', hc⟩ := h.byte hj
  rw [ha] at ha'
  simp only [Option.some.injEq, Addr.mk.injEq, and_true] at ha'
  obtain ⟨rfl, rfl⟩ := ha'
  rw [hy] at hy'
  cases hy'
  rw [add_off]; exact hc
theorem splice_two {α : Type} (C X1 X2 : List α) (n m : Nat) (h1 : X1.length = n) (h2 : X2.length = m) (hc : n + m ≤ C.length) : (splice (splice C 0 X1) n X2).take (n + m) = X1 ++ X2 := by
  subst h1
  have e1 : splice C 0 X1 = X1 ++ C.drop X1.length := by simp [splice]
  rw [e1]
  unfold splice
  rw [List.take_left' rfl, ← List.append_assoc]
  exact List.take_left' (by simp [h2])
theorem mod_of_below {w w' : World} (h : Below w.heap.size w w') : Mod No w w' := Mod.ofBelow h
theorem Own.blockB {T : TypeId} {w : World} {b n c : Nat} {l : List Nat} {S : Nat → Prop} (h : Own kB T w (some ⟨b, 0, none⟩) n c l S) : ∃ C : List Value, w.heap[b]? = some (.cells C.toArray T (0, 0)) ∧ c ≤ C.length ∧ C.take n = kB.all l := by
  rcases h.2 with ⟨h1, _⟩ | ⟨g, off, cur, h1, h2, h3, h4, h5, h6, h7⟩
  · cases h1
  · simp only [Option.some.injEq, Addr.mk.injEq, and_true, kB, Nat.mul_one] at h1
    obtain ⟨rfl, rfl⟩ := h1
    refine ⟨cur.toList, by simpa using h3, by simpa [kB] using h6, by simpa [kB] using h7⟩
theorem Own.ofB {T : TypeId} {w : World} {b n c : Nat} {l : List Nat} {S : Nat → Prop} {C : List Value} (hb : w.heap[b]? = some (.cells C.toArray T (0, 0))) (hS : S b) (hn : n = l.length) (hc : n ≤ c) (hm : c ≤ maxLen) (hC : c ≤ C.length) (ht : C.take n = kB.all l) : Own kB T w (some ⟨b, 0, none⟩) n c l S :=
  ⟨hn, .inr ⟨b, 0, C.toArray, by simp, hS, hb, hc, hm, by simpa [kB] using hC, by simpa [kB] using ht⟩⟩

set_option maxRecDepth 100000 in
set_option maxHeartbeats 1000000 in
theorem with_more (A : Option Addr) (n c : Nat) (l : List Nat) (B : Option Addr) (m d : Nat) (l2 : List Nat) (w : World) (hr : Rd kB w A n c l) (hr2 : Rd kB w B m d l2) (hn : n ≤ 1000000) (hm0 : ¬ m = 0) (hm : m ≤ 1000000) :
    Calls Tryz.prog 97 #[.slice A n c, .slice B m d] w fun e w' => e = .returned (.slice (some ⟨w.heap.size, 0, none⟩) (n + m) (n + m)) ∧ Mod No w w' ∧ Own kB 5 w' (some ⟨w.heap.size, 0, none⟩) (n + m) (n + m) (l ++ l2) (fun b => b = w.heap.size) := by
  obtain ⟨i, hi1, hi2, hi3, hi4⟩ := info_parts Tryz.infoB
  obtain ⟨X1, hX1⟩ : ∃ X, X = kB.all l := ⟨_, rfl⟩
  obtain ⟨X2, hX2⟩ : ∃ X, X = kB.all l2 := ⟨_, rfl⟩
  have l1 : X1.length = n := by rw [hX1, kB_all_len, hr.1]
  have l2' : X2.length = m := by rw [hX2, kB_all_len, hr2.1]
  have s1 : 0 < X1.length → ∃ ad, A = some ad ∧ ∀ j v, X1[j]? = some v → w.cell? (ad.add j) = some v := fun h => by rw [hX1]; exact hr.srcB (by omega)
  have s2 : 0 < X2.length → ∃ ad, B = some ad ∧ ∀ j v, X2[j]? = some v → w.cell? (ad.add j) = some v := fun h => by rw [hX2]; exact hr2.srcB (by omega)
  have o1 : ∀ v ∈ X1, v.oneCell' = true := by rw [hX1]; exact K.all_one _ _
  have o2 : ∀ v ∈ X2, v.oneCell' = true := by rw [hX2]; exact K.all_one _ _
  have HX1 := Lib.hid hX1
  have HX2 := Lib.hid hX2
  have HR1 := Lib.hid hr.1
  have HR2 := Lib.hid hr2.1
  clear hX1 hX2 hr hr2
  have hnn : (0 : Int) ≤ (n : Int) := by omega
  have hmm : (0 : Int) ≤ (m : Int) := by omega
  go_enter Tryz.func97, Tryz.ntmps97
  go_wp2_with (first
    | (refine wpList_make_j (k := kB) rfl _ _ _ rfl i _ 0 Tryz.underlying75 hi1 hi2 hi3 rfl .i64 .i64 _ _ (n + m) (n + m) rfl rfl (by push_cast; rfl) (by push_cast; rfl) (Nat.le_refl _) (by rw [hi4]; omega) (by unfold maxLen; omega) ?_; intro w2 hown hM2 hs2; obtain ⟨C, hC, hCl, _⟩ := hown.blockB; have hs2' := Nat.le_of_eq hs2.symm; clear hown hs2)
    | (refine wpList_copy_splice rfl _ _ _ _ rfl 5 Tryz.underlying75 Tryz.sizeB _ _ _ _ _ _ rfl rfl w.heap.size 0 C _ hC X1 (by rw [l1]; exact (Nat.min_eq_left (by omega)).symm) (fun h => ⟨rfl, by obtain ⟨ad, e, g⟩ := s1 h; exact ⟨ad, e, fun j v hv => hM2.cell (g j v hv) (fun hf => hf)⟩⟩) (by omega) o1 w.heap.size w hM2.below (Nat.le_refl _) ?_; intro w3 hG3 hb3; rw [l1]; simp only [goInt])
    | (refine wpList_copy_splice rfl _ _ _ _ rfl 5 Tryz.underlying75 Tryz.sizeB _ _ _ _ _ _ rfl rfl w.heap.size n (splice C 0 X1) _ hG3.out X2 (by rw [l2']; exact (Nat.min_eq_left (by omega)).symm) (fun h => ⟨by first | rfl | (rw [if_neg (by omega)]) | (exfalso; omega), by obtain ⟨ad, e, g⟩ := s2 h; exact ⟨ad, e, fun j v hv => (mod_of_below hb3).cell (g j v hv) (fun hf => hf)⟩⟩) (by rw [length_splice _ _ _ (by omega)]; omega) o2 w.heap.size w hb3 (Nat.le_refl _) ?_; intro w4 hG4 hb4; rw [l2']; simp only [goInt]))
  go_ret
  refine ⟨rfl, mod_of_below hb4, Own.ofB hG4.out rfl (by rw [List.length_append, HR1.out, HR2.out]) (Nat.le_refl _) (by unfold maxLen; omega) ?_ ?_⟩
  · rw [length_splice _ _ _ (by rw [length_splice _ _ _ (by omega)]; omega), length_splice _ _ _ (by omega)]; exact hCl
  · rw [splice_two C X1 X2 n m l1 l2' hCl, HX1.out, HX2.out, K.all_append]

set_option maxRecDepth 100000 in
set_option maxHeartbeats 1000000 in
theorem with_nil (A : Option Addr) (n c : Nat) (l : List Nat) (w : World) (hr : Rd kB w A n c l) (hn : n ≤ 1000000) :
    Calls Tryz.prog 97 #[.slice A n c, .slice none 0 0] w fun e w' => e = .returned (.slice (some ⟨w.heap.size, 0, none⟩) (n) (n)) ∧ Mod No w w' ∧ Own kB 5 w' (some ⟨w.heap.size, 0, none⟩) (n) (n) l (fun b => b = w.heap.size) := by
  obtain ⟨i, hi1, hi2, hi3, hi4⟩ := info_parts Tryz.infoB
  obtain ⟨X1, hX1⟩ : ∃ X, X = kB.all l := ⟨_, rfl⟩
  have l1 : X1.length = n := by rw [hX1, kB_all_len, hr.1]
  have s1 : 0 < X1.length → ∃ ad, A = some ad ∧ ∀ j v, X1[j]? = some v → w.cell? (ad.add j) = some v := fun h => by rw [hX1]; exact hr.srcB (by omega)
  have o1 : ∀ v ∈ X1, v.oneCell' = true := by rw [hX1]; exact K.all_one _ _
  have HX1 := Lib.hid hX1
  have HR1 := Lib.hid hr.1
  clear hX1 hr
  have hnn : (0 : Int) ≤ (n : Int) := by omega
  go_enter Tryz.func97, Tryz.ntmps97
  go_wp2_with (first
    | (refine wpList_make_j (k := kB) rfl _ _ _ rfl i _ 0 Tryz.underlying75 hi1 hi2 hi3 rfl .i64 .i64 _ _ (n) (n) rfl rfl (by push_cast; rfl) (by push_cast; rfl) (Nat.le_refl _) (by rw [hi4]; omega) (by unfold maxLen; omega) ?_; intro w2 hown hM2 hs2; obtain ⟨C, hC, hCl, _⟩ := hown.blockB; have hs2' := Nat.le_of_eq hs2.symm; clear hown hs2)
    | (refine wpList_copy_splice rfl _ _ _ _ rfl 5 Tryz.underlying75 Tryz.sizeB _ _ _ _ _ _ rfl rfl w.heap.size 0 C _ hC X1 (by rw [l1]; exact (Nat.min_eq_left (by omega)).symm) (fun h => ⟨rfl, by obtain ⟨ad, e, g⟩ := s1 h; exact ⟨ad, e, fun j v hv => hM2.cell (g j v hv) (fun hf => hf)⟩⟩) (by omega) o1 w.heap.size w hM2.below (Nat.le_refl _) ?_; intro w3 hG3 hb3; rw [l1]; simp only [goInt])
    | (refine wpList_copy_nothing rfl _ _ _ _ rfl 5 Tryz.underlying75 Tryz.sizeB _ _ _ _ _ _ rfl rfl (by simp) ?_; simp only [goInt]))
  go_ret
  refine ⟨rfl, mod_of_below hb3, Own.ofB hG3.out rfl HR1.out (Nat.le_refl _) (by unfold maxLen; omega) ?_ ?_⟩
  · rw [length_splice _ _ _ (by omega)]; exact hCl
  · rw [show splice C 0 X1 = X1 ++ C.drop X1.length by simp [splice], List.take_left' l1, HX1.out]
end Go.Proofs.YtjojhfphlnfimaaGreatDoor.J

namespace Go.Proofs.YtjojhfphlnfimaaGreatDoor.J
open Go Go.RowKit
set_option linter.unusedSimpArgs false
set_option linter.unusedVariables false

/-- The first k done, the others still z. -/
def fillL {α : Type} (l : List α) (z : α) (n k : Nat) : List α := l.take k ++ List.replicate (n - k) z
theorem fillL_at {α : Type} {l : List α} {z : α} {n k : Nat} (hn : n = l.length) (hk : k < n) : (fillL l z n k)[k]? = some z := by
  unfold fillL
  have h1 : (l.take k).length = k := by rw [List.length_take]; omega
  rw [List.getElem?_append_right (by omega), h1, Nat.sub_self, List.getElem?_replicate, if_pos (by omega)]
theorem fillL_set {α : Type} {l : List α} {z : α} {n k : Nat} (hn : n = l.length) (hk : k < n) {x : α} (hx : l[k]? = some x) : (fillL l z n k).set k x = fillL l z n (k + 1) := by
  unfold fillL
  have h1 : (l.take k).length = k := by rw [List.length_take]; omega
  rw [List.set_append_right _ _ (by omega), h1, Nat.sub_self]
  rw [show n - k = (n - (k + 1)) + 1 by omega, List.replicate_succ, List.set_cons_zero, List.take_add_one, hx]
  simp
theorem fillL_all {α : Type} {l : List α} {z : α} {n : Nat} (hn : n = l.length) : fillL l z n n = l := by
  unfold fillL
  rw [List.take_of_length_le (by omega), Nat.sub_self]; simp
theorem Own.atB {T : TypeId} {w : World} {b n c : Nat} {l : List Nat} {S : Nat → Prop} (h : Own kB T w (some ⟨b, 0, none⟩) n c l S) {i : Nat} {x : Nat} (hx : l[i]? = some x) : w.cell? ⟨b, i, none⟩ = some (.int .u8 x) := by
  obtain ⟨b1, a1, hA1, hz⟩ := h.rd.at hx
  simp only [Option.some.injEq, Addr.mk.injEq, and_true] at hA1
  obtain ⟨rfl, rfl⟩ := hA1
  simpa [kB] using hz 0 _ rfl
theorem Own.freeB {α : Type} {k : K α} {T : TypeId} {w : World} {b o n c : Nat} {l : List α} {S : Nat → Prop} (h : Own k T w (some ⟨b, o, none⟩) n c l S) : ∀ j, w.frozen? ⟨b, j, none⟩ = false := by
  rcases h.2 with ⟨h1, _⟩ | ⟨g, off, cur, h1, h2, h3, _⟩
  · cases h1
  · simp only [Option.some.injEq, Addr.mk.injEq, and_true] at h1
    obtain ⟨rfl, _⟩ := h1
    exact blk_free h3
theorem Own.setB {T : TypeId} {w : World} {b n c : Nat} {l : List Nat} {S : Nat → Prop} (h : Own kB T w (some ⟨b, 0, none⟩) n c l S) {i : Nat} (hi : i < n) (x : Nat) : Own kB T (w.setCell ⟨b, i, none⟩ (.int .u8 x)) (some ⟨b, 0, none⟩) n c (l.set i x) S := by
  have hx := List.getElem?_eq_getElem (l := l) (i := i) (by rw [← h.1]; exact hi)
  have := h.setAt (j := 0) (x' := x) (v := .int .u8 x) hx (by decide) rfl rfl
  simpa [kB] using this

set_option maxRecDepth 100000 in
set_option maxHeartbeats 1000000 in
theorem rcopied_any (A : Option Addr) (n c : Nat) (l : List Nat) (w : World) (hr : Rd kB w A n c l) (hn : n ≤ 1000000) :
    Calls Tryz.prog 82 #[.slice A n c] w fun e w' => e = .returned (.slice (some ⟨w.heap.size, 0, none⟩) n n) ∧ Mod No w w' ∧ Own kB 5 w' (some ⟨w.heap.size, 0, none⟩) n n l (fun b => b = w.heap.size) := by
  obtain ⟨i, hi1, hi2, hi3, hi4⟩ := info_parts Tryz.infoB
  have HN := Lib.hid hr.1
  have hnn : (0 : Int) ≤ (n : Int) := by omega
  go_enter Tryz.func82, Tryz.ntmps82
  go_wp2_with (refine wpList_make_j (k := kB) rfl _ _ _ rfl i _ 0 Tryz.underlying75 hi1 hi2 hi3 rfl .i64 .i64 _ _ n n rfl rfl rfl rfl (Nat.le_refl _) (by rw [hi4]; omega) (by unfold maxLen; omega) ?_; intro w2 hown hM2 hs2)
  go_loopw [4] (fun s4 wr => ∃ k : Nat, k ≤ n ∧ s4 = .int .i64 k ∧ Own kB 5 wr (some ⟨w.heap.size, 0, none⟩) n n (fillL l 0 n k) (fun b => b = w.heap.size) ∧ Mod No w wr) (fun s4 _ => n - (intOf s4).toNat)
  case atStart => exact ⟨0, Nat.zero_le _, rfl, by simpa [fillL] using hown, hM2⟩
  case round =>
    obtain ⟨k, hk, rfl, hK, hM⟩ := hrel
    by_cases hlt : k < n
    · obtain ⟨b0, o0, x, hx, rfl, x1⟩ := (hr.mod0 hM).byte hlt
      have HX := Lib.hid hx
      clear hx
      have h0 : (0 : Int) ≤ (k : Int) := by omega
      have y0 := hK.atB (fillL_at HN.out hlt)
      have hF := hK.freeB
      have u1 := hK.setB hlt x
      rw [fillL_set HN.out hlt HX.out] at u1
      have r0 : No w.heap.size ∨ w.heap.size ≤ w.heap.size := .inr (Nat.le_refl _)
      go_wp2
      go_roundw
      case rel => exact ⟨k + 1, by omega, by go_num, u1, mod_setO hM r0⟩
      case measure => simp [intOf]; omega
    · have hkn : k = n := by omega
      subst hkn
      go_wp2
      go_ret
      exact ⟨rfl, hM, by rw [← fillL_all (l := l) (z := 0) HN.out]; exact hK⟩

/-- Bits, a byte each. -/
def kBit : K Bool := ⟨1, fun b => [.int .u8 (if b then 1 else 0)], fun _ => rfl, fun a v h => by simp at h; subst h; rfl, by decide⟩
def bl (N : Nat) (f : Nat → Bool) : List Bool := (List.range N).map f
theorem bl_at {N : Nat} {f : Nat → Bool} {p : Nat} (h : p < N) : (bl N f)[p]? = some (f p) := by simp [bl, h]
theorem bl_set {N : Nat} {f : Nat → Bool} {p : Nat} {b : Bool} : (bl N f).set p b = bl N (fun q => if q = p then b else f q) := by
  apply List.ext_getElem?
  intro q
  rw [List.getElem?_set]
  simp only [bl, List.length_map, List.length_range, List.getElem?_map]
  by_cases hq : q < N
  · by_cases hp : p = q
    · subst hp; simp [hq]
    · simp [hq, hp, Ne.symm hp]
  · by_cases hp : p = q
    · subst hp; simp [hq]
    · simp [hq, hp]
theorem bl_ext {N : Nat} {f g : Nat → Bool} (h : ∀ p, p < N → f p = g p) : bl N f = bl N g := by
  unfold bl
  exact List.map_congr_left (fun p hp => h p (List.mem_range.1 hp))
theorem bl_false {N : Nat} {g : Nat → Bool} : bl N (fun p => decide (p < 8 * 0) && g p) = List.replicate N false := by
  apply List.ext_getElem?
  intro q
  simp only [bl, List.getElem?_map, List.getElem?_replicate]
  by_cases hq : q < N <;> simp [hq]
theorem Own.atBit {T : TypeId} {w : World} {b n c N : Nat} {f : Nat → Bool} {S : Nat → Prop} (h : Own kBit T w (some ⟨b, 0, none⟩) n c (bl N f) S) {p : Nat} (hp : p < N) : w.cell? ⟨b, p, none⟩ = some (.int .u8 (if f p then 1 else 0)) := by
  obtain ⟨b1, a1, hA1, hz⟩ := h.rd.at (bl_at hp)
  simp only [Option.some.injEq, Addr.mk.injEq, and_true] at hA1
  obtain ⟨rfl, rfl⟩ := hA1
  simpa [kBit] using hz 0 _ rfl
theorem Own.setBit {T : TypeId} {w : World} {b n c N : Nat} {f : Nat → Bool} {S : Nat → Prop} (h : Own kBit T w (some ⟨b, 0, none⟩) n c (bl N f) S) {p : Nat} (hp : p < N) (x : Bool) {v : Int} (hv : v = if x then 1 else 0) :
    Own kBit T (w.setCell ⟨b, p, none⟩ (.int .u8 v)) (some ⟨b, 0, none⟩) n c (bl N (fun q => if q = p then x else f q)) S := by
  have := h.setAt (j := 0) (x' := x) (v := .int .u8 v) (bl_at hp) (by decide) (by rw [hv]; rfl) rfl
  rw [bl_set] at this
  simpa [kBit] using this
theorem and_bit (x k : Nat) (hx : x < 256) (hk : k < 8) : (bits .and .u8 (x : Int) ((2 : Int) ^ k % 256) != 0) = Nat.testBit x k := by
  have h : ∀ x : Nat, x < 256 → ∀ k : Nat, k < 8 → (bits .and .u8 (x : Int) ((2 : Int) ^ k % 256) != 0) = Nat.testBit x k := by decide +kernel
  exact h x hx k hk

set_option maxRecDepth 100000 in
set_option maxHeartbeats 1000000 in
theorem rbits_any (A : Option Addr) (n c : Nat) (l : List Nat) (w : World) (hr : Rd kB w A n c l) (hb : bytesOk l) (hn : n ≤ 100000) :
    Calls Tryz.prog 109 #[.slice A n c] w fun e w' => e = .returned (.slice (some ⟨w.heap.size, 0, none⟩) (8 * n + 32) (8 * n + 32)) ∧ Mod No w w' ∧ Own kBit 5 w' (some ⟨w.heap.size, 0, none⟩) (8 * n + 32) (8 * n + 32) (bl (8 * n + 32) (msgB l)) (fun b => b = w.heap.size) := by
  obtain ⟨i, hi1, hi2, hi3, hi4⟩ := info_parts Tryz.infoB
  have HN := Lib.hid hr.1
  have hnn : (0 : Int) ≤ (n : Int) := by omega
  go_enter Tryz.func109, Tryz.ntmps109
  go_wp2_with (refine wpList_make_j (k := kBit) rfl _ _ _ rfl i _ false Tryz.underlying75 hi1 hi2 hi3 rfl .i64 .i64 _ _ (8 * n + 32) (8 * n + 32) rfl rfl (by push_cast; rfl) (by push_cast; rfl) (Nat.le_refl _) (by rw [hi4]; omega) (by unfold maxLen; omega) ?_; intro w2 hown hM2 hs2)
  go_loopw [4, 5] (fun s4 s5 wr => ∃ k : Nat, k ≤ n ∧ s4 = .int .i64 k ∧ Own kBit 5 wr (some ⟨w.heap.size, 0, none⟩) (8 * n + 32) (8 * n + 32) (bl (8 * n + 32) (fun p => decide (p < 8 * k) && bitsOf l p)) (fun b => b = w.heap.size) ∧ Mod No w wr) (fun s4 _ _ => n - (intOf s4).toNat)
  case atStart => exact ⟨0, Nat.zero_le _, rfl, by rw [bl_false]; exact hown, hM2⟩
  case round =>
    obtain ⟨k, hk, rfl, hK, hM⟩ := hrel
    by_cases hlt : k < n
    · obtain ⟨b0, o0, x, hx, rfl, x1⟩ := hr.byte hlt
      have HX := Lib.hid hx
      have hx256 : x < 256 := hb x (List.mem_of_getElem? hx)
      clear hx
      have h0 : (0 : Int) ≤ (k : Int) := by omega
      go_wp2
      go_loopw [5] (fun s5 wr2 => ∃ j : Nat, j ≤ 8 ∧ s5 = .int .i64 j ∧ Own kBit 5 wr2 (some ⟨w.heap.size, 0, none⟩) (8 * n + 32) (8 * n + 32) (bl (8 * n + 32) (fun p => decide (p < 8 * k + j) && bitsOf l p)) (fun b => b = w.heap.size) ∧ Mod No w wr2) (fun s5 _ => 8 - (intOf s5).toNat)
      case atStart => exact ⟨0, Nat.zero_le _, rfl, hK, hM⟩
      case round =>
        clear hK hM
        obtain ⟨j, hj, rfl, hK, hM⟩ := hrel
        have hbit : bitsOf l (8 * k + j) = Nat.testBit x j ∨ ¬ j < 8 := by
          by_cases h : j < 8
          · left
            unfold bitsOf
            rw [show (8 * k + j) / 8 = k by omega, show (8 * k + j) % 8 = j by omega, List.getD_eq_getElem?_getD, HX.out]; rfl
          · exact .inr h
        obtain ⟨b2, o2, x', hx', hAA, x2⟩ := (hr.mod0 hM).byte hlt
        simp only [Option.some.injEq, Addr.mk.injEq, and_true] at hAA
        obtain ⟨rfl, rfl⟩ := hAA
        obtain rfl : x' = x := by have := HX.out; rw [hx'] at this; exact Option.some.inj this
        clear hx'
        have j0 : (0 : Int) ≤ (j : Int) := by omega
        have hF := hK.freeB
        have c0 := hK.atBit (p := 8 * k + j)
        by_cases hj8 : j < 8
        · have c1 := c0 (by omega)
          have HB := Lib.hid (hbit.resolve_right (fun h => h hj8))
          have hab := and_bit x' j hx256 hj8
          clear hbit c0
          obtain ⟨tbt, htb⟩ : ∃ b, Nat.testBit x' j = b := ⟨_, rfl⟩
          rw [htb] at hab HB
          have HT := Lib.hid htb
          clear htb
          have u1 := hK.setBit (p := 8 * k + j) (by omega) true (v := 1) rfl
          have r0 : No w.heap.size ∨ w.heap.size ≤ w.heap.size := .inr (Nat.le_refl _)
          cases tbt
          · go_wp2
            refine wp_region_text (by kernel_rfl) (by kernel_rfl) (by kernel_rfl) (by kernel_rfl) ?_
            go_wp2
            refine ⟨rfl, by kernel_rfl, ?_⟩
            go_wp2
            go_roundw
            case rel =>
              refine ⟨j + 1, by omega, by go_num, ?_, hM.drew⟩
              rw [bl_ext (g := fun p => decide (p < 8 * k + j) && bitsOf l p) (fun p hp => ?_)]
              · exact hK
              · by_cases h1 : p < 8 * k + j
                · simp [h1, Nat.lt_succ_of_lt h1, show p < 8 * k + (j + 1) by omega]
                · by_cases h2 : p = 8 * k + j
                  · subst h2; simp [HB.out]
                  · simp [h1, show ¬ p < 8 * k + (j + 1) by omega]
            case measure => simp [intOf]; omega
          · go_wp2
            refine wp_region_text (by kernel_rfl) (by kernel_rfl) (by kernel_rfl) (by kernel_rfl) ?_
            go_wp2
            refine ⟨rfl, by kernel_rfl, ?_⟩
            go_wp2
            go_roundw
            case rel =>
              refine ⟨j + 1, by omega, by go_num, ?_, (mod_setO hM r0).drew⟩
              rw [bl_ext (g := fun q => if q = 8 * k + j then true else decide (q < 8 * k + j) && bitsOf l q) (fun p hp => ?_)]
              · exact u1
              · by_cases h1 : p < 8 * k + j
                · simp [h1, show p < 8 * k + (j + 1) by omega, show ¬ p = 8 * k + j by omega]
                · by_cases h2 : p = 8 * k + j
                  · subst h2; simp [HB.out]
                  · simp [h1, h2, show ¬ p < 8 * k + (j + 1) by omega]
            case measure => simp [intOf]; omega
        · have hj8' : j = 8 := by omega
          subst hj8'
          go_wp2
          go_roundw
          case rel => exact ⟨k + 1, by omega, by go_num, hK, hM⟩
          case measure => simp [intOf]; omega
    · have hkn : k = n := by omega
      subst hkn
      go_wp2
      have hK0 : Own kBit 5 wr (some ⟨w.heap.size, 0, none⟩) (8 * k + 32) (8 * k + 32) (bl (8 * k + 32) (fun p => decide (p < 0) ^^ bitsOf l p)) (fun b => b = w.heap.size) := by
        rw [bl_ext (g := fun p => decide (p < 8 * k) && bitsOf l p) (fun p hp => ?_)]
        · exact hK
        · by_cases h1 : p < 8 * k
          · simp [h1]
          · have : bitsOf l p = false := by
              unfold bitsOf
              rw [List.getD_eq_getElem?_getD, List.getElem?_eq_none (by rw [← HN.out]; omega)]; simp
            simp [h1, this]
      clear hK
      go_loopw [6] (fun s6 wr2 => ∃ j : Nat, j ≤ 32 ∧ s6 = .int .i64 j ∧ Own kBit 5 wr2 (some ⟨w.heap.size, 0, none⟩) (8 * k + 32) (8 * k + 32) (bl (8 * k + 32) (fun p => decide (p < j) ^^ bitsOf l p)) (fun b => b = w.heap.size) ∧ Mod No w wr2) (fun s6 _ => 32 - (intOf s6).toNat)
      case atStart => exact ⟨0, Nat.zero_le _, rfl, hK0, hM⟩
      case round =>
        clear hK0 hM
        obtain ⟨j, hj, rfl, hK, hM⟩ := hrel
        have j0 : (0 : Int) ≤ (j : Int) := by omega
        have hF := hK.freeB
        have c0' := hK.atBit (p := j)
        by_cases hj8 : j < 32
        · have c0 := c0' (by omega)
          clear c0'
          obtain ⟨tbt, htb⟩ : ∃ b, bitsOf l j = b := ⟨_, rfl⟩
          rw [show (decide (j < j) ^^ bitsOf l j) = bitsOf l j by simp, htb] at c0
          have HT := Lib.hid htb
          clear htb
          have u1 := hK.setBit (p := j) (by omega) (!tbt) (v := 1 - if tbt then 1 else 0) (by cases tbt <;> rfl)
          have r0 : No w.heap.size ∨ w.heap.size ≤ w.heap.size := .inr (Nat.le_refl _)
          have ee : bl (8 * k + 32) (fun q => if q = j then (!tbt) else decide (q < j) ^^ bitsOf l q) = bl (8 * k + 32) (fun p => decide (p < j + 1) ^^ bitsOf l p) := by
            refine bl_ext (fun p hp => ?_)
            by_cases h2 : p = j
            · subst h2; simp [HT.out]
            · have : decide (p < j + 1) = decide (p < j) := by simp; omega
              simp [h2, this]
          have fin := u1
          rw [ee] at fin
          clear ee
          clear u1
          cases tbt
          all_goals simp only [Bool.false_eq_true, if_false, if_true] at c0 fin
          all_goals go_wp2
          all_goals go_roundw
          all_goals try (case rel => exact ⟨j + 1, by omega, by go_num, fin, mod_setO hM r0⟩)
          all_goals try (case measure => simp [intOf]; omega)
        · have hj8' : j = 32 := by omega
          subst hj8'
          go_wp2
          go_ret
          exact ⟨rfl, hM, hK⟩
end Go.Proofs.YtjojhfphlnfimaaGreatDoor.J

namespace Go.Proofs.YtjojhfphlnfimaaGreatDoor.J
open Go Go.RowKit
set_option linter.unusedSimpArgs false
set_option linter.unusedVariables false

theorem divStep_one (i : Nat) (m : Nat → Bool) (h : m i = false) : divStep i m = m := by
  funext p; unfold divStep; split <;> simp [h]
theorem polyP_big (k : Nat) (h : 33 ≤ k) : polyP k = false := by
  unfold polyP
  rw [if_neg (by omega), low_bit _ (by omega)]
/-- The round of a coefficient that is set: behind k places. -/
def divK (i k : Nat) (m : Nat → Bool) (p : Nat) : Bool := m p ^^ (decide (i ≤ p ∧ p < i + k) && polyP (p - i))
theorem divK_zero (i : Nat) (m : Nat → Bool) : divK i 0 m = m := by
  funext p
  unfold divK
  have : ¬ (i ≤ p ∧ p < i + 0) := by omega
  rw [decide_eq_false this]
  simp
theorem divK_all (i : Nat) (m : Nat → Bool) (h : m i = true) : divK i 33 m = divStep i m := by
  funext p
  unfold divK divStep
  by_cases h1 : i ≤ p
  · by_cases h2 : p < i + 33
    · simp [h1, h2, h]
    · simp [h1, h2, polyP_big (p - i) (by omega)]
  · simp [h1]
theorem divK_set (i k : Nat) (m : Nat → Bool) (h : polyP k = true) : (fun q => if q = i + k then (!divK i k m (i + k)) else divK i k m q) = divK i (k + 1) m := by
  funext q
  unfold divK
  by_cases hq : q = i + k
  · subst hq; simp [h]
  · have : (i ≤ q ∧ q < i + k) ↔ (i ≤ q ∧ q < i + (k + 1)) := by omega
    simp only [if_neg hq, this]
theorem divK_not (i k : Nat) (m : Nat → Bool) (h : polyP k = false) : divK i k m = divK i (k + 1) m := by
  funext q
  unfold divK
  by_cases hq : q = i + k
  · subst hq; simp [h]
  · have : (i ≤ q ∧ q < i + k) ↔ (i ≤ q ∧ q < i + (k + 1)) := by omega
    simp only [this]
theorem rem_next (x k : Nat) : x % 2 ^ (k + 1) = x % 2 ^ k + (if Nat.testBit x k then 2 ^ k else 0) := by
  rw [Nat.pow_succ, Nat.mod_mul, Nat.testBit_eq_decide_div_mod_eq]
  have := Nat.mod_lt (x / 2 ^ k) (by decide : 2 > 0)
  by_cases h : x / 2 ^ k % 2 = 1
  · simp [h]
  · have h0 : x / 2 ^ k % 2 = 0 := by omega
    simp [h0]
def polyS : ByteArray := { data := #[49, 48, 48, 48, 48, 48, 49, 48, 48, 49, 49, 48, 48, 48, 48, 48, 49, 48, 48, 48, 49, 49, 49, 48, 49, 49, 48, 49, 49, 48, 49, 49, 49] }
theorem poly_at : ∀ k : Nat, ∀ h : k < polyS.size, ((polyS[k]'h).toNat == 49) = polyP k := by
  have e : polyS.size = 33 := rfl
  have h : ∀ k : Nat, k < 33 → ((polyS.data.getD k 0).toNat == 49) = polyP k := by decide +kernel
  intro k hk
  rw [← h k (by omega)]
  have : polyS[k] = polyS.data.getD k 0 := by
    show polyS.data[k] = _
    rw [Array.getD_eq_getD_getElem?, Array.getElem?_eq_getElem (show k < polyS.data.size from hk)]; rfl
  rw [this]

theorem poly_int (k : Nat) (h : k < polyS.size) : ((((polyS[k]'h).toNat : Nat) : Int) == 49) = polyP k := by
  rw [← poly_at k h]
  generalize (polyS[k]'h).toNat = x
  by_cases hx : x = 49
  · subst hx; rfl
  · have h1 : ((x : Int) == 49) = false := by rw [beq_eq_false_iff_ne]; omega
    have h2 : (x == 49) = false := by rw [beq_eq_false_iff_ne]; exact hx
    rw [h1, h2]

set_option maxRecDepth 100000 in
set_option maxHeartbeats 4000000 in
theorem rsum_any (A : Option Addr) (n c : Nat) (l : List Nat) (w : World) (hr : Rd kB w A n c l) (hb : bytesOk l) (hn : n ≤ 100000) :
    Calls Tryz.prog 83 #[.slice A n c] w fun e w' => e = .returned (.int .u32 (crcE l)) ∧ Mod No w w' := by
  have HN := Lib.hid hr.1
  have hnn : (0 : Int) ≤ (n : Int) := by omega
  go_enter Tryz.func83, Tryz.ntmps83
  go_wp2_with (go_at_call 109; refine (rbits_any A n c l w hr hb hn).mono ?_; rintro e w2 ⟨rfl, hM2, hO2⟩)
  go_loopw [4, 5] (fun s4 s5 wr => ∃ i : Nat, i ≤ 8 * n ∧ s4 = .int .i64 i ∧ Own kBit 5 wr (some ⟨w.heap.size, 0, none⟩) (8 * n + 32) (8 * n + 32) (bl (8 * n + 32) (divN i (msgB l))) (fun b => b = w.heap.size) ∧ Mod No w wr) (fun s4 _ _ => 8 * n - (intOf s4).toNat)
  case atStart => exact ⟨0, Nat.zero_le _, rfl, hO2, hM2⟩
  case round =>
    clear hO2 hM2
    obtain ⟨i, hi, rfl, hK, hM⟩ := hrel
    have i0 : (0 : Int) ≤ (i : Int) := by omega
    have hF := hK.freeB
    have c0' := hK.atBit (p := i)
    by_cases hlt : i < 8 * n
    · have c0 := c0' (by omega)
      clear c0'
      obtain ⟨M, hMe⟩ : ∃ M, divN i (msgB l) = M := ⟨_, rfl⟩
      have hstep : divN (i + 1) (msgB l) = divStep i M := by rw [← hMe]; rfl
      rw [hMe] at c0 hK
      have HS := Lib.hid hstep
      clear hstep hMe
      obtain ⟨mb, hmb⟩ : ∃ b, M i = b := ⟨_, rfl⟩
      rw [hmb] at c0
      cases mb
      · rw [divStep_one i M hmb] at HS
        simp only [Bool.false_eq_true, if_false] at c0
        go_wp2
        go_roundw
        case rel => exact ⟨i + 1, by omega, by go_num, by rw [HS.out]; exact hK, hM⟩
        case measure => simp [intOf]; omega
      · rw [← divK_all i M hmb] at HS
        simp only [if_true] at c0
        clear hmb
        go_wp2
        go_loopw [5] (fun s5 wr2 => ∃ k : Nat, k ≤ 33 ∧ s5 = .int .i64 k ∧ Own kBit 5 wr2 (some ⟨w.heap.size, 0, none⟩) (8 * n + 32) (8 * n + 32) (bl (8 * n + 32) (divK i k M)) (fun b => b = w.heap.size) ∧ Mod No w wr2) (fun s5 _ => 33 - (intOf s5).toNat)
        case atStart => exact ⟨0, Nat.zero_le _, rfl, by rw [divK_zero]; exact hK, hM⟩
        case round =>
          clear hK hM hF c0
          obtain ⟨k, hk, rfl, hK, hM⟩ := hrel
          have k0 : (0 : Int) ≤ (k : Int) := by omega
          have hF := hK.freeB
          have c0' := hK.atBit (p := i + k)
          by_cases hk33 : k < 33
          · have c0 := c0' (by omega)
            clear c0'
            have u1 := hK.setBit (p := i + k) (by omega) (!divK i k M (i + k)) (v := 1 - if divK i k M (i + k) = true then 1 else 0) (by cases divK i k M (i + k) <;> rfl)
            have r0 : No w.heap.size ∨ w.heap.size ≤ w.heap.size := .inr (Nat.le_refl _)
            go_wp2
            · rename_i h49
              have hpb : polyP k = true := by rw [← poly_int k hk33]; exact h49
              rw [divK_set i k M hpb] at u1
              go_roundw
              case rel => exact ⟨k + 1, by omega, by go_num, u1, mod_setO hM r0⟩
              case measure => simp [intOf]; omega
            · rename_i h49
              have hpb : polyP k = false := by rw [← poly_int k hk33]; exact h49
              have e1 := divK_not i k M hpb
              go_roundw
              case rel => exact ⟨k + 1, by omega, by go_num, by rw [← e1]; exact hK, hM⟩
              case measure => simp [intOf]; omega
          · obtain rfl : k = 33 := by omega
            go_wp2
            go_roundw
            case rel => exact ⟨i + 1, by omega, by go_num, by rw [HS.out]; exact hK, hM⟩
            case measure => simp [intOf]; omega
    · obtain rfl : i = 8 * n := by omega
      clear c0'
      have hcr := div_crc l hb
      have hlt32 := crcE_lt l hb
      obtain ⟨E, hE⟩ : ∃ E, crcE l = E := ⟨_, rfl⟩
      rw [hE] at hcr hlt32
      have HE := Lib.hid hE
      clear hE
      go_wp2
      go_loopw [6, 7] (fun s6 s7 wr2 => ∃ k : Nat, k ≤ 32 ∧ s7 = .int .i64 k ∧ s6 = .int .u32 (E % 2 ^ k : Nat) ∧ wr2 = wr) (fun _ s7 _ => 32 - (intOf s7).toNat)
      case atStart => exact ⟨0, Nat.zero_le _, rfl, by simp [Nat.mod_one], rfl⟩
      case round =>
        obtain ⟨k, hk, rfl, rfl, rfl⟩ := hrel
        have k0 : (0 : Int) ≤ (k : Int) := by omega
        by_cases hk32 : k < 32
        · have c0 := hK.atBit (p := 8 * n + k) (by omega)
          have hb1 := hcr k hk32
          rw [← HN.out] at hb1
          have e1 := rem_next E k
          have hle := Nat.mod_lt E (Nat.two_pow_pos (k + 1))
          obtain ⟨X, hX⟩ : ∃ X, E % 2 ^ k = X := ⟨_, rfl⟩
          rw [hX] at e1 ⊢
          have pw : 2 ^ k < 4294967296 := by have := Nat.pow_lt_pow_right (a := 2) (by decide) hk32; omega
          have pw2 : 2 ^ (k + 1) ≤ 4294967296 := by have := Nat.pow_le_pow_right (n := 2) (by decide) (show k + 1 ≤ 32 by omega); omega
          obtain ⟨Y, hY⟩ : ∃ Y, divN (8 * n) (msgB l) (8 * n + k) = Y := ⟨_, rfl⟩
          rw [hY] at c0 hb1
          rw [hb1] at e1
          clear hb1 hY hX
          cases Y
          all_goals simp only [Bool.not_true, Bool.not_false, Bool.false_eq_true, if_false, if_true, Nat.add_zero] at c0 e1
          · go_wp2
            have hz : ((2 : Int) ^ k) = ((2 ^ k : Nat) : Int) := by push_cast; rfl
            go_roundw
            case rel =>
              refine ⟨k + 1, by omega, by go_num, ?_, trivial⟩
              rw [e1, hz]
              rw [e1] at hle
              generalize 2 ^ k = Q at *
              generalize 2 ^ (k + 1) = Q2 at *
              congr 1
              omega
            case measure => simp [intOf]; omega
          · go_wp2
            go_roundw
            case rel => exact ⟨k + 1, by omega, by go_num, by rw [e1], trivial⟩
            case measure => simp [intOf]; omega
        · obtain rfl : k = 32 := by omega
          go_wp2
          go_ret
          exact ⟨by rw [HE.out]; show Ending.returned (Value.int .u32 ((E % 2 ^ 32 : Nat) : Int)) = _; rw [Nat.mod_eq_of_lt hlt32], hM⟩

/-- Bytes and their sum behind them, the lowest byte first. -/
def sumB (l : List Nat) : List Nat := [crcE l % 256, crcE l / 256 % 256, crcE l / 65536 % 256, crcE l / 16777216]
def sealE (l : List Nat) : List Nat := l ++ sumB l
/-- The first k bytes of a number. -/
def lowB (E : Nat) : Nat → List Nat
  | 0 => []
  | k + 1 => lowB E k ++ [E / 256 ^ k % 256]

set_option maxRecDepth 100000 in
set_option maxHeartbeats 4000000 in
theorem rseal_any (A : Option Addr) (n c : Nat) (l : List Nat) (w : World) (hr : Rd kB w A n c l) (hb : bytesOk l) (hn : n ≤ 100000) :
    Calls Tryz.prog 55 #[.slice A n c] w fun e w' => ∃ B d, e = .returned (.slice B (n + 4) d) ∧ Mod No w w' ∧ Own kB 5 w' B (n + 4) d (sealE l) (fun b => w.heap.size ≤ b) := by
  obtain ⟨i, hi1, hi2, hi3, hi4⟩ := info_parts Tryz.infoB
  have HN := Lib.hid hr.1
  have hnn : (0 : Int) ≤ (n : Int) := by omega
  go_enter Tryz.func55, Tryz.ntmps55
  go_wp2_with (first
    | (go_at_call 82; refine (rcopied_any A n c l w hr (by omega)).mono ?_; rintro e w2 ⟨rfl, hM2, hO2⟩)
    | (go_at_call 83; refine (rsum_any A n c l w2 (hr.mod0 hM2) hb hn).mono ?_; rintro e w3 ⟨rfl, hM3⟩))
  have hO3 := (hO2.mod0 hM3).mono (S' := fun b => w.heap.size ≤ b) (fun b _ h => Nat.le_of_eq h.symm)
  have hM3' := hM2.then0 hM3
  clear hO2 hM2 hM3
  obtain ⟨E, hE⟩ : ∃ E, crcE l = E := ⟨_, rfl⟩
  have hlt32 := crcE_lt l hb
  rw [hE] at hlt32
  have HE := Lib.hid hE
  rw [hE]
  clear hE
  go_loopw [3, 4, 5] (fun s3 s4 s5 wr => ∃ (k : Nat) (B : Option Addr) (d : Nat), k ≤ 4 ∧ s5 = .int .i64 k ∧ s4 = .int .u32 (E / 256 ^ k : Nat) ∧ s3 = .slice B (n + k) d ∧ Own kB 5 wr B (n + k) d (l ++ lowB E k) (fun b => w.heap.size ≤ b) ∧ Mod No w wr) (fun _ _ s5 _ => 4 - (intOf s5).toNat)
  case atStart => exact ⟨0, _, _, Nat.zero_le _, rfl, by simp, rfl, by simpa [lowB] using hO3, hM3'⟩
  case round =>
    clear hO3 hM3'
    obtain ⟨k, B, d, hk, rfl, rfl, rfl, hO, hM⟩ := hrel
    by_cases hlt : k < 4
    · have k0 : (0 : Int) ≤ (k : Int) := by omega
      have e1 : E / 256 ^ (k + 1) = E / 256 ^ k / 256 := by rw [Nat.pow_succ, Nat.div_div_eq_div_mul]
      obtain ⟨X, hX⟩ : ∃ X, E / 256 ^ k = X := ⟨_, rfl⟩
      have hX32 : X < 4294967296 := by rw [← hX]; exact Nat.lt_of_le_of_lt (Nat.div_le_self _ _) hlt32
      have e2 : l ++ lowB E (k + 1) = l ++ lowB E k ++ [X % 256] := by rw [← hX]; simp [lowB]
      rw [hX] at e1 ⊢
      have E1 := Lib.hid e1
      have E2 := Lib.hid e2
      clear e1 e2 hX
      have hsz := hM.size
      go_wp2_with (at_builtin; refine wpList_append_l (k := kB) (T := 5) w.heap.size rfl _ _ _ rfl i _ Tryz.underlying75 hi1 hi2 hi3 rfl rfl rfl (by simp; omega) (hO.alloc _) (Rd.one (blk_new _ _ rfl) (X % 256) (by simp [kB])) (by unfold maxLen; omega) (by rw [hi4]; omega) ?_; intro A1 c1 w1 hO1 hm1 _; rw [← E2.out] at hO1)
      go_roundw
      case rel => exact ⟨k + 1, A1, c1, by omega, by go_num, by rw [E1.out]; congr 1, rfl, hO1, (hM.alloc _).own hm1 (Nat.le_refl _)⟩
      case measure => simp [intOf]; omega
    · obtain rfl : k = 4 := by omega
      go_wp2
      go_ret
      refine ⟨B, d, rfl, hM, ?_⟩
      have : lowB E 4 = sumB l := by
        simp only [lowB, sumB, HE.out]
        simp [Nat.mod_eq_of_lt (show E / 16777216 < 256 by omega)]
      rw [sealE, ← this]; exact hO
end Go.Proofs.YtjojhfphlnfimaaGreatDoor.J

namespace Go.Proofs.YtjojhfphlnfimaaGreatDoor.J
open Go Go.RowKit
set_option linter.unusedSimpArgs false
set_option linter.unusedVariables false

structure Msg where
  kind : Int
  epoch : Int
  client : Int
  have_ : Int
  first : Int
  num : Int
  ack : Int
  rev : Int
  tag : Int
  op : Op
deriving DecidableEq
def Msg.cs (m : Msg) : List Value := [.int .i64 m.kind, .int .i64 m.epoch, .int .i64 m.client, .int .i64 m.have_, .int .i64 m.first, .int .i64 m.num, .int .i64 m.ack, .int .i64 m.rev, .int .i64 m.tag, .int .i64 m.op.kind, .int .i64 m.op.pos, .int .u8 m.op.ch, .int .i64 m.op.client, .int .i64 m.op.seq]
def Msg.v (m : Msg) : Value := .agg #[.int .i64 m.kind, .int .i64 m.epoch, .int .i64 m.client, .int .i64 m.have_, .int .i64 m.first, .int .i64 m.num, .int .i64 m.ack, .int .i64 m.rev, .int .i64 m.tag, .int .i64 m.op.kind, .int .i64 m.op.pos, .int .u8 m.op.ch, .int .i64 m.op.client, .int .i64 m.op.seq]
def Msg.get (m : Msg) : Nat → Int
  | 1 => m.epoch | 2 => m.client | 3 => m.have_ | 4 => m.first | 5 => m.num | 6 => m.ack | 7 => m.rev | 8 => m.tag
  | 9 => m.op.kind | 10 => m.op.pos | 11 => m.op.ch | 12 => m.op.client | 13 => m.op.seq
  | _ => 0
def wideE (f : Nat) : Nat := if f = 3 ∨ f = 5 ∨ f = 6 ∨ f = 7 ∨ f = 8 ∨ f = 10 then 2 else 1
def namedE (k : Int) : List Nat :=
  if k = 1 then [1, 2, 3, 4] else if k = 2 then [1, 2, 5, 6, 8, 9, 10, 11, 12, 13] else if k = 3 then [1, 2, 6] else if k = 4 then [1, 2] else
  if k = 5 then [1, 2, 5, 6, 7, 9, 10, 11, 12, 13] else if k = 6 then [1, 2, 6] else []
def fromE (m : Msg) (f : Nat) : Int :=
  if f = 3 ∨ f = 6 ∨ f = 8 ∨ f = 9 ∨ f = 10 then 0 else if f = 11 then (if m.op.kind = 1 then 32 else 0) else if f = 12 ∧ m.kind = 2 then m.client else 1
def toE (m : Msg) (f : Nat) : Int :=
  if f = 1 then 255 else if f = 2 ∨ f = 13 then 64 else if f = 4 then 65 else if f = 9 then 2 else if f = 10 then (if m.op.kind = 0 then 0 else 4095) else
  if f = 11 then (if m.op.kind = 1 then 126 else 0) else if f = 12 then (if m.kind = 2 then m.client else 64) else 4096
def holdsE (m : Msg) (f : Nat) : Prop := fromE m f ≤ m.get f ∧ m.get f ≤ toE m f
/-- A message that can be written. -/
def goodE (m : Msg) : Prop := ∀ f, 1 ≤ f → f ≤ 13 → (f ∈ namedE m.kind → holdsE m f) ∧ (f ∉ namedE m.kind → m.get f = 0)
def fieldB (m : Msg) (f : Nat) : List Nat := if wideE f = 2 then [(m.get f / 256).toNat % 256, (m.get f % 256).toNat] else [(m.get f % 256).toNat]
def bytesE (m : Msg) (l : List Nat) : List Nat := l.flatMap (fieldB m)
def encE (m : Msg) : List Nat := sealE ((m.kind % 256).toNat :: bytesE m (namedE m.kind))

def kInt : K Nat := ⟨1, fun n => [.int .i64 n], fun _ => rfl, fun a v h => by simp at h; subst h; rfl, by decide⟩
theorem Rd.int {w : World} {A : Option Addr} {n c : Nat} {l : List Nat} (h : Rd kInt w A n c l) {i : Nat} (hi : i < n) : ∃ b o, ∃ x : Nat, l[i]? = some x ∧ A = some ⟨b, o, none⟩ ∧ w.cell? ⟨b, o + i, none⟩ = some (.int .i64 x) := by
  have hx := List.getElem?_eq_getElem (l := l) (i := i) (by rw [← h.1]; exact hi)
  obtain ⟨b, o, ha, hc⟩ := h.at hx
  exact ⟨b, o, _, hx, ha, by simpa [kInt] using hc 0 _ rfl⟩

theorem rwide_any (f : Nat) (hf : f < 14) (w : World) : Calls Tryz.prog 81 #[.int .i64 f] w fun e w' => e = .returned (.int .i64 (wideE f : Nat)) ∧ w' = w := by
  have : f = 0 ∨ f = 1 ∨ f = 2 ∨ f = 3 ∨ f = 4 ∨ f = 5 ∨ f = 6 ∨ f = 7 ∨ f = 8 ∨ f = 9 ∨ f = 10 ∨ f = 11 ∨ f = 12 ∨ f = 13 := by omega
  rcases this with rfl | rfl | rfl | rfl | rfl | rfl | rfl | rfl | rfl | rfl | rfl | rfl | rfl | rfl
  all_goals go_enter Tryz.func81, Tryz.ntmps81
  all_goals go_wp2
  all_goals go_ret
  all_goals exact ⟨rfl, rfl⟩

theorem get_cell (m : Msg) (f : Nat) (hf1 : 1 ≤ f) (hf : f < 14) :
    (#[Value.int .i64 0, .int .i64 m.epoch, .int .i64 m.client, .int .i64 m.have_, .int .i64 m.first, .int .i64 m.num, .int .i64 m.ack, .int .i64 m.rev, .int .i64 m.tag, .int .i64 m.op.kind, .int .i64 m.op.pos, .int .i64 m.op.ch, .int .i64 m.op.client, .int .i64 m.op.seq] : Array Value)[f]? = some (.int .i64 (m.get f)) := by
  have : f = 1 ∨ f = 2 ∨ f = 3 ∨ f = 4 ∨ f = 5 ∨ f = 6 ∨ f = 7 ∨ f = 8 ∨ f = 9 ∨ f = 10 ∨ f = 11 ∨ f = 12 ∨ f = 13 := by omega
  rcases this with rfl | rfl | rfl | rfl | rfl | rfl | rfl | rfl | rfl | rfl | rfl | rfl | rfl <;> rfl

set_option maxRecDepth 100000 in
set_option maxHeartbeats 1000000 in
theorem rget_any (m : Msg) (f : Nat) (hf1 : 1 ≤ f) (hf : f < 14) (hch : 0 ≤ m.op.ch ∧ m.op.ch ≤ 255) (w : World) : Calls Tryz.prog 53 #[m.v, .int .i64 f] w fun e w' => e = .returned (.int .i64 (m.get f)) ∧ Mod No w w' := by
  have hcell : ((w.alloc (.cells #[.int .i64 m.kind, .int .i64 m.epoch, .int .i64 m.client, .int .i64 m.have_, .int .i64 m.first, .int .i64 m.num, .int .i64 m.ack, .int .i64 m.rev, .int .i64 m.tag, .int .i64 m.op.kind, .int .i64 m.op.pos, .int .u8 m.op.ch, .int .i64 m.op.client, .int .i64 m.op.seq] 34)).alloc (.cells #[.int .i64 0, .int .i64 m.epoch, .int .i64 m.client, .int .i64 m.have_, .int .i64 m.first, .int .i64 m.num, .int .i64 m.ack, .int .i64 m.rev, .int .i64 m.tag, .int .i64 m.op.kind, .int .i64 m.op.pos, .int .i64 m.op.ch, .int .i64 m.op.client, .int .i64 m.op.seq] 3)).cell? ⟨w.heap.size + 1, f, none⟩ = some (.int .i64 (m.get f)) := by
    rw [blk_at (blk_new _ _ (by simp)) f]
    exact get_cell m f hf1 hf
  have hm : Mod No w ((w.alloc (.cells #[.int .i64 m.kind, .int .i64 m.epoch, .int .i64 m.client, .int .i64 m.have_, .int .i64 m.first, .int .i64 m.num, .int .i64 m.ack, .int .i64 m.rev, .int .i64 m.tag, .int .i64 m.op.kind, .int .i64 m.op.pos, .int .u8 m.op.ch, .int .i64 m.op.client, .int .i64 m.op.seq] 34)).alloc (.cells #[.int .i64 0, .int .i64 m.epoch, .int .i64 m.client, .int .i64 m.have_, .int .i64 m.first, .int .i64 m.num, .int .i64 m.ack, .int .i64 m.rev, .int .i64 m.tag, .int .i64 m.op.kind, .int .i64 m.op.pos, .int .i64 m.op.ch, .int .i64 m.op.client, .int .i64 m.op.seq] 3)) := ((Mod.refl No w).alloc _).alloc _
  obtain ⟨g, hg⟩ : ∃ g, m.get f = g := ⟨_, rfl⟩
  rw [hg] at hcell ⊢
  clear hg
  obtain ⟨k, ep, cl, hv, fi, nu, ac, re, ta, ⟨ok, op, oc, ol, os⟩⟩ := m
  simp only [Msg.v]
  dsimp only at hcell hch hm
  obtain ⟨hc1, hc2⟩ := hch
  have f0 : (0 : Int) ≤ (f : Int) := by omega
  go_enter Tryz.func53, Tryz.ntmps53
  go_wp2
  go_ret
  exact ⟨rfl, hm⟩

/-- An operation's kind, and what the message is, told apart. -/
theorem rfrom_any (m : Msg) (f : Nat) (hf1 : 1 ≤ f) (hf : f < 14) (w : World) : Calls Tryz.prog 79 #[m.v, .int .i64 f] w fun e w' => e = .returned (.int .i64 (fromE m f)) ∧ Mod No w w' := by
  obtain ⟨k, ep, cl, hv, fi, nu, ac, re, ta, ⟨ok, op, oc, ol, os⟩⟩ := m
  simp only [Msg.v]
  have : f = 1 ∨ f = 2 ∨ f = 3 ∨ f = 4 ∨ f = 5 ∨ f = 6 ∨ f = 7 ∨ f = 8 ∨ f = 9 ∨ f = 10 ∨ f = 11 ∨ f = 12 ∨ f = 13 := by omega
  clear hf hf1
  have hm : ∀ o, Mod No w (w.alloc o) := fun o => (Mod.refl No w).alloc o
  rcases this with rfl | rfl | rfl | rfl | rfl | rfl | rfl | rfl | rfl | rfl | rfl | rfl | rfl
  all_goals go_enter Tryz.func79, Tryz.ntmps79
  all_goals go_wp2
  all_goals go_ret
  all_goals refine ⟨?_, hm _⟩
  all_goals first | rfl | simp_all [fromE]
theorem rto_any (m : Msg) (f : Nat) (hf1 : 1 ≤ f) (hf : f < 14) (w : World) : Calls Tryz.prog 80 #[m.v, .int .i64 f] w fun e w' => e = .returned (.int .i64 (toE m f)) ∧ Mod No w w' := by
  obtain ⟨k, ep, cl, hv, fi, nu, ac, re, ta, ⟨ok, op, oc, ol, os⟩⟩ := m
  simp only [Msg.v]
  have : f = 1 ∨ f = 2 ∨ f = 3 ∨ f = 4 ∨ f = 5 ∨ f = 6 ∨ f = 7 ∨ f = 8 ∨ f = 9 ∨ f = 10 ∨ f = 11 ∨ f = 12 ∨ f = 13 := by omega
  clear hf hf1
  have hm : ∀ o, Mod No w (w.alloc o) := fun o => (Mod.refl No w).alloc o
  rcases this with rfl | rfl | rfl | rfl | rfl | rfl | rfl | rfl | rfl | rfl | rfl | rfl | rfl
  all_goals go_enter Tryz.func80, Tryz.ntmps80
  all_goals go_wp2
  all_goals go_ret
  all_goals refine ⟨?_, hm _⟩
  all_goals first | rfl | simp_all [toE]
end Go.Proofs.YtjojhfphlnfimaaGreatDoor.J

namespace Go.Proofs.YtjojhfphlnfimaaGreatDoor.J
open Go Go.RowKit
set_option linter.unusedSimpArgs false
set_option linter.unusedVariables false

theorem goodE_ch {m : Msg} (h : goodE m) : 0 ≤ m.op.ch ∧ m.op.ch ≤ 255 := by
  have h11 := h 11 (by omega) (by omega)
  by_cases hm : 11 ∈ namedE m.kind
  · have := h11.1 hm
    have e1 : fromE m 11 = if m.op.kind = 1 then 32 else 0 := by simp [fromE]
    have e2 : toE m 11 = if m.op.kind = 1 then 126 else 0 := by simp [toE]
    unfold holdsE at this
    rw [e1, e2, show m.get 11 = m.op.ch from rfl] at this
    split at this <;> omega
  · have := h11.2 hm
    rw [show m.get 11 = m.op.ch from rfl] at this
    omega
theorem holds_lo {m : Msg} (hk : m.kind ≠ 2) {f : Nat} (h : holdsE m f) : 0 ≤ m.get f := by
  have h1 := h.1
  unfold fromE at h1
  simp only [hk, and_false, if_false] at h1
  (repeat' split at h1) <;> omega
theorem holds_hi {m : Msg} (hk : m.kind ≠ 2) {f : Nat} (h : holdsE m f) : m.get f ≤ 4096 := by
  have h1 := h.2
  unfold toE at h1
  simp only [hk, if_false] at h1
  (repeat' split at h1) <;> omega

set_option maxRecDepth 100000 in
set_option maxHeartbeats 1000000 in
theorem rholds_any (m : Msg) (f : Nat) (hf1 : 1 ≤ f) (hf : f < 14) (hch : 0 ≤ m.op.ch ∧ m.op.ch ≤ 255) (hh : holdsE m f) (w : World) : Calls Tryz.prog 52 #[m.v, .int .i64 f] w fun e w' => e = .returned (.bool true) ∧ Mod No w w' := by
  have hg := fun w => rget_any m f hf1 hf hch w
  have hfr := fun w => rfrom_any m f hf1 hf w
  have hto := fun w => rto_any m f hf1 hf w
  obtain ⟨h1, h2⟩ := hh
  obtain ⟨g, hge⟩ : ∃ g, m.get f = g := ⟨_, rfl⟩
  obtain ⟨a, hae⟩ : ∃ g, fromE m f = g := ⟨_, rfl⟩
  obtain ⟨b, hbe⟩ : ∃ g, toE m f = g := ⟨_, rfl⟩
  rw [hge, hae] at h1
  rw [hge, hbe] at h2
  simp only [hge] at hg
  simp only [hae] at hfr
  simp only [hbe] at hto
  clear hge hae hbe hch hf hf1
  have hA : (w.alloc (.cells m.cs.toArray 34)).heap[w.heap.size]? = some (.cells m.cs.toArray 34 (0, 0)) := blk_new _ _ rfl
  have hM0 : Mod No w (w.alloc (.cells m.cs.toArray 34)) := (Mod.refl No w).alloc _
  obtain ⟨k, ep, cl, hv, fi, nu, ac, re, ta, ⟨ok, op, oc, ol, os⟩⟩ := m
  simp only [Msg.v] at hg hfr hto ⊢
  simp only [Msg.cs] at hA hM0
  go_enter Tryz.func52, Tryz.ntmps52
  go_wp2_with (first
    | (go_at_call 53; refine (hg _).mono ?_; rintro e w1 ⟨rfl, hm1⟩; have hA1 := hm1.heap hA (fun h => h); have hQ1 := blk_at hA1; have hM1 := hM0.then0 hm1)
    | (go_at_call 79; refine (hfr _).mono ?_; rintro e w2 ⟨rfl, hm2⟩; have hA2 := hm2.heap hA1 (fun h => h); have hQ2 := blk_at hA2; have hM2 := hM1.then0 hm2)
    | (go_at_call 80; refine (hto _).mono ?_; rintro e w3 ⟨rfl, hm3⟩; have hM3 := hM2.then0 hm3))
  go_ret
  exact ⟨rfl, hM3⟩

theorem ramong_any (A : Option Addr) (n c : Nat) (l : List Nat) (f : Nat) (w : World) (hr : Rd kInt w A n c l) :
    Calls Tryz.prog 51 #[.slice A n c, .int .i64 f] w fun e w' => e = .returned (.bool (decide (f ∈ l))) ∧ w' = w := by
  have HN := Lib.hid hr.1
  have hmx := hr.max
  unfold maxLen at hmx
  go_enter Tryz.func51, Tryz.ntmps51
  go_wp2
  go_loopw [5] (fun s5 wr => ∃ k : Nat, k ≤ n ∧ s5 = .int .i64 k ∧ wr = w ∧ f ∉ l.take k) (fun s5 _ => n - (intOf s5).toNat)
  case atStart => exact ⟨0, Nat.zero_le _, rfl, rfl, by simp⟩
  case round =>
    obtain ⟨k, hk, rfl, rfl, hno⟩ := hrel
    have k0 : (0 : Int) ≤ (k : Int) := by omega
    by_cases hlt : k < n
    · obtain ⟨b0, o0, x, hx, rfl, x1⟩ := hr.int hlt
      have HX := Lib.hid hx
      have HNo := Lib.hid hno
      clear hx hno
      by_cases hxf : x = f
      · subst hxf
        go_wp2
        go_ret
        have := List.mem_of_getElem? HX.out
        exact ⟨by simp [this], rfl⟩
      · have hb : ((x : Int) == (f : Int)) = false := by rw [beq_eq_false_iff_ne]; omega
        go_wp2
        go_roundw
        case rel =>
          refine ⟨k + 1, by omega, by go_num, by trivial, ?_⟩
          rw [List.take_add_one, HX.out]
          have := HNo.out
          simp [this, Ne.symm hxf]
        case measure => simp [intOf]; omega
    · obtain rfl : k = n := by omega
      rw [List.take_of_length_le (Nat.le_of_eq HN.out.symm)] at hno
      have hd : decide (f ∈ l) = false := by simp [hno]
      have HD := Lib.hid hd
      clear hno hd
      go_wp2
      go_ret
      exact ⟨by rw [HD.out]; rfl, rfl⟩

theorem rnamed_any (k : Int) (hk : k = 1 ∨ k = 2 ∨ k = 3 ∨ k = 4 ∨ k = 5 ∨ k = 6) (w : World) : Calls Tryz.prog 50 #[.int .i64 k] w fun e w' => ∃ n, e = .returned (.slice (some ⟨w.heap.size, 0, none⟩) n n) ∧ Mod No w w' ∧ Rd kInt w' (some ⟨w.heap.size, 0, none⟩) n n (namedE k) ∧ 0 < n := by
  rcases hk with rfl | rfl | rfl | rfl | rfl | rfl
  all_goals go_enter Tryz.func50, Tryz.ntmps50
  all_goals go_wp2
  all_goals go_ret
  all_goals exact ⟨_, rfl, (Mod.refl No w).alloc _, Rd.block (blk_new _ _ rfl) _ _ _ rfl (Nat.le_refl _) (by decide) (fun j u h => by rw [Nat.zero_add, ← Array.getElem?_toList]; exact h), by decide⟩
end Go.Proofs.YtjojhfphlnfimaaGreatDoor.J

namespace Go.Proofs.YtjojhfphlnfimaaGreatDoor.J
open Go Go.RowKit
set_option linter.unusedSimpArgs false
set_option linter.unusedVariables false

theorem fieldB_len (m : Msg) (f : Nat) : (fieldB m f).length ≤ 2 := by unfold fieldB; split <;> simp
theorem bytesE_len (m : Msg) (l : List Nat) : (bytesE m l).length ≤ 2 * l.length := by
  induction l with
  | nil => simp [bytesE]
  | cons f l ih => have := fieldB_len m f; simp only [bytesE, List.flatMap_cons, List.length_append, List.length_cons] at *; omega
theorem bytesE_next (m : Msg) (l : List Nat) (k f : Nat) (h : l[k]? = some f) : bytesE m (l.take (k + 1)) = bytesE m (l.take k) ++ fieldB m f := by
  rw [List.take_add_one, h]; simp [bytesE]

set_option maxRecDepth 100000 in
set_option maxHeartbeats 4000000 in
theorem rwritten_any (m : Msg) (A : Option Addr) (n c : Nat) (l : List Nat) (hch : 0 ≤ m.op.ch ∧ m.op.ch ≤ 255) (hl : ∀ f ∈ l, 1 ≤ f ∧ f < 14 ∧ 0 ≤ m.get f ∧ m.get f ≤ 4096) (hn : n ≤ 1000) (w : World) (hr : Rd kInt w A n c l) :
    Calls Tryz.prog 54 #[m.v, .slice A n c] w fun e w' => ∃ B N d, e = .returned (.slice B N d) ∧ Mod No w w' ∧ Own kB 5 w' B N d (bytesE m l) (fun b => w.heap.size ≤ b) := by
  obtain ⟨i, hi1, hi2, hi3, hi4⟩ := info_parts Tryz.infoB
  have HN := Lib.hid hr.1
  have hA : (w.alloc (.cells m.cs.toArray 34)).heap[w.heap.size]? = some (.cells m.cs.toArray 34 (0, 0)) := blk_new _ _ rfl
  have hM0 : Mod No w (w.alloc (.cells m.cs.toArray 34)) := (Mod.refl No w).alloc _
  obtain ⟨bs, hbs⟩ : ∃ b : Nat → List Nat, b = fun k => bytesE m (l.take k) := ⟨_, rfl⟩
  have hbs0 : bs 0 = [] := by rw [hbs]; simp [bytesE]
  have hbsn : bs n = bytesE m l := by rw [hbs]; simp only []; rw [List.take_of_length_le (Nat.le_of_eq HN.out.symm)]
  have hbnx : ∀ k f, l[k]? = some f → bs (k + 1) = bs k ++ fieldB m f := by intro k f h; rw [hbs]; exact bytesE_next m l k f h
  have hbl : ∀ k, k ≤ n → (bs k).length ≤ 2 * n := by
    intro k hk
    rw [hbs]
    have := bytesE_len m (l.take k)
    simp only [List.length_take] at this ⊢
    omega
  have hgt := fun f (h : f ∈ l) w => rget_any m f (hl f h).1 (hl f h).2.1 hch w
  have hwd := fun f (h : f ∈ l) w => rwide_any f (hl f h).2.1 w
  have hlo := fun f (h : f ∈ l) => (hl f h).2.2
  have hfb : ∀ f, fieldB m f = if wideE f = 2 then [(m.get f / 256).toNat % 256, (m.get f % 256).toNat] else [(m.get f % 256).toNat] := fun f => rfl
  rw [← hbsn]
  obtain ⟨G, hG⟩ : ∃ G, m.get = G := ⟨_, rfl⟩
  obtain ⟨FB, hFB⟩ : ∃ F, fieldB m = F := ⟨_, rfl⟩
  rw [hG] at hfb hgt hlo
  rw [hFB] at hbnx hfb
  clear hbs hbsn hl hG hFB hch
  have HNX := Lib.hid hbnx
  have HFB := Lib.hid hfb
  clear hbnx hfb
  obtain ⟨k, ep, cl, hv, fi, nu, ac, re, ta, ⟨ok, op, oc, ol, os⟩⟩ := m
  simp only [Msg.v] at hgt ⊢
  simp only [Msg.cs] at hA hM0
  go_enter Tryz.func54, Tryz.ntmps54
  go_wp2
  have hsz : w.heap.size + 1 ≤ (w.alloc (.cells [Value.int .i64 k, .int .i64 ep, .int .i64 cl, .int .i64 hv, .int .i64 fi, .int .i64 nu, .int .i64 ac, .int .i64 re, .int .i64 ta, .int .i64 ok, .int .i64 op, .int .u8 oc, .int .i64 ol, .int .i64 os].toArray 34)).heap.size := by simp
  go_loopw [5, 6] (fun s5 s6 wr => ∃ (j : Nat) (B : Option Addr) (N d : Nat), j ≤ n ∧ s6 = .int .i64 j ∧ s5 = .slice B N d ∧ Own kB 5 wr B N d (bs j) (fun b => w.heap.size + 1 ≤ b) ∧ Mod No w wr ∧ w.heap.size + 1 ≤ wr.heap.size ∧
     wr.heap[w.heap.size]? = some (.cells #[Value.int .i64 k, .int .i64 ep, .int .i64 cl, .int .i64 hv, .int .i64 fi, .int .i64 nu, .int .i64 ac, .int .i64 re, .int .i64 ta, .int .i64 ok, .int .i64 op, .int .u8 oc, .int .i64 ol, .int .i64 os] 34 (0, 0))) (fun _ s6 _ => n - (intOf s6).toNat)
  case atStart => exact ⟨0, none, 0, 0, Nat.zero_le _, rfl, rfl, by rw [hbs0]; exact Own.nil _ _ _ _, hM0, hsz, hA⟩
  case round =>
    clear hA hM0 hsz hbs0
    obtain ⟨j, B, N, d, hj, rfl, rfl, hO, hM, hsz, hX⟩ := hrel
    have j0 : (0 : Int) ≤ (j : Int) := by omega
    have hNb : N ≤ 2 * n := by rw [hO.1]; exact hbl j hj
    have hQ := blk_at hX
    by_cases hlt : j < n
    · obtain ⟨b0, o0, f, hx, rfl, x1⟩ := (hr.mod0 hM).int hlt
      have HX := Lib.hid (HNX.out _ _ hx)
      have hfm := List.mem_of_getElem? hx
      have hg := fun w => hgt f hfm w
      have hw := fun w => hwd f hfm w
      obtain ⟨l1, l2⟩ := hlo f hfm
      have HF := Lib.hid (HFB.out f)
      clear hgt hwd hlo hx HNX HFB hbl
      obtain ⟨g, hge⟩ : ∃ g, G f = g := ⟨_, rfl⟩
      obtain ⟨wd, hwe⟩ : ∃ g, wideE f = g := ⟨_, rfl⟩
      rw [hge] at l1 l2
      simp only [hge] at hg
      simp only [hwe] at hw
      rw [hge, hwe] at HF
      clear hge hwe hfm
      by_cases hw2 : wd = 2
      · subst hw2
        rw [if_pos rfl] at HF
        go_wp2
        refine wp_region_text (by kernel_rfl) (by kernel_rfl) (by kernel_rfl) (by kernel_rfl) ?_
        go_wp2_with (go_at_call 53; refine (hg _).mono ?_; rintro e w1 ⟨rfl, hm1⟩; have hX1 := hm1.heap hX (fun h => h); have hO1 := hO.drew.mod0 hm1; have hs1 : wr.heap.size ≤ w1.heap.size := hm1.size; have hMr := hM.drew.then0 hm1; have x1b := hm1.cell (a := ⟨b0, o0 + j, none⟩) x1 (fun h => h))
        refine ⟨rfl, by kernel_rfl, ?_⟩
        go_wp2_with (first
          | (go_at_call 81; refine (hw _).mono ?_; rintro e w2 ⟨rfl, rfl⟩)
          | (at_builtin; refine wpList_append_l (k := kB) (T := 5) (w.heap.size + 1) rfl _ _ _ rfl i _ Tryz.underlying75 hi1 hi2 hi3 rfl rfl rfl (by simp; omega) (hO1.alloc _) (Rd.one (blk_new _ _ rfl) ((g / 256).toNat % 256) (by simp [kB]; omega)) (by unfold maxLen; omega) (by rw [hi4]; omega) ?_; intro A2 c2 w3 hO2 hm2 _; have hX3 := hm2.heap (blk_alloc hX1 _) (by first | omega | (dsimp only; omega)); have hs2 := hm2.size)
          | (at_builtin; refine wpList_append_l (k := kB) (T := 5) (w.heap.size + 1) rfl _ _ _ rfl i _ Tryz.underlying75 hi1 hi2 hi3 rfl rfl rfl (by simp at hs2 ⊢; omega) (hO2.alloc _) (Rd.one (blk_new _ _ rfl) ((g % 256).toNat) (by simp [kB]; omega)) (by unfold maxLen; omega) (by rw [hi4]; omega) ?_; intro A4 c4 w5 hO4 hm4 _; have hX5 := hm4.heap (blk_alloc hX3 _) (by first | omega | (dsimp only; omega)); have hs4 := hm4.size))
        have e5 : Own kB 5 w5 A4 (N + 1 + 1) c4 (bs (j + 1)) (fun b => w.heap.size + 1 ≤ b) := by
          rw [HX.out, HF.out, ← List.singleton_append, ← List.append_assoc]; exact hO4
        have hM5 : Mod No w w5 := ((((hMr.alloc _).trans hm2 (fun b hb h => by omega)).alloc _).trans hm4 (fun b hb h => by omega))
        go_roundw
        case rel => exact ⟨j + 1, A4, N + 1 + 1, c4, by omega, by go_num, rfl, e5, hM5, by simp at hs2 hs4; omega, hX5⟩
        case measure => simp [intOf]; omega
      · rw [if_neg hw2] at HF
        have hwf : ((wd : Int) == 2) = false := by rw [beq_eq_false_iff_ne]; omega
        go_wp2
        refine wp_region_text (by kernel_rfl) (by kernel_rfl) (by kernel_rfl) (by kernel_rfl) ?_
        go_wp2_with (go_at_call 53; refine (hg _).mono ?_; rintro e w1 ⟨rfl, hm1⟩; have hX1 := hm1.heap hX (fun h => h); have hO1 := hO.drew.mod0 hm1; have hs1 : wr.heap.size ≤ w1.heap.size := hm1.size; have hMr := hM.drew.then0 hm1; have x1b := hm1.cell (a := ⟨b0, o0 + j, none⟩) x1 (fun h => h))
        refine ⟨rfl, by kernel_rfl, ?_⟩
        go_wp2_with (first
          | (go_at_call 81; refine (hw _).mono ?_; rintro e w2 ⟨rfl, rfl⟩)
          | (at_builtin; refine wpList_append_l (k := kB) (T := 5) (w.heap.size + 1) rfl _ _ _ rfl i _ Tryz.underlying75 hi1 hi2 hi3 rfl rfl rfl (by simp; omega) (hO1.alloc _) (Rd.one (blk_new _ _ rfl) ((g % 256).toNat) (by simp [kB]; omega)) (by unfold maxLen; omega) (by rw [hi4]; omega) ?_; intro A2 c2 w3 hO2 hm2 _; have hX3 := hm2.heap (blk_alloc hX1 _) (by first | omega | (dsimp only; omega)); have hs2 := hm2.size))
        have e5 : Own kB 5 w3 A2 (N + 1) c2 (bs (j + 1)) (fun b => w.heap.size + 1 ≤ b) := by
          rw [HX.out, HF.out]; exact hO2
        have hM5 : Mod No w w3 := ((hMr.alloc _).trans hm2 (fun b hb h => by omega))
        go_roundw
        case rel => exact ⟨j + 1, A2, N + 1, c2, by omega, by go_num, rfl, e5, hM5, by simp at hs2; omega, hX3⟩
        case measure => simp [intOf]; omega
    · obtain rfl : j = n := by omega
      go_wp2
      go_ret
      exact ⟨B, N, d, rfl, hM, hO.mono (fun b _ h => by omega)⟩
end Go.Proofs.YtjojhfphlnfimaaGreatDoor.J

namespace Go.Proofs.YtjojhfphlnfimaaGreatDoor.J
open Go Go.RowKit
set_option linter.unusedSimpArgs false
set_option linter.unusedVariables false

theorem namedE_in {k : Int} {f : Nat} (h : f ∈ namedE k) : 1 ≤ f ∧ f < 14 := by
  unfold namedE at h
  repeat' split at h
  all_goals simp at h
  all_goals omega
theorem namedE_len (k : Int) : (namedE k).length ≤ 10 := by
  unfold namedE
  repeat' split
  all_goals decide
theorem bytesE_ok (m : Msg) (l : List Nat) : bytesOk (bytesE m l) := by
  intro c hc
  simp only [bytesE, List.mem_flatMap] at hc
  obtain ⟨f, _, hc⟩ := hc
  unfold fieldB at hc
  split at hc <;> simp at hc <;> omega

set_option maxRecDepth 100000 in
set_option maxHeartbeats 4000000 in
theorem rencode_any (m : Msg) (hk : m.kind = 1 ∨ m.kind = 2 ∨ m.kind = 3 ∨ m.kind = 4 ∨ m.kind = 5 ∨ m.kind = 6) (hk2 : m.kind ≠ 2) (hg : goodE m) (w : World) :
    Calls Tryz.prog 30 #[m.v] w fun e w' => ∃ B N d, e = .returned (.tuple #[.slice B N d, .int .i64 0, .int .i64 (-1)]) ∧ Mod No w w' ∧ Own kB 5 w' B N d (encE m) (fun b => w.heap.size ≤ b) := by
  obtain ⟨i, hi1, hi2, hi3, hi4⟩ := info_parts Tryz.infoB
  have hch := goodE_ch hg
  have hA : (w.alloc (.cells m.cs.toArray 34)).heap[w.heap.size]? = some (.cells m.cs.toArray 34 (0, 0)) := blk_new _ _ rfl
  have hM0 : Mod No w (w.alloc (.cells m.cs.toArray 34)) := (Mod.refl No w).alloc _
  have hnm := fun w => (rnamed_any m.kind hk w).mono (R' := fun e w' => ∃ n A, e = .returned (.slice A n n) ∧ Mod No w w' ∧ Rd kInt w' A n n (namedE m.kind) ∧ 0 < n) (fun e w' ⟨n, a, b, c, d⟩ => ⟨n, _, a, b, c, d⟩)
  have hEn : encE m = sealE ([(m.kind % 256).toNat] ++ bytesE m (namedE m.kind)) := rfl
  have hok : bytesOk ([(m.kind % 256).toNat] ++ bytesE m (namedE m.kind)) := by
    intro c hc
    simp only [List.mem_append, List.mem_singleton] at hc
    rcases hc with rfl | hc
    · omega
    · exact bytesE_ok _ _ c hc
  have hlenB : ([(m.kind % 256).toNat] ++ bytesE m (namedE m.kind)).length ≤ 21 := by
    have h1 := bytesE_len m (namedE m.kind)
    have h2 := namedE_len m.kind
    simp only [List.length_append, List.length_singleton]; omega
  have hwr := fun A n c w hr hn => rwritten_any m A n c (namedE m.kind) hch (fun f hf => by
    have h1 := namedE_in hf
    have h2 := (hg f h1.1 (by omega)).1 hf
    exact ⟨h1.1, h1.2, holds_lo hk2 h2, holds_hi hk2 h2⟩) hn w hr
  have hho := fun f (h1 : 1 ≤ f) (h2 : f < 14) (h3 : f ∈ namedE m.kind) w => rholds_any m f h1 h2 hch ((hg f h1 (by omega)).1 h3) w
  have hge := fun f (h1 : 1 ≤ f) (h2 : f < 14) (h3 : ¬ f ∈ namedE m.kind) w => by
    have := rget_any m f h1 h2 hch w
    rw [(hg f h1 (by omega)).2 h3] at this
    exact this
  rw [hEn]
  obtain ⟨L, hL⟩ : ∃ L, bytesE m (namedE m.kind) = L := ⟨_, rfl⟩
  obtain ⟨l, hl⟩ : ∃ l, namedE m.kind = l := ⟨_, rfl⟩
  have hl10 : l.length ≤ 10 := by rw [← hl]; exact namedE_len _
  rw [hL] at hok hlenB ⊢
  rw [hl] at hwr hho hge hnm hL
  rw [hL] at hwr
  clear hEn hL hl hg hch
  have hkr : 1 ≤ m.kind ∧ m.kind ≤ 6 := by omega
  clear hk hk2
  obtain ⟨k, ep, cl, hv, fi, nu, ac, re, ta, ⟨ok, op, oc, ol, os⟩⟩ := m
  simp only [Msg.v] at hwr hho hge ⊢
  simp only [Msg.cs] at hA hM0
  dsimp only at hnm hkr hok hlenB ⊢
  obtain ⟨hk1, hk6⟩ := hkr
  have hQ := blk_at hA
  go_enter Tryz.func30, Tryz.ntmps30
  go_wp2_with (go_at_call 50; refine (hnm _).mono ?_; rintro e w1 ⟨n, An, rfl, hm1, hR1, hn0⟩; have hA1 := hm1.heap hA (fun h => h); have hM1 := hM0.then0 hm1; have hnz : ((n : Int) == 0) = false := by rw [beq_eq_false_iff_ne]; omega)
  have hn10 : n ≤ 10 := by rw [hR1.1]; exact hl10
  have hsz1 : w.heap.size + 1 ≤ w1.heap.size := by have := hm1.size; simpa using this
  clear hA hM0 hQ hnm hm1 hl10
  go_loopw [6] (fun s6 wr => ∃ f : Nat, 1 ≤ f ∧ f ≤ 14 ∧ s6 = .int .i64 f ∧ Mod No w1 wr) (fun s6 _ => 14 - (intOf s6).toNat)
  case atStart => exact ⟨1, Nat.le_refl _, by omega, rfl, Mod.refl _ _⟩
  case round =>
    obtain ⟨f, hf1, hf, rfl, hM⟩ := hrel
    have f0 : (0 : Int) ≤ (f : Int) := by omega
    have hRr := hR1.mod0 hM
    have hAr := hM1.then0 hM
    have hX := hM.heap hA1 (fun h => h)
    have hQ := blk_at hX
    by_cases hlt : f < 14
    · by_cases hin : f ∈ l
      · have hd : decide (f ∈ l) = true := by simp [hin]
        have hh := hho f hf1 hlt hin
        clear hho hge hwr
        go_wp2_with (first
          | (go_at_call 51; refine (ramong_any _ _ _ l f _ hRr).mono ?_; rintro e w2 ⟨rfl, rfl⟩; rw [hd])
          | (go_at_call 52; refine (hh _).mono ?_; rintro e w3 ⟨rfl, hm3⟩))
        go_roundw
        case rel => exact ⟨f + 1, by omega, by omega, by go_num, hM.then0 hm3⟩
        case measure => simp [intOf]; omega
      · have hd : decide (f ∈ l) = false := by simp [hin]
        have hh := hge f hf1 hlt hin
        clear hho hge hwr
        go_wp2_with (first
          | (go_at_call 51; refine (ramong_any _ _ _ l f _ hRr).mono ?_; rintro e w2 ⟨rfl, rfl⟩; rw [hd])
          | (go_at_call 53; refine (hh _).mono ?_; rintro e w3 ⟨rfl, hm3⟩))
        go_roundw
        case rel => exact ⟨f + 1, by omega, by omega, by go_num, hM.then0 hm3⟩
        case measure => simp [intOf]; omega
    · obtain rfl : f = 14 := by omega
      clear hho hge hA1 hR1
      go_wp2
      have hszr : w.heap.size + 1 ≤ wr.heap.size := by have := hM.size; omega
      refine wp_region_fork ([0, 1, 2, 4, 5].map (·, false)) 4 #[true, true, true, false, true, true, false, false, false] (by kernel_rfl) (by kernel_rfl) (by kernel_rfl) (by kernel_rfl) ?_
      simp only [List.map_cons, List.map_nil, List.filterMap_cons, List.filterMap_nil, pick, List.getElem?_toArray, List.getElem?_cons_zero, List.getElem?_cons_succ, Option.map_some]
      refine wpSeg_rest [_, _, _, _, _] ?_
      go_wp2
      refine ⟨rfl, by kernel_rfl, fun hd => ?_⟩
      refine wpAnyL_fork2 3 6 false true [(6, true), (7, false), (8, false)] [(3, false), (7, false), (8, false)] 0 0 #[true, true, true, true, true, true, true, true, true] #[true, true, true, true, true, true, true, true, true] (by kernel_rfl) (by kernel_rfl) hd (by decide) (by decide) (by kernel_rfl) (by kernel_rfl) (by kernel_rfl) (by kernel_rfl) (by kernel_rfl) ?_ ?_
      · simp only [List.map_cons, List.map_nil, List.filterMap_cons, List.filterMap_nil, pick, List.getElem?_toArray, List.getElem?_cons_zero, List.getElem?_cons_succ, Option.map_some]
        refine wpSeg_cut (fun e a w h => h.1) [_] _ _ _ ?_
        go_wp2
        refine wpSeg_markG (by kernel_rfl) ?_
        go_wp2_with (go_at_call 54; refine (hwr _ _ _ _ ((hRr.alloc _).drew) (by omega)).mono ?_; rintro e w5 ⟨B5, N5, d5, rfl, hm5, hO5⟩; refine ⟨fun b hb => hm5.block b hb (fun hf => hf), ?_⟩)
        have hO6 : Own kB 5 w5 (some ⟨wr.heap.size, 0, none⟩) 1 1 [(k % 256).toNat] (fun b => wr.heap.size ≤ b) :=
          Own.mod0 (Own.drew (Own.ofB (C := [.int .u8 k]) (blk_new _ _ rfl) (Nat.le_refl _) rfl (Nat.le_refl _) (by decide) (by simp) (by simp [kB, K.all]; omega))) hm5
        have hR5 := hO5.rd
        have hN5 : N5 ≤ 20 := by rw [hO5.1]; simp only [List.length_append, List.length_singleton] at hlenB; omega
        have hs5 : wr.heap.size + 1 ≤ w5.heap.size := by have := hm5.size; simpa using this
        have hM5 := (hAr.alloc _).drew.then0 hm5
        clear hO5
        refine wpSeg_rest [_, _] ?_
        go_wp2_with (at_builtin; refine wpList_append_l (k := kB) (T := 5) wr.heap.size rfl _ _ _ rfl i _ Tryz.underlying75 hi1 hi2 hi3 rfl rfl rfl (by omega) hO6 hR5 (by unfold maxLen; omega) (by rw [hi4]; omega) ?_; intro A7 c7 w7 hO7 hm7 _)
        have hM7 := hM5.own hm7 (by omega)
        refine ⟨rfl, by kernel_rfl, fun _ => wpAnyL_done (by kernel_rfl) ⟨rfl, ?_⟩⟩
        have hE7 : 1 + N5 ≤ 100000 := by omega
        clear hM5 hO6 hR5 hm5 hm7
        go_wp2_with (go_at_call 55; refine (rseal_any A7 _ c7 _ _ hO7.rd hok hE7).mono ?_; rintro e w8 ⟨B8, d8, rfl, hm8, hO8⟩)
        go_ret3
        exact ⟨B8, _, d8, rfl, hM7.then0 hm8, hO8.mono (fun b _ h => by have := hM7.size; omega)⟩
      · simp only [List.map_cons, List.map_nil, List.filterMap_cons, List.filterMap_nil, pick, List.getElem?_toArray, List.getElem?_cons_zero, List.getElem?_cons_succ, Option.map_some]
        refine wpSeg_markG (by kernel_rfl) ?_
        go_wp2_with (go_at_call 54; refine (hwr _ _ _ _ (hRr.drew) (by omega)).mono ?_; rintro e w5 ⟨B5, N5, d5, rfl, hm5, hO5⟩; refine ⟨fun b hb => hm5.block b hb (fun hf => hf), ?_⟩)
        have hO6 : Own kB 5 (w5.alloc (.cells #[.int .u8 k] 5)) (some ⟨w5.heap.size, 0, none⟩) 1 1 [(k % 256).toNat] (fun b => w5.heap.size ≤ b) :=
          Own.ofB (C := [.int .u8 k]) (blk_new _ _ rfl) (Nat.le_refl _) rfl (Nat.le_refl _) (by decide) (by simp) (by simp [kB, K.all]; omega)
        have hR5 := hO5.rd.alloc (.cells #[.int .u8 k] 5)
        have hN5 : N5 ≤ 20 := by rw [hO5.1]; simp only [List.length_append, List.length_singleton] at hlenB; omega
        have hs5 : wr.heap.size ≤ w5.heap.size := hm5.size
        have hM5 := (hAr.drew.then0 hm5).alloc (.cells #[.int .u8 k] 5)
        clear hO5
        refine wpSeg_rest [_, _, _] ?_
        go_wp2_with (at_builtin; refine wpList_append_l (k := kB) (T := 5) w5.heap.size rfl _ _ _ rfl i _ Tryz.underlying75 hi1 hi2 hi3 rfl rfl rfl (by simp) hO6 hR5 (by unfold maxLen; omega) (by rw [hi4]; omega) ?_; intro A7 c7 w7 hO7 hm7 _)
        have hM7 := hM5.own hm7 (by have := hAr.size; omega)
        refine ⟨rfl, by kernel_rfl, fun _ => wpAnyL_done (by kernel_rfl) ⟨rfl, ?_⟩⟩
        have hE7 : 1 + N5 ≤ 100000 := by omega
        clear hM5 hO6 hR5 hm5 hm7
        go_wp2_with (go_at_call 55; refine (rseal_any A7 _ c7 _ _ hO7.rd hok hE7).mono ?_; rintro e w8 ⟨B8, d8, rfl, hm8, hO8⟩)
        go_ret3
        exact ⟨B8, _, d8, rfl, hM7.then0 hm8, hO8.mono (fun b _ h => by have := hM7.size; omega)⟩
end Go.Proofs.YtjojhfphlnfimaaGreatDoor.J

namespace Go.Proofs.YtjojhfphlnfimaaGreatDoor.J
open Go Go.RowKit
set_option linter.unusedSimpArgs false
set_option linter.unusedVariables false

theorem sumB_at (l : List Nat) (i : Nat) (h : i < 4) : (sumB l)[i]? = some (crcE l / 2 ^ (8 * i) % 256) ∨ crcE l ≥ 4294967296 := by
  by_cases hb : crcE l < 4294967296
  · left
    have : i = 0 ∨ i = 1 ∨ i = 2 ∨ i = 3 := by omega
    rcases this with rfl | rfl | rfl | rfl
    · simp [sumB]
    · simp [sumB]
    · simp [sumB]
    · simp only [sumB]
      show some (crcE l / 16777216) = some (crcE l / 16777216 % 256)
      rw [Nat.mod_eq_of_lt (by omega)]
  · right; omega
theorem sumB_len (l : List Nat) : (sumB l).length = 4 := rfl

set_option maxRecDepth 100000 in
set_option maxHeartbeats 2000000 in
theorem oopen_ok (A : Option Addr) (n c : Nat) (l : List Nat) (w : World) (hr : Rd kB w A (n + 4) c (sealE l)) (hb : bytesOk l) (hT : OcT w) (hn : n ≤ 1000000) :
    Calls Tryz.prog 72 #[.slice A (n + 4) c] w fun e w' => ∃ B, e = .returned (.tuple #[.slice B n n, .nilIface]) ∧ Mod No w w' ∧ Rd kB w' B n n l := by
  have hl : n = l.length := by have := hr.1; simp only [sealE, List.length_append, sumB_len] at this; omega
  have hr1 := hr.head (p := n) (by omega)
  have ht : (sealE l).take n = l := by rw [sealE, hl]; exact List.take_left' rfl
  rw [ht] at hr1
  have hE := crcE_lt l hb
  have hcell : ∀ i, i < 4 → ∃ b o, A = some ⟨b, o, none⟩ ∧ w.cell? ⟨b, o + (n + i), none⟩ = some (.int .u8 (crcE l / 2 ^ (8 * i) % 256 : Nat)) := by
    intro i hi
    obtain ⟨b, o, x, hx, ha, hc⟩ := hr.byte (i := n + i) (by omega)
    refine ⟨b, o, ha, ?_⟩
    rw [sealE, List.getElem?_append_right (by omega), show n + i - l.length = i by omega] at hx
    rcases sumB_at l i hi with h | h
    · rw [hx] at h; rw [hc, Option.some.inj h]
    · omega
  have hmx := hr.max
  unfold maxLen at hmx
  have hR := hr1
  have hsum := osum_any A n c l w hr1 hb hT
  obtain ⟨E, hEe⟩ : ∃ E, crcE l = E := ⟨_, rfl⟩
  rw [hEe] at hcell hsum hE
  clear hEe hr1 ht hT
  have hcap : n + 4 ≤ c := hr.2.1
  have hc2 : c ≤ 9223372036854775807 := by have := hr.2.2.1; unfold maxLen at this; exact this
  clear hr hl
  have n0 : (0 : Int) ≤ (n : Int) := by omega
  go_enter Tryz.func72, Tryz.ntmps72
  go_wp2_with (go_at_call 96; refine hsum.mono ?_; rintro e w1 ⟨rfl, rfl⟩)
  clear hsum
  go_loopw [6, 20] (fun _ s20 wr => ∃ i : Nat, i ≤ 4 ∧ s20 = .int .i64 i ∧ Mod No w1 wr) (fun _ s20 _ => 4 - (intOf s20).toNat)
  case atStart => exact ⟨0, by omega, rfl, Mod.refl _ _⟩
  case round =>
    obtain ⟨i, hi, rfl, hM⟩ := hrel
    have i0 : (0 : Int) ≤ (i : Int) := by omega
    by_cases hlt : i < 4
    · obtain ⟨b, o, rfl, hc⟩ := hcell i hlt
      have hc1 := hM.cell hc (fun h => h)
      clear hc hcell hR
      have hi4 : i = 0 ∨ i = 1 ∨ i = 2 ∨ i = 3 := by omega
      rcases hi4 with rfl | rfl | rfl | rfl
      all_goals simp only [Nat.mul_zero, Nat.mul_one, Nat.reduceMul, Nat.pow_zero, Nat.div_one, Nat.reducePow, Nat.add_zero, Int.natCast_emod, Int.natCast_ediv] at hc1
      all_goals go_wp2
      all_goals refine wp_region_text (by kernel_rfl) (by kernel_rfl) (by kernel_rfl) (by kernel_rfl) ?_
      all_goals go_wp2
      all_goals refine ⟨rfl, by kernel_rfl, ?_⟩
      all_goals go_wp2
      all_goals go_roundw
      · exact ⟨1, by omega, rfl, hM.drew⟩
      · simp [intOf]
      · exact ⟨2, by omega, rfl, hM.drew⟩
      · simp [intOf]
      · exact ⟨3, by omega, rfl, hM.drew⟩
      · simp [intOf]
      · exact ⟨4, by omega, rfl, hM.drew⟩
      · simp [intOf]
    · obtain rfl : i = 4 := by omega
      go_wp2_with (go_at_call 97; refine (with_nil A n c l _ (hR.mod0 hM) (by omega)).mono ?_; rintro e w2 ⟨rfl, hm2, hO2⟩)
      go_ret2
      exact ⟨_, rfl, hM.then0 hm2, hO2.rd⟩

theorem as_nil (t : Value) (w : World) : Calls Tryz.prog 73 #[.nilIface, t] w fun e w' => e = .returned (.bool false) ∧ w' = w := by
  go_enter Tryz.func73, Tryz.ntmps73
  go_wp2
  go_ret
  exact ⟨rfl, rfl⟩

set_option maxRecDepth 100000 in
set_option maxHeartbeats 2000000 in
theorem wbody_ok (A : Option Addr) (n c : Nat) (l : List Nat) (w : World) (hr : Rd kB w A (n + 4) c (sealE l)) (hb : bytesOk l) (hT : OcT w) (hn : n ≤ 60) (hn0 : 0 < n) :
    Calls Tryz.prog 45 #[.slice A (n + 4) c] w fun e w' => ∃ B, e = .returned (.tuple #[.slice B n n, .nilIface]) ∧ Mod No w w' ∧ Rd kB w' B n n l := by
  have ho := oopen_ok A n c l w hr hb hT (by omega)
  clear hr hT
  have hnz : ((n : Int) == 0) = false := by rw [beq_eq_false_iff_ne]; omega
  go_enter Tryz.func45, Tryz.ntmps45
  go_wp2_with (first
    | (go_at_call 72; refine ho.mono ?_; rintro e w1 ⟨B, rfl, hm1, hR1⟩)
    | (go_at_call 73; refine (as_nil _ _).mono ?_; rintro e w2 ⟨rfl, rfl⟩))
  go_ret2
  exact ⟨B, rfl, hm1.alloc _, hR1.alloc _⟩

/-- A reader at its block. -/
def RdrAt (w : World) (p : Nat) (A : Option Addr) (n c : Nat) (l : List Nat) (at_ : Nat) : Prop :=
  w.heap[p]? = some (.cells #[.slice A n c, .int .i64 at_, .nilIface] 197 (0, 0)) ∧ Rd kB w A n c l ∧ inBlk A (fun b => b ≠ p)

theorem newReader_ok (A : Option Addr) (n c : Nat) (l : List Nat) (w : World) (hr : Rd kB w A n c l) (hn : n ≤ 60) :
    Calls Tryz.prog 75 #[.slice A n c] w fun e w' => ∃ p B, e = .returned (.pointer (some ⟨p, 0, none⟩)) ∧ Mod No w w' ∧ RdrAt w' p B n n l 0 ∧ w.heap.size ≤ p ∧ inBlk B (fun b => w.heap.size ≤ b) := by
  have hwn := with_nil A n c l w hr (by omega)
  clear hr
  go_enter Tryz.func75, Tryz.ntmps75
  go_wp2_with (go_at_call 97; refine hwn.mono ?_; rintro e w2 ⟨rfl, hm2, hO2⟩)
  go_ret
  have hlt := hO2.blkLt _ rfl
  have hs := hm2.size
  exact ⟨_, _, rfl, hm2.alloc _, ⟨blk_new _ _ rfl, hO2.rd.alloc _, fun a ha => by cases ha; exact Nat.ne_of_lt hlt⟩, hs, fun a ha => by cases ha; exact Nat.le_refl _⟩

set_option maxRecDepth 100000 in
set_option maxHeartbeats 2000000 in
theorem rnext_ok (p : Nat) (A : Option Addr) (n c : Nat) (l : List Nat) (t k : Nat) (w : World) (h : RdrAt w p A n c l t) (ht : t + k ≤ n) (hk0 : 0 < k) (hn : n ≤ 60) :
    Calls Tryz.prog 115 #[.pointer (some ⟨p, 0, none⟩), .int .i64 k] w fun e w' => ∃ b o d, e = .returned (.slice (some ⟨b, o + t, none⟩) k d) ∧ A = some ⟨b, o, none⟩ ∧ Mod (fun b => b = p) w w' ∧ RdrAt w' p A n c l (t + k) := by
  obtain ⟨hB, hR, hne⟩ := h
  have hC := blk_at hB
  have hF := blk_free hB
  obtain ⟨b, o, x, _, rfl, _⟩ := hR.byte (i := t) (by omega)
  have hcap := hR.2.1
  have hmx := hR.2.2.1
  unfold maxLen at hmx
  have t0 : (0 : Int) ≤ (t : Int) := by omega
  have k0 : (0 : Int) ≤ (k : Int) := by omega
  have g1 : decide ((k : Int) < 0) = false := by simp
  have g2 : decide ((n : Int) - (t : Int) < (k : Int)) = false := by simp; omega
  have ekt : ((t + k : Nat) : Int) = (t : Int) + (k : Int) := by push_cast; rfl
  have hnb : b ≠ p := by have := hne _ rfl; exact this
  have hset := blk_set hB 1 (.int .i64 ((t : Int) + (k : Int)))
  rw [← ekt] at hset
  have HSet := Lib.hid hset
  clear hset ekt
  have hmod : Mod (fun b => b = p) w (w.setCell ⟨p, 1, none⟩ (.int .i64 ((t : Int) + (k : Int)))) := (Mod.refl (fun b => b = p) w).setCell (p := ⟨p, 1, none⟩) (.inl rfl) _
  have hR' := hR.mod hmod (fun a ha => by cases ha; exact hnb)
  clear hB
  go_enter Tryz.func115, Tryz.ntmps115
  go_wp2
  go_quiet (fail)
  go_wp2
  go_quiet (fail)
  go_wp2
  go_ret
  refine ⟨b, o, c - t, ?_, rfl, ?_, ?_⟩
  · show Ending.returned (.slice (some ⟨b, o + t, none⟩) (t + k - t) (c - t)) = _
    rw [Nat.add_sub_cancel_left]
  · exact ((Mod.refl (fun b => b = p) w).drewN _).setCell (p := ⟨p, 1, none⟩) (.inl rfl) _
  · exact ⟨HSet.out, hR', hne⟩

/-- The number of the first j of the bytes a 0, a 1, .. -/
def numE (a : Nat → Nat) : Nat → Nat
  | 0 => 0
  | j + 1 => numE a j * 256 + a j
theorem or_u32 (v c : Nat) (hv : v < 65536) (hc : c < 256) : bits .or .u32 ((v : Int) * 256) (c : Int) = ((v * 256 + c : Nat) : Int) := by
  have e0 : ((v : Int) * 256) = ((v * 256 : Nat) : Int) := by omega
  have h1 : (BitVec.ofInt 32 ((v * 256 : Nat) : Int)).toNat = v * 256 := by rw [BitVec.ofInt_natCast, BitVec.toNat_ofNat]; exact Nat.mod_eq_of_lt (by omega)
  have h2 : (BitVec.ofInt 32 (c : Int)).toNat = c := by rw [BitVec.ofInt_natCast, BitVec.toNat_ofNat]; exact Nat.mod_eq_of_lt (by omega)
  rw [e0]
  show IntKind.u32.wrap ((BitVec.ofInt 32 ((v * 256 : Nat) : Int) ||| BitVec.ofInt 32 (c : Int)).toNat : Int) = _
  have h3 : v * 256 ||| c = v * 256 + c := by
    have := Nat.shiftLeft_add_eq_or_of_lt (b := c) (i := 8) (by omega) v
    rw [Nat.shiftLeft_eq] at this
    exact this.symm
  rw [BitVec.toNat_or, h1, h2, wrap_u32, h3]
  omega

set_option maxRecDepth 100000 in
set_option maxHeartbeats 2000000 in
theorem rnumber_ok (p : Nat) (A : Option Addr) (n c : Nat) (l : List Nat) (t k : Nat) (w : World) (h : RdrAt w p A n c l t) (hb : bytesOk l) (ht : t + k ≤ n) (hk0 : 0 < k) (hk2 : k ≤ 2) (hn : n ≤ 60) :
    Calls Tryz.prog 108 #[.pointer (some ⟨p, 0, none⟩), .int .i64 k] w fun e w' => e = .returned (.int .u32 (numE (fun i => l.getD (t + i) 0) k)) ∧ Mod (fun b => b = p) w w' ∧ RdrAt w' p A n c l (t + k) := by
  have hnx := rnext_ok p A n c l t k w h ht hk0 hn
  clear h
  obtain ⟨a, ha⟩ : ∃ a : Nat → Nat, a = fun i => l.getD (t + i) 0 := ⟨_, rfl⟩
  have hal : ∀ i x, l[t + i]? = some x → a i = x := by intro i x h; rw [ha]; simp [List.getD_eq_getElem?_getD, h]
  rw [← ha]
  clear ha
  go_enter Tryz.func108, Tryz.ntmps108
  go_wp2_with (go_at_call 115; refine hnx.mono ?_; rintro e w1 ⟨b, o, d, rfl, rfl, hm1, hR1⟩)
  go_loopw [5, 12] (fun s5 s12 wr => ∃ j : Nat, j ≤ k ∧ s12 = .int .i64 j ∧ s5 = .int .u32 (numE a j) ∧ (j < k → numE a j < 256) ∧ wr = w1) (fun _ s12 _ => k - (intOf s12).toNat)
  case atStart => exact ⟨0, by omega, rfl, rfl, fun _ => by simp [numE], rfl⟩
  case round =>
    obtain ⟨j, hj, rfl, rfl, hlt256, rfl⟩ := hrel
    have j0 : (0 : Int) ≤ (j : Int) := by omega
    by_cases hlt : j < k
    · obtain ⟨b1, o1, y, hy, hA, hc⟩ := hR1.2.1.byte (i := t + j) (by omega)
      simp only [Option.some.injEq, Addr.mk.injEq, and_true] at hA
      obtain ⟨rfl, rfl⟩ := hA
      have hy256 := hb y (List.mem_of_getElem? hy)
      have e1 := hal j y hy
      have e2 : numE a (j + 1) = numE a j * 256 + y := by rw [numE, e1]
      have HY := Lib.hid hy
      have E2 := Lib.hid e2
      have hv := hlt256 hlt
      have hlt2 : j + 1 < k → numE a (j + 1) < 256 := by
        intro h
        have : j = 0 := by omega
        subst this
        rw [e2]; simp [numE]; exact hy256
      have H2 := Lib.hid hlt2
      clear hy e1 e2 hlt256 hlt2
      obtain ⟨v, hve⟩ : ∃ v, numE a j = v := ⟨_, rfl⟩
      rw [hve] at hv E2 ⊢
      clear hve
      have ho := or_u32 v y (by omega) hy256
      rw [← Nat.add_assoc] at hc
      go_wp2
      go_roundw
      case rel => exact ⟨j + 1, by omega, by go_num, by rw [E2.out]; push_cast; rfl, H2.out, trivial⟩
      case measure => simp [intOf]; omega
    · obtain rfl : j = k := by omega
      go_wp2
      go_ret
      exact ⟨rfl, hm1, hR1⟩

theorem numE_lt (l : List Nat) (t k : Nat) (hb : bytesOk l) (hk : k ≤ 2) : numE (fun i => l.getD (t + i) 0) k < 65536 := by
  have h : ∀ i, l.getD i 0 < 256 := by
    intro i
    rw [List.getD_eq_getElem?_getD]
    cases hi : l[i]? with
    | none => simp
    | some x => exact hb x (List.mem_of_getElem? hi)
  have h0 := h (t + 0)
  have h1 := h (t + 1)
  have : k = 0 ∨ k = 1 ∨ k = 2 := by omega
  rcases this with rfl | rfl | rfl <;> simp only [numE] <;> omega
set_option maxHeartbeats 1000000 in
theorem u8_ok (p : Nat) (A : Option Addr) (n c : Nat) (l : List Nat) (t : Nat) (w : World) (h : RdrAt w p A n c l t) (hb : bytesOk l) (ht : t + 1 ≤ n) (hn : n ≤ 60) :
    Calls Tryz.prog 76 #[.pointer (some ⟨p, 0, none⟩)] w fun e w' => e = .returned (.int .i64 (numE (fun i => l.getD (t + i) 0) 1)) ∧ Mod (fun b => b = p) w w' ∧ RdrAt w' p A n c l (t + 1) := by
  have h1 := rnumber_ok p A n c l t 1 w h hb ht (by decide) (by decide) hn
  have hlt := numE_lt l t 1 hb (by decide)
  obtain ⟨x, hx⟩ : ∃ x, numE (fun i => l.getD (t + i) 0) 1 = x := ⟨_, rfl⟩
  rw [hx] at h1 hlt ⊢
  clear h
  go_enter Tryz.func76, Tryz.ntmps76
  go_wp2_with (go_at_call 108; refine h1.mono ?_; rintro e w1 ⟨rfl, hm1, hR1⟩)
  go_ret
  exact ⟨rfl, hm1, hR1⟩
set_option maxHeartbeats 1000000 in
theorem u16_ok (p : Nat) (A : Option Addr) (n c : Nat) (l : List Nat) (t : Nat) (w : World) (h : RdrAt w p A n c l t) (hb : bytesOk l) (ht : t + 2 ≤ n) (hn : n ≤ 60) :
    Calls Tryz.prog 77 #[.pointer (some ⟨p, 0, none⟩)] w fun e w' => e = .returned (.int .i64 (numE (fun i => l.getD (t + i) 0) 2)) ∧ Mod (fun b => b = p) w w' ∧ RdrAt w' p A n c l (t + 2) := by
  have h1 := rnumber_ok p A n c l t 2 w h hb ht (by decide) (by decide) hn
  have hlt := numE_lt l t 2 hb (by decide)
  obtain ⟨x, hx⟩ : ∃ x, numE (fun i => l.getD (t + i) 0) 2 = x := ⟨_, rfl⟩
  rw [hx] at h1 hlt ⊢
  clear h
  go_enter Tryz.func77, Tryz.ntmps77
  go_wp2_with (go_at_call 108; refine h1.mono ?_; rintro e w1 ⟨rfl, hm1, hR1⟩)
  go_ret
  exact ⟨rfl, hm1, hR1⟩
theorem at_ok (p : Nat) (A : Option Addr) (n c : Nat) (l : List Nat) (t : Nat) (w : World) (h : RdrAt w p A n c l t) :
    Calls Tryz.prog 78 #[.pointer (some ⟨p, 0, none⟩)] w fun e w' => e = .returned (.int .i64 t) ∧ w' = w := by
  have hC := blk_at h.1
  go_enter Tryz.func78, Tryz.ntmps78
  go_wp2
  go_ret
  exact ⟨rfl, rfl⟩
end Go.Proofs.YtjojhfphlnfimaaGreatDoor.J
