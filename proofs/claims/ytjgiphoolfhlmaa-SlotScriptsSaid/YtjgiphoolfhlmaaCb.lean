/- Sums of bytes: the document's bit by bit, the program's by halves of bytes: they are the same. Plain law. -/
import Derived.Test.YtjgiphoolfhlmaaL8
import Derived.Test.YtjgiphoolfhlmaaProg
import Derived.Test.YtjgiphoolfhlmaaL1
import Derived.Test.YtjgiphoolfhlmaaL2
import Derived.WalkKit
import Derived.Deep.Cut
import Derived.Deep.CutBlock
import Derived.Deep.QuietTactic
import Derived.BigQuiet
import Derived.IntWalk
namespace Go.Proofs.Ytjgiphoolfhlmaa
set_option linter.unusedVariables false

/-- The polynomial. -/
def polyC : Nat := 2197175160
/-- One bit goes through. -/
def bitC (r b : Nat) : Nat := r / 2 ^^^ (if (r + b) % 2 = 1 then polyC else 0)
def L1c (r : Nat) : Nat := r / 2 ^^^ (if r % 2 = 1 then polyC else 0)
def L4c (r : Nat) : Nat := L1c (L1c (L1c (L1c r)))
/-- The sums of four bits. -/
def tabC (i : Nat) : Nat := L4c (i % 16)
/-- Four bits go through. -/
def nibC (r h : Nat) : Nat := r / 16 ^^^ tabC (r ^^^ h)
def byteC (r x : Nat) : Nat := nibC (nibC r (x % 16)) (x / 16)
def bits8 (r x : Nat) : Nat := (List.range 8).foldl (fun r k => bitC r (x / 2 ^ k % 2)) r
def extC (r : Nat) (bs : List UInt8) : Nat := bs.foldl (fun r b => byteC r b.toNat) r
/-- The sum. -/
def sumC (bs : List UInt8) : Nat := 4294967295 - extC 4294967295 bs

theorem ite_xor (p q : Bool) (P : Nat) : (if (p ^^ q) = true then P else 0) = (if p = true then P else 0) ^^^ (if q = true then P else 0) := by
  cases p <;> cases q <;> simp
theorem L1c_xor (a b : Nat) : L1c (a ^^^ b) = L1c a ^^^ L1c b := by
  unfold L1c
  rw [Nat.xor_div_two]
  have h := @Nat.xor_mod_two_eq_one a b
  have e : (if (a ^^^ b) % 2 = 1 then polyC else 0) = (if a % 2 = 1 then polyC else 0) ^^^ (if b % 2 = 1 then polyC else 0) := by
    rcases Nat.mod_two_eq_zero_or_one a with ea | ea <;> rcases Nat.mod_two_eq_zero_or_one b with eb | eb
    · rw [if_neg (fun h1 => by have := h.1 h1; simp [ea, eb] at this), if_neg (by omega), if_neg (by omega)]; simp
    · rw [if_pos (h.2 (by simp [ea, eb])), if_neg (by omega), if_pos eb]; simp
    · rw [if_pos (h.2 (by simp [ea, eb])), if_pos ea, if_neg (by omega)]; simp
    · rw [if_neg (fun h1 => by have := h.1 h1; simp [ea, eb] at this), if_pos ea, if_pos eb]; simp
  rw [e]
  ac_rfl
theorem L1c_zero : L1c 0 = 0 := by decide
theorem L4c_xor (a b : Nat) : L4c (a ^^^ b) = L4c a ^^^ L4c b := by
  unfold L4c
  rw [L1c_xor, L1c_xor, L1c_xor, L1c_xor]
theorem L1c_bit (r h : Nat) : L1c (r ^^^ h) = bitC r (h % 2) ^^^ (h / 2) := by
  unfold L1c bitC
  rw [Nat.xor_div_two]
  have hx := @Nat.xor_mod_two_eq_one r h
  have e : (if (r ^^^ h) % 2 = 1 then polyC else 0) = (if (r + h % 2) % 2 = 1 then polyC else 0) := by
    by_cases h1 : (r ^^^ h) % 2 = 1
    · have h2 := hx.1 h1
      rw [if_pos h1, if_pos (by omega)]
    · have h2 : ¬ (¬ (r % 2 = 1 ↔ h % 2 = 1)) := fun h3 => h1 (hx.2 h3)
      rw [if_neg h1, if_neg (by omega)]
  rw [e]
  ac_rfl
/-- Four bits, one after the other. -/
theorem L4c_bits (r h : Nat) : L4c (r ^^^ h) = bitC (bitC (bitC (bitC r (h % 2)) (h / 2 % 2)) (h / 4 % 2)) (h / 8 % 2) ^^^ (h / 16) := by
  unfold L4c
  rw [L1c_bit, L1c_bit, L1c_bit, L1c_bit]
  simp only [Nat.div_div_eq_div_mul]
theorem L1c_shift (x : Nat) : L1c (x * 2) = x := by
  unfold L1c
  rw [Nat.mul_div_cancel _ (by decide), if_neg (by omega)]
  simp
theorem split16 (x : Nat) : (x / 16 * 16) ^^^ (x % 16) = x := by
  apply Nat.eq_of_testBit_eq
  intro i
  rw [Nat.testBit_xor]
  have h1 : x / 16 * 16 = x / 2 ^ 4 * 2 ^ 4 := rfl
  have h2 : x % 16 = x % 2 ^ 4 := rfl
  rw [h1, h2, Nat.testBit_mod_two_pow, Nat.mul_comm, Nat.testBit_two_pow_mul, Nat.testBit_div_two_pow]
  by_cases h3 : i < 4
  · have h4 : ¬ 4 ≤ i := by omega
    simp [h3, h4]
  · have : 4 ≤ i := by omega
    simp [h3, this]
theorem L4c_tab (x : Nat) : L4c x = x / 16 ^^^ tabC x := by
  have h : L4c x = L4c (x / 16 * 16) ^^^ L4c (x % 16) := by rw [← L4c_xor, split16]
  rw [h]
  have h2 : L4c (x / 16 * 16) = x / 16 := by
    unfold L4c
    rw [show x / 16 * 16 = x / 16 * 8 * 2 by omega, L1c_shift, show x / 16 * 8 = x / 16 * 4 * 2 by omega, L1c_shift, show x / 16 * 4 = x / 16 * 2 * 2 by omega, L1c_shift, L1c_shift]
  rw [h2]
  rfl
/-- Four bits at once are four bits. -/
theorem nib_bits {r h : Nat} (hh : h < 16) : nibC r h = bitC (bitC (bitC (bitC r (h % 2)) (h / 2 % 2)) (h / 4 % 2)) (h / 8 % 2) := by
  have h1 := L4c_bits r h
  rw [show h / 16 = 0 by omega, Nat.xor_zero] at h1
  rw [← h1, L4c_tab]
  unfold nibC
  congr 1
  have : (r ^^^ h) / 2 ^ 4 = r / 2 ^ 4 ^^^ h / 2 ^ 4 := Nat.xor_div_two_pow
  rw [show (16 : Nat) = 2 ^ 4 from rfl, this, show h / 2 ^ 4 = 0 by omega, Nat.xor_zero]
theorem byte_bits {r x : Nat} (hx : x < 256) : byteC r x = bits8 r x := by
  unfold byteC
  rw [nib_bits (Nat.mod_lt _ (by decide)), nib_bits (by omega)]
  unfold bits8
  rw [show List.range 8 = [0, 1, 2, 3, 4, 5, 6, 7] by decide]
  simp only [List.foldl_cons, List.foldl_nil]
  rw [show x / 2 ^ 0 % 2 = x % 16 % 2 by omega, show x / 2 ^ 1 % 2 = x % 16 / 2 % 2 by omega, show x / 2 ^ 2 % 2 = x % 16 / 4 % 2 by omega, show x / 2 ^ 3 % 2 = x % 16 / 8 % 2 by omega,
    show x / 2 ^ 4 % 2 = x / 16 % 2 by omega, show x / 2 ^ 5 % 2 = x / 16 / 2 % 2 by omega, show x / 2 ^ 6 % 2 = x / 16 / 4 % 2 by omega, show x / 2 ^ 7 % 2 = x / 16 / 8 % 2 by omega]
theorem bitC_lt {r b : Nat} (h : r < 4294967296) : bitC r b < 4294967296 := by
  unfold bitC
  refine Nat.xor_lt_two_pow (n := 32) (by omega) ?_
  split
  · decide
  · decide
theorem bits8_lt {r x : Nat} (h : r < 4294967296) : bits8 r x < 4294967296 := by
  unfold bits8
  rw [show List.range 8 = [0, 1, 2, 3, 4, 5, 6, 7] by decide]
  simp only [List.foldl_cons, List.foldl_nil]
  exact bitC_lt (bitC_lt (bitC_lt (bitC_lt (bitC_lt (bitC_lt (bitC_lt (bitC_lt h)))))))
theorem L1c_lt {r : Nat} (h : r < 4294967296) : L1c r < 4294967296 := by
  unfold L1c
  refine Nat.xor_lt_two_pow (n := 32) (by omega) ?_
  split
  · decide
  · decide
theorem tabC_lt (i : Nat) : tabC i < 4294967296 := L1c_lt (L1c_lt (L1c_lt (L1c_lt (by have := Nat.mod_lt i (y := 16) (by decide); omega))))
theorem nibC_lt {r h : Nat} (hr : r < 4294967296) : nibC r h < 4294967296 := Nat.xor_lt_two_pow (n := 32) (by omega) (tabC_lt _)
theorem byteC_lt {r x : Nat} (h : r < 4294967296) : byteC r x < 4294967296 := nibC_lt (nibC_lt h)
theorem extC_lt : ∀ (bs : List UInt8) {r : Nat}, r < 4294967296 → extC r bs < 4294967296
  | [], r, h => h
  | b :: t, r, h => extC_lt t (byteC_lt h)
theorem extC_snoc (bs : List UInt8) (b : UInt8) (r : Nat) : extC r (bs ++ [b]) = byteC (extC r bs) b.toNat := by
  unfold extC
  rw [List.foldl_append]
  rfl
theorem sumC_lt (bs : List UInt8) : sumC bs < 4294967296 := by unfold sumC; omega
end Go.Proofs.Ytjgiphoolfhlmaa

/- Sums of bytes: the program's table. -/
namespace Go.Proofs.Ytjgiphoolfhlmaa
open Go.RowKit
attribute [local go_sem] Oper.semAt_some
set_option linter.unusedVariables false
set_option linter.unusedSimpArgs false

def itC : Nat → Nat → Nat
  | 0, r => r
  | k + 1, r => L1c (itC k r)
theorem itC_lt {r : Nat} (h : r < 4294967296) : ∀ k, itC k r < 4294967296
  | 0 => h
  | k + 1 => L1c_lt (itC_lt h k)
def tabArr (i : Nat) : Array Value := (Array.range 16).map (fun j => if j < i then .int .u32 (tabC j) else .int .u32 0)
theorem tabArr0 : tabArr 0 = #[.int .u32 0, .int .u32 0, .int .u32 0, .int .u32 0, .int .u32 0, .int .u32 0, .int .u32 0, .int .u32 0, .int .u32 0, .int .u32 0, .int .u32 0, .int .u32 0, .int .u32 0, .int .u32 0, .int .u32 0, .int .u32 0] := by kernel_rfl
theorem tabArr_size (i : Nat) : (tabArr i).size = 16 := by simp [tabArr]
theorem tabArr_get {i j : Nat} (hj : j < 16) : (tabArr i)[j]? = some (if j < i then .int .u32 (tabC j) else .int .u32 0) := by
  simp [tabArr, hj]
theorem tabArr_set {i : Nat} (hi : i < 16) : (tabArr i).setIfInBounds i (.int .u32 (tabC i)) = tabArr (i + 1) := by
  apply Array.ext_getElem?
  intro j
  rw [Array.getElem?_setIfInBounds]
  by_cases hij : i = j
  · subst hij
    rw [if_pos rfl, if_pos (by rw [tabArr_size]; exact hi), tabArr_get hi, if_pos (by omega)]
  · rw [if_neg hij]
    by_cases hj : j < 16
    · rw [tabArr_get hj, tabArr_get hj]
      by_cases h : j < i
      · rw [if_pos h, if_pos (by omega)]
      · rw [if_neg h, if_neg (by omega)]
    · rw [Array.getElem?_eq_none (by rw [tabArr_size]; omega), Array.getElem?_eq_none (by rw [tabArr_size]; omega)]

theorem u32_in (n : Nat) (h : n < 4294967296) : IntKind.u32.wrap (n : Int) = n := by
  have : IntKind.u32.wrap (n : Int) = (n : Int) % 4294967296 := rfl
  rw [this]; omega
theorem bits_xor (a b : Nat) (ha : a < 4294967296) (hb : b < 4294967296) : bits .xor .u32 a b = ((a ^^^ b : Nat) : Int) := by
  have h := Nat.xor_lt_two_pow (n := 32) ha hb
  have ea : (BitVec.ofInt IntKind.u32.bits (a : Int)).toNat = a := by rw [BitVec.toNat_ofInt]; exact Int.toNat_natCast a ▸ congrArg Int.toNat (Int.emod_eq_of_lt (by omega) (by show (a : Int) < 4294967296; omega))
  have eb : (BitVec.ofInt IntKind.u32.bits (b : Int)).toNat = b := by rw [BitVec.toNat_ofInt]; exact Int.toNat_natCast b ▸ congrArg Int.toNat (Int.emod_eq_of_lt (by omega) (by show (b : Int) < 4294967296; omega))
  unfold bits
  simp only
  rw [BitVec.toNat_xor, ea, eb]
  exact u32_in _ h
theorem bits_and (a b : Nat) (ha : a < 4294967296) (hb : b < 4294967296) : bits .and .u32 a b = ((a &&& b : Nat) : Int) := by
  have h := Nat.and_lt_two_pow (n := 32) a hb
  have ea : (BitVec.ofInt IntKind.u32.bits (a : Int)).toNat = a := by rw [BitVec.toNat_ofInt]; exact Int.toNat_natCast a ▸ congrArg Int.toNat (Int.emod_eq_of_lt (by omega) (by show (a : Int) < 4294967296; omega))
  have eb : (BitVec.ofInt IntKind.u32.bits (b : Int)).toNat = b := by rw [BitVec.toNat_ofInt]; exact Int.toNat_natCast b ▸ congrArg Int.toNat (Int.emod_eq_of_lt (by omega) (by show (b : Int) < 4294967296; omega))
  unfold bits
  simp only
  rw [BitVec.toNat_and, ea, eb]
  exact u32_in _ h
theorem bits_or (a b : Nat) (ha : a < 4294967296) (hb : b < 4294967296) : bits .or .u32 a b = ((a ||| b : Nat) : Int) := by
  have h := Nat.or_lt_two_pow (n := 32) ha hb
  have ea : (BitVec.ofInt IntKind.u32.bits (a : Int)).toNat = a := by rw [BitVec.toNat_ofInt]; exact Int.toNat_natCast a ▸ congrArg Int.toNat (Int.emod_eq_of_lt (by omega) (by show (a : Int) < 4294967296; omega))
  have eb : (BitVec.ofInt IntKind.u32.bits (b : Int)).toNat = b := by rw [BitVec.toNat_ofInt]; exact Int.toNat_natCast b ▸ congrArg Int.toNat (Int.emod_eq_of_lt (by omega) (by show (b : Int) < 4294967296; omega))
  unfold bits
  simp only
  rw [BitVec.toNat_or, ea, eb]
  exact u32_in _ h
theorem bits_and1 (a : Nat) (ha : a < 4294967296) : bits .and .u32 a 1 = ((a % 2 : Nat) : Int) := by
  have := bits_and a 1 ha (by decide)
  rw [Nat.and_one_is_mod] at this
  exact this
theorem bits_and15 (a : Nat) (ha : a < 4294967296) : bits .and .u32 a 15 = ((a % 16 : Nat) : Int) := by
  have := bits_and a 15 ha (by decide)
  rw [show (15 : Nat) = 2 ^ 4 - 1 from rfl, Nat.and_two_pow_sub_one_eq_mod] at this
  exact this
theorem bits8_and15 (a : Nat) (ha : a < 256) : bits .and .u8 a 15 = ((a % 16 : Nat) : Int) := by
  have h : a &&& 15 = a % 16 := by rw [show (15 : Nat) = 2 ^ 4 - 1 from rfl, Nat.and_two_pow_sub_one_eq_mod]
  have ea : (BitVec.ofInt IntKind.u8.bits (a : Int)).toNat = a := by rw [BitVec.toNat_ofInt]; exact Int.toNat_natCast a ▸ congrArg Int.toNat (Int.emod_eq_of_lt (by omega) (by show (a : Int) < 256; omega))
  have eb : (BitVec.ofInt IntKind.u8.bits (15 : Int)).toNat = 15 := by decide
  unfold bits
  simp only
  rw [BitVec.toNat_and, ea, eb, h]
  have : IntKind.u8.wrap ((a % 16 : Nat) : Int) = ((a % 16 : Nat) : Int) % 256 := rfl
  rw [this]; omega
/-- One step of the table's making. -/
theorem step_tab (r : Nat) (h : r < 4294967296) : bits .xor .u32 ((r : Int) / 2) (2197175160 * bits .and .u32 (r : Int) 1 % 4294967296) = ((L1c r : Nat) : Int) := by
  rw [bits_and1 r h]
  have e1 : ((r : Int) / 2) = ((r / 2 : Nat) : Int) := by omega
  have e2 : (2197175160 * ((r % 2 : Nat) : Int) % 4294967296) = (((if r % 2 = 1 then polyC else 0) : Nat) : Int) := by
    rcases Nat.mod_two_eq_zero_or_one r with e | e
    · rw [e]; rfl
    · rw [e]; rfl
  rw [e1, e2, bits_xor _ _ (by omega) (by split <;> decide)]
  rfl

set_option maxRecDepth 100000 in
set_option maxHeartbeats 2000000 in
theorem half_any (w : World) : Calls Try.prog 66 #[] w fun e w' => e = .returned (.agg (tabArr 16)) ∧ Below w.heap.size w w' := by
  obtain ⟨w2, hw2⟩ : ∃ w2, w2 = (w.alloc (.cells #[.int .u32 0, .int .u32 0, .int .u32 0, .int .u32 0, .int .u32 0, .int .u32 0, .int .u32 0, .int .u32 0, .int .u32 0, .int .u32 0, .int .u32 0, .int .u32 0, .int .u32 0, .int .u32 0, .int .u32 0, .int .u32 0] 126)).alloc (.cells #[.int .u32 0, .int .u32 0, .int .u32 0, .int .u32 0, .int .u32 0, .int .u32 0, .int .u32 0, .int .u32 0, .int .u32 0, .int .u32 0, .int .u32 0, .int .u32 0, .int .u32 0, .int .u32 0, .int .u32 0, .int .u32 0] 126) := ⟨_, rfl⟩
  have hb2 : Below w.heap.size w w2 := by rw [hw2]; exact (belowAlloc w _).alloc (by simp) _
  obtain ⟨rb, hrb⟩ : ∃ rb, rb = w.heap.size := ⟨_, rfl⟩
  have hR2 : Blk w2 rb (tabArr 0) 126 := by rw [hw2, hrb, ← tabArr0]; exact (Blk.new w (tabArr 0) 126).alloc _
  have hT2 : Blk w2 (rb + 1) (tabArr 0) 126 := by
    have := Blk.new (w.alloc (.cells (tabArr 0) 126)) (tabArr 0) 126
    rw [World.size_alloc, ← hrb] at this
    rw [hw2, ← tabArr0]
    exact this
  replace hw2 := Lib.hid hw2
  replace hrb := Lib.hid hrb
  go_enter Try.func66, Try.ntmps66
  go_upto_region 2 with fail
  rw [← hw2.out, ← hrb.out]
  clear hw2
  go_wp2_with fail
  go_loopw [4] (fun x4 wr => ∃ i : Nat, i ≤ 16 ∧ x4 = .int .i64 i ∧ Blk wr (rb + 1) (tabArr i) 126 ∧ Blk wr rb (tabArr 0) 126 ∧ Below w.heap.size w wr) (fun x4 _ => 16 - (intOf x4).toNat)
  case atStart => exact ⟨0, by omega, rfl, hT2, hR2, hb2⟩
  case round =>
    clear hT2 hR2 hb2
    obtain ⟨i, hi, rfl, hT, hR, hbr⟩ := hrel
    by_cases hlt : i < 16
    · have d1 : decide ((i : Int) < 16) = true := by simp; omega
      go_wp2_with fail
      go_loopw [3, 9] (fun x3 x9 wx => ∃ k : Nat, k ≤ 4 ∧ x9 = .int .i64 k ∧ x3 = .int .u32 (itC k i : Nat) ∧ wx = wr) (fun _ x9 _ => 4 - (intOf x9).toNat)
      case atStart => exact ⟨0, Nat.zero_le _, rfl, by first | rfl | simp [itC], rfl⟩
      case round =>
        obtain ⟨k, hk, rfl, rfl, rfl⟩ := hrel
        by_cases hk4 : k < 4
        · have d2 : decide ((k : Int) < 4) = true := by simp; omega
          have hr := itC_lt (r := i) (by omega) k
          have hst := step_tab _ hr
          rw [show L1c (itC k i) = itC (k + 1) i from rfl] at hst
          obtain ⟨r2, hr2⟩ : ∃ r2 : Nat, r2 = itC (k + 1) i := ⟨_, rfl⟩
          rw [← hr2] at hst
          replace hr2 := Lib.hid hr2
          generalize itC k i = r at hr hst
          replace hst := Lib.hid hst
          go_wp2_with fail
          go_roundw
          case rel => exact ⟨k + 1, by omega, by go_num, by rw [hst.out, hr2.out], trivial⟩
          case measure => simp [intOf]; omega
        · obtain rfl : k = 4 := by omega
          have hti : itC 4 i = tabC i := by
            unfold tabC
            rw [Nat.mod_eq_of_lt hlt]
            rfl
          rw [hti]
          have hT' := hT.set i (.int .u32 (tabC i))
          rw [tabArr_set hlt] at hT'
          have hfr := hT.frozen i
          have hcl : ∃ v, wr.cell? ⟨rb + 1, i, none⟩ = some v := ⟨_, hT.cellAt (i := i) (tabArr_get hlt)⟩
          obtain ⟨v0, hcv⟩ := hcl
          have hlr := hT.lt
          have hs2 : Below w.heap.size w (wr.setCell ⟨rb + 1, i, none⟩ (.int .u32 (tabC i))) := hbr.setCell (p := ⟨rb + 1, i, none⟩) (by show w.heap.size ≤ rb + 1; rw [hrb.out]; omega) _
          have hR' : Blk (wr.setCell ⟨rb + 1, i, none⟩ (.int .u32 (tabC i))) rb (tabArr 0) 126 := hR.set_other (p := ⟨rb + 1, i, none⟩) (by simp) _
          obtain ⟨tc, htc⟩ : ∃ tc, tc = tabC i := ⟨_, rfl⟩
          rw [← htc] at hT' hs2 hR' ⊢
          replace htc := Lib.hid htc
          replace hT' := Lib.hid hT'
          replace hR' := Lib.hid hR'
          clear hT hR hti
          go_wp2_with fail
          go_roundw
          case rel => exact ⟨i + 1, by omega, by go_num, hT'.out, hR'.out, hs2⟩
          case measure => simp [intOf]; omega
    · obtain rfl : i = 16 := by omega
      have t0 : wr.cell? ⟨rb + 1, 0, none⟩ = some (.int .u32 (tabC 0 : Nat)) := hT.cellAt (i := 0) (tabArr_get (by omega))
      have t1 : wr.cell? ⟨rb + 1, 1, none⟩ = some (.int .u32 (tabC 1 : Nat)) := hT.cellAt (i := 1) (tabArr_get (by omega))
      have t2 : wr.cell? ⟨rb + 1, 2, none⟩ = some (.int .u32 (tabC 2 : Nat)) := hT.cellAt (i := 2) (tabArr_get (by omega))
      have t3 : wr.cell? ⟨rb + 1, 3, none⟩ = some (.int .u32 (tabC 3 : Nat)) := hT.cellAt (i := 3) (tabArr_get (by omega))
      have t4 : wr.cell? ⟨rb + 1, 4, none⟩ = some (.int .u32 (tabC 4 : Nat)) := hT.cellAt (i := 4) (tabArr_get (by omega))
      have t5 : wr.cell? ⟨rb + 1, 5, none⟩ = some (.int .u32 (tabC 5 : Nat)) := hT.cellAt (i := 5) (tabArr_get (by omega))
      have t6 : wr.cell? ⟨rb + 1, 6, none⟩ = some (.int .u32 (tabC 6 : Nat)) := hT.cellAt (i := 6) (tabArr_get (by omega))
      have t7 : wr.cell? ⟨rb + 1, 7, none⟩ = some (.int .u32 (tabC 7 : Nat)) := hT.cellAt (i := 7) (tabArr_get (by omega))
      have t8 : wr.cell? ⟨rb + 1, 8, none⟩ = some (.int .u32 (tabC 8 : Nat)) := hT.cellAt (i := 8) (tabArr_get (by omega))
      have t9 : wr.cell? ⟨rb + 1, 9, none⟩ = some (.int .u32 (tabC 9 : Nat)) := hT.cellAt (i := 9) (tabArr_get (by omega))
      have t10 : wr.cell? ⟨rb + 1, 10, none⟩ = some (.int .u32 (tabC 10 : Nat)) := hT.cellAt (i := 10) (tabArr_get (by omega))
      have t11 : wr.cell? ⟨rb + 1, 11, none⟩ = some (.int .u32 (tabC 11 : Nat)) := hT.cellAt (i := 11) (tabArr_get (by omega))
      have t12 : wr.cell? ⟨rb + 1, 12, none⟩ = some (.int .u32 (tabC 12 : Nat)) := hT.cellAt (i := 12) (tabArr_get (by omega))
      have t13 : wr.cell? ⟨rb + 1, 13, none⟩ = some (.int .u32 (tabC 13 : Nat)) := hT.cellAt (i := 13) (tabArr_get (by omega))
      have t14 : wr.cell? ⟨rb + 1, 14, none⟩ = some (.int .u32 (tabC 14 : Nat)) := hT.cellAt (i := 14) (tabArr_get (by omega))
      have t15 : wr.cell? ⟨rb + 1, 15, none⟩ = some (.int .u32 (tabC 15 : Nat)) := hT.cellAt (i := 15) (tabArr_get (by omega))
      have r0 : wr.cell? ⟨rb, 0, none⟩ = some (.int .u32 0) := hR.cellAt (i := 0) (tabArr_get (by omega))
      have r1 : wr.cell? ⟨rb, 1, none⟩ = some (.int .u32 0) := hR.cellAt (i := 1) (tabArr_get (by omega))
      have r2 : wr.cell? ⟨rb, 2, none⟩ = some (.int .u32 0) := hR.cellAt (i := 2) (tabArr_get (by omega))
      have r3 : wr.cell? ⟨rb, 3, none⟩ = some (.int .u32 0) := hR.cellAt (i := 3) (tabArr_get (by omega))
      have r4 : wr.cell? ⟨rb, 4, none⟩ = some (.int .u32 0) := hR.cellAt (i := 4) (tabArr_get (by omega))
      have r5 : wr.cell? ⟨rb, 5, none⟩ = some (.int .u32 0) := hR.cellAt (i := 5) (tabArr_get (by omega))
      have r6 : wr.cell? ⟨rb, 6, none⟩ = some (.int .u32 0) := hR.cellAt (i := 6) (tabArr_get (by omega))
      have r7 : wr.cell? ⟨rb, 7, none⟩ = some (.int .u32 0) := hR.cellAt (i := 7) (tabArr_get (by omega))
      have r8 : wr.cell? ⟨rb, 8, none⟩ = some (.int .u32 0) := hR.cellAt (i := 8) (tabArr_get (by omega))
      have r9 : wr.cell? ⟨rb, 9, none⟩ = some (.int .u32 0) := hR.cellAt (i := 9) (tabArr_get (by omega))
      have r10 : wr.cell? ⟨rb, 10, none⟩ = some (.int .u32 0) := hR.cellAt (i := 10) (tabArr_get (by omega))
      have r11 : wr.cell? ⟨rb, 11, none⟩ = some (.int .u32 0) := hR.cellAt (i := 11) (tabArr_get (by omega))
      have r12 : wr.cell? ⟨rb, 12, none⟩ = some (.int .u32 0) := hR.cellAt (i := 12) (tabArr_get (by omega))
      have r13 : wr.cell? ⟨rb, 13, none⟩ = some (.int .u32 0) := hR.cellAt (i := 13) (tabArr_get (by omega))
      have r14 : wr.cell? ⟨rb, 14, none⟩ = some (.int .u32 0) := hR.cellAt (i := 14) (tabArr_get (by omega))
      have r15 : wr.cell? ⟨rb, 15, none⟩ = some (.int .u32 0) := hR.cellAt (i := 15) (tabArr_get (by omega))
      have f0 := hR.frozen 0
      have f1 := hR.frozen 1
      have f2 := hR.frozen 2
      have f3 := hR.frozen 3
      have f4 := hR.frozen 4
      have f5 := hR.frozen 5
      have f6 := hR.frozen 6
      have f7 := hR.frozen 7
      have f8 := hR.frozen 8
      have f9 := hR.frozen 9
      have f10 := hR.frozen 10
      have f11 := hR.frozen 11
      have f12 := hR.frozen 12
      have f13 := hR.frozen 13
      have f14 := hR.frozen 14
      have f15 := hR.frozen 15
      have hrl := hR.lt
      have h1 := (hR).set 0 (.int .u32 (tabC 0 : Nat))
      rw [tabArr_set (i := 0) (by omega)] at h1
      have h2 := (h1).set 1 (.int .u32 (tabC 1 : Nat))
      rw [tabArr_set (i := 1) (by omega)] at h2
      have h3 := (h2).set 2 (.int .u32 (tabC 2 : Nat))
      rw [tabArr_set (i := 2) (by omega)] at h3
      have h4 := (h3).set 3 (.int .u32 (tabC 3 : Nat))
      rw [tabArr_set (i := 3) (by omega)] at h4
      have h5 := (h4).set 4 (.int .u32 (tabC 4 : Nat))
      rw [tabArr_set (i := 4) (by omega)] at h5
      have h6 := (h5).set 5 (.int .u32 (tabC 5 : Nat))
      rw [tabArr_set (i := 5) (by omega)] at h6
      have h7 := (h6).set 6 (.int .u32 (tabC 6 : Nat))
      rw [tabArr_set (i := 6) (by omega)] at h7
      have h8 := (h7).set 7 (.int .u32 (tabC 7 : Nat))
      rw [tabArr_set (i := 7) (by omega)] at h8
      have h9 := (h8).set 8 (.int .u32 (tabC 8 : Nat))
      rw [tabArr_set (i := 8) (by omega)] at h9
      have h10 := (h9).set 9 (.int .u32 (tabC 9 : Nat))
      rw [tabArr_set (i := 9) (by omega)] at h10
      have h11 := (h10).set 10 (.int .u32 (tabC 10 : Nat))
      rw [tabArr_set (i := 10) (by omega)] at h11
      have h12 := (h11).set 11 (.int .u32 (tabC 11 : Nat))
      rw [tabArr_set (i := 11) (by omega)] at h12
      have h13 := (h12).set 12 (.int .u32 (tabC 12 : Nat))
      rw [tabArr_set (i := 12) (by omega)] at h13
      have h14 := (h13).set 13 (.int .u32 (tabC 13 : Nat))
      rw [tabArr_set (i := 13) (by omega)] at h14
      have h15 := (h14).set 14 (.int .u32 (tabC 14 : Nat))
      rw [tabArr_set (i := 14) (by omega)] at h15
      have h16 := (h15).set 15 (.int .u32 (tabC 15 : Nat))
      rw [tabArr_set (i := 15) (by omega)] at h16
      have hB := (((((((((((((((hbr.setCell (p := ⟨rb, 0, none⟩) (Nat.le_of_eq hrb.out.symm) (.int .u32 (tabC 0 : Nat))).setCell (p := ⟨rb, 1, none⟩) (Nat.le_of_eq hrb.out.symm) (.int .u32 (tabC 1 : Nat))).setCell (p := ⟨rb, 2, none⟩) (Nat.le_of_eq hrb.out.symm) (.int .u32 (tabC 2 : Nat))).setCell (p := ⟨rb, 3, none⟩) (Nat.le_of_eq hrb.out.symm) (.int .u32 (tabC 3 : Nat))).setCell (p := ⟨rb, 4, none⟩) (Nat.le_of_eq hrb.out.symm) (.int .u32 (tabC 4 : Nat))).setCell (p := ⟨rb, 5, none⟩) (Nat.le_of_eq hrb.out.symm) (.int .u32 (tabC 5 : Nat))).setCell (p := ⟨rb, 6, none⟩) (Nat.le_of_eq hrb.out.symm) (.int .u32 (tabC 6 : Nat))).setCell (p := ⟨rb, 7, none⟩) (Nat.le_of_eq hrb.out.symm) (.int .u32 (tabC 7 : Nat))).setCell (p := ⟨rb, 8, none⟩) (Nat.le_of_eq hrb.out.symm) (.int .u32 (tabC 8 : Nat))).setCell (p := ⟨rb, 9, none⟩) (Nat.le_of_eq hrb.out.symm) (.int .u32 (tabC 9 : Nat))).setCell (p := ⟨rb, 10, none⟩) (Nat.le_of_eq hrb.out.symm) (.int .u32 (tabC 10 : Nat))).setCell (p := ⟨rb, 11, none⟩) (Nat.le_of_eq hrb.out.symm) (.int .u32 (tabC 11 : Nat))).setCell (p := ⟨rb, 12, none⟩) (Nat.le_of_eq hrb.out.symm) (.int .u32 (tabC 12 : Nat))).setCell (p := ⟨rb, 13, none⟩) (Nat.le_of_eq hrb.out.symm) (.int .u32 (tabC 13 : Nat))).setCell (p := ⟨rb, 14, none⟩) (Nat.le_of_eq hrb.out.symm) (.int .u32 (tabC 14 : Nat))).setCell (p := ⟨rb, 15, none⟩) (Nat.le_of_eq hrb.out.symm) (.int .u32 (tabC 15 : Nat))
      clear h1 h2 h3 h4 h5 h6 h7 h8 h9 h10 h11 h12 h13 h14 h15
      generalize tabC = tb at h16 hB t0 t1 t2 t3 t4 t5 t6 t7 t8 t9 t10 t11 t12 t13 t14 t15
      replace h16 := Lib.hid h16
      replace hB := Lib.hid hB
      clear hT hR
      go_wp2_with fail
      refine bodyPost_ret (results_cell_row rfl _ _ rb 126 (tabArr 16) (0, 0) _ rfl h16.out Try.underlying126 rfl (by kernel_rfl)) rfl ?_
      exact ⟨rfl, hB.out⟩
end Go.Proofs.Ytjgiphoolfhlmaa
