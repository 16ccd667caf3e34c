/-
  Laws on bits of the kinds int and uint64.
-/
import Derived.Test.YtbnibokloendlaaGreatBase
namespace Go.Proofs.YtbnibokloendlaaGreat
open Go.RowKit
theorem ofInt_i64 (a : Nat) (ha : a < 9223372036854775808) : (BitVec.ofInt 64 (a : Int)).toNat = a := by
  rw [BitVec.ofInt_natCast, BitVec.toNat_ofNat]; exact Nat.mod_eq_of_lt (by omega)
theorem i64_or_nat (a b : Nat) (ha : a < 9223372036854775808) (hb : b < 9223372036854775808) : bits .or .i64 (a : Int) (b : Int) = ((a ||| b : Nat) : Int) := by
  have hx : a ||| b < 2 ^ 63 := Nat.or_lt_two_pow (by omega) (by omega)
  show IntKind.i64.wrap ((BitVec.ofInt 64 (a : Int) ||| BitVec.ofInt 64 (b : Int)).toNat : Int) = _
  rw [BitVec.toNat_or, ofInt_i64 a ha, ofInt_i64 b hb, IntKind.wrap_i64]
  omega
theorem or_mod8 (a b : Int) (h0 : 0 ≤ a) (h1 : a ≤ 100000) (h2 : 0 ≤ b) (h3 : b ≤ 100000) : ((bits .or .i64 a b).tmod 8 = 0) ↔ (a % 8 = 0 ∧ b % 8 = 0) := by
  obtain ⟨x, rfl⟩ := Int.eq_ofNat_of_zero_le h0
  obtain ⟨y, rfl⟩ := Int.eq_ofNat_of_zero_le h2
  rw [i64_or_nat x y (by omega) (by omega), Int.tmod_eq_emod_of_nonneg (by omega)]
  have h : (x ||| y) % 8 = 0 ↔ x % 8 = 0 ∧ y % 8 = 0 := by
    have e : (x ||| y) % 2 ^ 3 = x % 2 ^ 3 ||| y % 2 ^ 3 := Nat.or_mod_two_pow
    have e' : (x ||| y) % 8 = x % 8 ||| y % 8 := e
    rw [e', Nat.or_eq_zero_iff]
  omega
/-- & with a mask of ones, of whatever int -/
theorem i64_and_mask (a : Int) (k : Nat) (hk : k ≤ 62) (_h0 : -9223372036854775808 ≤ a) (_h1 : a ≤ 9223372036854775807) : bits .and .i64 a (((2 ^ k - 1 : Nat)) : Int) = a % ((2 ^ k : Nat) : Int) := by
  have hp : (2 : Nat) ^ k ≤ 2 ^ 62 := Nat.pow_le_pow_right (by omega) hk
  have hp' : (2 : Nat) ^ 62 = 4611686018427387904 := by decide
  show IntKind.i64.wrap ((BitVec.ofInt 64 a &&& BitVec.ofInt 64 ((2 ^ k - 1 : Nat) : Int)).toNat : Int) = _
  rw [BitVec.toNat_and, ofInt_i64 (2 ^ k - 1) (by omega), Nat.and_two_pow_sub_one_eq_mod, IntKind.wrap_i64, BitVec.toNat_ofInt]
  have hd : ((2 ^ k : Nat) : Int) ∣ 18446744073709551616 := by
    have : (2 : Nat) ^ k ∣ 2 ^ 64 := Nat.pow_dvd_pow 2 (by omega)
    have h2 : ((2 ^ k : Nat) : Int) ∣ ((2 ^ 64 : Nat) : Int) := Int.natCast_dvd_natCast.2 this
    simpa using h2
  have he : (((a % ((2 ^ 64 : Nat) : Int)).toNat % 2 ^ k : Nat) : Int) = a % ((2 ^ k : Nat) : Int) := by
    rw [Int.natCast_emod, Int.toNat_of_nonneg (Int.emod_nonneg _ (by decide))]
    exact Int.emod_emod_of_dvd a (by simpa using hd)
  have hb : a % ((2 ^ k : Nat) : Int) < ((2 ^ k : Nat) : Int) := Int.emod_lt_of_pos _ (by have := Nat.two_pow_pos k; omega)
  have hb0 : 0 ≤ a % ((2 ^ k : Nat) : Int) := Int.emod_nonneg _ (by have := Nat.two_pow_pos k; omega)
  rw [he]
  omega
theorem i64_and_7 (a : Int) (h0 : -9223372036854775808 ≤ a) (h1 : a ≤ 9223372036854775807) : bits .and .i64 a 7 = a % 8 := i64_and_mask a 3 (by omega) h0 h1
theorem i64_and_3 (a : Int) (h0 : -9223372036854775808 ≤ a) (h1 : a ≤ 9223372036854775807) : bits .and .i64 a 3 = a % 4 := i64_and_mask a 2 (by omega) h0 h1
theorem i64_and_63 (a : Int) (h0 : -9223372036854775808 ≤ a) (h1 : a ≤ 9223372036854775807) : bits .and .i64 a 63 = a % 64 := i64_and_mask a 6 (by omega) h0 h1
theorem i64_and_127 (a : Int) (h0 : -9223372036854775808 ≤ a) (h1 : a ≤ 9223372036854775807) : bits .and .i64 a 127 = a % 128 := i64_and_mask a 7 (by omega) h0 h1
theorem i64_and_epoch (a : Int) (h0 : -9223372036854775808 ≤ a) (h1 : a ≤ 9223372036854775807) : bits .and .i64 a 16777215 = a % 16777216 := i64_and_mask a 24 (by omega) h0 h1
/-- | of two numbers whose ones lie apart -/
theorem u64_or_add (k : Nat) (x y : Int) (hx0 : 0 ≤ x) (hx : x < ((2 ^ k : Nat) : Int)) (hy0 : 0 ≤ y) (hy : y % ((2 ^ k : Nat) : Int) = 0) (hx1 : x ≤ 18446744073709551615) (hy1 : y ≤ 18446744073709551615) :
    bits .or .u64 x y = x + y := by
  obtain ⟨a, rfl⟩ := Int.eq_ofNat_of_zero_le hx0
  obtain ⟨b, rfl⟩ := Int.eq_ofNat_of_zero_le hy0
  rw [u64_or_nat a b (by omega) (by omega), Nat.or_comm, nat_join k b a (by exact_mod_cast hy) (by exact_mod_cast hx)]
  omega
theorem u64_or_24 (x y : Int) (hx0 : 0 ≤ x) (hx : x < 16777216) (hy0 : 0 ≤ y) (hy : y % 16777216 = 0) (hy1 : y ≤ 18446744073709551615) : bits .or .u64 x y = x + y :=
  u64_or_add 24 x y hx0 hx hy0 hy (by omega) hy1
theorem u64_or_32 (x y : Int) (hx0 : 0 ≤ x) (hx : x < 4294967296) (hy0 : 0 ≤ y) (hy : y % 4294967296 = 0) (hy1 : y ≤ 18446744073709551615) : bits .or .u64 x y = x + y :=
  u64_or_add 32 x y hx0 hx hy0 hy (by omega) hy1
theorem i64_andNot_7 (a : Int) (h0 : 0 ≤ a) (h1 : a ≤ 1000000) : bits .andNot .i64 a 7 = a / 8 * 8 := by
  obtain ⟨x, rfl⟩ := Int.eq_ofNat_of_zero_le h0
  show IntKind.i64.wrap ((BitVec.ofInt 64 (x : Int) &&& ~~~ BitVec.ofInt 64 (7 : Int)).toNat : Int) = _
  have e : BitVec.ofInt 64 (x : Int) &&& ~~~ BitVec.ofInt 64 (7 : Int) = BitVec.ofNat 64 (x / 8 * 8) := by
    have hx : BitVec.ofInt 64 (x : Int) = BitVec.ofNat 64 x := by rw [BitVec.ofInt_natCast]
    rw [hx]
    have h8 : BitVec.ofNat 64 (x / 8 * 8) = (BitVec.ofNat 64 x >>> 3) <<< 3 := by
      apply BitVec.eq_of_toNat_eq
      simp [Nat.shiftRight_eq_div_pow, Nat.shiftLeft_eq]
      omega
    rw [h8]
    have h7 : BitVec.ofInt 64 (7 : Int) = BitVec.ofNat 64 7 := by decide
    rw [h7]
    apply BitVec.eq_of_getLsbD_eq
    intro i hi
    simp only [BitVec.getLsbD_and, BitVec.getLsbD_not, BitVec.getLsbD_shiftLeft, BitVec.getLsbD_ushiftRight, BitVec.getLsbD_ofNat]
    rcases i with _ | _ | _ | i
    · simp
    · simp; intro _; decide
    · simp; intro _; decide
    · have : Nat.testBit 7 (i + 1 + 1 + 1) = false := by
        apply Nat.testBit_lt_two_pow
        have : (2:Nat) ^ 3 ≤ 2 ^ (i + 1 + 1 + 1) := Nat.pow_le_pow_right (by omega) (by omega)
        omega
      rw [this]
      have e1 : 3 + (i + 1 + 1 + 1 - 3) = i + 1 + 1 + 1 := by omega
      have e2 : decide (i + 1 + 1 + 1 < 64) = true := by simpa using hi
      have e3 : decide (i + 1 + 1 + 1 < 3) = false := by simp
      rw [e1, e2, e3]
      simp
  rw [e, BitVec.toNat_ofNat, IntKind.wrap_i64]
  omega
end Go.Proofs.YtbnibokloendlaaGreat
