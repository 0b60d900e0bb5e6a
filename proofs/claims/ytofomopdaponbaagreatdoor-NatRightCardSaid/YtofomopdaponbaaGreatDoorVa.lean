/-
  Whole numbers as Go has them: what wraps, masks and shifts come to. No program in sight.
-/
import Derived.Test.YtofomopdaponbaaGreatDoorVc
namespace Go.Proofs.YtofomopdaponbaaGreatDoor
set_option linter.unusedVariables false
set_option linter.unusedSimpArgs false

theorem wr8 (x : Int) : IntKind.u8.wrap x = x % 256 := by simp [IntKind.wrap, IntKind.signed, IntKind.bits]
theorem wr16 (x : Int) : IntKind.u16.wrap x = x % 65536 := by simp [IntKind.wrap, IntKind.signed, IntKind.bits]
theorem wr32 (x : Int) : IntKind.u32.wrap x = x % 4294967296 := by simp [IntKind.wrap, IntKind.signed, IntKind.bits]
theorem wr64 (x : Int) : IntKind.u64.wrap x = x % 18446744073709551616 := by simp [IntKind.wrap, IntKind.signed, IntKind.bits]
theorem wi64 (x : Int) : IntKind.i64.wrap x = (x + 9223372036854775808) % 18446744073709551616 - 9223372036854775808 := by
  simp only [IntKind.wrap, IntKind.signed, IntKind.bits, Bool.true_and]
  split
  · rename_i h
    simp at h
    omega
  · rename_i h
    simp at h
    omega
/-- A number that is one of its kind already. -/
def isK (k : IntKind) (x : Int) : Prop := k.min ≤ x ∧ x ≤ k.max
theorem wi_id {x : Int} (h : -9223372036854775808 ≤ x) (h' : x ≤ 9223372036854775807) : IntKind.i64.wrap x = x := by rw [wi64]; omega
theorem pw_lit (n : Nat) (k : IntKind) (h : n ≤ k.bits) : pw (n : Int) k = 2 ^ n := by
  simp [pw, Nat.min_eq_left h]
def maxN : IntKind → Nat
  | .i8 => 127
  | .i16 => 32767
  | .i32 => 2147483647
  | .i64 => 9223372036854775807
  | .u8 => 255
  | .u16 => 65535
  | .u32 => 4294967295
  | .u64 => 18446744073709551615
theorem wrap_nat (k : IntKind) (x : Nat) (h : x ≤ maxN k) : k.wrap (x : Int) = x := by
  cases k <;> simp only [maxN] at h <;> simp only [IntKind.wrap, IntKind.signed, IntKind.bits, Bool.false_and, Bool.true_and, Bool.false_eq_true, if_false, Nat.reduceSub, Int.reducePow]
  · split
    · rename_i hh; have := of_decide_eq_true hh; omega
    · omega
  · split
    · rename_i hh; have := of_decide_eq_true hh; omega
    · omega
  · split
    · rename_i hh; have := of_decide_eq_true hh; omega
    · omega
  · split
    · rename_i hh; have := of_decide_eq_true hh; omega
    · omega
  · omega
  · omega
  · omega
  · omega
theorem ofInt_nat (k : IntKind) (x : Nat) (h : x ≤ maxN k) : (BitVec.ofInt k.bits (x : Int)).toNat = x := by
  rw [BitVec.ofInt_natCast, BitVec.toNat_ofNat]
  cases k <;> simp only [maxN] at h <;> simp only [IntKind.bits] <;> exact Nat.mod_eq_of_lt (by omega)
theorem maxN_pow (k : IntKind) : ∃ m, maxN k + 1 = 2 ^ m := by
  cases k
  · exact ⟨7, rfl⟩
  · exact ⟨15, rfl⟩
  · exact ⟨31, rfl⟩
  · exact ⟨63, rfl⟩
  · exact ⟨8, rfl⟩
  · exact ⟨16, rfl⟩
  · exact ⟨32, rfl⟩
  · exact ⟨64, rfl⟩
theorem andI_nat (k : IntKind) (x y : Nat) (hx : x ≤ maxN k) (hy : y ≤ maxN k) : andI k (x : Int) (y : Int) = ((x &&& y : Nat) : Int) := by
  unfold andI
  rw [BitVec.toNat_and, ofInt_nat k x hx, ofInt_nat k y hy]
  exact wrap_nat k _ (Nat.le_trans Nat.and_le_left hx)
theorem orI_nat (k : IntKind) (x y : Nat) (hx : x ≤ maxN k) (hy : y ≤ maxN k) : orI k (x : Int) (y : Int) = ((x ||| y : Nat) : Int) := by
  unfold orI
  rw [BitVec.toNat_or, ofInt_nat k x hx, ofInt_nat k y hy]
  obtain ⟨m, hm⟩ := maxN_pow k
  have : x ||| y < 2 ^ m := Nat.or_lt_two_pow (by omega) (by omega)
  exact wrap_nat k _ (by omega)
theorem xorI_nat (k : IntKind) (x y : Nat) (hx : x ≤ maxN k) (hy : y ≤ maxN k) : xorI k (x : Int) (y : Int) = ((x ^^^ y : Nat) : Int) := by
  unfold xorI
  rw [BitVec.toNat_xor, ofInt_nat k x hx, ofInt_nat k y hy]
  obtain ⟨m, hm⟩ := maxN_pow k
  have : x ^^^ y < 2 ^ m := Nat.xor_lt_two_pow (by omega) (by omega)
  exact wrap_nat k _ (by omega)
theorem andI_mask (k : IntKind) (x : Int) (m : Nat) (h0 : 0 ≤ x) (h1 : x ≤ maxN k) (hm : 2 ^ m - 1 ≤ maxN k) : andI k x ((2 ^ m - 1 : Nat) : Int) = x % ((2 ^ m : Nat) : Int) := by
  obtain ⟨n, rfl⟩ := Int.eq_ofNat_of_zero_le h0
  rw [andI_nat k n _ (by omega) hm, Nat.and_two_pow_sub_one_eq_mod]
  rfl
theorem andI_bit (k : IntKind) (x : Int) (m : Nat) (h0 : 0 ≤ x) (h1 : x ≤ maxN k) (hm : 2 ^ m ≤ maxN k) : andI k x ((2 ^ m : Nat) : Int) = x / ((2 ^ m : Nat) : Int) % 2 * ((2 ^ m : Nat) : Int) := by
  obtain ⟨n, rfl⟩ := Int.eq_ofNat_of_zero_le h0
  have e : n &&& 2 ^ m = (n.testBit m).toNat * 2 ^ m := by
    apply Nat.eq_of_testBit_eq
    intro i
    rw [Nat.testBit_and, Nat.testBit_two_pow]
    by_cases hi : m = i
    · subst hi
      cases n.testBit m <;> simp [Nat.testBit_two_pow]
    · cases n.testBit m <;> simp [Nat.testBit_two_pow, hi]
  rw [andI_nat k n _ (by omega) hm, e]
  have : (n.testBit m).toNat = n / 2 ^ m % 2 := by
    rw [Nat.testBit_eq_decide_div_mod_eq]
    rcases Nat.mod_two_eq_zero_or_one (n / 2 ^ m) with h | h <;> simp [h]
  rw [this]
  rfl
theorem orI_add (k : IntKind) (x y : Int) (m : Nat) (h0 : 0 ≤ x) (hy0 : 0 ≤ y) (hy : y < ((2 ^ m : Nat) : Int)) (h1 : x * ((2 ^ m : Nat) : Int) + y ≤ maxN k) : orI k (x * ((2 ^ m : Nat) : Int)) y = x * ((2 ^ m : Nat) : Int) + y := by
  obtain ⟨a, rfl⟩ := Int.eq_ofNat_of_zero_le h0
  obtain ⟨b, rfl⟩ := Int.eq_ofNat_of_zero_le hy0
  have hlt : b < 2 ^ m := by omega
  have hle : a * 2 ^ m + b ≤ maxN k := by
    have : ((a * 2 ^ m + b : Nat) : Int) ≤ maxN k := by simpa using h1
    omega
  have e : (a : Int) * ((2 ^ m : Nat) : Int) = ((a * 2 ^ m : Nat) : Int) := by simp
  rw [e, orI_nat k _ _ (by omega) (by omega)]
  have := Nat.shiftLeft_add_eq_or_of_lt hlt a
  rw [Nat.shiftLeft_eq] at this
  rw [← this]
  simp
theorem and_u64_65535 {x : Int} (h0 : 0 ≤ x) (h1 : x ≤ 18446744073709551615) : andI .u64 x 65535 = x % 65536 := andI_mask .u64 x 16 h0 h1 (by decide)
theorem or_256 (k : IntKind) {x y : Int} (h0 : 0 ≤ x) (hy0 : 0 ≤ y) (hy : y < 256) (h1 : x * 256 + y ≤ maxN k) : orI k (x * 256) y = x * 256 + y := orI_add k x y 8 h0 hy0 hy h1
theorem not_u16 {x : Int} (h0 : 0 ≤ x) (h1 : x ≤ 65535) : xorI .u16 (if IntKind.u16.signed then -1 else IntKind.u16.max) x = 65535 - x := by
  obtain ⟨n, rfl⟩ := Int.eq_ofNat_of_zero_le h0
  have e : (if IntKind.u16.signed then -1 else IntKind.u16.max) = ((65535 : Nat) : Int) := by decide
  rw [e, xorI_nat .u16 _ _ (by decide) (by simp only [maxN]; omega)]
  have : 65535 ^^^ n = 65535 - n := by
    apply Nat.eq_of_testBit_eq
    intro i
    rw [Nat.testBit_xor, show 65535 - n = 2 ^ 16 - (n + 1) by omega, Nat.testBit_two_pow_sub_succ (by omega), show (65535 : Nat) = 2 ^ 16 - 1 by decide, Nat.testBit_two_pow_sub_one]
    by_cases hi : i < 16
    · simp [hi]
    · have : n.testBit i = false := Nat.testBit_lt_two_pow (Nat.lt_of_lt_of_le (show n < 2 ^ 16 by omega) (Nat.pow_le_pow_right (by decide) (by omega)))
      simp [hi, this]
  rw [this]
  omega
end Go.Proofs.YtofomopdaponbaaGreatDoor
