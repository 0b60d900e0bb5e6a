/-
  x & 1 on a signed number of 64 bits. No program in sight.
-/
import Derived.Test.YtjlnkfbhbiinoaaFoot
namespace Go.Proofs.Ytjlnkfbhbiinoaa
open Go.RowKit
theorem and_one_i64 (x : Int) : bits .and .i64 x 1 = x % 2 := by
  have h1 : (BitVec.ofInt 64 x &&& BitVec.ofInt 64 1).toNat = (x % 2).toNat := by
    rw [BitVec.toNat_and, BitVec.toNat_ofInt, show (BitVec.ofInt 64 1).toNat = 1 by decide, Nat.and_one_is_mod]
    have : ((2 : Nat) ^ 64 : Int) = 18446744073709551616 := by decide
    omega
  have h2 : bits .and .i64 x 1 = IntKind.i64.wrap ((BitVec.ofInt 64 x &&& BitVec.ofInt 64 1).toNat : Int) := rfl
  rw [h2, h1, IntKind.wrap_i64]
  omega
theorem and_one_cases (x : Int) : (bits .and .i64 x 1 = 0 ∧ x % 2 = 0) ∨ (bits .and .i64 x 1 = 1 ∧ x % 2 = 1) := by
  rw [and_one_i64]
  omega
end Go.Proofs.Ytjlnkfbhbiinoaa
