/-
  An inside end among the arguments (its two cells), and small words for walks.
-/
import Derived.Test.YtofomopdaponbaaGreatDoorZl
namespace Go.Proofs.YtofomopdaponbaaGreatDoor
open Go.RowKit
set_option linter.unusedVariables false
set_option linter.unusedSimpArgs false

def encEnd (e : Int × Int) : List Value := [.int .i64 e.1, .int .i64 e.2]
theorem encEnd_len (e : Int × Int) : (encEnd e).length = 2 := rfl
def okEnd (e : Int × Int) : Prop := (-9223372036854775808 ≤ e.1 ∧ e.1 ≤ 9223372036854775807) ∧ (-9223372036854775808 ≤ e.2 ∧ e.2 ≤ 9223372036854775807)
theorem and3n {x : Int} : 0 ≤ andI .i64 x 3 ∧ andI .i64 x 3 ≤ 3 := by
  unfold andI
  have h1 : (BitVec.ofInt IntKind.i64.bits x &&& BitVec.ofInt IntKind.i64.bits 3).toNat ≤ 3 := by
    rw [BitVec.toNat_and]
    exact Nat.le_trans Nat.and_le_right (by decide)
  rw [wi64]
  omega
theorem and127n {x : Int} : 0 ≤ andI .i64 x 127 ∧ andI .i64 x 127 ≤ 127 := by
  unfold andI
  have h1 : (BitVec.ofInt IntKind.i64.bits x &&& BitVec.ofInt IntKind.i64.bits 127).toNat ≤ 127 := by
    rw [BitVec.toNat_and]
    exact Nat.le_trans Nat.and_le_right (by decide)
  rw [wi64]
  omega
theorem vc.yes {P : Program} {n : Nat} {c : Operand} {a b : Code} {N : Fr → World → Prop} {X : Exit → Fr → World → Prop} {ρ : Fr} {w : World} (e : ev ρ c = .bool true) (h : vc P n a N X ρ w) : vc P n (.cond c a b) N X ρ w := by
  unfold vc
  rw [e]
  exact h
theorem vc.no {P : Program} {n : Nat} {c : Operand} {a b : Code} {N : Fr → World → Prop} {X : Exit → Fr → World → Prop} {ρ : Fr} {w : World} (e : ev ρ c = .bool false) (h : vc P n b N X ρ w) : vc P n (.cond c a b) N X ρ w := by
  unfold vc
  rw [e]
  exact h
theorem vc.skip {P : Program} {n : Nat} {N : Fr → World → Prop} {X : Exit → Fr → World → Prop} {ρ : Fr} {w : World} (h : N ρ w) : vc P n .skip N X ρ w := h
theorem or_word64 {a b : UInt8} : orI .i64 (IntKind.i64.wrap (IntKind.i64.wrap (a.toNat : Int) * pw 8 .i64)) (IntKind.i64.wrap (b.toNat : Int)) = (a.toNat : Int) * 256 + (b.toNat : Int) := by
  have h1 := u8_le a
  have h2 := u8_le b
  have e1 : IntKind.i64.wrap (a.toNat : Int) = a.toNat := wi_id (by omega) (by omega)
  have e2 : IntKind.i64.wrap (b.toNat : Int) = b.toNat := wi_id (by omega) (by omega)
  have e3 : IntKind.i64.wrap ((a.toNat : Int) * 256) = (a.toNat : Int) * 256 := wi_id (by omega) (by omega)
  rw [show pw 8 .i64 = 256 from rfl, e1, e2, e3, or_256 .i64 (by omega) (by omega) (by omega) (by simp only [maxN]; omega)]
end Go.Proofs.YtofomopdaponbaaGreatDoor
