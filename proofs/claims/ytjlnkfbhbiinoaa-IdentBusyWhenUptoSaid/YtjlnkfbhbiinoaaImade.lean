/-
  made and step: a source of any bounds, and the ticks that go by.
-/
import Derived.Test.YtjlnkfbhbiinoaaIdi
namespace Go.Proofs.Ytjlnkfbhbiinoaa
open Go.RowKit
set_option linter.unusedVariables false
set_option linter.unusedSimpArgs false
attribute [local go_sem ↓] Go.wp_at_zero Go.wp_at_succ

def posL (x : Int) : Int := if x < 0 then -1 - x else x
theorem posL_nonneg (x : Int) : 0 ≤ posL x := by unfold posL; split <;> omega
def mSpace (x : Int) : Int := 1 + posL x % 4294967296
def mLife (x : Int) : Int := posL x % 4294967297
def sWait (x : Int) : Int := posL x % 8589934592
theorem mSpace_bd (x : Int) : 1 ≤ mSpace x ∧ mSpace x ≤ 4294967296 := by unfold mSpace; have := posL_nonneg x; omega
theorem mLife_bd (x : Int) : 0 ≤ mLife x ∧ mLife x ≤ 4294967296 := by unfold mLife; have := posL_nonneg x; omega
theorem sWait_bd (x : Int) : 0 ≤ sWait x ∧ sWait x < 8589934592 := by unfold sWait; have := posL_nonneg x; omega
theorem mLife_again (x : Int) : mLife (mLife x) = mLife x := by
  have := mLife_bd x
  rw [show mLife (mLife x) = posL (mLife x) % 4294967297 from rfl, show posL (mLife x) = mLife x by unfold posL; rw [if_neg (by omega)]]
  omega

set_option maxRecDepth 100000 in
set_option maxHeartbeats 1600000 in
theorem made_any (space life : Int) (w : World) (b0 : -9223372036854775808 ≤ space ∧ space ≤ 9223372036854775807) (b1 : -9223372036854775808 ≤ life ∧ life ≤ 9223372036854775807) :
    Calls Try.prog 52 #[.int .i64 space, .int .i64 life] w fun e w' => e = .returned (.tuple #[.pointer (some ⟨w.heap.size, 0, none⟩), .int .i64 (mSpace space), .int .i64 (mLife life)]) ∧ SI w' w.heap.size (w.heap.size + 1) [] (mSpace space) (mLife life) [] ∧ Only [] w w' ∧ w'.heap.size = w.heap.size + 1 + 1 := by
  have HN : Hid (∀ W, Calls Try.prog 46 #[.int .i64 (mSpace space), .int .i64 (mLife life)] W fun e w' => e = .returned (.tuple #[.pointer (some ⟨W.heap.size, 0, none⟩), .int .i64 0]) ∧ SI w' W.heap.size (W.heap.size + 1) [] (mSpace space) (mLife life) [] ∧ Only [] W w' ∧ w'.heap.size = W.heap.size + 1 + 1) :=
    fun W => newIdent_ok _ _ W (mSpace_bd space).1 (mSpace_bd space).2 (mLife_bd life).1 (mLife_bd life).2
  obtain ⟨b0, b0'⟩ := b0
  obtain ⟨b1, b1'⟩ := b1
  have HS := Lib.hid (show (space < 0 → mSpace space = 1 + (-1 - space) % 4294967296) ∧ (¬ space < 0 → mSpace space = 1 + space % 4294967296) from ⟨fun h => by unfold mSpace posL; rw [if_pos h], fun h => by unfold mSpace posL; rw [if_neg h]⟩)
  have HL := Lib.hid (show (life < 0 → mLife life = (-1 - life) % 4294967297) ∧ (¬ life < 0 → mLife life = life % 4294967297) from ⟨fun h => by unfold mLife posL; rw [if_pos h], fun h => by unfold mLife posL; rw [if_neg h]⟩)
  generalize mSpace space = sp at *
  generalize mLife life = lf at *
  by_cases h0 : space < 0
  all_goals
    by_cases h1 : life < 0
    all_goals
      go_enter Try.func52, Try.ntmps52
      go_wp2_with fail
      first | rw [← HS.out.1 h0] | rw [← HS.out.2 h0]
      first | rw [← HL.out.1 h1] | rw [← HL.out.2 h1]
      refine (HN.out _).mono ?_
      rintro e w1 ⟨rfl, hs, ho, hz⟩
      have HS1 := Lib.hid hs
      have HO := Lib.hid ho
      have HZ := Lib.hid hz
      clear hs ho hz
      go_wp2_with fail
      go_ret3
      exact ⟨rfl, HS1.out, HO.out, HZ.out⟩

set_option maxRecDepth 100000 in
set_option maxHeartbeats 800000 in
theorem step_any (now wait : Int) (w : World) (b1 : -9223372036854775808 ≤ wait ∧ wait ≤ 9223372036854775807) :
    Calls Try.prog 53 #[.int .i64 now, .int .i64 wait] w fun e w' => e = .returned (.int .i64 (wrap64 (now + sWait wait))) ∧ w = w' := by
  obtain ⟨b1, b1'⟩ := b1
  have HS := Lib.hid (show (wait < 0 → sWait wait = (-1 - wait) % 8589934592) ∧ (¬ wait < 0 → sWait wait = wait % 8589934592) from ⟨fun h => by unfold sWait posL; rw [if_pos h], fun h => by unfold sWait posL; rw [if_neg h]⟩)
  generalize sWait wait = sw at *
  by_cases h0 : wait < 0
  all_goals
    go_enter Try.func53, Try.ntmps53
    go_wp2_with fail
    go_ret
    first | rw [HS.out.1 h0] | rw [HS.out.2 h0]
    exact ⟨rfl, rfl⟩
end Go.Proofs.Ytjlnkfbhbiinoaa
