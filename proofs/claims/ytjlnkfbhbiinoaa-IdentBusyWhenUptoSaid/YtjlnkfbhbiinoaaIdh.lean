/-
  alive(): the chapter's first example: its plain laws.
-/
import Derived.Test.YtjlnkfbhbiinoaaIdg
import Derived.Laws.EntriesVeiled
namespace Go.Proofs.Ytjlnkfbhbiinoaa
open Go.RowKit
set_option linter.unusedVariables false
set_option linter.unusedSimpArgs false
attribute [local go_sem ↓] Go.wp_at_zero Go.wp_at_succ

/-- The ticks that the example asks, and what is held behind so many of them. -/
def atL : List Int := [0, 0, 4, 4, 9, 10, 10, 10, 13, 14]
def wantL : List Int := [0, 1, 2, -1, -1, 0, 1, -1, -1, 2]
def heldL (i : Nat) : List Int := (atL.take i).foldl (fun G t => idGot 3 10 G t) []
theorem heldL_next : ∀ i, i < 10 → heldL (i + 1) = idGot 3 10 (heldL i) (atL.getD i 0) := by
  intro i hi
  have : i = 0 ∨ i = 1 ∨ i = 2 ∨ i = 3 ∨ i = 4 ∨ i = 5 ∨ i = 6 ∨ i = 7 ∨ i = 8 ∨ i = 9 := by omega
  rcases this with rfl | rfl | rfl | rfl | rfl | rfl | rfl | rfl | rfl | rfl <;> rfl
theorem heldL_answer : ∀ i, i < 10 → (wantL.getD i 0 < 0 ∧ idErr 3 10 (heldL i) (atL.getD i 0) = 120) ∨ (0 ≤ wantL.getD i 0 ∧ idErr 3 10 (heldL i) (atL.getD i 0) = 0 ∧ idNum 3 10 (heldL i) (atL.getD i 0) = wantL.getD i 0) := by
  intro i hi
  have : i = 0 ∨ i = 1 ∨ i = 2 ∨ i = 3 ∨ i = 4 ∨ i = 5 ∨ i = 6 ∨ i = 7 ∨ i = 8 ∨ i = 9 := by omega
  rcases this with rfl | rfl | rfl | rfl | rfl | rfl | rfl | rfl | rfl | rfl <;> decide
theorem wantL_le : ∀ i, i < 10 → -1 ≤ wantL.getD i 0 ∧ wantL.getD i 0 ≤ 2 := by
  intro i hi
  have : i = 0 ∨ i = 1 ∨ i = 2 ∨ i = 3 ∨ i = 4 ∨ i = 5 ∨ i = 6 ∨ i = 7 ∨ i = 8 ∨ i = 9 := by omega
  rcases this with rfl | rfl | rfl | rfl | rfl | rfl | rfl | rfl | rfl | rfl <;> decide
theorem SI.ne_blk {w : World} {S V : Nat} {F : List Nat} {space life : Int} {G : List Int} (h : SI w S V F space life G) {q : Nat} {t : TypeId} {cs : Array Value} (hq : Blk w q t cs) (hne : 2 ≠ t) : q ∉ F := by
  obtain ⟨A, n, c, head, xs, h1, _⟩ := h
  exact h1.r.ne_blk hq hne
theorem heldL_end : idBusy 10 (heldL 10) 14 = 3 ∧ idBusyErr (heldL 10) 14 = 0 ∧ idErr 3 10 (heldL 10) 13 = 1 := by decide
end Go.Proofs.Ytjlnkfbhbiinoaa
