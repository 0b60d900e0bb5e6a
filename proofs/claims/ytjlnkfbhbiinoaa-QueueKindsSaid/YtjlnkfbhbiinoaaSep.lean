/-
  Several things in memory of a call's own, whose footprints don't meet. No program in sight.
-/
import Derived.Test.YtjlnkfbhbiinoaaFoot
namespace Go.Proofs.Ytjlnkfbhbiinoaa
open Go.RowKit
set_option linter.unusedVariables false

/-- The footprints Fs, one a thing, don't meet; all of them are blocks made since w0; of what was there then nothing has turned. -/
structure Sep (w0 w : World) (Fs : List (List Nat)) : Prop where
  d : ∀ i j, i ≠ j → ∀ k ∈ Fs.getD i [], k ∉ Fs.getD j []
  f : ∀ F ∈ Fs, ∀ k ∈ F, w0.heap.size ≤ k
  l : ∀ F ∈ Fs, ∀ k ∈ F, k < w.heap.size
  o : Only [] w0 w

theorem getD_mem {Fs : List (List Nat)} {i : Nat} {k : Nat} (h : k ∈ Fs.getD i []) : Fs.getD i [] ∈ Fs := by
  rcases Nat.lt_or_ge i Fs.length with hi | hi
  · have : Fs.getD i [] = Fs[i] := by simp [List.getD, hi]
    rw [this]
    exact List.getElem_mem hi
  · have : Fs.getD i [] = [] := by simp [List.getD, hi]
    rw [this] at h
    cases h

section
variable {w0 w w2 : World} {Fs : List (List Nat)}
theorem Sep.nil (w0 : World) : Sep w0 w0 [] := ⟨by simp, by simp, by simp, Only.refl _ _⟩
theorem Sep.only (h : Sep w0 w Fs) (ho : Only [] w w2) : Sep w0 w2 Fs :=
  ⟨h.d, h.f, fun F hF k hk => Nat.lt_of_lt_of_le (h.l F hF k hk) ho.size, h.o.trans ho (by simp)⟩
/-- A call on the thing number i: its footprint is F' now. -/
theorem Sep.step (h : Sep w0 w Fs) (i : Nat) {F' : List Nat} (ho : Only (Fs.getD i []) w w2) (hf : ∀ k ∈ F', k ∈ Fs.getD i [] ∨ w.heap.size ≤ k) (hl : ∀ k ∈ F', k < w2.heap.size) : Sep w0 w2 (Fs.set i F') := by
  have hset : ∀ j, ∀ k ∈ (Fs.set i F').getD j [], (j = i ∧ k ∈ F') ∨ (j ≠ i ∧ k ∈ Fs.getD j []) := by
    intro j k hk
    by_cases hj : j = i
    · subst hj
      left
      refine ⟨rfl, ?_⟩
      rcases Nat.lt_or_ge j Fs.length with hi | hi
      · simpa [List.getD, hi] using hk
      · simp [List.getD, hi] at hk
    · right
      refine ⟨hj, ?_⟩
      rwa [List.getD, List.getElem?_set_ne (Ne.symm hj)] at hk
  refine ⟨?_, ?_, ?_, h.o.trans ho (fun k hk => .inr (h.f _ (getD_mem hk) k hk))⟩
  · intro a b hab k hk hm
    rcases hset a k hk with ⟨rfl, h1⟩ | ⟨ha, h1⟩
    · rcases hset b k hm with ⟨rfl, _⟩ | ⟨hb, h2⟩
      · exact hab rfl
      · rcases hf k h1 with h3 | h3
        · exact h.d _ _ hab k h3 h2
        · have := h.l _ (getD_mem h2) k h2
          omega
    · rcases hset b k hm with ⟨rfl, h2⟩ | ⟨hb, h2⟩
      · rcases hf k h2 with h3 | h3
        · exact h.d _ _ hab k h1 h3
        · have := h.l _ (getD_mem h1) k h1
          omega
      · exact h.d _ _ hab k h1 h2
  · intro F hF k hk
    rcases List.mem_or_eq_of_mem_set hF with hF | rfl
    · exact h.f F hF k hk
    · rcases hf k hk with h3 | h3
      · exact h.f _ (getD_mem h3) k h3
      · exact Nat.le_trans h.o.size h3
  · intro F hF k hk
    rcases List.mem_or_eq_of_mem_set hF with hF | rfl
    · exact Nat.lt_of_lt_of_le (h.l F hF k hk) ho.size
    · exact hl k hk
/-- One thing more, in new memory. -/
theorem Sep.add (h : Sep w0 w Fs) {F' : List Nat} (ho : Only [] w w2) (hf : ∀ k ∈ F', w.heap.size ≤ k) (hl : ∀ k ∈ F', k < w2.heap.size) : Sep w0 w2 (Fs ++ [F']) := by
  have happ : ∀ j, ∀ k ∈ (Fs ++ [F']).getD j [], (j = Fs.length ∧ k ∈ F') ∨ (j < Fs.length ∧ k ∈ Fs.getD j []) := by
    intro j k hk
    rcases Nat.lt_trichotomy j Fs.length with hj | hj | hj
    · right
      refine ⟨hj, ?_⟩
      rwa [List.getD, List.getElem?_append_left hj] at hk
    · left
      subst hj
      simpa [List.getD] using hk
    · rw [List.getD, List.getElem?_eq_none (by simp; omega)] at hk
      cases hk
  refine ⟨?_, ?_, ?_, h.o.trans ho (by simp)⟩
  · intro a b hab k hk hm
    rcases happ a k hk with ⟨rfl, h1⟩ | ⟨ha, h1⟩
    · rcases happ b k hm with ⟨rfl, _⟩ | ⟨hb, h2⟩
      · exact hab rfl
      · have := hf k h1
        have := h.l _ (getD_mem h2) k h2
        omega
    · rcases happ b k hm with ⟨rfl, h2⟩ | ⟨hb, h2⟩
      · have := hf k h2
        have := h.l _ (getD_mem h1) k h1
        omega
      · exact h.d _ _ hab k h1 h2
  · intro F hF k hk
    rcases List.mem_append.1 hF with hF | hF
    · exact h.f F hF k hk
    · have : F = F' := by simpa using hF
      subst this
      exact Nat.le_trans h.o.size (hf k hk)
  · intro F hF k hk
    rcases List.mem_append.1 hF with hF | hF
    · exact Nat.lt_of_lt_of_le (h.l F hF k hk) ho.size
    · have : F = F' := by simpa using hF
      subst this
      exact hl k hk
end
end Go.Proofs.Ytjlnkfbhbiinoaa
