/-
  Ticks at which numbers were given, as the document's own source looks at them: from the back. Plain lists, no program in sight.
-/
import Derived.Test.YtjlnkfbhbiinoaaIdm
namespace Go.Proofs.Ytjlnkfbhbiinoaa
set_option linter.unusedVariables false

theorem busyL_split (life now : Int) (G : List Int) (k : Nat) : busyL life now G = busyL life now (G.take k) ++ busyL life now (G.drop k) := by
  unfold busyL
  rw [← List.filter_append, List.take_append_drop]
theorem busyL_drop_all {life now : Int} {G : List Int} (h : G.Pairwise (· ≤ ·)) {k : Nat} (hk : k < G.length) (hb : now - G[k] < life) : busyL life now (G.drop k) = G.drop k := by
  unfold busyL
  apply List.filter_eq_self.2
  intro y hy
  obtain ⟨i, hi, rfl⟩ := List.mem_drop_iff_getElem.1 hy
  rcases Nat.eq_zero_or_pos i with rfl | hp
  · simpa using hb
  · have := List.pairwise_iff_getElem.1 h k (k + i) hk (by omega) (by omega)
    simp only [decide_eq_true_eq]
    omega
theorem busyL_take_none {life now : Int} {G : List Int} (h : G.Pairwise (· ≤ ·)) {k : Nat} (hk : k < G.length) (hb : ¬ now - G[k] < life) : busyL life now (G.take (k + 1)) = [] := by
  unfold busyL
  apply List.filter_eq_nil_iff.2
  intro y hy
  obtain ⟨i, hi, rfl⟩ := List.mem_take_iff_getElem.1 hy
  have hle : G[i]'(by omega) ≤ G[k] := by
    rcases Nat.lt_or_ge i k with h1 | h1
    · exact List.pairwise_iff_getElem.1 h i k (by omega) hk h1
    · have : i = k := by omega
      subst this
      exact Int.le_refl _
  simp only [decide_eq_true_eq]
  omega
theorem busyL_length_le (life now : Int) (G : List Int) : (busyL life now G).length ≤ G.length := List.length_filter_le _ _
/-- No number is free just where the one that was given so many ago as there are is busy. -/
theorem full_iff {life now : Int} {G : List Int} (h : G.Pairwise (· ≤ ·)) {s : Nat} (hs : 1 ≤ s) :
    s ≤ (busyL life now G).length ↔ ∃ hn : s ≤ G.length, now - G[G.length - s]'(by omega) < life := by
  constructor
  · intro hf
    have hn : s ≤ G.length := Nat.le_trans hf (busyL_length_le _ _ _)
    refine ⟨hn, ?_⟩
    refine Decidable.byContradiction fun hb => ?_
    have h1 := busyL_take_none (life := life) (now := now) h (k := G.length - s) (by omega) hb
    have h2 := busyL_split life now G (G.length - s + 1)
    rw [h1, List.nil_append] at h2
    have h3 := busyL_length_le life now (G.drop (G.length - s + 1))
    rw [← h2, List.length_drop] at h3
    omega
  · rintro ⟨hn, hb⟩
    have h1 := busyL_drop_all (life := life) (now := now) h (k := G.length - s) (by omega) hb
    have h2 := busyL_split life now G (G.length - s)
    rw [h2, List.length_append, h1, List.length_drop]
    omega
/-- The busy ones all stand among the last so many as there are numbers. -/
theorem busyL_last {life now : Int} {G : List Int} (h : G.Pairwise (· ≤ ·)) {s : Nat} (hc : (busyL life now G).length ≤ s) : busyL life now (G.drop (G.length - s)) = busyL life now G := by
  rcases Nat.lt_or_ge s G.length with h1 | h1
  · have h2 := busyL_split life now G (G.length - s)
    have : busyL life now (G.take (G.length - s)) = [] := by
      have hk : G.length - s - 1 < G.length := by omega
      have e : G.length - s = G.length - s - 1 + 1 := by omega
      rw [e]
      refine busyL_take_none h hk ?_
      intro hb
      have h3 := busyL_drop_all (life := life) (now := now) h hk hb
      have h4 := busyL_split life now G (G.length - s - 1)
      have h5 : (busyL life now G).length = (busyL life now (G.take (G.length - s - 1))).length + (G.drop (G.length - s - 1)).length := by
        conv => lhs; rw [h4]
        rw [List.length_append, h3]
      rw [List.length_drop] at h5
      omega
    rw [h2, this, List.nil_append]
  · rw [show G.length - s = 0 by omega, List.drop_zero]
/-- One more, from the back. -/
theorem busyL_back (life now : Int) (G : List Int) (k : Nat) (hk : k < G.length) : ((busyL life now (G.drop k)).length : Int) = (busyL life now (G.drop (k + 1))).length + (if now - G[k] < life then 1 else 0) := by
  rw [List.drop_eq_getElem_cons hk]
  unfold busyL
  rw [List.filter_cons]
  by_cases h : now - G[k] < life <;> simp [h]
/-- The document's rule of the clock. -/
def mayRef (G : List Int) (now : Int) : Bool := decide (0 ≤ now) && (decide (now ≤ 1099511627776) && (decide (G.length = 0) || decide (lastOf G ≤ now)))
theorem mayRef_eq {space life : Int} {G : List Int} (h : Good space life G) (now : Int) : mayRef G now = idMay G now := by
  have := h.last
  unfold mayRef idMay
  rcases List.eq_nil_or_concat G with rfl | ⟨l, x, rfl⟩
  · rw [lastOf_nil]
    rw [Bool.eq_iff_iff]
    simp
  · rw [List.concat_eq_append] at *
    rw [Bool.eq_iff_iff]
    simp
    omega
theorem lastOf_get {G : List Int} (h : 0 < G.length) : lastOf G = G[G.length - 1]'(by omega) := by
  unfold lastOf
  rw [List.getLast?_eq_getElem?, List.getElem?_eq_getElem (by omega)]
  rfl
end Go.Proofs.Ytjlnkfbhbiinoaa
