/-
  Ticks at which numbers were given, and which of them are busy: plain lists, no program in sight.
-/
import Derived.Test.YtjlnkfbhbiinoaaFoot
namespace Go.Proofs.Ytjlnkfbhbiinoaa
set_option linter.unusedVariables false

/-- Those of the ticks that are busy at now. -/
def busyL (life now : Int) (G : List Int) : List Int := G.filter fun t => decide (now - t < life)
def lastOf (G : List Int) : Int := G.getLast?.getD 0
theorem lastOf_snoc (G : List Int) (x : Int) : lastOf (G ++ [x]) = x := by simp [lastOf]
theorem lastOf_nil : lastOf [] = 0 := rfl
theorem le_lastOf {G : List Int} (h : G.Pairwise (· ≤ ·)) : ∀ t ∈ G, t ≤ lastOf G := by
  intro t ht
  rcases List.eq_nil_or_concat G with rfl | ⟨l, x, rfl⟩
  · cases ht
  · rw [List.concat_eq_append] at h ht ⊢
    rw [lastOf_snoc]
    rcases List.mem_append.1 ht with ht | ht
    · exact (List.pairwise_append.1 h).2.2 t ht x (by simp)
    · have : t = x := by simpa using ht
      omega
theorem asc_snoc {G : List Int} (h : G.Pairwise (· ≤ ·)) {x : Int} (hx : lastOf G ≤ x) : (G ++ [x]).Pairwise (· ≤ ·) := by
  rw [List.pairwise_append]
  refine ⟨h, by simp, fun a ha b hb => ?_⟩
  have : b = x := by simpa using hb
  have := le_lastOf h a ha
  omega
theorem busyL_drop {life last now : Int} {G : List Int} (hl : last ≤ now) {K : Nat} (h1 : ∀ y ∈ (busyL life last G).take K, ¬ now - y < life) (h2 : ∀ y ∈ (busyL life last G).drop K, now - y < life) :
    (busyL life last G).drop K = busyL life now G := by
  have h0 : busyL life now G = (busyL life last G).filter fun t => decide (now - t < life) := by
    unfold busyL
    rw [List.filter_filter]
    apply List.filter_congr
    intro t _
    by_cases h : now - t < life
    · simp [h]; omega
    · simp [h]
  rw [h0]
  conv => rhs; rw [← List.take_append_drop K (busyL life last G)]
  rw [List.filter_append, List.filter_eq_nil_iff.2 (fun y hy => by simpa using h1 y hy), List.filter_eq_self.2 (fun y hy => by simpa using h2 y hy)]
  rfl
theorem busyL_snoc (life now : Int) (G : List Int) : busyL life now (G ++ [now]) = busyL life now G ++ (if 0 < life then [now] else []) := by
  unfold busyL
  rw [List.filter_append]
  congr 1
  by_cases h : 0 < life <;> simp [h]
theorem busyL_le {life last now : Int} (G : List Int) (h : last ≤ now) : (busyL life now G).length ≤ (busyL life last G).length := by
  unfold busyL
  induction G with
  | nil => exact Nat.le_refl _
  | cons t G ih =>
    simp only [List.filter_cons]
    by_cases h1 : now - t < life
    · have h2 : last - t < life := by omega
      simp only [h1, h2, decide_true, if_true, List.length_cons]
      omega
    · by_cases h2 : last - t < life
      · simp only [h1, h2, decide_true, decide_false, if_true, List.length_cons, Bool.false_eq_true, if_false]
        omega
      · simp only [h1, h2, decide_false, Bool.false_eq_true, if_false]
        exact ih

/-- Bounds of a source that gave numbers at the ticks G. -/
structure Good (space life : Int) (G : List Int) : Prop where
  sp1 : 1 ≤ space
  sp2 : space ≤ 4294967296
  l0 : 0 ≤ life
  l1 : life ≤ 4294967296
  asc : G.Pairwise (· ≤ ·)
  bd : ∀ t ∈ G, 0 ≤ t ∧ t ≤ 1099511627776
  cnt : ((busyL life (lastOf G) G).length : Int) ≤ space
theorem Good.last {space life : Int} {G : List Int} (h : Good space life G) : 0 ≤ lastOf G ∧ lastOf G ≤ 1099511627776 := by
  rcases List.eq_nil_or_concat G with rfl | ⟨l, x, rfl⟩
  · rw [lastOf_nil]; omega
  · rw [List.concat_eq_append, lastOf_snoc]
    exact h.bd x (by simp)
theorem Good.snoc {space life now : Int} {G : List Int} (h : Good space life G) (h1 : lastOf G ≤ now) (h2 : now ≤ 1099511627776) (h3 : ((busyL life now G).length : Int) < space) : Good space life (G ++ [now]) := by
  refine ⟨h.sp1, h.sp2, h.l0, h.l1, asc_snoc h.asc h1, ?_, ?_⟩
  · intro t ht
    rcases List.mem_append.1 ht with ht | ht
    · exact h.bd t ht
    · have : t = now := by simpa using ht
      have := h.last
      omega
  · rw [lastOf_snoc, busyL_snoc, List.length_append]
    split
    · simp only [List.length_cons, List.length_nil]; omega
    · simp only [List.length_nil]; omega
theorem Good.new {space life : Int} (h1 : 1 ≤ space) (h2 : space ≤ 4294967296) (h3 : 0 ≤ life) (h4 : life ≤ 4294967296) : Good space life [] :=
  ⟨h1, h2, h3, h4, by simp, by simp, by simp [busyL]; omega⟩

/-- May now be asked? -/
def idMay (G : List Int) (now : Int) : Bool := decide (lastOf G ≤ now) && decide (now ≤ 1099511627776)
/-- Is there no free number? -/
def idFull (space life : Int) (G : List Int) (now : Int) : Bool := decide (space ≤ ((busyL life now G).length : Int))
/-- What Next answers: the number, the reason of a refusal; and the ticks behind it. -/
def idNum (space life : Int) (G : List Int) (now : Int) : Int := if idMay G now = true then (if idFull space life G now = true then 0 else (G.length : Int) % space) else 0
def idErr (space life : Int) (G : List Int) (now : Int) : Int := if idMay G now = true then (if idFull space life G now = true then 120 else 0) else 1
def idGot (space life : Int) (G : List Int) (now : Int) : List Int := if idMay G now = true then (if idFull space life G now = true then G else G ++ [now]) else G
/-- What Busy answers. -/
def idBusy (life : Int) (G : List Int) (now : Int) : Int := if idMay G now = true then ((busyL life now G).length : Int) else 0
def idBusyErr (G : List Int) (now : Int) : Int := if idMay G now = true then 0 else 1
end Go.Proofs.Ytjlnkfbhbiinoaa
