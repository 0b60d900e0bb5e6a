/-
  The document's own source (mosaicref12): New, may, Next and Busy.
-/
import Derived.Test.YtjlnkfbhbiinoaaIdc
import Derived.Test.YtjlnkfbhbiinoaaIrp
namespace Go.Proofs.Ytjlnkfbhbiinoaa
open Go.RowKit
set_option linter.unusedVariables false
set_option linter.unusedSimpArgs false
attribute [local go_sem ↓] Go.wp_at_zero Go.wp_at_succ

/-- The document's source in memory: block R, and its list in the footprint H. -/
structure RS (w : World) (R : Nat) (H : List Nat) (space life : Int) (G : List Int) : Prop where
  rep : ∃ A c, Blk w R 136 #[.int .i64 space, .int .i64 life, .slice A G.length c] ∧ Row w 2 1 H A G.length c (G.map (Value.int .i64))
  g : Good space life G
def RSPost (w : World) (R : Nat) (H : List Nat) (space life : Int) (G : List Int) (v : Value) : Ending → World → Prop := fun e w' =>
  e = .returned v ∧ ∃ H', RS w' R H' space life G ∧ Only (R :: H) w w' ∧ ∀ k ∈ H', k ∈ H ∨ w.heap.size ≤ k
theorem RS.only {w w' : World} {R : Nat} {H E : List Nat} {space life : Int} {G : List Int} (h : RS w R H space life G) (ho : Only E w w') (hd : ∀ k ∈ R :: H, k ∉ E) : RS w' R H space life G := by
  obtain ⟨⟨A, c, h1, h2⟩, h3⟩ := h
  exact ⟨⟨A, c, h1.only ho (hd R (by simp)), h2.only ho (fun k hk => hd k (by simp [hk]))⟩, h3⟩
theorem RS.lt {w : World} {R : Nat} {H : List Nat} {space life : Int} {G : List Int} (h : RS w R H space life G) : ∀ k ∈ R :: H, k < w.heap.size := by
  obtain ⟨⟨A, c, h1, h2⟩, h3⟩ := h
  intro k hk
  rcases List.mem_cons.1 hk with rfl | hk
  · exact h1.lt
  · exact h2.lt k hk

set_option maxRecDepth 100000 in
set_option maxHeartbeats 800000 in
theorem newRef_no (space life : Int) (w : World) (h : space < 1 ∨ 4294967296 < space ∨ life < 0 ∨ 4294967296 < life) :
    Calls Try.prog 47 #[.int .i64 space, .int .i64 life] w fun e w' => e = .returned (.tuple #[.pointer none, .int .i64 1]) ∧ w = w' := by
  have hcase : (space < 1) ∨ (¬ space < 1 ∧ 4294967296 < space) ∨ (¬ space < 1 ∧ ¬ 4294967296 < space ∧ life < 0) ∨ (¬ space < 1 ∧ ¬ 4294967296 < space ∧ ¬ life < 0 ∧ 4294967296 < life) := by omega
  clear h
  rcases hcase with h1 | ⟨h1, h2⟩ | ⟨h1, h2, h3⟩ | ⟨h1, h2, h3, h4⟩
  all_goals
    go_enter Try.func47, Try.ntmps47
    go_wp2_with fail
    go_ret2
    exact ⟨rfl, rfl⟩
set_option maxRecDepth 100000 in
set_option maxHeartbeats 800000 in
theorem newRef_ok (space life : Int) (w : World) (h1 : 1 ≤ space) (h2 : space ≤ 4294967296) (h3 : 0 ≤ life) (h4 : life ≤ 4294967296) :
    Calls Try.prog 47 #[.int .i64 space, .int .i64 life] w fun e w' => e = .returned (.tuple #[.pointer (some ⟨w.heap.size, 0, none⟩), .int .i64 0]) ∧ RS w' w.heap.size [] space life [] ∧ Only [] w w' ∧ w'.heap.size = w.heap.size + 1 := by
  have HB := Lib.hid (Blk.new w 136 #[.int .i64 space, .int .i64 life, .slice none 0 0])
  go_enter Try.func47, Try.ntmps47
  go_wp2_with fail
  go_ret2
  exact ⟨rfl, ⟨⟨none, 0, HB.out, Row.nil _ _ _ _⟩, Good.new h1 h2 h3 h4⟩, (Only.refl [] w).alloc _, by rw [World.size_alloc]⟩

section
variable {w : World} {R : Nat} {H : List Nat} {space life now : Int} {G : List Int}
set_option maxRecDepth 100000 in
set_option maxHeartbeats 1600000 in
theorem mayRef_any (h : RS w R H space life G) (hbig : G.length ≤ 4611686018427387904) :
    Calls Try.prog 58 #[.pointer (some ⟨R, 0, none⟩), .int .i64 now] w fun e w' => e = .returned (.bool (idMay G now)) ∧ w = w' := by
  rw [← mayRef_eq h.g]
  obtain ⟨⟨A, c, hb, hr⟩, hg⟩ := h
  have d2 : w.cell? ⟨R, 2, none⟩ = some (.slice A G.length c) := hb.cell 2
  have HB := Lib.hid hb; clear hb
  unfold mayRef
  by_cases h1 : 0 ≤ now
  · by_cases h2 : now ≤ 1099511627776
    · by_cases h3 : G.length = 0
      · obtain rfl : G = [] := List.eq_nil_of_length_eq_zero h3
        clear h3
        simp only [List.length_nil] at d2
        clear hr hg
        go_enter Try.func58, Try.ntmps58
        go_wp2_with fail
        go_ret
        exact ⟨by simp [h1, h2], rfl⟩
      · have hp : 0 < G.length := by omega
        obtain ⟨g, rfl, _, hc⟩ := hr.cellAt (j := G.length - 1) (u := .int .i64 (lastOf G)) (by rw [lastOf_get hp]; simp [show G.length - 1 < G.length by omega])
        have hl := hr.le
        clear hr hg
        generalize lastOf G = last at *
        generalize hn : G.length = n at *
        clear hn
        have h4 : ((n : Int) == 0) = false := by simp; omega
        have h5 : ((n : Int) - 1).toNat = n - 1 := by omega
        have H5 := Lib.hid h5; clear h5
        have h6 : (0 : Int) ≤ (n : Int) - 1 := by omega
        have h7 : (n : Int) - 1 < (n : Int) := by omega
        go_enter Try.func58, Try.ntmps58
        have h8 : (n : Int) - 1 = ((n - 1 : Nat) : Int) := by omega
        go_wp2_with fail
        go_ret
        exact ⟨by simp [h1, h2, h3], rfl⟩
    · have hd : decide (now ≤ 1099511627776) = false := by simp; omega
      clear hr hg
      go_enter Try.func58, Try.ntmps58
      go_wp2_with fail
      go_ret
      exact ⟨by simp [hd], rfl⟩
  · have hd : decide (0 ≤ now) = false := by simp; omega
    clear hr hg
    go_enter Try.func58, Try.ntmps58
    go_wp2_with fail
    go_ret
    exact ⟨by simp [hd], rfl⟩
end
end Go.Proofs.Ytjlnkfbhbiinoaa
