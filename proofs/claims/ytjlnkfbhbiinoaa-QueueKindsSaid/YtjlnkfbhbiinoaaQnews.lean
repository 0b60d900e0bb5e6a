/-
  QueueNews: every New answers as the document says, and a fresh queue holds nothing: the law's own walk.
-/
import Derived.Test.YtjlnkfbhbiinoaaQk
namespace Go.Proofs.Ytjlnkfbhbiinoaa
open Go.RowKit
set_option linter.unusedVariables false
set_option linter.unusedSimpArgs false

set_option maxRecDepth 100000 in
set_option maxHeartbeats 800000 in
theorem newThing_nil (count bytes : Int) (w : World) :
    Calls Try.prog 15 #[.int .i64 count, .int .i64 bytes, .nilFunc] w fun e w' =>
      e = .returned (.tuple #[.pointer none, .int .i64 1]) ∧ w = w' := by
  have hq := fun w => run_eql_nilFunc (P := Try.prog) Try.underlying47 w
  by_cases ha : count < 0
  · go_enter Try.func15, Try.ntmps15
    go_wp2
    go_ret2
    exact ⟨rfl, rfl⟩
  · by_cases hb : 64 < count
    · go_enter Try.func15, Try.ntmps15
      go_wp2
      go_ret2
      exact ⟨rfl, rfl⟩
    · by_cases hc : bytes < 0
      · go_enter Try.func15, Try.ntmps15
        go_wp2
        go_ret2
        exact ⟨rfl, rfl⟩
      · go_enter Try.func15, Try.ntmps15
        go_wp2
        go_ret2
        exact ⟨rfl, rfl⟩

theorem may_yes (count bytes : Int) (w : World) (h0 : 0 ≤ count) (h1 : count ≤ 64) (h2 : 0 ≤ bytes) :
    Calls Try.prog 17 #[.int .i64 count, .int .i64 bytes] w fun e w' => e = .returned (.bool true) ∧ w = w' := by
  go_enter Try.func17, Try.ntmps17
  go_wp2
  go_ret
  exact ⟨by simp [h2], rfl⟩

theorem may_no (count bytes : Int) (w : World) (h : count < 0 ∨ 64 < count ∨ bytes < 0) :
    Calls Try.prog 17 #[.int .i64 count, .int .i64 bytes] w fun e w' => e = .returned (.bool false) ∧ w = w' := by
  by_cases ha : count < 0
  · clear h
    have hd : decide (0 ≤ count) = false := by simp; omega
    go_enter Try.func17, Try.ntmps17
    go_wp2
    go_ret
    exact ⟨rfl, rfl⟩
  · by_cases hb : 64 < count
    · clear h
      have hd : decide (count ≤ 64) = false := by simp; omega
      go_enter Try.func17, Try.ntmps17
      go_wp2
      go_ret
      exact ⟨rfl, rfl⟩
    · have hc : bytes < 0 := by omega
      clear h
      go_enter Try.func17, Try.ntmps17
      go_wp2
      go_ret
      exact ⟨by simp; omega, rfl⟩

set_option maxRecDepth 100000 in
set_option maxHeartbeats 1600000 in
theorem queueNews_no (count bytes : Int) (w : World) (h : count < 0 ∨ 64 < count ∨ bytes < 0) :
    Calls Try.prog 3 #[.int .i64 count, .int .i64 bytes] w fun e w' => e = .returned (.bool true) ∧ Only [] w w' := by
  have H := Lib.hid h; clear h
  go_enter Try.func3, Try.ntmps3
  go_wp2_with fail
  refine (newInt_no count bytes _ _ H.out).mono ?_
  rintro e w1 ⟨rfl, rfl⟩
  go_wp2_with fail
  refine (newThing_nil count bytes _).mono ?_
  rintro e w1 ⟨rfl, rfl⟩
  go_wp2_with fail
  refine (known_any _).mono ?_
  rintro e w1 ⟨rfl, ho⟩
  have HO := Lib.hid ho; clear ho
  go_wp2_with fail
  refine (may_no count bytes _ H.out).mono ?_
  rintro e w' ⟨rfl, rfl⟩
  go_wp2_with fail
  go_ret
  exact ⟨rfl, HO.out⟩

set_option maxRecDepth 100000 in
set_option maxHeartbeats 1600000 in
theorem queueNews_yes (count bytes : Int) (w : World) (h0 : 0 ≤ count) (h1 : count ≤ 64) (h2 : 0 ≤ bytes) (h3 : bytes ≤ 9223372036854775807) :
    Calls Try.prog 3 #[.int .i64 count, .int .i64 bytes] w fun e w' => e = .returned (.bool true) ∧ Only [] w w' := by
  go_enter Try.func3, Try.ntmps3
  go_wp2_with fail
  refine (newInt_ok count bytes _ _ h0 h1 h2).mono ?_
  rintro e w1 ⟨rfl, hw⟩
  have q0 : QInt w1 w.heap.size [] 14 count bytes [] := by rw [← hw]; exact QI.new w _ count bytes h0 h1 h2 h3
  have HO0 := Lib.hid (show Only [] w w1 by rw [← hw]; exact (Only.refl [] w).alloc _)
  have hs : w.heap.size < w1.heap.size := q0.lt w.heap.size (by simp)
  have HQ0 := Lib.hid q0
  clear hw q0
  go_wp2_with fail
  refine (newThing_nil count bytes _).mono ?_
  rintro e w' ⟨rfl, rfl⟩
  go_wp2_with fail
  refine (known_any _).mono ?_
  rintro e w2 ⟨rfl, ho⟩
  have HQ1 := Lib.hid (HQ0.out.only ho (by simp))
  have HO1 := Lib.hid (HO0.out.trans ho (by simp))
  clear ho
  go_wp2_with fail
  refine (may_yes count bytes _ h0 h1 h2).mono ?_
  rintro e w' ⟨rfl, rfl⟩
  go_wp2_with fail
  refine (lenInt_any _ _ _ _ _ _ _ HQ1.out).mono ?_
  rintro e w' ⟨rfl, rfl⟩
  rw [show (([] : List (Int × Int)).length : Int) = 0 from rfl]
  go_wp2_with fail
  refine (bytesInt_any _ _ _ _ _ _ _ HQ1.out).mono ?_
  rintro e w' ⟨rfl, rfl⟩
  rw [show qsum ([] : List (Int × Int)) = 0 from rfl]
  go_wp2_with fail
  refine (popInt_any _ _ _ _ _ _ 0 _ rfl HQ1.out).mono ?_
  rintro e w3 ⟨rfl, F3, q3, o3, f3⟩
  have HQ3 := Lib.hid (show QInt w3 w.heap.size F3 14 count bytes [] from q3)
  have HO3 := Lib.hid (HO1.out.trans o3 (fun k hk => .inr (by simp at hk; omega)))
  have HF3 := Lib.hid (show ∀ k ∈ F3, w.heap.size ≤ k from fun k hk => by rcases f3 k hk with h | h; cases h; have := HO1.out.size; omega)
  clear q3 o3 f3
  rw [show qhas ([] : List (Int × Int)) = false from rfl]
  go_wp2_with fail
  refine (pushInt_any _ _ _ count bytes 0 _ 0 _ own_enters (own_any 0) HQ3.out).mono ?_
  rintro e w4 ⟨rfl, F4, q4, o4, f4⟩
  have HO4 := Lib.hid (HO3.out.trans o4 (fun k hk => .inr (by rcases List.mem_cons.1 hk with rfl | hk; exact Nat.le_refl _; exact HF3.out k hk)))
  clear q4 o4 f4
  by_cases hc : 0 < count
  · rw [show qroom count bytes ([] : List (Int × Int)) 0 = true from by unfold qroom; rw [qsum_nil]; simp; omega]
    go_wp2_with fail
    go_ret
    exact ⟨rfl, HO4.out⟩
  · rw [show qroom count bytes ([] : List (Int × Int)) 0 = false from by unfold qroom; rw [qsum_nil]; simp; omega]
    have hd : decide (0 < count) = false := by simp; omega
    go_wp2_with fail
    go_ret
    exact ⟨rfl, HO4.out⟩

theorem queueNews_walk (count bytes : Int) (w : World) (h1 : -9223372036854775808 ≤ count ∧ count ≤ 9223372036854775807) (h2 : -9223372036854775808 ≤ bytes ∧ bytes ≤ 9223372036854775807) :
    Calls Try.prog 3 #[.int .i64 count, .int .i64 bytes] w fun e w' => e = .returned (.bool true) ∧ Below w.heap.size w w' := by
  by_cases h : count < 0 ∨ 64 < count ∨ bytes < 0
  · exact (queueNews_no count bytes w h).mono fun e w' ⟨he, ho⟩ => ⟨he, ho.below (Nat.le_refl _) (by simp)⟩
  · exact (queueNews_yes count bytes w (by omega) (by omega) (by omega) h2.2).mono fun e w' ⟨he, ho⟩ => ⟨he, ho.below (Nat.le_refl _) (by simp)⟩
end Go.Proofs.Ytjlnkfbhbiinoaa
