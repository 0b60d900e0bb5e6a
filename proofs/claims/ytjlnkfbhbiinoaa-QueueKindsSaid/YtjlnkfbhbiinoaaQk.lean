/-
  The chapter's first example on a queue of numbers comes out as it says; May.
-/
import Derived.Test.YtjlnkfbhbiinoaaQnI
namespace Go.Proofs.Ytjlnkfbhbiinoaa
open Go.RowKit
set_option linter.unusedVariables false
set_option linter.unusedSimpArgs false

set_option maxRecDepth 100000 in
set_option maxHeartbeats 1600000 in
theorem known_any (w : World) : Calls Try.prog 16 #[] w fun e w' => e = .returned (.bool true) ∧ Only [] w w' := by
  have p1 := fun Q F l (w : World) (h : QInt w Q F 14 2 10 l) (x : Int) => pushInt_any Q F _ 2 10 x l x w own_enters (own_any x) h
  have HP := Lib.hid p1; clear p1
  go_enter Try.func16, Try.ntmps16
  go_wp2_with fail
  refine (newInt_ok 2 10 _ _ (by decide) (by decide) (by decide)).mono ?_
  rintro e w1 ⟨rfl, hw⟩
  have q0 : QInt w1 w.heap.size [] 14 2 10 [] := by rw [← hw]; exact QI.new w _ 2 10 (by decide) (by decide) (by decide) (by decide)
  have HO0 := Lib.hid (show Only [] w w1 by rw [← hw]; exact (Only.refl [] w).alloc _)
  have hs : w.heap.size < w1.heap.size := q0.lt w.heap.size (by simp)
  have HQ0 := Lib.hid q0
  clear hw q0
  go_wp2_with fail
  refine (HP.out _ _ _ _ HQ0.out 4).mono ?_
  rintro e w2 ⟨rfl, F1, q1, o1, f1⟩
  have HQ1 := Lib.hid (show QInt w2 w.heap.size F1 14 2 10 [(4, 4)] from q1)
  have HO1 := Lib.hid (HO0.out.trans o1 (fun k hk => .inr (by simp at hk; omega)))
  have HF1 := Lib.hid (show ∀ k ∈ F1, w.heap.size ≤ k from fun k hk => by rcases f1 k hk with h | h; cases h; have := HO0.out.size; omega)
  clear q1 o1 f1
  rw [show qroom 2 10 ([] : List (Int × Int)) 4 = true from by decide]
  go_wp2_with fail
  refine (HP.out _ _ _ _ HQ1.out 7).mono ?_
  rintro e w3 ⟨rfl, F2, q2, o2, f2⟩
  have HQ2 := Lib.hid (show QInt w3 w.heap.size F2 14 2 10 [(4, 4)] from q2)
  have HO2 := Lib.hid (HO1.out.trans o2 (fun k hk => .inr (by rcases List.mem_cons.1 hk with rfl | hk; exact Nat.le_refl _; exact HF1.out k hk)))
  have HF2 := Lib.hid (show ∀ k ∈ F2, w.heap.size ≤ k from fun k hk => by rcases f2 k hk with h | h; exact HF1.out k h; have := HO1.out.size; omega)
  clear q2 o2 f2
  rw [show qroom 2 10 ([(4, 4)] : List (Int × Int)) 7 = false from by decide]
  go_wp2_with fail
  refine (HP.out _ _ _ _ HQ2.out 6).mono ?_
  rintro e w4 ⟨rfl, F3, q3, o3, f3⟩
  have HQ3 := Lib.hid (show QInt w4 w.heap.size F3 14 2 10 [(4, 4), (6, 6)] from q3)
  have HO3 := Lib.hid (HO2.out.trans o3 (fun k hk => .inr (by rcases List.mem_cons.1 hk with rfl | hk; exact Nat.le_refl _; exact HF2.out k hk)))
  have HF3 := Lib.hid (show ∀ k ∈ F3, w.heap.size ≤ k from fun k hk => by rcases f3 k hk with h | h; exact HF2.out k h; have := HO2.out.size; omega)
  clear q3 o3 f3
  rw [show qroom 2 10 ([(4, 4)] : List (Int × Int)) 6 = true from by decide]
  go_wp2_with fail
  refine (HP.out _ _ _ _ HQ3.out 0).mono ?_
  rintro e w5 ⟨rfl, F4, q4, o4, f4⟩
  have HQ4 := Lib.hid (show QInt w5 w.heap.size F4 14 2 10 [(4, 4), (6, 6)] from q4)
  have HO4 := Lib.hid (HO3.out.trans o4 (fun k hk => .inr (by rcases List.mem_cons.1 hk with rfl | hk; exact Nat.le_refl _; exact HF3.out k hk)))
  have HF4 := Lib.hid (show ∀ k ∈ F4, w.heap.size ≤ k from fun k hk => by rcases f4 k hk with h | h; exact HF3.out k h; have := HO3.out.size; omega)
  clear q4 o4 f4
  rw [show qroom 2 10 ([(4, 4), (6, 6)] : List (Int × Int)) 0 = false from by decide]
  go_wp2_with fail
  refine (lenInt_any _ _ _ _ _ _ _ HQ4.out).mono ?_
  rintro e w' ⟨rfl, rfl⟩
  rw [show (([(4, 4), (6, 6)] : List (Int × Int)).length : Int) = 2 from rfl]
  go_wp2_with fail
  refine (bytesInt_any _ _ _ _ _ _ _ HQ4.out).mono ?_
  rintro e w' ⟨rfl, rfl⟩
  rw [show qsum ([(4, 4), (6, 6)] : List (Int × Int)) = 10 from rfl]
  go_wp2_with fail
  refine (popInt_any _ _ _ _ _ _ 4 _ rfl HQ4.out).mono ?_
  rintro e w6 ⟨rfl, F5, q5, o5, f5⟩
  have HQ5 := Lib.hid (show QInt w6 w.heap.size F5 14 2 10 [(6, 6)] from q5)
  have HO5 := Lib.hid (HO4.out.trans o5 (fun k hk => .inr (by rcases List.mem_cons.1 hk with rfl | hk; exact Nat.le_refl _; exact HF4.out k hk)))
  have HF5 := Lib.hid (show ∀ k ∈ F5, w.heap.size ≤ k from fun k hk => by rcases f5 k hk with h | h; exact HF4.out k h; have := HO4.out.size; omega)
  clear q5 o5 f5
  rw [show qhas ([(4, 4), (6, 6)] : List (Int × Int)) = true from rfl]
  go_wp2_with fail
  refine (popInt_any _ _ _ _ _ _ 6 _ rfl HQ5.out).mono ?_
  rintro e w7 ⟨rfl, F6, q6, o6, f6⟩
  have HQ6 := Lib.hid (show QInt w7 w.heap.size F6 14 2 10 [] from q6)
  have HO6 := Lib.hid (HO5.out.trans o6 (fun k hk => .inr (by rcases List.mem_cons.1 hk with rfl | hk; exact Nat.le_refl _; exact HF5.out k hk)))
  have HF6 := Lib.hid (show ∀ k ∈ F6, w.heap.size ≤ k from fun k hk => by rcases f6 k hk with h | h; exact HF5.out k h; have := HO5.out.size; omega)
  clear q6 o6 f6
  rw [show qhas ([(6, 6)] : List (Int × Int)) = true from rfl]
  go_wp2_with fail
  refine (popInt_any _ _ _ _ _ _ 0 _ rfl HQ6.out).mono ?_
  rintro e w8 ⟨rfl, F7, q7, o7, f7⟩
  have HQ7 := Lib.hid (show QInt w8 w.heap.size F7 14 2 10 [] from q7)
  have HO7 := Lib.hid (HO6.out.trans o7 (fun k hk => .inr (by rcases List.mem_cons.1 hk with rfl | hk; exact Nat.le_refl _; exact HF6.out k hk)))
  have HF7 := Lib.hid (show ∀ k ∈ F7, w.heap.size ≤ k from fun k hk => by rcases f7 k hk with h | h; exact HF6.out k h; have := HO6.out.size; omega)
  clear q7 o7 f7
  rw [show qhas ([] : List (Int × Int)) = false from rfl]
  go_wp2_with fail
  go_ret
  exact ⟨rfl, HO7.out⟩
end Go.Proofs.Ytjlnkfbhbiinoaa
