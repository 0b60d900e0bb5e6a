/-
  A queue in memory, and what it holds as a list of things with their sizes. No program in sight.
-/
import Derived.Test.YtjlnkfbhbiinoaaRows
import Derived.Test.YtjlnkfbhbiinoaaFoot
import Derived.Shelf.Abstract
import Derived.BigQuiet
import Derived.Deep.QuietTactic
namespace Go.Proofs.Ytjlnkfbhbiinoaa
open Go.RowKit
set_option linter.unusedVariables false
set_option linter.unusedSimpArgs false

set_option maxHeartbeats 400000 in
theorem own_any (x : Int) (w : World) : Calls Try.prog 14 #[.int .i64 x] w fun e w' => e = .returned (.int .i64 x) ∧ w = w' := by
  go_enter Try.func14, Try.ntmps14
  go_wp2
  go_ret
  exact ⟨rfl, rfl⟩
theorem own_enters : ∀ args w, (callFunc 14 args).run Try.prog w = .ok (.enter 14 args) w := enters_of Try.func14 (by kernel_rfl) rfl

/-- A queue in memory: block Q the queue itself, the line's cells in the footprint F. -/
def QRep (w : World) (tq ti : TypeId) (size Q : Nat) (F : List Nat) (g : FuncId) (count bytes : Int) (n : Nat) (sum : Int) (cells : List Value) : Prop :=
  ∃ A c, Blk w Q tq #[.func (.func g) #[] #[], .int .i64 count, .int .i64 (bytes - sum), .int .i64 sum, .slice A n c] ∧ Row w ti size F A n c cells

section
variable {α : Type}
def qcells (enc : α → List Value) (l : List (α × Int)) : List Value := l.flatMap fun p => enc p.1 ++ [.int .i64 p.2]
def qsum (l : List (α × Int)) : Int := (l.map (·.2)).sum
theorem qsum_nil : qsum ([] : List (α × Int)) = 0 := rfl
theorem qsum_cons (p : α × Int) (l : List (α × Int)) : qsum (p :: l) = p.2 + qsum l := by simp [qsum]
theorem qsum_snoc (l : List (α × Int)) (x : α) (s : Int) : qsum (l ++ [(x, s)]) = qsum l + s := by simp [qsum]
theorem qcells_snoc (enc : α → List Value) (l : List (α × Int)) (x : α) (s : Int) : qcells enc (l ++ [(x, s)]) = qcells enc l ++ (enc x ++ [.int .i64 s]) := by simp [qcells]
theorem qcells_cons (enc : α → List Value) (l : List (α × Int)) (x : α) (s : Int) : qcells enc ((x, s) :: l) = enc x ++ .int .i64 s :: qcells enc l := by simp [qcells]
theorem qsum_nonneg (l : List (α × Int)) (h : ∀ p ∈ l, 0 ≤ p.2) : 0 ≤ qsum l := by
  induction l with
  | nil => exact Int.le_refl _
  | cons p l ih => rw [qsum_cons]; have := h p (by simp); have := ih (fun q hq => h q (by simp [hq])); omega
theorem qcells_one (enc : α → List Value) (h : ∀ x, ∀ u ∈ enc x, u.oneCell' = true) (l : List (α × Int)) : ∀ u ∈ qcells enc l, u.oneCell' = true := by
  intro u hu
  simp only [qcells, List.mem_flatMap, List.mem_append, List.mem_singleton] at hu
  obtain ⟨p, _, hu | rfl⟩ := hu
  · exact h _ _ hu
  · rfl

/-- A queue with its bounds, that holds the things of l with their sizes. -/
structure QI (enc : α → List Value) (tq ti : TypeId) (size : Nat) (w : World) (Q : Nat) (F : List Nat) (g : FuncId) (count bytes : Int) (l : List (α × Int)) : Prop where
  rep : QRep w tq ti size Q F g count bytes l.length (qsum l) (qcells enc l)
  c0 : 0 ≤ count
  c1 : count ≤ 64
  n : (l.length : Int) ≤ count
  pos : ∀ p ∈ l, 0 ≤ p.2
  s : qsum l ≤ bytes
  b : bytes ≤ 9223372036854775807

/-- Is there room for one more, of size s? -/
def qroom (count bytes : Int) (l : List (α × Int)) (s : Int) : Bool := decide ((l.length : Int) < count) && decide (max s 0 ≤ bytes - qsum l)
def qpush (count bytes : Int) (l : List (α × Int)) (x : α) (s : Int) : List (α × Int) := if qroom count bytes l s = true then l ++ [(x, max s 0)] else l
def qhead (l : List (α × Int)) (z : α) : α := match l with | [] => z | p :: _ => p.1
def qhas (l : List (α × Int)) : Bool := !l.isEmpty

/-- What a call on a queue leaves. -/
def QPost (enc : α → List Value) (tq ti : TypeId) (size : Nat) (w : World) (Q : Nat) (F : List Nat) (g : FuncId) (count bytes : Int) (l : List (α × Int)) (v : Value) : Ending → World → Prop := fun e w' =>
  e = .returned v ∧ ∃ F', QI enc tq ti size w' Q F' g count bytes l ∧ Only (Q :: F) w w' ∧ ∀ k ∈ F', k ∈ F ∨ w.heap.size ≤ k

theorem QI.lt {enc : α → List Value} {tq ti : TypeId} {size : Nat} {w : World} {Q : Nat} {F : List Nat} {g : FuncId} {count bytes : Int} {l : List (α × Int)} (h : QI enc tq ti size w Q F g count bytes l) : ∀ k ∈ Q :: F, k < w.heap.size := by
  obtain ⟨A, c, hb, hr⟩ := h.rep
  intro k hk
  rcases List.mem_cons.1 hk with rfl | hk
  · exact hb.lt
  · exact hr.lt k hk
theorem QI.only {enc : α → List Value} {tq ti : TypeId} {size : Nat} {w w' : World} {Q : Nat} {F G : List Nat} {g : FuncId} {count bytes : Int} {l : List (α × Int)} (h : QI enc tq ti size w Q F g count bytes l) (ho : Only G w w') (hd : ∀ k ∈ Q :: F, k ∉ G) : QI enc tq ti size w' Q F g count bytes l := by
  obtain ⟨⟨A, c, hb, hr⟩, h1, h2, h3, h4, h5, h6⟩ := h
  exact ⟨⟨A, c, hb.only ho (hd Q (by simp)), hr.only ho (fun k hk => hd k (by simp [hk]))⟩, h1, h2, h3, h4, h5, h6⟩
theorem QI.drewN {enc : α → List Value} {tq ti : TypeId} {size : Nat} {w : World} {Q : Nat} {F : List Nat} {g : FuncId} {count bytes : Int} {l : List (α × Int)} (h : QI enc tq ti size w Q F g count bytes l) (k : Nat) : QI enc tq ti size (w.drewN k) Q F g count bytes l :=
  h.only ((Only.refl [] w).drewN k) (by simp)
/-- A fresh queue. -/
theorem QI.new {enc : α → List Value} {tq ti : TypeId} {size : Nat} (w : World) (g : FuncId) (count bytes : Int) (h0 : 0 ≤ count) (h1 : count ≤ 64) (h2 : 0 ≤ bytes) (h3 : bytes ≤ 9223372036854775807) :
    QI enc tq ti size (w.alloc (.cells #[.func (.func g) #[] #[], .int .i64 count, .int .i64 bytes, .int .i64 0, .slice none 0 0] tq)) w.heap.size [] g count bytes [] :=
  ⟨⟨none, 0, by have := Blk.new w tq #[.func (.func g) #[] #[], .int .i64 count, .int .i64 bytes, .int .i64 0, .slice none 0 0]; rw [show bytes - qsum ([] : List (α × Int)) = bytes by rw [qsum_nil]; omega]; exact this, Row.nil _ _ _ _⟩, h0, h1, by simpa using h0, by simp, by rw [qsum_nil]; exact h2, h3⟩
theorem qroom_yes {count bytes : Int} {l : List (α × Int)} {s : Int} (h1 : (l.length : Int) < count) (h2 : max s 0 ≤ bytes - qsum l) : qroom count bytes l s = true := by simp [qroom, h1, h2]
theorem qroom_full {count bytes : Int} {l : List (α × Int)} {s : Int} (h1 : (l.length : Int) = count) : qroom count bytes l s = false := by simp [qroom, h1]
theorem qroom_big {count bytes : Int} {l : List (α × Int)} {s : Int} (h2 : bytes - qsum l < max s 0) : qroom count bytes l s = false := by
  unfold qroom
  rw [Bool.and_eq_false_iff]
  right
  simp
  omega
end
end Go.Proofs.Ytjlnkfbhbiinoaa
