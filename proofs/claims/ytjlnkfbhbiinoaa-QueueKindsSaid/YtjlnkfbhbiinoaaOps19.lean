/-
  A script of the queue's laws: how its moves lie in memory.
-/
import Derived.Test.YtjlnkfbhbiinoaaArg
import Derived.Test.YtjlnkfbhbiinoaaRows
namespace Go.Proofs.Ytjlnkfbhbiinoaa
open Go.ChangeShapes Go.WideShapes Go.ChangeAt Go.RowKit Go.Deep
set_option linter.unusedVariables false

def encOp19 (o : Bool × Int) : List Value := [.bool o.1, .int .i64 o.2]
theorem open_op19 {H : Type} {enc : TypeId × Value → H} {w : World} {base : Nat} {spare : Nat → Bool} {held : Bool} {m : Nat} {cs : List Value} {y : DataW H × List MemPlace}
    (h : DataW.trod enc Try.prog w base spare held m 45 cs = some y) : ∃ o : Bool × Int, cs = encOp19 o ∧ (Lit.int .i64 o.2).wf = true := by
  obtain ⟨hl, hf⟩ := open_fields Try.underlying45 (by kernel_rfl) (by kernel_rfl) h
  obtain ⟨v0, m0, y0, e0, t0⟩ := hf 0 _ rfl
  obtain ⟨v1, m1, y1, e1, t1⟩ := hf 1 _ rfl
  obtain ⟨b, hb, _⟩ := DataW.trod_bool Try.underlying4 t0
  obtain ⟨x, hx, _, hw⟩ := DataW.trod_int Try.underlying3 t1
  injection hb with hb
  injection hx with hx
  subst hb
  subst hx
  refine ⟨(b, x), ?_, hw⟩
  match cs, hl, e0, e1 with
  | [c0, c1], _, e0, e1 =>
    simp at e0 e1
    subst e0
    subst e1
    rfl
theorem encOp19_at (z : List (Bool × Int)) (k : Nat) (h : k < z.length) : (z.flatMap encOp19)[k * 2]? = some (.bool z[k].1) ∧ (z.flatMap encOp19)[k * 2 + 1]? = some (.int .i64 z[k].2) := by
  induction z generalizing k with
  | nil => simp at h
  | cons o z ih =>
    cases k with
    | zero => exact ⟨rfl, rfl⟩
    | succ k =>
      obtain ⟨a, b⟩ := ih k (by simpa using h)
      simp only [List.flatMap_cons, encOp19, List.cons_append, List.nil_append, List.getElem_cons_succ]
      rw [show (k + 1) * 2 = k * 2 + 1 + 1 by omega]
      exact ⟨a, b⟩
end Go.Proofs.Ytjlnkfbhbiinoaa
