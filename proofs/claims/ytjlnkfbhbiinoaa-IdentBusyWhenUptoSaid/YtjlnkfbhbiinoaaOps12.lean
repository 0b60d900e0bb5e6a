/-
  Scripts and waits of the laws of ident: how they lie in memory.
-/
import Derived.Test.YtjlnkfbhbiinoaaArg
import Derived.Test.YtjlnkfbhbiinoaaRows
namespace Go.Proofs.Ytjlnkfbhbiinoaa
open Go.ChangeShapes Go.WideShapes Go.ChangeAt Go.RowKit Go.Deep
set_option linter.unusedVariables false

def encI64 (o : Int) : List Value := [.int .i64 o]
theorem open_i64 {H : Type} {enc : TypeId × Value → H} {w : World} {base : Nat} {spare : Nat → Bool} {held : Bool} {m : Nat} {cs : List Value} {y : DataW H × List MemPlace}
    (h : DataW.trod enc Try.prog w base spare held m 2 cs = some y) : ∃ o : Int, cs = encI64 o ∧ (Lit.int .i64 o).wf = true := by
  obtain ⟨x, hx, _, hw⟩ := DataW.trod_int Try.underlying2 h
  exact ⟨x, hx, hw⟩
theorem encI64_at (z : List Int) (k : Nat) (h : k < z.length) : (z.flatMap encI64)[k]? = some (.int .i64 z[k]) := by
  have : z.flatMap encI64 = z.map (Value.int .i64) := by
    clear h
    induction z with
    | nil => rfl
    | cons o z ih => rw [List.flatMap_cons, ih, List.map_cons]; rfl
  rw [this]
  simp [h]

def encOp12 (o : Int × Int × Int × Int) : List Value := [.int .i64 o.1, .int .i64 o.2.1, .int .i64 o.2.2.1, .int .i64 o.2.2.2]
theorem open_op12 {H : Type} {enc : TypeId × Value → H} {w : World} {base : Nat} {spare : Nat → Bool} {held : Bool} {m : Nat} {cs : List Value} {y : DataW H × List MemPlace}
    (h : DataW.trod enc Try.prog w base spare held m 82 cs = some y) : ∃ o : Int × Int × Int × Int, cs = encOp12 o ∧ (Lit.int .i64 o.1).wf = true ∧ (Lit.int .i64 o.2.1).wf = true ∧ (Lit.int .i64 o.2.2.1).wf = true ∧ (Lit.int .i64 o.2.2.2).wf = true := by
  obtain ⟨hl, hf⟩ := open_fields Try.underlying82 (by kernel_rfl) (by kernel_rfl) h
  obtain ⟨v0, m0, y0, e0, t0⟩ := hf 0 _ rfl
  obtain ⟨v1, m1, y1, e1, t1⟩ := hf 1 _ rfl
  obtain ⟨v2, m2, y2, e2, t2⟩ := hf 2 _ rfl
  obtain ⟨v3, m3, y3, e3, t3⟩ := hf 3 _ rfl
  obtain ⟨x0, hx0, _, hw0⟩ := DataW.trod_int Try.underlying3 t0
  obtain ⟨x1, hx1, _, hw1⟩ := DataW.trod_int Try.underlying3 t1
  obtain ⟨x2, hx2, _, hw2⟩ := DataW.trod_int Try.underlying2 t2
  obtain ⟨x3, hx3, _, hw3⟩ := DataW.trod_int Try.underlying2 t3
  injection hx0 with hx0
  injection hx1 with hx1
  injection hx2 with hx2
  injection hx3 with hx3
  subst hx0 hx1 hx2 hx3
  refine ⟨(x0, x1, x2, x3), ?_, hw0, hw1, hw2, hw3⟩
  match cs, hl, e0, e1, e2, e3 with
  | [c0, c1, c2, c3], _, e0, e1, e2, e3 =>
    simp at e0 e1 e2 e3
    subst e0 e1 e2 e3
    rfl
theorem encOp12_at (z : List (Int × Int × Int × Int)) (k : Nat) (h : k < z.length) :
    (z.flatMap encOp12)[k * 4]? = some (.int .i64 z[k].1) ∧ (z.flatMap encOp12)[k * 4 + 1]? = some (.int .i64 z[k].2.1) ∧ (z.flatMap encOp12)[k * 4 + 2]? = some (.int .i64 z[k].2.2.1) ∧ (z.flatMap encOp12)[k * 4 + 3]? = some (.int .i64 z[k].2.2.2) := by
  induction z generalizing k with
  | nil => simp at h
  | cons o z ih =>
    cases k with
    | zero => exact ⟨rfl, rfl, rfl, rfl⟩
    | succ k =>
      obtain ⟨a, b, c, d⟩ := ih k (by simpa using h)
      simp only [List.flatMap_cons, encOp12, List.cons_append, List.nil_append, List.getElem_cons_succ]
      rw [show (k + 1) * 4 = k * 4 + 1 + 1 + 1 + 1 by omega]
      exact ⟨a, b, c, d⟩
end Go.Proofs.Ytjlnkfbhbiinoaa
