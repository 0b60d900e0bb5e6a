/-
  Ends among the arguments: how they lie in memory.
-/
import Derived.Test.YtofomopdaponbaaGreatDoorYOps30
import Derived.Test.YtofomopdaponbaaGreatDoorYNen
namespace Go.Proofs.YtofomopdaponbaaGreatDoor
open Go.ChangeShapes Go.WideShapes Go.ChangeAt Go.RowKit Go.Deep
set_option linter.unusedVariables false
set_option linter.unusedSimpArgs false

set_option maxRecDepth 100000 in
theorem open_end {H : Type} {enc : TypeId × Value → H} {w : World} {base : Nat} {spare : Nat → Bool} {held : Bool} {m : Nat} {cs : List Value} {y : DataW H × List MemPlace}
    (h : DataW.trod enc Tryz.prog w base spare held m 66 cs = some y) : ∃ o : Int × Int, cs = encEnd o ∧ okEnd o := by
  obtain ⟨ys, n', _, hy, hlen, hyl, hf⟩ := DataW.trod_struct Tryz.underlying66 h
  have hc : Tryz.prog.cellsOf 66 = 2 := by kernel_rfl
  rw [hc] at hlen
  have c0 : Tryz.prog.cellsOf 3 = 1 := by kernel_rfl
  match cs, hlen with
  | [v0, v1], _ =>
    have t0 : DataW.trod enc Tryz.prog w base spare held n' 3 (([v0, v1].drop 0).take (Tryz.prog.cellsOf 3)) = ys[0]? := hf 0 _ rfl
    have t1 : DataW.trod enc Tryz.prog w base spare held n' 3 (([v0, v1].drop 1).take (Tryz.prog.cellsOf 3)) = ys[1]? := hf 1 _ rfl
    simp only [c0, List.drop_zero, List.take_succ_cons, List.take_zero, List.drop_succ_cons] at t0 t1
    have hys : ys.length = 2 := hyl
    match ys, hys, hy with
    | [y0, y1], _, hy =>
      obtain ⟨a, ha, _, haw⟩ := DataW.trod_int Tryz.underlying3 t0
      obtain ⟨x, hx, _, hxw⟩ := DataW.trod_int Tryz.underlying3 t1
      injection ha with ha
      injection hx with hx
      subst ha
      subst hx
      refine ⟨(a, x), rfl, ?_⟩
      simp only [Lit.wf, IntKind.min, IntKind.max, IntKind.signed, IntKind.bits, Bool.and_eq_true, decide_eq_true_eq] at hxw haw
      simp at hxw haw
      exact ⟨haw, hxw⟩
end Go.Proofs.YtofomopdaponbaaGreatDoor
