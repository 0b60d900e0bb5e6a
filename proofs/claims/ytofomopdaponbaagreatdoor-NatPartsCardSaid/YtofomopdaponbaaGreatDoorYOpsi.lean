/-
  Whole numbers among the arguments: how they lie in memory.
-/
import Derived.Test.YtofomopdaponbaaGreatDoorYOps30
namespace Go.Proofs.YtofomopdaponbaaGreatDoor
open Go.ChangeShapes Go.WideShapes Go.ChangeAt Go.RowKit Go.Deep
set_option linter.unusedVariables false
set_option linter.unusedSimpArgs false

set_option maxRecDepth 100000 in
theorem open_i1 {H : Type} {enc : TypeId × Value → H} {w : World} {base : Nat} {spare : Nat → Bool} {held : Bool} {m : Nat} {cs : List Value} {y : DataW H × List MemPlace}
    (h : DataW.trod enc Tryz.prog w base spare held m 3 cs = some y) : ∃ o : Int, cs = [Value.int .i64 o] ∧ True := by
  obtain ⟨a, ha, -⟩ := DataW.trod_int Tryz.underlying3 h
  exact ⟨a, ha, trivial⟩
theorem map_flat1 (z : List Int) : z.flatMap (fun x : Int => [Value.int .i64 x]) = z.map (Value.int .i64) := by
  induction z with
  | nil => rfl
  | cons a r ih => rw [List.flatMap_cons, ih]; rfl
end Go.Proofs.YtofomopdaponbaaGreatDoor
