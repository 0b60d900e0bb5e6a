/-
  The source of identifications: Next, whatever is asked.
-/
import Derived.Test.YtjlnkfbhbiinoaaIde
import Derived.Test.YtjlnkfbhbiinoaaIdf
namespace Go.Proofs.Ytjlnkfbhbiinoaa
open Go.RowKit
section
variable {w : World} {S V : Nat} {F : List Nat} {space life now : Int} {G : List Int}
theorem next_any (h : SI w S V F space life G) :
    Calls Try.prog 48 #[.pointer (some ⟨S, 0, none⟩), .int .i64 now] w (SPost w S V F space life (idGot space life G now) (.tuple #[.int .u32 (idNum space life G now), .int .i64 (idErr space life G now)])) := by
  unfold idGot idNum idErr
  cases hm : idMay G now with
  | false => simp only [Bool.false_eq_true, if_false]; exact next_no h hm
  | true =>
    cases hf : idFull space life G now with
    | true => simp only [if_true]; exact next_full h hm hf
    | false => simp only [if_true, Bool.false_eq_true, if_false]; exact next_ok h hm hf
end
end Go.Proofs.Ytjlnkfbhbiinoaa
