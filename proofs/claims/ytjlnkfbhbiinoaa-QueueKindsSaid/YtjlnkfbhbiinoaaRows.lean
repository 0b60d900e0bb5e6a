/-
  No cell of these rows narrows 'for every input' (looked for: loops, veiled, ifaces, maps, wideKeys, modest, calm, conditions, laid).
  DERIVED. THE GIVEN ROWS OF THIS SEAT. 10 by the template 'for every input the law returns true; each argument reads behind the call as it read before'; 0 by the template 'total and deterministic' (their statements: YtjlnkfbhbiinoaaTotals.lean).
  GIVEN WITH THE SEED: the statements are not yours to turn. If you find one false, say at which input.
  Laid BY PROGRAM, IN A SANDBOX (cutbox-rows.mjs): the forced cells as the released guide's own fill.sh prints them over the translation 4d8405e205efce3f… (all of the seat's roots in one cut). By AI agents, Wed Nov 11 2026. No macro, syntax, notation, axiom, sorry.
-/
import Derived.Test.YtjlnkfbhbiinoaaChecked
import GoSem.Claim
import GoSem.ClaimJoined
import GoSem.ClaimMapViews
import Derived.JoinedTies
import Derived.KernelRfl
namespace Go.Proofs.Ytjlnkfbhbiinoaa
/- THE CELL 'sum', in the pinned program and in every row, IS THE sha256 OF THE DUMP (.gsa) THAT YtjlnkfbhbiinoaaProg.lean LOADS. Nothing in Lean hashes anything: it is a label: what it is worth is what the hold of that sum in a sandbox is worth. -/
noncomputable def Try.pinned : Pinned := { name := "ytjlnkfbhbiinoaa", sum := "4d8405e205efce3f413b2cf5024f87b5d1c7fe4707282d47ac4b77d492828283", checked := Try.checked }
namespace Rows
def none {H : Type} : Left H := { results := [], args := [] }

/-- 'mosaiclaw19.QueueNews': WHATEVER THE INPUT: true; the input reads as it did. -/
def queueNewsSpec : ChangeSpec := { name := "queueNews", fn := fun _ => fun
  | [d1, d2] => { results := [.lit (.bool true)], args := [d1, d2] }
  | _ => none }
def queueNewsRow : OpenClaim := { program := "ytjlnkfbhbiinoaa", sum := "4d8405e205efce3f413b2cf5024f87b5d1c7fe4707282d47ac4b77d492828283", func := "mosaic/mosaiclaw19.QueueNews", spec := "queueNews", unfollowed := true, recurses := true, apart := false }
def QueueNewsSaid : Prop := queueNewsRow.holds Try.pinned (OpenSpec.ofChange queueNewsSpec)

/-- ITS FALSE NEIGHBOUR: 'it returns false'. Refute it at one input. -/
def queueNewsWrong : ChangeSpec := { name := "queueNews", fn := fun _ => fun
  | [d1, d2] => { results := [.lit (.bool false)], args := [d1, d2] }
  | _ => none }
def QueueNewsWrongFalsely : Prop := queueNewsRow.holds Try.pinned (OpenSpec.ofChange queueNewsWrong)

/-- 'mosaiclaw19.QueuePlays': WHATEVER THE INPUT: true; the input reads as it did. -/
def queuePlaysSpec : ChangeSpec := { name := "queuePlays", fn := fun _ => fun
  | [d1, d2, d3] => { results := [.lit (.bool true)], args := [d1, d2, d3] }
  | _ => none }
def queuePlaysRow : OpenClaim := { program := "ytjlnkfbhbiinoaa", sum := "4d8405e205efce3f413b2cf5024f87b5d1c7fe4707282d47ac4b77d492828283", func := "mosaic/mosaiclaw19.QueuePlays", spec := "queuePlays", unfollowed := true, recurses := true, apart := false }
def QueuePlaysSaid : Prop := queuePlaysRow.holds Try.pinned (OpenSpec.ofChange queuePlaysSpec)

/-- ITS FALSE NEIGHBOUR: 'it returns false'. Refute it at one input. -/
def queuePlaysWrong : ChangeSpec := { name := "queuePlays", fn := fun _ => fun
  | [d1, d2, d3] => { results := [.lit (.bool false)], args := [d1, d2, d3] }
  | _ => none }
def QueuePlaysWrongFalsely : Prop := queuePlaysRow.holds Try.pinned (OpenSpec.ofChange queuePlaysWrong)

/-- 'mosaiclaw19.QueueKinds': WHATEVER THE INPUT: true; the input reads as it did. -/
def queueKindsSpec : ChangeSpec := { name := "queueKinds", fn := fun _ => fun
  | [d1, d2, d3] => { results := [.lit (.bool true)], args := [d1, d2, d3] }
  | _ => none }
def queueKindsRow : OpenClaim := { program := "ytjlnkfbhbiinoaa", sum := "4d8405e205efce3f413b2cf5024f87b5d1c7fe4707282d47ac4b77d492828283", func := "mosaic/mosaiclaw19.QueueKinds", spec := "queueKinds", unfollowed := true, recurses := true, apart := false }
def QueueKindsSaid : Prop := queueKindsRow.holds Try.pinned (OpenSpec.ofChange queueKindsSpec)

/-- ITS FALSE NEIGHBOUR: 'it returns false'. Refute it at one input. -/
def queueKindsWrong : ChangeSpec := { name := "queueKinds", fn := fun _ => fun
  | [d1, d2, d3] => { results := [.lit (.bool false)], args := [d1, d2, d3] }
  | _ => none }
def QueueKindsWrongFalsely : Prop := queueKindsRow.holds Try.pinned (OpenSpec.ofChange queueKindsWrong)

/-- 'mosaiclaw19.QueueOrders': WHATEVER THE INPUT: true; the input reads as it did. -/
def queueOrdersSpec : ChangeSpec := { name := "queueOrders", fn := fun _ => fun
  | [d1, d2, d3] => { results := [.lit (.bool true)], args := [d1, d2, d3] }
  | _ => none }
def queueOrdersRow : OpenClaim := { program := "ytjlnkfbhbiinoaa", sum := "4d8405e205efce3f413b2cf5024f87b5d1c7fe4707282d47ac4b77d492828283", func := "mosaic/mosaiclaw19.QueueOrders", spec := "queueOrders", unfollowed := true, recurses := true, apart := false }
def QueueOrdersSaid : Prop := queueOrdersRow.holds Try.pinned (OpenSpec.ofChange queueOrdersSpec)

/-- ITS FALSE NEIGHBOUR: 'it returns false'. Refute it at one input. -/
def queueOrdersWrong : ChangeSpec := { name := "queueOrders", fn := fun _ => fun
  | [d1, d2, d3] => { results := [.lit (.bool false)], args := [d1, d2, d3] }
  | _ => none }
def QueueOrdersWrongFalsely : Prop := queueOrdersRow.holds Try.pinned (OpenSpec.ofChange queueOrdersWrong)

/-- 'mosaiclaw19.QueueApart': WHATEVER THE INPUT: true; the input reads as it did. -/
def queueApartSpec : ChangeSpec := { name := "queueApart", fn := fun _ => fun
  | [d1, d2, d3, d4] => { results := [.lit (.bool true)], args := [d1, d2, d3, d4] }
  | _ => none }
def queueApartRow : OpenClaim := { program := "ytjlnkfbhbiinoaa", sum := "4d8405e205efce3f413b2cf5024f87b5d1c7fe4707282d47ac4b77d492828283", func := "mosaic/mosaiclaw19.QueueApart", spec := "queueApart", unfollowed := true, recurses := true, apart := false }
def QueueApartSaid : Prop := queueApartRow.holds Try.pinned (OpenSpec.ofChange queueApartSpec)

/-- ITS FALSE NEIGHBOUR: 'it returns false'. Refute it at one input. -/
def queueApartWrong : ChangeSpec := { name := "queueApart", fn := fun _ => fun
  | [d1, d2, d3, d4] => { results := [.lit (.bool false)], args := [d1, d2, d3, d4] }
  | _ => none }
def QueueApartWrongFalsely : Prop := queueApartRow.holds Try.pinned (OpenSpec.ofChange queueApartWrong)

/-- 'mosaiclaw12.IdentPlays': WHATEVER THE INPUT: true; the input reads as it did. -/
def identPlaysSpec : ChangeSpec := { name := "identPlays", fn := fun _ => fun
  | [d] => { results := [.lit (.bool true)], args := [d] }
  | _ => none }
def identPlaysRow : OpenClaim := { program := "ytjlnkfbhbiinoaa", sum := "4d8405e205efce3f413b2cf5024f87b5d1c7fe4707282d47ac4b77d492828283", func := "mosaic/mosaiclaw12.IdentPlays", spec := "identPlays", unfollowed := true, recurses := true, apart := false }
def IdentPlaysSaid : Prop := identPlaysRow.holds Try.pinned (OpenSpec.ofChange identPlaysSpec)

/-- ITS FALSE NEIGHBOUR: 'it returns false'. Refute it at one input. -/
def identPlaysWrong : ChangeSpec := { name := "identPlays", fn := fun _ => fun
  | [d] => { results := [.lit (.bool false)], args := [d] }
  | _ => none }
def IdentPlaysWrongFalsely : Prop := identPlaysRow.holds Try.pinned (OpenSpec.ofChange identPlaysWrong)

/-- 'mosaiclaw12.IdentNone': WHATEVER THE INPUT: true; the input reads as it did. -/
def identNoneSpec : ChangeSpec := { name := "identNone", fn := fun _ => fun
  | [d1, d2, d3] => { results := [.lit (.bool true)], args := [d1, d2, d3] }
  | _ => none }
def identNoneRow : OpenClaim := { program := "ytjlnkfbhbiinoaa", sum := "4d8405e205efce3f413b2cf5024f87b5d1c7fe4707282d47ac4b77d492828283", func := "mosaic/mosaiclaw12.IdentNone", spec := "identNone", unfollowed := true, recurses := true, apart := false }
def IdentNoneSaid : Prop := identNoneRow.holds Try.pinned (OpenSpec.ofChange identNoneSpec)

/-- ITS FALSE NEIGHBOUR: 'it returns false'. Refute it at one input. -/
def identNoneWrong : ChangeSpec := { name := "identNone", fn := fun _ => fun
  | [d1, d2, d3] => { results := [.lit (.bool false)], args := [d1, d2, d3] }
  | _ => none }
def IdentNoneWrongFalsely : Prop := identNoneRow.holds Try.pinned (OpenSpec.ofChange identNoneWrong)

/-- 'mosaiclaw12.IdentBusyWhen': WHATEVER THE INPUT: true; the input reads as it did. -/
def identBusyWhenSpec : ChangeSpec := { name := "identBusyWhen", fn := fun _ => fun
  | [d1, d2, d3] => { results := [.lit (.bool true)], args := [d1, d2, d3] }
  | _ => none }
def identBusyWhenRow : OpenClaim := { program := "ytjlnkfbhbiinoaa", sum := "4d8405e205efce3f413b2cf5024f87b5d1c7fe4707282d47ac4b77d492828283", func := "mosaic/mosaiclaw12.IdentBusyWhen", spec := "identBusyWhen", unfollowed := true, recurses := true, apart := false }
def IdentBusyWhenSaid : Prop := identBusyWhenRow.holds Try.pinned (OpenSpec.ofChange identBusyWhenSpec)

/-- ITS FALSE NEIGHBOUR: 'it returns false'. Refute it at one input. -/
def identBusyWhenWrong : ChangeSpec := { name := "identBusyWhen", fn := fun _ => fun
  | [d1, d2, d3] => { results := [.lit (.bool false)], args := [d1, d2, d3] }
  | _ => none }
def IdentBusyWhenWrongFalsely : Prop := identBusyWhenRow.holds Try.pinned (OpenSpec.ofChange identBusyWhenWrong)

/-- 'mosaiclaw12.IdentAgain': WHATEVER THE INPUT: true; the input reads as it did. -/
def identAgainSpec : ChangeSpec := { name := "identAgain", fn := fun _ => fun
  | [d1, d2, d3] => { results := [.lit (.bool true)], args := [d1, d2, d3] }
  | _ => none }
def identAgainRow : OpenClaim := { program := "ytjlnkfbhbiinoaa", sum := "4d8405e205efce3f413b2cf5024f87b5d1c7fe4707282d47ac4b77d492828283", func := "mosaic/mosaiclaw12.IdentAgain", spec := "identAgain", unfollowed := true, recurses := true, apart := false }
def IdentAgainSaid : Prop := identAgainRow.holds Try.pinned (OpenSpec.ofChange identAgainSpec)

/-- ITS FALSE NEIGHBOUR: 'it returns false'. Refute it at one input. -/
def identAgainWrong : ChangeSpec := { name := "identAgain", fn := fun _ => fun
  | [d1, d2, d3] => { results := [.lit (.bool false)], args := [d1, d2, d3] }
  | _ => none }
def IdentAgainWrongFalsely : Prop := identAgainRow.holds Try.pinned (OpenSpec.ofChange identAgainWrong)

/-- 'mosaiclaw12.IdentBounds': WHATEVER THE INPUT: true; the input reads as it did. -/
def identBoundsSpec : ChangeSpec := { name := "identBounds", fn := fun _ => fun
  | [d1, d2, d3, d4] => { results := [.lit (.bool true)], args := [d1, d2, d3, d4] }
  | _ => none }
def identBoundsRow : OpenClaim := { program := "ytjlnkfbhbiinoaa", sum := "4d8405e205efce3f413b2cf5024f87b5d1c7fe4707282d47ac4b77d492828283", func := "mosaic/mosaiclaw12.IdentBounds", spec := "identBounds", unfollowed := true, recurses := true, apart := false }
def IdentBoundsSaid : Prop := identBoundsRow.holds Try.pinned (OpenSpec.ofChange identBoundsSpec)

/-- ITS FALSE NEIGHBOUR: 'it returns false'. Refute it at one input. -/
def identBoundsWrong : ChangeSpec := { name := "identBounds", fn := fun _ => fun
  | [d1, d2, d3, d4] => { results := [.lit (.bool false)], args := [d1, d2, d3, d4] }
  | _ => none }
def IdentBoundsWrongFalsely : Prop := identBoundsRow.holds Try.pinned (OpenSpec.ofChange identBoundsWrong)

/- THE SECOND FORM. 'bulk': how many values and letters a reading holds, each counted each time it is reached (what is shared counts as often as it is met; a slice's spare places count too). A statement '..UptoSaid' is the law's where the arguments, and the package variables that the reading takes, are together of bulk at most 1048576: NARROWER than '..Said'. Prove '..Said' where nothing that the law and all that it calls make is longer than what came in: it says more and counts as full. Else prove '..UptoSaid'. A law counts once. -/
mutual
def uptoBulk {H : Type} : DataW H → Nat
  | .lit (.string bytes) => bytes.length + 1
  | .lit _ => 1
  | .nil => 1
  | .ptr d => uptoBulk d + 1
  | .slice elems spare => uptoBulkAll elems + uptoBulkAll spare + 1
  | .agg parts => uptoBulkAll parts + 1
  | .iface _ d => uptoBulk d + 1
  | .map entries => uptoBulkEntries entries + 1
  | .held _ => 1
def uptoBulkAll {H : Type} : List (DataW H) → Nat
  | [] => 0
  | d :: r => uptoBulk d + uptoBulkAll r
def uptoBulkEntries {H : Type} : List (Lit × DataW H) → Nat
  | [] => 0
  | x :: r => uptoBulkEntry x + uptoBulkEntries r
def uptoBulkEntry {H : Type} : Lit × DataW H → Nat
  | (.string bytes, d) => bytes.length + uptoBulk d + 1
  | (_, d) => uptoBulk d + 1
 end
def uptoSmall : (H : Type) → List (DataW H) → Bool := fun _ ds => decide (uptoBulkAll ds ≤ 1048576)
def OpenSpec.upto (s : _root_.Go.ChangeSpec) : _root_.Go.OpenSpec := { _root_.Go.OpenSpec.ofChange s with cond := some uptoSmall }

/-- 'mosaiclaw19.QueueNews', WHERE WHAT IT READS IS OF BULK AT MOST 1048576: true; the input reads as it did. -/
def queueNewsUptoRow : OpenClaim := { program := "ytjlnkfbhbiinoaa", sum := "4d8405e205efce3f413b2cf5024f87b5d1c7fe4707282d47ac4b77d492828283", func := "mosaic/mosaiclaw19.QueueNews", spec := "queueNews", unfollowed := true, recurses := true, apart := false, narrowed := true }
def QueueNewsUptoSaid : Prop := queueNewsUptoRow.holds Try.pinned (OpenSpec.upto queueNewsSpec)

/-- 'mosaiclaw19.QueuePlays', WHERE WHAT IT READS IS OF BULK AT MOST 1048576: true; the input reads as it did. -/
def queuePlaysUptoRow : OpenClaim := { program := "ytjlnkfbhbiinoaa", sum := "4d8405e205efce3f413b2cf5024f87b5d1c7fe4707282d47ac4b77d492828283", func := "mosaic/mosaiclaw19.QueuePlays", spec := "queuePlays", unfollowed := true, recurses := true, apart := false, narrowed := true }
def QueuePlaysUptoSaid : Prop := queuePlaysUptoRow.holds Try.pinned (OpenSpec.upto queuePlaysSpec)

/-- 'mosaiclaw19.QueueKinds', WHERE WHAT IT READS IS OF BULK AT MOST 1048576: true; the input reads as it did. -/
def queueKindsUptoRow : OpenClaim := { program := "ytjlnkfbhbiinoaa", sum := "4d8405e205efce3f413b2cf5024f87b5d1c7fe4707282d47ac4b77d492828283", func := "mosaic/mosaiclaw19.QueueKinds", spec := "queueKinds", unfollowed := true, recurses := true, apart := false, narrowed := true }
def QueueKindsUptoSaid : Prop := queueKindsUptoRow.holds Try.pinned (OpenSpec.upto queueKindsSpec)

/-- 'mosaiclaw19.QueueOrders', WHERE WHAT IT READS IS OF BULK AT MOST 1048576: true; the input reads as it did. -/
def queueOrdersUptoRow : OpenClaim := { program := "ytjlnkfbhbiinoaa", sum := "4d8405e205efce3f413b2cf5024f87b5d1c7fe4707282d47ac4b77d492828283", func := "mosaic/mosaiclaw19.QueueOrders", spec := "queueOrders", unfollowed := true, recurses := true, apart := false, narrowed := true }
def QueueOrdersUptoSaid : Prop := queueOrdersUptoRow.holds Try.pinned (OpenSpec.upto queueOrdersSpec)

/-- 'mosaiclaw19.QueueApart', WHERE WHAT IT READS IS OF BULK AT MOST 1048576: true; the input reads as it did. -/
def queueApartUptoRow : OpenClaim := { program := "ytjlnkfbhbiinoaa", sum := "4d8405e205efce3f413b2cf5024f87b5d1c7fe4707282d47ac4b77d492828283", func := "mosaic/mosaiclaw19.QueueApart", spec := "queueApart", unfollowed := true, recurses := true, apart := false, narrowed := true }
def QueueApartUptoSaid : Prop := queueApartUptoRow.holds Try.pinned (OpenSpec.upto queueApartSpec)

/-- 'mosaiclaw12.IdentPlays', WHERE WHAT IT READS IS OF BULK AT MOST 1048576: true; the input reads as it did. -/
def identPlaysUptoRow : OpenClaim := { program := "ytjlnkfbhbiinoaa", sum := "4d8405e205efce3f413b2cf5024f87b5d1c7fe4707282d47ac4b77d492828283", func := "mosaic/mosaiclaw12.IdentPlays", spec := "identPlays", unfollowed := true, recurses := true, apart := false, narrowed := true }
def IdentPlaysUptoSaid : Prop := identPlaysUptoRow.holds Try.pinned (OpenSpec.upto identPlaysSpec)

/-- 'mosaiclaw12.IdentNone', WHERE WHAT IT READS IS OF BULK AT MOST 1048576: true; the input reads as it did. -/
def identNoneUptoRow : OpenClaim := { program := "ytjlnkfbhbiinoaa", sum := "4d8405e205efce3f413b2cf5024f87b5d1c7fe4707282d47ac4b77d492828283", func := "mosaic/mosaiclaw12.IdentNone", spec := "identNone", unfollowed := true, recurses := true, apart := false, narrowed := true }
def IdentNoneUptoSaid : Prop := identNoneUptoRow.holds Try.pinned (OpenSpec.upto identNoneSpec)

/-- 'mosaiclaw12.IdentBusyWhen', WHERE WHAT IT READS IS OF BULK AT MOST 1048576: true; the input reads as it did. -/
def identBusyWhenUptoRow : OpenClaim := { program := "ytjlnkfbhbiinoaa", sum := "4d8405e205efce3f413b2cf5024f87b5d1c7fe4707282d47ac4b77d492828283", func := "mosaic/mosaiclaw12.IdentBusyWhen", spec := "identBusyWhen", unfollowed := true, recurses := true, apart := false, narrowed := true }
def IdentBusyWhenUptoSaid : Prop := identBusyWhenUptoRow.holds Try.pinned (OpenSpec.upto identBusyWhenSpec)

/-- 'mosaiclaw12.IdentAgain', WHERE WHAT IT READS IS OF BULK AT MOST 1048576: true; the input reads as it did. -/
def identAgainUptoRow : OpenClaim := { program := "ytjlnkfbhbiinoaa", sum := "4d8405e205efce3f413b2cf5024f87b5d1c7fe4707282d47ac4b77d492828283", func := "mosaic/mosaiclaw12.IdentAgain", spec := "identAgain", unfollowed := true, recurses := true, apart := false, narrowed := true }
def IdentAgainUptoSaid : Prop := identAgainUptoRow.holds Try.pinned (OpenSpec.upto identAgainSpec)

/-- 'mosaiclaw12.IdentBounds', WHERE WHAT IT READS IS OF BULK AT MOST 1048576: true; the input reads as it did. -/
def identBoundsUptoRow : OpenClaim := { program := "ytjlnkfbhbiinoaa", sum := "4d8405e205efce3f413b2cf5024f87b5d1c7fe4707282d47ac4b77d492828283", func := "mosaic/mosaiclaw12.IdentBounds", spec := "identBounds", unfollowed := true, recurses := true, apart := false, narrowed := true }
def IdentBoundsUptoSaid : Prop := identBoundsUptoRow.holds Try.pinned (OpenSpec.upto identBoundsSpec)

end Rows
end Go.Proofs.Ytjlnkfbhbiinoaa
