/-
  NARROWER THAN 'FOR EVERY INPUT', by the rows' own cells (each row's printed sentence says how): NatPlays: laid · NatShares: laid · NatRight: laid · NatMemory: laid · NatBack: laid · NatParts: laid · NatErrors: laid.
  DERIVED. THE GIVEN ROWS OF THIS SEAT. 7 by the template 'for every input the law returns true; each argument reads behind the call as it read before'; 0 by the template 'total and deterministic' (their statements: YtofomopdaponbaaGreatDoorTotals.lean).
  GIVEN WITH THE SEED: the statements are not yours to turn. If you find one false, say at which input.
  Laid BY PROGRAM, IN A SANDBOX (cutbox-rows.mjs): the forced cells as the released guide's own fill.sh prints them over the translation b0b60132d945933f… (all of the seat's roots in one cut). By AI agents, Wed Nov 11 2026. No macro, syntax, notation, axiom, sorry.
-/
import Derived.Test.YtofomopdaponbaaGreatDoorChecked
import GoSem.Claim
import GoSem.ClaimJoined
import GoSem.ClaimMapViews
import Derived.JoinedTies
import Derived.KernelRfl
namespace Go.Proofs.YtofomopdaponbaaGreatDoor
/- THE CELL 'sum', in the pinned program and in every row, IS THE sha256 OF THE DUMP (.gsa) THAT YtofomopdaponbaaGreatDoorProg.lean LOADS. Nothing in Lean hashes anything: it is a label: what it is worth is what the hold of that sum in a sandbox is worth. -/
noncomputable def Tryz.pinned : Pinned := { name := "ytofomopdaponbaagreatdoor", sum := "b0b60132d945933f35804429ea753109b42a0005838525941a2254d109055d40", checked := Tryz.checked }
namespace Rows
def none {H : Type} : Left H := { results := [], args := [] }

/- WHAT THE LISTED PACKAGE-LEVEL VARIABLES READ AS WHEN THE CALL BEGINS. Each datum BY PROGRAM (the guide's laid-datum.mjs) off the statement by which the dump's own 'gosem.cut.vars' lays the variable. In a bare row this is a premise. The card (YtofomopdaponbaaGreatDoorCards.lean) ties it to the program's text. -/
def laid_mosaic_opts_shapes {H : Type} : DataW H := .agg [.lit (.int .i64 1), .lit (.int .i64 2)]
def laid_mosaic_icmp_signs {H : Type} : DataW H := .agg [.agg [.agg [.lit (.int .i64 3), .lit (.int .i64 4)], .agg [.lit (.int .i64 2), .lit (.int .i64 0)]], .agg [.agg [.lit (.int .i64 3), .lit (.int .i64 3)], .agg [.lit (.int .i64 1), .lit (.int .i64 4)]], .agg [.agg [.lit (.int .i64 3), .lit (.int .i64 0)], .agg [.lit (.int .i64 1), .lit (.int .i64 0)]], .agg [.agg [.lit (.int .i64 11), .lit (.int .i64 0)], .agg [.lit (.int .i64 3), .lit (.int .i64 0)]], .agg [.agg [.lit (.int .i64 11), .lit (.int .i64 1)], .agg [.lit (.int .i64 3), .lit (.int .i64 1)]]]

/-- 'mosaiclaw30.NatPlays': WHATEVER THE INPUT: true; the input reads as it did. -/
def natPlaysSpec : ChangeSpec := { name := "natPlays", fn := fun _ => fun
  | [d1, d2] => { results := [.lit (.bool true)], args := [d1, d2] }
  | _ => none }
def natPlaysRow : OpenClaim := { program := "ytofomopdaponbaagreatdoor", sum := "b0b60132d945933f35804429ea753109b42a0005838525941a2254d109055d40", func := "mosaic/mosaiclaw30.NatPlays", spec := "natPlays", unfollowed := true, recurses := true, named := ["mosaic/opts.shapes"], apart := false, laid := [("mosaic/opts.shapes", laid_mosaic_opts_shapes)] }
def NatPlaysSaid : Prop := natPlaysRow.holds Tryz.pinned (OpenSpec.ofChange natPlaysSpec)

/-- ITS FALSE NEIGHBOUR: 'it returns false'. Refute it at one input. -/
def natPlaysWrong : ChangeSpec := { name := "natPlays", fn := fun _ => fun
  | [d1, d2] => { results := [.lit (.bool false)], args := [d1, d2] }
  | _ => none }
def NatPlaysWrongFalsely : Prop := natPlaysRow.holds Tryz.pinned (OpenSpec.ofChange natPlaysWrong)

/-- 'mosaiclaw30.NatShares': WHATEVER THE INPUT: true; the input reads as it did. -/
def natSharesSpec : ChangeSpec := { name := "natShares", fn := fun _ => fun
  | [d1, d2, d3] => { results := [.lit (.bool true)], args := [d1, d2, d3] }
  | _ => none }
def natSharesRow : OpenClaim := { program := "ytofomopdaponbaagreatdoor", sum := "b0b60132d945933f35804429ea753109b42a0005838525941a2254d109055d40", func := "mosaic/mosaiclaw30.NatShares", spec := "natShares", unfollowed := true, recurses := true, named := ["mosaic/opts.shapes"], apart := false, laid := [("mosaic/opts.shapes", laid_mosaic_opts_shapes)] }
def NatSharesSaid : Prop := natSharesRow.holds Tryz.pinned (OpenSpec.ofChange natSharesSpec)

/-- ITS FALSE NEIGHBOUR: 'it returns false'. Refute it at one input. -/
def natSharesWrong : ChangeSpec := { name := "natShares", fn := fun _ => fun
  | [d1, d2, d3] => { results := [.lit (.bool false)], args := [d1, d2, d3] }
  | _ => none }
def NatSharesWrongFalsely : Prop := natSharesRow.holds Tryz.pinned (OpenSpec.ofChange natSharesWrong)

/-- 'mosaiclaw30.NatRight': WHATEVER THE INPUT: true; the input reads as it did. -/
def natRightSpec : ChangeSpec := { name := "natRight", fn := fun _ => fun
  | [d] => { results := [.lit (.bool true)], args := [d] }
  | _ => none }
def natRightRow : OpenClaim := { program := "ytofomopdaponbaagreatdoor", sum := "b0b60132d945933f35804429ea753109b42a0005838525941a2254d109055d40", func := "mosaic/mosaiclaw30.NatRight", spec := "natRight", unfollowed := true, recurses := true, named := ["mosaic/opts.shapes"], apart := false, laid := [("mosaic/opts.shapes", laid_mosaic_opts_shapes)] }
def NatRightSaid : Prop := natRightRow.holds Tryz.pinned (OpenSpec.ofChange natRightSpec)

/-- ITS FALSE NEIGHBOUR: 'it returns false'. Refute it at one input. -/
def natRightWrong : ChangeSpec := { name := "natRight", fn := fun _ => fun
  | [d] => { results := [.lit (.bool false)], args := [d] }
  | _ => none }
def NatRightWrongFalsely : Prop := natRightRow.holds Tryz.pinned (OpenSpec.ofChange natRightWrong)

/-- 'mosaiclaw30.NatMemory': WHATEVER THE INPUT: true; the input reads as it did. -/
def natMemorySpec : ChangeSpec := { name := "natMemory", fn := fun _ => fun
  | [d1, d2, d3] => { results := [.lit (.bool true)], args := [d1, d2, d3] }
  | _ => none }
def natMemoryRow : OpenClaim := { program := "ytofomopdaponbaagreatdoor", sum := "b0b60132d945933f35804429ea753109b42a0005838525941a2254d109055d40", func := "mosaic/mosaiclaw30.NatMemory", spec := "natMemory", unfollowed := true, recurses := true, named := ["mosaic/opts.shapes"], apart := false, laid := [("mosaic/opts.shapes", laid_mosaic_opts_shapes)] }
def NatMemorySaid : Prop := natMemoryRow.holds Tryz.pinned (OpenSpec.ofChange natMemorySpec)

/-- ITS FALSE NEIGHBOUR: 'it returns false'. Refute it at one input. -/
def natMemoryWrong : ChangeSpec := { name := "natMemory", fn := fun _ => fun
  | [d1, d2, d3] => { results := [.lit (.bool false)], args := [d1, d2, d3] }
  | _ => none }
def NatMemoryWrongFalsely : Prop := natMemoryRow.holds Tryz.pinned (OpenSpec.ofChange natMemoryWrong)

/-- 'mosaiclaw30.NatBack': WHATEVER THE INPUT: true; the input reads as it did. -/
def natBackSpec : ChangeSpec := { name := "natBack", fn := fun _ => fun
  | [d1, d2, d3, d4, d5] => { results := [.lit (.bool true)], args := [d1, d2, d3, d4, d5] }
  | _ => none }
def natBackRow : OpenClaim := { program := "ytofomopdaponbaagreatdoor", sum := "b0b60132d945933f35804429ea753109b42a0005838525941a2254d109055d40", func := "mosaic/mosaiclaw30.NatBack", spec := "natBack", unfollowed := true, recurses := true, named := ["mosaic/opts.shapes"], apart := false, laid := [("mosaic/opts.shapes", laid_mosaic_opts_shapes)] }
def NatBackSaid : Prop := natBackRow.holds Tryz.pinned (OpenSpec.ofChange natBackSpec)

/-- ITS FALSE NEIGHBOUR: 'it returns false'. Refute it at one input. -/
def natBackWrong : ChangeSpec := { name := "natBack", fn := fun _ => fun
  | [d1, d2, d3, d4, d5] => { results := [.lit (.bool false)], args := [d1, d2, d3, d4, d5] }
  | _ => none }
def NatBackWrongFalsely : Prop := natBackRow.holds Tryz.pinned (OpenSpec.ofChange natBackWrong)

/-- 'mosaiclaw30.NatParts': WHATEVER THE INPUT: true; the input reads as it did. -/
def natPartsSpec : ChangeSpec := { name := "natParts", fn := fun _ => fun
  | [d1, d2, d3, d4, d5, d6] => { results := [.lit (.bool true)], args := [d1, d2, d3, d4, d5, d6] }
  | _ => none }
def natPartsRow : OpenClaim := { program := "ytofomopdaponbaagreatdoor", sum := "b0b60132d945933f35804429ea753109b42a0005838525941a2254d109055d40", func := "mosaic/mosaiclaw30.NatParts", spec := "natParts", unfollowed := true, recurses := true, named := ["mosaic/opts.shapes"], apart := false, laid := [("mosaic/opts.shapes", laid_mosaic_opts_shapes)] }
def NatPartsSaid : Prop := natPartsRow.holds Tryz.pinned (OpenSpec.ofChange natPartsSpec)

/-- ITS FALSE NEIGHBOUR: 'it returns false'. Refute it at one input. -/
def natPartsWrong : ChangeSpec := { name := "natParts", fn := fun _ => fun
  | [d1, d2, d3, d4, d5, d6] => { results := [.lit (.bool false)], args := [d1, d2, d3, d4, d5, d6] }
  | _ => none }
def NatPartsWrongFalsely : Prop := natPartsRow.holds Tryz.pinned (OpenSpec.ofChange natPartsWrong)

/-- 'mosaiclaw30.NatErrors': WHATEVER THE INPUT: true; the input reads as it did. -/
def natErrorsSpec : ChangeSpec := { name := "natErrors", fn := fun _ => fun
  | [d1, d2, d3, d4, d5, d6] => { results := [.lit (.bool true)], args := [d1, d2, d3, d4, d5, d6] }
  | _ => none }
def natErrorsRow : OpenClaim := { program := "ytofomopdaponbaagreatdoor", sum := "b0b60132d945933f35804429ea753109b42a0005838525941a2254d109055d40", func := "mosaic/mosaiclaw30.NatErrors", spec := "natErrors", unfollowed := true, recurses := true, named := ["mosaic/opts.shapes", "mosaic/icmp.signs"], apart := false, laid := [("mosaic/opts.shapes", laid_mosaic_opts_shapes), ("mosaic/icmp.signs", laid_mosaic_icmp_signs)] }
def NatErrorsSaid : Prop := natErrorsRow.holds Tryz.pinned (OpenSpec.ofChange natErrorsSpec)

/-- ITS FALSE NEIGHBOUR: 'it returns false'. Refute it at one input. -/
def natErrorsWrong : ChangeSpec := { name := "natErrors", fn := fun _ => fun
  | [d1, d2, d3, d4, d5, d6] => { results := [.lit (.bool false)], args := [d1, d2, d3, d4, d5, d6] }
  | _ => none }
def NatErrorsWrongFalsely : Prop := natErrorsRow.holds Tryz.pinned (OpenSpec.ofChange natErrorsWrong)

/- THE SECOND FORM. 'bulk': how many values and letters a reading holds, each counted each time it is reached (what is shared counts as often as it is met; a slice's spare places count too). A statement '..UptoSaid' is the law's where the arguments, and the package variables that the reading takes, are together of bulk at most 1048576: NARROWER than '..Said'. Prove '..Said' where nothing that the law and all that it calls make is longer than what came in: it says more and counts as full. Else prove '..UptoSaid'. A law counts once. -/
mutual
def uptoBulk {H : Type} : DataW H → Nat
  | .lit (.string bytes) => bytes.length + 1
  | .lit _ => 1
  | .nil => 1
  | .ptr d => uptoBulk d + 1
  | .slice elems spare => uptoBulkAll elems + uptoBulkAll spare + 1
  | .agg parts => uptoBulkAll parts + 1
  | .iface _ d => uptoBulk d + 1
  | .map entries => uptoBulkEntries entries + 1
  | .held _ => 1
def uptoBulkAll {H : Type} : List (DataW H) → Nat
  | [] => 0
  | d :: r => uptoBulk d + uptoBulkAll r
def uptoBulkEntries {H : Type} : List (Lit × DataW H) → Nat
  | [] => 0
  | x :: r => uptoBulkEntry x + uptoBulkEntries r
def uptoBulkEntry {H : Type} : Lit × DataW H → Nat
  | (.string bytes, d) => bytes.length + uptoBulk d + 1
  | (_, d) => uptoBulk d + 1
 end
def uptoSmall : (H : Type) → List (DataW H) → Bool := fun _ ds => decide (uptoBulkAll ds ≤ 1048576)
def OpenSpec.upto (s : _root_.Go.ChangeSpec) : _root_.Go.OpenSpec := { _root_.Go.OpenSpec.ofChange s with cond := some uptoSmall }

/-- 'mosaiclaw30.NatPlays', WHERE WHAT IT READS IS OF BULK AT MOST 1048576: true; the input reads as it did. -/
def natPlaysUptoRow : OpenClaim := { program := "ytofomopdaponbaagreatdoor", sum := "b0b60132d945933f35804429ea753109b42a0005838525941a2254d109055d40", func := "mosaic/mosaiclaw30.NatPlays", spec := "natPlays", unfollowed := true, recurses := true, named := ["mosaic/opts.shapes"], apart := false, laid := [("mosaic/opts.shapes", laid_mosaic_opts_shapes)], narrowed := true }
def NatPlaysUptoSaid : Prop := natPlaysUptoRow.holds Tryz.pinned (OpenSpec.upto natPlaysSpec)

/-- 'mosaiclaw30.NatShares', WHERE WHAT IT READS IS OF BULK AT MOST 1048576: true; the input reads as it did. -/
def natSharesUptoRow : OpenClaim := { program := "ytofomopdaponbaagreatdoor", sum := "b0b60132d945933f35804429ea753109b42a0005838525941a2254d109055d40", func := "mosaic/mosaiclaw30.NatShares", spec := "natShares", unfollowed := true, recurses := true, named := ["mosaic/opts.shapes"], apart := false, laid := [("mosaic/opts.shapes", laid_mosaic_opts_shapes)], narrowed := true }
def NatSharesUptoSaid : Prop := natSharesUptoRow.holds Tryz.pinned (OpenSpec.upto natSharesSpec)

/-- 'mosaiclaw30.NatRight', WHERE WHAT IT READS IS OF BULK AT MOST 1048576: true; the input reads as it did. -/
def natRightUptoRow : OpenClaim := { program := "ytofomopdaponbaagreatdoor", sum := "b0b60132d945933f35804429ea753109b42a0005838525941a2254d109055d40", func := "mosaic/mosaiclaw30.NatRight", spec := "natRight", unfollowed := true, recurses := true, named := ["mosaic/opts.shapes"], apart := false, laid := [("mosaic/opts.shapes", laid_mosaic_opts_shapes)], narrowed := true }
def NatRightUptoSaid : Prop := natRightUptoRow.holds Tryz.pinned (OpenSpec.upto natRightSpec)

/-- 'mosaiclaw30.NatMemory', WHERE WHAT IT READS IS OF BULK AT MOST 1048576: true; the input reads as it did. -/
def natMemoryUptoRow : OpenClaim := { program := "ytofomopdaponbaagreatdoor", sum := "b0b60132d945933f35804429ea753109b42a0005838525941a2254d109055d40", func := "mosaic/mosaiclaw30.NatMemory", spec := "natMemory", unfollowed := true, recurses := true, named := ["mosaic/opts.shapes"], apart := false, laid := [("mosaic/opts.shapes", laid_mosaic_opts_shapes)], narrowed := true }
def NatMemoryUptoSaid : Prop := natMemoryUptoRow.holds Tryz.pinned (OpenSpec.upto natMemorySpec)

/-- 'mosaiclaw30.NatBack', WHERE WHAT IT READS IS OF BULK AT MOST 1048576: true; the input reads as it did. -/
def natBackUptoRow : OpenClaim := { program := "ytofomopdaponbaagreatdoor", sum := "b0b60132d945933f35804429ea753109b42a0005838525941a2254d109055d40", func := "mosaic/mosaiclaw30.NatBack", spec := "natBack", unfollowed := true, recurses := true, named := ["mosaic/opts.shapes"], apart := false, laid := [("mosaic/opts.shapes", laid_mosaic_opts_shapes)], narrowed := true }
def NatBackUptoSaid : Prop := natBackUptoRow.holds Tryz.pinned (OpenSpec.upto natBackSpec)

/-- 'mosaiclaw30.NatParts', WHERE WHAT IT READS IS OF BULK AT MOST 1048576: true; the input reads as it did. -/
def natPartsUptoRow : OpenClaim := { program := "ytofomopdaponbaagreatdoor", sum := "b0b60132d945933f35804429ea753109b42a0005838525941a2254d109055d40", func := "mosaic/mosaiclaw30.NatParts", spec := "natParts", unfollowed := true, recurses := true, named := ["mosaic/opts.shapes"], apart := false, laid := [("mosaic/opts.shapes", laid_mosaic_opts_shapes)], narrowed := true }
def NatPartsUptoSaid : Prop := natPartsUptoRow.holds Tryz.pinned (OpenSpec.upto natPartsSpec)

/-- 'mosaiclaw30.NatErrors', WHERE WHAT IT READS IS OF BULK AT MOST 1048576: true; the input reads as it did. -/
def natErrorsUptoRow : OpenClaim := { program := "ytofomopdaponbaagreatdoor", sum := "b0b60132d945933f35804429ea753109b42a0005838525941a2254d109055d40", func := "mosaic/mosaiclaw30.NatErrors", spec := "natErrors", unfollowed := true, recurses := true, named := ["mosaic/opts.shapes", "mosaic/icmp.signs"], apart := false, laid := [("mosaic/opts.shapes", laid_mosaic_opts_shapes), ("mosaic/icmp.signs", laid_mosaic_icmp_signs)], narrowed := true }
def NatErrorsUptoSaid : Prop := natErrorsUptoRow.holds Tryz.pinned (OpenSpec.upto natErrorsSpec)

end Rows
end Go.Proofs.YtofomopdaponbaaGreatDoor
