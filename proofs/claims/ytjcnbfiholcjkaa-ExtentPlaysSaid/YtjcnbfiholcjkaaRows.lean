/-
  No cell of these rows narrows 'for every input' (looked for: loops, veiled, ifaces, maps, wideKeys, modest, calm, conditions, laid).
  DERIVED. THE GIVEN ROWS OF THIS SEAT. 4 by the template 'for every input the law returns true; each argument reads behind the call as it read before'; 0 by the template 'total and deterministic' (their statements: YtjcnbfiholcjkaaTotals.lean).
  GIVEN WITH THE SEED: the statements are not yours to turn. If you find one false, say at which input.
  Laid BY PROGRAM, IN A SANDBOX (cutbox-rows.mjs): the forced cells as the released guide's own fill.sh prints them over the translation 20583b715f479f31… (all of the seat's roots in one cut). By AI agents, Wed Nov 11 2026. No macro, syntax, notation, axiom, sorry.
-/
import Derived.Test.YtjcnbfiholcjkaaChecked
import GoSem.Claim
import GoSem.ClaimJoined
import GoSem.ClaimMapViews
import Derived.JoinedTies
import Derived.KernelRfl
namespace Go.Proofs.Ytjcnbfiholcjkaa
/- THE CELL 'sum', in the pinned program and in every row, IS THE sha256 OF THE DUMP (.gsa) THAT YtjcnbfiholcjkaaProg.lean LOADS. Nothing in Lean hashes anything: it is a label: what it is worth is what the hold of that sum in a sandbox is worth. -/
noncomputable def Try.pinned : Pinned := { name := "ytjcnbfiholcjkaa", sum := "20583b715f479f31cde2bf577a54a2716069ce61d967f18caafd35f0dfd5ccda", checked := Try.checked }
namespace Rows
def none {H : Type} : Left H := { results := [], args := [] }

/-- 'treadwheellaw03.ExtentPlays': WHATEVER THE INPUT: true; the input reads as it did. -/
def extentPlaysSpec : ChangeSpec := { name := "extentPlays", fn := fun _ => fun
  | [d1, d2, d3] => { results := [.lit (.bool true)], args := [d1, d2, d3] }
  | _ => none }
def extentPlaysRow : OpenClaim := { program := "ytjcnbfiholcjkaa", sum := "20583b715f479f31cde2bf577a54a2716069ce61d967f18caafd35f0dfd5ccda", func := "treadwheel/treadwheellaw03.ExtentPlays", spec := "extentPlays", inPlace := ["slices.overlaps[[2]int]"], unfollowed := true, recurses := true, apart := false }
def ExtentPlaysSaid : Prop := extentPlaysRow.holds Try.pinned (OpenSpec.ofChange extentPlaysSpec)

/-- ITS FALSE NEIGHBOUR: 'it returns false'. Refute it at one input. -/
def extentPlaysWrong : ChangeSpec := { name := "extentPlays", fn := fun _ => fun
  | [d1, d2, d3] => { results := [.lit (.bool false)], args := [d1, d2, d3] }
  | _ => none }
def ExtentPlaysWrongFalsely : Prop := extentPlaysRow.holds Try.pinned (OpenSpec.ofChange extentPlaysWrong)

/-- 'treadwheellaw03.ExtentApart': WHATEVER THE INPUT: true; the input reads as it did. -/
def extentApartSpec : ChangeSpec := { name := "extentApart", fn := fun _ => fun
  | [d1, d2, d3, d4] => { results := [.lit (.bool true)], args := [d1, d2, d3, d4] }
  | _ => none }
def extentApartRow : OpenClaim := { program := "ytjcnbfiholcjkaa", sum := "20583b715f479f31cde2bf577a54a2716069ce61d967f18caafd35f0dfd5ccda", func := "treadwheel/treadwheellaw03.ExtentApart", spec := "extentApart", inPlace := ["slices.overlaps[[2]int]"], unfollowed := true, recurses := true, apart := false }
def ExtentApartSaid : Prop := extentApartRow.holds Try.pinned (OpenSpec.ofChange extentApartSpec)

/-- ITS FALSE NEIGHBOUR: 'it returns false'. Refute it at one input. -/
def extentApartWrong : ChangeSpec := { name := "extentApart", fn := fun _ => fun
  | [d1, d2, d3, d4] => { results := [.lit (.bool false)], args := [d1, d2, d3, d4] }
  | _ => none }
def ExtentApartWrongFalsely : Prop := extentApartRow.holds Try.pinned (OpenSpec.ofChange extentApartWrong)

/-- 'treadwheellaw03.ExtentRises': WHATEVER THE INPUT: true; the input reads as it did. -/
def extentRisesSpec : ChangeSpec := { name := "extentRises", fn := fun _ => fun
  | [d1, d2, d3] => { results := [.lit (.bool true)], args := [d1, d2, d3] }
  | _ => none }
def extentRisesRow : OpenClaim := { program := "ytjcnbfiholcjkaa", sum := "20583b715f479f31cde2bf577a54a2716069ce61d967f18caafd35f0dfd5ccda", func := "treadwheel/treadwheellaw03.ExtentRises", spec := "extentRises", inPlace := ["slices.overlaps[[2]int]"], unfollowed := true, recurses := true, apart := false }
def ExtentRisesSaid : Prop := extentRisesRow.holds Try.pinned (OpenSpec.ofChange extentRisesSpec)

/-- ITS FALSE NEIGHBOUR: 'it returns false'. Refute it at one input. -/
def extentRisesWrong : ChangeSpec := { name := "extentRises", fn := fun _ => fun
  | [d1, d2, d3] => { results := [.lit (.bool false)], args := [d1, d2, d3] }
  | _ => none }
def ExtentRisesWrongFalsely : Prop := extentRisesRow.holds Try.pinned (OpenSpec.ofChange extentRisesWrong)

/-- 'treadwheellaw03.ExtentFits': WHATEVER THE INPUT: true; the input reads as it did. -/
def extentFitsSpec : ChangeSpec := { name := "extentFits", fn := fun _ => fun
  | [d1, d2, d3, d4] => { results := [.lit (.bool true)], args := [d1, d2, d3, d4] }
  | _ => none }
def extentFitsRow : OpenClaim := { program := "ytjcnbfiholcjkaa", sum := "20583b715f479f31cde2bf577a54a2716069ce61d967f18caafd35f0dfd5ccda", func := "treadwheel/treadwheellaw03.ExtentFits", spec := "extentFits", inPlace := ["slices.overlaps[[2]int]"], unfollowed := true, recurses := true, apart := false }
def ExtentFitsSaid : Prop := extentFitsRow.holds Try.pinned (OpenSpec.ofChange extentFitsSpec)

/-- ITS FALSE NEIGHBOUR: 'it returns false'. Refute it at one input. -/
def extentFitsWrong : ChangeSpec := { name := "extentFits", fn := fun _ => fun
  | [d1, d2, d3, d4] => { results := [.lit (.bool false)], args := [d1, d2, d3, d4] }
  | _ => none }
def ExtentFitsWrongFalsely : Prop := extentFitsRow.holds Try.pinned (OpenSpec.ofChange extentFitsWrong)

/- THE SECOND FORM. 'bulk': how many values and letters a reading holds, each counted each time it is reached (what is shared counts as often as it is met; a slice's spare places count too). A statement '..UptoSaid' is the law's where the arguments, and the package variables that the reading takes, are together of bulk at most 1048576: NARROWER than '..Said'. Prove '..Said' where nothing that the law and all that it calls make is longer than what came in: it says more and counts as full. Else prove '..UptoSaid'. A law counts once. -/
mutual
def uptoBulk {H : Type} : DataW H → Nat
  | .lit (.string bytes) => bytes.length + 1
  | .lit _ => 1
  | .nil => 1
  | .ptr d => uptoBulk d + 1
  | .slice elems spare => uptoBulkAll elems + uptoBulkAll spare + 1
  | .agg parts => uptoBulkAll parts + 1
  | .iface _ d => uptoBulk d + 1
  | .map entries => uptoBulkEntries entries + 1
  | .held _ => 1
def uptoBulkAll {H : Type} : List (DataW H) → Nat
  | [] => 0
  | d :: r => uptoBulk d + uptoBulkAll r
def uptoBulkEntries {H : Type} : List (Lit × DataW H) → Nat
  | [] => 0
  | x :: r => uptoBulkEntry x + uptoBulkEntries r
def uptoBulkEntry {H : Type} : Lit × DataW H → Nat
  | (.string bytes, d) => bytes.length + uptoBulk d + 1
  | (_, d) => uptoBulk d + 1
 end
def uptoSmall : (H : Type) → List (DataW H) → Bool := fun _ ds => decide (uptoBulkAll ds ≤ 1048576)
def OpenSpec.upto (s : _root_.Go.ChangeSpec) : _root_.Go.OpenSpec := { _root_.Go.OpenSpec.ofChange s with cond := some uptoSmall }

/-- 'treadwheellaw03.ExtentPlays', WHERE WHAT IT READS IS OF BULK AT MOST 1048576: true; the input reads as it did. -/
def extentPlaysUptoRow : OpenClaim := { program := "ytjcnbfiholcjkaa", sum := "20583b715f479f31cde2bf577a54a2716069ce61d967f18caafd35f0dfd5ccda", func := "treadwheel/treadwheellaw03.ExtentPlays", spec := "extentPlays", inPlace := ["slices.overlaps[[2]int]"], unfollowed := true, recurses := true, apart := false, narrowed := true }
def ExtentPlaysUptoSaid : Prop := extentPlaysUptoRow.holds Try.pinned (OpenSpec.upto extentPlaysSpec)

/-- 'treadwheellaw03.ExtentApart', WHERE WHAT IT READS IS OF BULK AT MOST 1048576: true; the input reads as it did. -/
def extentApartUptoRow : OpenClaim := { program := "ytjcnbfiholcjkaa", sum := "20583b715f479f31cde2bf577a54a2716069ce61d967f18caafd35f0dfd5ccda", func := "treadwheel/treadwheellaw03.ExtentApart", spec := "extentApart", inPlace := ["slices.overlaps[[2]int]"], unfollowed := true, recurses := true, apart := false, narrowed := true }
def ExtentApartUptoSaid : Prop := extentApartUptoRow.holds Try.pinned (OpenSpec.upto extentApartSpec)

/-- 'treadwheellaw03.ExtentRises', WHERE WHAT IT READS IS OF BULK AT MOST 1048576: true; the input reads as it did. -/
def extentRisesUptoRow : OpenClaim := { program := "ytjcnbfiholcjkaa", sum := "20583b715f479f31cde2bf577a54a2716069ce61d967f18caafd35f0dfd5ccda", func := "treadwheel/treadwheellaw03.ExtentRises", spec := "extentRises", inPlace := ["slices.overlaps[[2]int]"], unfollowed := true, recurses := true, apart := false, narrowed := true }
def ExtentRisesUptoSaid : Prop := extentRisesUptoRow.holds Try.pinned (OpenSpec.upto extentRisesSpec)

/-- 'treadwheellaw03.ExtentFits', WHERE WHAT IT READS IS OF BULK AT MOST 1048576: true; the input reads as it did. -/
def extentFitsUptoRow : OpenClaim := { program := "ytjcnbfiholcjkaa", sum := "20583b715f479f31cde2bf577a54a2716069ce61d967f18caafd35f0dfd5ccda", func := "treadwheel/treadwheellaw03.ExtentFits", spec := "extentFits", inPlace := ["slices.overlaps[[2]int]"], unfollowed := true, recurses := true, apart := false, narrowed := true }
def ExtentFitsUptoSaid : Prop := extentFitsUptoRow.holds Try.pinned (OpenSpec.upto extentFitsSpec)

end Rows
end Go.Proofs.Ytjcnbfiholcjkaa
