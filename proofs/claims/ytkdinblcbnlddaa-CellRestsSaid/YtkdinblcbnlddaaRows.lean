/-
  No cell of these rows narrows 'for every input' (looked for: loops, veiled, ifaces, maps, wideKeys, modest, calm, conditions, laid).
  DERIVED. THE GIVEN ROWS OF THIS SEAT. 5 by the template 'for every input the law returns true; each argument reads behind the call as it read before'; 0 by the template 'total and deterministic' (their statements: YtkdinblcbnlddaaTotals.lean).
  GIVEN WITH THE SEED: the statements are not yours to turn. If you find one false, say at which input.
  Laid BY PROGRAM, IN A SANDBOX (cutbox-rows.mjs): the forced cells as the released guide's own fill.sh prints them over the translation 90bc34a8f42026af… (all of the seat's roots in one cut). By AI agents, Wed Nov 11 2026. No macro, syntax, notation, axiom, sorry.
-/
import Derived.Test.YtkdinblcbnlddaaChecked
import GoSem.Claim
import GoSem.ClaimJoined
import GoSem.ClaimMapViews
import Derived.JoinedTies
import Derived.KernelRfl
namespace Go.Proofs.Ytkdinblcbnlddaa
/- THE CELL 'sum', in the pinned program and in every row, IS THE sha256 OF THE DUMP (.gsa) THAT YtkdinblcbnlddaaProg.lean LOADS. Nothing in Lean hashes anything: it is a label: what it is worth is what the hold of that sum in a sandbox is worth. -/
noncomputable def Try.pinned : Pinned := { name := "ytkdinblcbnlddaa", sum := "90bc34a8f42026af40dfc99b45e5262764d7ec9e977b3b2eb23822a2d90ce0d9", checked := Try.checked }
namespace Rows
def none {H : Type} : Left H := { results := [], args := [] }

/-- 'treadwheellaw04.CellLinks': WHATEVER THE INPUT: true; the input reads as it did. -/
def cellLinksSpec : ChangeSpec := { name := "cellLinks", fn := fun _ => fun
  | [d1, d2] => { results := [.lit (.bool true)], args := [d1, d2] }
  | _ => none }
def cellLinksRow : OpenClaim := { program := "ytkdinblcbnlddaa", sum := "90bc34a8f42026af40dfc99b45e5262764d7ec9e977b3b2eb23822a2d90ce0d9", func := "treadwheel/treadwheellaw04.CellLinks", spec := "cellLinks", apart := false }
def CellLinksSaid : Prop := cellLinksRow.holds Try.pinned (OpenSpec.ofChange cellLinksSpec)

/-- ITS FALSE NEIGHBOUR: 'it returns false'. Refute it at one input. -/
def cellLinksWrong : ChangeSpec := { name := "cellLinks", fn := fun _ => fun
  | [d1, d2] => { results := [.lit (.bool false)], args := [d1, d2] }
  | _ => none }
def CellLinksWrongFalsely : Prop := cellLinksRow.holds Try.pinned (OpenSpec.ofChange cellLinksWrong)

/-- 'treadwheellaw04.CellApart': WHATEVER THE INPUT: true; the input reads as it did. -/
def cellApartSpec : ChangeSpec := { name := "cellApart", fn := fun _ => fun
  | [d1, d2] => { results := [.lit (.bool true)], args := [d1, d2] }
  | _ => none }
def cellApartRow : OpenClaim := { program := "ytkdinblcbnlddaa", sum := "90bc34a8f42026af40dfc99b45e5262764d7ec9e977b3b2eb23822a2d90ce0d9", func := "treadwheel/treadwheellaw04.CellApart", spec := "cellApart", apart := false }
def CellApartSaid : Prop := cellApartRow.holds Try.pinned (OpenSpec.ofChange cellApartSpec)

/-- ITS FALSE NEIGHBOUR: 'it returns false'. Refute it at one input. -/
def cellApartWrong : ChangeSpec := { name := "cellApart", fn := fun _ => fun
  | [d1, d2] => { results := [.lit (.bool false)], args := [d1, d2] }
  | _ => none }
def CellApartWrongFalsely : Prop := cellApartRow.holds Try.pinned (OpenSpec.ofChange cellApartWrong)

/-- 'treadwheellaw04.CellRests': WHATEVER THE INPUT: true; the input reads as it did. -/
def cellRestsSpec : ChangeSpec := { name := "cellRests", fn := fun _ => fun
  | [d] => { results := [.lit (.bool true)], args := [d] }
  | _ => none }
def cellRestsRow : OpenClaim := { program := "ytkdinblcbnlddaa", sum := "90bc34a8f42026af40dfc99b45e5262764d7ec9e977b3b2eb23822a2d90ce0d9", func := "treadwheel/treadwheellaw04.CellRests", spec := "cellRests", apart := false }
def CellRestsSaid : Prop := cellRestsRow.holds Try.pinned (OpenSpec.ofChange cellRestsSpec)

/-- ITS FALSE NEIGHBOUR: 'it returns false'. Refute it at one input. -/
def cellRestsWrong : ChangeSpec := { name := "cellRests", fn := fun _ => fun
  | [d] => { results := [.lit (.bool false)], args := [d] }
  | _ => none }
def CellRestsWrongFalsely : Prop := cellRestsRow.holds Try.pinned (OpenSpec.ofChange cellRestsWrong)

/-- 'treadwheellaw04.CellPacks': WHATEVER THE INPUT: true; the input reads as it did. -/
def cellPacksSpec : ChangeSpec := { name := "cellPacks", fn := fun _ => fun
  | [d] => { results := [.lit (.bool true)], args := [d] }
  | _ => none }
def cellPacksRow : OpenClaim := { program := "ytkdinblcbnlddaa", sum := "90bc34a8f42026af40dfc99b45e5262764d7ec9e977b3b2eb23822a2d90ce0d9", func := "treadwheel/treadwheellaw04.CellPacks", spec := "cellPacks", apart := false }
def CellPacksSaid : Prop := cellPacksRow.holds Try.pinned (OpenSpec.ofChange cellPacksSpec)

/-- ITS FALSE NEIGHBOUR: 'it returns false'. Refute it at one input. -/
def cellPacksWrong : ChangeSpec := { name := "cellPacks", fn := fun _ => fun
  | [d] => { results := [.lit (.bool false)], args := [d] }
  | _ => none }
def CellPacksWrongFalsely : Prop := cellPacksRow.holds Try.pinned (OpenSpec.ofChange cellPacksWrong)

/-- 'treadwheellaw04.CellUnpacks': WHATEVER THE INPUT: true; the input reads as it did. -/
def cellUnpacksSpec : ChangeSpec := { name := "cellUnpacks", fn := fun _ => fun
  | [d] => { results := [.lit (.bool true)], args := [d] }
  | _ => none }
def cellUnpacksRow : OpenClaim := { program := "ytkdinblcbnlddaa", sum := "90bc34a8f42026af40dfc99b45e5262764d7ec9e977b3b2eb23822a2d90ce0d9", func := "treadwheel/treadwheellaw04.CellUnpacks", spec := "cellUnpacks", apart := false }
def CellUnpacksSaid : Prop := cellUnpacksRow.holds Try.pinned (OpenSpec.ofChange cellUnpacksSpec)

/-- ITS FALSE NEIGHBOUR: 'it returns false'. Refute it at one input. -/
def cellUnpacksWrong : ChangeSpec := { name := "cellUnpacks", fn := fun _ => fun
  | [d] => { results := [.lit (.bool false)], args := [d] }
  | _ => none }
def CellUnpacksWrongFalsely : Prop := cellUnpacksRow.holds Try.pinned (OpenSpec.ofChange cellUnpacksWrong)

/- THE SECOND FORM. 'bulk': how many values and letters a reading holds, each counted each time it is reached (what is shared counts as often as it is met; a slice's spare places count too). A statement '..UptoSaid' is the law's where the arguments, and the package variables that the reading takes, are together of bulk at most 1048576: NARROWER than '..Said'. Prove '..Said' where nothing that the law and all that it calls make is longer than what came in: it says more and counts as full. Else prove '..UptoSaid'. A law counts once. -/
mutual
def uptoBulk {H : Type} : DataW H → Nat
  | .lit (.string bytes) => bytes.length + 1
  | .lit _ => 1
  | .nil => 1
  | .ptr d => uptoBulk d + 1
  | .slice elems spare => uptoBulkAll elems + uptoBulkAll spare + 1
  | .agg parts => uptoBulkAll parts + 1
  | .iface _ d => uptoBulk d + 1
  | .map entries => uptoBulkEntries entries + 1
  | .held _ => 1
def uptoBulkAll {H : Type} : List (DataW H) → Nat
  | [] => 0
  | d :: r => uptoBulk d + uptoBulkAll r
def uptoBulkEntries {H : Type} : List (Lit × DataW H) → Nat
  | [] => 0
  | x :: r => uptoBulkEntry x + uptoBulkEntries r
def uptoBulkEntry {H : Type} : Lit × DataW H → Nat
  | (.string bytes, d) => bytes.length + uptoBulk d + 1
  | (_, d) => uptoBulk d + 1
 end
def uptoSmall : (H : Type) → List (DataW H) → Bool := fun _ ds => decide (uptoBulkAll ds ≤ 1048576)
def OpenSpec.upto (s : _root_.Go.ChangeSpec) : _root_.Go.OpenSpec := { _root_.Go.OpenSpec.ofChange s with cond := some uptoSmall }

/-- 'treadwheellaw04.CellLinks', WHERE WHAT IT READS IS OF BULK AT MOST 1048576: true; the input reads as it did. -/
def cellLinksUptoRow : OpenClaim := { program := "ytkdinblcbnlddaa", sum := "90bc34a8f42026af40dfc99b45e5262764d7ec9e977b3b2eb23822a2d90ce0d9", func := "treadwheel/treadwheellaw04.CellLinks", spec := "cellLinks", apart := false, narrowed := true }
def CellLinksUptoSaid : Prop := cellLinksUptoRow.holds Try.pinned (OpenSpec.upto cellLinksSpec)

/-- 'treadwheellaw04.CellApart', WHERE WHAT IT READS IS OF BULK AT MOST 1048576: true; the input reads as it did. -/
def cellApartUptoRow : OpenClaim := { program := "ytkdinblcbnlddaa", sum := "90bc34a8f42026af40dfc99b45e5262764d7ec9e977b3b2eb23822a2d90ce0d9", func := "treadwheel/treadwheellaw04.CellApart", spec := "cellApart", apart := false, narrowed := true }
def CellApartUptoSaid : Prop := cellApartUptoRow.holds Try.pinned (OpenSpec.upto cellApartSpec)

/-- 'treadwheellaw04.CellRests', WHERE WHAT IT READS IS OF BULK AT MOST 1048576: true; the input reads as it did. -/
def cellRestsUptoRow : OpenClaim := { program := "ytkdinblcbnlddaa", sum := "90bc34a8f42026af40dfc99b45e5262764d7ec9e977b3b2eb23822a2d90ce0d9", func := "treadwheel/treadwheellaw04.CellRests", spec := "cellRests", apart := false, narrowed := true }
def CellRestsUptoSaid : Prop := cellRestsUptoRow.holds Try.pinned (OpenSpec.upto cellRestsSpec)

/-- 'treadwheellaw04.CellPacks', WHERE WHAT IT READS IS OF BULK AT MOST 1048576: true; the input reads as it did. -/
def cellPacksUptoRow : OpenClaim := { program := "ytkdinblcbnlddaa", sum := "90bc34a8f42026af40dfc99b45e5262764d7ec9e977b3b2eb23822a2d90ce0d9", func := "treadwheel/treadwheellaw04.CellPacks", spec := "cellPacks", apart := false, narrowed := true }
def CellPacksUptoSaid : Prop := cellPacksUptoRow.holds Try.pinned (OpenSpec.upto cellPacksSpec)

/-- 'treadwheellaw04.CellUnpacks', WHERE WHAT IT READS IS OF BULK AT MOST 1048576: true; the input reads as it did. -/
def cellUnpacksUptoRow : OpenClaim := { program := "ytkdinblcbnlddaa", sum := "90bc34a8f42026af40dfc99b45e5262764d7ec9e977b3b2eb23822a2d90ce0d9", func := "treadwheel/treadwheellaw04.CellUnpacks", spec := "cellUnpacks", apart := false, narrowed := true }
def CellUnpacksUptoSaid : Prop := cellUnpacksUptoRow.holds Try.pinned (OpenSpec.upto cellUnpacksSpec)

end Rows
end Go.Proofs.Ytkdinblcbnlddaa
