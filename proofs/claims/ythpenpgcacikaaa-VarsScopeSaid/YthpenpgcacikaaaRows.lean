/-
  No cell of these rows narrows 'for every input' (looked for: loops, veiled, ifaces, maps, wideKeys, modest, calm, conditions, laid).
  DERIVED. THE GIVEN ROWS OF THIS SEAT. 5 by the template 'for every input the law returns true; each argument reads behind the call as it read before'; 0 by the template 'total and deterministic' (their statements: YthpenpgcacikaaaTotals.lean).
  GIVEN WITH THE SEED: the statements are not yours to turn. If you find one false, say at which input.
  Laid BY PROGRAM, IN A SANDBOX (cutbox-rows.mjs): the forced cells as the released guide's own fill.sh prints them over the translation 15f453371573f17d… (all of the seat's roots in one cut). By AI agents, Wed Nov 11 2026. No macro, syntax, notation, axiom, sorry.
-/
import Derived.Test.YthpenpgcacikaaaChecked
import GoSem.Claim
import GoSem.ClaimJoined
import GoSem.ClaimMapViews
import Derived.JoinedTies
import Derived.KernelRfl
namespace Go.Proofs.Ythpenpgcacikaaa
/- THE CELL 'sum', in the pinned program and in every row, IS THE sha256 OF THE DUMP (.gsa) THAT YthpenpgcacikaaaProg.lean LOADS. Nothing in Lean hashes anything: it is a label: what it is worth is what the hold of that sum in a sandbox is worth. -/
noncomputable def Try.pinned : Pinned := { name := "ythpenpgcacikaaa", sum := "15f453371573f17d4b65ffcd2ae284c2bbe83c83bf5c88772f3a87d8d25d815a", checked := Try.checked }
namespace Rows
def none {H : Type} : Left H := { results := [], args := [] }

/-- 'treadwheellaw12.VarsJoin': WHATEVER THE INPUT: true; the input reads as it did. -/
def varsJoinSpec : ChangeSpec := { name := "varsJoin", fn := fun _ => fun
  | [d1, d2] => { results := [.lit (.bool true)], args := [d1, d2] }
  | _ => none }
def varsJoinRow : OpenClaim := { program := "ythpenpgcacikaaa", sum := "15f453371573f17d4b65ffcd2ae284c2bbe83c83bf5c88772f3a87d8d25d815a", func := "treadwheel/treadwheellaw12.VarsJoin", spec := "varsJoin", unfollowed := true, recurses := true, apart := false }
def VarsJoinSaid : Prop := varsJoinRow.holds Try.pinned (OpenSpec.ofChange varsJoinSpec)

/-- ITS FALSE NEIGHBOUR: 'it returns false'. Refute it at one input. -/
def varsJoinWrong : ChangeSpec := { name := "varsJoin", fn := fun _ => fun
  | [d1, d2] => { results := [.lit (.bool false)], args := [d1, d2] }
  | _ => none }
def VarsJoinWrongFalsely : Prop := varsJoinRow.holds Try.pinned (OpenSpec.ofChange varsJoinWrong)

/-- 'treadwheellaw12.VarsTell': WHATEVER THE INPUT: true; the input reads as it did. -/
def varsTellSpec : ChangeSpec := { name := "varsTell", fn := fun _ => fun
  | [d1, d2] => { results := [.lit (.bool true)], args := [d1, d2] }
  | _ => none }
def varsTellRow : OpenClaim := { program := "ythpenpgcacikaaa", sum := "15f453371573f17d4b65ffcd2ae284c2bbe83c83bf5c88772f3a87d8d25d815a", func := "treadwheel/treadwheellaw12.VarsTell", spec := "varsTell", unfollowed := true, recurses := true, apart := false }
def VarsTellSaid : Prop := varsTellRow.holds Try.pinned (OpenSpec.ofChange varsTellSpec)

/-- ITS FALSE NEIGHBOUR: 'it returns false'. Refute it at one input. -/
def varsTellWrong : ChangeSpec := { name := "varsTell", fn := fun _ => fun
  | [d1, d2] => { results := [.lit (.bool false)], args := [d1, d2] }
  | _ => none }
def VarsTellWrongFalsely : Prop := varsTellRow.holds Try.pinned (OpenSpec.ofChange varsTellWrong)

/-- 'treadwheellaw12.VarsScope': WHATEVER THE INPUT: true; the input reads as it did. -/
def varsScopeSpec : ChangeSpec := { name := "varsScope", fn := fun _ => fun
  | [d] => { results := [.lit (.bool true)], args := [d] }
  | _ => none }
def varsScopeRow : OpenClaim := { program := "ythpenpgcacikaaa", sum := "15f453371573f17d4b65ffcd2ae284c2bbe83c83bf5c88772f3a87d8d25d815a", func := "treadwheel/treadwheellaw12.VarsScope", spec := "varsScope", unfollowed := true, recurses := true, apart := false }
def VarsScopeSaid : Prop := varsScopeRow.holds Try.pinned (OpenSpec.ofChange varsScopeSpec)

/-- ITS FALSE NEIGHBOUR: 'it returns false'. Refute it at one input. -/
def varsScopeWrong : ChangeSpec := { name := "varsScope", fn := fun _ => fun
  | [d] => { results := [.lit (.bool false)], args := [d] }
  | _ => none }
def VarsScopeWrongFalsely : Prop := varsScopeRow.holds Try.pinned (OpenSpec.ofChange varsScopeWrong)

/-- 'treadwheellaw12.VarsBind': WHATEVER THE INPUT: true; the input reads as it did. -/
def varsBindSpec : ChangeSpec := { name := "varsBind", fn := fun _ => fun
  | [d1, d2] => { results := [.lit (.bool true)], args := [d1, d2] }
  | _ => none }
def varsBindRow : OpenClaim := { program := "ythpenpgcacikaaa", sum := "15f453371573f17d4b65ffcd2ae284c2bbe83c83bf5c88772f3a87d8d25d815a", func := "treadwheel/treadwheellaw12.VarsBind", spec := "varsBind", unfollowed := true, recurses := true, apart := false }
def VarsBindSaid : Prop := varsBindRow.holds Try.pinned (OpenSpec.ofChange varsBindSpec)

/-- ITS FALSE NEIGHBOUR: 'it returns false'. Refute it at one input. -/
def varsBindWrong : ChangeSpec := { name := "varsBind", fn := fun _ => fun
  | [d1, d2] => { results := [.lit (.bool false)], args := [d1, d2] }
  | _ => none }
def VarsBindWrongFalsely : Prop := varsBindRow.holds Try.pinned (OpenSpec.ofChange varsBindWrong)

/-- 'treadwheellaw12.VarsOnce': WHATEVER THE INPUT: true; the input reads as it did. -/
def varsOnceSpec : ChangeSpec := { name := "varsOnce", fn := fun _ => fun
  | [d] => { results := [.lit (.bool true)], args := [d] }
  | _ => none }
def varsOnceRow : OpenClaim := { program := "ythpenpgcacikaaa", sum := "15f453371573f17d4b65ffcd2ae284c2bbe83c83bf5c88772f3a87d8d25d815a", func := "treadwheel/treadwheellaw12.VarsOnce", spec := "varsOnce", unfollowed := true, recurses := true, apart := false }
def VarsOnceSaid : Prop := varsOnceRow.holds Try.pinned (OpenSpec.ofChange varsOnceSpec)

/-- ITS FALSE NEIGHBOUR: 'it returns false'. Refute it at one input. -/
def varsOnceWrong : ChangeSpec := { name := "varsOnce", fn := fun _ => fun
  | [d] => { results := [.lit (.bool false)], args := [d] }
  | _ => none }
def VarsOnceWrongFalsely : Prop := varsOnceRow.holds Try.pinned (OpenSpec.ofChange varsOnceWrong)

/- THE SECOND FORM. 'bulk': how many values and letters a reading holds, each counted each time it is reached (what is shared counts as often as it is met; a slice's spare places count too). A statement '..UptoSaid' is the law's where the arguments, and the package variables that the reading takes, are together of bulk at most 1048576: NARROWER than '..Said'. Prove '..Said' where nothing that the law and all that it calls make is longer than what came in: it says more and counts as full. Else prove '..UptoSaid'. A law counts once. -/
mutual
def uptoBulk {H : Type} : DataW H → Nat
  | .lit (.string bytes) => bytes.length + 1
  | .lit _ => 1
  | .nil => 1
  | .ptr d => uptoBulk d + 1
  | .slice elems spare => uptoBulkAll elems + uptoBulkAll spare + 1
  | .agg parts => uptoBulkAll parts + 1
  | .iface _ d => uptoBulk d + 1
  | .map entries => uptoBulkEntries entries + 1
  | .held _ => 1
def uptoBulkAll {H : Type} : List (DataW H) → Nat
  | [] => 0
  | d :: r => uptoBulk d + uptoBulkAll r
def uptoBulkEntries {H : Type} : List (Lit × DataW H) → Nat
  | [] => 0
  | x :: r => uptoBulkEntry x + uptoBulkEntries r
def uptoBulkEntry {H : Type} : Lit × DataW H → Nat
  | (.string bytes, d) => bytes.length + uptoBulk d + 1
  | (_, d) => uptoBulk d + 1
 end
def uptoSmall : (H : Type) → List (DataW H) → Bool := fun _ ds => decide (uptoBulkAll ds ≤ 1048576)
def OpenSpec.upto (s : _root_.Go.ChangeSpec) : _root_.Go.OpenSpec := { _root_.Go.OpenSpec.ofChange s with cond := some uptoSmall }

/-- 'treadwheellaw12.VarsJoin', WHERE WHAT IT READS IS OF BULK AT MOST 1048576: true; the input reads as it did. -/
def varsJoinUptoRow : OpenClaim := { program := "ythpenpgcacikaaa", sum := "15f453371573f17d4b65ffcd2ae284c2bbe83c83bf5c88772f3a87d8d25d815a", func := "treadwheel/treadwheellaw12.VarsJoin", spec := "varsJoin", unfollowed := true, recurses := true, apart := false, narrowed := true }
def VarsJoinUptoSaid : Prop := varsJoinUptoRow.holds Try.pinned (OpenSpec.upto varsJoinSpec)

/-- 'treadwheellaw12.VarsTell', WHERE WHAT IT READS IS OF BULK AT MOST 1048576: true; the input reads as it did. -/
def varsTellUptoRow : OpenClaim := { program := "ythpenpgcacikaaa", sum := "15f453371573f17d4b65ffcd2ae284c2bbe83c83bf5c88772f3a87d8d25d815a", func := "treadwheel/treadwheellaw12.VarsTell", spec := "varsTell", unfollowed := true, recurses := true, apart := false, narrowed := true }
def VarsTellUptoSaid : Prop := varsTellUptoRow.holds Try.pinned (OpenSpec.upto varsTellSpec)

/-- 'treadwheellaw12.VarsScope', WHERE WHAT IT READS IS OF BULK AT MOST 1048576: true; the input reads as it did. -/
def varsScopeUptoRow : OpenClaim := { program := "ythpenpgcacikaaa", sum := "15f453371573f17d4b65ffcd2ae284c2bbe83c83bf5c88772f3a87d8d25d815a", func := "treadwheel/treadwheellaw12.VarsScope", spec := "varsScope", unfollowed := true, recurses := true, apart := false, narrowed := true }
def VarsScopeUptoSaid : Prop := varsScopeUptoRow.holds Try.pinned (OpenSpec.upto varsScopeSpec)

/-- 'treadwheellaw12.VarsBind', WHERE WHAT IT READS IS OF BULK AT MOST 1048576: true; the input reads as it did. -/
def varsBindUptoRow : OpenClaim := { program := "ythpenpgcacikaaa", sum := "15f453371573f17d4b65ffcd2ae284c2bbe83c83bf5c88772f3a87d8d25d815a", func := "treadwheel/treadwheellaw12.VarsBind", spec := "varsBind", unfollowed := true, recurses := true, apart := false, narrowed := true }
def VarsBindUptoSaid : Prop := varsBindUptoRow.holds Try.pinned (OpenSpec.upto varsBindSpec)

/-- 'treadwheellaw12.VarsOnce', WHERE WHAT IT READS IS OF BULK AT MOST 1048576: true; the input reads as it did. -/
def varsOnceUptoRow : OpenClaim := { program := "ythpenpgcacikaaa", sum := "15f453371573f17d4b65ffcd2ae284c2bbe83c83bf5c88772f3a87d8d25d815a", func := "treadwheel/treadwheellaw12.VarsOnce", spec := "varsOnce", unfollowed := true, recurses := true, apart := false, narrowed := true }
def VarsOnceUptoSaid : Prop := varsOnceUptoRow.holds Try.pinned (OpenSpec.upto varsOnceSpec)

end Rows
end Go.Proofs.Ythpenpgcacikaaa
