/-
  No cell of these rows narrows 'for every input' (looked for: loops, veiled, ifaces, maps, wideKeys, modest, calm, conditions, laid).
  DERIVED. THE GIVEN ROWS OF THIS SEAT. 4 by the template 'for every input the law returns true; each argument reads behind the call as it read before'; 0 by the template 'total and deterministic' (their statements: YtlpdlhmdhlcdlaaTotals.lean).
  GIVEN WITH THE SEED: the statements are not yours to turn. If you find one false, say at which input.
  Laid BY PROGRAM, IN A SANDBOX (cutbox-rows.mjs): the forced cells as the released guide's own fill.sh prints them over the translation 881eed68de883e0b… (all of the seat's roots in one cut). By AI agents, Wed Nov 11 2026. No macro, syntax, notation, axiom, sorry.
-/
import Derived.Test.YtlpdlhmdhlcdlaaChecked
import GoSem.Claim
import GoSem.ClaimJoined
import GoSem.ClaimMapViews
import Derived.JoinedTies
import Derived.KernelRfl
namespace Go.Proofs.Ytlpdlhmdhlcdlaa
/- THE CELL 'sum', in the pinned program and in every row, IS THE sha256 OF THE DUMP (.gsa) THAT YtlpdlhmdhlcdlaaProg.lean LOADS. Nothing in Lean hashes anything: it is a label: what it is worth is what the hold of that sum in a sandbox is worth. -/
noncomputable def Try.pinned : Pinned := { name := "ytlpdlhmdhlcdlaa", sum := "881eed68de883e0bc6242de42f186799f7aaba82884f47ecedc89459866366e5", checked := Try.checked }
namespace Rows
def none {H : Type} : Left H := { results := [], args := [] }

/-- 'treadwheellaw05.RingTurns': WHATEVER THE INPUT: true; the input reads as it did. -/
def ringTurnsSpec : ChangeSpec := { name := "ringTurns", fn := fun _ => fun
  | [d1, d2] => { results := [.lit (.bool true)], args := [d1, d2] }
  | _ => none }
def ringTurnsRow : OpenClaim := { program := "ytlpdlhmdhlcdlaa", sum := "881eed68de883e0bc6242de42f186799f7aaba82884f47ecedc89459866366e5", func := "treadwheel/treadwheellaw05.RingTurns", spec := "ringTurns", inPlace := ["sync/atomic.AddInt64"], unfollowed := true, recurses := true, apart := false }
def RingTurnsSaid : Prop := ringTurnsRow.holds Try.pinned (OpenSpec.ofChange ringTurnsSpec)

/-- ITS FALSE NEIGHBOUR: 'it returns false'. Refute it at one input. -/
def ringTurnsWrong : ChangeSpec := { name := "ringTurns", fn := fun _ => fun
  | [d1, d2] => { results := [.lit (.bool false)], args := [d1, d2] }
  | _ => none }
def RingTurnsWrongFalsely : Prop := ringTurnsRow.holds Try.pinned (OpenSpec.ofChange ringTurnsWrong)

/-- 'treadwheellaw05.RingOnce': WHATEVER THE INPUT: true; the input reads as it did. -/
def ringOnceSpec : ChangeSpec := { name := "ringOnce", fn := fun _ => fun
  | [d1, d2] => { results := [.lit (.bool true)], args := [d1, d2] }
  | _ => none }
def ringOnceRow : OpenClaim := { program := "ytlpdlhmdhlcdlaa", sum := "881eed68de883e0bc6242de42f186799f7aaba82884f47ecedc89459866366e5", func := "treadwheel/treadwheellaw05.RingOnce", spec := "ringOnce", inPlace := ["sync/atomic.AddInt64"], unfollowed := true, recurses := true, apart := false }
def RingOnceSaid : Prop := ringOnceRow.holds Try.pinned (OpenSpec.ofChange ringOnceSpec)

/-- ITS FALSE NEIGHBOUR: 'it returns false'. Refute it at one input. -/
def ringOnceWrong : ChangeSpec := { name := "ringOnce", fn := fun _ => fun
  | [d1, d2] => { results := [.lit (.bool false)], args := [d1, d2] }
  | _ => none }
def RingOnceWrongFalsely : Prop := ringOnceRow.holds Try.pinned (OpenSpec.ofChange ringOnceWrong)

/-- 'treadwheellaw05.RingCycle': WHATEVER THE INPUT: true; the input reads as it did. -/
def ringCycleSpec : ChangeSpec := { name := "ringCycle", fn := fun _ => fun
  | [d1, d2, d3, d4] => { results := [.lit (.bool true)], args := [d1, d2, d3, d4] }
  | _ => none }
def ringCycleRow : OpenClaim := { program := "ytlpdlhmdhlcdlaa", sum := "881eed68de883e0bc6242de42f186799f7aaba82884f47ecedc89459866366e5", func := "treadwheel/treadwheellaw05.RingCycle", spec := "ringCycle", inPlace := ["sync/atomic.AddInt64"], unfollowed := true, recurses := true, apart := false }
def RingCycleSaid : Prop := ringCycleRow.holds Try.pinned (OpenSpec.ofChange ringCycleSpec)

/-- ITS FALSE NEIGHBOUR: 'it returns false'. Refute it at one input. -/
def ringCycleWrong : ChangeSpec := { name := "ringCycle", fn := fun _ => fun
  | [d1, d2, d3, d4] => { results := [.lit (.bool false)], args := [d1, d2, d3, d4] }
  | _ => none }
def RingCycleWrongFalsely : Prop := ringCycleRow.holds Try.pinned (OpenSpec.ofChange ringCycleWrong)

/-- 'treadwheellaw05.RingPlays': WHATEVER THE INPUT: true; the input reads as it did. -/
def ringPlaysSpec : ChangeSpec := { name := "ringPlays", fn := fun _ => fun
  | [d1, d2] => { results := [.lit (.bool true)], args := [d1, d2] }
  | _ => none }
def ringPlaysRow : OpenClaim := { program := "ytlpdlhmdhlcdlaa", sum := "881eed68de883e0bc6242de42f186799f7aaba82884f47ecedc89459866366e5", func := "treadwheel/treadwheellaw05.RingPlays", spec := "ringPlays", inPlace := ["sync/atomic.AddInt64"], unfollowed := true, recurses := true, apart := false }
def RingPlaysSaid : Prop := ringPlaysRow.holds Try.pinned (OpenSpec.ofChange ringPlaysSpec)

/-- ITS FALSE NEIGHBOUR: 'it returns false'. Refute it at one input. -/
def ringPlaysWrong : ChangeSpec := { name := "ringPlays", fn := fun _ => fun
  | [d1, d2] => { results := [.lit (.bool false)], args := [d1, d2] }
  | _ => none }
def RingPlaysWrongFalsely : Prop := ringPlaysRow.holds Try.pinned (OpenSpec.ofChange ringPlaysWrong)

/- THE SECOND FORM. 'bulk': how many values and letters a reading holds, each counted each time it is reached (what is shared counts as often as it is met; a slice's spare places count too). A statement '..UptoSaid' is the law's where the arguments, and the package variables that the reading takes, are together of bulk at most 1048576: NARROWER than '..Said'. Prove '..Said' where nothing that the law and all that it calls make is longer than what came in: it says more and counts as full. Else prove '..UptoSaid'. A law counts once. -/
mutual
def uptoBulk {H : Type} : DataW H → Nat
  | .lit (.string bytes) => bytes.length + 1
  | .lit _ => 1
  | .nil => 1
  | .ptr d => uptoBulk d + 1
  | .slice elems spare => uptoBulkAll elems + uptoBulkAll spare + 1
  | .agg parts => uptoBulkAll parts + 1
  | .iface _ d => uptoBulk d + 1
  | .map entries => uptoBulkEntries entries + 1
  | .held _ => 1
def uptoBulkAll {H : Type} : List (DataW H) → Nat
  | [] => 0
  | d :: r => uptoBulk d + uptoBulkAll r
def uptoBulkEntries {H : Type} : List (Lit × DataW H) → Nat
  | [] => 0
  | x :: r => uptoBulkEntry x + uptoBulkEntries r
def uptoBulkEntry {H : Type} : Lit × DataW H → Nat
  | (.string bytes, d) => bytes.length + uptoBulk d + 1
  | (_, d) => uptoBulk d + 1
 end
def uptoSmall : (H : Type) → List (DataW H) → Bool := fun _ ds => decide (uptoBulkAll ds ≤ 1048576)
def OpenSpec.upto (s : _root_.Go.ChangeSpec) : _root_.Go.OpenSpec := { _root_.Go.OpenSpec.ofChange s with cond := some uptoSmall }

/-- 'treadwheellaw05.RingTurns', WHERE WHAT IT READS IS OF BULK AT MOST 1048576: true; the input reads as it did. -/
def ringTurnsUptoRow : OpenClaim := { program := "ytlpdlhmdhlcdlaa", sum := "881eed68de883e0bc6242de42f186799f7aaba82884f47ecedc89459866366e5", func := "treadwheel/treadwheellaw05.RingTurns", spec := "ringTurns", inPlace := ["sync/atomic.AddInt64"], unfollowed := true, recurses := true, apart := false, narrowed := true }
def RingTurnsUptoSaid : Prop := ringTurnsUptoRow.holds Try.pinned (OpenSpec.upto ringTurnsSpec)

/-- 'treadwheellaw05.RingOnce', WHERE WHAT IT READS IS OF BULK AT MOST 1048576: true; the input reads as it did. -/
def ringOnceUptoRow : OpenClaim := { program := "ytlpdlhmdhlcdlaa", sum := "881eed68de883e0bc6242de42f186799f7aaba82884f47ecedc89459866366e5", func := "treadwheel/treadwheellaw05.RingOnce", spec := "ringOnce", inPlace := ["sync/atomic.AddInt64"], unfollowed := true, recurses := true, apart := false, narrowed := true }
def RingOnceUptoSaid : Prop := ringOnceUptoRow.holds Try.pinned (OpenSpec.upto ringOnceSpec)

/-- 'treadwheellaw05.RingCycle', WHERE WHAT IT READS IS OF BULK AT MOST 1048576: true; the input reads as it did. -/
def ringCycleUptoRow : OpenClaim := { program := "ytlpdlhmdhlcdlaa", sum := "881eed68de883e0bc6242de42f186799f7aaba82884f47ecedc89459866366e5", func := "treadwheel/treadwheellaw05.RingCycle", spec := "ringCycle", inPlace := ["sync/atomic.AddInt64"], unfollowed := true, recurses := true, apart := false, narrowed := true }
def RingCycleUptoSaid : Prop := ringCycleUptoRow.holds Try.pinned (OpenSpec.upto ringCycleSpec)

/-- 'treadwheellaw05.RingPlays', WHERE WHAT IT READS IS OF BULK AT MOST 1048576: true; the input reads as it did. -/
def ringPlaysUptoRow : OpenClaim := { program := "ytlpdlhmdhlcdlaa", sum := "881eed68de883e0bc6242de42f186799f7aaba82884f47ecedc89459866366e5", func := "treadwheel/treadwheellaw05.RingPlays", spec := "ringPlays", inPlace := ["sync/atomic.AddInt64"], unfollowed := true, recurses := true, apart := false, narrowed := true }
def RingPlaysUptoSaid : Prop := ringPlaysUptoRow.holds Try.pinned (OpenSpec.upto ringPlaysSpec)

end Rows
end Go.Proofs.Ytlpdlhmdhlcdlaa
