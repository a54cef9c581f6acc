/-
  No cell of these rows narrows 'for every input' (looked for: loops, veiled, ifaces, maps, wideKeys, modest, calm, conditions, laid).
  DERIVED. THE GIVEN ROWS OF THIS SEAT. 5 by the template 'for every input the law returns true; each argument reads behind the call as it read before'; 0 by the template 'total and deterministic' (their statements: YtoepekcheapgmaaTotals.lean).
  GIVEN WITH THE SEED: the statements are not yours to turn. If you find one false, say at which input.
  Laid BY PROGRAM, IN A SANDBOX (cutbox-rows.mjs): the forced cells as the released guide's own fill.sh prints them over the translation 828f2f25a1a3e8e0… (all of the seat's roots in one cut). By AI agents, Wed Nov 11 2026. No macro, syntax, notation, axiom, sorry.
-/
import Derived.Test.YtoepekcheapgmaaChecked
import GoSem.Claim
import GoSem.ClaimJoined
import GoSem.ClaimMapViews
import Derived.JoinedTies
import Derived.KernelRfl
namespace Go.Proofs.Ytoepekcheapgmaa
/- THE CELL 'sum', in the pinned program and in every row, IS THE sha256 OF THE DUMP (.gsa) THAT YtoepekcheapgmaaProg.lean LOADS. Nothing in Lean hashes anything: it is a label: what it is worth is what the hold of that sum in a sandbox is worth. -/
noncomputable def Try.pinned : Pinned := { name := "ytoepekcheapgmaa", sum := "828f2f25a1a3e8e0b709db6a53c97e42ed181b8df3bdc68a9136d65a2e5601e3", checked := Try.checked }
namespace Rows
def none {H : Type} : Left H := { results := [], args := [] }

/-- 'carillonlaw13.MultiPlays': WHATEVER THE INPUT: true; the input reads as it did. -/
def multiPlaysSpec : ChangeSpec := { name := "multiPlays", fn := fun _ => fun
  | [d1, d2, d3, d4] => { results := [.lit (.bool true)], args := [d1, d2, d3, d4] }
  | _ => none }
def multiPlaysRow : OpenClaim := { program := "ytoepekcheapgmaa", sum := "828f2f25a1a3e8e0b709db6a53c97e42ed181b8df3bdc68a9136d65a2e5601e3", func := "carillon/carillonlaw13.MultiPlays", spec := "multiPlays", inPlace := ["sync/atomic.StoreInt64", "sync/atomic.LoadInt64", "sync/atomic.CompareAndSwapInt64"], unfollowed := true, recurses := true, leaving := true, apart := false }
def MultiPlaysSaid : Prop := multiPlaysRow.holds Try.pinned (OpenSpec.ofChange multiPlaysSpec)

/-- ITS FALSE NEIGHBOUR: 'it returns false'. Refute it at one input. -/
def multiPlaysWrong : ChangeSpec := { name := "multiPlays", fn := fun _ => fun
  | [d1, d2, d3, d4] => { results := [.lit (.bool false)], args := [d1, d2, d3, d4] }
  | _ => none }
def MultiPlaysWrongFalsely : Prop := multiPlaysRow.holds Try.pinned (OpenSpec.ofChange multiPlaysWrong)

/-- 'carillonlaw13.MultiRuns': WHATEVER THE INPUT: true; the input reads as it did. -/
def multiRunsSpec : ChangeSpec := { name := "multiRuns", fn := fun _ => fun
  | [d1, d2, d3, d4, d5] => { results := [.lit (.bool true)], args := [d1, d2, d3, d4, d5] }
  | _ => none }
def multiRunsRow : OpenClaim := { program := "ytoepekcheapgmaa", sum := "828f2f25a1a3e8e0b709db6a53c97e42ed181b8df3bdc68a9136d65a2e5601e3", func := "carillon/carillonlaw13.MultiRuns", spec := "multiRuns", inPlace := ["sync/atomic.StoreInt64", "sync/atomic.LoadInt64", "sync/atomic.CompareAndSwapInt64"], unfollowed := true, recurses := true, leaving := true, apart := false }
def MultiRunsSaid : Prop := multiRunsRow.holds Try.pinned (OpenSpec.ofChange multiRunsSpec)

/-- ITS FALSE NEIGHBOUR: 'it returns false'. Refute it at one input. -/
def multiRunsWrong : ChangeSpec := { name := "multiRuns", fn := fun _ => fun
  | [d1, d2, d3, d4, d5] => { results := [.lit (.bool false)], args := [d1, d2, d3, d4, d5] }
  | _ => none }
def MultiRunsWrongFalsely : Prop := multiRunsRow.holds Try.pinned (OpenSpec.ofChange multiRunsWrong)

/-- 'carillonlaw13.MultiSlow': WHATEVER THE INPUT: true; the input reads as it did. -/
def multiSlowSpec : ChangeSpec := { name := "multiSlow", fn := fun _ => fun
  | [d1, d2] => { results := [.lit (.bool true)], args := [d1, d2] }
  | _ => none }
def multiSlowRow : OpenClaim := { program := "ytoepekcheapgmaa", sum := "828f2f25a1a3e8e0b709db6a53c97e42ed181b8df3bdc68a9136d65a2e5601e3", func := "carillon/carillonlaw13.MultiSlow", spec := "multiSlow", inPlace := ["sync/atomic.StoreInt64", "sync/atomic.LoadInt64", "sync/atomic.CompareAndSwapInt64"], unfollowed := true, recurses := true, leaving := true, apart := false }
def MultiSlowSaid : Prop := multiSlowRow.holds Try.pinned (OpenSpec.ofChange multiSlowSpec)

/-- ITS FALSE NEIGHBOUR: 'it returns false'. Refute it at one input. -/
def multiSlowWrong : ChangeSpec := { name := "multiSlow", fn := fun _ => fun
  | [d1, d2] => { results := [.lit (.bool false)], args := [d1, d2] }
  | _ => none }
def MultiSlowWrongFalsely : Prop := multiSlowRow.holds Try.pinned (OpenSpec.ofChange multiSlowWrong)

/-- 'carillonlaw13.MultiCalls': WHATEVER THE INPUT: true; the input reads as it did. -/
def multiCallsSpec : ChangeSpec := { name := "multiCalls", fn := fun _ => fun
  | [d1, d2, d3, d4] => { results := [.lit (.bool true)], args := [d1, d2, d3, d4] }
  | _ => none }
def multiCallsRow : OpenClaim := { program := "ytoepekcheapgmaa", sum := "828f2f25a1a3e8e0b709db6a53c97e42ed181b8df3bdc68a9136d65a2e5601e3", func := "carillon/carillonlaw13.MultiCalls", spec := "multiCalls", inPlace := ["sync/atomic.StoreInt64", "sync/atomic.LoadInt64", "sync/atomic.CompareAndSwapInt64"], unfollowed := true, recurses := true, leaving := true, apart := false }
def MultiCallsSaid : Prop := multiCallsRow.holds Try.pinned (OpenSpec.ofChange multiCallsSpec)

/-- ITS FALSE NEIGHBOUR: 'it returns false'. Refute it at one input. -/
def multiCallsWrong : ChangeSpec := { name := "multiCalls", fn := fun _ => fun
  | [d1, d2, d3, d4] => { results := [.lit (.bool false)], args := [d1, d2, d3, d4] }
  | _ => none }
def MultiCallsWrongFalsely : Prop := multiCallsRow.holds Try.pinned (OpenSpec.ofChange multiCallsWrong)

/-- 'carillonlaw13.MultiNil': WHATEVER THE INPUT: true; the input reads as it did. -/
def multiNilSpec : ChangeSpec := { name := "multiNil", fn := fun _ => fun
  | [d1, d2] => { results := [.lit (.bool true)], args := [d1, d2] }
  | _ => none }
def multiNilRow : OpenClaim := { program := "ytoepekcheapgmaa", sum := "828f2f25a1a3e8e0b709db6a53c97e42ed181b8df3bdc68a9136d65a2e5601e3", func := "carillon/carillonlaw13.MultiNil", spec := "multiNil", inPlace := ["sync/atomic.StoreInt64", "sync/atomic.LoadInt64", "sync/atomic.CompareAndSwapInt64"], unfollowed := true, recurses := true, leaving := true, apart := false }
def MultiNilSaid : Prop := multiNilRow.holds Try.pinned (OpenSpec.ofChange multiNilSpec)

/-- ITS FALSE NEIGHBOUR: 'it returns false'. Refute it at one input. -/
def multiNilWrong : ChangeSpec := { name := "multiNil", fn := fun _ => fun
  | [d1, d2] => { results := [.lit (.bool false)], args := [d1, d2] }
  | _ => none }
def MultiNilWrongFalsely : Prop := multiNilRow.holds Try.pinned (OpenSpec.ofChange multiNilWrong)

/- THE SECOND FORM. 'bulk': how many values and letters a reading holds, each counted each time it is reached (what is shared counts as often as it is met; a slice's spare places count too). A statement '..UptoSaid' is the law's where the arguments, and the package variables that the reading takes, are together of bulk at most 1048576: NARROWER than '..Said'. Prove '..Said' where nothing that the law and all that it calls make is longer than what came in: it says more and counts as full. Else prove '..UptoSaid'. A law counts once. -/
mutual
def uptoBulk {H : Type} : DataW H → Nat
  | .lit (.string bytes) => bytes.length + 1
  | .lit _ => 1
  | .nil => 1
  | .ptr d => uptoBulk d + 1
  | .slice elems spare => uptoBulkAll elems + uptoBulkAll spare + 1
  | .agg parts => uptoBulkAll parts + 1
  | .iface _ d => uptoBulk d + 1
  | .map entries => uptoBulkEntries entries + 1
  | .held _ => 1
def uptoBulkAll {H : Type} : List (DataW H) → Nat
  | [] => 0
  | d :: r => uptoBulk d + uptoBulkAll r
def uptoBulkEntries {H : Type} : List (Lit × DataW H) → Nat
  | [] => 0
  | x :: r => uptoBulkEntry x + uptoBulkEntries r
def uptoBulkEntry {H : Type} : Lit × DataW H → Nat
  | (.string bytes, d) => bytes.length + uptoBulk d + 1
  | (_, d) => uptoBulk d + 1
 end
def uptoSmall : (H : Type) → List (DataW H) → Bool := fun _ ds => decide (uptoBulkAll ds ≤ 1048576)
def OpenSpec.upto (s : _root_.Go.ChangeSpec) : _root_.Go.OpenSpec := { _root_.Go.OpenSpec.ofChange s with cond := some uptoSmall }

/-- 'carillonlaw13.MultiPlays', WHERE WHAT IT READS IS OF BULK AT MOST 1048576: true; the input reads as it did. -/
def multiPlaysUptoRow : OpenClaim := { program := "ytoepekcheapgmaa", sum := "828f2f25a1a3e8e0b709db6a53c97e42ed181b8df3bdc68a9136d65a2e5601e3", func := "carillon/carillonlaw13.MultiPlays", spec := "multiPlays", inPlace := ["sync/atomic.StoreInt64", "sync/atomic.LoadInt64", "sync/atomic.CompareAndSwapInt64"], unfollowed := true, recurses := true, leaving := true, apart := false, narrowed := true }
def MultiPlaysUptoSaid : Prop := multiPlaysUptoRow.holds Try.pinned (OpenSpec.upto multiPlaysSpec)

/-- 'carillonlaw13.MultiRuns', WHERE WHAT IT READS IS OF BULK AT MOST 1048576: true; the input reads as it did. -/
def multiRunsUptoRow : OpenClaim := { program := "ytoepekcheapgmaa", sum := "828f2f25a1a3e8e0b709db6a53c97e42ed181b8df3bdc68a9136d65a2e5601e3", func := "carillon/carillonlaw13.MultiRuns", spec := "multiRuns", inPlace := ["sync/atomic.StoreInt64", "sync/atomic.LoadInt64", "sync/atomic.CompareAndSwapInt64"], unfollowed := true, recurses := true, leaving := true, apart := false, narrowed := true }
def MultiRunsUptoSaid : Prop := multiRunsUptoRow.holds Try.pinned (OpenSpec.upto multiRunsSpec)

/-- 'carillonlaw13.MultiSlow', WHERE WHAT IT READS IS OF BULK AT MOST 1048576: true; the input reads as it did. -/
def multiSlowUptoRow : OpenClaim := { program := "ytoepekcheapgmaa", sum := "828f2f25a1a3e8e0b709db6a53c97e42ed181b8df3bdc68a9136d65a2e5601e3", func := "carillon/carillonlaw13.MultiSlow", spec := "multiSlow", inPlace := ["sync/atomic.StoreInt64", "sync/atomic.LoadInt64", "sync/atomic.CompareAndSwapInt64"], unfollowed := true, recurses := true, leaving := true, apart := false, narrowed := true }
def MultiSlowUptoSaid : Prop := multiSlowUptoRow.holds Try.pinned (OpenSpec.upto multiSlowSpec)

/-- 'carillonlaw13.MultiCalls', WHERE WHAT IT READS IS OF BULK AT MOST 1048576: true; the input reads as it did. -/
def multiCallsUptoRow : OpenClaim := { program := "ytoepekcheapgmaa", sum := "828f2f25a1a3e8e0b709db6a53c97e42ed181b8df3bdc68a9136d65a2e5601e3", func := "carillon/carillonlaw13.MultiCalls", spec := "multiCalls", inPlace := ["sync/atomic.StoreInt64", "sync/atomic.LoadInt64", "sync/atomic.CompareAndSwapInt64"], unfollowed := true, recurses := true, leaving := true, apart := false, narrowed := true }
def MultiCallsUptoSaid : Prop := multiCallsUptoRow.holds Try.pinned (OpenSpec.upto multiCallsSpec)

/-- 'carillonlaw13.MultiNil', WHERE WHAT IT READS IS OF BULK AT MOST 1048576: true; the input reads as it did. -/
def multiNilUptoRow : OpenClaim := { program := "ytoepekcheapgmaa", sum := "828f2f25a1a3e8e0b709db6a53c97e42ed181b8df3bdc68a9136d65a2e5601e3", func := "carillon/carillonlaw13.MultiNil", spec := "multiNil", inPlace := ["sync/atomic.StoreInt64", "sync/atomic.LoadInt64", "sync/atomic.CompareAndSwapInt64"], unfollowed := true, recurses := true, leaving := true, apart := false, narrowed := true }
def MultiNilUptoSaid : Prop := multiNilUptoRow.holds Try.pinned (OpenSpec.upto multiNilSpec)

end Rows
end Go.Proofs.Ytoepekcheapgmaa
