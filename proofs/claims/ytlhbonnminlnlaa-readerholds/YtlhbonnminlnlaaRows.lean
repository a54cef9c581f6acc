/-
  No cell of these rows narrows 'for every input' (looked for: loops, veiled, ifaces, maps, wideKeys, modest, calm, conditions, laid).
  DERIVED. THE GIVEN ROWS OF THIS SEAT. 3 by the template 'for every input the law returns true; each argument reads behind the call as it read before'; 0 by the template 'total and deterministic' (their statements: YtlhbonnminlnlaaTotals.lean).
  GIVEN WITH THE SEED: the statements are not yours to turn. If you find one false, say at which input.
  Laid BY PROGRAM, IN A SANDBOX (cutbox-rows.mjs): the forced cells as the released guide's own fill.sh prints them over the translation a7885555e99f23a5… (all of the seat's roots in one cut). By AI agents, Wed Nov 11 2026. No macro, syntax, notation, axiom, sorry.
-/
import Derived.Test.YtlhbonnminlnlaaChecked
import GoSem.Claim
import GoSem.ClaimJoined
import GoSem.ClaimMapViews
import Derived.JoinedTies
import Derived.KernelRfl
namespace Go.Proofs.Ytlhbonnminlnlaa
/- THE CELL 'sum', in the pinned program and in every row, IS THE sha256 OF THE DUMP (.gsa) THAT YtlhbonnminlnlaaProg.lean LOADS. Nothing in Lean hashes anything: it is a label: what it is worth is what the hold of that sum in a sandbox is worth. -/
noncomputable def Try.pinned : Pinned := { name := "ytlhbonnminlnlaa", sum := "a7885555e99f23a5e9ec25f1a24c1790692f51d1e0d24bffa8170c2d99f367a9", checked := Try.checked }
namespace Rows
def none {H : Type} : Left H := { results := [], args := [] }

/-- 'carillonlaw16.ReaderNil': WHATEVER THE INPUT: true; the input reads as it did. -/
def readerNilSpec : ChangeSpec := { name := "readerNil", fn := fun _ => fun
  | [d1, d2] => { results := [.lit (.bool true)], args := [d1, d2] }
  | _ => none }
def readerNilRow : OpenClaim := { program := "ytlhbonnminlnlaa", sum := "a7885555e99f23a5e9ec25f1a24c1790692f51d1e0d24bffa8170c2d99f367a9", func := "carillon/carillonlaw16.ReaderNil", spec := "readerNil", inPlace := ["sync/atomic.StoreInt64", "sync/atomic.LoadInt64", "sync/atomic.CompareAndSwapInt64", "sync/atomic.LoadPointer", "sync/atomic.CompareAndSwapPointer"], unfollowed := true, recurses := true, leaving := true, apart := false }
def ReaderNilSaid : Prop := readerNilRow.holds Try.pinned (OpenSpec.ofChange readerNilSpec)

/-- ITS FALSE NEIGHBOUR: 'it returns false'. Refute it at one input. -/
def readerNilWrong : ChangeSpec := { name := "readerNil", fn := fun _ => fun
  | [d1, d2] => { results := [.lit (.bool false)], args := [d1, d2] }
  | _ => none }
def ReaderNilWrongFalsely : Prop := readerNilRow.holds Try.pinned (OpenSpec.ofChange readerNilWrong)

/-- 'carillonlaw16.ReaderRuns': WHATEVER THE INPUT: true; the input reads as it did. -/
def readerRunsSpec : ChangeSpec := { name := "readerRuns", fn := fun _ => fun
  | [d1, d2, d3, d4] => { results := [.lit (.bool true)], args := [d1, d2, d3, d4] }
  | _ => none }
def readerRunsRow : OpenClaim := { program := "ytlhbonnminlnlaa", sum := "a7885555e99f23a5e9ec25f1a24c1790692f51d1e0d24bffa8170c2d99f367a9", func := "carillon/carillonlaw16.ReaderRuns", spec := "readerRuns", inPlace := ["sync/atomic.StoreInt64", "sync/atomic.LoadInt64", "sync/atomic.CompareAndSwapInt64", "sync/atomic.LoadPointer", "sync/atomic.CompareAndSwapPointer"], unfollowed := true, recurses := true, leaving := true, apart := false }
def ReaderRunsSaid : Prop := readerRunsRow.holds Try.pinned (OpenSpec.ofChange readerRunsSpec)

/-- ITS FALSE NEIGHBOUR: 'it returns false'. Refute it at one input. -/
def readerRunsWrong : ChangeSpec := { name := "readerRuns", fn := fun _ => fun
  | [d1, d2, d3, d4] => { results := [.lit (.bool false)], args := [d1, d2, d3, d4] }
  | _ => none }
def ReaderRunsWrongFalsely : Prop := readerRunsRow.holds Try.pinned (OpenSpec.ofChange readerRunsWrong)

/-- 'carillonlaw16.ReaderHolds': WHATEVER THE INPUT: true; the input reads as it did. -/
def readerHoldsSpec : ChangeSpec := { name := "readerHolds", fn := fun _ => fun
  | [d1, d2, d3, d4] => { results := [.lit (.bool true)], args := [d1, d2, d3, d4] }
  | _ => none }
def readerHoldsRow : OpenClaim := { program := "ytlhbonnminlnlaa", sum := "a7885555e99f23a5e9ec25f1a24c1790692f51d1e0d24bffa8170c2d99f367a9", func := "carillon/carillonlaw16.ReaderHolds", spec := "readerHolds", inPlace := ["sync/atomic.StoreInt64", "sync/atomic.LoadInt64", "sync/atomic.CompareAndSwapInt64", "sync/atomic.LoadPointer", "sync/atomic.CompareAndSwapPointer"], unfollowed := true, recurses := true, leaving := true, apart := false }
def ReaderHoldsSaid : Prop := readerHoldsRow.holds Try.pinned (OpenSpec.ofChange readerHoldsSpec)

/-- ITS FALSE NEIGHBOUR: 'it returns false'. Refute it at one input. -/
def readerHoldsWrong : ChangeSpec := { name := "readerHolds", fn := fun _ => fun
  | [d1, d2, d3, d4] => { results := [.lit (.bool false)], args := [d1, d2, d3, d4] }
  | _ => none }
def ReaderHoldsWrongFalsely : Prop := readerHoldsRow.holds Try.pinned (OpenSpec.ofChange readerHoldsWrong)

/- THE SECOND FORM. 'bulk': how many values and letters a reading holds, each counted each time it is reached (what is shared counts as often as it is met; a slice's spare places count too). A statement '..UptoSaid' is the law's where the arguments, and the package variables that the reading takes, are together of bulk at most 1048576: NARROWER than '..Said'. Prove '..Said' where nothing that the law and all that it calls make is longer than what came in: it says more and counts as full. Else prove '..UptoSaid'. A law counts once. -/
mutual
def uptoBulk {H : Type} : DataW H → Nat
  | .lit (.string bytes) => bytes.length + 1
  | .lit _ => 1
  | .nil => 1
  | .ptr d => uptoBulk d + 1
  | .slice elems spare => uptoBulkAll elems + uptoBulkAll spare + 1
  | .agg parts => uptoBulkAll parts + 1
  | .iface _ d => uptoBulk d + 1
  | .map entries => uptoBulkEntries entries + 1
  | .held _ => 1
def uptoBulkAll {H : Type} : List (DataW H) → Nat
  | [] => 0
  | d :: r => uptoBulk d + uptoBulkAll r
def uptoBulkEntries {H : Type} : List (Lit × DataW H) → Nat
  | [] => 0
  | x :: r => uptoBulkEntry x + uptoBulkEntries r
def uptoBulkEntry {H : Type} : Lit × DataW H → Nat
  | (.string bytes, d) => bytes.length + uptoBulk d + 1
  | (_, d) => uptoBulk d + 1
 end
def uptoSmall : (H : Type) → List (DataW H) → Bool := fun _ ds => decide (uptoBulkAll ds ≤ 1048576)
def OpenSpec.upto (s : _root_.Go.ChangeSpec) : _root_.Go.OpenSpec := { _root_.Go.OpenSpec.ofChange s with cond := some uptoSmall }

/-- 'carillonlaw16.ReaderNil', WHERE WHAT IT READS IS OF BULK AT MOST 1048576: true; the input reads as it did. -/
def readerNilUptoRow : OpenClaim := { program := "ytlhbonnminlnlaa", sum := "a7885555e99f23a5e9ec25f1a24c1790692f51d1e0d24bffa8170c2d99f367a9", func := "carillon/carillonlaw16.ReaderNil", spec := "readerNil", inPlace := ["sync/atomic.StoreInt64", "sync/atomic.LoadInt64", "sync/atomic.CompareAndSwapInt64", "sync/atomic.LoadPointer", "sync/atomic.CompareAndSwapPointer"], unfollowed := true, recurses := true, leaving := true, apart := false, narrowed := true }
def ReaderNilUptoSaid : Prop := readerNilUptoRow.holds Try.pinned (OpenSpec.upto readerNilSpec)

/-- 'carillonlaw16.ReaderRuns', WHERE WHAT IT READS IS OF BULK AT MOST 1048576: true; the input reads as it did. -/
def readerRunsUptoRow : OpenClaim := { program := "ytlhbonnminlnlaa", sum := "a7885555e99f23a5e9ec25f1a24c1790692f51d1e0d24bffa8170c2d99f367a9", func := "carillon/carillonlaw16.ReaderRuns", spec := "readerRuns", inPlace := ["sync/atomic.StoreInt64", "sync/atomic.LoadInt64", "sync/atomic.CompareAndSwapInt64", "sync/atomic.LoadPointer", "sync/atomic.CompareAndSwapPointer"], unfollowed := true, recurses := true, leaving := true, apart := false, narrowed := true }
def ReaderRunsUptoSaid : Prop := readerRunsUptoRow.holds Try.pinned (OpenSpec.upto readerRunsSpec)

/-- 'carillonlaw16.ReaderHolds', WHERE WHAT IT READS IS OF BULK AT MOST 1048576: true; the input reads as it did. -/
def readerHoldsUptoRow : OpenClaim := { program := "ytlhbonnminlnlaa", sum := "a7885555e99f23a5e9ec25f1a24c1790692f51d1e0d24bffa8170c2d99f367a9", func := "carillon/carillonlaw16.ReaderHolds", spec := "readerHolds", inPlace := ["sync/atomic.StoreInt64", "sync/atomic.LoadInt64", "sync/atomic.CompareAndSwapInt64", "sync/atomic.LoadPointer", "sync/atomic.CompareAndSwapPointer"], unfollowed := true, recurses := true, leaving := true, apart := false, narrowed := true }
def ReaderHoldsUptoSaid : Prop := readerHoldsUptoRow.holds Try.pinned (OpenSpec.upto readerHoldsSpec)

end Rows
end Go.Proofs.Ytlhbonnminlnlaa
