/-
  No cell of these rows narrows 'for every input' (looked for: loops, veiled, ifaces, maps, wideKeys, modest, calm, conditions, laid).
  DERIVED. THE GIVEN ROWS OF THIS SEAT. 5 by the template 'for every input the law returns true; each argument reads behind the call as it read before'; 0 by the template 'total and deterministic' (their statements: YteainbnoemkfcaaTotals.lean).
  GIVEN WITH THE SEED: the statements are not yours to turn. If you find one false, say at which input.
  Laid BY PROGRAM, IN A SANDBOX (cutbox-rows.mjs): the forced cells as the released guide's own fill.sh prints them over the translation a8e9a930343daeca… (all of the seat's roots in one cut). By AI agents, Wed Nov 11 2026. No macro, syntax, notation, axiom, sorry.
-/
import Derived.Test.YteainbnoemkfcaaChecked
import GoSem.Claim
import GoSem.ClaimJoined
import GoSem.ClaimMapViews
import Derived.JoinedTies
import Derived.KernelRfl
namespace Go.Proofs.Yteainbnoemkfcaa
/- THE CELL 'sum', in the pinned program and in every row, IS THE sha256 OF THE DUMP (.gsa) THAT YteainbnoemkfcaaProg.lean LOADS. Nothing in Lean hashes anything: it is a label: what it is worth is what the hold of that sum in a sandbox is worth. -/
noncomputable def Try.pinned : Pinned := { name := "yteainbnoemkfcaa", sum := "a8e9a930343daeca0715bdfa4d9a09b4a58c869a48e4cb18ba665df981cead25", checked := Try.checked }
namespace Rows
def none {H : Type} : Left H := { results := [], args := [] }

/-- 'carillonlaw11.SlotsPlays': WHATEVER THE INPUT: true; the input reads as it did. -/
def slotsPlaysSpec : ChangeSpec := { name := "slotsPlays", fn := fun _ => fun
  | [d] => { results := [.lit (.bool true)], args := [d] }
  | _ => none }
def slotsPlaysRow : OpenClaim := { program := "yteainbnoemkfcaa", sum := "a8e9a930343daeca0715bdfa4d9a09b4a58c869a48e4cb18ba665df981cead25", func := "carillon/carillonlaw11.SlotsPlays", spec := "slotsPlays", inPlace := ["sync/atomic.StoreInt64", "sync/atomic.LoadInt64"], unfollowed := true, recurses := true, leaving := true, apart := false }
def SlotsPlaysSaid : Prop := slotsPlaysRow.holds Try.pinned (OpenSpec.ofChange slotsPlaysSpec)

/-- ITS FALSE NEIGHBOUR: 'it returns false'. Refute it at one input. -/
def slotsPlaysWrong : ChangeSpec := { name := "slotsPlays", fn := fun _ => fun
  | [d] => { results := [.lit (.bool false)], args := [d] }
  | _ => none }
def SlotsPlaysWrongFalsely : Prop := slotsPlaysRow.holds Try.pinned (OpenSpec.ofChange slotsPlaysWrong)

/-- 'carillonlaw11.SlotsCalls': WHATEVER THE INPUT: true; the input reads as it did. -/
def slotsCallsSpec : ChangeSpec := { name := "slotsCalls", fn := fun _ => fun
  | [d1, d2] => { results := [.lit (.bool true)], args := [d1, d2] }
  | _ => none }
def slotsCallsRow : OpenClaim := { program := "yteainbnoemkfcaa", sum := "a8e9a930343daeca0715bdfa4d9a09b4a58c869a48e4cb18ba665df981cead25", func := "carillon/carillonlaw11.SlotsCalls", spec := "slotsCalls", inPlace := ["sync/atomic.StoreInt64", "sync/atomic.LoadInt64"], unfollowed := true, recurses := true, leaving := true, apart := false }
def SlotsCallsSaid : Prop := slotsCallsRow.holds Try.pinned (OpenSpec.ofChange slotsCallsSpec)

/-- ITS FALSE NEIGHBOUR: 'it returns false'. Refute it at one input. -/
def slotsCallsWrong : ChangeSpec := { name := "slotsCalls", fn := fun _ => fun
  | [d1, d2] => { results := [.lit (.bool false)], args := [d1, d2] }
  | _ => none }
def SlotsCallsWrongFalsely : Prop := slotsCallsRow.holds Try.pinned (OpenSpec.ofChange slotsCallsWrong)

/-- 'carillonlaw11.SlotsOrder': WHATEVER THE INPUT: true; the input reads as it did. -/
def slotsOrderSpec : ChangeSpec := { name := "slotsOrder", fn := fun _ => fun
  | [d1, d2, d3] => { results := [.lit (.bool true)], args := [d1, d2, d3] }
  | _ => none }
def slotsOrderRow : OpenClaim := { program := "yteainbnoemkfcaa", sum := "a8e9a930343daeca0715bdfa4d9a09b4a58c869a48e4cb18ba665df981cead25", func := "carillon/carillonlaw11.SlotsOrder", spec := "slotsOrder", inPlace := ["sync/atomic.StoreInt64", "sync/atomic.LoadInt64"], unfollowed := true, recurses := true, leaving := true, apart := false }
def SlotsOrderSaid : Prop := slotsOrderRow.holds Try.pinned (OpenSpec.ofChange slotsOrderSpec)

/-- ITS FALSE NEIGHBOUR: 'it returns false'. Refute it at one input. -/
def slotsOrderWrong : ChangeSpec := { name := "slotsOrder", fn := fun _ => fun
  | [d1, d2, d3] => { results := [.lit (.bool false)], args := [d1, d2, d3] }
  | _ => none }
def SlotsOrderWrongFalsely : Prop := slotsOrderRow.holds Try.pinned (OpenSpec.ofChange slotsOrderWrong)

/-- 'carillonlaw11.SlotsNone': WHATEVER THE INPUT: true; the input reads as it did. -/
def slotsNoneSpec : ChangeSpec := { name := "slotsNone", fn := fun _ => fun
  | [d] => { results := [.lit (.bool true)], args := [d] }
  | _ => none }
def slotsNoneRow : OpenClaim := { program := "yteainbnoemkfcaa", sum := "a8e9a930343daeca0715bdfa4d9a09b4a58c869a48e4cb18ba665df981cead25", func := "carillon/carillonlaw11.SlotsNone", spec := "slotsNone", inPlace := ["sync/atomic.StoreInt64", "sync/atomic.LoadInt64"], unfollowed := true, recurses := true, leaving := true, apart := false }
def SlotsNoneSaid : Prop := slotsNoneRow.holds Try.pinned (OpenSpec.ofChange slotsNoneSpec)

/-- ITS FALSE NEIGHBOUR: 'it returns false'. Refute it at one input. -/
def slotsNoneWrong : ChangeSpec := { name := "slotsNone", fn := fun _ => fun
  | [d] => { results := [.lit (.bool false)], args := [d] }
  | _ => none }
def SlotsNoneWrongFalsely : Prop := slotsNoneRow.holds Try.pinned (OpenSpec.ofChange slotsNoneWrong)

/-- 'carillonlaw11.SlotsKeeps': WHATEVER THE INPUT: true; the input reads as it did. -/
def slotsKeepsSpec : ChangeSpec := { name := "slotsKeeps", fn := fun _ => fun
  | [d1, d2] => { results := [.lit (.bool true)], args := [d1, d2] }
  | _ => none }
def slotsKeepsRow : OpenClaim := { program := "yteainbnoemkfcaa", sum := "a8e9a930343daeca0715bdfa4d9a09b4a58c869a48e4cb18ba665df981cead25", func := "carillon/carillonlaw11.SlotsKeeps", spec := "slotsKeeps", inPlace := ["sync/atomic.StoreInt64", "sync/atomic.LoadInt64"], unfollowed := true, recurses := true, leaving := true, apart := false }
def SlotsKeepsSaid : Prop := slotsKeepsRow.holds Try.pinned (OpenSpec.ofChange slotsKeepsSpec)

/-- ITS FALSE NEIGHBOUR: 'it returns false'. Refute it at one input. -/
def slotsKeepsWrong : ChangeSpec := { name := "slotsKeeps", fn := fun _ => fun
  | [d1, d2] => { results := [.lit (.bool false)], args := [d1, d2] }
  | _ => none }
def SlotsKeepsWrongFalsely : Prop := slotsKeepsRow.holds Try.pinned (OpenSpec.ofChange slotsKeepsWrong)

/- THE SECOND FORM. 'bulk': how many values and letters a reading holds, each counted each time it is reached (what is shared counts as often as it is met; a slice's spare places count too). A statement '..UptoSaid' is the law's where the arguments, and the package variables that the reading takes, are together of bulk at most 1048576: NARROWER than '..Said'. Prove '..Said' where nothing that the law and all that it calls make is longer than what came in: it says more and counts as full. Else prove '..UptoSaid'. A law counts once. -/
mutual
def uptoBulk {H : Type} : DataW H → Nat
  | .lit (.string bytes) => bytes.length + 1
  | .lit _ => 1
  | .nil => 1
  | .ptr d => uptoBulk d + 1
  | .slice elems spare => uptoBulkAll elems + uptoBulkAll spare + 1
  | .agg parts => uptoBulkAll parts + 1
  | .iface _ d => uptoBulk d + 1
  | .map entries => uptoBulkEntries entries + 1
  | .held _ => 1
def uptoBulkAll {H : Type} : List (DataW H) → Nat
  | [] => 0
  | d :: r => uptoBulk d + uptoBulkAll r
def uptoBulkEntries {H : Type} : List (Lit × DataW H) → Nat
  | [] => 0
  | x :: r => uptoBulkEntry x + uptoBulkEntries r
def uptoBulkEntry {H : Type} : Lit × DataW H → Nat
  | (.string bytes, d) => bytes.length + uptoBulk d + 1
  | (_, d) => uptoBulk d + 1
 end
def uptoSmall : (H : Type) → List (DataW H) → Bool := fun _ ds => decide (uptoBulkAll ds ≤ 1048576)
def OpenSpec.upto (s : _root_.Go.ChangeSpec) : _root_.Go.OpenSpec := { _root_.Go.OpenSpec.ofChange s with cond := some uptoSmall }

/-- 'carillonlaw11.SlotsPlays', WHERE WHAT IT READS IS OF BULK AT MOST 1048576: true; the input reads as it did. -/
def slotsPlaysUptoRow : OpenClaim := { program := "yteainbnoemkfcaa", sum := "a8e9a930343daeca0715bdfa4d9a09b4a58c869a48e4cb18ba665df981cead25", func := "carillon/carillonlaw11.SlotsPlays", spec := "slotsPlays", inPlace := ["sync/atomic.StoreInt64", "sync/atomic.LoadInt64"], unfollowed := true, recurses := true, leaving := true, apart := false, narrowed := true }
def SlotsPlaysUptoSaid : Prop := slotsPlaysUptoRow.holds Try.pinned (OpenSpec.upto slotsPlaysSpec)

/-- 'carillonlaw11.SlotsCalls', WHERE WHAT IT READS IS OF BULK AT MOST 1048576: true; the input reads as it did. -/
def slotsCallsUptoRow : OpenClaim := { program := "yteainbnoemkfcaa", sum := "a8e9a930343daeca0715bdfa4d9a09b4a58c869a48e4cb18ba665df981cead25", func := "carillon/carillonlaw11.SlotsCalls", spec := "slotsCalls", inPlace := ["sync/atomic.StoreInt64", "sync/atomic.LoadInt64"], unfollowed := true, recurses := true, leaving := true, apart := false, narrowed := true }
def SlotsCallsUptoSaid : Prop := slotsCallsUptoRow.holds Try.pinned (OpenSpec.upto slotsCallsSpec)

/-- 'carillonlaw11.SlotsOrder', WHERE WHAT IT READS IS OF BULK AT MOST 1048576: true; the input reads as it did. -/
def slotsOrderUptoRow : OpenClaim := { program := "yteainbnoemkfcaa", sum := "a8e9a930343daeca0715bdfa4d9a09b4a58c869a48e4cb18ba665df981cead25", func := "carillon/carillonlaw11.SlotsOrder", spec := "slotsOrder", inPlace := ["sync/atomic.StoreInt64", "sync/atomic.LoadInt64"], unfollowed := true, recurses := true, leaving := true, apart := false, narrowed := true }
def SlotsOrderUptoSaid : Prop := slotsOrderUptoRow.holds Try.pinned (OpenSpec.upto slotsOrderSpec)

/-- 'carillonlaw11.SlotsNone', WHERE WHAT IT READS IS OF BULK AT MOST 1048576: true; the input reads as it did. -/
def slotsNoneUptoRow : OpenClaim := { program := "yteainbnoemkfcaa", sum := "a8e9a930343daeca0715bdfa4d9a09b4a58c869a48e4cb18ba665df981cead25", func := "carillon/carillonlaw11.SlotsNone", spec := "slotsNone", inPlace := ["sync/atomic.StoreInt64", "sync/atomic.LoadInt64"], unfollowed := true, recurses := true, leaving := true, apart := false, narrowed := true }
def SlotsNoneUptoSaid : Prop := slotsNoneUptoRow.holds Try.pinned (OpenSpec.upto slotsNoneSpec)

/-- 'carillonlaw11.SlotsKeeps', WHERE WHAT IT READS IS OF BULK AT MOST 1048576: true; the input reads as it did. -/
def slotsKeepsUptoRow : OpenClaim := { program := "yteainbnoemkfcaa", sum := "a8e9a930343daeca0715bdfa4d9a09b4a58c869a48e4cb18ba665df981cead25", func := "carillon/carillonlaw11.SlotsKeeps", spec := "slotsKeeps", inPlace := ["sync/atomic.StoreInt64", "sync/atomic.LoadInt64"], unfollowed := true, recurses := true, leaving := true, apart := false, narrowed := true }
def SlotsKeepsUptoSaid : Prop := slotsKeepsUptoRow.holds Try.pinned (OpenSpec.upto slotsKeepsSpec)

end Rows
end Go.Proofs.Yteainbnoemkfcaa
