/-
  No cell of these rows narrows 'for every input' (looked for: loops, veiled, ifaces, maps, wideKeys, modest, calm, conditions, laid).
  DERIVED. THE GIVEN ROWS OF THIS SEAT. 3 by the template 'for every input the law returns true; each argument reads behind the call as it read before'; 0 by the template 'total and deterministic' (their statements: YtlcplealnbekeaaTotals.lean).
  GIVEN WITH THE SEED: the statements are not yours to turn. If you find one false, say at which input.
  Laid BY PROGRAM, IN A SANDBOX (cutbox-rows.mjs): the forced cells as the released guide's own fill.sh prints them over the translation e3db26a3ce11ec4f… (all of the seat's roots in one cut). By AI agents, Wed Nov 11 2026. No macro, syntax, notation, axiom, sorry.
-/
import Derived.Test.YtlcplealnbekeaaChecked
import GoSem.Claim
import GoSem.ClaimJoined
import GoSem.ClaimMapViews
import Derived.JoinedTies
import Derived.KernelRfl
namespace Go.Proofs.Ytlcplealnbekeaa
/- THE CELL 'sum', in the pinned program and in every row, IS THE sha256 OF THE DUMP (.gsa) THAT YtlcplealnbekeaaProg.lean LOADS. Nothing in Lean hashes anything: it is a label: what it is worth is what the hold of that sum in a sandbox is worth. -/
noncomputable def Try.pinned : Pinned := { name := "ytlcplealnbekeaa", sum := "e3db26a3ce11ec4f6e670efea738a3d2b20ae8d6e0d2bc1d4f774164ea7b9e3d", checked := Try.checked }
namespace Rows
def none {H : Type} : Left H := { results := [], args := [] }

/-- 'carillonlaw12.SoloPlays': WHATEVER THE INPUT: true; the input reads as it did. -/
def soloPlaysSpec : ChangeSpec := { name := "soloPlays", fn := fun _ => fun
  | [d] => { results := [.lit (.bool true)], args := [d] }
  | _ => none }
def soloPlaysRow : OpenClaim := { program := "ytlcplealnbekeaa", sum := "e3db26a3ce11ec4f6e670efea738a3d2b20ae8d6e0d2bc1d4f774164ea7b9e3d", func := "carillon/carillonlaw12.SoloPlays", spec := "soloPlays", inPlace := ["sync/atomic.StoreInt64", "sync/atomic.LoadInt64"], unfollowed := true, recurses := true, leaving := true, apart := false }
def SoloPlaysSaid : Prop := soloPlaysRow.holds Try.pinned (OpenSpec.ofChange soloPlaysSpec)

/-- ITS FALSE NEIGHBOUR: 'it returns false'. Refute it at one input. -/
def soloPlaysWrong : ChangeSpec := { name := "soloPlays", fn := fun _ => fun
  | [d] => { results := [.lit (.bool false)], args := [d] }
  | _ => none }
def SoloPlaysWrongFalsely : Prop := soloPlaysRow.holds Try.pinned (OpenSpec.ofChange soloPlaysWrong)

/-- 'carillonlaw12.SoloRuns': WHATEVER THE INPUT: true; the input reads as it did. -/
def soloRunsSpec : ChangeSpec := { name := "soloRuns", fn := fun _ => fun
  | [d] => { results := [.lit (.bool true)], args := [d] }
  | _ => none }
def soloRunsRow : OpenClaim := { program := "ytlcplealnbekeaa", sum := "e3db26a3ce11ec4f6e670efea738a3d2b20ae8d6e0d2bc1d4f774164ea7b9e3d", func := "carillon/carillonlaw12.SoloRuns", spec := "soloRuns", inPlace := ["sync/atomic.StoreInt64", "sync/atomic.LoadInt64"], unfollowed := true, recurses := true, leaving := true, apart := false }
def SoloRunsSaid : Prop := soloRunsRow.holds Try.pinned (OpenSpec.ofChange soloRunsSpec)

/-- ITS FALSE NEIGHBOUR: 'it returns false'. Refute it at one input. -/
def soloRunsWrong : ChangeSpec := { name := "soloRuns", fn := fun _ => fun
  | [d] => { results := [.lit (.bool false)], args := [d] }
  | _ => none }
def SoloRunsWrongFalsely : Prop := soloRunsRow.holds Try.pinned (OpenSpec.ofChange soloRunsWrong)

/-- 'carillonlaw12.SoloStops': WHATEVER THE INPUT: true; the input reads as it did. -/
def soloStopsSpec : ChangeSpec := { name := "soloStops", fn := fun _ => fun
  | [d1, d2] => { results := [.lit (.bool true)], args := [d1, d2] }
  | _ => none }
def soloStopsRow : OpenClaim := { program := "ytlcplealnbekeaa", sum := "e3db26a3ce11ec4f6e670efea738a3d2b20ae8d6e0d2bc1d4f774164ea7b9e3d", func := "carillon/carillonlaw12.SoloStops", spec := "soloStops", inPlace := ["sync/atomic.StoreInt64", "sync/atomic.LoadInt64"], unfollowed := true, recurses := true, leaving := true, apart := false }
def SoloStopsSaid : Prop := soloStopsRow.holds Try.pinned (OpenSpec.ofChange soloStopsSpec)

/-- ITS FALSE NEIGHBOUR: 'it returns false'. Refute it at one input. -/
def soloStopsWrong : ChangeSpec := { name := "soloStops", fn := fun _ => fun
  | [d1, d2] => { results := [.lit (.bool false)], args := [d1, d2] }
  | _ => none }
def SoloStopsWrongFalsely : Prop := soloStopsRow.holds Try.pinned (OpenSpec.ofChange soloStopsWrong)

/- THE SECOND FORM. 'bulk': how many values and letters a reading holds, each counted each time it is reached (what is shared counts as often as it is met; a slice's spare places count too). A statement '..UptoSaid' is the law's where the arguments, and the package variables that the reading takes, are together of bulk at most 1048576: NARROWER than '..Said'. Prove '..Said' where nothing that the law and all that it calls make is longer than what came in: it says more and counts as full. Else prove '..UptoSaid'. A law counts once. -/
mutual
def uptoBulk {H : Type} : DataW H → Nat
  | .lit (.string bytes) => bytes.length + 1
  | .lit _ => 1
  | .nil => 1
  | .ptr d => uptoBulk d + 1
  | .slice elems spare => uptoBulkAll elems + uptoBulkAll spare + 1
  | .agg parts => uptoBulkAll parts + 1
  | .iface _ d => uptoBulk d + 1
  | .map entries => uptoBulkEntries entries + 1
  | .held _ => 1
def uptoBulkAll {H : Type} : List (DataW H) → Nat
  | [] => 0
  | d :: r => uptoBulk d + uptoBulkAll r
def uptoBulkEntries {H : Type} : List (Lit × DataW H) → Nat
  | [] => 0
  | x :: r => uptoBulkEntry x + uptoBulkEntries r
def uptoBulkEntry {H : Type} : Lit × DataW H → Nat
  | (.string bytes, d) => bytes.length + uptoBulk d + 1
  | (_, d) => uptoBulk d + 1
 end
def uptoSmall : (H : Type) → List (DataW H) → Bool := fun _ ds => decide (uptoBulkAll ds ≤ 1048576)
def OpenSpec.upto (s : _root_.Go.ChangeSpec) : _root_.Go.OpenSpec := { _root_.Go.OpenSpec.ofChange s with cond := some uptoSmall }

/-- 'carillonlaw12.SoloPlays', WHERE WHAT IT READS IS OF BULK AT MOST 1048576: true; the input reads as it did. -/
def soloPlaysUptoRow : OpenClaim := { program := "ytlcplealnbekeaa", sum := "e3db26a3ce11ec4f6e670efea738a3d2b20ae8d6e0d2bc1d4f774164ea7b9e3d", func := "carillon/carillonlaw12.SoloPlays", spec := "soloPlays", inPlace := ["sync/atomic.StoreInt64", "sync/atomic.LoadInt64"], unfollowed := true, recurses := true, leaving := true, apart := false, narrowed := true }
def SoloPlaysUptoSaid : Prop := soloPlaysUptoRow.holds Try.pinned (OpenSpec.upto soloPlaysSpec)

/-- 'carillonlaw12.SoloRuns', WHERE WHAT IT READS IS OF BULK AT MOST 1048576: true; the input reads as it did. -/
def soloRunsUptoRow : OpenClaim := { program := "ytlcplealnbekeaa", sum := "e3db26a3ce11ec4f6e670efea738a3d2b20ae8d6e0d2bc1d4f774164ea7b9e3d", func := "carillon/carillonlaw12.SoloRuns", spec := "soloRuns", inPlace := ["sync/atomic.StoreInt64", "sync/atomic.LoadInt64"], unfollowed := true, recurses := true, leaving := true, apart := false, narrowed := true }
def SoloRunsUptoSaid : Prop := soloRunsUptoRow.holds Try.pinned (OpenSpec.upto soloRunsSpec)

/-- 'carillonlaw12.SoloStops', WHERE WHAT IT READS IS OF BULK AT MOST 1048576: true; the input reads as it did. -/
def soloStopsUptoRow : OpenClaim := { program := "ytlcplealnbekeaa", sum := "e3db26a3ce11ec4f6e670efea738a3d2b20ae8d6e0d2bc1d4f774164ea7b9e3d", func := "carillon/carillonlaw12.SoloStops", spec := "soloStops", inPlace := ["sync/atomic.StoreInt64", "sync/atomic.LoadInt64"], unfollowed := true, recurses := true, leaving := true, apart := false, narrowed := true }
def SoloStopsUptoSaid : Prop := soloStopsUptoRow.holds Try.pinned (OpenSpec.upto soloStopsSpec)

end Rows
end Go.Proofs.Ytlcplealnbekeaa
