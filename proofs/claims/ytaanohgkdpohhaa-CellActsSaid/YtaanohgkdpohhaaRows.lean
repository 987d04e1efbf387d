/-
  No cell of these rows narrows 'for every input' (looked for: loops, veiled, ifaces, maps, wideKeys, modest, calm, conditions, laid).
  DERIVED. THE GIVEN ROWS OF THIS SEAT. 12 by the template 'for every input the law returns true; each argument reads behind the call as it read before'; 0 by the template 'total and deterministic' (their statements: YtaanohgkdpohhaaTotals.lean).
  GIVEN WITH THE SEED: the statements are not yours to turn. If you find one false, say at which input.
  Laid BY PROGRAM, IN A SANDBOX (cutbox-rows.mjs): the forced cells as the released guide's own fill.sh prints them over the translation 644acc5335258e00… (all of the seat's roots in one cut). By AI agents, Wed Nov 11 2026. No macro, syntax, notation, axiom, sorry.
-/
import Derived.Test.YtaanohgkdpohhaaChecked
import GoSem.Claim
import GoSem.ClaimJoined
import GoSem.ClaimMapViews
import Derived.JoinedTies
import Derived.KernelRfl
namespace Go.Proofs.Ytaanohgkdpohhaa
/- THE CELL 'sum', in the pinned program and in every row, IS THE sha256 OF THE DUMP (.gsa) THAT YtaanohgkdpohhaaProg.lean LOADS. Nothing in Lean hashes anything: it is a label: what it is worth is what the hold of that sum in a sandbox is worth. -/
noncomputable def Try.pinned : Pinned := { name := "ytaanohgkdpohhaa", sum := "644acc5335258e003a51e6ced282a451b85725d60610af9090bdcfcd73823813", checked := Try.checked }
namespace Rows
def none {H : Type} : Left H := { results := [], args := [] }

/-- 'cobweblaw09.CellRooms': WHATEVER THE INPUT: true; the input reads as it did. -/
def cellRoomsSpec : ChangeSpec := { name := "cellRooms", fn := fun _ => fun
  | [d1, d2] => { results := [.lit (.bool true)], args := [d1, d2] }
  | _ => none }
def cellRoomsRow : OpenClaim := { program := "ytaanohgkdpohhaa", sum := "644acc5335258e003a51e6ced282a451b85725d60610af9090bdcfcd73823813", func := "cobweb/cobweblaw09.CellRooms", spec := "cellRooms", inPlace := ["internal/bytealg.abigen_runtime_cmpstring"], unfollowed := true, recurses := true, plainKeys := false, apart := false }
def CellRoomsSaid : Prop := cellRoomsRow.holds Try.pinned (OpenSpec.ofChange cellRoomsSpec)

/-- ITS FALSE NEIGHBOUR: 'it returns false'. Refute it at one input. -/
def cellRoomsWrong : ChangeSpec := { name := "cellRooms", fn := fun _ => fun
  | [d1, d2] => { results := [.lit (.bool false)], args := [d1, d2] }
  | _ => none }
def CellRoomsWrongFalsely : Prop := cellRoomsRow.holds Try.pinned (OpenSpec.ofChange cellRoomsWrong)

/-- 'cobweblaw09.CellHolds': WHATEVER THE INPUT: true; the input reads as it did. -/
def cellHoldsSpec : ChangeSpec := { name := "cellHolds", fn := fun _ => fun
  | [d1, d2, d3] => { results := [.lit (.bool true)], args := [d1, d2, d3] }
  | _ => none }
def cellHoldsRow : OpenClaim := { program := "ytaanohgkdpohhaa", sum := "644acc5335258e003a51e6ced282a451b85725d60610af9090bdcfcd73823813", func := "cobweb/cobweblaw09.CellHolds", spec := "cellHolds", inPlace := ["internal/bytealg.abigen_runtime_cmpstring"], unfollowed := true, recurses := true, plainKeys := false, apart := false }
def CellHoldsSaid : Prop := cellHoldsRow.holds Try.pinned (OpenSpec.ofChange cellHoldsSpec)

/-- ITS FALSE NEIGHBOUR: 'it returns false'. Refute it at one input. -/
def cellHoldsWrong : ChangeSpec := { name := "cellHolds", fn := fun _ => fun
  | [d1, d2, d3] => { results := [.lit (.bool false)], args := [d1, d2, d3] }
  | _ => none }
def CellHoldsWrongFalsely : Prop := cellHoldsRow.holds Try.pinned (OpenSpec.ofChange cellHoldsWrong)

/-- 'cobweblaw09.CellActs': WHATEVER THE INPUT: true; the input reads as it did. -/
def cellActsSpec : ChangeSpec := { name := "cellActs", fn := fun _ => fun
  | [d1, d2] => { results := [.lit (.bool true)], args := [d1, d2] }
  | _ => none }
def cellActsRow : OpenClaim := { program := "ytaanohgkdpohhaa", sum := "644acc5335258e003a51e6ced282a451b85725d60610af9090bdcfcd73823813", func := "cobweb/cobweblaw09.CellActs", spec := "cellActs", inPlace := ["internal/bytealg.abigen_runtime_cmpstring"], unfollowed := true, recurses := true, plainKeys := false, apart := false }
def CellActsSaid : Prop := cellActsRow.holds Try.pinned (OpenSpec.ofChange cellActsSpec)

/-- ITS FALSE NEIGHBOUR: 'it returns false'. Refute it at one input. -/
def cellActsWrong : ChangeSpec := { name := "cellActs", fn := fun _ => fun
  | [d1, d2] => { results := [.lit (.bool false)], args := [d1, d2] }
  | _ => none }
def CellActsWrongFalsely : Prop := cellActsRow.holds Try.pinned (OpenSpec.ofChange cellActsWrong)

/-- 'cobweblaw16.GraphChecks': WHATEVER THE INPUT: true; the input reads as it did. -/
def graphChecksSpec : ChangeSpec := { name := "graphChecks", fn := fun _ => fun
  | [d1, d2, d3] => { results := [.lit (.bool true)], args := [d1, d2, d3] }
  | _ => none }
def graphChecksRow : OpenClaim := { program := "ytaanohgkdpohhaa", sum := "644acc5335258e003a51e6ced282a451b85725d60610af9090bdcfcd73823813", func := "cobweb/cobweblaw16.GraphChecks", spec := "graphChecks", unfollowed := true, recurses := true, plainKeys := false, apart := false }
def GraphChecksSaid : Prop := graphChecksRow.holds Try.pinned (OpenSpec.ofChange graphChecksSpec)

/-- ITS FALSE NEIGHBOUR: 'it returns false'. Refute it at one input. -/
def graphChecksWrong : ChangeSpec := { name := "graphChecks", fn := fun _ => fun
  | [d1, d2, d3] => { results := [.lit (.bool false)], args := [d1, d2, d3] }
  | _ => none }
def GraphChecksWrongFalsely : Prop := graphChecksRow.holds Try.pinned (OpenSpec.ofChange graphChecksWrong)

/-- 'cobweblaw16.GraphOrders': WHATEVER THE INPUT: true; the input reads as it did. -/
def graphOrdersSpec : ChangeSpec := { name := "graphOrders", fn := fun _ => fun
  | [d1, d2, d3] => { results := [.lit (.bool true)], args := [d1, d2, d3] }
  | _ => none }
def graphOrdersRow : OpenClaim := { program := "ytaanohgkdpohhaa", sum := "644acc5335258e003a51e6ced282a451b85725d60610af9090bdcfcd73823813", func := "cobweb/cobweblaw16.GraphOrders", spec := "graphOrders", unfollowed := true, recurses := true, plainKeys := false, apart := false }
def GraphOrdersSaid : Prop := graphOrdersRow.holds Try.pinned (OpenSpec.ofChange graphOrdersSpec)

/-- ITS FALSE NEIGHBOUR: 'it returns false'. Refute it at one input. -/
def graphOrdersWrong : ChangeSpec := { name := "graphOrders", fn := fun _ => fun
  | [d1, d2, d3] => { results := [.lit (.bool false)], args := [d1, d2, d3] }
  | _ => none }
def GraphOrdersWrongFalsely : Prop := graphOrdersRow.holds Try.pinned (OpenSpec.ofChange graphOrdersWrong)

/-- 'cobweblaw17.WalkSides': WHATEVER THE INPUT: true; the input reads as it did. -/
def walkSidesSpec : ChangeSpec := { name := "walkSides", fn := fun _ => fun
  | [d1, d2, d3] => { results := [.lit (.bool true)], args := [d1, d2, d3] }
  | _ => none }
def walkSidesRow : OpenClaim := { program := "ytaanohgkdpohhaa", sum := "644acc5335258e003a51e6ced282a451b85725d60610af9090bdcfcd73823813", func := "cobweb/cobweblaw17.WalkSides", spec := "walkSides", unfollowed := true, recurses := true, plainKeys := false, apart := false }
def WalkSidesSaid : Prop := walkSidesRow.holds Try.pinned (OpenSpec.ofChange walkSidesSpec)

/-- ITS FALSE NEIGHBOUR: 'it returns false'. Refute it at one input. -/
def walkSidesWrong : ChangeSpec := { name := "walkSides", fn := fun _ => fun
  | [d1, d2, d3] => { results := [.lit (.bool false)], args := [d1, d2, d3] }
  | _ => none }
def WalkSidesWrongFalsely : Prop := walkSidesRow.holds Try.pinned (OpenSpec.ofChange walkSidesWrong)

/-- 'cobweblaw19.PathSteps': WHATEVER THE INPUT: true; the input reads as it did. -/
def pathStepsSpec : ChangeSpec := { name := "pathSteps", fn := fun _ => fun
  | [d1, d2, d3] => { results := [.lit (.bool true)], args := [d1, d2, d3] }
  | _ => none }
def pathStepsRow : OpenClaim := { program := "ytaanohgkdpohhaa", sum := "644acc5335258e003a51e6ced282a451b85725d60610af9090bdcfcd73823813", func := "cobweb/cobweblaw19.PathSteps", spec := "pathSteps", unfollowed := true, recurses := true, plainKeys := false, apart := false }
def PathStepsSaid : Prop := pathStepsRow.holds Try.pinned (OpenSpec.ofChange pathStepsSpec)

/-- ITS FALSE NEIGHBOUR: 'it returns false'. Refute it at one input. -/
def pathStepsWrong : ChangeSpec := { name := "pathSteps", fn := fun _ => fun
  | [d1, d2, d3] => { results := [.lit (.bool false)], args := [d1, d2, d3] }
  | _ => none }
def PathStepsWrongFalsely : Prop := pathStepsRow.holds Try.pinned (OpenSpec.ofChange pathStepsWrong)

/-- 'cobweblaw19.PathParts': WHATEVER THE INPUT: true; the input reads as it did. -/
def pathPartsSpec : ChangeSpec := { name := "pathParts", fn := fun _ => fun
  | [d1, d2] => { results := [.lit (.bool true)], args := [d1, d2] }
  | _ => none }
def pathPartsRow : OpenClaim := { program := "ytaanohgkdpohhaa", sum := "644acc5335258e003a51e6ced282a451b85725d60610af9090bdcfcd73823813", func := "cobweb/cobweblaw19.PathParts", spec := "pathParts", unfollowed := true, recurses := true, plainKeys := false, apart := false }
def PathPartsSaid : Prop := pathPartsRow.holds Try.pinned (OpenSpec.ofChange pathPartsSpec)

/-- ITS FALSE NEIGHBOUR: 'it returns false'. Refute it at one input. -/
def pathPartsWrong : ChangeSpec := { name := "pathParts", fn := fun _ => fun
  | [d1, d2] => { results := [.lit (.bool false)], args := [d1, d2] }
  | _ => none }
def PathPartsWrongFalsely : Prop := pathPartsRow.holds Try.pinned (OpenSpec.ofChange pathPartsWrong)

/-- 'cobweblaw19.PathBack': WHATEVER THE INPUT: true; the input reads as it did. -/
def pathBackSpec : ChangeSpec := { name := "pathBack", fn := fun _ => fun
  | [d1, d2, d3] => { results := [.lit (.bool true)], args := [d1, d2, d3] }
  | _ => none }
def pathBackRow : OpenClaim := { program := "ytaanohgkdpohhaa", sum := "644acc5335258e003a51e6ced282a451b85725d60610af9090bdcfcd73823813", func := "cobweb/cobweblaw19.PathBack", spec := "pathBack", unfollowed := true, recurses := true, plainKeys := false, apart := false }
def PathBackSaid : Prop := pathBackRow.holds Try.pinned (OpenSpec.ofChange pathBackSpec)

/-- ITS FALSE NEIGHBOUR: 'it returns false'. Refute it at one input. -/
def pathBackWrong : ChangeSpec := { name := "pathBack", fn := fun _ => fun
  | [d1, d2, d3] => { results := [.lit (.bool false)], args := [d1, d2, d3] }
  | _ => none }
def PathBackWrongFalsely : Prop := pathBackRow.holds Try.pinned (OpenSpec.ofChange pathBackWrong)

/-- 'cobweblaw19.PathRuns': WHATEVER THE INPUT: true; the input reads as it did. -/
def pathRunsSpec : ChangeSpec := { name := "pathRuns", fn := fun _ => fun
  | [d1, d2] => { results := [.lit (.bool true)], args := [d1, d2] }
  | _ => none }
def pathRunsRow : OpenClaim := { program := "ytaanohgkdpohhaa", sum := "644acc5335258e003a51e6ced282a451b85725d60610af9090bdcfcd73823813", func := "cobweb/cobweblaw19.PathRuns", spec := "pathRuns", unfollowed := true, recurses := true, plainKeys := false, apart := false }
def PathRunsSaid : Prop := pathRunsRow.holds Try.pinned (OpenSpec.ofChange pathRunsSpec)

/-- ITS FALSE NEIGHBOUR: 'it returns false'. Refute it at one input. -/
def pathRunsWrong : ChangeSpec := { name := "pathRuns", fn := fun _ => fun
  | [d1, d2] => { results := [.lit (.bool false)], args := [d1, d2] }
  | _ => none }
def PathRunsWrongFalsely : Prop := pathRunsRow.holds Try.pinned (OpenSpec.ofChange pathRunsWrong)

/-- 'cobweblaw19.PathBounds': WHATEVER THE INPUT: true; the input reads as it did. -/
def pathBoundsSpec : ChangeSpec := { name := "pathBounds", fn := fun _ => fun
  | [d1, d2] => { results := [.lit (.bool true)], args := [d1, d2] }
  | _ => none }
def pathBoundsRow : OpenClaim := { program := "ytaanohgkdpohhaa", sum := "644acc5335258e003a51e6ced282a451b85725d60610af9090bdcfcd73823813", func := "cobweb/cobweblaw19.PathBounds", spec := "pathBounds", unfollowed := true, recurses := true, plainKeys := false, apart := false }
def PathBoundsSaid : Prop := pathBoundsRow.holds Try.pinned (OpenSpec.ofChange pathBoundsSpec)

/-- ITS FALSE NEIGHBOUR: 'it returns false'. Refute it at one input. -/
def pathBoundsWrong : ChangeSpec := { name := "pathBounds", fn := fun _ => fun
  | [d1, d2] => { results := [.lit (.bool false)], args := [d1, d2] }
  | _ => none }
def PathBoundsWrongFalsely : Prop := pathBoundsRow.holds Try.pinned (OpenSpec.ofChange pathBoundsWrong)

/-- 'cobweblaw20.OccAlone': WHATEVER THE INPUT: true; the input reads as it did. -/
def occAloneSpec : ChangeSpec := { name := "occAlone", fn := fun _ => fun
  | [d1, d2, d3] => { results := [.lit (.bool true)], args := [d1, d2, d3] }
  | _ => none }
def occAloneRow : OpenClaim := { program := "ytaanohgkdpohhaa", sum := "644acc5335258e003a51e6ced282a451b85725d60610af9090bdcfcd73823813", func := "cobweb/cobweblaw20.OccAlone", spec := "occAlone", inPlace := ["internal/bytealg.abigen_runtime_cmpstring"], unfollowed := true, recurses := true, plainKeys := false, apart := false }
def OccAloneSaid : Prop := occAloneRow.holds Try.pinned (OpenSpec.ofChange occAloneSpec)

/-- ITS FALSE NEIGHBOUR: 'it returns false'. Refute it at one input. -/
def occAloneWrong : ChangeSpec := { name := "occAlone", fn := fun _ => fun
  | [d1, d2, d3] => { results := [.lit (.bool false)], args := [d1, d2, d3] }
  | _ => none }
def OccAloneWrongFalsely : Prop := occAloneRow.holds Try.pinned (OpenSpec.ofChange occAloneWrong)

/- THE SECOND FORM. 'bulk': how many values and letters a reading holds, each counted each time it is reached (what is shared counts as often as it is met; a slice's spare places count too). A statement '..UptoSaid' is the law's where the arguments, and the package variables that the reading takes, are together of bulk at most 1048576: NARROWER than '..Said'. Prove '..Said' where nothing that the law and all that it calls make is longer than what came in: it says more and counts as full. Else prove '..UptoSaid'. A law counts once. -/
mutual
def uptoBulk {H : Type} : DataW H → Nat
  | .lit (.string bytes) => bytes.length + 1
  | .lit _ => 1
  | .nil => 1
  | .ptr d => uptoBulk d + 1
  | .slice elems spare => uptoBulkAll elems + uptoBulkAll spare + 1
  | .agg parts => uptoBulkAll parts + 1
  | .iface _ d => uptoBulk d + 1
  | .map entries => uptoBulkEntries entries + 1
  | .held _ => 1
def uptoBulkAll {H : Type} : List (DataW H) → Nat
  | [] => 0
  | d :: r => uptoBulk d + uptoBulkAll r
def uptoBulkEntries {H : Type} : List (Lit × DataW H) → Nat
  | [] => 0
  | x :: r => uptoBulkEntry x + uptoBulkEntries r
def uptoBulkEntry {H : Type} : Lit × DataW H → Nat
  | (.string bytes, d) => bytes.length + uptoBulk d + 1
  | (_, d) => uptoBulk d + 1
 end
def uptoSmall : (H : Type) → List (DataW H) → Bool := fun _ ds => decide (uptoBulkAll ds ≤ 1048576)
def OpenSpec.upto (s : _root_.Go.ChangeSpec) : _root_.Go.OpenSpec := { _root_.Go.OpenSpec.ofChange s with cond := some uptoSmall }

/-- 'cobweblaw09.CellRooms', WHERE WHAT IT READS IS OF BULK AT MOST 1048576: true; the input reads as it did. -/
def cellRoomsUptoRow : OpenClaim := { program := "ytaanohgkdpohhaa", sum := "644acc5335258e003a51e6ced282a451b85725d60610af9090bdcfcd73823813", func := "cobweb/cobweblaw09.CellRooms", spec := "cellRooms", inPlace := ["internal/bytealg.abigen_runtime_cmpstring"], unfollowed := true, recurses := true, plainKeys := false, apart := false, narrowed := true }
def CellRoomsUptoSaid : Prop := cellRoomsUptoRow.holds Try.pinned (OpenSpec.upto cellRoomsSpec)

/-- 'cobweblaw09.CellHolds', WHERE WHAT IT READS IS OF BULK AT MOST 1048576: true; the input reads as it did. -/
def cellHoldsUptoRow : OpenClaim := { program := "ytaanohgkdpohhaa", sum := "644acc5335258e003a51e6ced282a451b85725d60610af9090bdcfcd73823813", func := "cobweb/cobweblaw09.CellHolds", spec := "cellHolds", inPlace := ["internal/bytealg.abigen_runtime_cmpstring"], unfollowed := true, recurses := true, plainKeys := false, apart := false, narrowed := true }
def CellHoldsUptoSaid : Prop := cellHoldsUptoRow.holds Try.pinned (OpenSpec.upto cellHoldsSpec)

/-- 'cobweblaw09.CellActs', WHERE WHAT IT READS IS OF BULK AT MOST 1048576: true; the input reads as it did. -/
def cellActsUptoRow : OpenClaim := { program := "ytaanohgkdpohhaa", sum := "644acc5335258e003a51e6ced282a451b85725d60610af9090bdcfcd73823813", func := "cobweb/cobweblaw09.CellActs", spec := "cellActs", inPlace := ["internal/bytealg.abigen_runtime_cmpstring"], unfollowed := true, recurses := true, plainKeys := false, apart := false, narrowed := true }
def CellActsUptoSaid : Prop := cellActsUptoRow.holds Try.pinned (OpenSpec.upto cellActsSpec)

/-- 'cobweblaw16.GraphChecks', WHERE WHAT IT READS IS OF BULK AT MOST 1048576: true; the input reads as it did. -/
def graphChecksUptoRow : OpenClaim := { program := "ytaanohgkdpohhaa", sum := "644acc5335258e003a51e6ced282a451b85725d60610af9090bdcfcd73823813", func := "cobweb/cobweblaw16.GraphChecks", spec := "graphChecks", unfollowed := true, recurses := true, plainKeys := false, apart := false, narrowed := true }
def GraphChecksUptoSaid : Prop := graphChecksUptoRow.holds Try.pinned (OpenSpec.upto graphChecksSpec)

/-- 'cobweblaw16.GraphOrders', WHERE WHAT IT READS IS OF BULK AT MOST 1048576: true; the input reads as it did. -/
def graphOrdersUptoRow : OpenClaim := { program := "ytaanohgkdpohhaa", sum := "644acc5335258e003a51e6ced282a451b85725d60610af9090bdcfcd73823813", func := "cobweb/cobweblaw16.GraphOrders", spec := "graphOrders", unfollowed := true, recurses := true, plainKeys := false, apart := false, narrowed := true }
def GraphOrdersUptoSaid : Prop := graphOrdersUptoRow.holds Try.pinned (OpenSpec.upto graphOrdersSpec)

/-- 'cobweblaw17.WalkSides', WHERE WHAT IT READS IS OF BULK AT MOST 1048576: true; the input reads as it did. -/
def walkSidesUptoRow : OpenClaim := { program := "ytaanohgkdpohhaa", sum := "644acc5335258e003a51e6ced282a451b85725d60610af9090bdcfcd73823813", func := "cobweb/cobweblaw17.WalkSides", spec := "walkSides", unfollowed := true, recurses := true, plainKeys := false, apart := false, narrowed := true }
def WalkSidesUptoSaid : Prop := walkSidesUptoRow.holds Try.pinned (OpenSpec.upto walkSidesSpec)

/-- 'cobweblaw19.PathSteps', WHERE WHAT IT READS IS OF BULK AT MOST 1048576: true; the input reads as it did. -/
def pathStepsUptoRow : OpenClaim := { program := "ytaanohgkdpohhaa", sum := "644acc5335258e003a51e6ced282a451b85725d60610af9090bdcfcd73823813", func := "cobweb/cobweblaw19.PathSteps", spec := "pathSteps", unfollowed := true, recurses := true, plainKeys := false, apart := false, narrowed := true }
def PathStepsUptoSaid : Prop := pathStepsUptoRow.holds Try.pinned (OpenSpec.upto pathStepsSpec)

/-- 'cobweblaw19.PathParts', WHERE WHAT IT READS IS OF BULK AT MOST 1048576: true; the input reads as it did. -/
def pathPartsUptoRow : OpenClaim := { program := "ytaanohgkdpohhaa", sum := "644acc5335258e003a51e6ced282a451b85725d60610af9090bdcfcd73823813", func := "cobweb/cobweblaw19.PathParts", spec := "pathParts", unfollowed := true, recurses := true, plainKeys := false, apart := false, narrowed := true }
def PathPartsUptoSaid : Prop := pathPartsUptoRow.holds Try.pinned (OpenSpec.upto pathPartsSpec)

/-- 'cobweblaw19.PathBack', WHERE WHAT IT READS IS OF BULK AT MOST 1048576: true; the input reads as it did. -/
def pathBackUptoRow : OpenClaim := { program := "ytaanohgkdpohhaa", sum := "644acc5335258e003a51e6ced282a451b85725d60610af9090bdcfcd73823813", func := "cobweb/cobweblaw19.PathBack", spec := "pathBack", unfollowed := true, recurses := true, plainKeys := false, apart := false, narrowed := true }
def PathBackUptoSaid : Prop := pathBackUptoRow.holds Try.pinned (OpenSpec.upto pathBackSpec)

/-- 'cobweblaw19.PathRuns', WHERE WHAT IT READS IS OF BULK AT MOST 1048576: true; the input reads as it did. -/
def pathRunsUptoRow : OpenClaim := { program := "ytaanohgkdpohhaa", sum := "644acc5335258e003a51e6ced282a451b85725d60610af9090bdcfcd73823813", func := "cobweb/cobweblaw19.PathRuns", spec := "pathRuns", unfollowed := true, recurses := true, plainKeys := false, apart := false, narrowed := true }
def PathRunsUptoSaid : Prop := pathRunsUptoRow.holds Try.pinned (OpenSpec.upto pathRunsSpec)

/-- 'cobweblaw19.PathBounds', WHERE WHAT IT READS IS OF BULK AT MOST 1048576: true; the input reads as it did. -/
def pathBoundsUptoRow : OpenClaim := { program := "ytaanohgkdpohhaa", sum := "644acc5335258e003a51e6ced282a451b85725d60610af9090bdcfcd73823813", func := "cobweb/cobweblaw19.PathBounds", spec := "pathBounds", unfollowed := true, recurses := true, plainKeys := false, apart := false, narrowed := true }
def PathBoundsUptoSaid : Prop := pathBoundsUptoRow.holds Try.pinned (OpenSpec.upto pathBoundsSpec)

/-- 'cobweblaw20.OccAlone', WHERE WHAT IT READS IS OF BULK AT MOST 1048576: true; the input reads as it did. -/
def occAloneUptoRow : OpenClaim := { program := "ytaanohgkdpohhaa", sum := "644acc5335258e003a51e6ced282a451b85725d60610af9090bdcfcd73823813", func := "cobweb/cobweblaw20.OccAlone", spec := "occAlone", inPlace := ["internal/bytealg.abigen_runtime_cmpstring"], unfollowed := true, recurses := true, plainKeys := false, apart := false, narrowed := true }
def OccAloneUptoSaid : Prop := occAloneUptoRow.holds Try.pinned (OpenSpec.upto occAloneSpec)

end Rows
end Go.Proofs.Ytaanohgkdpohhaa
