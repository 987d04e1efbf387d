/-
  No cell of these rows narrows 'for every input' (looked for: loops, veiled, ifaces, maps, wideKeys, modest, calm, conditions, laid).
  DERIVED. THE GIVEN ROWS OF THIS SEAT. 12 by the template 'for every input the law returns true; each argument reads behind the call as it read before'; 0 by the template 'total and deterministic' (their statements: YtfkckdfldalceaaTotals.lean).
  GIVEN WITH THE SEED: the statements are not yours to turn. If you find one false, say at which input.
  Laid BY PROGRAM, IN A SANDBOX (cutbox-rows.mjs): the forced cells as the released guide's own fill.sh prints them over the translation 07a453eba93178c4… (all of the seat's roots in one cut). By AI agents, Wed Nov 11 2026. No macro, syntax, notation, axiom, sorry.
-/
import Derived.Test.YtfkckdfldalceaaChecked
import GoSem.Claim
import GoSem.ClaimJoined
import GoSem.ClaimMapViews
import Derived.JoinedTies
import Derived.KernelRfl
namespace Go.Proofs.Ytfkckdfldalceaa
/- THE CELL 'sum', in the pinned program and in every row, IS THE sha256 OF THE DUMP (.gsa) THAT YtfkckdfldalceaaProg.lean LOADS. Nothing in Lean hashes anything: it is a label: what it is worth is what the hold of that sum in a sandbox is worth. -/
noncomputable def Try.pinned : Pinned := { name := "ytfkckdfldalceaa", sum := "07a453eba93178c49ce62ed71efe2b061a17ecf6076f153d6d68b7b80293680d", checked := Try.checked }
namespace Rows
def none {H : Type} : Left H := { results := [], args := [] }

/-- 'cobweblaw05.ArenaOnce': WHATEVER THE INPUT: true; the input reads as it did. -/
def arenaOnceSpec : ChangeSpec := { name := "arenaOnce", fn := fun _ => fun
  | [d1, d2] => { results := [.lit (.bool true)], args := [d1, d2] }
  | _ => none }
def arenaOnceRow : OpenClaim := { program := "ytfkckdfldalceaa", sum := "07a453eba93178c49ce62ed71efe2b061a17ecf6076f153d6d68b7b80293680d", func := "cobweb/cobweblaw05.ArenaOnce", spec := "arenaOnce", plainKeys := false, apart := false }
def ArenaOnceSaid : Prop := arenaOnceRow.holds Try.pinned (OpenSpec.ofChange arenaOnceSpec)

/-- ITS FALSE NEIGHBOUR: 'it returns false'. Refute it at one input. -/
def arenaOnceWrong : ChangeSpec := { name := "arenaOnce", fn := fun _ => fun
  | [d1, d2] => { results := [.lit (.bool false)], args := [d1, d2] }
  | _ => none }
def ArenaOnceWrongFalsely : Prop := arenaOnceRow.holds Try.pinned (OpenSpec.ofChange arenaOnceWrong)

/-- 'cobweblaw05.ArenaMany': WHATEVER THE INPUT: true; the input reads as it did. -/
def arenaManySpec : ChangeSpec := { name := "arenaMany", fn := fun _ => fun
  | [d1, d2, d3] => { results := [.lit (.bool true)], args := [d1, d2, d3] }
  | _ => none }
def arenaManyRow : OpenClaim := { program := "ytfkckdfldalceaa", sum := "07a453eba93178c49ce62ed71efe2b061a17ecf6076f153d6d68b7b80293680d", func := "cobweb/cobweblaw05.ArenaMany", spec := "arenaMany", plainKeys := false, apart := false }
def ArenaManySaid : Prop := arenaManyRow.holds Try.pinned (OpenSpec.ofChange arenaManySpec)

/-- ITS FALSE NEIGHBOUR: 'it returns false'. Refute it at one input. -/
def arenaManyWrong : ChangeSpec := { name := "arenaMany", fn := fun _ => fun
  | [d1, d2, d3] => { results := [.lit (.bool false)], args := [d1, d2, d3] }
  | _ => none }
def ArenaManyWrongFalsely : Prop := arenaManyRow.holds Try.pinned (OpenSpec.ofChange arenaManyWrong)

/-- 'cobweblaw05.ArenaTurns': WHATEVER THE INPUT: true; the input reads as it did. -/
def arenaTurnsSpec : ChangeSpec := { name := "arenaTurns", fn := fun _ => fun
  | [d1, d2] => { results := [.lit (.bool true)], args := [d1, d2] }
  | _ => none }
def arenaTurnsRow : OpenClaim := { program := "ytfkckdfldalceaa", sum := "07a453eba93178c49ce62ed71efe2b061a17ecf6076f153d6d68b7b80293680d", func := "cobweb/cobweblaw05.ArenaTurns", spec := "arenaTurns", plainKeys := false, apart := false }
def ArenaTurnsSaid : Prop := arenaTurnsRow.holds Try.pinned (OpenSpec.ofChange arenaTurnsSpec)

/-- ITS FALSE NEIGHBOUR: 'it returns false'. Refute it at one input. -/
def arenaTurnsWrong : ChangeSpec := { name := "arenaTurns", fn := fun _ => fun
  | [d1, d2] => { results := [.lit (.bool false)], args := [d1, d2] }
  | _ => none }
def ArenaTurnsWrongFalsely : Prop := arenaTurnsRow.holds Try.pinned (OpenSpec.ofChange arenaTurnsWrong)

/-- 'cobweblaw05.ArenaActs': WHATEVER THE INPUT: true; the input reads as it did. -/
def arenaActsSpec : ChangeSpec := { name := "arenaActs", fn := fun _ => fun
  | [d1, d2] => { results := [.lit (.bool true)], args := [d1, d2] }
  | _ => none }
def arenaActsRow : OpenClaim := { program := "ytfkckdfldalceaa", sum := "07a453eba93178c49ce62ed71efe2b061a17ecf6076f153d6d68b7b80293680d", func := "cobweb/cobweblaw05.ArenaActs", spec := "arenaActs", plainKeys := false, apart := false }
def ArenaActsSaid : Prop := arenaActsRow.holds Try.pinned (OpenSpec.ofChange arenaActsSpec)

/-- ITS FALSE NEIGHBOUR: 'it returns false'. Refute it at one input. -/
def arenaActsWrong : ChangeSpec := { name := "arenaActs", fn := fun _ => fun
  | [d1, d2] => { results := [.lit (.bool false)], args := [d1, d2] }
  | _ => none }
def ArenaActsWrongFalsely : Prop := arenaActsRow.holds Try.pinned (OpenSpec.ofChange arenaActsWrong)

/-- 'cobweblaw09.CellOrders': WHATEVER THE INPUT: true; the input reads as it did. -/
def cellOrdersSpec : ChangeSpec := { name := "cellOrders", fn := fun _ => fun
  | [d1, d2, d3] => { results := [.lit (.bool true)], args := [d1, d2, d3] }
  | _ => none }
def cellOrdersRow : OpenClaim := { program := "ytfkckdfldalceaa", sum := "07a453eba93178c49ce62ed71efe2b061a17ecf6076f153d6d68b7b80293680d", func := "cobweb/cobweblaw09.CellOrders", spec := "cellOrders", inPlace := ["internal/bytealg.abigen_runtime_cmpstring"], plainKeys := false, apart := false }
def CellOrdersSaid : Prop := cellOrdersRow.holds Try.pinned (OpenSpec.ofChange cellOrdersSpec)

/-- ITS FALSE NEIGHBOUR: 'it returns false'. Refute it at one input. -/
def cellOrdersWrong : ChangeSpec := { name := "cellOrders", fn := fun _ => fun
  | [d1, d2, d3] => { results := [.lit (.bool false)], args := [d1, d2, d3] }
  | _ => none }
def CellOrdersWrongFalsely : Prop := cellOrdersRow.holds Try.pinned (OpenSpec.ofChange cellOrdersWrong)

/-- 'cobweblaw09.CellStays': WHATEVER THE INPUT: true; the input reads as it did. -/
def cellStaysSpec : ChangeSpec := { name := "cellStays", fn := fun _ => fun
  | [d1, d2, d3] => { results := [.lit (.bool true)], args := [d1, d2, d3] }
  | _ => none }
def cellStaysRow : OpenClaim := { program := "ytfkckdfldalceaa", sum := "07a453eba93178c49ce62ed71efe2b061a17ecf6076f153d6d68b7b80293680d", func := "cobweb/cobweblaw09.CellStays", spec := "cellStays", plainKeys := false, apart := false }
def CellStaysSaid : Prop := cellStaysRow.holds Try.pinned (OpenSpec.ofChange cellStaysSpec)

/-- ITS FALSE NEIGHBOUR: 'it returns false'. Refute it at one input. -/
def cellStaysWrong : ChangeSpec := { name := "cellStays", fn := fun _ => fun
  | [d1, d2, d3] => { results := [.lit (.bool false)], args := [d1, d2, d3] }
  | _ => none }
def CellStaysWrongFalsely : Prop := cellStaysRow.holds Try.pinned (OpenSpec.ofChange cellStaysWrong)

/-- 'cobweblaw13.SetsActs': WHATEVER THE INPUT: true; the input reads as it did. -/
def setsActsSpec : ChangeSpec := { name := "setsActs", fn := fun _ => fun
  | [d] => { results := [.lit (.bool true)], args := [d] }
  | _ => none }
def setsActsRow : OpenClaim := { program := "ytfkckdfldalceaa", sum := "07a453eba93178c49ce62ed71efe2b061a17ecf6076f153d6d68b7b80293680d", func := "cobweb/cobweblaw13.SetsActs", spec := "setsActs", inPlace := ["internal/bytealg.abigen_runtime_cmpstring", "maps.clone"], unfollowed := true, recurses := true, plainKeys := false, apart := false }
def SetsActsSaid : Prop := setsActsRow.holds Try.pinned (OpenSpec.ofChange setsActsSpec)

/-- ITS FALSE NEIGHBOUR: 'it returns false'. Refute it at one input. -/
def setsActsWrong : ChangeSpec := { name := "setsActs", fn := fun _ => fun
  | [d] => { results := [.lit (.bool false)], args := [d] }
  | _ => none }
def SetsActsWrongFalsely : Prop := setsActsRow.holds Try.pinned (OpenSpec.ofChange setsActsWrong)

/-- 'cobweblaw13.SetsOverlay': WHATEVER THE INPUT: true; the input reads as it did. -/
def setsOverlaySpec : ChangeSpec := { name := "setsOverlay", fn := fun _ => fun
  | [d1, d2, d3] => { results := [.lit (.bool true)], args := [d1, d2, d3] }
  | _ => none }
def setsOverlayRow : OpenClaim := { program := "ytfkckdfldalceaa", sum := "07a453eba93178c49ce62ed71efe2b061a17ecf6076f153d6d68b7b80293680d", func := "cobweb/cobweblaw13.SetsOverlay", spec := "setsOverlay", inPlace := ["internal/bytealg.abigen_runtime_cmpstring", "maps.clone"], unfollowed := true, recurses := true, plainKeys := false, apart := false }
def SetsOverlaySaid : Prop := setsOverlayRow.holds Try.pinned (OpenSpec.ofChange setsOverlaySpec)

/-- ITS FALSE NEIGHBOUR: 'it returns false'. Refute it at one input. -/
def setsOverlayWrong : ChangeSpec := { name := "setsOverlay", fn := fun _ => fun
  | [d1, d2, d3] => { results := [.lit (.bool false)], args := [d1, d2, d3] }
  | _ => none }
def SetsOverlayWrongFalsely : Prop := setsOverlayRow.holds Try.pinned (OpenSpec.ofChange setsOverlayWrong)

/-- 'cobweblaw13.SetsBack': WHATEVER THE INPUT: true; the input reads as it did. -/
def setsBackSpec : ChangeSpec := { name := "setsBack", fn := fun _ => fun
  | [d1, d2] => { results := [.lit (.bool true)], args := [d1, d2] }
  | _ => none }
def setsBackRow : OpenClaim := { program := "ytfkckdfldalceaa", sum := "07a453eba93178c49ce62ed71efe2b061a17ecf6076f153d6d68b7b80293680d", func := "cobweb/cobweblaw13.SetsBack", spec := "setsBack", inPlace := ["internal/bytealg.abigen_runtime_cmpstring", "maps.clone"], unfollowed := true, recurses := true, plainKeys := false, apart := false }
def SetsBackSaid : Prop := setsBackRow.holds Try.pinned (OpenSpec.ofChange setsBackSpec)

/-- ITS FALSE NEIGHBOUR: 'it returns false'. Refute it at one input. -/
def setsBackWrong : ChangeSpec := { name := "setsBack", fn := fun _ => fun
  | [d1, d2] => { results := [.lit (.bool false)], args := [d1, d2] }
  | _ => none }
def SetsBackWrongFalsely : Prop := setsBackRow.holds Try.pinned (OpenSpec.ofChange setsBackWrong)

/-- 'cobweblaw09.CellRooms': WHATEVER THE INPUT: true; the input reads as it did. -/
def cellRoomsSpec : ChangeSpec := { name := "cellRooms", fn := fun _ => fun
  | [d1, d2] => { results := [.lit (.bool true)], args := [d1, d2] }
  | _ => none }
def cellRoomsRow : OpenClaim := { program := "ytfkckdfldalceaa", sum := "07a453eba93178c49ce62ed71efe2b061a17ecf6076f153d6d68b7b80293680d", func := "cobweb/cobweblaw09.CellRooms", spec := "cellRooms", inPlace := ["internal/bytealg.abigen_runtime_cmpstring"], unfollowed := true, recurses := true, plainKeys := false, apart := false }
def CellRoomsSaid : Prop := cellRoomsRow.holds Try.pinned (OpenSpec.ofChange cellRoomsSpec)

/-- ITS FALSE NEIGHBOUR: 'it returns false'. Refute it at one input. -/
def cellRoomsWrong : ChangeSpec := { name := "cellRooms", fn := fun _ => fun
  | [d1, d2] => { results := [.lit (.bool false)], args := [d1, d2] }
  | _ => none }
def CellRoomsWrongFalsely : Prop := cellRoomsRow.holds Try.pinned (OpenSpec.ofChange cellRoomsWrong)

/-- 'cobweblaw09.CellHolds': WHATEVER THE INPUT: true; the input reads as it did. -/
def cellHoldsSpec : ChangeSpec := { name := "cellHolds", fn := fun _ => fun
  | [d1, d2, d3] => { results := [.lit (.bool true)], args := [d1, d2, d3] }
  | _ => none }
def cellHoldsRow : OpenClaim := { program := "ytfkckdfldalceaa", sum := "07a453eba93178c49ce62ed71efe2b061a17ecf6076f153d6d68b7b80293680d", func := "cobweb/cobweblaw09.CellHolds", spec := "cellHolds", inPlace := ["internal/bytealg.abigen_runtime_cmpstring"], unfollowed := true, recurses := true, plainKeys := false, apart := false }
def CellHoldsSaid : Prop := cellHoldsRow.holds Try.pinned (OpenSpec.ofChange cellHoldsSpec)

/-- ITS FALSE NEIGHBOUR: 'it returns false'. Refute it at one input. -/
def cellHoldsWrong : ChangeSpec := { name := "cellHolds", fn := fun _ => fun
  | [d1, d2, d3] => { results := [.lit (.bool false)], args := [d1, d2, d3] }
  | _ => none }
def CellHoldsWrongFalsely : Prop := cellHoldsRow.holds Try.pinned (OpenSpec.ofChange cellHoldsWrong)

/-- 'cobweblaw09.CellActs': WHATEVER THE INPUT: true; the input reads as it did. -/
def cellActsSpec : ChangeSpec := { name := "cellActs", fn := fun _ => fun
  | [d1, d2] => { results := [.lit (.bool true)], args := [d1, d2] }
  | _ => none }
def cellActsRow : OpenClaim := { program := "ytfkckdfldalceaa", sum := "07a453eba93178c49ce62ed71efe2b061a17ecf6076f153d6d68b7b80293680d", func := "cobweb/cobweblaw09.CellActs", spec := "cellActs", inPlace := ["internal/bytealg.abigen_runtime_cmpstring"], unfollowed := true, recurses := true, plainKeys := false, apart := false }
def CellActsSaid : Prop := cellActsRow.holds Try.pinned (OpenSpec.ofChange cellActsSpec)

/-- ITS FALSE NEIGHBOUR: 'it returns false'. Refute it at one input. -/
def cellActsWrong : ChangeSpec := { name := "cellActs", fn := fun _ => fun
  | [d1, d2] => { results := [.lit (.bool false)], args := [d1, d2] }
  | _ => none }
def CellActsWrongFalsely : Prop := cellActsRow.holds Try.pinned (OpenSpec.ofChange cellActsWrong)

/- THE SECOND FORM. 'bulk': how many values and letters a reading holds, each counted each time it is reached (what is shared counts as often as it is met; a slice's spare places count too). A statement '..UptoSaid' is the law's where the arguments, and the package variables that the reading takes, are together of bulk at most 1048576: NARROWER than '..Said'. Prove '..Said' where nothing that the law and all that it calls make is longer than what came in: it says more and counts as full. Else prove '..UptoSaid'. A law counts once. -/
mutual
def uptoBulk {H : Type} : DataW H → Nat
  | .lit (.string bytes) => bytes.length + 1
  | .lit _ => 1
  | .nil => 1
  | .ptr d => uptoBulk d + 1
  | .slice elems spare => uptoBulkAll elems + uptoBulkAll spare + 1
  | .agg parts => uptoBulkAll parts + 1
  | .iface _ d => uptoBulk d + 1
  | .map entries => uptoBulkEntries entries + 1
  | .held _ => 1
def uptoBulkAll {H : Type} : List (DataW H) → Nat
  | [] => 0
  | d :: r => uptoBulk d + uptoBulkAll r
def uptoBulkEntries {H : Type} : List (Lit × DataW H) → Nat
  | [] => 0
  | x :: r => uptoBulkEntry x + uptoBulkEntries r
def uptoBulkEntry {H : Type} : Lit × DataW H → Nat
  | (.string bytes, d) => bytes.length + uptoBulk d + 1
  | (_, d) => uptoBulk d + 1
 end
def uptoSmall : (H : Type) → List (DataW H) → Bool := fun _ ds => decide (uptoBulkAll ds ≤ 1048576)
def OpenSpec.upto (s : _root_.Go.ChangeSpec) : _root_.Go.OpenSpec := { _root_.Go.OpenSpec.ofChange s with cond := some uptoSmall }

/-- 'cobweblaw05.ArenaOnce', WHERE WHAT IT READS IS OF BULK AT MOST 1048576: true; the input reads as it did. -/
def arenaOnceUptoRow : OpenClaim := { program := "ytfkckdfldalceaa", sum := "07a453eba93178c49ce62ed71efe2b061a17ecf6076f153d6d68b7b80293680d", func := "cobweb/cobweblaw05.ArenaOnce", spec := "arenaOnce", plainKeys := false, apart := false, narrowed := true }
def ArenaOnceUptoSaid : Prop := arenaOnceUptoRow.holds Try.pinned (OpenSpec.upto arenaOnceSpec)

/-- 'cobweblaw05.ArenaMany', WHERE WHAT IT READS IS OF BULK AT MOST 1048576: true; the input reads as it did. -/
def arenaManyUptoRow : OpenClaim := { program := "ytfkckdfldalceaa", sum := "07a453eba93178c49ce62ed71efe2b061a17ecf6076f153d6d68b7b80293680d", func := "cobweb/cobweblaw05.ArenaMany", spec := "arenaMany", plainKeys := false, apart := false, narrowed := true }
def ArenaManyUptoSaid : Prop := arenaManyUptoRow.holds Try.pinned (OpenSpec.upto arenaManySpec)

/-- 'cobweblaw05.ArenaTurns', WHERE WHAT IT READS IS OF BULK AT MOST 1048576: true; the input reads as it did. -/
def arenaTurnsUptoRow : OpenClaim := { program := "ytfkckdfldalceaa", sum := "07a453eba93178c49ce62ed71efe2b061a17ecf6076f153d6d68b7b80293680d", func := "cobweb/cobweblaw05.ArenaTurns", spec := "arenaTurns", plainKeys := false, apart := false, narrowed := true }
def ArenaTurnsUptoSaid : Prop := arenaTurnsUptoRow.holds Try.pinned (OpenSpec.upto arenaTurnsSpec)

/-- 'cobweblaw05.ArenaActs', WHERE WHAT IT READS IS OF BULK AT MOST 1048576: true; the input reads as it did. -/
def arenaActsUptoRow : OpenClaim := { program := "ytfkckdfldalceaa", sum := "07a453eba93178c49ce62ed71efe2b061a17ecf6076f153d6d68b7b80293680d", func := "cobweb/cobweblaw05.ArenaActs", spec := "arenaActs", plainKeys := false, apart := false, narrowed := true }
def ArenaActsUptoSaid : Prop := arenaActsUptoRow.holds Try.pinned (OpenSpec.upto arenaActsSpec)

/-- 'cobweblaw09.CellOrders', WHERE WHAT IT READS IS OF BULK AT MOST 1048576: true; the input reads as it did. -/
def cellOrdersUptoRow : OpenClaim := { program := "ytfkckdfldalceaa", sum := "07a453eba93178c49ce62ed71efe2b061a17ecf6076f153d6d68b7b80293680d", func := "cobweb/cobweblaw09.CellOrders", spec := "cellOrders", inPlace := ["internal/bytealg.abigen_runtime_cmpstring"], plainKeys := false, apart := false, narrowed := true }
def CellOrdersUptoSaid : Prop := cellOrdersUptoRow.holds Try.pinned (OpenSpec.upto cellOrdersSpec)

/-- 'cobweblaw09.CellStays', WHERE WHAT IT READS IS OF BULK AT MOST 1048576: true; the input reads as it did. -/
def cellStaysUptoRow : OpenClaim := { program := "ytfkckdfldalceaa", sum := "07a453eba93178c49ce62ed71efe2b061a17ecf6076f153d6d68b7b80293680d", func := "cobweb/cobweblaw09.CellStays", spec := "cellStays", plainKeys := false, apart := false, narrowed := true }
def CellStaysUptoSaid : Prop := cellStaysUptoRow.holds Try.pinned (OpenSpec.upto cellStaysSpec)

/-- 'cobweblaw13.SetsActs', WHERE WHAT IT READS IS OF BULK AT MOST 1048576: true; the input reads as it did. -/
def setsActsUptoRow : OpenClaim := { program := "ytfkckdfldalceaa", sum := "07a453eba93178c49ce62ed71efe2b061a17ecf6076f153d6d68b7b80293680d", func := "cobweb/cobweblaw13.SetsActs", spec := "setsActs", inPlace := ["internal/bytealg.abigen_runtime_cmpstring", "maps.clone"], unfollowed := true, recurses := true, plainKeys := false, apart := false, narrowed := true }
def SetsActsUptoSaid : Prop := setsActsUptoRow.holds Try.pinned (OpenSpec.upto setsActsSpec)

/-- 'cobweblaw13.SetsOverlay', WHERE WHAT IT READS IS OF BULK AT MOST 1048576: true; the input reads as it did. -/
def setsOverlayUptoRow : OpenClaim := { program := "ytfkckdfldalceaa", sum := "07a453eba93178c49ce62ed71efe2b061a17ecf6076f153d6d68b7b80293680d", func := "cobweb/cobweblaw13.SetsOverlay", spec := "setsOverlay", inPlace := ["internal/bytealg.abigen_runtime_cmpstring", "maps.clone"], unfollowed := true, recurses := true, plainKeys := false, apart := false, narrowed := true }
def SetsOverlayUptoSaid : Prop := setsOverlayUptoRow.holds Try.pinned (OpenSpec.upto setsOverlaySpec)

/-- 'cobweblaw13.SetsBack', WHERE WHAT IT READS IS OF BULK AT MOST 1048576: true; the input reads as it did. -/
def setsBackUptoRow : OpenClaim := { program := "ytfkckdfldalceaa", sum := "07a453eba93178c49ce62ed71efe2b061a17ecf6076f153d6d68b7b80293680d", func := "cobweb/cobweblaw13.SetsBack", spec := "setsBack", inPlace := ["internal/bytealg.abigen_runtime_cmpstring", "maps.clone"], unfollowed := true, recurses := true, plainKeys := false, apart := false, narrowed := true }
def SetsBackUptoSaid : Prop := setsBackUptoRow.holds Try.pinned (OpenSpec.upto setsBackSpec)

/-- 'cobweblaw09.CellRooms', WHERE WHAT IT READS IS OF BULK AT MOST 1048576: true; the input reads as it did. -/
def cellRoomsUptoRow : OpenClaim := { program := "ytfkckdfldalceaa", sum := "07a453eba93178c49ce62ed71efe2b061a17ecf6076f153d6d68b7b80293680d", func := "cobweb/cobweblaw09.CellRooms", spec := "cellRooms", inPlace := ["internal/bytealg.abigen_runtime_cmpstring"], unfollowed := true, recurses := true, plainKeys := false, apart := false, narrowed := true }
def CellRoomsUptoSaid : Prop := cellRoomsUptoRow.holds Try.pinned (OpenSpec.upto cellRoomsSpec)

/-- 'cobweblaw09.CellHolds', WHERE WHAT IT READS IS OF BULK AT MOST 1048576: true; the input reads as it did. -/
def cellHoldsUptoRow : OpenClaim := { program := "ytfkckdfldalceaa", sum := "07a453eba93178c49ce62ed71efe2b061a17ecf6076f153d6d68b7b80293680d", func := "cobweb/cobweblaw09.CellHolds", spec := "cellHolds", inPlace := ["internal/bytealg.abigen_runtime_cmpstring"], unfollowed := true, recurses := true, plainKeys := false, apart := false, narrowed := true }
def CellHoldsUptoSaid : Prop := cellHoldsUptoRow.holds Try.pinned (OpenSpec.upto cellHoldsSpec)

/-- 'cobweblaw09.CellActs', WHERE WHAT IT READS IS OF BULK AT MOST 1048576: true; the input reads as it did. -/
def cellActsUptoRow : OpenClaim := { program := "ytfkckdfldalceaa", sum := "07a453eba93178c49ce62ed71efe2b061a17ecf6076f153d6d68b7b80293680d", func := "cobweb/cobweblaw09.CellActs", spec := "cellActs", inPlace := ["internal/bytealg.abigen_runtime_cmpstring"], unfollowed := true, recurses := true, plainKeys := false, apart := false, narrowed := true }
def CellActsUptoSaid : Prop := cellActsUptoRow.holds Try.pinned (OpenSpec.upto cellActsSpec)

end Rows
end Go.Proofs.Ytfkckdfldalceaa
