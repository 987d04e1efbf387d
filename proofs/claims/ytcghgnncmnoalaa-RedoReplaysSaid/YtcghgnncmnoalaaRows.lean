/-
  No cell of these rows narrows 'for every input' (looked for: loops, veiled, ifaces, maps, wideKeys, modest, calm, conditions, laid).
  DERIVED. THE GIVEN ROWS OF THIS SEAT. 12 by the template 'for every input the law returns true; each argument reads behind the call as it read before'; 0 by the template 'total and deterministic' (their statements: YtcghgnncmnoalaaTotals.lean).
  GIVEN WITH THE SEED: the statements are not yours to turn. If you find one false, say at which input.
  Laid BY PROGRAM, IN A SANDBOX (cutbox-rows.mjs): the forced cells as the released guide's own fill.sh prints them over the translation be2cf8bcbed5eabb… (all of the seat's roots in one cut). By AI agents, Wed Nov 11 2026. No macro, syntax, notation, axiom, sorry.
-/
import Derived.Test.YtcghgnncmnoalaaChecked
import GoSem.Claim
import GoSem.ClaimJoined
import GoSem.ClaimMapViews
import Derived.JoinedTies
import Derived.KernelRfl
namespace Go.Proofs.Ytcghgnncmnoalaa
/- THE CELL 'sum', in the pinned program and in every row, IS THE sha256 OF THE DUMP (.gsa) THAT YtcghgnncmnoalaaProg.lean LOADS. Nothing in Lean hashes anything: it is a label: what it is worth is what the hold of that sum in a sandbox is worth. -/
noncomputable def Try.pinned : Pinned := { name := "ytcghgnncmnoalaa", sum := "be2cf8bcbed5eabbcb8d2fb72178ca63322b50ecb4027f0abd6af50f81fa0ac7", checked := Try.checked }
namespace Rows
def none {H : Type} : Left H := { results := [], args := [] }

/-- 'cobweblaw14.RedoRecovers': WHATEVER THE INPUT: true; the input reads as it did. -/
def redoRecoversSpec : ChangeSpec := { name := "redoRecovers", fn := fun _ => fun
  | [d] => { results := [.lit (.bool true)], args := [d] }
  | _ => none }
def redoRecoversRow : OpenClaim := { program := "ytcghgnncmnoalaa", sum := "be2cf8bcbed5eabbcb8d2fb72178ca63322b50ecb4027f0abd6af50f81fa0ac7", func := "cobweb/cobweblaw14.RedoRecovers", spec := "redoRecovers", inPlace := ["internal/bytealg.abigen_runtime_cmpstring"], unfollowed := true, recurses := true, plainKeys := false, apart := false }
def RedoRecoversSaid : Prop := redoRecoversRow.holds Try.pinned (OpenSpec.ofChange redoRecoversSpec)

/-- ITS FALSE NEIGHBOUR: 'it returns false'. Refute it at one input. -/
def redoRecoversWrong : ChangeSpec := { name := "redoRecovers", fn := fun _ => fun
  | [d] => { results := [.lit (.bool false)], args := [d] }
  | _ => none }
def RedoRecoversWrongFalsely : Prop := redoRecoversRow.holds Try.pinned (OpenSpec.ofChange redoRecoversWrong)

/-- 'cobweblaw14.RedoCuts': WHATEVER THE INPUT: true; the input reads as it did. -/
def redoCutsSpec : ChangeSpec := { name := "redoCuts", fn := fun _ => fun
  | [d1, d2] => { results := [.lit (.bool true)], args := [d1, d2] }
  | _ => none }
def redoCutsRow : OpenClaim := { program := "ytcghgnncmnoalaa", sum := "be2cf8bcbed5eabbcb8d2fb72178ca63322b50ecb4027f0abd6af50f81fa0ac7", func := "cobweb/cobweblaw14.RedoCuts", spec := "redoCuts", inPlace := ["internal/bytealg.abigen_runtime_cmpstring"], unfollowed := true, recurses := true, plainKeys := false, apart := false }
def RedoCutsSaid : Prop := redoCutsRow.holds Try.pinned (OpenSpec.ofChange redoCutsSpec)

/-- ITS FALSE NEIGHBOUR: 'it returns false'. Refute it at one input. -/
def redoCutsWrong : ChangeSpec := { name := "redoCuts", fn := fun _ => fun
  | [d1, d2] => { results := [.lit (.bool false)], args := [d1, d2] }
  | _ => none }
def RedoCutsWrongFalsely : Prop := redoCutsRow.holds Try.pinned (OpenSpec.ofChange redoCutsWrong)

/-- 'cobweblaw14.RedoBack': WHATEVER THE INPUT: true; the input reads as it did. -/
def redoBackSpec : ChangeSpec := { name := "redoBack", fn := fun _ => fun
  | [d1, d2] => { results := [.lit (.bool true)], args := [d1, d2] }
  | _ => none }
def redoBackRow : OpenClaim := { program := "ytcghgnncmnoalaa", sum := "be2cf8bcbed5eabbcb8d2fb72178ca63322b50ecb4027f0abd6af50f81fa0ac7", func := "cobweb/cobweblaw14.RedoBack", spec := "redoBack", inPlace := ["internal/bytealg.abigen_runtime_cmpstring"], unfollowed := true, recurses := true, plainKeys := false, apart := false }
def RedoBackSaid : Prop := redoBackRow.holds Try.pinned (OpenSpec.ofChange redoBackSpec)

/-- ITS FALSE NEIGHBOUR: 'it returns false'. Refute it at one input. -/
def redoBackWrong : ChangeSpec := { name := "redoBack", fn := fun _ => fun
  | [d1, d2] => { results := [.lit (.bool false)], args := [d1, d2] }
  | _ => none }
def RedoBackWrongFalsely : Prop := redoBackRow.holds Try.pinned (OpenSpec.ofChange redoBackWrong)

/-- 'cobweblaw14.RedoParses': WHATEVER THE INPUT: true; the input reads as it did. -/
def redoParsesSpec : ChangeSpec := { name := "redoParses", fn := fun _ => fun
  | [d1, d2, d3] => { results := [.lit (.bool true)], args := [d1, d2, d3] }
  | _ => none }
def redoParsesRow : OpenClaim := { program := "ytcghgnncmnoalaa", sum := "be2cf8bcbed5eabbcb8d2fb72178ca63322b50ecb4027f0abd6af50f81fa0ac7", func := "cobweb/cobweblaw14.RedoParses", spec := "redoParses", inPlace := ["internal/bytealg.abigen_runtime_cmpstring"], unfollowed := true, recurses := true, plainKeys := false, apart := false }
def RedoParsesSaid : Prop := redoParsesRow.holds Try.pinned (OpenSpec.ofChange redoParsesSpec)

/-- ITS FALSE NEIGHBOUR: 'it returns false'. Refute it at one input. -/
def redoParsesWrong : ChangeSpec := { name := "redoParses", fn := fun _ => fun
  | [d1, d2, d3] => { results := [.lit (.bool false)], args := [d1, d2, d3] }
  | _ => none }
def RedoParsesWrongFalsely : Prop := redoParsesRow.holds Try.pinned (OpenSpec.ofChange redoParsesWrong)

/-- 'cobweblaw13.SetsActs': WHATEVER THE INPUT: true; the input reads as it did. -/
def setsActsSpec : ChangeSpec := { name := "setsActs", fn := fun _ => fun
  | [d] => { results := [.lit (.bool true)], args := [d] }
  | _ => none }
def setsActsRow : OpenClaim := { program := "ytcghgnncmnoalaa", sum := "be2cf8bcbed5eabbcb8d2fb72178ca63322b50ecb4027f0abd6af50f81fa0ac7", func := "cobweb/cobweblaw13.SetsActs", spec := "setsActs", inPlace := ["internal/bytealg.abigen_runtime_cmpstring", "maps.clone"], unfollowed := true, recurses := true, plainKeys := false, apart := false }
def SetsActsSaid : Prop := setsActsRow.holds Try.pinned (OpenSpec.ofChange setsActsSpec)

/-- ITS FALSE NEIGHBOUR: 'it returns false'. Refute it at one input. -/
def setsActsWrong : ChangeSpec := { name := "setsActs", fn := fun _ => fun
  | [d] => { results := [.lit (.bool false)], args := [d] }
  | _ => none }
def SetsActsWrongFalsely : Prop := setsActsRow.holds Try.pinned (OpenSpec.ofChange setsActsWrong)

/-- 'cobweblaw13.SetsOverlay': WHATEVER THE INPUT: true; the input reads as it did. -/
def setsOverlaySpec : ChangeSpec := { name := "setsOverlay", fn := fun _ => fun
  | [d1, d2, d3] => { results := [.lit (.bool true)], args := [d1, d2, d3] }
  | _ => none }
def setsOverlayRow : OpenClaim := { program := "ytcghgnncmnoalaa", sum := "be2cf8bcbed5eabbcb8d2fb72178ca63322b50ecb4027f0abd6af50f81fa0ac7", func := "cobweb/cobweblaw13.SetsOverlay", spec := "setsOverlay", inPlace := ["internal/bytealg.abigen_runtime_cmpstring", "maps.clone"], unfollowed := true, recurses := true, plainKeys := false, apart := false }
def SetsOverlaySaid : Prop := setsOverlayRow.holds Try.pinned (OpenSpec.ofChange setsOverlaySpec)

/-- ITS FALSE NEIGHBOUR: 'it returns false'. Refute it at one input. -/
def setsOverlayWrong : ChangeSpec := { name := "setsOverlay", fn := fun _ => fun
  | [d1, d2, d3] => { results := [.lit (.bool false)], args := [d1, d2, d3] }
  | _ => none }
def SetsOverlayWrongFalsely : Prop := setsOverlayRow.holds Try.pinned (OpenSpec.ofChange setsOverlayWrong)

/-- 'cobweblaw13.SetsBack': WHATEVER THE INPUT: true; the input reads as it did. -/
def setsBackSpec : ChangeSpec := { name := "setsBack", fn := fun _ => fun
  | [d1, d2] => { results := [.lit (.bool true)], args := [d1, d2] }
  | _ => none }
def setsBackRow : OpenClaim := { program := "ytcghgnncmnoalaa", sum := "be2cf8bcbed5eabbcb8d2fb72178ca63322b50ecb4027f0abd6af50f81fa0ac7", func := "cobweb/cobweblaw13.SetsBack", spec := "setsBack", inPlace := ["internal/bytealg.abigen_runtime_cmpstring", "maps.clone"], unfollowed := true, recurses := true, plainKeys := false, apart := false }
def SetsBackSaid : Prop := setsBackRow.holds Try.pinned (OpenSpec.ofChange setsBackSpec)

/-- ITS FALSE NEIGHBOUR: 'it returns false'. Refute it at one input. -/
def setsBackWrong : ChangeSpec := { name := "setsBack", fn := fun _ => fun
  | [d1, d2] => { results := [.lit (.bool false)], args := [d1, d2] }
  | _ => none }
def SetsBackWrongFalsely : Prop := setsBackRow.holds Try.pinned (OpenSpec.ofChange setsBackWrong)

/-- 'cobweblaw15.JournalRooms': WHATEVER THE INPUT: true; the input reads as it did. -/
def journalRoomsSpec : ChangeSpec := { name := "journalRooms", fn := fun _ => fun
  | [d1, d2, d3] => { results := [.lit (.bool true)], args := [d1, d2, d3] }
  | _ => none }
def journalRoomsRow : OpenClaim := { program := "ytcghgnncmnoalaa", sum := "be2cf8bcbed5eabbcb8d2fb72178ca63322b50ecb4027f0abd6af50f81fa0ac7", func := "cobweb/cobweblaw15.JournalRooms", spec := "journalRooms", inPlace := ["internal/bytealg.abigen_runtime_cmpstring"], unfollowed := true, recurses := true, plainKeys := false, apart := false }
def JournalRoomsSaid : Prop := journalRoomsRow.holds Try.pinned (OpenSpec.ofChange journalRoomsSpec)

/-- ITS FALSE NEIGHBOUR: 'it returns false'. Refute it at one input. -/
def journalRoomsWrong : ChangeSpec := { name := "journalRooms", fn := fun _ => fun
  | [d1, d2, d3] => { results := [.lit (.bool false)], args := [d1, d2, d3] }
  | _ => none }
def JournalRoomsWrongFalsely : Prop := journalRoomsRow.holds Try.pinned (OpenSpec.ofChange journalRoomsWrong)

/-- 'cobweblaw15.JournalKeeps': WHATEVER THE INPUT: true; the input reads as it did. -/
def journalKeepsSpec : ChangeSpec := { name := "journalKeeps", fn := fun _ => fun
  | [d1, d2, d3] => { results := [.lit (.bool true)], args := [d1, d2, d3] }
  | _ => none }
def journalKeepsRow : OpenClaim := { program := "ytcghgnncmnoalaa", sum := "be2cf8bcbed5eabbcb8d2fb72178ca63322b50ecb4027f0abd6af50f81fa0ac7", func := "cobweb/cobweblaw15.JournalKeeps", spec := "journalKeeps", inPlace := ["internal/bytealg.abigen_runtime_cmpstring"], unfollowed := true, recurses := true, plainKeys := false, apart := false }
def JournalKeepsSaid : Prop := journalKeepsRow.holds Try.pinned (OpenSpec.ofChange journalKeepsSpec)

/-- ITS FALSE NEIGHBOUR: 'it returns false'. Refute it at one input. -/
def journalKeepsWrong : ChangeSpec := { name := "journalKeeps", fn := fun _ => fun
  | [d1, d2, d3] => { results := [.lit (.bool false)], args := [d1, d2, d3] }
  | _ => none }
def JournalKeepsWrongFalsely : Prop := journalKeepsRow.holds Try.pinned (OpenSpec.ofChange journalKeepsWrong)

/-- 'cobweblaw15.JournalAgain': WHATEVER THE INPUT: true; the input reads as it did. -/
def journalAgainSpec : ChangeSpec := { name := "journalAgain", fn := fun _ => fun
  | [d1, d2] => { results := [.lit (.bool true)], args := [d1, d2] }
  | _ => none }
def journalAgainRow : OpenClaim := { program := "ytcghgnncmnoalaa", sum := "be2cf8bcbed5eabbcb8d2fb72178ca63322b50ecb4027f0abd6af50f81fa0ac7", func := "cobweb/cobweblaw15.JournalAgain", spec := "journalAgain", inPlace := ["internal/bytealg.abigen_runtime_cmpstring"], unfollowed := true, recurses := true, plainKeys := false, apart := false }
def JournalAgainSaid : Prop := journalAgainRow.holds Try.pinned (OpenSpec.ofChange journalAgainSpec)

/-- ITS FALSE NEIGHBOUR: 'it returns false'. Refute it at one input. -/
def journalAgainWrong : ChangeSpec := { name := "journalAgain", fn := fun _ => fun
  | [d1, d2] => { results := [.lit (.bool false)], args := [d1, d2] }
  | _ => none }
def JournalAgainWrongFalsely : Prop := journalAgainRow.holds Try.pinned (OpenSpec.ofChange journalAgainWrong)

/-- 'cobweblaw15.JournalActs': WHATEVER THE INPUT: true; the input reads as it did. -/
def journalActsSpec : ChangeSpec := { name := "journalActs", fn := fun _ => fun
  | [d1, d2, d3] => { results := [.lit (.bool true)], args := [d1, d2, d3] }
  | _ => none }
def journalActsRow : OpenClaim := { program := "ytcghgnncmnoalaa", sum := "be2cf8bcbed5eabbcb8d2fb72178ca63322b50ecb4027f0abd6af50f81fa0ac7", func := "cobweb/cobweblaw15.JournalActs", spec := "journalActs", inPlace := ["internal/bytealg.abigen_runtime_cmpstring"], unfollowed := true, recurses := true, plainKeys := false, apart := false }
def JournalActsSaid : Prop := journalActsRow.holds Try.pinned (OpenSpec.ofChange journalActsSpec)

/-- ITS FALSE NEIGHBOUR: 'it returns false'. Refute it at one input. -/
def journalActsWrong : ChangeSpec := { name := "journalActs", fn := fun _ => fun
  | [d1, d2, d3] => { results := [.lit (.bool false)], args := [d1, d2, d3] }
  | _ => none }
def JournalActsWrongFalsely : Prop := journalActsRow.holds Try.pinned (OpenSpec.ofChange journalActsWrong)

/-- 'cobweblaw14.RedoReplays': WHATEVER THE INPUT: true; the input reads as it did. -/
def redoReplaysSpec : ChangeSpec := { name := "redoReplays", fn := fun _ => fun
  | [d1, d2] => { results := [.lit (.bool true)], args := [d1, d2] }
  | _ => none }
def redoReplaysRow : OpenClaim := { program := "ytcghgnncmnoalaa", sum := "be2cf8bcbed5eabbcb8d2fb72178ca63322b50ecb4027f0abd6af50f81fa0ac7", func := "cobweb/cobweblaw14.RedoReplays", spec := "redoReplays", inPlace := ["internal/bytealg.abigen_runtime_cmpstring"], unfollowed := true, recurses := true, plainKeys := false, apart := false }
def RedoReplaysSaid : Prop := redoReplaysRow.holds Try.pinned (OpenSpec.ofChange redoReplaysSpec)

/-- ITS FALSE NEIGHBOUR: 'it returns false'. Refute it at one input. -/
def redoReplaysWrong : ChangeSpec := { name := "redoReplays", fn := fun _ => fun
  | [d1, d2] => { results := [.lit (.bool false)], args := [d1, d2] }
  | _ => none }
def RedoReplaysWrongFalsely : Prop := redoReplaysRow.holds Try.pinned (OpenSpec.ofChange redoReplaysWrong)

/- THE SECOND FORM. 'bulk': how many values and letters a reading holds, each counted each time it is reached (what is shared counts as often as it is met; a slice's spare places count too). A statement '..UptoSaid' is the law's where the arguments, and the package variables that the reading takes, are together of bulk at most 1048576: NARROWER than '..Said'. Prove '..Said' where nothing that the law and all that it calls make is longer than what came in: it says more and counts as full. Else prove '..UptoSaid'. A law counts once. -/
mutual
def uptoBulk {H : Type} : DataW H → Nat
  | .lit (.string bytes) => bytes.length + 1
  | .lit _ => 1
  | .nil => 1
  | .ptr d => uptoBulk d + 1
  | .slice elems spare => uptoBulkAll elems + uptoBulkAll spare + 1
  | .agg parts => uptoBulkAll parts + 1
  | .iface _ d => uptoBulk d + 1
  | .map entries => uptoBulkEntries entries + 1
  | .held _ => 1
def uptoBulkAll {H : Type} : List (DataW H) → Nat
  | [] => 0
  | d :: r => uptoBulk d + uptoBulkAll r
def uptoBulkEntries {H : Type} : List (Lit × DataW H) → Nat
  | [] => 0
  | x :: r => uptoBulkEntry x + uptoBulkEntries r
def uptoBulkEntry {H : Type} : Lit × DataW H → Nat
  | (.string bytes, d) => bytes.length + uptoBulk d + 1
  | (_, d) => uptoBulk d + 1
 end
def uptoSmall : (H : Type) → List (DataW H) → Bool := fun _ ds => decide (uptoBulkAll ds ≤ 1048576)
def OpenSpec.upto (s : _root_.Go.ChangeSpec) : _root_.Go.OpenSpec := { _root_.Go.OpenSpec.ofChange s with cond := some uptoSmall }

/-- 'cobweblaw14.RedoRecovers', WHERE WHAT IT READS IS OF BULK AT MOST 1048576: true; the input reads as it did. -/
def redoRecoversUptoRow : OpenClaim := { program := "ytcghgnncmnoalaa", sum := "be2cf8bcbed5eabbcb8d2fb72178ca63322b50ecb4027f0abd6af50f81fa0ac7", func := "cobweb/cobweblaw14.RedoRecovers", spec := "redoRecovers", inPlace := ["internal/bytealg.abigen_runtime_cmpstring"], unfollowed := true, recurses := true, plainKeys := false, apart := false, narrowed := true }
def RedoRecoversUptoSaid : Prop := redoRecoversUptoRow.holds Try.pinned (OpenSpec.upto redoRecoversSpec)

/-- 'cobweblaw14.RedoCuts', WHERE WHAT IT READS IS OF BULK AT MOST 1048576: true; the input reads as it did. -/
def redoCutsUptoRow : OpenClaim := { program := "ytcghgnncmnoalaa", sum := "be2cf8bcbed5eabbcb8d2fb72178ca63322b50ecb4027f0abd6af50f81fa0ac7", func := "cobweb/cobweblaw14.RedoCuts", spec := "redoCuts", inPlace := ["internal/bytealg.abigen_runtime_cmpstring"], unfollowed := true, recurses := true, plainKeys := false, apart := false, narrowed := true }
def RedoCutsUptoSaid : Prop := redoCutsUptoRow.holds Try.pinned (OpenSpec.upto redoCutsSpec)

/-- 'cobweblaw14.RedoBack', WHERE WHAT IT READS IS OF BULK AT MOST 1048576: true; the input reads as it did. -/
def redoBackUptoRow : OpenClaim := { program := "ytcghgnncmnoalaa", sum := "be2cf8bcbed5eabbcb8d2fb72178ca63322b50ecb4027f0abd6af50f81fa0ac7", func := "cobweb/cobweblaw14.RedoBack", spec := "redoBack", inPlace := ["internal/bytealg.abigen_runtime_cmpstring"], unfollowed := true, recurses := true, plainKeys := false, apart := false, narrowed := true }
def RedoBackUptoSaid : Prop := redoBackUptoRow.holds Try.pinned (OpenSpec.upto redoBackSpec)

/-- 'cobweblaw14.RedoParses', WHERE WHAT IT READS IS OF BULK AT MOST 1048576: true; the input reads as it did. -/
def redoParsesUptoRow : OpenClaim := { program := "ytcghgnncmnoalaa", sum := "be2cf8bcbed5eabbcb8d2fb72178ca63322b50ecb4027f0abd6af50f81fa0ac7", func := "cobweb/cobweblaw14.RedoParses", spec := "redoParses", inPlace := ["internal/bytealg.abigen_runtime_cmpstring"], unfollowed := true, recurses := true, plainKeys := false, apart := false, narrowed := true }
def RedoParsesUptoSaid : Prop := redoParsesUptoRow.holds Try.pinned (OpenSpec.upto redoParsesSpec)

/-- 'cobweblaw13.SetsActs', WHERE WHAT IT READS IS OF BULK AT MOST 1048576: true; the input reads as it did. -/
def setsActsUptoRow : OpenClaim := { program := "ytcghgnncmnoalaa", sum := "be2cf8bcbed5eabbcb8d2fb72178ca63322b50ecb4027f0abd6af50f81fa0ac7", func := "cobweb/cobweblaw13.SetsActs", spec := "setsActs", inPlace := ["internal/bytealg.abigen_runtime_cmpstring", "maps.clone"], unfollowed := true, recurses := true, plainKeys := false, apart := false, narrowed := true }
def SetsActsUptoSaid : Prop := setsActsUptoRow.holds Try.pinned (OpenSpec.upto setsActsSpec)

/-- 'cobweblaw13.SetsOverlay', WHERE WHAT IT READS IS OF BULK AT MOST 1048576: true; the input reads as it did. -/
def setsOverlayUptoRow : OpenClaim := { program := "ytcghgnncmnoalaa", sum := "be2cf8bcbed5eabbcb8d2fb72178ca63322b50ecb4027f0abd6af50f81fa0ac7", func := "cobweb/cobweblaw13.SetsOverlay", spec := "setsOverlay", inPlace := ["internal/bytealg.abigen_runtime_cmpstring", "maps.clone"], unfollowed := true, recurses := true, plainKeys := false, apart := false, narrowed := true }
def SetsOverlayUptoSaid : Prop := setsOverlayUptoRow.holds Try.pinned (OpenSpec.upto setsOverlaySpec)

/-- 'cobweblaw13.SetsBack', WHERE WHAT IT READS IS OF BULK AT MOST 1048576: true; the input reads as it did. -/
def setsBackUptoRow : OpenClaim := { program := "ytcghgnncmnoalaa", sum := "be2cf8bcbed5eabbcb8d2fb72178ca63322b50ecb4027f0abd6af50f81fa0ac7", func := "cobweb/cobweblaw13.SetsBack", spec := "setsBack", inPlace := ["internal/bytealg.abigen_runtime_cmpstring", "maps.clone"], unfollowed := true, recurses := true, plainKeys := false, apart := false, narrowed := true }
def SetsBackUptoSaid : Prop := setsBackUptoRow.holds Try.pinned (OpenSpec.upto setsBackSpec)

/-- 'cobweblaw15.JournalRooms', WHERE WHAT IT READS IS OF BULK AT MOST 1048576: true; the input reads as it did. -/
def journalRoomsUptoRow : OpenClaim := { program := "ytcghgnncmnoalaa", sum := "be2cf8bcbed5eabbcb8d2fb72178ca63322b50ecb4027f0abd6af50f81fa0ac7", func := "cobweb/cobweblaw15.JournalRooms", spec := "journalRooms", inPlace := ["internal/bytealg.abigen_runtime_cmpstring"], unfollowed := true, recurses := true, plainKeys := false, apart := false, narrowed := true }
def JournalRoomsUptoSaid : Prop := journalRoomsUptoRow.holds Try.pinned (OpenSpec.upto journalRoomsSpec)

/-- 'cobweblaw15.JournalKeeps', WHERE WHAT IT READS IS OF BULK AT MOST 1048576: true; the input reads as it did. -/
def journalKeepsUptoRow : OpenClaim := { program := "ytcghgnncmnoalaa", sum := "be2cf8bcbed5eabbcb8d2fb72178ca63322b50ecb4027f0abd6af50f81fa0ac7", func := "cobweb/cobweblaw15.JournalKeeps", spec := "journalKeeps", inPlace := ["internal/bytealg.abigen_runtime_cmpstring"], unfollowed := true, recurses := true, plainKeys := false, apart := false, narrowed := true }
def JournalKeepsUptoSaid : Prop := journalKeepsUptoRow.holds Try.pinned (OpenSpec.upto journalKeepsSpec)

/-- 'cobweblaw15.JournalAgain', WHERE WHAT IT READS IS OF BULK AT MOST 1048576: true; the input reads as it did. -/
def journalAgainUptoRow : OpenClaim := { program := "ytcghgnncmnoalaa", sum := "be2cf8bcbed5eabbcb8d2fb72178ca63322b50ecb4027f0abd6af50f81fa0ac7", func := "cobweb/cobweblaw15.JournalAgain", spec := "journalAgain", inPlace := ["internal/bytealg.abigen_runtime_cmpstring"], unfollowed := true, recurses := true, plainKeys := false, apart := false, narrowed := true }
def JournalAgainUptoSaid : Prop := journalAgainUptoRow.holds Try.pinned (OpenSpec.upto journalAgainSpec)

/-- 'cobweblaw15.JournalActs', WHERE WHAT IT READS IS OF BULK AT MOST 1048576: true; the input reads as it did. -/
def journalActsUptoRow : OpenClaim := { program := "ytcghgnncmnoalaa", sum := "be2cf8bcbed5eabbcb8d2fb72178ca63322b50ecb4027f0abd6af50f81fa0ac7", func := "cobweb/cobweblaw15.JournalActs", spec := "journalActs", inPlace := ["internal/bytealg.abigen_runtime_cmpstring"], unfollowed := true, recurses := true, plainKeys := false, apart := false, narrowed := true }
def JournalActsUptoSaid : Prop := journalActsUptoRow.holds Try.pinned (OpenSpec.upto journalActsSpec)

/-- 'cobweblaw14.RedoReplays', WHERE WHAT IT READS IS OF BULK AT MOST 1048576: true; the input reads as it did. -/
def redoReplaysUptoRow : OpenClaim := { program := "ytcghgnncmnoalaa", sum := "be2cf8bcbed5eabbcb8d2fb72178ca63322b50ecb4027f0abd6af50f81fa0ac7", func := "cobweb/cobweblaw14.RedoReplays", spec := "redoReplays", inPlace := ["internal/bytealg.abigen_runtime_cmpstring"], unfollowed := true, recurses := true, plainKeys := false, apart := false, narrowed := true }
def RedoReplaysUptoSaid : Prop := redoReplaysUptoRow.holds Try.pinned (OpenSpec.upto redoReplaysSpec)

end Rows
end Go.Proofs.Ytcghgnncmnoalaa
