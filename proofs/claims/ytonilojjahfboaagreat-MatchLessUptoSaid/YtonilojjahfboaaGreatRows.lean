/-
  No cell of these rows narrows 'for every input' (looked for: loops, veiled, ifaces, maps, wideKeys, modest, calm, conditions, laid).
  DERIVED. THE GIVEN ROWS OF THIS SEAT. 11 by the template 'for every input the law returns true; each argument reads behind the call as it read before'; 0 by the template 'total and deterministic' (their statements: YtonilojjahfboaaGreatTotals.lean).
  GIVEN WITH THE SEED: the statements are not yours to turn. If you find one false, say at which input.
  Laid BY PROGRAM, IN A SANDBOX (cutbox-rows.mjs): the forced cells as the released guide's own fill.sh prints them over the translation 82f38a1c9c347efc… (all of the seat's roots in one cut). By AI agents, Wed Nov 11 2026. No macro, syntax, notation, axiom, sorry.
-/
import Derived.Test.YtonilojjahfboaaGreatChecked
import GoSem.Claim
import GoSem.ClaimJoined
import GoSem.ClaimMapViews
import Derived.JoinedTies
import Derived.KernelRfl
namespace Go.Proofs.YtonilojjahfboaaGreat
/- THE CELL 'sum', in the pinned program and in every row, IS THE sha256 OF THE DUMP (.gsa) THAT YtonilojjahfboaaGreatProg.lean LOADS. Nothing in Lean hashes anything: it is a label: what it is worth is what the hold of that sum in a sandbox is worth. -/
noncomputable def Tryz.pinned : Pinned := { name := "ytonilojjahfboaagreat", sum := "82f38a1c9c347efce8b06c8bd547e45b25819f490a57420b7caa9c6fcc1252ee", checked := Tryz.checked }
namespace Rows
def none {H : Type} : Left H := { results := [], args := [] }

/-- 'cobweblaw16.GraphEnds': WHATEVER THE INPUT: true; the input reads as it did. -/
def graphEndsSpec : ChangeSpec := { name := "graphEnds", fn := fun _ => fun
  | [d] => { results := [.lit (.bool true)], args := [d] }
  | _ => none }
def graphEndsRow : OpenClaim := { program := "ytonilojjahfboaagreat", sum := "82f38a1c9c347efce8b06c8bd547e45b25819f490a57420b7caa9c6fcc1252ee", func := "cobweb/cobweblaw16.GraphEnds", spec := "graphEnds", inPlace := ["slices.overlaps[cobweb/api.Prop]"], unfollowed := true, recurses := true, plainKeys := false, apart := false }
def GraphEndsSaid : Prop := graphEndsRow.holds Tryz.pinned (OpenSpec.ofChange graphEndsSpec)

/-- ITS FALSE NEIGHBOUR: 'it returns false'. Refute it at one input. -/
def graphEndsWrong : ChangeSpec := { name := "graphEnds", fn := fun _ => fun
  | [d] => { results := [.lit (.bool false)], args := [d] }
  | _ => none }
def GraphEndsWrongFalsely : Prop := graphEndsRow.holds Tryz.pinned (OpenSpec.ofChange graphEndsWrong)

/-- 'cobweblaw20.OccActs': WHATEVER THE INPUT: true; the input reads as it did. -/
def occActsSpec : ChangeSpec := { name := "occActs", fn := fun _ => fun
  | [d1, d2] => { results := [.lit (.bool true)], args := [d1, d2] }
  | _ => none }
def occActsRow : OpenClaim := { program := "ytonilojjahfboaagreat", sum := "82f38a1c9c347efce8b06c8bd547e45b25819f490a57420b7caa9c6fcc1252ee", func := "cobweb/cobweblaw20.OccActs", spec := "occActs", inPlace := ["internal/bytealg.abigen_runtime_cmpstring", "maps.clone"], unfollowed := true, recurses := true, plainKeys := false, apart := false }
def OccActsSaid : Prop := occActsRow.holds Tryz.pinned (OpenSpec.ofChange occActsSpec)

/-- ITS FALSE NEIGHBOUR: 'it returns false'. Refute it at one input. -/
def occActsWrong : ChangeSpec := { name := "occActs", fn := fun _ => fun
  | [d1, d2] => { results := [.lit (.bool false)], args := [d1, d2] }
  | _ => none }
def OccActsWrongFalsely : Prop := occActsRow.holds Tryz.pinned (OpenSpec.ofChange occActsWrong)

/-- 'cobweblaw17.WalkMore': WHATEVER THE INPUT: true; the input reads as it did. -/
def walkMoreSpec : ChangeSpec := { name := "walkMore", fn := fun _ => fun
  | [d1, d2, d3] => { results := [.lit (.bool true)], args := [d1, d2, d3] }
  | _ => none }
def walkMoreRow : OpenClaim := { program := "ytonilojjahfboaagreat", sum := "82f38a1c9c347efce8b06c8bd547e45b25819f490a57420b7caa9c6fcc1252ee", func := "cobweb/cobweblaw17.WalkMore", spec := "walkMore", unfollowed := true, recurses := true, plainKeys := false, apart := false }
def WalkMoreSaid : Prop := walkMoreRow.holds Tryz.pinned (OpenSpec.ofChange walkMoreSpec)

/-- ITS FALSE NEIGHBOUR: 'it returns false'. Refute it at one input. -/
def walkMoreWrong : ChangeSpec := { name := "walkMore", fn := fun _ => fun
  | [d1, d2, d3] => { results := [.lit (.bool false)], args := [d1, d2, d3] }
  | _ => none }
def WalkMoreWrongFalsely : Prop := walkMoreRow.holds Tryz.pinned (OpenSpec.ofChange walkMoreWrong)

/-- 'cobweblaw17.WalkActs': WHATEVER THE INPUT: true; the input reads as it did. -/
def walkActsSpec : ChangeSpec := { name := "walkActs", fn := fun _ => fun
  | [d1, d2, d3] => { results := [.lit (.bool true)], args := [d1, d2, d3] }
  | _ => none }
def walkActsRow : OpenClaim := { program := "ytonilojjahfboaagreat", sum := "82f38a1c9c347efce8b06c8bd547e45b25819f490a57420b7caa9c6fcc1252ee", func := "cobweb/cobweblaw17.WalkActs", spec := "walkActs", inPlace := ["internal/bytealg.abigen_runtime_cmpstring"], unfollowed := true, recurses := true, plainKeys := false, apart := false }
def WalkActsSaid : Prop := walkActsRow.holds Tryz.pinned (OpenSpec.ofChange walkActsSpec)

/-- ITS FALSE NEIGHBOUR: 'it returns false'. Refute it at one input. -/
def walkActsWrong : ChangeSpec := { name := "walkActs", fn := fun _ => fun
  | [d1, d2, d3] => { results := [.lit (.bool false)], args := [d1, d2, d3] }
  | _ => none }
def WalkActsWrongFalsely : Prop := walkActsRow.holds Tryz.pinned (OpenSpec.ofChange walkActsWrong)

/-- 'cobweblaw18.MatchSteps': WHATEVER THE INPUT: true; the input reads as it did. -/
def matchStepsSpec : ChangeSpec := { name := "matchSteps", fn := fun _ => fun
  | [d1, d2, d3] => { results := [.lit (.bool true)], args := [d1, d2, d3] }
  | _ => none }
def matchStepsRow : OpenClaim := { program := "ytonilojjahfboaagreat", sum := "82f38a1c9c347efce8b06c8bd547e45b25819f490a57420b7caa9c6fcc1252ee", func := "cobweb/cobweblaw18.MatchSteps", spec := "matchSteps", unfollowed := true, recurses := true, plainKeys := false, apart := false }
def MatchStepsSaid : Prop := matchStepsRow.holds Tryz.pinned (OpenSpec.ofChange matchStepsSpec)

/-- ITS FALSE NEIGHBOUR: 'it returns false'. Refute it at one input. -/
def matchStepsWrong : ChangeSpec := { name := "matchSteps", fn := fun _ => fun
  | [d1, d2, d3] => { results := [.lit (.bool false)], args := [d1, d2, d3] }
  | _ => none }
def MatchStepsWrongFalsely : Prop := matchStepsRow.holds Tryz.pinned (OpenSpec.ofChange matchStepsWrong)

/-- 'cobweblaw18.MatchTurns': WHATEVER THE INPUT: true; the input reads as it did. -/
def matchTurnsSpec : ChangeSpec := { name := "matchTurns", fn := fun _ => fun
  | [d1, d2, d3] => { results := [.lit (.bool true)], args := [d1, d2, d3] }
  | _ => none }
def matchTurnsRow : OpenClaim := { program := "ytonilojjahfboaagreat", sum := "82f38a1c9c347efce8b06c8bd547e45b25819f490a57420b7caa9c6fcc1252ee", func := "cobweb/cobweblaw18.MatchTurns", spec := "matchTurns", unfollowed := true, recurses := true, plainKeys := false, apart := false }
def MatchTurnsSaid : Prop := matchTurnsRow.holds Tryz.pinned (OpenSpec.ofChange matchTurnsSpec)

/-- ITS FALSE NEIGHBOUR: 'it returns false'. Refute it at one input. -/
def matchTurnsWrong : ChangeSpec := { name := "matchTurns", fn := fun _ => fun
  | [d1, d2, d3] => { results := [.lit (.bool false)], args := [d1, d2, d3] }
  | _ => none }
def MatchTurnsWrongFalsely : Prop := matchTurnsRow.holds Tryz.pinned (OpenSpec.ofChange matchTurnsWrong)

/-- 'cobweblaw18.MatchLess': WHATEVER THE INPUT: true; the input reads as it did. -/
def matchLessSpec : ChangeSpec := { name := "matchLess", fn := fun _ => fun
  | [d1, d2, d3] => { results := [.lit (.bool true)], args := [d1, d2, d3] }
  | _ => none }
def matchLessRow : OpenClaim := { program := "ytonilojjahfboaagreat", sum := "82f38a1c9c347efce8b06c8bd547e45b25819f490a57420b7caa9c6fcc1252ee", func := "cobweb/cobweblaw18.MatchLess", spec := "matchLess", unfollowed := true, recurses := true, plainKeys := false, apart := false }
def MatchLessSaid : Prop := matchLessRow.holds Tryz.pinned (OpenSpec.ofChange matchLessSpec)

/-- ITS FALSE NEIGHBOUR: 'it returns false'. Refute it at one input. -/
def matchLessWrong : ChangeSpec := { name := "matchLess", fn := fun _ => fun
  | [d1, d2, d3] => { results := [.lit (.bool false)], args := [d1, d2, d3] }
  | _ => none }
def MatchLessWrongFalsely : Prop := matchLessRow.holds Tryz.pinned (OpenSpec.ofChange matchLessWrong)

/-- 'cobweblaw18.MatchRuns': WHATEVER THE INPUT: true; the input reads as it did. -/
def matchRunsSpec : ChangeSpec := { name := "matchRuns", fn := fun _ => fun
  | [d1, d2, d3] => { results := [.lit (.bool true)], args := [d1, d2, d3] }
  | _ => none }
def matchRunsRow : OpenClaim := { program := "ytonilojjahfboaagreat", sum := "82f38a1c9c347efce8b06c8bd547e45b25819f490a57420b7caa9c6fcc1252ee", func := "cobweb/cobweblaw18.MatchRuns", spec := "matchRuns", unfollowed := true, recurses := true, plainKeys := false, apart := false }
def MatchRunsSaid : Prop := matchRunsRow.holds Tryz.pinned (OpenSpec.ofChange matchRunsSpec)

/-- ITS FALSE NEIGHBOUR: 'it returns false'. Refute it at one input. -/
def matchRunsWrong : ChangeSpec := { name := "matchRuns", fn := fun _ => fun
  | [d1, d2, d3] => { results := [.lit (.bool false)], args := [d1, d2, d3] }
  | _ => none }
def MatchRunsWrongFalsely : Prop := matchRunsRow.holds Tryz.pinned (OpenSpec.ofChange matchRunsWrong)

/-- 'cobweblaw16.GraphFinds': WHATEVER THE INPUT: true; the input reads as it did. -/
def graphFindsSpec : ChangeSpec := { name := "graphFinds", fn := fun _ => fun
  | [d1, d2] => { results := [.lit (.bool true)], args := [d1, d2] }
  | _ => none }
def graphFindsRow : OpenClaim := { program := "ytonilojjahfboaagreat", sum := "82f38a1c9c347efce8b06c8bd547e45b25819f490a57420b7caa9c6fcc1252ee", func := "cobweb/cobweblaw16.GraphFinds", spec := "graphFinds", inPlace := ["slices.overlaps[cobweb/api.Prop]", "internal/bytealg.abigen_runtime_cmpstring"], unfollowed := true, recurses := true, plainKeys := false, apart := false }
def GraphFindsSaid : Prop := graphFindsRow.holds Tryz.pinned (OpenSpec.ofChange graphFindsSpec)

/-- ITS FALSE NEIGHBOUR: 'it returns false'. Refute it at one input. -/
def graphFindsWrong : ChangeSpec := { name := "graphFinds", fn := fun _ => fun
  | [d1, d2] => { results := [.lit (.bool false)], args := [d1, d2] }
  | _ => none }
def GraphFindsWrongFalsely : Prop := graphFindsRow.holds Tryz.pinned (OpenSpec.ofChange graphFindsWrong)

/-- 'cobweblaw16.GraphActs': WHATEVER THE INPUT: true; the input reads as it did. -/
def graphActsSpec : ChangeSpec := { name := "graphActs", fn := fun _ => fun
  | [d1, d2, d3] => { results := [.lit (.bool true)], args := [d1, d2, d3] }
  | _ => none }
def graphActsRow : OpenClaim := { program := "ytonilojjahfboaagreat", sum := "82f38a1c9c347efce8b06c8bd547e45b25819f490a57420b7caa9c6fcc1252ee", func := "cobweb/cobweblaw16.GraphActs", spec := "graphActs", inPlace := ["maps.clone", "slices.overlaps[cobweb/api.Prop]", "internal/bytealg.abigen_runtime_cmpstring"], unfollowed := true, recurses := true, plainKeys := false, apart := false }
def GraphActsSaid : Prop := graphActsRow.holds Tryz.pinned (OpenSpec.ofChange graphActsSpec)

/-- ITS FALSE NEIGHBOUR: 'it returns false'. Refute it at one input. -/
def graphActsWrong : ChangeSpec := { name := "graphActs", fn := fun _ => fun
  | [d1, d2, d3] => { results := [.lit (.bool false)], args := [d1, d2, d3] }
  | _ => none }
def GraphActsWrongFalsely : Prop := graphActsRow.holds Tryz.pinned (OpenSpec.ofChange graphActsWrong)

/-- 'cobweblaw21.WebSounds': WHATEVER THE INPUT: true; the input reads as it did. -/
def webSoundsSpec : ChangeSpec := { name := "webSounds", fn := fun _ => fun
  | [d1, d2] => { results := [.lit (.bool true)], args := [d1, d2] }
  | _ => none }
def webSoundsRow : OpenClaim := { program := "ytonilojjahfboaagreat", sum := "82f38a1c9c347efce8b06c8bd547e45b25819f490a57420b7caa9c6fcc1252ee", func := "cobweb/cobweblaw21.WebSounds", spec := "webSounds", inPlace := ["internal/bytealg.abigen_runtime_cmpstring"], unfollowed := true, recurses := true, plainKeys := false, apart := false }
def WebSoundsSaid : Prop := webSoundsRow.holds Tryz.pinned (OpenSpec.ofChange webSoundsSpec)

/-- ITS FALSE NEIGHBOUR: 'it returns false'. Refute it at one input. -/
def webSoundsWrong : ChangeSpec := { name := "webSounds", fn := fun _ => fun
  | [d1, d2] => { results := [.lit (.bool false)], args := [d1, d2] }
  | _ => none }
def WebSoundsWrongFalsely : Prop := webSoundsRow.holds Tryz.pinned (OpenSpec.ofChange webSoundsWrong)

/- THE SECOND FORM. 'bulk': how many values and letters a reading holds, each counted each time it is reached (what is shared counts as often as it is met; a slice's spare places count too). A statement '..UptoSaid' is the law's where the arguments, and the package variables that the reading takes, are together of bulk at most 1048576: NARROWER than '..Said'. Prove '..Said' where nothing that the law and all that it calls make is longer than what came in: it says more and counts as full. Else prove '..UptoSaid'. A law counts once. -/
mutual
def uptoBulk {H : Type} : DataW H → Nat
  | .lit (.string bytes) => bytes.length + 1
  | .lit _ => 1
  | .nil => 1
  | .ptr d => uptoBulk d + 1
  | .slice elems spare => uptoBulkAll elems + uptoBulkAll spare + 1
  | .agg parts => uptoBulkAll parts + 1
  | .iface _ d => uptoBulk d + 1
  | .map entries => uptoBulkEntries entries + 1
  | .held _ => 1
def uptoBulkAll {H : Type} : List (DataW H) → Nat
  | [] => 0
  | d :: r => uptoBulk d + uptoBulkAll r
def uptoBulkEntries {H : Type} : List (Lit × DataW H) → Nat
  | [] => 0
  | x :: r => uptoBulkEntry x + uptoBulkEntries r
def uptoBulkEntry {H : Type} : Lit × DataW H → Nat
  | (.string bytes, d) => bytes.length + uptoBulk d + 1
  | (_, d) => uptoBulk d + 1
 end
def uptoSmall : (H : Type) → List (DataW H) → Bool := fun _ ds => decide (uptoBulkAll ds ≤ 1048576)
def OpenSpec.upto (s : _root_.Go.ChangeSpec) : _root_.Go.OpenSpec := { _root_.Go.OpenSpec.ofChange s with cond := some uptoSmall }

/-- 'cobweblaw16.GraphEnds', WHERE WHAT IT READS IS OF BULK AT MOST 1048576: true; the input reads as it did. -/
def graphEndsUptoRow : OpenClaim := { program := "ytonilojjahfboaagreat", sum := "82f38a1c9c347efce8b06c8bd547e45b25819f490a57420b7caa9c6fcc1252ee", func := "cobweb/cobweblaw16.GraphEnds", spec := "graphEnds", inPlace := ["slices.overlaps[cobweb/api.Prop]"], unfollowed := true, recurses := true, plainKeys := false, apart := false, narrowed := true }
def GraphEndsUptoSaid : Prop := graphEndsUptoRow.holds Tryz.pinned (OpenSpec.upto graphEndsSpec)

/-- 'cobweblaw20.OccActs', WHERE WHAT IT READS IS OF BULK AT MOST 1048576: true; the input reads as it did. -/
def occActsUptoRow : OpenClaim := { program := "ytonilojjahfboaagreat", sum := "82f38a1c9c347efce8b06c8bd547e45b25819f490a57420b7caa9c6fcc1252ee", func := "cobweb/cobweblaw20.OccActs", spec := "occActs", inPlace := ["internal/bytealg.abigen_runtime_cmpstring", "maps.clone"], unfollowed := true, recurses := true, plainKeys := false, apart := false, narrowed := true }
def OccActsUptoSaid : Prop := occActsUptoRow.holds Tryz.pinned (OpenSpec.upto occActsSpec)

/-- 'cobweblaw17.WalkMore', WHERE WHAT IT READS IS OF BULK AT MOST 1048576: true; the input reads as it did. -/
def walkMoreUptoRow : OpenClaim := { program := "ytonilojjahfboaagreat", sum := "82f38a1c9c347efce8b06c8bd547e45b25819f490a57420b7caa9c6fcc1252ee", func := "cobweb/cobweblaw17.WalkMore", spec := "walkMore", unfollowed := true, recurses := true, plainKeys := false, apart := false, narrowed := true }
def WalkMoreUptoSaid : Prop := walkMoreUptoRow.holds Tryz.pinned (OpenSpec.upto walkMoreSpec)

/-- 'cobweblaw17.WalkActs', WHERE WHAT IT READS IS OF BULK AT MOST 1048576: true; the input reads as it did. -/
def walkActsUptoRow : OpenClaim := { program := "ytonilojjahfboaagreat", sum := "82f38a1c9c347efce8b06c8bd547e45b25819f490a57420b7caa9c6fcc1252ee", func := "cobweb/cobweblaw17.WalkActs", spec := "walkActs", inPlace := ["internal/bytealg.abigen_runtime_cmpstring"], unfollowed := true, recurses := true, plainKeys := false, apart := false, narrowed := true }
def WalkActsUptoSaid : Prop := walkActsUptoRow.holds Tryz.pinned (OpenSpec.upto walkActsSpec)

/-- 'cobweblaw18.MatchSteps', WHERE WHAT IT READS IS OF BULK AT MOST 1048576: true; the input reads as it did. -/
def matchStepsUptoRow : OpenClaim := { program := "ytonilojjahfboaagreat", sum := "82f38a1c9c347efce8b06c8bd547e45b25819f490a57420b7caa9c6fcc1252ee", func := "cobweb/cobweblaw18.MatchSteps", spec := "matchSteps", unfollowed := true, recurses := true, plainKeys := false, apart := false, narrowed := true }
def MatchStepsUptoSaid : Prop := matchStepsUptoRow.holds Tryz.pinned (OpenSpec.upto matchStepsSpec)

/-- 'cobweblaw18.MatchTurns', WHERE WHAT IT READS IS OF BULK AT MOST 1048576: true; the input reads as it did. -/
def matchTurnsUptoRow : OpenClaim := { program := "ytonilojjahfboaagreat", sum := "82f38a1c9c347efce8b06c8bd547e45b25819f490a57420b7caa9c6fcc1252ee", func := "cobweb/cobweblaw18.MatchTurns", spec := "matchTurns", unfollowed := true, recurses := true, plainKeys := false, apart := false, narrowed := true }
def MatchTurnsUptoSaid : Prop := matchTurnsUptoRow.holds Tryz.pinned (OpenSpec.upto matchTurnsSpec)

/-- 'cobweblaw18.MatchLess', WHERE WHAT IT READS IS OF BULK AT MOST 1048576: true; the input reads as it did. -/
def matchLessUptoRow : OpenClaim := { program := "ytonilojjahfboaagreat", sum := "82f38a1c9c347efce8b06c8bd547e45b25819f490a57420b7caa9c6fcc1252ee", func := "cobweb/cobweblaw18.MatchLess", spec := "matchLess", unfollowed := true, recurses := true, plainKeys := false, apart := false, narrowed := true }
def MatchLessUptoSaid : Prop := matchLessUptoRow.holds Tryz.pinned (OpenSpec.upto matchLessSpec)

/-- 'cobweblaw18.MatchRuns', WHERE WHAT IT READS IS OF BULK AT MOST 1048576: true; the input reads as it did. -/
def matchRunsUptoRow : OpenClaim := { program := "ytonilojjahfboaagreat", sum := "82f38a1c9c347efce8b06c8bd547e45b25819f490a57420b7caa9c6fcc1252ee", func := "cobweb/cobweblaw18.MatchRuns", spec := "matchRuns", unfollowed := true, recurses := true, plainKeys := false, apart := false, narrowed := true }
def MatchRunsUptoSaid : Prop := matchRunsUptoRow.holds Tryz.pinned (OpenSpec.upto matchRunsSpec)

/-- 'cobweblaw16.GraphFinds', WHERE WHAT IT READS IS OF BULK AT MOST 1048576: true; the input reads as it did. -/
def graphFindsUptoRow : OpenClaim := { program := "ytonilojjahfboaagreat", sum := "82f38a1c9c347efce8b06c8bd547e45b25819f490a57420b7caa9c6fcc1252ee", func := "cobweb/cobweblaw16.GraphFinds", spec := "graphFinds", inPlace := ["slices.overlaps[cobweb/api.Prop]", "internal/bytealg.abigen_runtime_cmpstring"], unfollowed := true, recurses := true, plainKeys := false, apart := false, narrowed := true }
def GraphFindsUptoSaid : Prop := graphFindsUptoRow.holds Tryz.pinned (OpenSpec.upto graphFindsSpec)

/-- 'cobweblaw16.GraphActs', WHERE WHAT IT READS IS OF BULK AT MOST 1048576: true; the input reads as it did. -/
def graphActsUptoRow : OpenClaim := { program := "ytonilojjahfboaagreat", sum := "82f38a1c9c347efce8b06c8bd547e45b25819f490a57420b7caa9c6fcc1252ee", func := "cobweb/cobweblaw16.GraphActs", spec := "graphActs", inPlace := ["maps.clone", "slices.overlaps[cobweb/api.Prop]", "internal/bytealg.abigen_runtime_cmpstring"], unfollowed := true, recurses := true, plainKeys := false, apart := false, narrowed := true }
def GraphActsUptoSaid : Prop := graphActsUptoRow.holds Tryz.pinned (OpenSpec.upto graphActsSpec)

/-- 'cobweblaw21.WebSounds', WHERE WHAT IT READS IS OF BULK AT MOST 1048576: true; the input reads as it did. -/
def webSoundsUptoRow : OpenClaim := { program := "ytonilojjahfboaagreat", sum := "82f38a1c9c347efce8b06c8bd547e45b25819f490a57420b7caa9c6fcc1252ee", func := "cobweb/cobweblaw21.WebSounds", spec := "webSounds", inPlace := ["internal/bytealg.abigen_runtime_cmpstring"], unfollowed := true, recurses := true, plainKeys := false, apart := false, narrowed := true }
def WebSoundsUptoSaid : Prop := webSoundsUptoRow.holds Tryz.pinned (OpenSpec.upto webSoundsSpec)

end Rows
end Go.Proofs.YtonilojjahfboaaGreat
