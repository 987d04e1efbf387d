/-
  No cell of these rows narrows 'for every input' (looked for: loops, veiled, ifaces, maps, wideKeys, modest, calm, conditions, laid).
  DERIVED. THE GIVEN ROWS OF THIS SEAT. 4 by the template 'for every input the law returns true; each argument reads behind the call as it read before'; 0 by the template 'total and deterministic' (their statements: YtcafedfldmcbiaaTotals.lean).
  GIVEN WITH THE SEED: the statements are not yours to turn. If you find one false, say at which input.
  Laid BY PROGRAM, IN A SANDBOX (cutbox-rows.mjs): the forced cells as the released guide's own fill.sh prints them over the translation a7b822418ece2f3d… (all of the seat's roots in one cut). By AI agents, Wed Nov 11 2026. No macro, syntax, notation, axiom, sorry.
-/
import Derived.Test.YtcafedfldmcbiaaChecked
import GoSem.Claim
import GoSem.ClaimJoined
import GoSem.ClaimMapViews
import Derived.JoinedTies
import Derived.KernelRfl
namespace Go.Proofs.Ytcafedfldmcbiaa
/- THE CELL 'sum', in the pinned program and in every row, IS THE sha256 OF THE DUMP (.gsa) THAT YtcafedfldmcbiaaProg.lean LOADS. Nothing in Lean hashes anything: it is a label: what it is worth is what the hold of that sum in a sandbox is worth. -/
noncomputable def Try.pinned : Pinned := { name := "ytcafedfldmcbiaa", sum := "a7b822418ece2f3d973b7e27b0cdbd9ee42b36542bd3f0149117f4d90a66aa2a", checked := Try.checked }
namespace Rows
def none {H : Type} : Left H := { results := [], args := [] }

/-- 'cobweblaw21.WebApart': WHATEVER THE INPUT: true; the input reads as it did. -/
def webApartSpec : ChangeSpec := { name := "webApart", fn := fun _ => fun
  | [d1, d2, d3] => { results := [.lit (.bool true)], args := [d1, d2, d3] }
  | _ => none }
def webApartRow : OpenClaim := { program := "ytcafedfldmcbiaa", sum := "a7b822418ece2f3d973b7e27b0cdbd9ee42b36542bd3f0149117f4d90a66aa2a", func := "cobweb/cobweblaw21.WebApart", spec := "webApart", unfollowed := true, recurses := true, apart := false }
def WebApartSaid : Prop := webApartRow.holds Try.pinned (OpenSpec.ofChange webApartSpec)

/-- ITS FALSE NEIGHBOUR: 'it returns false'. Refute it at one input. -/
def webApartWrong : ChangeSpec := { name := "webApart", fn := fun _ => fun
  | [d1, d2, d3] => { results := [.lit (.bool false)], args := [d1, d2, d3] }
  | _ => none }
def WebApartWrongFalsely : Prop := webApartRow.holds Try.pinned (OpenSpec.ofChange webApartWrong)

/-- 'cobweblaw21.WebSpans': WHATEVER THE INPUT: true; the input reads as it did. -/
def webSpansSpec : ChangeSpec := { name := "webSpans", fn := fun _ => fun
  | [d1, d2, d3] => { results := [.lit (.bool true)], args := [d1, d2, d3] }
  | _ => none }
def webSpansRow : OpenClaim := { program := "ytcafedfldmcbiaa", sum := "a7b822418ece2f3d973b7e27b0cdbd9ee42b36542bd3f0149117f4d90a66aa2a", func := "cobweb/cobweblaw21.WebSpans", spec := "webSpans", unfollowed := true, recurses := true, apart := false }
def WebSpansSaid : Prop := webSpansRow.holds Try.pinned (OpenSpec.ofChange webSpansSpec)

/-- ITS FALSE NEIGHBOUR: 'it returns false'. Refute it at one input. -/
def webSpansWrong : ChangeSpec := { name := "webSpans", fn := fun _ => fun
  | [d1, d2, d3] => { results := [.lit (.bool false)], args := [d1, d2, d3] }
  | _ => none }
def WebSpansWrongFalsely : Prop := webSpansRow.holds Try.pinned (OpenSpec.ofChange webSpansWrong)

/-- 'cobweblaw21.WebKeys': WHATEVER THE INPUT: true; the input reads as it did. -/
def webKeysSpec : ChangeSpec := { name := "webKeys", fn := fun _ => fun
  | [d1, d2, d3] => { results := [.lit (.bool true)], args := [d1, d2, d3] }
  | _ => none }
def webKeysRow : OpenClaim := { program := "ytcafedfldmcbiaa", sum := "a7b822418ece2f3d973b7e27b0cdbd9ee42b36542bd3f0149117f4d90a66aa2a", func := "cobweb/cobweblaw21.WebKeys", spec := "webKeys", unfollowed := true, recurses := true, apart := false }
def WebKeysSaid : Prop := webKeysRow.holds Try.pinned (OpenSpec.ofChange webKeysSpec)

/-- ITS FALSE NEIGHBOUR: 'it returns false'. Refute it at one input. -/
def webKeysWrong : ChangeSpec := { name := "webKeys", fn := fun _ => fun
  | [d1, d2, d3] => { results := [.lit (.bool false)], args := [d1, d2, d3] }
  | _ => none }
def WebKeysWrongFalsely : Prop := webKeysRow.holds Try.pinned (OpenSpec.ofChange webKeysWrong)

/-- 'cobweblaw21.WebTexts': WHATEVER THE INPUT: true; the input reads as it did. -/
def webTextsSpec : ChangeSpec := { name := "webTexts", fn := fun _ => fun
  | [d1, d2, d3] => { results := [.lit (.bool true)], args := [d1, d2, d3] }
  | _ => none }
def webTextsRow : OpenClaim := { program := "ytcafedfldmcbiaa", sum := "a7b822418ece2f3d973b7e27b0cdbd9ee42b36542bd3f0149117f4d90a66aa2a", func := "cobweb/cobweblaw21.WebTexts", spec := "webTexts", unfollowed := true, recurses := true, apart := false }
def WebTextsSaid : Prop := webTextsRow.holds Try.pinned (OpenSpec.ofChange webTextsSpec)

/-- ITS FALSE NEIGHBOUR: 'it returns false'. Refute it at one input. -/
def webTextsWrong : ChangeSpec := { name := "webTexts", fn := fun _ => fun
  | [d1, d2, d3] => { results := [.lit (.bool false)], args := [d1, d2, d3] }
  | _ => none }
def WebTextsWrongFalsely : Prop := webTextsRow.holds Try.pinned (OpenSpec.ofChange webTextsWrong)

/- THE SECOND FORM. 'bulk': how many values and letters a reading holds, each counted each time it is reached (what is shared counts as often as it is met; a slice's spare places count too). A statement '..UptoSaid' is the law's where the arguments, and the package variables that the reading takes, are together of bulk at most 1048576: NARROWER than '..Said'. Prove '..Said' where nothing that the law and all that it calls make is longer than what came in: it says more and counts as full. Else prove '..UptoSaid'. A law counts once. -/
mutual
def uptoBulk {H : Type} : DataW H → Nat
  | .lit (.string bytes) => bytes.length + 1
  | .lit _ => 1
  | .nil => 1
  | .ptr d => uptoBulk d + 1
  | .slice elems spare => uptoBulkAll elems + uptoBulkAll spare + 1
  | .agg parts => uptoBulkAll parts + 1
  | .iface _ d => uptoBulk d + 1
  | .map entries => uptoBulkEntries entries + 1
  | .held _ => 1
def uptoBulkAll {H : Type} : List (DataW H) → Nat
  | [] => 0
  | d :: r => uptoBulk d + uptoBulkAll r
def uptoBulkEntries {H : Type} : List (Lit × DataW H) → Nat
  | [] => 0
  | x :: r => uptoBulkEntry x + uptoBulkEntries r
def uptoBulkEntry {H : Type} : Lit × DataW H → Nat
  | (.string bytes, d) => bytes.length + uptoBulk d + 1
  | (_, d) => uptoBulk d + 1
 end
def uptoSmall : (H : Type) → List (DataW H) → Bool := fun _ ds => decide (uptoBulkAll ds ≤ 1048576)
def OpenSpec.upto (s : _root_.Go.ChangeSpec) : _root_.Go.OpenSpec := { _root_.Go.OpenSpec.ofChange s with cond := some uptoSmall }

/-- 'cobweblaw21.WebApart', WHERE WHAT IT READS IS OF BULK AT MOST 1048576: true; the input reads as it did. -/
def webApartUptoRow : OpenClaim := { program := "ytcafedfldmcbiaa", sum := "a7b822418ece2f3d973b7e27b0cdbd9ee42b36542bd3f0149117f4d90a66aa2a", func := "cobweb/cobweblaw21.WebApart", spec := "webApart", unfollowed := true, recurses := true, apart := false, narrowed := true }
def WebApartUptoSaid : Prop := webApartUptoRow.holds Try.pinned (OpenSpec.upto webApartSpec)

/-- 'cobweblaw21.WebSpans', WHERE WHAT IT READS IS OF BULK AT MOST 1048576: true; the input reads as it did. -/
def webSpansUptoRow : OpenClaim := { program := "ytcafedfldmcbiaa", sum := "a7b822418ece2f3d973b7e27b0cdbd9ee42b36542bd3f0149117f4d90a66aa2a", func := "cobweb/cobweblaw21.WebSpans", spec := "webSpans", unfollowed := true, recurses := true, apart := false, narrowed := true }
def WebSpansUptoSaid : Prop := webSpansUptoRow.holds Try.pinned (OpenSpec.upto webSpansSpec)

/-- 'cobweblaw21.WebKeys', WHERE WHAT IT READS IS OF BULK AT MOST 1048576: true; the input reads as it did. -/
def webKeysUptoRow : OpenClaim := { program := "ytcafedfldmcbiaa", sum := "a7b822418ece2f3d973b7e27b0cdbd9ee42b36542bd3f0149117f4d90a66aa2a", func := "cobweb/cobweblaw21.WebKeys", spec := "webKeys", unfollowed := true, recurses := true, apart := false, narrowed := true }
def WebKeysUptoSaid : Prop := webKeysUptoRow.holds Try.pinned (OpenSpec.upto webKeysSpec)

/-- 'cobweblaw21.WebTexts', WHERE WHAT IT READS IS OF BULK AT MOST 1048576: true; the input reads as it did. -/
def webTextsUptoRow : OpenClaim := { program := "ytcafedfldmcbiaa", sum := "a7b822418ece2f3d973b7e27b0cdbd9ee42b36542bd3f0149117f4d90a66aa2a", func := "cobweb/cobweblaw21.WebTexts", spec := "webTexts", unfollowed := true, recurses := true, apart := false, narrowed := true }
def WebTextsUptoSaid : Prop := webTextsUptoRow.holds Try.pinned (OpenSpec.upto webTextsSpec)

end Rows
end Go.Proofs.Ytcafedfldmcbiaa
