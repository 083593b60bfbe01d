/-
  No cell of these rows narrows 'for every input' (looked for: loops, veiled, ifaces, maps, wideKeys, modest, calm, conditions, laid).
  DERIVED. THE GIVEN ROWS OF THIS SEAT. 6 by the template 'for every input the law returns true; each argument reads behind the call as it read before'; 0 by the template 'total and deterministic' (their statements: YtojgmeonjgfpoaaTotals.lean).
  GIVEN WITH THE SEED: the statements are not yours to turn. If you find one false, say at which input.
  Laid BY PROGRAM, IN A SANDBOX (cutbox-rows.mjs): the forced cells as the released guide's own fill.sh prints them over the translation a22036d0f0dfcbda… (all of the seat's roots in one cut). By AI agents, Wed Nov 11 2026. No macro, syntax, notation, axiom, sorry.
-/
import Derived.Test.YtojgmeonjgfpoaaChecked
import GoSem.Claim
import GoSem.ClaimJoined
import GoSem.ClaimMapViews
import Derived.JoinedTies
import Derived.KernelRfl
namespace Go.Proofs.Ytojgmeonjgfpoaa
/- THE CELL 'sum', in the pinned program and in every row, IS THE sha256 OF THE DUMP (.gsa) THAT YtojgmeonjgfpoaaProg.lean LOADS. Nothing in Lean hashes anything: it is a label: what it is worth is what the hold of that sum in a sandbox is worth. -/
noncomputable def Try.pinned : Pinned := { name := "ytojgmeonjgfpoaa", sum := "a22036d0f0dfcbda02396f68299fc03e6bfc734b0cba54bc340bc119d957a621", checked := Try.checked }
namespace Rows
def none {H : Type} : Left H := { results := [], args := [] }

/-- 'hibernaclelaw40.PackApart': WHATEVER THE INPUT: true; the input reads as it did. -/
def packApartSpec : ChangeSpec := { name := "packApart", fn := fun _ => fun
  | [d1, d2] => { results := [.lit (.bool true)], args := [d1, d2] }
  | _ => none }
def packApartRow : OpenClaim := { program := "ytojgmeonjgfpoaa", sum := "a22036d0f0dfcbda02396f68299fc03e6bfc734b0cba54bc340bc119d957a621", func := "hibernacle/hibernaclelaw40.PackApart", spec := "packApart", inPlace := ["internal/abi.NoEscape"], apart := false }
def PackApartSaid : Prop := packApartRow.holds Try.pinned (OpenSpec.ofChange packApartSpec)

/-- ITS FALSE NEIGHBOUR: 'it returns false'. Refute it at one input. -/
def packApartWrong : ChangeSpec := { name := "packApart", fn := fun _ => fun
  | [d1, d2] => { results := [.lit (.bool false)], args := [d1, d2] }
  | _ => none }
def PackApartWrongFalsely : Prop := packApartRow.holds Try.pinned (OpenSpec.ofChange packApartWrong)

/-- 'hibernaclelaw40.PackBent': WHATEVER THE INPUT: true; the input reads as it did. -/
def packBentSpec : ChangeSpec := { name := "packBent", fn := fun _ => fun
  | [d1, d2, d3] => { results := [.lit (.bool true)], args := [d1, d2, d3] }
  | _ => none }
def packBentRow : OpenClaim := { program := "ytojgmeonjgfpoaa", sum := "a22036d0f0dfcbda02396f68299fc03e6bfc734b0cba54bc340bc119d957a621", func := "hibernacle/hibernaclelaw40.PackBent", spec := "packBent", inPlace := ["internal/abi.NoEscape"], recurses := true, apart := false }
def PackBentSaid : Prop := packBentRow.holds Try.pinned (OpenSpec.ofChange packBentSpec)

/-- ITS FALSE NEIGHBOUR: 'it returns false'. Refute it at one input. -/
def packBentWrong : ChangeSpec := { name := "packBent", fn := fun _ => fun
  | [d1, d2, d3] => { results := [.lit (.bool false)], args := [d1, d2, d3] }
  | _ => none }
def PackBentWrongFalsely : Prop := packBentRow.holds Try.pinned (OpenSpec.ofChange packBentWrong)

/-- 'hibernaclelaw40.PackTakes': WHATEVER THE INPUT: true; the input reads as it did. -/
def packTakesSpec : ChangeSpec := { name := "packTakes", fn := fun _ => fun
  | [d1, d2] => { results := [.lit (.bool true)], args := [d1, d2] }
  | _ => none }
def packTakesRow : OpenClaim := { program := "ytojgmeonjgfpoaa", sum := "a22036d0f0dfcbda02396f68299fc03e6bfc734b0cba54bc340bc119d957a621", func := "hibernacle/hibernaclelaw40.PackTakes", spec := "packTakes", inPlace := ["internal/abi.NoEscape"], apart := false }
def PackTakesSaid : Prop := packTakesRow.holds Try.pinned (OpenSpec.ofChange packTakesSpec)

/-- ITS FALSE NEIGHBOUR: 'it returns false'. Refute it at one input. -/
def packTakesWrong : ChangeSpec := { name := "packTakes", fn := fun _ => fun
  | [d1, d2] => { results := [.lit (.bool false)], args := [d1, d2] }
  | _ => none }
def PackTakesWrongFalsely : Prop := packTakesRow.holds Try.pinned (OpenSpec.ofChange packTakesWrong)

/-- 'hibernaclelaw40.PackMakes': WHATEVER THE INPUT: true; the input reads as it did. -/
def packMakesSpec : ChangeSpec := { name := "packMakes", fn := fun _ => fun
  | [d] => { results := [.lit (.bool true)], args := [d] }
  | _ => none }
def packMakesRow : OpenClaim := { program := "ytojgmeonjgfpoaa", sum := "a22036d0f0dfcbda02396f68299fc03e6bfc734b0cba54bc340bc119d957a621", func := "hibernacle/hibernaclelaw40.PackMakes", spec := "packMakes", inPlace := ["internal/abi.NoEscape", "internal/bytealg.MakeNoZero", "internal/bytealg.IndexByteString"], unfollowed := true, recurses := true, apart := false }
def PackMakesSaid : Prop := packMakesRow.holds Try.pinned (OpenSpec.ofChange packMakesSpec)

/-- ITS FALSE NEIGHBOUR: 'it returns false'. Refute it at one input. -/
def packMakesWrong : ChangeSpec := { name := "packMakes", fn := fun _ => fun
  | [d] => { results := [.lit (.bool false)], args := [d] }
  | _ => none }
def PackMakesWrongFalsely : Prop := packMakesRow.holds Try.pinned (OpenSpec.ofChange packMakesWrong)

/-- 'hibernaclelaw40.PackPlaces': WHATEVER THE INPUT: true; the input reads as it did. -/
def packPlacesSpec : ChangeSpec := { name := "packPlaces", fn := fun _ => fun
  | [d1, d2] => { results := [.lit (.bool true)], args := [d1, d2] }
  | _ => none }
def packPlacesRow : OpenClaim := { program := "ytojgmeonjgfpoaa", sum := "a22036d0f0dfcbda02396f68299fc03e6bfc734b0cba54bc340bc119d957a621", func := "hibernacle/hibernaclelaw40.PackPlaces", spec := "packPlaces", inPlace := ["internal/abi.NoEscape", "internal/bytealg.MakeNoZero", "internal/bytealg.IndexByteString"], unfollowed := true, recurses := true, apart := false }
def PackPlacesSaid : Prop := packPlacesRow.holds Try.pinned (OpenSpec.ofChange packPlacesSpec)

/-- ITS FALSE NEIGHBOUR: 'it returns false'. Refute it at one input. -/
def packPlacesWrong : ChangeSpec := { name := "packPlaces", fn := fun _ => fun
  | [d1, d2] => { results := [.lit (.bool false)], args := [d1, d2] }
  | _ => none }
def PackPlacesWrongFalsely : Prop := packPlacesRow.holds Try.pinned (OpenSpec.ofChange packPlacesWrong)

/-- 'hibernacletop.TopThree': WHATEVER THE INPUT: true; the input reads as it did. -/
def topThreeSpec : ChangeSpec := { name := "topThree", fn := fun _ => fun
  | [d1, d2, d3, d4, d5, d6] => { results := [.lit (.bool true)], args := [d1, d2, d3, d4, d5, d6] }
  | _ => none }
def topThreeRow : OpenClaim := { program := "ytojgmeonjgfpoaa", sum := "a22036d0f0dfcbda02396f68299fc03e6bfc734b0cba54bc340bc119d957a621", func := "hibernacle/hibernacletop.TopThree", spec := "topThree", apart := false }
def TopThreeSaid : Prop := topThreeRow.holds Try.pinned (OpenSpec.ofChange topThreeSpec)

/-- ITS FALSE NEIGHBOUR: 'it returns false'. Refute it at one input. -/
def topThreeWrong : ChangeSpec := { name := "topThree", fn := fun _ => fun
  | [d1, d2, d3, d4, d5, d6] => { results := [.lit (.bool false)], args := [d1, d2, d3, d4, d5, d6] }
  | _ => none }
def TopThreeWrongFalsely : Prop := topThreeRow.holds Try.pinned (OpenSpec.ofChange topThreeWrong)

/- THE SECOND FORM. 'bulk': how many values and letters a reading holds, each counted each time it is reached (what is shared counts as often as it is met; a slice's spare places count too). A statement '..UptoSaid' is the law's where the arguments, and the package variables that the reading takes, are together of bulk at most 1048576: NARROWER than '..Said'. Prove '..Said' where nothing that the law and all that it calls make is longer than what came in: it says more and counts as full. Else prove '..UptoSaid'. A law counts once. -/
mutual
def uptoBulk {H : Type} : DataW H → Nat
  | .lit (.string bytes) => bytes.length + 1
  | .lit _ => 1
  | .nil => 1
  | .ptr d => uptoBulk d + 1
  | .slice elems spare => uptoBulkAll elems + uptoBulkAll spare + 1
  | .agg parts => uptoBulkAll parts + 1
  | .iface _ d => uptoBulk d + 1
  | .map entries => uptoBulkEntries entries + 1
  | .held _ => 1
def uptoBulkAll {H : Type} : List (DataW H) → Nat
  | [] => 0
  | d :: r => uptoBulk d + uptoBulkAll r
def uptoBulkEntries {H : Type} : List (Lit × DataW H) → Nat
  | [] => 0
  | x :: r => uptoBulkEntry x + uptoBulkEntries r
def uptoBulkEntry {H : Type} : Lit × DataW H → Nat
  | (.string bytes, d) => bytes.length + uptoBulk d + 1
  | (_, d) => uptoBulk d + 1
 end
def uptoSmall : (H : Type) → List (DataW H) → Bool := fun _ ds => decide (uptoBulkAll ds ≤ 1048576)
def OpenSpec.upto (s : _root_.Go.ChangeSpec) : _root_.Go.OpenSpec := { _root_.Go.OpenSpec.ofChange s with cond := some uptoSmall }

/-- 'hibernaclelaw40.PackApart', WHERE WHAT IT READS IS OF BULK AT MOST 1048576: true; the input reads as it did. -/
def packApartUptoRow : OpenClaim := { program := "ytojgmeonjgfpoaa", sum := "a22036d0f0dfcbda02396f68299fc03e6bfc734b0cba54bc340bc119d957a621", func := "hibernacle/hibernaclelaw40.PackApart", spec := "packApart", inPlace := ["internal/abi.NoEscape"], apart := false, narrowed := true }
def PackApartUptoSaid : Prop := packApartUptoRow.holds Try.pinned (OpenSpec.upto packApartSpec)

/-- 'hibernaclelaw40.PackBent', WHERE WHAT IT READS IS OF BULK AT MOST 1048576: true; the input reads as it did. -/
def packBentUptoRow : OpenClaim := { program := "ytojgmeonjgfpoaa", sum := "a22036d0f0dfcbda02396f68299fc03e6bfc734b0cba54bc340bc119d957a621", func := "hibernacle/hibernaclelaw40.PackBent", spec := "packBent", inPlace := ["internal/abi.NoEscape"], recurses := true, apart := false, narrowed := true }
def PackBentUptoSaid : Prop := packBentUptoRow.holds Try.pinned (OpenSpec.upto packBentSpec)

/-- 'hibernaclelaw40.PackTakes', WHERE WHAT IT READS IS OF BULK AT MOST 1048576: true; the input reads as it did. -/
def packTakesUptoRow : OpenClaim := { program := "ytojgmeonjgfpoaa", sum := "a22036d0f0dfcbda02396f68299fc03e6bfc734b0cba54bc340bc119d957a621", func := "hibernacle/hibernaclelaw40.PackTakes", spec := "packTakes", inPlace := ["internal/abi.NoEscape"], apart := false, narrowed := true }
def PackTakesUptoSaid : Prop := packTakesUptoRow.holds Try.pinned (OpenSpec.upto packTakesSpec)

/-- 'hibernaclelaw40.PackMakes', WHERE WHAT IT READS IS OF BULK AT MOST 1048576: true; the input reads as it did. -/
def packMakesUptoRow : OpenClaim := { program := "ytojgmeonjgfpoaa", sum := "a22036d0f0dfcbda02396f68299fc03e6bfc734b0cba54bc340bc119d957a621", func := "hibernacle/hibernaclelaw40.PackMakes", spec := "packMakes", inPlace := ["internal/abi.NoEscape", "internal/bytealg.MakeNoZero", "internal/bytealg.IndexByteString"], unfollowed := true, recurses := true, apart := false, narrowed := true }
def PackMakesUptoSaid : Prop := packMakesUptoRow.holds Try.pinned (OpenSpec.upto packMakesSpec)

/-- 'hibernaclelaw40.PackPlaces', WHERE WHAT IT READS IS OF BULK AT MOST 1048576: true; the input reads as it did. -/
def packPlacesUptoRow : OpenClaim := { program := "ytojgmeonjgfpoaa", sum := "a22036d0f0dfcbda02396f68299fc03e6bfc734b0cba54bc340bc119d957a621", func := "hibernacle/hibernaclelaw40.PackPlaces", spec := "packPlaces", inPlace := ["internal/abi.NoEscape", "internal/bytealg.MakeNoZero", "internal/bytealg.IndexByteString"], unfollowed := true, recurses := true, apart := false, narrowed := true }
def PackPlacesUptoSaid : Prop := packPlacesUptoRow.holds Try.pinned (OpenSpec.upto packPlacesSpec)

/-- 'hibernacletop.TopThree', WHERE WHAT IT READS IS OF BULK AT MOST 1048576: true; the input reads as it did. -/
def topThreeUptoRow : OpenClaim := { program := "ytojgmeonjgfpoaa", sum := "a22036d0f0dfcbda02396f68299fc03e6bfc734b0cba54bc340bc119d957a621", func := "hibernacle/hibernacletop.TopThree", spec := "topThree", apart := false, narrowed := true }
def TopThreeUptoSaid : Prop := topThreeUptoRow.holds Try.pinned (OpenSpec.upto topThreeSpec)

end Rows
end Go.Proofs.Ytojgmeonjgfpoaa
