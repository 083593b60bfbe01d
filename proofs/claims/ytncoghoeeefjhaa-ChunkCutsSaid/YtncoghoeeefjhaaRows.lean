/-
  No cell of these rows narrows 'for every input' (looked for: loops, veiled, ifaces, maps, wideKeys, modest, calm, conditions, laid).
  DERIVED. THE GIVEN ROWS OF THIS SEAT. 11 by the template 'for every input the law returns true; each argument reads behind the call as it read before'; 0 by the template 'total and deterministic' (their statements: YtncoghoeeefjhaaTotals.lean).
  GIVEN WITH THE SEED: the statements are not yours to turn. If you find one false, say at which input.
  Laid BY PROGRAM, IN A SANDBOX (cutbox-rows.mjs): the forced cells as the released guide's own fill.sh prints them over the translation ab875fbbeca32284… (all of the seat's roots in one cut). By AI agents, Wed Nov 11 2026. No macro, syntax, notation, axiom, sorry.
-/
import Derived.Test.YtncoghoeeefjhaaChecked
import GoSem.Claim
import GoSem.ClaimJoined
import GoSem.ClaimMapViews
import Derived.JoinedTies
import Derived.KernelRfl
namespace Go.Proofs.Ytncoghoeeefjhaa
/- THE CELL 'sum', in the pinned program and in every row, IS THE sha256 OF THE DUMP (.gsa) THAT YtncoghoeeefjhaaProg.lean LOADS. Nothing in Lean hashes anything: it is a label: what it is worth is what the hold of that sum in a sandbox is worth. -/
noncomputable def Try.pinned : Pinned := { name := "ytncoghoeeefjhaa", sum := "ab875fbbeca32284a23bad302e917d3bfafe9ee79d73616fa4a80e5bd4d38a46", checked := Try.checked }
namespace Rows
def none {H : Type} : Left H := { results := [], args := [] }

/-- 'hibernaclelaw39.ChunkWhole': WHATEVER THE INPUT: true; the input reads as it did. -/
def chunkWholeSpec : ChangeSpec := { name := "chunkWhole", fn := fun _ => fun
  | [d] => { results := [.lit (.bool true)], args := [d] }
  | _ => none }
def chunkWholeRow : OpenClaim := { program := "ytncoghoeeefjhaa", sum := "ab875fbbeca32284a23bad302e917d3bfafe9ee79d73616fa4a80e5bd4d38a46", func := "hibernacle/hibernaclelaw39.ChunkWhole", spec := "chunkWhole", inPlace := ["internal/abi.NoEscape", "internal/bytealg.MakeNoZero", "internal/bytealg.IndexByteString"], unfollowed := true, recurses := true, apart := false }
def ChunkWholeSaid : Prop := chunkWholeRow.holds Try.pinned (OpenSpec.ofChange chunkWholeSpec)

/-- ITS FALSE NEIGHBOUR: 'it returns false'. Refute it at one input. -/
def chunkWholeWrong : ChangeSpec := { name := "chunkWhole", fn := fun _ => fun
  | [d] => { results := [.lit (.bool false)], args := [d] }
  | _ => none }
def ChunkWholeWrongFalsely : Prop := chunkWholeRow.holds Try.pinned (OpenSpec.ofChange chunkWholeWrong)

/-- 'hibernaclelaw39.ChunkTails': WHATEVER THE INPUT: true; the input reads as it did. -/
def chunkTailsSpec : ChangeSpec := { name := "chunkTails", fn := fun _ => fun
  | [d1, d2, d3] => { results := [.lit (.bool true)], args := [d1, d2, d3] }
  | _ => none }
def chunkTailsRow : OpenClaim := { program := "ytncoghoeeefjhaa", sum := "ab875fbbeca32284a23bad302e917d3bfafe9ee79d73616fa4a80e5bd4d38a46", func := "hibernacle/hibernaclelaw39.ChunkTails", spec := "chunkTails", inPlace := ["internal/abi.NoEscape", "internal/bytealg.MakeNoZero", "internal/bytealg.IndexByteString"], unfollowed := true, recurses := true, apart := false }
def ChunkTailsSaid : Prop := chunkTailsRow.holds Try.pinned (OpenSpec.ofChange chunkTailsSpec)

/-- ITS FALSE NEIGHBOUR: 'it returns false'. Refute it at one input. -/
def chunkTailsWrong : ChangeSpec := { name := "chunkTails", fn := fun _ => fun
  | [d1, d2, d3] => { results := [.lit (.bool false)], args := [d1, d2, d3] }
  | _ => none }
def ChunkTailsWrongFalsely : Prop := chunkTailsRow.holds Try.pinned (OpenSpec.ofChange chunkTailsWrong)

/-- 'hibernaclelaw39.ChunkCuts': WHATEVER THE INPUT: true; the input reads as it did. -/
def chunkCutsSpec : ChangeSpec := { name := "chunkCuts", fn := fun _ => fun
  | [d1, d2] => { results := [.lit (.bool true)], args := [d1, d2] }
  | _ => none }
def chunkCutsRow : OpenClaim := { program := "ytncoghoeeefjhaa", sum := "ab875fbbeca32284a23bad302e917d3bfafe9ee79d73616fa4a80e5bd4d38a46", func := "hibernacle/hibernaclelaw39.ChunkCuts", spec := "chunkCuts", inPlace := ["internal/abi.NoEscape", "internal/bytealg.MakeNoZero", "internal/bytealg.IndexByteString"], unfollowed := true, recurses := true, apart := false }
def ChunkCutsSaid : Prop := chunkCutsRow.holds Try.pinned (OpenSpec.ofChange chunkCutsSpec)

/-- ITS FALSE NEIGHBOUR: 'it returns false'. Refute it at one input. -/
def chunkCutsWrong : ChangeSpec := { name := "chunkCuts", fn := fun _ => fun
  | [d1, d2] => { results := [.lit (.bool false)], args := [d1, d2] }
  | _ => none }
def ChunkCutsWrongFalsely : Prop := chunkCutsRow.holds Try.pinned (OpenSpec.ofChange chunkCutsWrong)

/-- 'hibernaclelaw38.KeysMake': WHATEVER THE INPUT: true; the input reads as it did. -/
def keysMakeSpec : ChangeSpec := { name := "keysMake", fn := fun _ => fun
  | [d1, d2] => { results := [.lit (.bool true)], args := [d1, d2] }
  | _ => none }
def keysMakeRow : OpenClaim := { program := "ytncoghoeeefjhaa", sum := "ab875fbbeca32284a23bad302e917d3bfafe9ee79d73616fa4a80e5bd4d38a46", func := "hibernacle/hibernaclelaw38.KeysMake", spec := "keysMake", inPlace := ["internal/abi.NoEscape", "internal/bytealg.MakeNoZero", "internal/bytealg.IndexByteString"], unfollowed := true, recurses := true, apart := false }
def KeysMakeSaid : Prop := keysMakeRow.holds Try.pinned (OpenSpec.ofChange keysMakeSpec)

/-- ITS FALSE NEIGHBOUR: 'it returns false'. Refute it at one input. -/
def keysMakeWrong : ChangeSpec := { name := "keysMake", fn := fun _ => fun
  | [d1, d2] => { results := [.lit (.bool false)], args := [d1, d2] }
  | _ => none }
def KeysMakeWrongFalsely : Prop := keysMakeRow.holds Try.pinned (OpenSpec.ofChange keysMakeWrong)

/-- 'hibernaclelaw38.KeysRotate': WHATEVER THE INPUT: true; the input reads as it did. -/
def keysRotateSpec : ChangeSpec := { name := "keysRotate", fn := fun _ => fun
  | [d1, d2, d3, d4] => { results := [.lit (.bool true)], args := [d1, d2, d3, d4] }
  | _ => none }
def keysRotateRow : OpenClaim := { program := "ytncoghoeeefjhaa", sum := "ab875fbbeca32284a23bad302e917d3bfafe9ee79d73616fa4a80e5bd4d38a46", func := "hibernacle/hibernaclelaw38.KeysRotate", spec := "keysRotate", inPlace := ["internal/abi.NoEscape", "internal/bytealg.MakeNoZero", "internal/bytealg.IndexByteString"], unfollowed := true, recurses := true, apart := false }
def KeysRotateSaid : Prop := keysRotateRow.holds Try.pinned (OpenSpec.ofChange keysRotateSpec)

/-- ITS FALSE NEIGHBOUR: 'it returns false'. Refute it at one input. -/
def keysRotateWrong : ChangeSpec := { name := "keysRotate", fn := fun _ => fun
  | [d1, d2, d3, d4] => { results := [.lit (.bool false)], args := [d1, d2, d3, d4] }
  | _ => none }
def KeysRotateWrongFalsely : Prop := keysRotateRow.holds Try.pinned (OpenSpec.ofChange keysRotateWrong)

/-- 'hibernaclelaw38.KeysOpen': WHATEVER THE INPUT: true; the input reads as it did. -/
def keysOpenSpec : ChangeSpec := { name := "keysOpen", fn := fun _ => fun
  | [d1, d2] => { results := [.lit (.bool true)], args := [d1, d2] }
  | _ => none }
def keysOpenRow : OpenClaim := { program := "ytncoghoeeefjhaa", sum := "ab875fbbeca32284a23bad302e917d3bfafe9ee79d73616fa4a80e5bd4d38a46", func := "hibernacle/hibernaclelaw38.KeysOpen", spec := "keysOpen", inPlace := ["internal/abi.NoEscape", "internal/bytealg.MakeNoZero", "internal/bytealg.IndexByteString"], unfollowed := true, recurses := true, apart := false }
def KeysOpenSaid : Prop := keysOpenRow.holds Try.pinned (OpenSpec.ofChange keysOpenSpec)

/-- ITS FALSE NEIGHBOUR: 'it returns false'. Refute it at one input. -/
def keysOpenWrong : ChangeSpec := { name := "keysOpen", fn := fun _ => fun
  | [d1, d2] => { results := [.lit (.bool false)], args := [d1, d2] }
  | _ => none }
def KeysOpenWrongFalsely : Prop := keysOpenRow.holds Try.pinned (OpenSpec.ofChange keysOpenWrong)

/-- 'hibernaclelaw38.KeysThree': WHATEVER THE INPUT: true; the input reads as it did. -/
def keysThreeSpec : ChangeSpec := { name := "keysThree", fn := fun _ => fun
  | [d1, d2, d3, d4] => { results := [.lit (.bool true)], args := [d1, d2, d3, d4] }
  | _ => none }
def keysThreeRow : OpenClaim := { program := "ytncoghoeeefjhaa", sum := "ab875fbbeca32284a23bad302e917d3bfafe9ee79d73616fa4a80e5bd4d38a46", func := "hibernacle/hibernaclelaw38.KeysThree", spec := "keysThree", inPlace := ["internal/abi.NoEscape", "internal/bytealg.MakeNoZero", "internal/bytealg.IndexByteString"], unfollowed := true, recurses := true, apart := false }
def KeysThreeSaid : Prop := keysThreeRow.holds Try.pinned (OpenSpec.ofChange keysThreeSpec)

/-- ITS FALSE NEIGHBOUR: 'it returns false'. Refute it at one input. -/
def keysThreeWrong : ChangeSpec := { name := "keysThree", fn := fun _ => fun
  | [d1, d2, d3, d4] => { results := [.lit (.bool false)], args := [d1, d2, d3, d4] }
  | _ => none }
def KeysThreeWrongFalsely : Prop := keysThreeRow.holds Try.pinned (OpenSpec.ofChange keysThreeWrong)

/-- 'hibernaclelaw38.KeysBlind': WHATEVER THE INPUT: true; the input reads as it did. -/
def keysBlindSpec : ChangeSpec := { name := "keysBlind", fn := fun _ => fun
  | [d1, d2, d3, d4] => { results := [.lit (.bool true)], args := [d1, d2, d3, d4] }
  | _ => none }
def keysBlindRow : OpenClaim := { program := "ytncoghoeeefjhaa", sum := "ab875fbbeca32284a23bad302e917d3bfafe9ee79d73616fa4a80e5bd4d38a46", func := "hibernacle/hibernaclelaw38.KeysBlind", spec := "keysBlind", inPlace := ["internal/abi.NoEscape", "internal/bytealg.MakeNoZero", "internal/bytealg.IndexByteString"], unfollowed := true, recurses := true, apart := false }
def KeysBlindSaid : Prop := keysBlindRow.holds Try.pinned (OpenSpec.ofChange keysBlindSpec)

/-- ITS FALSE NEIGHBOUR: 'it returns false'. Refute it at one input. -/
def keysBlindWrong : ChangeSpec := { name := "keysBlind", fn := fun _ => fun
  | [d1, d2, d3, d4] => { results := [.lit (.bool false)], args := [d1, d2, d3, d4] }
  | _ => none }
def KeysBlindWrongFalsely : Prop := keysBlindRow.holds Try.pinned (OpenSpec.ofChange keysBlindWrong)

/-- 'hibernaclelaw38.KeysFront': WHATEVER THE INPUT: true; the input reads as it did. -/
def keysFrontSpec : ChangeSpec := { name := "keysFront", fn := fun _ => fun
  | [d1, d2, d3] => { results := [.lit (.bool true)], args := [d1, d2, d3] }
  | _ => none }
def keysFrontRow : OpenClaim := { program := "ytncoghoeeefjhaa", sum := "ab875fbbeca32284a23bad302e917d3bfafe9ee79d73616fa4a80e5bd4d38a46", func := "hibernacle/hibernaclelaw38.KeysFront", spec := "keysFront", inPlace := ["internal/abi.NoEscape", "internal/bytealg.MakeNoZero", "internal/bytealg.IndexByteString"], unfollowed := true, recurses := true, apart := false }
def KeysFrontSaid : Prop := keysFrontRow.holds Try.pinned (OpenSpec.ofChange keysFrontSpec)

/-- ITS FALSE NEIGHBOUR: 'it returns false'. Refute it at one input. -/
def keysFrontWrong : ChangeSpec := { name := "keysFront", fn := fun _ => fun
  | [d1, d2, d3] => { results := [.lit (.bool false)], args := [d1, d2, d3] }
  | _ => none }
def KeysFrontWrongFalsely : Prop := keysFrontRow.holds Try.pinned (OpenSpec.ofChange keysFrontWrong)

/-- 'hibernaclelaw38.KeysTold': WHATEVER THE INPUT: true; the input reads as it did. -/
def keysToldSpec : ChangeSpec := { name := "keysTold", fn := fun _ => fun
  | [d1, d2] => { results := [.lit (.bool true)], args := [d1, d2] }
  | _ => none }
def keysToldRow : OpenClaim := { program := "ytncoghoeeefjhaa", sum := "ab875fbbeca32284a23bad302e917d3bfafe9ee79d73616fa4a80e5bd4d38a46", func := "hibernacle/hibernaclelaw38.KeysTold", spec := "keysTold", inPlace := ["internal/abi.NoEscape", "internal/bytealg.MakeNoZero", "internal/bytealg.IndexByteString"], unfollowed := true, recurses := true, apart := false }
def KeysToldSaid : Prop := keysToldRow.holds Try.pinned (OpenSpec.ofChange keysToldSpec)

/-- ITS FALSE NEIGHBOUR: 'it returns false'. Refute it at one input. -/
def keysToldWrong : ChangeSpec := { name := "keysTold", fn := fun _ => fun
  | [d1, d2] => { results := [.lit (.bool false)], args := [d1, d2] }
  | _ => none }
def KeysToldWrongFalsely : Prop := keysToldRow.holds Try.pinned (OpenSpec.ofChange keysToldWrong)

/-- 'hibernaclelaw38.KeysStay': WHATEVER THE INPUT: true; the input reads as it did. -/
def keysStaySpec : ChangeSpec := { name := "keysStay", fn := fun _ => fun
  | [d1, d2] => { results := [.lit (.bool true)], args := [d1, d2] }
  | _ => none }
def keysStayRow : OpenClaim := { program := "ytncoghoeeefjhaa", sum := "ab875fbbeca32284a23bad302e917d3bfafe9ee79d73616fa4a80e5bd4d38a46", func := "hibernacle/hibernaclelaw38.KeysStay", spec := "keysStay", inPlace := ["internal/abi.NoEscape", "internal/bytealg.MakeNoZero", "internal/bytealg.IndexByteString"], unfollowed := true, recurses := true, apart := false }
def KeysStaySaid : Prop := keysStayRow.holds Try.pinned (OpenSpec.ofChange keysStaySpec)

/-- ITS FALSE NEIGHBOUR: 'it returns false'. Refute it at one input. -/
def keysStayWrong : ChangeSpec := { name := "keysStay", fn := fun _ => fun
  | [d1, d2] => { results := [.lit (.bool false)], args := [d1, d2] }
  | _ => none }
def KeysStayWrongFalsely : Prop := keysStayRow.holds Try.pinned (OpenSpec.ofChange keysStayWrong)

/- THE SECOND FORM. 'bulk': how many values and letters a reading holds, each counted each time it is reached (what is shared counts as often as it is met; a slice's spare places count too). A statement '..UptoSaid' is the law's where the arguments, and the package variables that the reading takes, are together of bulk at most 1048576: NARROWER than '..Said'. Prove '..Said' where nothing that the law and all that it calls make is longer than what came in: it says more and counts as full. Else prove '..UptoSaid'. A law counts once. -/
mutual
def uptoBulk {H : Type} : DataW H → Nat
  | .lit (.string bytes) => bytes.length + 1
  | .lit _ => 1
  | .nil => 1
  | .ptr d => uptoBulk d + 1
  | .slice elems spare => uptoBulkAll elems + uptoBulkAll spare + 1
  | .agg parts => uptoBulkAll parts + 1
  | .iface _ d => uptoBulk d + 1
  | .map entries => uptoBulkEntries entries + 1
  | .held _ => 1
def uptoBulkAll {H : Type} : List (DataW H) → Nat
  | [] => 0
  | d :: r => uptoBulk d + uptoBulkAll r
def uptoBulkEntries {H : Type} : List (Lit × DataW H) → Nat
  | [] => 0
  | x :: r => uptoBulkEntry x + uptoBulkEntries r
def uptoBulkEntry {H : Type} : Lit × DataW H → Nat
  | (.string bytes, d) => bytes.length + uptoBulk d + 1
  | (_, d) => uptoBulk d + 1
 end
def uptoSmall : (H : Type) → List (DataW H) → Bool := fun _ ds => decide (uptoBulkAll ds ≤ 1048576)
def OpenSpec.upto (s : _root_.Go.ChangeSpec) : _root_.Go.OpenSpec := { _root_.Go.OpenSpec.ofChange s with cond := some uptoSmall }

/-- 'hibernaclelaw39.ChunkWhole', WHERE WHAT IT READS IS OF BULK AT MOST 1048576: true; the input reads as it did. -/
def chunkWholeUptoRow : OpenClaim := { program := "ytncoghoeeefjhaa", sum := "ab875fbbeca32284a23bad302e917d3bfafe9ee79d73616fa4a80e5bd4d38a46", func := "hibernacle/hibernaclelaw39.ChunkWhole", spec := "chunkWhole", inPlace := ["internal/abi.NoEscape", "internal/bytealg.MakeNoZero", "internal/bytealg.IndexByteString"], unfollowed := true, recurses := true, apart := false, narrowed := true }
def ChunkWholeUptoSaid : Prop := chunkWholeUptoRow.holds Try.pinned (OpenSpec.upto chunkWholeSpec)

/-- 'hibernaclelaw39.ChunkTails', WHERE WHAT IT READS IS OF BULK AT MOST 1048576: true; the input reads as it did. -/
def chunkTailsUptoRow : OpenClaim := { program := "ytncoghoeeefjhaa", sum := "ab875fbbeca32284a23bad302e917d3bfafe9ee79d73616fa4a80e5bd4d38a46", func := "hibernacle/hibernaclelaw39.ChunkTails", spec := "chunkTails", inPlace := ["internal/abi.NoEscape", "internal/bytealg.MakeNoZero", "internal/bytealg.IndexByteString"], unfollowed := true, recurses := true, apart := false, narrowed := true }
def ChunkTailsUptoSaid : Prop := chunkTailsUptoRow.holds Try.pinned (OpenSpec.upto chunkTailsSpec)

/-- 'hibernaclelaw39.ChunkCuts', WHERE WHAT IT READS IS OF BULK AT MOST 1048576: true; the input reads as it did. -/
def chunkCutsUptoRow : OpenClaim := { program := "ytncoghoeeefjhaa", sum := "ab875fbbeca32284a23bad302e917d3bfafe9ee79d73616fa4a80e5bd4d38a46", func := "hibernacle/hibernaclelaw39.ChunkCuts", spec := "chunkCuts", inPlace := ["internal/abi.NoEscape", "internal/bytealg.MakeNoZero", "internal/bytealg.IndexByteString"], unfollowed := true, recurses := true, apart := false, narrowed := true }
def ChunkCutsUptoSaid : Prop := chunkCutsUptoRow.holds Try.pinned (OpenSpec.upto chunkCutsSpec)

/-- 'hibernaclelaw38.KeysMake', WHERE WHAT IT READS IS OF BULK AT MOST 1048576: true; the input reads as it did. -/
def keysMakeUptoRow : OpenClaim := { program := "ytncoghoeeefjhaa", sum := "ab875fbbeca32284a23bad302e917d3bfafe9ee79d73616fa4a80e5bd4d38a46", func := "hibernacle/hibernaclelaw38.KeysMake", spec := "keysMake", inPlace := ["internal/abi.NoEscape", "internal/bytealg.MakeNoZero", "internal/bytealg.IndexByteString"], unfollowed := true, recurses := true, apart := false, narrowed := true }
def KeysMakeUptoSaid : Prop := keysMakeUptoRow.holds Try.pinned (OpenSpec.upto keysMakeSpec)

/-- 'hibernaclelaw38.KeysRotate', WHERE WHAT IT READS IS OF BULK AT MOST 1048576: true; the input reads as it did. -/
def keysRotateUptoRow : OpenClaim := { program := "ytncoghoeeefjhaa", sum := "ab875fbbeca32284a23bad302e917d3bfafe9ee79d73616fa4a80e5bd4d38a46", func := "hibernacle/hibernaclelaw38.KeysRotate", spec := "keysRotate", inPlace := ["internal/abi.NoEscape", "internal/bytealg.MakeNoZero", "internal/bytealg.IndexByteString"], unfollowed := true, recurses := true, apart := false, narrowed := true }
def KeysRotateUptoSaid : Prop := keysRotateUptoRow.holds Try.pinned (OpenSpec.upto keysRotateSpec)

/-- 'hibernaclelaw38.KeysOpen', WHERE WHAT IT READS IS OF BULK AT MOST 1048576: true; the input reads as it did. -/
def keysOpenUptoRow : OpenClaim := { program := "ytncoghoeeefjhaa", sum := "ab875fbbeca32284a23bad302e917d3bfafe9ee79d73616fa4a80e5bd4d38a46", func := "hibernacle/hibernaclelaw38.KeysOpen", spec := "keysOpen", inPlace := ["internal/abi.NoEscape", "internal/bytealg.MakeNoZero", "internal/bytealg.IndexByteString"], unfollowed := true, recurses := true, apart := false, narrowed := true }
def KeysOpenUptoSaid : Prop := keysOpenUptoRow.holds Try.pinned (OpenSpec.upto keysOpenSpec)

/-- 'hibernaclelaw38.KeysThree', WHERE WHAT IT READS IS OF BULK AT MOST 1048576: true; the input reads as it did. -/
def keysThreeUptoRow : OpenClaim := { program := "ytncoghoeeefjhaa", sum := "ab875fbbeca32284a23bad302e917d3bfafe9ee79d73616fa4a80e5bd4d38a46", func := "hibernacle/hibernaclelaw38.KeysThree", spec := "keysThree", inPlace := ["internal/abi.NoEscape", "internal/bytealg.MakeNoZero", "internal/bytealg.IndexByteString"], unfollowed := true, recurses := true, apart := false, narrowed := true }
def KeysThreeUptoSaid : Prop := keysThreeUptoRow.holds Try.pinned (OpenSpec.upto keysThreeSpec)

/-- 'hibernaclelaw38.KeysBlind', WHERE WHAT IT READS IS OF BULK AT MOST 1048576: true; the input reads as it did. -/
def keysBlindUptoRow : OpenClaim := { program := "ytncoghoeeefjhaa", sum := "ab875fbbeca32284a23bad302e917d3bfafe9ee79d73616fa4a80e5bd4d38a46", func := "hibernacle/hibernaclelaw38.KeysBlind", spec := "keysBlind", inPlace := ["internal/abi.NoEscape", "internal/bytealg.MakeNoZero", "internal/bytealg.IndexByteString"], unfollowed := true, recurses := true, apart := false, narrowed := true }
def KeysBlindUptoSaid : Prop := keysBlindUptoRow.holds Try.pinned (OpenSpec.upto keysBlindSpec)

/-- 'hibernaclelaw38.KeysFront', WHERE WHAT IT READS IS OF BULK AT MOST 1048576: true; the input reads as it did. -/
def keysFrontUptoRow : OpenClaim := { program := "ytncoghoeeefjhaa", sum := "ab875fbbeca32284a23bad302e917d3bfafe9ee79d73616fa4a80e5bd4d38a46", func := "hibernacle/hibernaclelaw38.KeysFront", spec := "keysFront", inPlace := ["internal/abi.NoEscape", "internal/bytealg.MakeNoZero", "internal/bytealg.IndexByteString"], unfollowed := true, recurses := true, apart := false, narrowed := true }
def KeysFrontUptoSaid : Prop := keysFrontUptoRow.holds Try.pinned (OpenSpec.upto keysFrontSpec)

/-- 'hibernaclelaw38.KeysTold', WHERE WHAT IT READS IS OF BULK AT MOST 1048576: true; the input reads as it did. -/
def keysToldUptoRow : OpenClaim := { program := "ytncoghoeeefjhaa", sum := "ab875fbbeca32284a23bad302e917d3bfafe9ee79d73616fa4a80e5bd4d38a46", func := "hibernacle/hibernaclelaw38.KeysTold", spec := "keysTold", inPlace := ["internal/abi.NoEscape", "internal/bytealg.MakeNoZero", "internal/bytealg.IndexByteString"], unfollowed := true, recurses := true, apart := false, narrowed := true }
def KeysToldUptoSaid : Prop := keysToldUptoRow.holds Try.pinned (OpenSpec.upto keysToldSpec)

/-- 'hibernaclelaw38.KeysStay', WHERE WHAT IT READS IS OF BULK AT MOST 1048576: true; the input reads as it did. -/
def keysStayUptoRow : OpenClaim := { program := "ytncoghoeeefjhaa", sum := "ab875fbbeca32284a23bad302e917d3bfafe9ee79d73616fa4a80e5bd4d38a46", func := "hibernacle/hibernaclelaw38.KeysStay", spec := "keysStay", inPlace := ["internal/abi.NoEscape", "internal/bytealg.MakeNoZero", "internal/bytealg.IndexByteString"], unfollowed := true, recurses := true, apart := false, narrowed := true }
def KeysStayUptoSaid : Prop := keysStayUptoRow.holds Try.pinned (OpenSpec.upto keysStaySpec)

end Rows
end Go.Proofs.Ytncoghoeeefjhaa
