/-
  No cell of these rows narrows 'for every input' (looked for: loops, veiled, ifaces, maps, wideKeys, modest, calm, conditions, laid).
  DERIVED. THE GIVEN ROWS OF THIS SEAT. 10 by the template 'for every input the law returns true; each argument reads behind the call as it read before'; 0 by the template 'total and deterministic' (their statements: YtlepallialmceaaTotals.lean).
  GIVEN WITH THE SEED: the statements are not yours to turn. If you find one false, say at which input.
  Laid BY PROGRAM, IN A SANDBOX (cutbox-rows.mjs): the forced cells as the released guide's own fill.sh prints them over the translation 2cbb78d3c81e5a3f… (all of the seat's roots in one cut). By AI agents, Wed Nov 11 2026. No macro, syntax, notation, axiom, sorry.
-/
import Derived.Test.YtlepallialmceaaChecked
import GoSem.Claim
import GoSem.ClaimJoined
import GoSem.ClaimMapViews
import Derived.JoinedTies
import Derived.KernelRfl
namespace Go.Proofs.Ytlepallialmceaa
/- THE CELL 'sum', in the pinned program and in every row, IS THE sha256 OF THE DUMP (.gsa) THAT YtlepallialmceaaProg.lean LOADS. Nothing in Lean hashes anything: it is a label: what it is worth is what the hold of that sum in a sandbox is worth. -/
noncomputable def Try.pinned : Pinned := { name := "ytlepallialmceaa", sum := "2cbb78d3c81e5a3f2d68e65b1ed2fe09501d77e0c85c7dbe9be37ee4b37fe10a", checked := Try.checked }
namespace Rows
def none {H : Type} : Left H := { results := [], args := [] }

/-- 'limnographlaw03.CrcIs': WHATEVER THE INPUT: true; the input reads as it did. -/
def crcIsSpec : ChangeSpec := { name := "crcIs", fn := fun _ => fun
  | [d1, d2] => { results := [.lit (.bool true)], args := [d1, d2] }
  | _ => none }
def crcIsRow : OpenClaim := { program := "ytlepallialmceaa", sum := "2cbb78d3c81e5a3f2d68e65b1ed2fe09501d77e0c85c7dbe9be37ee4b37fe10a", func := "limnograph/limnographlaw03.CrcIs", spec := "crcIs", apart := false }
def CrcIsSaid : Prop := crcIsRow.holds Try.pinned (OpenSpec.ofChange crcIsSpec)

/-- ITS FALSE NEIGHBOUR: 'it returns false'. Refute it at one input. -/
def crcIsWrong : ChangeSpec := { name := "crcIs", fn := fun _ => fun
  | [d1, d2] => { results := [.lit (.bool false)], args := [d1, d2] }
  | _ => none }
def CrcIsWrongFalsely : Prop := crcIsRow.holds Try.pinned (OpenSpec.ofChange crcIsWrong)

/-- 'limnographlaw03.CrcMore': WHATEVER THE INPUT: true; the input reads as it did. -/
def crcMoreSpec : ChangeSpec := { name := "crcMore", fn := fun _ => fun
  | [d1, d2] => { results := [.lit (.bool true)], args := [d1, d2] }
  | _ => none }
def crcMoreRow : OpenClaim := { program := "ytlepallialmceaa", sum := "2cbb78d3c81e5a3f2d68e65b1ed2fe09501d77e0c85c7dbe9be37ee4b37fe10a", func := "limnograph/limnographlaw03.CrcMore", spec := "crcMore", apart := false }
def CrcMoreSaid : Prop := crcMoreRow.holds Try.pinned (OpenSpec.ofChange crcMoreSpec)

/-- ITS FALSE NEIGHBOUR: 'it returns false'. Refute it at one input. -/
def crcMoreWrong : ChangeSpec := { name := "crcMore", fn := fun _ => fun
  | [d1, d2] => { results := [.lit (.bool false)], args := [d1, d2] }
  | _ => none }
def CrcMoreWrongFalsely : Prop := crcMoreRow.holds Try.pinned (OpenSpec.ofChange crcMoreWrong)

/-- 'limnographlaw03.CrcJoins': WHATEVER THE INPUT: true; the input reads as it did. -/
def crcJoinsSpec : ChangeSpec := { name := "crcJoins", fn := fun _ => fun
  | [d1, d2, d3] => { results := [.lit (.bool true)], args := [d1, d2, d3] }
  | _ => none }
def crcJoinsRow : OpenClaim := { program := "ytlepallialmceaa", sum := "2cbb78d3c81e5a3f2d68e65b1ed2fe09501d77e0c85c7dbe9be37ee4b37fe10a", func := "limnograph/limnographlaw03.CrcJoins", spec := "crcJoins", apart := false }
def CrcJoinsSaid : Prop := crcJoinsRow.holds Try.pinned (OpenSpec.ofChange crcJoinsSpec)

/-- ITS FALSE NEIGHBOUR: 'it returns false'. Refute it at one input. -/
def crcJoinsWrong : ChangeSpec := { name := "crcJoins", fn := fun _ => fun
  | [d1, d2, d3] => { results := [.lit (.bool false)], args := [d1, d2, d3] }
  | _ => none }
def CrcJoinsWrongFalsely : Prop := crcJoinsRow.holds Try.pinned (OpenSpec.ofChange crcJoinsWrong)

/-- 'limnographlaw03.CrcLong': WHATEVER THE INPUT: true; the input reads as it did. -/
def crcLongSpec : ChangeSpec := { name := "crcLong", fn := fun _ => fun
  | [d1, d2, d3, d4, d5] => { results := [.lit (.bool true)], args := [d1, d2, d3, d4, d5] }
  | _ => none }
def crcLongRow : OpenClaim := { program := "ytlepallialmceaa", sum := "2cbb78d3c81e5a3f2d68e65b1ed2fe09501d77e0c85c7dbe9be37ee4b37fe10a", func := "limnograph/limnographlaw03.CrcLong", spec := "crcLong", apart := false }
def CrcLongSaid : Prop := crcLongRow.holds Try.pinned (OpenSpec.ofChange crcLongSpec)

/-- ITS FALSE NEIGHBOUR: 'it returns false'. Refute it at one input. -/
def crcLongWrong : ChangeSpec := { name := "crcLong", fn := fun _ => fun
  | [d1, d2, d3, d4, d5] => { results := [.lit (.bool false)], args := [d1, d2, d3, d4, d5] }
  | _ => none }
def CrcLongWrongFalsely : Prop := crcLongRow.holds Try.pinned (OpenSpec.ofChange crcLongWrong)

/-- 'limnographlaw03.CrcTells': WHATEVER THE INPUT: true; the input reads as it did. -/
def crcTellsSpec : ChangeSpec := { name := "crcTells", fn := fun _ => fun
  | [d1, d2, d3] => { results := [.lit (.bool true)], args := [d1, d2, d3] }
  | _ => none }
def crcTellsRow : OpenClaim := { program := "ytlepallialmceaa", sum := "2cbb78d3c81e5a3f2d68e65b1ed2fe09501d77e0c85c7dbe9be37ee4b37fe10a", func := "limnograph/limnographlaw03.CrcTells", spec := "crcTells", apart := false }
def CrcTellsSaid : Prop := crcTellsRow.holds Try.pinned (OpenSpec.ofChange crcTellsSpec)

/-- ITS FALSE NEIGHBOUR: 'it returns false'. Refute it at one input. -/
def crcTellsWrong : ChangeSpec := { name := "crcTells", fn := fun _ => fun
  | [d1, d2, d3] => { results := [.lit (.bool false)], args := [d1, d2, d3] }
  | _ => none }
def CrcTellsWrongFalsely : Prop := crcTellsRow.holds Try.pinned (OpenSpec.ofChange crcTellsWrong)

/-- 'limnographlaw04.FrameMost': WHATEVER THE INPUT: true; the input reads as it did. -/
def frameMostSpec : ChangeSpec := { name := "frameMost", fn := fun _ => fun
  | [d] => { results := [.lit (.bool true)], args := [d] }
  | _ => none }
def frameMostRow : OpenClaim := { program := "ytlepallialmceaa", sum := "2cbb78d3c81e5a3f2d68e65b1ed2fe09501d77e0c85c7dbe9be37ee4b37fe10a", func := "limnograph/limnographlaw04.FrameMost", spec := "frameMost", apart := false }
def FrameMostSaid : Prop := frameMostRow.holds Try.pinned (OpenSpec.ofChange frameMostSpec)

/-- ITS FALSE NEIGHBOUR: 'it returns false'. Refute it at one input. -/
def frameMostWrong : ChangeSpec := { name := "frameMost", fn := fun _ => fun
  | [d] => { results := [.lit (.bool false)], args := [d] }
  | _ => none }
def FrameMostWrongFalsely : Prop := frameMostRow.holds Try.pinned (OpenSpec.ofChange frameMostWrong)

/-- 'limnographlaw04.FrameReads': WHATEVER THE INPUT: true; the input reads as it did. -/
def frameReadsSpec : ChangeSpec := { name := "frameReads", fn := fun _ => fun
  | [d] => { results := [.lit (.bool true)], args := [d] }
  | _ => none }
def frameReadsRow : OpenClaim := { program := "ytlepallialmceaa", sum := "2cbb78d3c81e5a3f2d68e65b1ed2fe09501d77e0c85c7dbe9be37ee4b37fe10a", func := "limnograph/limnographlaw04.FrameReads", spec := "frameReads", apart := false }
def FrameReadsSaid : Prop := frameReadsRow.holds Try.pinned (OpenSpec.ofChange frameReadsSpec)

/-- ITS FALSE NEIGHBOUR: 'it returns false'. Refute it at one input. -/
def frameReadsWrong : ChangeSpec := { name := "frameReads", fn := fun _ => fun
  | [d] => { results := [.lit (.bool false)], args := [d] }
  | _ => none }
def FrameReadsWrongFalsely : Prop := frameReadsRow.holds Try.pinned (OpenSpec.ofChange frameReadsWrong)

/-- 'limnographlaw04.FrameBack': WHATEVER THE INPUT: true; the input reads as it did. -/
def frameBackSpec : ChangeSpec := { name := "frameBack", fn := fun _ => fun
  | [d1, d2] => { results := [.lit (.bool true)], args := [d1, d2] }
  | _ => none }
def frameBackRow : OpenClaim := { program := "ytlepallialmceaa", sum := "2cbb78d3c81e5a3f2d68e65b1ed2fe09501d77e0c85c7dbe9be37ee4b37fe10a", func := "limnograph/limnographlaw04.FrameBack", spec := "frameBack", apart := false }
def FrameBackSaid : Prop := frameBackRow.holds Try.pinned (OpenSpec.ofChange frameBackSpec)

/-- ITS FALSE NEIGHBOUR: 'it returns false'. Refute it at one input. -/
def frameBackWrong : ChangeSpec := { name := "frameBack", fn := fun _ => fun
  | [d1, d2] => { results := [.lit (.bool false)], args := [d1, d2] }
  | _ => none }
def FrameBackWrongFalsely : Prop := frameBackRow.holds Try.pinned (OpenSpec.ofChange frameBackWrong)

/-- 'limnographlaw04.FrameTells': WHATEVER THE INPUT: true; the input reads as it did. -/
def frameTellsSpec : ChangeSpec := { name := "frameTells", fn := fun _ => fun
  | [d1, d2, d3, d4] => { results := [.lit (.bool true)], args := [d1, d2, d3, d4] }
  | _ => none }
def frameTellsRow : OpenClaim := { program := "ytlepallialmceaa", sum := "2cbb78d3c81e5a3f2d68e65b1ed2fe09501d77e0c85c7dbe9be37ee4b37fe10a", func := "limnograph/limnographlaw04.FrameTells", spec := "frameTells", apart := false }
def FrameTellsSaid : Prop := frameTellsRow.holds Try.pinned (OpenSpec.ofChange frameTellsSpec)

/-- ITS FALSE NEIGHBOUR: 'it returns false'. Refute it at one input. -/
def frameTellsWrong : ChangeSpec := { name := "frameTells", fn := fun _ => fun
  | [d1, d2, d3, d4] => { results := [.lit (.bool false)], args := [d1, d2, d3, d4] }
  | _ => none }
def FrameTellsWrongFalsely : Prop := frameTellsRow.holds Try.pinned (OpenSpec.ofChange frameTellsWrong)

/-- 'limnographlaw04.FrameWraps': WHATEVER THE INPUT: true; the input reads as it did. -/
def frameWrapsSpec : ChangeSpec := { name := "frameWraps", fn := fun _ => fun
  | [d1, d2] => { results := [.lit (.bool true)], args := [d1, d2] }
  | _ => none }
def frameWrapsRow : OpenClaim := { program := "ytlepallialmceaa", sum := "2cbb78d3c81e5a3f2d68e65b1ed2fe09501d77e0c85c7dbe9be37ee4b37fe10a", func := "limnograph/limnographlaw04.FrameWraps", spec := "frameWraps", apart := false }
def FrameWrapsSaid : Prop := frameWrapsRow.holds Try.pinned (OpenSpec.ofChange frameWrapsSpec)

/-- ITS FALSE NEIGHBOUR: 'it returns false'. Refute it at one input. -/
def frameWrapsWrong : ChangeSpec := { name := "frameWraps", fn := fun _ => fun
  | [d1, d2] => { results := [.lit (.bool false)], args := [d1, d2] }
  | _ => none }
def FrameWrapsWrongFalsely : Prop := frameWrapsRow.holds Try.pinned (OpenSpec.ofChange frameWrapsWrong)

/- THE SECOND FORM. 'bulk': how many values and letters a reading holds, each counted each time it is reached (what is shared counts as often as it is met; a slice's spare places count too). A statement '..UptoSaid' is the law's where the arguments, and the package variables that the reading takes, are together of bulk at most 1048576: NARROWER than '..Said'. Prove '..Said' where nothing that the law and all that it calls make is longer than what came in: it says more and counts as full. Else prove '..UptoSaid'. A law counts once. -/
mutual
def uptoBulk {H : Type} : DataW H → Nat
  | .lit (.string bytes) => bytes.length + 1
  | .lit _ => 1
  | .nil => 1
  | .ptr d => uptoBulk d + 1
  | .slice elems spare => uptoBulkAll elems + uptoBulkAll spare + 1
  | .agg parts => uptoBulkAll parts + 1
  | .iface _ d => uptoBulk d + 1
  | .map entries => uptoBulkEntries entries + 1
  | .held _ => 1
def uptoBulkAll {H : Type} : List (DataW H) → Nat
  | [] => 0
  | d :: r => uptoBulk d + uptoBulkAll r
def uptoBulkEntries {H : Type} : List (Lit × DataW H) → Nat
  | [] => 0
  | x :: r => uptoBulkEntry x + uptoBulkEntries r
def uptoBulkEntry {H : Type} : Lit × DataW H → Nat
  | (.string bytes, d) => bytes.length + uptoBulk d + 1
  | (_, d) => uptoBulk d + 1
 end
def uptoSmall : (H : Type) → List (DataW H) → Bool := fun _ ds => decide (uptoBulkAll ds ≤ 1048576)
def OpenSpec.upto (s : _root_.Go.ChangeSpec) : _root_.Go.OpenSpec := { _root_.Go.OpenSpec.ofChange s with cond := some uptoSmall }

/-- 'limnographlaw03.CrcIs', WHERE WHAT IT READS IS OF BULK AT MOST 1048576: true; the input reads as it did. -/
def crcIsUptoRow : OpenClaim := { program := "ytlepallialmceaa", sum := "2cbb78d3c81e5a3f2d68e65b1ed2fe09501d77e0c85c7dbe9be37ee4b37fe10a", func := "limnograph/limnographlaw03.CrcIs", spec := "crcIs", apart := false, narrowed := true }
def CrcIsUptoSaid : Prop := crcIsUptoRow.holds Try.pinned (OpenSpec.upto crcIsSpec)

/-- 'limnographlaw03.CrcMore', WHERE WHAT IT READS IS OF BULK AT MOST 1048576: true; the input reads as it did. -/
def crcMoreUptoRow : OpenClaim := { program := "ytlepallialmceaa", sum := "2cbb78d3c81e5a3f2d68e65b1ed2fe09501d77e0c85c7dbe9be37ee4b37fe10a", func := "limnograph/limnographlaw03.CrcMore", spec := "crcMore", apart := false, narrowed := true }
def CrcMoreUptoSaid : Prop := crcMoreUptoRow.holds Try.pinned (OpenSpec.upto crcMoreSpec)

/-- 'limnographlaw03.CrcJoins', WHERE WHAT IT READS IS OF BULK AT MOST 1048576: true; the input reads as it did. -/
def crcJoinsUptoRow : OpenClaim := { program := "ytlepallialmceaa", sum := "2cbb78d3c81e5a3f2d68e65b1ed2fe09501d77e0c85c7dbe9be37ee4b37fe10a", func := "limnograph/limnographlaw03.CrcJoins", spec := "crcJoins", apart := false, narrowed := true }
def CrcJoinsUptoSaid : Prop := crcJoinsUptoRow.holds Try.pinned (OpenSpec.upto crcJoinsSpec)

/-- 'limnographlaw03.CrcLong', WHERE WHAT IT READS IS OF BULK AT MOST 1048576: true; the input reads as it did. -/
def crcLongUptoRow : OpenClaim := { program := "ytlepallialmceaa", sum := "2cbb78d3c81e5a3f2d68e65b1ed2fe09501d77e0c85c7dbe9be37ee4b37fe10a", func := "limnograph/limnographlaw03.CrcLong", spec := "crcLong", apart := false, narrowed := true }
def CrcLongUptoSaid : Prop := crcLongUptoRow.holds Try.pinned (OpenSpec.upto crcLongSpec)

/-- 'limnographlaw03.CrcTells', WHERE WHAT IT READS IS OF BULK AT MOST 1048576: true; the input reads as it did. -/
def crcTellsUptoRow : OpenClaim := { program := "ytlepallialmceaa", sum := "2cbb78d3c81e5a3f2d68e65b1ed2fe09501d77e0c85c7dbe9be37ee4b37fe10a", func := "limnograph/limnographlaw03.CrcTells", spec := "crcTells", apart := false, narrowed := true }
def CrcTellsUptoSaid : Prop := crcTellsUptoRow.holds Try.pinned (OpenSpec.upto crcTellsSpec)

/-- 'limnographlaw04.FrameMost', WHERE WHAT IT READS IS OF BULK AT MOST 1048576: true; the input reads as it did. -/
def frameMostUptoRow : OpenClaim := { program := "ytlepallialmceaa", sum := "2cbb78d3c81e5a3f2d68e65b1ed2fe09501d77e0c85c7dbe9be37ee4b37fe10a", func := "limnograph/limnographlaw04.FrameMost", spec := "frameMost", apart := false, narrowed := true }
def FrameMostUptoSaid : Prop := frameMostUptoRow.holds Try.pinned (OpenSpec.upto frameMostSpec)

/-- 'limnographlaw04.FrameReads', WHERE WHAT IT READS IS OF BULK AT MOST 1048576: true; the input reads as it did. -/
def frameReadsUptoRow : OpenClaim := { program := "ytlepallialmceaa", sum := "2cbb78d3c81e5a3f2d68e65b1ed2fe09501d77e0c85c7dbe9be37ee4b37fe10a", func := "limnograph/limnographlaw04.FrameReads", spec := "frameReads", apart := false, narrowed := true }
def FrameReadsUptoSaid : Prop := frameReadsUptoRow.holds Try.pinned (OpenSpec.upto frameReadsSpec)

/-- 'limnographlaw04.FrameBack', WHERE WHAT IT READS IS OF BULK AT MOST 1048576: true; the input reads as it did. -/
def frameBackUptoRow : OpenClaim := { program := "ytlepallialmceaa", sum := "2cbb78d3c81e5a3f2d68e65b1ed2fe09501d77e0c85c7dbe9be37ee4b37fe10a", func := "limnograph/limnographlaw04.FrameBack", spec := "frameBack", apart := false, narrowed := true }
def FrameBackUptoSaid : Prop := frameBackUptoRow.holds Try.pinned (OpenSpec.upto frameBackSpec)

/-- 'limnographlaw04.FrameTells', WHERE WHAT IT READS IS OF BULK AT MOST 1048576: true; the input reads as it did. -/
def frameTellsUptoRow : OpenClaim := { program := "ytlepallialmceaa", sum := "2cbb78d3c81e5a3f2d68e65b1ed2fe09501d77e0c85c7dbe9be37ee4b37fe10a", func := "limnograph/limnographlaw04.FrameTells", spec := "frameTells", apart := false, narrowed := true }
def FrameTellsUptoSaid : Prop := frameTellsUptoRow.holds Try.pinned (OpenSpec.upto frameTellsSpec)

/-- 'limnographlaw04.FrameWraps', WHERE WHAT IT READS IS OF BULK AT MOST 1048576: true; the input reads as it did. -/
def frameWrapsUptoRow : OpenClaim := { program := "ytlepallialmceaa", sum := "2cbb78d3c81e5a3f2d68e65b1ed2fe09501d77e0c85c7dbe9be37ee4b37fe10a", func := "limnograph/limnographlaw04.FrameWraps", spec := "frameWraps", apart := false, narrowed := true }
def FrameWrapsUptoSaid : Prop := frameWrapsUptoRow.holds Try.pinned (OpenSpec.upto frameWrapsSpec)

end Rows
end Go.Proofs.Ytlepallialmceaa
