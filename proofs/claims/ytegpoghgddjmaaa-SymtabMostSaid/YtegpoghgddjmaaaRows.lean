/-
  No cell of these rows narrows 'for every input' (looked for: loops, veiled, ifaces, maps, wideKeys, modest, calm, conditions, laid).
  DERIVED. THE GIVEN ROWS OF THIS SEAT. 12 by the template 'for every input the law returns true; each argument reads behind the call as it read before'; 0 by the template 'total and deterministic' (their statements: YtegpoghgddjmaaaTotals.lean).
  GIVEN WITH THE SEED: the statements are not yours to turn. If you find one false, say at which input.
  Laid BY PROGRAM, IN A SANDBOX (cutbox-rows.mjs): the forced cells as the released guide's own fill.sh prints them over the translation 943093fd1efae76d… (all of the seat's roots in one cut). By AI agents, Wed Nov 11 2026. No macro, syntax, notation, axiom, sorry.
-/
import Derived.Test.YtegpoghgddjmaaaChecked
import GoSem.Claim
import GoSem.ClaimJoined
import GoSem.ClaimMapViews
import Derived.JoinedTies
import Derived.KernelRfl
namespace Go.Proofs.Ytegpoghgddjmaaa
/- THE CELL 'sum', in the pinned program and in every row, IS THE sha256 OF THE DUMP (.gsa) THAT YtegpoghgddjmaaaProg.lean LOADS. Nothing in Lean hashes anything: it is a label: what it is worth is what the hold of that sum in a sandbox is worth. -/
noncomputable def Try.pinned : Pinned := { name := "ytegpoghgddjmaaa", sum := "943093fd1efae76dc4f35768eae5dce9d957d9cbada148550283908ddb7c6205", checked := Try.checked }
namespace Rows
def none {H : Type} : Left H := { results := [], args := [] }

/-- 'limnographlaw02.PackInts': WHATEVER THE INPUT: true; the input reads as it did. -/
def packIntsSpec : ChangeSpec := { name := "packInts", fn := fun _ => fun
  | [d1, d2, d3] => { results := [.lit (.bool true)], args := [d1, d2, d3] }
  | _ => none }
def packIntsRow : OpenClaim := { program := "ytegpoghgddjmaaa", sum := "943093fd1efae76dc4f35768eae5dce9d957d9cbada148550283908ddb7c6205", func := "limnograph/limnographlaw02.PackInts", spec := "packInts", apart := false }
def PackIntsSaid : Prop := packIntsRow.holds Try.pinned (OpenSpec.ofChange packIntsSpec)

/-- ITS FALSE NEIGHBOUR: 'it returns false'. Refute it at one input. -/
def packIntsWrong : ChangeSpec := { name := "packInts", fn := fun _ => fun
  | [d1, d2, d3] => { results := [.lit (.bool false)], args := [d1, d2, d3] }
  | _ => none }
def PackIntsWrongFalsely : Prop := packIntsRow.holds Try.pinned (OpenSpec.ofChange packIntsWrong)

/-- 'limnographlaw02.PackWrites': WHATEVER THE INPUT: true; the input reads as it did. -/
def packWritesSpec : ChangeSpec := { name := "packWrites", fn := fun _ => fun
  | [d] => { results := [.lit (.bool true)], args := [d] }
  | _ => none }
def packWritesRow : OpenClaim := { program := "ytegpoghgddjmaaa", sum := "943093fd1efae76dc4f35768eae5dce9d957d9cbada148550283908ddb7c6205", func := "limnograph/limnographlaw02.PackWrites", spec := "packWrites", apart := false }
def PackWritesSaid : Prop := packWritesRow.holds Try.pinned (OpenSpec.ofChange packWritesSpec)

/-- ITS FALSE NEIGHBOUR: 'it returns false'. Refute it at one input. -/
def packWritesWrong : ChangeSpec := { name := "packWrites", fn := fun _ => fun
  | [d] => { results := [.lit (.bool false)], args := [d] }
  | _ => none }
def PackWritesWrongFalsely : Prop := packWritesRow.holds Try.pinned (OpenSpec.ofChange packWritesWrong)

/-- 'limnographlaw02.PackNums': WHATEVER THE INPUT: true; the input reads as it did. -/
def packNumsSpec : ChangeSpec := { name := "packNums", fn := fun _ => fun
  | [d] => { results := [.lit (.bool true)], args := [d] }
  | _ => none }
def packNumsRow : OpenClaim := { program := "ytegpoghgddjmaaa", sum := "943093fd1efae76dc4f35768eae5dce9d957d9cbada148550283908ddb7c6205", func := "limnograph/limnographlaw02.PackNums", spec := "packNums", apart := false }
def PackNumsSaid : Prop := packNumsRow.holds Try.pinned (OpenSpec.ofChange packNumsSpec)

/-- ITS FALSE NEIGHBOUR: 'it returns false'. Refute it at one input. -/
def packNumsWrong : ChangeSpec := { name := "packNums", fn := fun _ => fun
  | [d] => { results := [.lit (.bool false)], args := [d] }
  | _ => none }
def PackNumsWrongFalsely : Prop := packNumsRow.holds Try.pinned (OpenSpec.ofChange packNumsWrong)

/-- 'limnographlaw23.NetMost': WHATEVER THE INPUT: true; the input reads as it did. -/
def netMostSpec : ChangeSpec := { name := "netMost", fn := fun _ => fun
  | [d] => { results := [.lit (.bool true)], args := [d] }
  | _ => none }
def netMostRow : OpenClaim := { program := "ytegpoghgddjmaaa", sum := "943093fd1efae76dc4f35768eae5dce9d957d9cbada148550283908ddb7c6205", func := "limnograph/limnographlaw23.NetMost", spec := "netMost", apart := false }
def NetMostSaid : Prop := netMostRow.holds Try.pinned (OpenSpec.ofChange netMostSpec)

/-- ITS FALSE NEIGHBOUR: 'it returns false'. Refute it at one input. -/
def netMostWrong : ChangeSpec := { name := "netMost", fn := fun _ => fun
  | [d] => { results := [.lit (.bool false)], args := [d] }
  | _ => none }
def NetMostWrongFalsely : Prop := netMostRow.holds Try.pinned (OpenSpec.ofChange netMostWrong)

/-- 'limnographlaw23.NetPlays': WHATEVER THE INPUT: true; the input reads as it did. -/
def netPlaysSpec : ChangeSpec := { name := "netPlays", fn := fun _ => fun
  | [d] => { results := [.lit (.bool true)], args := [d] }
  | _ => none }
def netPlaysRow : OpenClaim := { program := "ytegpoghgddjmaaa", sum := "943093fd1efae76dc4f35768eae5dce9d957d9cbada148550283908ddb7c6205", func := "limnograph/limnographlaw23.NetPlays", spec := "netPlays", apart := false }
def NetPlaysSaid : Prop := netPlaysRow.holds Try.pinned (OpenSpec.ofChange netPlaysSpec)

/-- ITS FALSE NEIGHBOUR: 'it returns false'. Refute it at one input. -/
def netPlaysWrong : ChangeSpec := { name := "netPlays", fn := fun _ => fun
  | [d] => { results := [.lit (.bool false)], args := [d] }
  | _ => none }
def NetPlaysWrongFalsely : Prop := netPlaysRow.holds Try.pinned (OpenSpec.ofChange netPlaysWrong)

/-- 'limnographlaw02.PackReads': WHATEVER THE INPUT: true; the input reads as it did. -/
def packReadsSpec : ChangeSpec := { name := "packReads", fn := fun _ => fun
  | [d1, d2] => { results := [.lit (.bool true)], args := [d1, d2] }
  | _ => none }
def packReadsRow : OpenClaim := { program := "ytegpoghgddjmaaa", sum := "943093fd1efae76dc4f35768eae5dce9d957d9cbada148550283908ddb7c6205", func := "limnograph/limnographlaw02.PackReads", spec := "packReads", apart := false }
def PackReadsSaid : Prop := packReadsRow.holds Try.pinned (OpenSpec.ofChange packReadsSpec)

/-- ITS FALSE NEIGHBOUR: 'it returns false'. Refute it at one input. -/
def packReadsWrong : ChangeSpec := { name := "packReads", fn := fun _ => fun
  | [d1, d2] => { results := [.lit (.bool false)], args := [d1, d2] }
  | _ => none }
def PackReadsWrongFalsely : Prop := packReadsRow.holds Try.pinned (OpenSpec.ofChange packReadsWrong)

/-- 'limnographlaw02.PackBack': WHATEVER THE INPUT: true; the input reads as it did. -/
def packBackSpec : ChangeSpec := { name := "packBack", fn := fun _ => fun
  | [d] => { results := [.lit (.bool true)], args := [d] }
  | _ => none }
def packBackRow : OpenClaim := { program := "ytegpoghgddjmaaa", sum := "943093fd1efae76dc4f35768eae5dce9d957d9cbada148550283908ddb7c6205", func := "limnograph/limnographlaw02.PackBack", spec := "packBack", apart := false }
def PackBackSaid : Prop := packBackRow.holds Try.pinned (OpenSpec.ofChange packBackSpec)

/-- ITS FALSE NEIGHBOUR: 'it returns false'. Refute it at one input. -/
def packBackWrong : ChangeSpec := { name := "packBack", fn := fun _ => fun
  | [d] => { results := [.lit (.bool false)], args := [d] }
  | _ => none }
def PackBackWrongFalsely : Prop := packBackRow.holds Try.pinned (OpenSpec.ofChange packBackWrong)

/-- 'limnographlaw23.NetBytes': WHATEVER THE INPUT: true; the input reads as it did. -/
def netBytesSpec : ChangeSpec := { name := "netBytes", fn := fun _ => fun
  | [d1, d2] => { results := [.lit (.bool true)], args := [d1, d2] }
  | _ => none }
def netBytesRow : OpenClaim := { program := "ytegpoghgddjmaaa", sum := "943093fd1efae76dc4f35768eae5dce9d957d9cbada148550283908ddb7c6205", func := "limnograph/limnographlaw23.NetBytes", spec := "netBytes", apart := false }
def NetBytesSaid : Prop := netBytesRow.holds Try.pinned (OpenSpec.ofChange netBytesSpec)

/-- ITS FALSE NEIGHBOUR: 'it returns false'. Refute it at one input. -/
def netBytesWrong : ChangeSpec := { name := "netBytes", fn := fun _ => fun
  | [d1, d2] => { results := [.lit (.bool false)], args := [d1, d2] }
  | _ => none }
def NetBytesWrongFalsely : Prop := netBytesRow.holds Try.pinned (OpenSpec.ofChange netBytesWrong)

/-- 'limnographlaw34.SymtabFinds': WHATEVER THE INPUT: true; the input reads as it did. -/
def symtabFindsSpec : ChangeSpec := { name := "symtabFinds", fn := fun _ => fun
  | [d1, d2, d3] => { results := [.lit (.bool true)], args := [d1, d2, d3] }
  | _ => none }
def symtabFindsRow : OpenClaim := { program := "ytegpoghgddjmaaa", sum := "943093fd1efae76dc4f35768eae5dce9d957d9cbada148550283908ddb7c6205", func := "limnograph/limnographlaw34.SymtabFinds", spec := "symtabFinds", unfollowed := true, recurses := true, apart := false }
def SymtabFindsSaid : Prop := symtabFindsRow.holds Try.pinned (OpenSpec.ofChange symtabFindsSpec)

/-- ITS FALSE NEIGHBOUR: 'it returns false'. Refute it at one input. -/
def symtabFindsWrong : ChangeSpec := { name := "symtabFinds", fn := fun _ => fun
  | [d1, d2, d3] => { results := [.lit (.bool false)], args := [d1, d2, d3] }
  | _ => none }
def SymtabFindsWrongFalsely : Prop := symtabFindsRow.holds Try.pinned (OpenSpec.ofChange symtabFindsWrong)

/-- 'limnographlaw34.SymtabMost': WHATEVER THE INPUT: true; the input reads as it did. -/
def symtabMostSpec : ChangeSpec := { name := "symtabMost", fn := fun _ => fun
  | [d] => { results := [.lit (.bool true)], args := [d] }
  | _ => none }
def symtabMostRow : OpenClaim := { program := "ytegpoghgddjmaaa", sum := "943093fd1efae76dc4f35768eae5dce9d957d9cbada148550283908ddb7c6205", func := "limnograph/limnographlaw34.SymtabMost", spec := "symtabMost", unfollowed := true, recurses := true, apart := false }
def SymtabMostSaid : Prop := symtabMostRow.holds Try.pinned (OpenSpec.ofChange symtabMostSpec)

/-- ITS FALSE NEIGHBOUR: 'it returns false'. Refute it at one input. -/
def symtabMostWrong : ChangeSpec := { name := "symtabMost", fn := fun _ => fun
  | [d] => { results := [.lit (.bool false)], args := [d] }
  | _ => none }
def SymtabMostWrongFalsely : Prop := symtabMostRow.holds Try.pinned (OpenSpec.ofChange symtabMostWrong)

/-- 'limnographlaw34.SymtabBuilds': WHATEVER THE INPUT: true; the input reads as it did. -/
def symtabBuildsSpec : ChangeSpec := { name := "symtabBuilds", fn := fun _ => fun
  | [d] => { results := [.lit (.bool true)], args := [d] }
  | _ => none }
def symtabBuildsRow : OpenClaim := { program := "ytegpoghgddjmaaa", sum := "943093fd1efae76dc4f35768eae5dce9d957d9cbada148550283908ddb7c6205", func := "limnograph/limnographlaw34.SymtabBuilds", spec := "symtabBuilds", unfollowed := true, recurses := true, apart := false }
def SymtabBuildsSaid : Prop := symtabBuildsRow.holds Try.pinned (OpenSpec.ofChange symtabBuildsSpec)

/-- ITS FALSE NEIGHBOUR: 'it returns false'. Refute it at one input. -/
def symtabBuildsWrong : ChangeSpec := { name := "symtabBuilds", fn := fun _ => fun
  | [d] => { results := [.lit (.bool false)], args := [d] }
  | _ => none }
def SymtabBuildsWrongFalsely : Prop := symtabBuildsRow.holds Try.pinned (OpenSpec.ofChange symtabBuildsWrong)

/-- 'limnographlaw34.SymtabOpens': WHATEVER THE INPUT: true; the input reads as it did. -/
def symtabOpensSpec : ChangeSpec := { name := "symtabOpens", fn := fun _ => fun
  | [d] => { results := [.lit (.bool true)], args := [d] }
  | _ => none }
def symtabOpensRow : OpenClaim := { program := "ytegpoghgddjmaaa", sum := "943093fd1efae76dc4f35768eae5dce9d957d9cbada148550283908ddb7c6205", func := "limnograph/limnographlaw34.SymtabOpens", spec := "symtabOpens", unfollowed := true, recurses := true, apart := false }
def SymtabOpensSaid : Prop := symtabOpensRow.holds Try.pinned (OpenSpec.ofChange symtabOpensSpec)

/-- ITS FALSE NEIGHBOUR: 'it returns false'. Refute it at one input. -/
def symtabOpensWrong : ChangeSpec := { name := "symtabOpens", fn := fun _ => fun
  | [d] => { results := [.lit (.bool false)], args := [d] }
  | _ => none }
def SymtabOpensWrongFalsely : Prop := symtabOpensRow.holds Try.pinned (OpenSpec.ofChange symtabOpensWrong)

/- THE SECOND FORM. 'bulk': how many values and letters a reading holds, each counted each time it is reached (what is shared counts as often as it is met; a slice's spare places count too). A statement '..UptoSaid' is the law's where the arguments, and the package variables that the reading takes, are together of bulk at most 1048576: NARROWER than '..Said'. Prove '..Said' where nothing that the law and all that it calls make is longer than what came in: it says more and counts as full. Else prove '..UptoSaid'. A law counts once. -/
mutual
def uptoBulk {H : Type} : DataW H → Nat
  | .lit (.string bytes) => bytes.length + 1
  | .lit _ => 1
  | .nil => 1
  | .ptr d => uptoBulk d + 1
  | .slice elems spare => uptoBulkAll elems + uptoBulkAll spare + 1
  | .agg parts => uptoBulkAll parts + 1
  | .iface _ d => uptoBulk d + 1
  | .map entries => uptoBulkEntries entries + 1
  | .held _ => 1
def uptoBulkAll {H : Type} : List (DataW H) → Nat
  | [] => 0
  | d :: r => uptoBulk d + uptoBulkAll r
def uptoBulkEntries {H : Type} : List (Lit × DataW H) → Nat
  | [] => 0
  | x :: r => uptoBulkEntry x + uptoBulkEntries r
def uptoBulkEntry {H : Type} : Lit × DataW H → Nat
  | (.string bytes, d) => bytes.length + uptoBulk d + 1
  | (_, d) => uptoBulk d + 1
 end
def uptoSmall : (H : Type) → List (DataW H) → Bool := fun _ ds => decide (uptoBulkAll ds ≤ 1048576)
def OpenSpec.upto (s : _root_.Go.ChangeSpec) : _root_.Go.OpenSpec := { _root_.Go.OpenSpec.ofChange s with cond := some uptoSmall }

/-- 'limnographlaw02.PackInts', WHERE WHAT IT READS IS OF BULK AT MOST 1048576: true; the input reads as it did. -/
def packIntsUptoRow : OpenClaim := { program := "ytegpoghgddjmaaa", sum := "943093fd1efae76dc4f35768eae5dce9d957d9cbada148550283908ddb7c6205", func := "limnograph/limnographlaw02.PackInts", spec := "packInts", apart := false, narrowed := true }
def PackIntsUptoSaid : Prop := packIntsUptoRow.holds Try.pinned (OpenSpec.upto packIntsSpec)

/-- 'limnographlaw02.PackWrites', WHERE WHAT IT READS IS OF BULK AT MOST 1048576: true; the input reads as it did. -/
def packWritesUptoRow : OpenClaim := { program := "ytegpoghgddjmaaa", sum := "943093fd1efae76dc4f35768eae5dce9d957d9cbada148550283908ddb7c6205", func := "limnograph/limnographlaw02.PackWrites", spec := "packWrites", apart := false, narrowed := true }
def PackWritesUptoSaid : Prop := packWritesUptoRow.holds Try.pinned (OpenSpec.upto packWritesSpec)

/-- 'limnographlaw02.PackNums', WHERE WHAT IT READS IS OF BULK AT MOST 1048576: true; the input reads as it did. -/
def packNumsUptoRow : OpenClaim := { program := "ytegpoghgddjmaaa", sum := "943093fd1efae76dc4f35768eae5dce9d957d9cbada148550283908ddb7c6205", func := "limnograph/limnographlaw02.PackNums", spec := "packNums", apart := false, narrowed := true }
def PackNumsUptoSaid : Prop := packNumsUptoRow.holds Try.pinned (OpenSpec.upto packNumsSpec)

/-- 'limnographlaw23.NetMost', WHERE WHAT IT READS IS OF BULK AT MOST 1048576: true; the input reads as it did. -/
def netMostUptoRow : OpenClaim := { program := "ytegpoghgddjmaaa", sum := "943093fd1efae76dc4f35768eae5dce9d957d9cbada148550283908ddb7c6205", func := "limnograph/limnographlaw23.NetMost", spec := "netMost", apart := false, narrowed := true }
def NetMostUptoSaid : Prop := netMostUptoRow.holds Try.pinned (OpenSpec.upto netMostSpec)

/-- 'limnographlaw23.NetPlays', WHERE WHAT IT READS IS OF BULK AT MOST 1048576: true; the input reads as it did. -/
def netPlaysUptoRow : OpenClaim := { program := "ytegpoghgddjmaaa", sum := "943093fd1efae76dc4f35768eae5dce9d957d9cbada148550283908ddb7c6205", func := "limnograph/limnographlaw23.NetPlays", spec := "netPlays", apart := false, narrowed := true }
def NetPlaysUptoSaid : Prop := netPlaysUptoRow.holds Try.pinned (OpenSpec.upto netPlaysSpec)

/-- 'limnographlaw02.PackReads', WHERE WHAT IT READS IS OF BULK AT MOST 1048576: true; the input reads as it did. -/
def packReadsUptoRow : OpenClaim := { program := "ytegpoghgddjmaaa", sum := "943093fd1efae76dc4f35768eae5dce9d957d9cbada148550283908ddb7c6205", func := "limnograph/limnographlaw02.PackReads", spec := "packReads", apart := false, narrowed := true }
def PackReadsUptoSaid : Prop := packReadsUptoRow.holds Try.pinned (OpenSpec.upto packReadsSpec)

/-- 'limnographlaw02.PackBack', WHERE WHAT IT READS IS OF BULK AT MOST 1048576: true; the input reads as it did. -/
def packBackUptoRow : OpenClaim := { program := "ytegpoghgddjmaaa", sum := "943093fd1efae76dc4f35768eae5dce9d957d9cbada148550283908ddb7c6205", func := "limnograph/limnographlaw02.PackBack", spec := "packBack", apart := false, narrowed := true }
def PackBackUptoSaid : Prop := packBackUptoRow.holds Try.pinned (OpenSpec.upto packBackSpec)

/-- 'limnographlaw23.NetBytes', WHERE WHAT IT READS IS OF BULK AT MOST 1048576: true; the input reads as it did. -/
def netBytesUptoRow : OpenClaim := { program := "ytegpoghgddjmaaa", sum := "943093fd1efae76dc4f35768eae5dce9d957d9cbada148550283908ddb7c6205", func := "limnograph/limnographlaw23.NetBytes", spec := "netBytes", apart := false, narrowed := true }
def NetBytesUptoSaid : Prop := netBytesUptoRow.holds Try.pinned (OpenSpec.upto netBytesSpec)

/-- 'limnographlaw34.SymtabFinds', WHERE WHAT IT READS IS OF BULK AT MOST 1048576: true; the input reads as it did. -/
def symtabFindsUptoRow : OpenClaim := { program := "ytegpoghgddjmaaa", sum := "943093fd1efae76dc4f35768eae5dce9d957d9cbada148550283908ddb7c6205", func := "limnograph/limnographlaw34.SymtabFinds", spec := "symtabFinds", unfollowed := true, recurses := true, apart := false, narrowed := true }
def SymtabFindsUptoSaid : Prop := symtabFindsUptoRow.holds Try.pinned (OpenSpec.upto symtabFindsSpec)

/-- 'limnographlaw34.SymtabMost', WHERE WHAT IT READS IS OF BULK AT MOST 1048576: true; the input reads as it did. -/
def symtabMostUptoRow : OpenClaim := { program := "ytegpoghgddjmaaa", sum := "943093fd1efae76dc4f35768eae5dce9d957d9cbada148550283908ddb7c6205", func := "limnograph/limnographlaw34.SymtabMost", spec := "symtabMost", unfollowed := true, recurses := true, apart := false, narrowed := true }
def SymtabMostUptoSaid : Prop := symtabMostUptoRow.holds Try.pinned (OpenSpec.upto symtabMostSpec)

/-- 'limnographlaw34.SymtabBuilds', WHERE WHAT IT READS IS OF BULK AT MOST 1048576: true; the input reads as it did. -/
def symtabBuildsUptoRow : OpenClaim := { program := "ytegpoghgddjmaaa", sum := "943093fd1efae76dc4f35768eae5dce9d957d9cbada148550283908ddb7c6205", func := "limnograph/limnographlaw34.SymtabBuilds", spec := "symtabBuilds", unfollowed := true, recurses := true, apart := false, narrowed := true }
def SymtabBuildsUptoSaid : Prop := symtabBuildsUptoRow.holds Try.pinned (OpenSpec.upto symtabBuildsSpec)

/-- 'limnographlaw34.SymtabOpens', WHERE WHAT IT READS IS OF BULK AT MOST 1048576: true; the input reads as it did. -/
def symtabOpensUptoRow : OpenClaim := { program := "ytegpoghgddjmaaa", sum := "943093fd1efae76dc4f35768eae5dce9d957d9cbada148550283908ddb7c6205", func := "limnograph/limnographlaw34.SymtabOpens", spec := "symtabOpens", unfollowed := true, recurses := true, apart := false, narrowed := true }
def SymtabOpensUptoSaid : Prop := symtabOpensUptoRow.holds Try.pinned (OpenSpec.upto symtabOpensSpec)

end Rows
end Go.Proofs.Ytegpoghgddjmaaa
