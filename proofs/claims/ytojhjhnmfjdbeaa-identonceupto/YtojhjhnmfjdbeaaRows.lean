/-
  No cell of these rows narrows 'for every input' (looked for: loops, veiled, ifaces, maps, wideKeys, modest, calm, conditions, laid).
  DERIVED. THE GIVEN ROWS OF THIS SEAT. 6 by the template 'for every input the law returns true; each argument reads behind the call as it read before'; 0 by the template 'total and deterministic' (their statements: YtojhjhnmfjdbeaaTotals.lean).
  GIVEN WITH THE SEED: the statements are not yours to turn. If you find one false, say at which input.
  Laid BY PROGRAM, IN A SANDBOX (cutbox-rows.mjs): the forced cells as the released guide's own fill.sh prints them over the translation 00f2b08983a5f2d0… (all of the seat's roots in one cut). By AI agents, Wed Nov 11 2026. No macro, syntax, notation, axiom, sorry.
-/
import Derived.Test.YtojhjhnmfjdbeaaChecked
import GoSem.Claim
import GoSem.ClaimJoined
import GoSem.ClaimMapViews
import Derived.JoinedTies
import Derived.KernelRfl
namespace Go.Proofs.Ytojhjhnmfjdbeaa
/- THE CELL 'sum', in the pinned program and in every row, IS THE sha256 OF THE DUMP (.gsa) THAT YtojhjhnmfjdbeaaProg.lean LOADS. Nothing in Lean hashes anything: it is a label: what it is worth is what the hold of that sum in a sandbox is worth. -/
noncomputable def Try.pinned : Pinned := { name := "ytojhjhnmfjdbeaa", sum := "00f2b08983a5f2d01efc63b85c71195f7699aacbe619725fc5a83cf2306f1ebe", checked := Try.checked }
namespace Rows
def none {H : Type} : Left H := { results := [], args := [] }

/-- 'tartanlaw22.IdentTrios': WHATEVER THE INPUT: true; the input reads as it did. -/
def identTriosSpec : ChangeSpec := { name := "identTrios", fn := fun _ => fun
  | [d] => { results := [.lit (.bool true)], args := [d] }
  | _ => none }
def identTriosRow : OpenClaim := { program := "ytojhjhnmfjdbeaa", sum := "00f2b08983a5f2d01efc63b85c71195f7699aacbe619725fc5a83cf2306f1ebe", func := "tartan/tartanlaw22.IdentTrios", spec := "identTrios", unfollowed := true, recurses := true, apart := false }
def IdentTriosSaid : Prop := identTriosRow.holds Try.pinned (OpenSpec.ofChange identTriosSpec)

/-- ITS FALSE NEIGHBOUR: 'it returns false'. Refute it at one input. -/
def identTriosWrong : ChangeSpec := { name := "identTrios", fn := fun _ => fun
  | [d] => { results := [.lit (.bool false)], args := [d] }
  | _ => none }
def IdentTriosWrongFalsely : Prop := identTriosRow.holds Try.pinned (OpenSpec.ofChange identTriosWrong)

/-- 'tartanlaw22.IdentSeqs': WHATEVER THE INPUT: true; the input reads as it did. -/
def identSeqsSpec : ChangeSpec := { name := "identSeqs", fn := fun _ => fun
  | [d1, d2] => { results := [.lit (.bool true)], args := [d1, d2] }
  | _ => none }
def identSeqsRow : OpenClaim := { program := "ytojhjhnmfjdbeaa", sum := "00f2b08983a5f2d01efc63b85c71195f7699aacbe619725fc5a83cf2306f1ebe", func := "tartan/tartanlaw22.IdentSeqs", spec := "identSeqs", unfollowed := true, recurses := true, apart := false }
def IdentSeqsSaid : Prop := identSeqsRow.holds Try.pinned (OpenSpec.ofChange identSeqsSpec)

/-- ITS FALSE NEIGHBOUR: 'it returns false'. Refute it at one input. -/
def identSeqsWrong : ChangeSpec := { name := "identSeqs", fn := fun _ => fun
  | [d1, d2] => { results := [.lit (.bool false)], args := [d1, d2] }
  | _ => none }
def IdentSeqsWrongFalsely : Prop := identSeqsRow.holds Try.pinned (OpenSpec.ofChange identSeqsWrong)

/-- 'tartanlaw22.IdentDoubles': WHATEVER THE INPUT: true; the input reads as it did. -/
def identDoublesSpec : ChangeSpec := { name := "identDoubles", fn := fun _ => fun
  | [d1, d2, d3, d4, d5] => { results := [.lit (.bool true)], args := [d1, d2, d3, d4, d5] }
  | _ => none }
def identDoublesRow : OpenClaim := { program := "ytojhjhnmfjdbeaa", sum := "00f2b08983a5f2d01efc63b85c71195f7699aacbe619725fc5a83cf2306f1ebe", func := "tartan/tartanlaw22.IdentDoubles", spec := "identDoubles", unfollowed := true, recurses := true, apart := false }
def IdentDoublesSaid : Prop := identDoublesRow.holds Try.pinned (OpenSpec.ofChange identDoublesSpec)

/-- ITS FALSE NEIGHBOUR: 'it returns false'. Refute it at one input. -/
def identDoublesWrong : ChangeSpec := { name := "identDoubles", fn := fun _ => fun
  | [d1, d2, d3, d4, d5] => { results := [.lit (.bool false)], args := [d1, d2, d3, d4, d5] }
  | _ => none }
def IdentDoublesWrongFalsely : Prop := identDoublesRow.holds Try.pinned (OpenSpec.ofChange identDoublesWrong)

/-- 'tartanlaw22.IdentOnce': WHATEVER THE INPUT: true; the input reads as it did. -/
def identOnceSpec : ChangeSpec := { name := "identOnce", fn := fun _ => fun
  | [d] => { results := [.lit (.bool true)], args := [d] }
  | _ => none }
def identOnceRow : OpenClaim := { program := "ytojhjhnmfjdbeaa", sum := "00f2b08983a5f2d01efc63b85c71195f7699aacbe619725fc5a83cf2306f1ebe", func := "tartan/tartanlaw22.IdentOnce", spec := "identOnce", unfollowed := true, recurses := true, apart := false }
def IdentOnceSaid : Prop := identOnceRow.holds Try.pinned (OpenSpec.ofChange identOnceSpec)

/-- ITS FALSE NEIGHBOUR: 'it returns false'. Refute it at one input. -/
def identOnceWrong : ChangeSpec := { name := "identOnce", fn := fun _ => fun
  | [d] => { results := [.lit (.bool false)], args := [d] }
  | _ => none }
def IdentOnceWrongFalsely : Prop := identOnceRow.holds Try.pinned (OpenSpec.ofChange identOnceWrong)

/-- 'tartanlaw22.IdentPairs': WHATEVER THE INPUT: true; the input reads as it did. -/
def identPairsSpec : ChangeSpec := { name := "identPairs", fn := fun _ => fun
  | [d1, d2] => { results := [.lit (.bool true)], args := [d1, d2] }
  | _ => none }
def identPairsRow : OpenClaim := { program := "ytojhjhnmfjdbeaa", sum := "00f2b08983a5f2d01efc63b85c71195f7699aacbe619725fc5a83cf2306f1ebe", func := "tartan/tartanlaw22.IdentPairs", spec := "identPairs", unfollowed := true, recurses := true, apart := false }
def IdentPairsSaid : Prop := identPairsRow.holds Try.pinned (OpenSpec.ofChange identPairsSpec)

/-- ITS FALSE NEIGHBOUR: 'it returns false'. Refute it at one input. -/
def identPairsWrong : ChangeSpec := { name := "identPairs", fn := fun _ => fun
  | [d1, d2] => { results := [.lit (.bool false)], args := [d1, d2] }
  | _ => none }
def IdentPairsWrongFalsely : Prop := identPairsRow.holds Try.pinned (OpenSpec.ofChange identPairsWrong)

/-- 'tartanlaw22.IdentTaken': WHATEVER THE INPUT: true; the input reads as it did. -/
def identTakenSpec : ChangeSpec := { name := "identTaken", fn := fun _ => fun
  | [d1, d2, d3, d4, d5] => { results := [.lit (.bool true)], args := [d1, d2, d3, d4, d5] }
  | _ => none }
def identTakenRow : OpenClaim := { program := "ytojhjhnmfjdbeaa", sum := "00f2b08983a5f2d01efc63b85c71195f7699aacbe619725fc5a83cf2306f1ebe", func := "tartan/tartanlaw22.IdentTaken", spec := "identTaken", unfollowed := true, recurses := true, apart := false }
def IdentTakenSaid : Prop := identTakenRow.holds Try.pinned (OpenSpec.ofChange identTakenSpec)

/-- ITS FALSE NEIGHBOUR: 'it returns false'. Refute it at one input. -/
def identTakenWrong : ChangeSpec := { name := "identTaken", fn := fun _ => fun
  | [d1, d2, d3, d4, d5] => { results := [.lit (.bool false)], args := [d1, d2, d3, d4, d5] }
  | _ => none }
def IdentTakenWrongFalsely : Prop := identTakenRow.holds Try.pinned (OpenSpec.ofChange identTakenWrong)

/- THE SECOND FORM. 'bulk': how many values and letters a reading holds, each counted each time it is reached (what is shared counts as often as it is met; a slice's spare places count too). A statement '..UptoSaid' is the law's where the arguments, and the package variables that the reading takes, are together of bulk at most 1048576: NARROWER than '..Said'. Prove '..Said' where nothing that the law and all that it calls make is longer than what came in: it says more and counts as full. Else prove '..UptoSaid'. A law counts once. -/
mutual
def uptoBulk {H : Type} : DataW H → Nat
  | .lit (.string bytes) => bytes.length + 1
  | .lit _ => 1
  | .nil => 1
  | .ptr d => uptoBulk d + 1
  | .slice elems spare => uptoBulkAll elems + uptoBulkAll spare + 1
  | .agg parts => uptoBulkAll parts + 1
  | .iface _ d => uptoBulk d + 1
  | .map entries => uptoBulkEntries entries + 1
  | .held _ => 1
def uptoBulkAll {H : Type} : List (DataW H) → Nat
  | [] => 0
  | d :: r => uptoBulk d + uptoBulkAll r
def uptoBulkEntries {H : Type} : List (Lit × DataW H) → Nat
  | [] => 0
  | x :: r => uptoBulkEntry x + uptoBulkEntries r
def uptoBulkEntry {H : Type} : Lit × DataW H → Nat
  | (.string bytes, d) => bytes.length + uptoBulk d + 1
  | (_, d) => uptoBulk d + 1
 end
def uptoSmall : (H : Type) → List (DataW H) → Bool := fun _ ds => decide (uptoBulkAll ds ≤ 1048576)
def OpenSpec.upto (s : _root_.Go.ChangeSpec) : _root_.Go.OpenSpec := { _root_.Go.OpenSpec.ofChange s with cond := some uptoSmall }

/-- 'tartanlaw22.IdentTrios', WHERE WHAT IT READS IS OF BULK AT MOST 1048576: true; the input reads as it did. -/
def identTriosUptoRow : OpenClaim := { program := "ytojhjhnmfjdbeaa", sum := "00f2b08983a5f2d01efc63b85c71195f7699aacbe619725fc5a83cf2306f1ebe", func := "tartan/tartanlaw22.IdentTrios", spec := "identTrios", unfollowed := true, recurses := true, apart := false, narrowed := true }
def IdentTriosUptoSaid : Prop := identTriosUptoRow.holds Try.pinned (OpenSpec.upto identTriosSpec)

/-- 'tartanlaw22.IdentSeqs', WHERE WHAT IT READS IS OF BULK AT MOST 1048576: true; the input reads as it did. -/
def identSeqsUptoRow : OpenClaim := { program := "ytojhjhnmfjdbeaa", sum := "00f2b08983a5f2d01efc63b85c71195f7699aacbe619725fc5a83cf2306f1ebe", func := "tartan/tartanlaw22.IdentSeqs", spec := "identSeqs", unfollowed := true, recurses := true, apart := false, narrowed := true }
def IdentSeqsUptoSaid : Prop := identSeqsUptoRow.holds Try.pinned (OpenSpec.upto identSeqsSpec)

/-- 'tartanlaw22.IdentDoubles', WHERE WHAT IT READS IS OF BULK AT MOST 1048576: true; the input reads as it did. -/
def identDoublesUptoRow : OpenClaim := { program := "ytojhjhnmfjdbeaa", sum := "00f2b08983a5f2d01efc63b85c71195f7699aacbe619725fc5a83cf2306f1ebe", func := "tartan/tartanlaw22.IdentDoubles", spec := "identDoubles", unfollowed := true, recurses := true, apart := false, narrowed := true }
def IdentDoublesUptoSaid : Prop := identDoublesUptoRow.holds Try.pinned (OpenSpec.upto identDoublesSpec)

/-- 'tartanlaw22.IdentOnce', WHERE WHAT IT READS IS OF BULK AT MOST 1048576: true; the input reads as it did. -/
def identOnceUptoRow : OpenClaim := { program := "ytojhjhnmfjdbeaa", sum := "00f2b08983a5f2d01efc63b85c71195f7699aacbe619725fc5a83cf2306f1ebe", func := "tartan/tartanlaw22.IdentOnce", spec := "identOnce", unfollowed := true, recurses := true, apart := false, narrowed := true }
def IdentOnceUptoSaid : Prop := identOnceUptoRow.holds Try.pinned (OpenSpec.upto identOnceSpec)

/-- 'tartanlaw22.IdentPairs', WHERE WHAT IT READS IS OF BULK AT MOST 1048576: true; the input reads as it did. -/
def identPairsUptoRow : OpenClaim := { program := "ytojhjhnmfjdbeaa", sum := "00f2b08983a5f2d01efc63b85c71195f7699aacbe619725fc5a83cf2306f1ebe", func := "tartan/tartanlaw22.IdentPairs", spec := "identPairs", unfollowed := true, recurses := true, apart := false, narrowed := true }
def IdentPairsUptoSaid : Prop := identPairsUptoRow.holds Try.pinned (OpenSpec.upto identPairsSpec)

/-- 'tartanlaw22.IdentTaken', WHERE WHAT IT READS IS OF BULK AT MOST 1048576: true; the input reads as it did. -/
def identTakenUptoRow : OpenClaim := { program := "ytojhjhnmfjdbeaa", sum := "00f2b08983a5f2d01efc63b85c71195f7699aacbe619725fc5a83cf2306f1ebe", func := "tartan/tartanlaw22.IdentTaken", spec := "identTaken", unfollowed := true, recurses := true, apart := false, narrowed := true }
def IdentTakenUptoSaid : Prop := identTakenUptoRow.holds Try.pinned (OpenSpec.upto identTakenSpec)

end Rows
end Go.Proofs.Ytojhjhnmfjdbeaa
