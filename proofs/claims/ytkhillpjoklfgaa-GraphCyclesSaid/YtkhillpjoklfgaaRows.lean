/-
  No cell of these rows narrows 'for every input' (looked for: loops, veiled, ifaces, maps, wideKeys, modest, calm, conditions, laid).
  DERIVED. THE GIVEN ROWS OF THIS SEAT. 5 by the template 'for every input the law returns true; each argument reads behind the call as it read before'; 0 by the template 'total and deterministic' (their statements: YtkhillpjoklfgaaTotals.lean).
  GIVEN WITH THE SEED: the statements are not yours to turn. If you find one false, say at which input.
  Laid BY PROGRAM, IN A SANDBOX (cutbox-rows.mjs): the forced cells as the released guide's own fill.sh prints them over the translation f3428142a02635eb… (all of the seat's roots in one cut). By AI agents, Wed Nov 11 2026. No macro, syntax, notation, axiom, sorry.
-/
import Derived.Test.YtkhillpjoklfgaaChecked
import GoSem.Claim
import GoSem.ClaimJoined
import GoSem.ClaimMapViews
import Derived.JoinedTies
import Derived.KernelRfl
namespace Go.Proofs.Ytkhillpjoklfgaa
/- THE CELL 'sum', in the pinned program and in every row, IS THE sha256 OF THE DUMP (.gsa) THAT YtkhillpjoklfgaaProg.lean LOADS. Nothing in Lean hashes anything: it is a label: what it is worth is what the hold of that sum in a sandbox is worth. -/
noncomputable def Try.pinned : Pinned := { name := "ytkhillpjoklfgaa", sum := "f3428142a02635eb88f34cc1ce824d7d43b12f61e72e0a55f31ca8f9e42f4bed", checked := Try.checked }
namespace Rows
def none {H : Type} : Left H := { results := [], args := [] }

/-- 'tmesislaw13.GraphAll': WHATEVER THE INPUT: true; the input reads as it did. -/
def graphAllSpec : ChangeSpec := { name := "graphAll", fn := fun _ => fun
  | [d1, d2, d3] => { results := [.lit (.bool true)], args := [d1, d2, d3] }
  | _ => none }
def graphAllRow : OpenClaim := { program := "ytkhillpjoklfgaa", sum := "f3428142a02635eb88f34cc1ce824d7d43b12f61e72e0a55f31ca8f9e42f4bed", func := "tmesis/tmesislaw13.GraphAll", spec := "graphAll", apart := false }
def GraphAllSaid : Prop := graphAllRow.holds Try.pinned (OpenSpec.ofChange graphAllSpec)

/-- ITS FALSE NEIGHBOUR: 'it returns false'. Refute it at one input. -/
def graphAllWrong : ChangeSpec := { name := "graphAll", fn := fun _ => fun
  | [d1, d2, d3] => { results := [.lit (.bool false)], args := [d1, d2, d3] }
  | _ => none }
def GraphAllWrongFalsely : Prop := graphAllRow.holds Try.pinned (OpenSpec.ofChange graphAllWrong)

/-- 'tmesislaw13.GraphLeads': WHATEVER THE INPUT: true; the input reads as it did. -/
def graphLeadsSpec : ChangeSpec := { name := "graphLeads", fn := fun _ => fun
  | [d] => { results := [.lit (.bool true)], args := [d] }
  | _ => none }
def graphLeadsRow : OpenClaim := { program := "ytkhillpjoklfgaa", sum := "f3428142a02635eb88f34cc1ce824d7d43b12f61e72e0a55f31ca8f9e42f4bed", func := "tmesis/tmesislaw13.GraphLeads", spec := "graphLeads", apart := false }
def GraphLeadsSaid : Prop := graphLeadsRow.holds Try.pinned (OpenSpec.ofChange graphLeadsSpec)

/-- ITS FALSE NEIGHBOUR: 'it returns false'. Refute it at one input. -/
def graphLeadsWrong : ChangeSpec := { name := "graphLeads", fn := fun _ => fun
  | [d] => { results := [.lit (.bool false)], args := [d] }
  | _ => none }
def GraphLeadsWrongFalsely : Prop := graphLeadsRow.holds Try.pinned (OpenSpec.ofChange graphLeadsWrong)

/-- 'tmesislaw13.GraphCycles': WHATEVER THE INPUT: true; the input reads as it did. -/
def graphCyclesSpec : ChangeSpec := { name := "graphCycles", fn := fun _ => fun
  | [d1, d2] => { results := [.lit (.bool true)], args := [d1, d2] }
  | _ => none }
def graphCyclesRow : OpenClaim := { program := "ytkhillpjoklfgaa", sum := "f3428142a02635eb88f34cc1ce824d7d43b12f61e72e0a55f31ca8f9e42f4bed", func := "tmesis/tmesislaw13.GraphCycles", spec := "graphCycles", apart := false }
def GraphCyclesSaid : Prop := graphCyclesRow.holds Try.pinned (OpenSpec.ofChange graphCyclesSpec)

/-- ITS FALSE NEIGHBOUR: 'it returns false'. Refute it at one input. -/
def graphCyclesWrong : ChangeSpec := { name := "graphCycles", fn := fun _ => fun
  | [d1, d2] => { results := [.lit (.bool false)], args := [d1, d2] }
  | _ => none }
def GraphCyclesWrongFalsely : Prop := graphCyclesRow.holds Try.pinned (OpenSpec.ofChange graphCyclesWrong)

/-- 'tmesislaw13.GraphKeeps': WHATEVER THE INPUT: true; the input reads as it did. -/
def graphKeepsSpec : ChangeSpec := { name := "graphKeeps", fn := fun _ => fun
  | [d1, d2] => { results := [.lit (.bool true)], args := [d1, d2] }
  | _ => none }
def graphKeepsRow : OpenClaim := { program := "ytkhillpjoklfgaa", sum := "f3428142a02635eb88f34cc1ce824d7d43b12f61e72e0a55f31ca8f9e42f4bed", func := "tmesis/tmesislaw13.GraphKeeps", spec := "graphKeeps", apart := false }
def GraphKeepsSaid : Prop := graphKeepsRow.holds Try.pinned (OpenSpec.ofChange graphKeepsSpec)

/-- ITS FALSE NEIGHBOUR: 'it returns false'. Refute it at one input. -/
def graphKeepsWrong : ChangeSpec := { name := "graphKeeps", fn := fun _ => fun
  | [d1, d2] => { results := [.lit (.bool false)], args := [d1, d2] }
  | _ => none }
def GraphKeepsWrongFalsely : Prop := graphKeepsRow.holds Try.pinned (OpenSpec.ofChange graphKeepsWrong)

/-- 'tmesislaw13.GraphLadder': WHATEVER THE INPUT: true; the input reads as it did. -/
def graphLadderSpec : ChangeSpec := { name := "graphLadder", fn := fun _ => fun
  | [d1, d2] => { results := [.lit (.bool true)], args := [d1, d2] }
  | _ => none }
def graphLadderRow : OpenClaim := { program := "ytkhillpjoklfgaa", sum := "f3428142a02635eb88f34cc1ce824d7d43b12f61e72e0a55f31ca8f9e42f4bed", func := "tmesis/tmesislaw13.GraphLadder", spec := "graphLadder", apart := false }
def GraphLadderSaid : Prop := graphLadderRow.holds Try.pinned (OpenSpec.ofChange graphLadderSpec)

/-- ITS FALSE NEIGHBOUR: 'it returns false'. Refute it at one input. -/
def graphLadderWrong : ChangeSpec := { name := "graphLadder", fn := fun _ => fun
  | [d1, d2] => { results := [.lit (.bool false)], args := [d1, d2] }
  | _ => none }
def GraphLadderWrongFalsely : Prop := graphLadderRow.holds Try.pinned (OpenSpec.ofChange graphLadderWrong)

/- THE SECOND FORM. 'bulk': how many values and letters a reading holds, each counted each time it is reached (what is shared counts as often as it is met; a slice's spare places count too). A statement '..UptoSaid' is the law's where the arguments, and the package variables that the reading takes, are together of bulk at most 1048576: NARROWER than '..Said'. Prove '..Said' where nothing that the law and all that it calls make is longer than what came in: it says more and counts as full. Else prove '..UptoSaid'. A law counts once. -/
mutual
def uptoBulk {H : Type} : DataW H → Nat
  | .lit (.string bytes) => bytes.length + 1
  | .lit _ => 1
  | .nil => 1
  | .ptr d => uptoBulk d + 1
  | .slice elems spare => uptoBulkAll elems + uptoBulkAll spare + 1
  | .agg parts => uptoBulkAll parts + 1
  | .iface _ d => uptoBulk d + 1
  | .map entries => uptoBulkEntries entries + 1
  | .held _ => 1
def uptoBulkAll {H : Type} : List (DataW H) → Nat
  | [] => 0
  | d :: r => uptoBulk d + uptoBulkAll r
def uptoBulkEntries {H : Type} : List (Lit × DataW H) → Nat
  | [] => 0
  | x :: r => uptoBulkEntry x + uptoBulkEntries r
def uptoBulkEntry {H : Type} : Lit × DataW H → Nat
  | (.string bytes, d) => bytes.length + uptoBulk d + 1
  | (_, d) => uptoBulk d + 1
 end
def uptoSmall : (H : Type) → List (DataW H) → Bool := fun _ ds => decide (uptoBulkAll ds ≤ 1048576)
def OpenSpec.upto (s : _root_.Go.ChangeSpec) : _root_.Go.OpenSpec := { _root_.Go.OpenSpec.ofChange s with cond := some uptoSmall }

/-- 'tmesislaw13.GraphAll', WHERE WHAT IT READS IS OF BULK AT MOST 1048576: true; the input reads as it did. -/
def graphAllUptoRow : OpenClaim := { program := "ytkhillpjoklfgaa", sum := "f3428142a02635eb88f34cc1ce824d7d43b12f61e72e0a55f31ca8f9e42f4bed", func := "tmesis/tmesislaw13.GraphAll", spec := "graphAll", apart := false, narrowed := true }
def GraphAllUptoSaid : Prop := graphAllUptoRow.holds Try.pinned (OpenSpec.upto graphAllSpec)

/-- 'tmesislaw13.GraphLeads', WHERE WHAT IT READS IS OF BULK AT MOST 1048576: true; the input reads as it did. -/
def graphLeadsUptoRow : OpenClaim := { program := "ytkhillpjoklfgaa", sum := "f3428142a02635eb88f34cc1ce824d7d43b12f61e72e0a55f31ca8f9e42f4bed", func := "tmesis/tmesislaw13.GraphLeads", spec := "graphLeads", apart := false, narrowed := true }
def GraphLeadsUptoSaid : Prop := graphLeadsUptoRow.holds Try.pinned (OpenSpec.upto graphLeadsSpec)

/-- 'tmesislaw13.GraphCycles', WHERE WHAT IT READS IS OF BULK AT MOST 1048576: true; the input reads as it did. -/
def graphCyclesUptoRow : OpenClaim := { program := "ytkhillpjoklfgaa", sum := "f3428142a02635eb88f34cc1ce824d7d43b12f61e72e0a55f31ca8f9e42f4bed", func := "tmesis/tmesislaw13.GraphCycles", spec := "graphCycles", apart := false, narrowed := true }
def GraphCyclesUptoSaid : Prop := graphCyclesUptoRow.holds Try.pinned (OpenSpec.upto graphCyclesSpec)

/-- 'tmesislaw13.GraphKeeps', WHERE WHAT IT READS IS OF BULK AT MOST 1048576: true; the input reads as it did. -/
def graphKeepsUptoRow : OpenClaim := { program := "ytkhillpjoklfgaa", sum := "f3428142a02635eb88f34cc1ce824d7d43b12f61e72e0a55f31ca8f9e42f4bed", func := "tmesis/tmesislaw13.GraphKeeps", spec := "graphKeeps", apart := false, narrowed := true }
def GraphKeepsUptoSaid : Prop := graphKeepsUptoRow.holds Try.pinned (OpenSpec.upto graphKeepsSpec)

/-- 'tmesislaw13.GraphLadder', WHERE WHAT IT READS IS OF BULK AT MOST 1048576: true; the input reads as it did. -/
def graphLadderUptoRow : OpenClaim := { program := "ytkhillpjoklfgaa", sum := "f3428142a02635eb88f34cc1ce824d7d43b12f61e72e0a55f31ca8f9e42f4bed", func := "tmesis/tmesislaw13.GraphLadder", spec := "graphLadder", apart := false, narrowed := true }
def GraphLadderUptoSaid : Prop := graphLadderUptoRow.holds Try.pinned (OpenSpec.upto graphLadderSpec)

end Rows
end Go.Proofs.Ytkhillpjoklfgaa
