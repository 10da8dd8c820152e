/-
  No cell of these rows narrows 'for every input' (looked for: loops, veiled, ifaces, maps, wideKeys, modest, calm, conditions, laid).
  DERIVED. THE GIVEN ROWS OF THIS SEAT. 9 by the template 'for every input the law returns true; each argument reads behind the call as it read before'; 0 by the template 'total and deterministic' (their statements: YtnkbmpdghjhlfaaTotals.lean).
  GIVEN WITH THE SEED: the statements are not yours to turn. If you find one false, say at which input.
  Laid BY PROGRAM, IN A SANDBOX (cutbox-rows.mjs): the forced cells as the released guide's own fill.sh prints them over the translation be6b289386d9c9ba… (all of the seat's roots in one cut). By AI agents, Wed Nov 11 2026. No macro, syntax, notation, axiom, sorry.
-/
import Derived.Test.YtnkbmpdghjhlfaaChecked
import GoSem.Claim
import GoSem.ClaimJoined
import GoSem.ClaimMapViews
import Derived.JoinedTies
import Derived.KernelRfl
namespace Go.Proofs.Ytnkbmpdghjhlfaa
/- THE CELL 'sum', in the pinned program and in every row, IS THE sha256 OF THE DUMP (.gsa) THAT YtnkbmpdghjhlfaaProg.lean LOADS. Nothing in Lean hashes anything: it is a label: what it is worth is what the hold of that sum in a sandbox is worth. -/
noncomputable def Try.pinned : Pinned := { name := "ytnkbmpdghjhlfaa", sum := "be6b289386d9c9bab2213f549896c438779e343a37d2c95db3aa8fc022ccc4b4", checked := Try.checked }
namespace Rows
def none {H : Type} : Left H := { results := [], args := [] }

/-- 'ontimelaw25.DominatorTree': WHATEVER THE INPUT: true; the input reads as it did. -/
def dominatorTreeSpec : ChangeSpec := { name := "dominatorTree", fn := fun _ => fun
  | [d] => { results := [.lit (.bool true)], args := [d] }
  | _ => none }
def dominatorTreeRow : OpenClaim := { program := "ytnkbmpdghjhlfaa", sum := "be6b289386d9c9bab2213f549896c438779e343a37d2c95db3aa8fc022ccc4b4", func := "ontime/ontimelaw25.DominatorTree", spec := "dominatorTree", unfollowed := true, recurses := true, apart := false }
def DominatorTreeSaid : Prop := dominatorTreeRow.holds Try.pinned (OpenSpec.ofChange dominatorTreeSpec)

/-- ITS FALSE NEIGHBOUR: 'it returns false'. Refute it at one input. -/
def dominatorTreeWrong : ChangeSpec := { name := "dominatorTree", fn := fun _ => fun
  | [d] => { results := [.lit (.bool false)], args := [d] }
  | _ => none }
def DominatorTreeWrongFalsely : Prop := dominatorTreeRow.holds Try.pinned (OpenSpec.ofChange dominatorTreeWrong)

/-- 'ontimelaw25.DominatorDominates': WHATEVER THE INPUT: true; the input reads as it did. -/
def dominatorDominatesSpec : ChangeSpec := { name := "dominatorDominates", fn := fun _ => fun
  | [d1, d2, d3] => { results := [.lit (.bool true)], args := [d1, d2, d3] }
  | _ => none }
def dominatorDominatesRow : OpenClaim := { program := "ytnkbmpdghjhlfaa", sum := "be6b289386d9c9bab2213f549896c438779e343a37d2c95db3aa8fc022ccc4b4", func := "ontime/ontimelaw25.DominatorDominates", spec := "dominatorDominates", unfollowed := true, recurses := true, apart := false }
def DominatorDominatesSaid : Prop := dominatorDominatesRow.holds Try.pinned (OpenSpec.ofChange dominatorDominatesSpec)

/-- ITS FALSE NEIGHBOUR: 'it returns false'. Refute it at one input. -/
def dominatorDominatesWrong : ChangeSpec := { name := "dominatorDominates", fn := fun _ => fun
  | [d1, d2, d3] => { results := [.lit (.bool false)], args := [d1, d2, d3] }
  | _ => none }
def DominatorDominatesWrongFalsely : Prop := dominatorDominatesRow.holds Try.pinned (OpenSpec.ofChange dominatorDominatesWrong)

/-- 'ontimelaw25.DominatorChains': WHATEVER THE INPUT: true; the input reads as it did. -/
def dominatorChainsSpec : ChangeSpec := { name := "dominatorChains", fn := fun _ => fun
  | [d1, d2, d3] => { results := [.lit (.bool true)], args := [d1, d2, d3] }
  | _ => none }
def dominatorChainsRow : OpenClaim := { program := "ytnkbmpdghjhlfaa", sum := "be6b289386d9c9bab2213f549896c438779e343a37d2c95db3aa8fc022ccc4b4", func := "ontime/ontimelaw25.DominatorChains", spec := "dominatorChains", unfollowed := true, recurses := true, apart := false }
def DominatorChainsSaid : Prop := dominatorChainsRow.holds Try.pinned (OpenSpec.ofChange dominatorChainsSpec)

/-- ITS FALSE NEIGHBOUR: 'it returns false'. Refute it at one input. -/
def dominatorChainsWrong : ChangeSpec := { name := "dominatorChains", fn := fun _ => fun
  | [d1, d2, d3] => { results := [.lit (.bool false)], args := [d1, d2, d3] }
  | _ => none }
def DominatorChainsWrongFalsely : Prop := dominatorChainsRow.holds Try.pinned (OpenSpec.ofChange dominatorChainsWrong)

/-- 'ontimelaw25.DominatorOrder': WHATEVER THE INPUT: true; the input reads as it did. -/
def dominatorOrderSpec : ChangeSpec := { name := "dominatorOrder", fn := fun _ => fun
  | [d] => { results := [.lit (.bool true)], args := [d] }
  | _ => none }
def dominatorOrderRow : OpenClaim := { program := "ytnkbmpdghjhlfaa", sum := "be6b289386d9c9bab2213f549896c438779e343a37d2c95db3aa8fc022ccc4b4", func := "ontime/ontimelaw25.DominatorOrder", spec := "dominatorOrder", unfollowed := true, recurses := true, apart := false }
def DominatorOrderSaid : Prop := dominatorOrderRow.holds Try.pinned (OpenSpec.ofChange dominatorOrderSpec)

/-- ITS FALSE NEIGHBOUR: 'it returns false'. Refute it at one input. -/
def dominatorOrderWrong : ChangeSpec := { name := "dominatorOrder", fn := fun _ => fun
  | [d] => { results := [.lit (.bool false)], args := [d] }
  | _ => none }
def DominatorOrderWrongFalsely : Prop := dominatorOrderRow.holds Try.pinned (OpenSpec.ofChange dominatorOrderWrong)

/-- 'ontimelaw25.DominatorFirst': WHATEVER THE INPUT: true; the input reads as it did. -/
def dominatorFirstSpec : ChangeSpec := { name := "dominatorFirst", fn := fun _ => fun
  | [d] => { results := [.lit (.bool true)], args := [d] }
  | _ => none }
def dominatorFirstRow : OpenClaim := { program := "ytnkbmpdghjhlfaa", sum := "be6b289386d9c9bab2213f549896c438779e343a37d2c95db3aa8fc022ccc4b4", func := "ontime/ontimelaw25.DominatorFirst", spec := "dominatorFirst", unfollowed := true, recurses := true, apart := false }
def DominatorFirstSaid : Prop := dominatorFirstRow.holds Try.pinned (OpenSpec.ofChange dominatorFirstSpec)

/-- ITS FALSE NEIGHBOUR: 'it returns false'. Refute it at one input. -/
def dominatorFirstWrong : ChangeSpec := { name := "dominatorFirst", fn := fun _ => fun
  | [d] => { results := [.lit (.bool false)], args := [d] }
  | _ => none }
def DominatorFirstWrongFalsely : Prop := dominatorFirstRow.holds Try.pinned (OpenSpec.ofChange dominatorFirstWrong)

/-- 'ontimelaw25.DominatorFrontier': WHATEVER THE INPUT: true; the input reads as it did. -/
def dominatorFrontierSpec : ChangeSpec := { name := "dominatorFrontier", fn := fun _ => fun
  | [d] => { results := [.lit (.bool true)], args := [d] }
  | _ => none }
def dominatorFrontierRow : OpenClaim := { program := "ytnkbmpdghjhlfaa", sum := "be6b289386d9c9bab2213f549896c438779e343a37d2c95db3aa8fc022ccc4b4", func := "ontime/ontimelaw25.DominatorFrontier", spec := "dominatorFrontier", unfollowed := true, recurses := true, apart := false }
def DominatorFrontierSaid : Prop := dominatorFrontierRow.holds Try.pinned (OpenSpec.ofChange dominatorFrontierSpec)

/-- ITS FALSE NEIGHBOUR: 'it returns false'. Refute it at one input. -/
def dominatorFrontierWrong : ChangeSpec := { name := "dominatorFrontier", fn := fun _ => fun
  | [d] => { results := [.lit (.bool false)], args := [d] }
  | _ => none }
def DominatorFrontierWrongFalsely : Prop := dominatorFrontierRow.holds Try.pinned (OpenSpec.ofChange dominatorFrontierWrong)

/-- 'ontimelaw25.DominatorJoins': WHATEVER THE INPUT: true; the input reads as it did. -/
def dominatorJoinsSpec : ChangeSpec := { name := "dominatorJoins", fn := fun _ => fun
  | [d] => { results := [.lit (.bool true)], args := [d] }
  | _ => none }
def dominatorJoinsRow : OpenClaim := { program := "ytnkbmpdghjhlfaa", sum := "be6b289386d9c9bab2213f549896c438779e343a37d2c95db3aa8fc022ccc4b4", func := "ontime/ontimelaw25.DominatorJoins", spec := "dominatorJoins", unfollowed := true, recurses := true, apart := false }
def DominatorJoinsSaid : Prop := dominatorJoinsRow.holds Try.pinned (OpenSpec.ofChange dominatorJoinsSpec)

/-- ITS FALSE NEIGHBOUR: 'it returns false'. Refute it at one input. -/
def dominatorJoinsWrong : ChangeSpec := { name := "dominatorJoins", fn := fun _ => fun
  | [d] => { results := [.lit (.bool false)], args := [d] }
  | _ => none }
def DominatorJoinsWrongFalsely : Prop := dominatorJoinsRow.holds Try.pinned (OpenSpec.ofChange dominatorJoinsWrong)

/-- 'ontimelaw25.DominatorTransitive': WHATEVER THE INPUT: true; the input reads as it did. -/
def dominatorTransitiveSpec : ChangeSpec := { name := "dominatorTransitive", fn := fun _ => fun
  | [d1, d2, d3, d4] => { results := [.lit (.bool true)], args := [d1, d2, d3, d4] }
  | _ => none }
def dominatorTransitiveRow : OpenClaim := { program := "ytnkbmpdghjhlfaa", sum := "be6b289386d9c9bab2213f549896c438779e343a37d2c95db3aa8fc022ccc4b4", func := "ontime/ontimelaw25.DominatorTransitive", spec := "dominatorTransitive", unfollowed := true, recurses := true, apart := false }
def DominatorTransitiveSaid : Prop := dominatorTransitiveRow.holds Try.pinned (OpenSpec.ofChange dominatorTransitiveSpec)

/-- ITS FALSE NEIGHBOUR: 'it returns false'. Refute it at one input. -/
def dominatorTransitiveWrong : ChangeSpec := { name := "dominatorTransitive", fn := fun _ => fun
  | [d1, d2, d3, d4] => { results := [.lit (.bool false)], args := [d1, d2, d3, d4] }
  | _ => none }
def DominatorTransitiveWrongFalsely : Prop := dominatorTransitiveRow.holds Try.pinned (OpenSpec.ofChange dominatorTransitiveWrong)

/-- 'ontimelaw25.DominatorEdges': WHATEVER THE INPUT: true; the input reads as it did. -/
def dominatorEdgesSpec : ChangeSpec := { name := "dominatorEdges", fn := fun _ => fun
  | [d] => { results := [.lit (.bool true)], args := [d] }
  | _ => none }
def dominatorEdgesRow : OpenClaim := { program := "ytnkbmpdghjhlfaa", sum := "be6b289386d9c9bab2213f549896c438779e343a37d2c95db3aa8fc022ccc4b4", func := "ontime/ontimelaw25.DominatorEdges", spec := "dominatorEdges", unfollowed := true, recurses := true, apart := false }
def DominatorEdgesSaid : Prop := dominatorEdgesRow.holds Try.pinned (OpenSpec.ofChange dominatorEdgesSpec)

/-- ITS FALSE NEIGHBOUR: 'it returns false'. Refute it at one input. -/
def dominatorEdgesWrong : ChangeSpec := { name := "dominatorEdges", fn := fun _ => fun
  | [d] => { results := [.lit (.bool false)], args := [d] }
  | _ => none }
def DominatorEdgesWrongFalsely : Prop := dominatorEdgesRow.holds Try.pinned (OpenSpec.ofChange dominatorEdgesWrong)

/- THE SECOND FORM. 'bulk': how many values and letters a reading holds, each counted each time it is reached (what is shared counts as often as it is met; a slice's spare places count too). A statement '..UptoSaid' is the law's where the arguments, and the package variables that the reading takes, are together of bulk at most 1048576: NARROWER than '..Said'. Prove '..Said' where nothing that the law and all that it calls make is longer than what came in: it says more and counts as full. Else prove '..UptoSaid'. A law counts once. -/
mutual
def uptoBulk {H : Type} : DataW H → Nat
  | .lit (.string bytes) => bytes.length + 1
  | .lit _ => 1
  | .nil => 1
  | .ptr d => uptoBulk d + 1
  | .slice elems spare => uptoBulkAll elems + uptoBulkAll spare + 1
  | .agg parts => uptoBulkAll parts + 1
  | .iface _ d => uptoBulk d + 1
  | .map entries => uptoBulkEntries entries + 1
  | .held _ => 1
def uptoBulkAll {H : Type} : List (DataW H) → Nat
  | [] => 0
  | d :: r => uptoBulk d + uptoBulkAll r
def uptoBulkEntries {H : Type} : List (Lit × DataW H) → Nat
  | [] => 0
  | x :: r => uptoBulkEntry x + uptoBulkEntries r
def uptoBulkEntry {H : Type} : Lit × DataW H → Nat
  | (.string bytes, d) => bytes.length + uptoBulk d + 1
  | (_, d) => uptoBulk d + 1
 end
def uptoSmall : (H : Type) → List (DataW H) → Bool := fun _ ds => decide (uptoBulkAll ds ≤ 1048576)
def OpenSpec.upto (s : _root_.Go.ChangeSpec) : _root_.Go.OpenSpec := { _root_.Go.OpenSpec.ofChange s with cond := some uptoSmall }

/-- 'ontimelaw25.DominatorTree', WHERE WHAT IT READS IS OF BULK AT MOST 1048576: true; the input reads as it did. -/
def dominatorTreeUptoRow : OpenClaim := { program := "ytnkbmpdghjhlfaa", sum := "be6b289386d9c9bab2213f549896c438779e343a37d2c95db3aa8fc022ccc4b4", func := "ontime/ontimelaw25.DominatorTree", spec := "dominatorTree", unfollowed := true, recurses := true, apart := false, narrowed := true }
def DominatorTreeUptoSaid : Prop := dominatorTreeUptoRow.holds Try.pinned (OpenSpec.upto dominatorTreeSpec)

/-- 'ontimelaw25.DominatorDominates', WHERE WHAT IT READS IS OF BULK AT MOST 1048576: true; the input reads as it did. -/
def dominatorDominatesUptoRow : OpenClaim := { program := "ytnkbmpdghjhlfaa", sum := "be6b289386d9c9bab2213f549896c438779e343a37d2c95db3aa8fc022ccc4b4", func := "ontime/ontimelaw25.DominatorDominates", spec := "dominatorDominates", unfollowed := true, recurses := true, apart := false, narrowed := true }
def DominatorDominatesUptoSaid : Prop := dominatorDominatesUptoRow.holds Try.pinned (OpenSpec.upto dominatorDominatesSpec)

/-- 'ontimelaw25.DominatorChains', WHERE WHAT IT READS IS OF BULK AT MOST 1048576: true; the input reads as it did. -/
def dominatorChainsUptoRow : OpenClaim := { program := "ytnkbmpdghjhlfaa", sum := "be6b289386d9c9bab2213f549896c438779e343a37d2c95db3aa8fc022ccc4b4", func := "ontime/ontimelaw25.DominatorChains", spec := "dominatorChains", unfollowed := true, recurses := true, apart := false, narrowed := true }
def DominatorChainsUptoSaid : Prop := dominatorChainsUptoRow.holds Try.pinned (OpenSpec.upto dominatorChainsSpec)

/-- 'ontimelaw25.DominatorOrder', WHERE WHAT IT READS IS OF BULK AT MOST 1048576: true; the input reads as it did. -/
def dominatorOrderUptoRow : OpenClaim := { program := "ytnkbmpdghjhlfaa", sum := "be6b289386d9c9bab2213f549896c438779e343a37d2c95db3aa8fc022ccc4b4", func := "ontime/ontimelaw25.DominatorOrder", spec := "dominatorOrder", unfollowed := true, recurses := true, apart := false, narrowed := true }
def DominatorOrderUptoSaid : Prop := dominatorOrderUptoRow.holds Try.pinned (OpenSpec.upto dominatorOrderSpec)

/-- 'ontimelaw25.DominatorFirst', WHERE WHAT IT READS IS OF BULK AT MOST 1048576: true; the input reads as it did. -/
def dominatorFirstUptoRow : OpenClaim := { program := "ytnkbmpdghjhlfaa", sum := "be6b289386d9c9bab2213f549896c438779e343a37d2c95db3aa8fc022ccc4b4", func := "ontime/ontimelaw25.DominatorFirst", spec := "dominatorFirst", unfollowed := true, recurses := true, apart := false, narrowed := true }
def DominatorFirstUptoSaid : Prop := dominatorFirstUptoRow.holds Try.pinned (OpenSpec.upto dominatorFirstSpec)

/-- 'ontimelaw25.DominatorFrontier', WHERE WHAT IT READS IS OF BULK AT MOST 1048576: true; the input reads as it did. -/
def dominatorFrontierUptoRow : OpenClaim := { program := "ytnkbmpdghjhlfaa", sum := "be6b289386d9c9bab2213f549896c438779e343a37d2c95db3aa8fc022ccc4b4", func := "ontime/ontimelaw25.DominatorFrontier", spec := "dominatorFrontier", unfollowed := true, recurses := true, apart := false, narrowed := true }
def DominatorFrontierUptoSaid : Prop := dominatorFrontierUptoRow.holds Try.pinned (OpenSpec.upto dominatorFrontierSpec)

/-- 'ontimelaw25.DominatorJoins', WHERE WHAT IT READS IS OF BULK AT MOST 1048576: true; the input reads as it did. -/
def dominatorJoinsUptoRow : OpenClaim := { program := "ytnkbmpdghjhlfaa", sum := "be6b289386d9c9bab2213f549896c438779e343a37d2c95db3aa8fc022ccc4b4", func := "ontime/ontimelaw25.DominatorJoins", spec := "dominatorJoins", unfollowed := true, recurses := true, apart := false, narrowed := true }
def DominatorJoinsUptoSaid : Prop := dominatorJoinsUptoRow.holds Try.pinned (OpenSpec.upto dominatorJoinsSpec)

/-- 'ontimelaw25.DominatorTransitive', WHERE WHAT IT READS IS OF BULK AT MOST 1048576: true; the input reads as it did. -/
def dominatorTransitiveUptoRow : OpenClaim := { program := "ytnkbmpdghjhlfaa", sum := "be6b289386d9c9bab2213f549896c438779e343a37d2c95db3aa8fc022ccc4b4", func := "ontime/ontimelaw25.DominatorTransitive", spec := "dominatorTransitive", unfollowed := true, recurses := true, apart := false, narrowed := true }
def DominatorTransitiveUptoSaid : Prop := dominatorTransitiveUptoRow.holds Try.pinned (OpenSpec.upto dominatorTransitiveSpec)

/-- 'ontimelaw25.DominatorEdges', WHERE WHAT IT READS IS OF BULK AT MOST 1048576: true; the input reads as it did. -/
def dominatorEdgesUptoRow : OpenClaim := { program := "ytnkbmpdghjhlfaa", sum := "be6b289386d9c9bab2213f549896c438779e343a37d2c95db3aa8fc022ccc4b4", func := "ontime/ontimelaw25.DominatorEdges", spec := "dominatorEdges", unfollowed := true, recurses := true, apart := false, narrowed := true }
def DominatorEdgesUptoSaid : Prop := dominatorEdgesUptoRow.holds Try.pinned (OpenSpec.upto dominatorEdgesSpec)

end Rows
end Go.Proofs.Ytnkbmpdghjhlfaa
