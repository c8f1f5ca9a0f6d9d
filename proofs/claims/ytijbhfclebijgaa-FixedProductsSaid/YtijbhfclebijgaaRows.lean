/-
  No cell of these rows narrows 'for every input' (looked for: loops, veiled, ifaces, maps, wideKeys, modest, calm, conditions, laid).
  DERIVED. THE GIVEN ROWS OF THIS SEAT. 7 by the template 'for every input the law returns true; each argument reads behind the call as it read before'; 0 by the template 'total and deterministic' (their statements: YtijbhfclebijgaaTotals.lean).
  GIVEN WITH THE SEED: the statements are not yours to turn. If you find one false, say at which input.
  Laid BY PROGRAM, IN A SANDBOX (cutbox-rows.mjs): the forced cells as the released guide's own fill.sh prints them over the translation 47be37546cc5c812… (all of the seat's roots in one cut). By AI agents, Wed Nov 11 2026. No macro, syntax, notation, axiom, sorry.
-/
import Derived.Test.YtijbhfclebijgaaChecked
import GoSem.Claim
import GoSem.ClaimJoined
import GoSem.ClaimMapViews
import Derived.JoinedTies
import Derived.KernelRfl
namespace Go.Proofs.Ytijbhfclebijgaa
/- THE CELL 'sum', in the pinned program and in every row, IS THE sha256 OF THE DUMP (.gsa) THAT YtijbhfclebijgaaProg.lean LOADS. Nothing in Lean hashes anything: it is a label: what it is worth is what the hold of that sum in a sandbox is worth. -/
noncomputable def Try.pinned : Pinned := { name := "ytijbhfclebijgaa", sum := "47be37546cc5c812f565542c1b0828098bf71c6e2efceb17348a6c01b4f8452d", checked := Try.checked }
namespace Rows
def none {H : Type} : Left H := { results := [], args := [] }

/-- 'pinnacelaw04.FixedProducts': WHATEVER THE INPUT: true; the input reads as it did. -/
def fixedProductsSpec : ChangeSpec := { name := "fixedProducts", fn := fun _ => fun
  | [d1, d2] => { results := [.lit (.bool true)], args := [d1, d2] }
  | _ => none }
def fixedProductsRow : OpenClaim := { program := "ytijbhfclebijgaa", sum := "47be37546cc5c812f565542c1b0828098bf71c6e2efceb17348a6c01b4f8452d", func := "pinnace/pinnacelaw04.FixedProducts", spec := "fixedProducts", apart := false }
def FixedProductsSaid : Prop := fixedProductsRow.holds Try.pinned (OpenSpec.ofChange fixedProductsSpec)

/-- ITS FALSE NEIGHBOUR: 'it returns false'. Refute it at one input. -/
def fixedProductsWrong : ChangeSpec := { name := "fixedProducts", fn := fun _ => fun
  | [d1, d2] => { results := [.lit (.bool false)], args := [d1, d2] }
  | _ => none }
def FixedProductsWrongFalsely : Prop := fixedProductsRow.holds Try.pinned (OpenSpec.ofChange fixedProductsWrong)

/-- 'pinnacelaw04.FixedRoots': WHATEVER THE INPUT: true; the input reads as it did. -/
def fixedRootsSpec : ChangeSpec := { name := "fixedRoots", fn := fun _ => fun
  | [d1, d2, d3] => { results := [.lit (.bool true)], args := [d1, d2, d3] }
  | _ => none }
def fixedRootsRow : OpenClaim := { program := "ytijbhfclebijgaa", sum := "47be37546cc5c812f565542c1b0828098bf71c6e2efceb17348a6c01b4f8452d", func := "pinnace/pinnacelaw04.FixedRoots", spec := "fixedRoots", apart := false }
def FixedRootsSaid : Prop := fixedRootsRow.holds Try.pinned (OpenSpec.ofChange fixedRootsSpec)

/-- ITS FALSE NEIGHBOUR: 'it returns false'. Refute it at one input. -/
def fixedRootsWrong : ChangeSpec := { name := "fixedRoots", fn := fun _ => fun
  | [d1, d2, d3] => { results := [.lit (.bool false)], args := [d1, d2, d3] }
  | _ => none }
def FixedRootsWrongFalsely : Prop := fixedRootsRow.holds Try.pinned (OpenSpec.ofChange fixedRootsWrong)

/-- 'pinnacelaw04.FixedWays': WHATEVER THE INPUT: true; the input reads as it did. -/
def fixedWaysSpec : ChangeSpec := { name := "fixedWays", fn := fun _ => fun
  | [d1, d2] => { results := [.lit (.bool true)], args := [d1, d2] }
  | _ => none }
def fixedWaysRow : OpenClaim := { program := "ytijbhfclebijgaa", sum := "47be37546cc5c812f565542c1b0828098bf71c6e2efceb17348a6c01b4f8452d", func := "pinnace/pinnacelaw04.FixedWays", spec := "fixedWays", apart := false }
def FixedWaysSaid : Prop := fixedWaysRow.holds Try.pinned (OpenSpec.ofChange fixedWaysSpec)

/-- ITS FALSE NEIGHBOUR: 'it returns false'. Refute it at one input. -/
def fixedWaysWrong : ChangeSpec := { name := "fixedWays", fn := fun _ => fun
  | [d1, d2] => { results := [.lit (.bool false)], args := [d1, d2] }
  | _ => none }
def FixedWaysWrongFalsely : Prop := fixedWaysRow.holds Try.pinned (OpenSpec.ofChange fixedWaysWrong)

/-- 'pinnacelaw04.FixedSums': WHATEVER THE INPUT: true; the input reads as it did. -/
def fixedSumsSpec : ChangeSpec := { name := "fixedSums", fn := fun _ => fun
  | [d1, d2] => { results := [.lit (.bool true)], args := [d1, d2] }
  | _ => none }
def fixedSumsRow : OpenClaim := { program := "ytijbhfclebijgaa", sum := "47be37546cc5c812f565542c1b0828098bf71c6e2efceb17348a6c01b4f8452d", func := "pinnace/pinnacelaw04.FixedSums", spec := "fixedSums", apart := false }
def FixedSumsSaid : Prop := fixedSumsRow.holds Try.pinned (OpenSpec.ofChange fixedSumsSpec)

/-- ITS FALSE NEIGHBOUR: 'it returns false'. Refute it at one input. -/
def fixedSumsWrong : ChangeSpec := { name := "fixedSums", fn := fun _ => fun
  | [d1, d2] => { results := [.lit (.bool false)], args := [d1, d2] }
  | _ => none }
def FixedSumsWrongFalsely : Prop := fixedSumsRow.holds Try.pinned (OpenSpec.ofChange fixedSumsWrong)

/-- 'pinnacelaw04.FixedOrder': WHATEVER THE INPUT: true; the input reads as it did. -/
def fixedOrderSpec : ChangeSpec := { name := "fixedOrder", fn := fun _ => fun
  | [d1, d2, d3] => { results := [.lit (.bool true)], args := [d1, d2, d3] }
  | _ => none }
def fixedOrderRow : OpenClaim := { program := "ytijbhfclebijgaa", sum := "47be37546cc5c812f565542c1b0828098bf71c6e2efceb17348a6c01b4f8452d", func := "pinnace/pinnacelaw04.FixedOrder", spec := "fixedOrder", apart := false }
def FixedOrderSaid : Prop := fixedOrderRow.holds Try.pinned (OpenSpec.ofChange fixedOrderSpec)

/-- ITS FALSE NEIGHBOUR: 'it returns false'. Refute it at one input. -/
def fixedOrderWrong : ChangeSpec := { name := "fixedOrder", fn := fun _ => fun
  | [d1, d2, d3] => { results := [.lit (.bool false)], args := [d1, d2, d3] }
  | _ => none }
def FixedOrderWrongFalsely : Prop := fixedOrderRow.holds Try.pinned (OpenSpec.ofChange fixedOrderWrong)

/-- 'pinnacelaw04.FixedFloors': WHATEVER THE INPUT: true; the input reads as it did. -/
def fixedFloorsSpec : ChangeSpec := { name := "fixedFloors", fn := fun _ => fun
  | [d1, d2] => { results := [.lit (.bool true)], args := [d1, d2] }
  | _ => none }
def fixedFloorsRow : OpenClaim := { program := "ytijbhfclebijgaa", sum := "47be37546cc5c812f565542c1b0828098bf71c6e2efceb17348a6c01b4f8452d", func := "pinnace/pinnacelaw04.FixedFloors", spec := "fixedFloors", apart := false }
def FixedFloorsSaid : Prop := fixedFloorsRow.holds Try.pinned (OpenSpec.ofChange fixedFloorsSpec)

/-- ITS FALSE NEIGHBOUR: 'it returns false'. Refute it at one input. -/
def fixedFloorsWrong : ChangeSpec := { name := "fixedFloors", fn := fun _ => fun
  | [d1, d2] => { results := [.lit (.bool false)], args := [d1, d2] }
  | _ => none }
def FixedFloorsWrongFalsely : Prop := fixedFloorsRow.holds Try.pinned (OpenSpec.ofChange fixedFloorsWrong)

/-- 'pinnacelaw04.FixedClamps': WHATEVER THE INPUT: true; the input reads as it did. -/
def fixedClampsSpec : ChangeSpec := { name := "fixedClamps", fn := fun _ => fun
  | [d1, d2, d3] => { results := [.lit (.bool true)], args := [d1, d2, d3] }
  | _ => none }
def fixedClampsRow : OpenClaim := { program := "ytijbhfclebijgaa", sum := "47be37546cc5c812f565542c1b0828098bf71c6e2efceb17348a6c01b4f8452d", func := "pinnace/pinnacelaw04.FixedClamps", spec := "fixedClamps", apart := false }
def FixedClampsSaid : Prop := fixedClampsRow.holds Try.pinned (OpenSpec.ofChange fixedClampsSpec)

/-- ITS FALSE NEIGHBOUR: 'it returns false'. Refute it at one input. -/
def fixedClampsWrong : ChangeSpec := { name := "fixedClamps", fn := fun _ => fun
  | [d1, d2, d3] => { results := [.lit (.bool false)], args := [d1, d2, d3] }
  | _ => none }
def FixedClampsWrongFalsely : Prop := fixedClampsRow.holds Try.pinned (OpenSpec.ofChange fixedClampsWrong)

/- THE SECOND FORM. 'bulk': how many values and letters a reading holds, each counted each time it is reached (what is shared counts as often as it is met; a slice's spare places count too). A statement '..UptoSaid' is the law's where the arguments, and the package variables that the reading takes, are together of bulk at most 1048576: NARROWER than '..Said'. Prove '..Said' where nothing that the law and all that it calls make is longer than what came in: it says more and counts as full. Else prove '..UptoSaid'. A law counts once. -/
mutual
def uptoBulk {H : Type} : DataW H → Nat
  | .lit (.string bytes) => bytes.length + 1
  | .lit _ => 1
  | .nil => 1
  | .ptr d => uptoBulk d + 1
  | .slice elems spare => uptoBulkAll elems + uptoBulkAll spare + 1
  | .agg parts => uptoBulkAll parts + 1
  | .iface _ d => uptoBulk d + 1
  | .map entries => uptoBulkEntries entries + 1
  | .held _ => 1
def uptoBulkAll {H : Type} : List (DataW H) → Nat
  | [] => 0
  | d :: r => uptoBulk d + uptoBulkAll r
def uptoBulkEntries {H : Type} : List (Lit × DataW H) → Nat
  | [] => 0
  | x :: r => uptoBulkEntry x + uptoBulkEntries r
def uptoBulkEntry {H : Type} : Lit × DataW H → Nat
  | (.string bytes, d) => bytes.length + uptoBulk d + 1
  | (_, d) => uptoBulk d + 1
 end
def uptoSmall : (H : Type) → List (DataW H) → Bool := fun _ ds => decide (uptoBulkAll ds ≤ 1048576)
def OpenSpec.upto (s : _root_.Go.ChangeSpec) : _root_.Go.OpenSpec := { _root_.Go.OpenSpec.ofChange s with cond := some uptoSmall }

/-- 'pinnacelaw04.FixedProducts', WHERE WHAT IT READS IS OF BULK AT MOST 1048576: true; the input reads as it did. -/
def fixedProductsUptoRow : OpenClaim := { program := "ytijbhfclebijgaa", sum := "47be37546cc5c812f565542c1b0828098bf71c6e2efceb17348a6c01b4f8452d", func := "pinnace/pinnacelaw04.FixedProducts", spec := "fixedProducts", apart := false, narrowed := true }
def FixedProductsUptoSaid : Prop := fixedProductsUptoRow.holds Try.pinned (OpenSpec.upto fixedProductsSpec)

/-- 'pinnacelaw04.FixedRoots', WHERE WHAT IT READS IS OF BULK AT MOST 1048576: true; the input reads as it did. -/
def fixedRootsUptoRow : OpenClaim := { program := "ytijbhfclebijgaa", sum := "47be37546cc5c812f565542c1b0828098bf71c6e2efceb17348a6c01b4f8452d", func := "pinnace/pinnacelaw04.FixedRoots", spec := "fixedRoots", apart := false, narrowed := true }
def FixedRootsUptoSaid : Prop := fixedRootsUptoRow.holds Try.pinned (OpenSpec.upto fixedRootsSpec)

/-- 'pinnacelaw04.FixedWays', WHERE WHAT IT READS IS OF BULK AT MOST 1048576: true; the input reads as it did. -/
def fixedWaysUptoRow : OpenClaim := { program := "ytijbhfclebijgaa", sum := "47be37546cc5c812f565542c1b0828098bf71c6e2efceb17348a6c01b4f8452d", func := "pinnace/pinnacelaw04.FixedWays", spec := "fixedWays", apart := false, narrowed := true }
def FixedWaysUptoSaid : Prop := fixedWaysUptoRow.holds Try.pinned (OpenSpec.upto fixedWaysSpec)

/-- 'pinnacelaw04.FixedSums', WHERE WHAT IT READS IS OF BULK AT MOST 1048576: true; the input reads as it did. -/
def fixedSumsUptoRow : OpenClaim := { program := "ytijbhfclebijgaa", sum := "47be37546cc5c812f565542c1b0828098bf71c6e2efceb17348a6c01b4f8452d", func := "pinnace/pinnacelaw04.FixedSums", spec := "fixedSums", apart := false, narrowed := true }
def FixedSumsUptoSaid : Prop := fixedSumsUptoRow.holds Try.pinned (OpenSpec.upto fixedSumsSpec)

/-- 'pinnacelaw04.FixedOrder', WHERE WHAT IT READS IS OF BULK AT MOST 1048576: true; the input reads as it did. -/
def fixedOrderUptoRow : OpenClaim := { program := "ytijbhfclebijgaa", sum := "47be37546cc5c812f565542c1b0828098bf71c6e2efceb17348a6c01b4f8452d", func := "pinnace/pinnacelaw04.FixedOrder", spec := "fixedOrder", apart := false, narrowed := true }
def FixedOrderUptoSaid : Prop := fixedOrderUptoRow.holds Try.pinned (OpenSpec.upto fixedOrderSpec)

/-- 'pinnacelaw04.FixedFloors', WHERE WHAT IT READS IS OF BULK AT MOST 1048576: true; the input reads as it did. -/
def fixedFloorsUptoRow : OpenClaim := { program := "ytijbhfclebijgaa", sum := "47be37546cc5c812f565542c1b0828098bf71c6e2efceb17348a6c01b4f8452d", func := "pinnace/pinnacelaw04.FixedFloors", spec := "fixedFloors", apart := false, narrowed := true }
def FixedFloorsUptoSaid : Prop := fixedFloorsUptoRow.holds Try.pinned (OpenSpec.upto fixedFloorsSpec)

/-- 'pinnacelaw04.FixedClamps', WHERE WHAT IT READS IS OF BULK AT MOST 1048576: true; the input reads as it did. -/
def fixedClampsUptoRow : OpenClaim := { program := "ytijbhfclebijgaa", sum := "47be37546cc5c812f565542c1b0828098bf71c6e2efceb17348a6c01b4f8452d", func := "pinnace/pinnacelaw04.FixedClamps", spec := "fixedClamps", apart := false, narrowed := true }
def FixedClampsUptoSaid : Prop := fixedClampsUptoRow.holds Try.pinned (OpenSpec.upto fixedClampsSpec)

end Rows
end Go.Proofs.Ytijbhfclebijgaa
