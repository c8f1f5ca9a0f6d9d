/-
  No cell of these rows narrows 'for every input' (looked for: loops, veiled, ifaces, maps, wideKeys, modest, calm, conditions, laid).
  DERIVED. THE GIVEN ROWS OF THIS SEAT. 4 by the template 'for every input the law returns true; each argument reads behind the call as it read before'; 0 by the template 'total and deterministic' (their statements: YtehfbnpibimmiaaTotals.lean).
  GIVEN WITH THE SEED: the statements are not yours to turn. If you find one false, say at which input.
  Laid BY PROGRAM, IN A SANDBOX (cutbox-rows.mjs): the forced cells as the released guide's own fill.sh prints them over the translation 2cd6afbe0b70b6a2… (all of the seat's roots in one cut). By AI agents, Wed Nov 11 2026. No macro, syntax, notation, axiom, sorry.
-/
import Derived.Test.YtehfbnpibimmiaaChecked
import GoSem.Claim
import GoSem.ClaimJoined
import GoSem.ClaimMapViews
import Derived.JoinedTies
import Derived.KernelRfl
namespace Go.Proofs.Ytehfbnpibimmiaa
/- THE CELL 'sum', in the pinned program and in every row, IS THE sha256 OF THE DUMP (.gsa) THAT YtehfbnpibimmiaaProg.lean LOADS. Nothing in Lean hashes anything: it is a label: what it is worth is what the hold of that sum in a sandbox is worth. -/
noncomputable def Try.pinned : Pinned := { name := "ytehfbnpibimmiaa", sum := "2cd6afbe0b70b6a2dc3f1d6fd6e608d7a34bf4809445d50a2985bb8067287913", checked := Try.checked }
namespace Rows
def none {H : Type} : Left H := { results := [], args := [] }

/-- 'pinnacelaw07.SlotsIDs': WHATEVER THE INPUT: true; the input reads as it did. -/
def slotsIDsSpec : ChangeSpec := { name := "slotsIDs", fn := fun _ => fun
  | [d1, d2, d3] => { results := [.lit (.bool true)], args := [d1, d2, d3] }
  | _ => none }
def slotsIDsRow : OpenClaim := { program := "ytehfbnpibimmiaa", sum := "2cd6afbe0b70b6a2dc3f1d6fd6e608d7a34bf4809445d50a2985bb8067287913", func := "pinnace/pinnacelaw07.SlotsIDs", spec := "slotsIDs", apart := false }
def SlotsIDsSaid : Prop := slotsIDsRow.holds Try.pinned (OpenSpec.ofChange slotsIDsSpec)

/-- ITS FALSE NEIGHBOUR: 'it returns false'. Refute it at one input. -/
def slotsIDsWrong : ChangeSpec := { name := "slotsIDs", fn := fun _ => fun
  | [d1, d2, d3] => { results := [.lit (.bool false)], args := [d1, d2, d3] }
  | _ => none }
def SlotsIDsWrongFalsely : Prop := slotsIDsRow.holds Try.pinned (OpenSpec.ofChange slotsIDsWrong)

/-- 'pinnacelaw07.SlotsWorn': WHATEVER THE INPUT: true; the input reads as it did. -/
def slotsWornSpec : ChangeSpec := { name := "slotsWorn", fn := fun _ => fun
  | [d1, d2] => { results := [.lit (.bool true)], args := [d1, d2] }
  | _ => none }
def slotsWornRow : OpenClaim := { program := "ytehfbnpibimmiaa", sum := "2cd6afbe0b70b6a2dc3f1d6fd6e608d7a34bf4809445d50a2985bb8067287913", func := "pinnace/pinnacelaw07.SlotsWorn", spec := "slotsWorn", apart := false }
def SlotsWornSaid : Prop := slotsWornRow.holds Try.pinned (OpenSpec.ofChange slotsWornSpec)

/-- ITS FALSE NEIGHBOUR: 'it returns false'. Refute it at one input. -/
def slotsWornWrong : ChangeSpec := { name := "slotsWorn", fn := fun _ => fun
  | [d1, d2] => { results := [.lit (.bool false)], args := [d1, d2] }
  | _ => none }
def SlotsWornWrongFalsely : Prop := slotsWornRow.holds Try.pinned (OpenSpec.ofChange slotsWornWrong)

/-- 'pinnacelaw07.SlotsApart': WHATEVER THE INPUT: true; the input reads as it did. -/
def slotsApartSpec : ChangeSpec := { name := "slotsApart", fn := fun _ => fun
  | [d1, d2] => { results := [.lit (.bool true)], args := [d1, d2] }
  | _ => none }
def slotsApartRow : OpenClaim := { program := "ytehfbnpibimmiaa", sum := "2cd6afbe0b70b6a2dc3f1d6fd6e608d7a34bf4809445d50a2985bb8067287913", func := "pinnace/pinnacelaw07.SlotsApart", spec := "slotsApart", apart := false }
def SlotsApartSaid : Prop := slotsApartRow.holds Try.pinned (OpenSpec.ofChange slotsApartSpec)

/-- ITS FALSE NEIGHBOUR: 'it returns false'. Refute it at one input. -/
def slotsApartWrong : ChangeSpec := { name := "slotsApart", fn := fun _ => fun
  | [d1, d2] => { results := [.lit (.bool false)], args := [d1, d2] }
  | _ => none }
def SlotsApartWrongFalsely : Prop := slotsApartRow.holds Try.pinned (OpenSpec.ofChange slotsApartWrong)

/-- 'pinnacelaw07.SlotsPlays': WHATEVER THE INPUT: true; the input reads as it did. -/
def slotsPlaysSpec : ChangeSpec := { name := "slotsPlays", fn := fun _ => fun
  | [d1, d2, d3] => { results := [.lit (.bool true)], args := [d1, d2, d3] }
  | _ => none }
def slotsPlaysRow : OpenClaim := { program := "ytehfbnpibimmiaa", sum := "2cd6afbe0b70b6a2dc3f1d6fd6e608d7a34bf4809445d50a2985bb8067287913", func := "pinnace/pinnacelaw07.SlotsPlays", spec := "slotsPlays", apart := false }
def SlotsPlaysSaid : Prop := slotsPlaysRow.holds Try.pinned (OpenSpec.ofChange slotsPlaysSpec)

/-- ITS FALSE NEIGHBOUR: 'it returns false'. Refute it at one input. -/
def slotsPlaysWrong : ChangeSpec := { name := "slotsPlays", fn := fun _ => fun
  | [d1, d2, d3] => { results := [.lit (.bool false)], args := [d1, d2, d3] }
  | _ => none }
def SlotsPlaysWrongFalsely : Prop := slotsPlaysRow.holds Try.pinned (OpenSpec.ofChange slotsPlaysWrong)

/- THE SECOND FORM. 'bulk': how many values and letters a reading holds, each counted each time it is reached (what is shared counts as often as it is met; a slice's spare places count too). A statement '..UptoSaid' is the law's where the arguments, and the package variables that the reading takes, are together of bulk at most 1048576: NARROWER than '..Said'. Prove '..Said' where nothing that the law and all that it calls make is longer than what came in: it says more and counts as full. Else prove '..UptoSaid'. A law counts once. -/
mutual
def uptoBulk {H : Type} : DataW H → Nat
  | .lit (.string bytes) => bytes.length + 1
  | .lit _ => 1
  | .nil => 1
  | .ptr d => uptoBulk d + 1
  | .slice elems spare => uptoBulkAll elems + uptoBulkAll spare + 1
  | .agg parts => uptoBulkAll parts + 1
  | .iface _ d => uptoBulk d + 1
  | .map entries => uptoBulkEntries entries + 1
  | .held _ => 1
def uptoBulkAll {H : Type} : List (DataW H) → Nat
  | [] => 0
  | d :: r => uptoBulk d + uptoBulkAll r
def uptoBulkEntries {H : Type} : List (Lit × DataW H) → Nat
  | [] => 0
  | x :: r => uptoBulkEntry x + uptoBulkEntries r
def uptoBulkEntry {H : Type} : Lit × DataW H → Nat
  | (.string bytes, d) => bytes.length + uptoBulk d + 1
  | (_, d) => uptoBulk d + 1
 end
def uptoSmall : (H : Type) → List (DataW H) → Bool := fun _ ds => decide (uptoBulkAll ds ≤ 1048576)
def OpenSpec.upto (s : _root_.Go.ChangeSpec) : _root_.Go.OpenSpec := { _root_.Go.OpenSpec.ofChange s with cond := some uptoSmall }

/-- 'pinnacelaw07.SlotsIDs', WHERE WHAT IT READS IS OF BULK AT MOST 1048576: true; the input reads as it did. -/
def slotsIDsUptoRow : OpenClaim := { program := "ytehfbnpibimmiaa", sum := "2cd6afbe0b70b6a2dc3f1d6fd6e608d7a34bf4809445d50a2985bb8067287913", func := "pinnace/pinnacelaw07.SlotsIDs", spec := "slotsIDs", apart := false, narrowed := true }
def SlotsIDsUptoSaid : Prop := slotsIDsUptoRow.holds Try.pinned (OpenSpec.upto slotsIDsSpec)

/-- 'pinnacelaw07.SlotsWorn', WHERE WHAT IT READS IS OF BULK AT MOST 1048576: true; the input reads as it did. -/
def slotsWornUptoRow : OpenClaim := { program := "ytehfbnpibimmiaa", sum := "2cd6afbe0b70b6a2dc3f1d6fd6e608d7a34bf4809445d50a2985bb8067287913", func := "pinnace/pinnacelaw07.SlotsWorn", spec := "slotsWorn", apart := false, narrowed := true }
def SlotsWornUptoSaid : Prop := slotsWornUptoRow.holds Try.pinned (OpenSpec.upto slotsWornSpec)

/-- 'pinnacelaw07.SlotsApart', WHERE WHAT IT READS IS OF BULK AT MOST 1048576: true; the input reads as it did. -/
def slotsApartUptoRow : OpenClaim := { program := "ytehfbnpibimmiaa", sum := "2cd6afbe0b70b6a2dc3f1d6fd6e608d7a34bf4809445d50a2985bb8067287913", func := "pinnace/pinnacelaw07.SlotsApart", spec := "slotsApart", apart := false, narrowed := true }
def SlotsApartUptoSaid : Prop := slotsApartUptoRow.holds Try.pinned (OpenSpec.upto slotsApartSpec)

/-- 'pinnacelaw07.SlotsPlays', WHERE WHAT IT READS IS OF BULK AT MOST 1048576: true; the input reads as it did. -/
def slotsPlaysUptoRow : OpenClaim := { program := "ytehfbnpibimmiaa", sum := "2cd6afbe0b70b6a2dc3f1d6fd6e608d7a34bf4809445d50a2985bb8067287913", func := "pinnace/pinnacelaw07.SlotsPlays", spec := "slotsPlays", apart := false, narrowed := true }
def SlotsPlaysUptoSaid : Prop := slotsPlaysUptoRow.holds Try.pinned (OpenSpec.upto slotsPlaysSpec)

end Rows
end Go.Proofs.Ytehfbnpibimmiaa
