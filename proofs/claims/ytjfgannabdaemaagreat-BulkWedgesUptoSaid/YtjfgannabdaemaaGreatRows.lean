/-
  No cell of these rows narrows 'for every input' (looked for: loops, veiled, ifaces, maps, wideKeys, modest, calm, conditions, laid).
  DERIVED. THE GIVEN ROWS OF THIS SEAT. 4 by the template 'for every input the law returns true; each argument reads behind the call as it read before'; 0 by the template 'total and deterministic' (their statements: YtjfgannabdaemaaGreatTotals.lean).
  GIVEN WITH THE SEED: the statements are not yours to turn. If you find one false, say at which input.
  Laid BY PROGRAM, IN A SANDBOX (cutbox-rows.mjs): the forced cells as the released guide's own fill.sh prints them over the translation 9efd3ab816d95f9a… (all of the seat's roots in one cut). By AI agents, Wed Nov 11 2026. No macro, syntax, notation, axiom, sorry.
-/
import Derived.Test.YtjfgannabdaemaaGreatChecked
import GoSem.Claim
import GoSem.ClaimJoined
import GoSem.ClaimMapViews
import Derived.JoinedTies
import Derived.KernelRfl
namespace Go.Proofs.YtjfgannabdaemaaGreat
/- THE CELL 'sum', in the pinned program and in every row, IS THE sha256 OF THE DUMP (.gsa) THAT YtjfgannabdaemaaGreatProg.lean LOADS. Nothing in Lean hashes anything: it is a label: what it is worth is what the hold of that sum in a sandbox is worth. -/
noncomputable def Tryz.pinned : Pinned := { name := "ytjfgannabdaemaagreat", sum := "9efd3ab816d95f9aecc49f76ef9b7d25141f914ce2c0959340175b960436f799", checked := Tryz.checked }
namespace Rows
def none {H : Type} : Left H := { results := [], args := [] }

/-- 'reticulelaw21.BulkCounts': WHATEVER THE INPUT: true; the input reads as it did. -/
def bulkCountsSpec : ChangeSpec := { name := "bulkCounts", fn := fun _ => fun
  | [d1, d2, d3] => { results := [.lit (.bool true)], args := [d1, d2, d3] }
  | _ => none }
def bulkCountsRow : OpenClaim := { program := "ytjfgannabdaemaagreat", sum := "9efd3ab816d95f9aecc49f76ef9b7d25141f914ce2c0959340175b960436f799", func := "reticule/reticulelaw21.BulkCounts", spec := "bulkCounts", unfollowed := true, recurses := true, plainKeys := false, apart := false }
def BulkCountsSaid : Prop := bulkCountsRow.holds Tryz.pinned (OpenSpec.ofChange bulkCountsSpec)

/-- ITS FALSE NEIGHBOUR: 'it returns false'. Refute it at one input. -/
def bulkCountsWrong : ChangeSpec := { name := "bulkCounts", fn := fun _ => fun
  | [d1, d2, d3] => { results := [.lit (.bool false)], args := [d1, d2, d3] }
  | _ => none }
def BulkCountsWrongFalsely : Prop := bulkCountsRow.holds Tryz.pinned (OpenSpec.ofChange bulkCountsWrong)

/-- 'reticulelaw21.BulkPhase': WHATEVER THE INPUT: true; the input reads as it did. -/
def bulkPhaseSpec : ChangeSpec := { name := "bulkPhase", fn := fun _ => fun
  | [d1, d2, d3] => { results := [.lit (.bool true)], args := [d1, d2, d3] }
  | _ => none }
def bulkPhaseRow : OpenClaim := { program := "ytjfgannabdaemaagreat", sum := "9efd3ab816d95f9aecc49f76ef9b7d25141f914ce2c0959340175b960436f799", func := "reticule/reticulelaw21.BulkPhase", spec := "bulkPhase", unfollowed := true, recurses := true, plainKeys := false, apart := false }
def BulkPhaseSaid : Prop := bulkPhaseRow.holds Tryz.pinned (OpenSpec.ofChange bulkPhaseSpec)

/-- ITS FALSE NEIGHBOUR: 'it returns false'. Refute it at one input. -/
def bulkPhaseWrong : ChangeSpec := { name := "bulkPhase", fn := fun _ => fun
  | [d1, d2, d3] => { results := [.lit (.bool false)], args := [d1, d2, d3] }
  | _ => none }
def BulkPhaseWrongFalsely : Prop := bulkPhaseRow.holds Tryz.pinned (OpenSpec.ofChange bulkPhaseWrong)

/-- 'reticulelaw21.BulkWedges': WHATEVER THE INPUT: true; the input reads as it did. -/
def bulkWedgesSpec : ChangeSpec := { name := "bulkWedges", fn := fun _ => fun
  | [d1, d2, d3] => { results := [.lit (.bool true)], args := [d1, d2, d3] }
  | _ => none }
def bulkWedgesRow : OpenClaim := { program := "ytjfgannabdaemaagreat", sum := "9efd3ab816d95f9aecc49f76ef9b7d25141f914ce2c0959340175b960436f799", func := "reticule/reticulelaw21.BulkWedges", spec := "bulkWedges", unfollowed := true, recurses := true, plainKeys := false, apart := false }
def BulkWedgesSaid : Prop := bulkWedgesRow.holds Tryz.pinned (OpenSpec.ofChange bulkWedgesSpec)

/-- ITS FALSE NEIGHBOUR: 'it returns false'. Refute it at one input. -/
def bulkWedgesWrong : ChangeSpec := { name := "bulkWedges", fn := fun _ => fun
  | [d1, d2, d3] => { results := [.lit (.bool false)], args := [d1, d2, d3] }
  | _ => none }
def BulkWedgesWrongFalsely : Prop := bulkWedgesRow.holds Tryz.pinned (OpenSpec.ofChange bulkWedgesWrong)

/-- 'reticulelaw21.BulkPieces': WHATEVER THE INPUT: true; the input reads as it did. -/
def bulkPiecesSpec : ChangeSpec := { name := "bulkPieces", fn := fun _ => fun
  | [d1, d2, d3] => { results := [.lit (.bool true)], args := [d1, d2, d3] }
  | _ => none }
def bulkPiecesRow : OpenClaim := { program := "ytjfgannabdaemaagreat", sum := "9efd3ab816d95f9aecc49f76ef9b7d25141f914ce2c0959340175b960436f799", func := "reticule/reticulelaw21.BulkPieces", spec := "bulkPieces", unfollowed := true, recurses := true, plainKeys := false, apart := false }
def BulkPiecesSaid : Prop := bulkPiecesRow.holds Tryz.pinned (OpenSpec.ofChange bulkPiecesSpec)

/-- ITS FALSE NEIGHBOUR: 'it returns false'. Refute it at one input. -/
def bulkPiecesWrong : ChangeSpec := { name := "bulkPieces", fn := fun _ => fun
  | [d1, d2, d3] => { results := [.lit (.bool false)], args := [d1, d2, d3] }
  | _ => none }
def BulkPiecesWrongFalsely : Prop := bulkPiecesRow.holds Tryz.pinned (OpenSpec.ofChange bulkPiecesWrong)

/- THE SECOND FORM. 'bulk': how many values and letters a reading holds, each counted each time it is reached (what is shared counts as often as it is met; a slice's spare places count too). A statement '..UptoSaid' is the law's where the arguments, and the package variables that the reading takes, are together of bulk at most 1048576: NARROWER than '..Said'. Prove '..Said' where nothing that the law and all that it calls make is longer than what came in: it says more and counts as full. Else prove '..UptoSaid'. A law counts once. -/
mutual
def uptoBulk {H : Type} : DataW H → Nat
  | .lit (.string bytes) => bytes.length + 1
  | .lit _ => 1
  | .nil => 1
  | .ptr d => uptoBulk d + 1
  | .slice elems spare => uptoBulkAll elems + uptoBulkAll spare + 1
  | .agg parts => uptoBulkAll parts + 1
  | .iface _ d => uptoBulk d + 1
  | .map entries => uptoBulkEntries entries + 1
  | .held _ => 1
def uptoBulkAll {H : Type} : List (DataW H) → Nat
  | [] => 0
  | d :: r => uptoBulk d + uptoBulkAll r
def uptoBulkEntries {H : Type} : List (Lit × DataW H) → Nat
  | [] => 0
  | x :: r => uptoBulkEntry x + uptoBulkEntries r
def uptoBulkEntry {H : Type} : Lit × DataW H → Nat
  | (.string bytes, d) => bytes.length + uptoBulk d + 1
  | (_, d) => uptoBulk d + 1
 end
def uptoSmall : (H : Type) → List (DataW H) → Bool := fun _ ds => decide (uptoBulkAll ds ≤ 1048576)
def OpenSpec.upto (s : _root_.Go.ChangeSpec) : _root_.Go.OpenSpec := { _root_.Go.OpenSpec.ofChange s with cond := some uptoSmall }

/-- 'reticulelaw21.BulkCounts', WHERE WHAT IT READS IS OF BULK AT MOST 1048576: true; the input reads as it did. -/
def bulkCountsUptoRow : OpenClaim := { program := "ytjfgannabdaemaagreat", sum := "9efd3ab816d95f9aecc49f76ef9b7d25141f914ce2c0959340175b960436f799", func := "reticule/reticulelaw21.BulkCounts", spec := "bulkCounts", unfollowed := true, recurses := true, plainKeys := false, apart := false, narrowed := true }
def BulkCountsUptoSaid : Prop := bulkCountsUptoRow.holds Tryz.pinned (OpenSpec.upto bulkCountsSpec)

/-- 'reticulelaw21.BulkPhase', WHERE WHAT IT READS IS OF BULK AT MOST 1048576: true; the input reads as it did. -/
def bulkPhaseUptoRow : OpenClaim := { program := "ytjfgannabdaemaagreat", sum := "9efd3ab816d95f9aecc49f76ef9b7d25141f914ce2c0959340175b960436f799", func := "reticule/reticulelaw21.BulkPhase", spec := "bulkPhase", unfollowed := true, recurses := true, plainKeys := false, apart := false, narrowed := true }
def BulkPhaseUptoSaid : Prop := bulkPhaseUptoRow.holds Tryz.pinned (OpenSpec.upto bulkPhaseSpec)

/-- 'reticulelaw21.BulkWedges', WHERE WHAT IT READS IS OF BULK AT MOST 1048576: true; the input reads as it did. -/
def bulkWedgesUptoRow : OpenClaim := { program := "ytjfgannabdaemaagreat", sum := "9efd3ab816d95f9aecc49f76ef9b7d25141f914ce2c0959340175b960436f799", func := "reticule/reticulelaw21.BulkWedges", spec := "bulkWedges", unfollowed := true, recurses := true, plainKeys := false, apart := false, narrowed := true }
def BulkWedgesUptoSaid : Prop := bulkWedgesUptoRow.holds Tryz.pinned (OpenSpec.upto bulkWedgesSpec)

/-- 'reticulelaw21.BulkPieces', WHERE WHAT IT READS IS OF BULK AT MOST 1048576: true; the input reads as it did. -/
def bulkPiecesUptoRow : OpenClaim := { program := "ytjfgannabdaemaagreat", sum := "9efd3ab816d95f9aecc49f76ef9b7d25141f914ce2c0959340175b960436f799", func := "reticule/reticulelaw21.BulkPieces", spec := "bulkPieces", unfollowed := true, recurses := true, plainKeys := false, apart := false, narrowed := true }
def BulkPiecesUptoSaid : Prop := bulkPiecesUptoRow.holds Tryz.pinned (OpenSpec.upto bulkPiecesSpec)

end Rows
end Go.Proofs.YtjfgannabdaemaaGreat
