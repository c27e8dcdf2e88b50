/-
  No cell of these rows narrows 'for every input' (looked for: loops, veiled, ifaces, maps, wideKeys, modest, calm, conditions, laid).
  DERIVED. THE GIVEN ROWS OF THIS SEAT. 11 by the template 'for every input the law returns true; each argument reads behind the call as it read before'; 0 by the template 'total and deterministic' (their statements: YtegoilhkooneaaaTotals.lean).
  GIVEN WITH THE SEED: the statements are not yours to turn. If you find one false, say at which input.
  Laid BY PROGRAM, IN A SANDBOX (cutbox-rows.mjs): the forced cells as the released guide's own fill.sh prints them over the translation 7533f8cdeb8207ff… (all of the seat's roots in one cut). By AI agents, Wed Nov 11 2026. No macro, syntax, notation, axiom, sorry.
-/
import Derived.Test.YtegoilhkooneaaaChecked
import GoSem.Claim
import GoSem.ClaimJoined
import GoSem.ClaimMapViews
import Derived.JoinedTies
import Derived.KernelRfl
namespace Go.Proofs.Ytegoilhkooneaaa
/- THE CELL 'sum', in the pinned program and in every row, IS THE sha256 OF THE DUMP (.gsa) THAT YtegoilhkooneaaaProg.lean LOADS. Nothing in Lean hashes anything: it is a label: what it is worth is what the hold of that sum in a sandbox is worth. -/
noncomputable def Try.pinned : Pinned := { name := "ytegoilhkooneaaa", sum := "7533f8cdeb8207ff9e616fb1ed186e45eb6509f41960030e0f9ab0d7129a3f7c", checked := Try.checked }
namespace Rows
def none {H : Type} : Left H := { results := [], args := [] }

/-- 'stillagelaw11.LaneLast': WHATEVER THE INPUT: true; the input reads as it did. -/
def laneLastSpec : ChangeSpec := { name := "laneLast", fn := fun _ => fun
  | [d1, d2] => { results := [.lit (.bool true)], args := [d1, d2] }
  | _ => none }
def laneLastRow : OpenClaim := { program := "ytegoilhkooneaaa", sum := "7533f8cdeb8207ff9e616fb1ed186e45eb6509f41960030e0f9ab0d7129a3f7c", func := "stillage/stillagelaw11.LaneLast", spec := "laneLast", apart := false }
def LaneLastSaid : Prop := laneLastRow.holds Try.pinned (OpenSpec.ofChange laneLastSpec)

/-- ITS FALSE NEIGHBOUR: 'it returns false'. Refute it at one input. -/
def laneLastWrong : ChangeSpec := { name := "laneLast", fn := fun _ => fun
  | [d1, d2] => { results := [.lit (.bool false)], args := [d1, d2] }
  | _ => none }
def LaneLastWrongFalsely : Prop := laneLastRow.holds Try.pinned (OpenSpec.ofChange laneLastWrong)

/-- 'stillagelaw11.LanePours': WHATEVER THE INPUT: true; the input reads as it did. -/
def lanePoursSpec : ChangeSpec := { name := "lanePours", fn := fun _ => fun
  | [d1, d2] => { results := [.lit (.bool true)], args := [d1, d2] }
  | _ => none }
def lanePoursRow : OpenClaim := { program := "ytegoilhkooneaaa", sum := "7533f8cdeb8207ff9e616fb1ed186e45eb6509f41960030e0f9ab0d7129a3f7c", func := "stillage/stillagelaw11.LanePours", spec := "lanePours", unfollowed := true, recurses := true, apart := false }
def LanePoursSaid : Prop := lanePoursRow.holds Try.pinned (OpenSpec.ofChange lanePoursSpec)

/-- ITS FALSE NEIGHBOUR: 'it returns false'. Refute it at one input. -/
def lanePoursWrong : ChangeSpec := { name := "lanePours", fn := fun _ => fun
  | [d1, d2] => { results := [.lit (.bool false)], args := [d1, d2] }
  | _ => none }
def LanePoursWrongFalsely : Prop := lanePoursRow.holds Try.pinned (OpenSpec.ofChange lanePoursWrong)

/-- 'stillagelaw11.LaneRoom': WHATEVER THE INPUT: true; the input reads as it did. -/
def laneRoomSpec : ChangeSpec := { name := "laneRoom", fn := fun _ => fun
  | [d1, d2] => { results := [.lit (.bool true)], args := [d1, d2] }
  | _ => none }
def laneRoomRow : OpenClaim := { program := "ytegoilhkooneaaa", sum := "7533f8cdeb8207ff9e616fb1ed186e45eb6509f41960030e0f9ab0d7129a3f7c", func := "stillage/stillagelaw11.LaneRoom", spec := "laneRoom", apart := false }
def LaneRoomSaid : Prop := laneRoomRow.holds Try.pinned (OpenSpec.ofChange laneRoomSpec)

/-- ITS FALSE NEIGHBOUR: 'it returns false'. Refute it at one input. -/
def laneRoomWrong : ChangeSpec := { name := "laneRoom", fn := fun _ => fun
  | [d1, d2] => { results := [.lit (.bool false)], args := [d1, d2] }
  | _ => none }
def LaneRoomWrongFalsely : Prop := laneRoomRow.holds Try.pinned (OpenSpec.ofChange laneRoomWrong)

/-- 'stillagelaw11.LanePlays': WHATEVER THE INPUT: true; the input reads as it did. -/
def lanePlaysSpec : ChangeSpec := { name := "lanePlays", fn := fun _ => fun
  | [d1, d2] => { results := [.lit (.bool true)], args := [d1, d2] }
  | _ => none }
def lanePlaysRow : OpenClaim := { program := "ytegoilhkooneaaa", sum := "7533f8cdeb8207ff9e616fb1ed186e45eb6509f41960030e0f9ab0d7129a3f7c", func := "stillage/stillagelaw11.LanePlays", spec := "lanePlays", apart := false }
def LanePlaysSaid : Prop := lanePlaysRow.holds Try.pinned (OpenSpec.ofChange lanePlaysSpec)

/-- ITS FALSE NEIGHBOUR: 'it returns false'. Refute it at one input. -/
def lanePlaysWrong : ChangeSpec := { name := "lanePlays", fn := fun _ => fun
  | [d1, d2] => { results := [.lit (.bool false)], args := [d1, d2] }
  | _ => none }
def LanePlaysWrongFalsely : Prop := lanePlaysRow.holds Try.pinned (OpenSpec.ofChange lanePlaysWrong)

/-- 'stillagelaw11.LaneAhead': WHATEVER THE INPUT: true; the input reads as it did. -/
def laneAheadSpec : ChangeSpec := { name := "laneAhead", fn := fun _ => fun
  | [d1, d2, d3] => { results := [.lit (.bool true)], args := [d1, d2, d3] }
  | _ => none }
def laneAheadRow : OpenClaim := { program := "ytegoilhkooneaaa", sum := "7533f8cdeb8207ff9e616fb1ed186e45eb6509f41960030e0f9ab0d7129a3f7c", func := "stillage/stillagelaw11.LaneAhead", spec := "laneAhead", apart := false }
def LaneAheadSaid : Prop := laneAheadRow.holds Try.pinned (OpenSpec.ofChange laneAheadSpec)

/-- ITS FALSE NEIGHBOUR: 'it returns false'. Refute it at one input. -/
def laneAheadWrong : ChangeSpec := { name := "laneAhead", fn := fun _ => fun
  | [d1, d2, d3] => { results := [.lit (.bool false)], args := [d1, d2, d3] }
  | _ => none }
def LaneAheadWrongFalsely : Prop := laneAheadRow.holds Try.pinned (OpenSpec.ofChange laneAheadWrong)

/-- 'stillagelaw12.GridFull': WHATEVER THE INPUT: true; the input reads as it did. -/
def gridFullSpec : ChangeSpec := { name := "gridFull", fn := fun _ => fun
  | [d] => { results := [.lit (.bool true)], args := [d] }
  | _ => none }
def gridFullRow : OpenClaim := { program := "ytegoilhkooneaaa", sum := "7533f8cdeb8207ff9e616fb1ed186e45eb6509f41960030e0f9ab0d7129a3f7c", func := "stillage/stillagelaw12.GridFull", spec := "gridFull", unfollowed := true, recurses := true, apart := false }
def GridFullSaid : Prop := gridFullRow.holds Try.pinned (OpenSpec.ofChange gridFullSpec)

/-- ITS FALSE NEIGHBOUR: 'it returns false'. Refute it at one input. -/
def gridFullWrong : ChangeSpec := { name := "gridFull", fn := fun _ => fun
  | [d] => { results := [.lit (.bool false)], args := [d] }
  | _ => none }
def GridFullWrongFalsely : Prop := gridFullRow.holds Try.pinned (OpenSpec.ofChange gridFullWrong)

/-- 'stillagelaw12.GridOut': WHATEVER THE INPUT: true; the input reads as it did. -/
def gridOutSpec : ChangeSpec := { name := "gridOut", fn := fun _ => fun
  | [d1, d2, d3] => { results := [.lit (.bool true)], args := [d1, d2, d3] }
  | _ => none }
def gridOutRow : OpenClaim := { program := "ytegoilhkooneaaa", sum := "7533f8cdeb8207ff9e616fb1ed186e45eb6509f41960030e0f9ab0d7129a3f7c", func := "stillage/stillagelaw12.GridOut", spec := "gridOut", unfollowed := true, recurses := true, apart := false }
def GridOutSaid : Prop := gridOutRow.holds Try.pinned (OpenSpec.ofChange gridOutSpec)

/-- ITS FALSE NEIGHBOUR: 'it returns false'. Refute it at one input. -/
def gridOutWrong : ChangeSpec := { name := "gridOut", fn := fun _ => fun
  | [d1, d2, d3] => { results := [.lit (.bool false)], args := [d1, d2, d3] }
  | _ => none }
def GridOutWrongFalsely : Prop := gridOutRow.holds Try.pinned (OpenSpec.ofChange gridOutWrong)

/-- 'stillagelaw12.GridEven': WHATEVER THE INPUT: true; the input reads as it did. -/
def gridEvenSpec : ChangeSpec := { name := "gridEven", fn := fun _ => fun
  | [d1, d2, d3] => { results := [.lit (.bool true)], args := [d1, d2, d3] }
  | _ => none }
def gridEvenRow : OpenClaim := { program := "ytegoilhkooneaaa", sum := "7533f8cdeb8207ff9e616fb1ed186e45eb6509f41960030e0f9ab0d7129a3f7c", func := "stillage/stillagelaw12.GridEven", spec := "gridEven", unfollowed := true, recurses := true, apart := false }
def GridEvenSaid : Prop := gridEvenRow.holds Try.pinned (OpenSpec.ofChange gridEvenSpec)

/-- ITS FALSE NEIGHBOUR: 'it returns false'. Refute it at one input. -/
def gridEvenWrong : ChangeSpec := { name := "gridEven", fn := fun _ => fun
  | [d1, d2, d3] => { results := [.lit (.bool false)], args := [d1, d2, d3] }
  | _ => none }
def GridEvenWrongFalsely : Prop := gridEvenRow.holds Try.pinned (OpenSpec.ofChange gridEvenWrong)

/-- 'stillagelaw12.GridMoves': WHATEVER THE INPUT: true; the input reads as it did. -/
def gridMovesSpec : ChangeSpec := { name := "gridMoves", fn := fun _ => fun
  | [d1, d2, d3] => { results := [.lit (.bool true)], args := [d1, d2, d3] }
  | _ => none }
def gridMovesRow : OpenClaim := { program := "ytegoilhkooneaaa", sum := "7533f8cdeb8207ff9e616fb1ed186e45eb6509f41960030e0f9ab0d7129a3f7c", func := "stillage/stillagelaw12.GridMoves", spec := "gridMoves", unfollowed := true, recurses := true, apart := false }
def GridMovesSaid : Prop := gridMovesRow.holds Try.pinned (OpenSpec.ofChange gridMovesSpec)

/-- ITS FALSE NEIGHBOUR: 'it returns false'. Refute it at one input. -/
def gridMovesWrong : ChangeSpec := { name := "gridMoves", fn := fun _ => fun
  | [d1, d2, d3] => { results := [.lit (.bool false)], args := [d1, d2, d3] }
  | _ => none }
def GridMovesWrongFalsely : Prop := gridMovesRow.holds Try.pinned (OpenSpec.ofChange gridMovesWrong)

/-- 'stillagelaw12.GridPlays': WHATEVER THE INPUT: true; the input reads as it did. -/
def gridPlaysSpec : ChangeSpec := { name := "gridPlays", fn := fun _ => fun
  | [d1, d2] => { results := [.lit (.bool true)], args := [d1, d2] }
  | _ => none }
def gridPlaysRow : OpenClaim := { program := "ytegoilhkooneaaa", sum := "7533f8cdeb8207ff9e616fb1ed186e45eb6509f41960030e0f9ab0d7129a3f7c", func := "stillage/stillagelaw12.GridPlays", spec := "gridPlays", unfollowed := true, recurses := true, apart := false }
def GridPlaysSaid : Prop := gridPlaysRow.holds Try.pinned (OpenSpec.ofChange gridPlaysSpec)

/-- ITS FALSE NEIGHBOUR: 'it returns false'. Refute it at one input. -/
def gridPlaysWrong : ChangeSpec := { name := "gridPlays", fn := fun _ => fun
  | [d1, d2] => { results := [.lit (.bool false)], args := [d1, d2] }
  | _ => none }
def GridPlaysWrongFalsely : Prop := gridPlaysRow.holds Try.pinned (OpenSpec.ofChange gridPlaysWrong)

/-- 'stillagelaw12.GridPlans': WHATEVER THE INPUT: true; the input reads as it did. -/
def gridPlansSpec : ChangeSpec := { name := "gridPlans", fn := fun _ => fun
  | [d1, d2, d3] => { results := [.lit (.bool true)], args := [d1, d2, d3] }
  | _ => none }
def gridPlansRow : OpenClaim := { program := "ytegoilhkooneaaa", sum := "7533f8cdeb8207ff9e616fb1ed186e45eb6509f41960030e0f9ab0d7129a3f7c", func := "stillage/stillagelaw12.GridPlans", spec := "gridPlans", unfollowed := true, recurses := true, apart := false }
def GridPlansSaid : Prop := gridPlansRow.holds Try.pinned (OpenSpec.ofChange gridPlansSpec)

/-- ITS FALSE NEIGHBOUR: 'it returns false'. Refute it at one input. -/
def gridPlansWrong : ChangeSpec := { name := "gridPlans", fn := fun _ => fun
  | [d1, d2, d3] => { results := [.lit (.bool false)], args := [d1, d2, d3] }
  | _ => none }
def GridPlansWrongFalsely : Prop := gridPlansRow.holds Try.pinned (OpenSpec.ofChange gridPlansWrong)

/- THE SECOND FORM. 'bulk': how many values and letters a reading holds, each counted each time it is reached (what is shared counts as often as it is met; a slice's spare places count too). A statement '..UptoSaid' is the law's where the arguments, and the package variables that the reading takes, are together of bulk at most 1048576: NARROWER than '..Said'. Prove '..Said' where nothing that the law and all that it calls make is longer than what came in: it says more and counts as full. Else prove '..UptoSaid'. A law counts once. -/
mutual
def uptoBulk {H : Type} : DataW H → Nat
  | .lit (.string bytes) => bytes.length + 1
  | .lit _ => 1
  | .nil => 1
  | .ptr d => uptoBulk d + 1
  | .slice elems spare => uptoBulkAll elems + uptoBulkAll spare + 1
  | .agg parts => uptoBulkAll parts + 1
  | .iface _ d => uptoBulk d + 1
  | .map entries => uptoBulkEntries entries + 1
  | .held _ => 1
def uptoBulkAll {H : Type} : List (DataW H) → Nat
  | [] => 0
  | d :: r => uptoBulk d + uptoBulkAll r
def uptoBulkEntries {H : Type} : List (Lit × DataW H) → Nat
  | [] => 0
  | x :: r => uptoBulkEntry x + uptoBulkEntries r
def uptoBulkEntry {H : Type} : Lit × DataW H → Nat
  | (.string bytes, d) => bytes.length + uptoBulk d + 1
  | (_, d) => uptoBulk d + 1
 end
def uptoSmall : (H : Type) → List (DataW H) → Bool := fun _ ds => decide (uptoBulkAll ds ≤ 1048576)
def OpenSpec.upto (s : _root_.Go.ChangeSpec) : _root_.Go.OpenSpec := { _root_.Go.OpenSpec.ofChange s with cond := some uptoSmall }

/-- 'stillagelaw11.LaneLast', WHERE WHAT IT READS IS OF BULK AT MOST 1048576: true; the input reads as it did. -/
def laneLastUptoRow : OpenClaim := { program := "ytegoilhkooneaaa", sum := "7533f8cdeb8207ff9e616fb1ed186e45eb6509f41960030e0f9ab0d7129a3f7c", func := "stillage/stillagelaw11.LaneLast", spec := "laneLast", apart := false, narrowed := true }
def LaneLastUptoSaid : Prop := laneLastUptoRow.holds Try.pinned (OpenSpec.upto laneLastSpec)

/-- 'stillagelaw11.LanePours', WHERE WHAT IT READS IS OF BULK AT MOST 1048576: true; the input reads as it did. -/
def lanePoursUptoRow : OpenClaim := { program := "ytegoilhkooneaaa", sum := "7533f8cdeb8207ff9e616fb1ed186e45eb6509f41960030e0f9ab0d7129a3f7c", func := "stillage/stillagelaw11.LanePours", spec := "lanePours", unfollowed := true, recurses := true, apart := false, narrowed := true }
def LanePoursUptoSaid : Prop := lanePoursUptoRow.holds Try.pinned (OpenSpec.upto lanePoursSpec)

/-- 'stillagelaw11.LaneRoom', WHERE WHAT IT READS IS OF BULK AT MOST 1048576: true; the input reads as it did. -/
def laneRoomUptoRow : OpenClaim := { program := "ytegoilhkooneaaa", sum := "7533f8cdeb8207ff9e616fb1ed186e45eb6509f41960030e0f9ab0d7129a3f7c", func := "stillage/stillagelaw11.LaneRoom", spec := "laneRoom", apart := false, narrowed := true }
def LaneRoomUptoSaid : Prop := laneRoomUptoRow.holds Try.pinned (OpenSpec.upto laneRoomSpec)

/-- 'stillagelaw11.LanePlays', WHERE WHAT IT READS IS OF BULK AT MOST 1048576: true; the input reads as it did. -/
def lanePlaysUptoRow : OpenClaim := { program := "ytegoilhkooneaaa", sum := "7533f8cdeb8207ff9e616fb1ed186e45eb6509f41960030e0f9ab0d7129a3f7c", func := "stillage/stillagelaw11.LanePlays", spec := "lanePlays", apart := false, narrowed := true }
def LanePlaysUptoSaid : Prop := lanePlaysUptoRow.holds Try.pinned (OpenSpec.upto lanePlaysSpec)

/-- 'stillagelaw11.LaneAhead', WHERE WHAT IT READS IS OF BULK AT MOST 1048576: true; the input reads as it did. -/
def laneAheadUptoRow : OpenClaim := { program := "ytegoilhkooneaaa", sum := "7533f8cdeb8207ff9e616fb1ed186e45eb6509f41960030e0f9ab0d7129a3f7c", func := "stillage/stillagelaw11.LaneAhead", spec := "laneAhead", apart := false, narrowed := true }
def LaneAheadUptoSaid : Prop := laneAheadUptoRow.holds Try.pinned (OpenSpec.upto laneAheadSpec)

/-- 'stillagelaw12.GridFull', WHERE WHAT IT READS IS OF BULK AT MOST 1048576: true; the input reads as it did. -/
def gridFullUptoRow : OpenClaim := { program := "ytegoilhkooneaaa", sum := "7533f8cdeb8207ff9e616fb1ed186e45eb6509f41960030e0f9ab0d7129a3f7c", func := "stillage/stillagelaw12.GridFull", spec := "gridFull", unfollowed := true, recurses := true, apart := false, narrowed := true }
def GridFullUptoSaid : Prop := gridFullUptoRow.holds Try.pinned (OpenSpec.upto gridFullSpec)

/-- 'stillagelaw12.GridOut', WHERE WHAT IT READS IS OF BULK AT MOST 1048576: true; the input reads as it did. -/
def gridOutUptoRow : OpenClaim := { program := "ytegoilhkooneaaa", sum := "7533f8cdeb8207ff9e616fb1ed186e45eb6509f41960030e0f9ab0d7129a3f7c", func := "stillage/stillagelaw12.GridOut", spec := "gridOut", unfollowed := true, recurses := true, apart := false, narrowed := true }
def GridOutUptoSaid : Prop := gridOutUptoRow.holds Try.pinned (OpenSpec.upto gridOutSpec)

/-- 'stillagelaw12.GridEven', WHERE WHAT IT READS IS OF BULK AT MOST 1048576: true; the input reads as it did. -/
def gridEvenUptoRow : OpenClaim := { program := "ytegoilhkooneaaa", sum := "7533f8cdeb8207ff9e616fb1ed186e45eb6509f41960030e0f9ab0d7129a3f7c", func := "stillage/stillagelaw12.GridEven", spec := "gridEven", unfollowed := true, recurses := true, apart := false, narrowed := true }
def GridEvenUptoSaid : Prop := gridEvenUptoRow.holds Try.pinned (OpenSpec.upto gridEvenSpec)

/-- 'stillagelaw12.GridMoves', WHERE WHAT IT READS IS OF BULK AT MOST 1048576: true; the input reads as it did. -/
def gridMovesUptoRow : OpenClaim := { program := "ytegoilhkooneaaa", sum := "7533f8cdeb8207ff9e616fb1ed186e45eb6509f41960030e0f9ab0d7129a3f7c", func := "stillage/stillagelaw12.GridMoves", spec := "gridMoves", unfollowed := true, recurses := true, apart := false, narrowed := true }
def GridMovesUptoSaid : Prop := gridMovesUptoRow.holds Try.pinned (OpenSpec.upto gridMovesSpec)

/-- 'stillagelaw12.GridPlays', WHERE WHAT IT READS IS OF BULK AT MOST 1048576: true; the input reads as it did. -/
def gridPlaysUptoRow : OpenClaim := { program := "ytegoilhkooneaaa", sum := "7533f8cdeb8207ff9e616fb1ed186e45eb6509f41960030e0f9ab0d7129a3f7c", func := "stillage/stillagelaw12.GridPlays", spec := "gridPlays", unfollowed := true, recurses := true, apart := false, narrowed := true }
def GridPlaysUptoSaid : Prop := gridPlaysUptoRow.holds Try.pinned (OpenSpec.upto gridPlaysSpec)

/-- 'stillagelaw12.GridPlans', WHERE WHAT IT READS IS OF BULK AT MOST 1048576: true; the input reads as it did. -/
def gridPlansUptoRow : OpenClaim := { program := "ytegoilhkooneaaa", sum := "7533f8cdeb8207ff9e616fb1ed186e45eb6509f41960030e0f9ab0d7129a3f7c", func := "stillage/stillagelaw12.GridPlans", spec := "gridPlans", unfollowed := true, recurses := true, apart := false, narrowed := true }
def GridPlansUptoSaid : Prop := gridPlansUptoRow.holds Try.pinned (OpenSpec.upto gridPlansSpec)

end Rows
end Go.Proofs.Ytegoilhkooneaaa
