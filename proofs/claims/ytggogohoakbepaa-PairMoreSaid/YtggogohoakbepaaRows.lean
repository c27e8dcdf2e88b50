/-
  No cell of these rows narrows 'for every input' (looked for: loops, veiled, ifaces, maps, wideKeys, modest, calm, conditions, laid).
  DERIVED. THE GIVEN ROWS OF THIS SEAT. 7 by the template 'for every input the law returns true; each argument reads behind the call as it read before'; 0 by the template 'total and deterministic' (their statements: YtggogohoakbepaaTotals.lean).
  GIVEN WITH THE SEED: the statements are not yours to turn. If you find one false, say at which input.
  Laid BY PROGRAM, IN A SANDBOX (cutbox-rows.mjs): the forced cells as the released guide's own fill.sh prints them over the translation 02ba890d1bade4a9… (all of the seat's roots in one cut). By AI agents, Wed Nov 11 2026. No macro, syntax, notation, axiom, sorry.
-/
import Derived.Test.YtggogohoakbepaaChecked
import GoSem.Claim
import GoSem.ClaimJoined
import GoSem.ClaimMapViews
import Derived.JoinedTies
import Derived.KernelRfl
namespace Go.Proofs.Ytggogohoakbepaa
/- THE CELL 'sum', in the pinned program and in every row, IS THE sha256 OF THE DUMP (.gsa) THAT YtggogohoakbepaaProg.lean LOADS. Nothing in Lean hashes anything: it is a label: what it is worth is what the hold of that sum in a sandbox is worth. -/
noncomputable def Try.pinned : Pinned := { name := "ytggogohoakbepaa", sum := "02ba890d1bade4a988053d21bb9a32362218229077019dffd3b96fe00294e369", checked := Try.checked }
namespace Rows
def none {H : Type} : Left H := { results := [], args := [] }

/-- 'stillagelaw13.PairDrives': WHATEVER THE INPUT: true; the input reads as it did. -/
def pairDrivesSpec : ChangeSpec := { name := "pairDrives", fn := fun _ => fun
  | [d1, d2, d3] => { results := [.lit (.bool true)], args := [d1, d2, d3] }
  | _ => none }
def pairDrivesRow : OpenClaim := { program := "ytggogohoakbepaa", sum := "02ba890d1bade4a988053d21bb9a32362218229077019dffd3b96fe00294e369", func := "stillage/stillagelaw13.PairDrives", spec := "pairDrives", unfollowed := true, recurses := true, apart := false }
def PairDrivesSaid : Prop := pairDrivesRow.holds Try.pinned (OpenSpec.ofChange pairDrivesSpec)

/-- ITS FALSE NEIGHBOUR: 'it returns false'. Refute it at one input. -/
def pairDrivesWrong : ChangeSpec := { name := "pairDrives", fn := fun _ => fun
  | [d1, d2, d3] => { results := [.lit (.bool false)], args := [d1, d2, d3] }
  | _ => none }
def PairDrivesWrongFalsely : Prop := pairDrivesRow.holds Try.pinned (OpenSpec.ofChange pairDrivesWrong)

/-- 'stillagelaw13.PairBest': WHATEVER THE INPUT: true; the input reads as it did. -/
def pairBestSpec : ChangeSpec := { name := "pairBest", fn := fun _ => fun
  | [d1, d2] => { results := [.lit (.bool true)], args := [d1, d2] }
  | _ => none }
def pairBestRow : OpenClaim := { program := "ytggogohoakbepaa", sum := "02ba890d1bade4a988053d21bb9a32362218229077019dffd3b96fe00294e369", func := "stillage/stillagelaw13.PairBest", spec := "pairBest", unfollowed := true, recurses := true, apart := false }
def PairBestSaid : Prop := pairBestRow.holds Try.pinned (OpenSpec.ofChange pairBestSpec)

/-- ITS FALSE NEIGHBOUR: 'it returns false'. Refute it at one input. -/
def pairBestWrong : ChangeSpec := { name := "pairBest", fn := fun _ => fun
  | [d1, d2] => { results := [.lit (.bool false)], args := [d1, d2] }
  | _ => none }
def PairBestWrongFalsely : Prop := pairBestRow.holds Try.pinned (OpenSpec.ofChange pairBestWrong)

/-- 'stillagelaw13.PairTurned': WHATEVER THE INPUT: true; the input reads as it did. -/
def pairTurnedSpec : ChangeSpec := { name := "pairTurned", fn := fun _ => fun
  | [d1, d2, d3] => { results := [.lit (.bool true)], args := [d1, d2, d3] }
  | _ => none }
def pairTurnedRow : OpenClaim := { program := "ytggogohoakbepaa", sum := "02ba890d1bade4a988053d21bb9a32362218229077019dffd3b96fe00294e369", func := "stillage/stillagelaw13.PairTurned", spec := "pairTurned", unfollowed := true, recurses := true, apart := false }
def PairTurnedSaid : Prop := pairTurnedRow.holds Try.pinned (OpenSpec.ofChange pairTurnedSpec)

/-- ITS FALSE NEIGHBOUR: 'it returns false'. Refute it at one input. -/
def pairTurnedWrong : ChangeSpec := { name := "pairTurned", fn := fun _ => fun
  | [d1, d2, d3] => { results := [.lit (.bool false)], args := [d1, d2, d3] }
  | _ => none }
def PairTurnedWrongFalsely : Prop := pairTurnedRow.holds Try.pinned (OpenSpec.ofChange pairTurnedWrong)

/-- 'stillagelaw13.PairMore': WHATEVER THE INPUT: true; the input reads as it did. -/
def pairMoreSpec : ChangeSpec := { name := "pairMore", fn := fun _ => fun
  | [d1, d2, d3] => { results := [.lit (.bool true)], args := [d1, d2, d3] }
  | _ => none }
def pairMoreRow : OpenClaim := { program := "ytggogohoakbepaa", sum := "02ba890d1bade4a988053d21bb9a32362218229077019dffd3b96fe00294e369", func := "stillage/stillagelaw13.PairMore", spec := "pairMore", unfollowed := true, recurses := true, apart := false }
def PairMoreSaid : Prop := pairMoreRow.holds Try.pinned (OpenSpec.ofChange pairMoreSpec)

/-- ITS FALSE NEIGHBOUR: 'it returns false'. Refute it at one input. -/
def pairMoreWrong : ChangeSpec := { name := "pairMore", fn := fun _ => fun
  | [d1, d2, d3] => { results := [.lit (.bool false)], args := [d1, d2, d3] }
  | _ => none }
def PairMoreWrongFalsely : Prop := pairMoreRow.holds Try.pinned (OpenSpec.ofChange pairMoreWrong)

/-- 'stillagelaw13.PairOne': WHATEVER THE INPUT: true; the input reads as it did. -/
def pairOneSpec : ChangeSpec := { name := "pairOne", fn := fun _ => fun
  | [d1, d2] => { results := [.lit (.bool true)], args := [d1, d2] }
  | _ => none }
def pairOneRow : OpenClaim := { program := "ytggogohoakbepaa", sum := "02ba890d1bade4a988053d21bb9a32362218229077019dffd3b96fe00294e369", func := "stillage/stillagelaw13.PairOne", spec := "pairOne", unfollowed := true, recurses := true, apart := false }
def PairOneSaid : Prop := pairOneRow.holds Try.pinned (OpenSpec.ofChange pairOneSpec)

/-- ITS FALSE NEIGHBOUR: 'it returns false'. Refute it at one input. -/
def pairOneWrong : ChangeSpec := { name := "pairOne", fn := fun _ => fun
  | [d1, d2] => { results := [.lit (.bool false)], args := [d1, d2] }
  | _ => none }
def PairOneWrongFalsely : Prop := pairOneRow.holds Try.pinned (OpenSpec.ofChange pairOneWrong)

/-- 'stillagelaw13.PairCosts': WHATEVER THE INPUT: true; the input reads as it did. -/
def pairCostsSpec : ChangeSpec := { name := "pairCosts", fn := fun _ => fun
  | [d1, d2, d3] => { results := [.lit (.bool true)], args := [d1, d2, d3] }
  | _ => none }
def pairCostsRow : OpenClaim := { program := "ytggogohoakbepaa", sum := "02ba890d1bade4a988053d21bb9a32362218229077019dffd3b96fe00294e369", func := "stillage/stillagelaw13.PairCosts", spec := "pairCosts", unfollowed := true, recurses := true, apart := false }
def PairCostsSaid : Prop := pairCostsRow.holds Try.pinned (OpenSpec.ofChange pairCostsSpec)

/-- ITS FALSE NEIGHBOUR: 'it returns false'. Refute it at one input. -/
def pairCostsWrong : ChangeSpec := { name := "pairCosts", fn := fun _ => fun
  | [d1, d2, d3] => { results := [.lit (.bool false)], args := [d1, d2, d3] }
  | _ => none }
def PairCostsWrongFalsely : Prop := pairCostsRow.holds Try.pinned (OpenSpec.ofChange pairCostsWrong)

/-- 'stillagelaw13.PairLeast': WHATEVER THE INPUT: true; the input reads as it did. -/
def pairLeastSpec : ChangeSpec := { name := "pairLeast", fn := fun _ => fun
  | [d1, d2, d3] => { results := [.lit (.bool true)], args := [d1, d2, d3] }
  | _ => none }
def pairLeastRow : OpenClaim := { program := "ytggogohoakbepaa", sum := "02ba890d1bade4a988053d21bb9a32362218229077019dffd3b96fe00294e369", func := "stillage/stillagelaw13.PairLeast", spec := "pairLeast", unfollowed := true, recurses := true, apart := false }
def PairLeastSaid : Prop := pairLeastRow.holds Try.pinned (OpenSpec.ofChange pairLeastSpec)

/-- ITS FALSE NEIGHBOUR: 'it returns false'. Refute it at one input. -/
def pairLeastWrong : ChangeSpec := { name := "pairLeast", fn := fun _ => fun
  | [d1, d2, d3] => { results := [.lit (.bool false)], args := [d1, d2, d3] }
  | _ => none }
def PairLeastWrongFalsely : Prop := pairLeastRow.holds Try.pinned (OpenSpec.ofChange pairLeastWrong)

/- THE SECOND FORM. 'bulk': how many values and letters a reading holds, each counted each time it is reached (what is shared counts as often as it is met; a slice's spare places count too). A statement '..UptoSaid' is the law's where the arguments, and the package variables that the reading takes, are together of bulk at most 1048576: NARROWER than '..Said'. Prove '..Said' where nothing that the law and all that it calls make is longer than what came in: it says more and counts as full. Else prove '..UptoSaid'. A law counts once. -/
mutual
def uptoBulk {H : Type} : DataW H → Nat
  | .lit (.string bytes) => bytes.length + 1
  | .lit _ => 1
  | .nil => 1
  | .ptr d => uptoBulk d + 1
  | .slice elems spare => uptoBulkAll elems + uptoBulkAll spare + 1
  | .agg parts => uptoBulkAll parts + 1
  | .iface _ d => uptoBulk d + 1
  | .map entries => uptoBulkEntries entries + 1
  | .held _ => 1
def uptoBulkAll {H : Type} : List (DataW H) → Nat
  | [] => 0
  | d :: r => uptoBulk d + uptoBulkAll r
def uptoBulkEntries {H : Type} : List (Lit × DataW H) → Nat
  | [] => 0
  | x :: r => uptoBulkEntry x + uptoBulkEntries r
def uptoBulkEntry {H : Type} : Lit × DataW H → Nat
  | (.string bytes, d) => bytes.length + uptoBulk d + 1
  | (_, d) => uptoBulk d + 1
 end
def uptoSmall : (H : Type) → List (DataW H) → Bool := fun _ ds => decide (uptoBulkAll ds ≤ 1048576)
def OpenSpec.upto (s : _root_.Go.ChangeSpec) : _root_.Go.OpenSpec := { _root_.Go.OpenSpec.ofChange s with cond := some uptoSmall }

/-- 'stillagelaw13.PairDrives', WHERE WHAT IT READS IS OF BULK AT MOST 1048576: true; the input reads as it did. -/
def pairDrivesUptoRow : OpenClaim := { program := "ytggogohoakbepaa", sum := "02ba890d1bade4a988053d21bb9a32362218229077019dffd3b96fe00294e369", func := "stillage/stillagelaw13.PairDrives", spec := "pairDrives", unfollowed := true, recurses := true, apart := false, narrowed := true }
def PairDrivesUptoSaid : Prop := pairDrivesUptoRow.holds Try.pinned (OpenSpec.upto pairDrivesSpec)

/-- 'stillagelaw13.PairBest', WHERE WHAT IT READS IS OF BULK AT MOST 1048576: true; the input reads as it did. -/
def pairBestUptoRow : OpenClaim := { program := "ytggogohoakbepaa", sum := "02ba890d1bade4a988053d21bb9a32362218229077019dffd3b96fe00294e369", func := "stillage/stillagelaw13.PairBest", spec := "pairBest", unfollowed := true, recurses := true, apart := false, narrowed := true }
def PairBestUptoSaid : Prop := pairBestUptoRow.holds Try.pinned (OpenSpec.upto pairBestSpec)

/-- 'stillagelaw13.PairTurned', WHERE WHAT IT READS IS OF BULK AT MOST 1048576: true; the input reads as it did. -/
def pairTurnedUptoRow : OpenClaim := { program := "ytggogohoakbepaa", sum := "02ba890d1bade4a988053d21bb9a32362218229077019dffd3b96fe00294e369", func := "stillage/stillagelaw13.PairTurned", spec := "pairTurned", unfollowed := true, recurses := true, apart := false, narrowed := true }
def PairTurnedUptoSaid : Prop := pairTurnedUptoRow.holds Try.pinned (OpenSpec.upto pairTurnedSpec)

/-- 'stillagelaw13.PairMore', WHERE WHAT IT READS IS OF BULK AT MOST 1048576: true; the input reads as it did. -/
def pairMoreUptoRow : OpenClaim := { program := "ytggogohoakbepaa", sum := "02ba890d1bade4a988053d21bb9a32362218229077019dffd3b96fe00294e369", func := "stillage/stillagelaw13.PairMore", spec := "pairMore", unfollowed := true, recurses := true, apart := false, narrowed := true }
def PairMoreUptoSaid : Prop := pairMoreUptoRow.holds Try.pinned (OpenSpec.upto pairMoreSpec)

/-- 'stillagelaw13.PairOne', WHERE WHAT IT READS IS OF BULK AT MOST 1048576: true; the input reads as it did. -/
def pairOneUptoRow : OpenClaim := { program := "ytggogohoakbepaa", sum := "02ba890d1bade4a988053d21bb9a32362218229077019dffd3b96fe00294e369", func := "stillage/stillagelaw13.PairOne", spec := "pairOne", unfollowed := true, recurses := true, apart := false, narrowed := true }
def PairOneUptoSaid : Prop := pairOneUptoRow.holds Try.pinned (OpenSpec.upto pairOneSpec)

/-- 'stillagelaw13.PairCosts', WHERE WHAT IT READS IS OF BULK AT MOST 1048576: true; the input reads as it did. -/
def pairCostsUptoRow : OpenClaim := { program := "ytggogohoakbepaa", sum := "02ba890d1bade4a988053d21bb9a32362218229077019dffd3b96fe00294e369", func := "stillage/stillagelaw13.PairCosts", spec := "pairCosts", unfollowed := true, recurses := true, apart := false, narrowed := true }
def PairCostsUptoSaid : Prop := pairCostsUptoRow.holds Try.pinned (OpenSpec.upto pairCostsSpec)

/-- 'stillagelaw13.PairLeast', WHERE WHAT IT READS IS OF BULK AT MOST 1048576: true; the input reads as it did. -/
def pairLeastUptoRow : OpenClaim := { program := "ytggogohoakbepaa", sum := "02ba890d1bade4a988053d21bb9a32362218229077019dffd3b96fe00294e369", func := "stillage/stillagelaw13.PairLeast", spec := "pairLeast", unfollowed := true, recurses := true, apart := false, narrowed := true }
def PairLeastUptoSaid : Prop := pairLeastUptoRow.holds Try.pinned (OpenSpec.upto pairLeastSpec)

end Rows
end Go.Proofs.Ytggogohoakbepaa
