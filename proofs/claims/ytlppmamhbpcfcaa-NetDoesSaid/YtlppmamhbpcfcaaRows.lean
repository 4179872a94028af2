/-
  No cell of these rows narrows 'for every input' (looked for: loops, veiled, ifaces, maps, wideKeys, modest, calm, conditions, laid).
  DERIVED. THE GIVEN ROWS OF THIS SEAT. 8 by the template 'for every input the law returns true; each argument reads behind the call as it read before'; 0 by the template 'total and deterministic' (their statements: YtlppmamhbpcfcaaTotals.lean).
  GIVEN WITH THE SEED: the statements are not yours to turn. If you find one false, say at which input.
  Laid BY PROGRAM, IN A SANDBOX (cutbox-rows.mjs): the forced cells as the released guide's own fill.sh prints them over the translation cf616656dc1b9a16… (all of the seat's roots in one cut). By AI agents, Wed Nov 11 2026. No macro, syntax, notation, axiom, sorry.
-/
import Derived.Test.YtlppmamhbpcfcaaChecked
import GoSem.Claim
import GoSem.ClaimJoined
import GoSem.ClaimMapViews
import Derived.JoinedTies
import Derived.KernelRfl
namespace Go.Proofs.Ytlppmamhbpcfcaa
/- THE CELL 'sum', in the pinned program and in every row, IS THE sha256 OF THE DUMP (.gsa) THAT YtlppmamhbpcfcaaProg.lean LOADS. Nothing in Lean hashes anything: it is a label: what it is worth is what the hold of that sum in a sandbox is worth. -/
noncomputable def Try.pinned : Pinned := { name := "ytlppmamhbpcfcaa", sum := "cf616656dc1b9a16798414f226f08e161c780f5f2901b1c21529478dc7774e8e", checked := Try.checked }
namespace Rows
def none {H : Type} : Left H := { results := [], args := [] }

/-- 'thrumlaw05.PlanePacks': WHATEVER THE INPUT: true; the input reads as it did. -/
def planePacksSpec : ChangeSpec := { name := "planePacks", fn := fun _ => fun
  | [d1, d2, d3] => { results := [.lit (.bool true)], args := [d1, d2, d3] }
  | _ => none }
def planePacksRow : OpenClaim := { program := "ytlppmamhbpcfcaa", sum := "cf616656dc1b9a16798414f226f08e161c780f5f2901b1c21529478dc7774e8e", func := "thrum/thrumlaw05.PlanePacks", spec := "planePacks", unfollowed := true, recurses := true, apart := false }
def PlanePacksSaid : Prop := planePacksRow.holds Try.pinned (OpenSpec.ofChange planePacksSpec)

/-- ITS FALSE NEIGHBOUR: 'it returns false'. Refute it at one input. -/
def planePacksWrong : ChangeSpec := { name := "planePacks", fn := fun _ => fun
  | [d1, d2, d3] => { results := [.lit (.bool false)], args := [d1, d2, d3] }
  | _ => none }
def PlanePacksWrongFalsely : Prop := planePacksRow.holds Try.pinned (OpenSpec.ofChange planePacksWrong)

/-- 'thrumlaw21.NetGives': WHATEVER THE INPUT: true; the input reads as it did. -/
def netGivesSpec : ChangeSpec := { name := "netGives", fn := fun _ => fun
  | [d1, d2] => { results := [.lit (.bool true)], args := [d1, d2] }
  | _ => none }
def netGivesRow : OpenClaim := { program := "ytlppmamhbpcfcaa", sum := "cf616656dc1b9a16798414f226f08e161c780f5f2901b1c21529478dc7774e8e", func := "thrum/thrumlaw21.NetGives", spec := "netGives", unfollowed := true, recurses := true, apart := false }
def NetGivesSaid : Prop := netGivesRow.holds Try.pinned (OpenSpec.ofChange netGivesSpec)

/-- ITS FALSE NEIGHBOUR: 'it returns false'. Refute it at one input. -/
def netGivesWrong : ChangeSpec := { name := "netGives", fn := fun _ => fun
  | [d1, d2] => { results := [.lit (.bool false)], args := [d1, d2] }
  | _ => none }
def NetGivesWrongFalsely : Prop := netGivesRow.holds Try.pinned (OpenSpec.ofChange netGivesWrong)

/-- 'thrumlaw21.NetRoom': WHATEVER THE INPUT: true; the input reads as it did. -/
def netRoomSpec : ChangeSpec := { name := "netRoom", fn := fun _ => fun
  | [d1, d2] => { results := [.lit (.bool true)], args := [d1, d2] }
  | _ => none }
def netRoomRow : OpenClaim := { program := "ytlppmamhbpcfcaa", sum := "cf616656dc1b9a16798414f226f08e161c780f5f2901b1c21529478dc7774e8e", func := "thrum/thrumlaw21.NetRoom", spec := "netRoom", unfollowed := true, recurses := true, apart := false }
def NetRoomSaid : Prop := netRoomRow.holds Try.pinned (OpenSpec.ofChange netRoomSpec)

/-- ITS FALSE NEIGHBOUR: 'it returns false'. Refute it at one input. -/
def netRoomWrong : ChangeSpec := { name := "netRoom", fn := fun _ => fun
  | [d1, d2] => { results := [.lit (.bool false)], args := [d1, d2] }
  | _ => none }
def NetRoomWrongFalsely : Prop := netRoomRow.holds Try.pinned (OpenSpec.ofChange netRoomWrong)

/-- 'thrumlaw05.PlaneAgain': WHATEVER THE INPUT: true; the input reads as it did. -/
def planeAgainSpec : ChangeSpec := { name := "planeAgain", fn := fun _ => fun
  | [d1, d2, d3] => { results := [.lit (.bool true)], args := [d1, d2, d3] }
  | _ => none }
def planeAgainRow : OpenClaim := { program := "ytlppmamhbpcfcaa", sum := "cf616656dc1b9a16798414f226f08e161c780f5f2901b1c21529478dc7774e8e", func := "thrum/thrumlaw05.PlaneAgain", spec := "planeAgain", unfollowed := true, recurses := true, apart := false }
def PlaneAgainSaid : Prop := planeAgainRow.holds Try.pinned (OpenSpec.ofChange planeAgainSpec)

/-- ITS FALSE NEIGHBOUR: 'it returns false'. Refute it at one input. -/
def planeAgainWrong : ChangeSpec := { name := "planeAgain", fn := fun _ => fun
  | [d1, d2, d3] => { results := [.lit (.bool false)], args := [d1, d2, d3] }
  | _ => none }
def PlaneAgainWrongFalsely : Prop := planeAgainRow.holds Try.pinned (OpenSpec.ofChange planeAgainWrong)

/-- 'thrumlaw05.PlaneBack': WHATEVER THE INPUT: true; the input reads as it did. -/
def planeBackSpec : ChangeSpec := { name := "planeBack", fn := fun _ => fun
  | [d1, d2, d3] => { results := [.lit (.bool true)], args := [d1, d2, d3] }
  | _ => none }
def planeBackRow : OpenClaim := { program := "ytlppmamhbpcfcaa", sum := "cf616656dc1b9a16798414f226f08e161c780f5f2901b1c21529478dc7774e8e", func := "thrum/thrumlaw05.PlaneBack", spec := "planeBack", unfollowed := true, recurses := true, apart := false }
def PlaneBackSaid : Prop := planeBackRow.holds Try.pinned (OpenSpec.ofChange planeBackSpec)

/-- ITS FALSE NEIGHBOUR: 'it returns false'. Refute it at one input. -/
def planeBackWrong : ChangeSpec := { name := "planeBack", fn := fun _ => fun
  | [d1, d2, d3] => { results := [.lit (.bool false)], args := [d1, d2, d3] }
  | _ => none }
def PlaneBackWrongFalsely : Prop := planeBackRow.holds Try.pinned (OpenSpec.ofChange planeBackWrong)

/-- 'thrumlaw05.PlaneReads': WHATEVER THE INPUT: true; the input reads as it did. -/
def planeReadsSpec : ChangeSpec := { name := "planeReads", fn := fun _ => fun
  | [d1, d2, d3, d4] => { results := [.lit (.bool true)], args := [d1, d2, d3, d4] }
  | _ => none }
def planeReadsRow : OpenClaim := { program := "ytlppmamhbpcfcaa", sum := "cf616656dc1b9a16798414f226f08e161c780f5f2901b1c21529478dc7774e8e", func := "thrum/thrumlaw05.PlaneReads", spec := "planeReads", unfollowed := true, recurses := true, apart := false }
def PlaneReadsSaid : Prop := planeReadsRow.holds Try.pinned (OpenSpec.ofChange planeReadsSpec)

/-- ITS FALSE NEIGHBOUR: 'it returns false'. Refute it at one input. -/
def planeReadsWrong : ChangeSpec := { name := "planeReads", fn := fun _ => fun
  | [d1, d2, d3, d4] => { results := [.lit (.bool false)], args := [d1, d2, d3, d4] }
  | _ => none }
def PlaneReadsWrongFalsely : Prop := planeReadsRow.holds Try.pinned (OpenSpec.ofChange planeReadsWrong)

/-- 'thrumlaw21.NetTurns': WHATEVER THE INPUT: true; the input reads as it did. -/
def netTurnsSpec : ChangeSpec := { name := "netTurns", fn := fun _ => fun
  | [d1, d2, d3, d4, d5] => { results := [.lit (.bool true)], args := [d1, d2, d3, d4, d5] }
  | _ => none }
def netTurnsRow : OpenClaim := { program := "ytlppmamhbpcfcaa", sum := "cf616656dc1b9a16798414f226f08e161c780f5f2901b1c21529478dc7774e8e", func := "thrum/thrumlaw21.NetTurns", spec := "netTurns", unfollowed := true, recurses := true, apart := false }
def NetTurnsSaid : Prop := netTurnsRow.holds Try.pinned (OpenSpec.ofChange netTurnsSpec)

/-- ITS FALSE NEIGHBOUR: 'it returns false'. Refute it at one input. -/
def netTurnsWrong : ChangeSpec := { name := "netTurns", fn := fun _ => fun
  | [d1, d2, d3, d4, d5] => { results := [.lit (.bool false)], args := [d1, d2, d3, d4, d5] }
  | _ => none }
def NetTurnsWrongFalsely : Prop := netTurnsRow.holds Try.pinned (OpenSpec.ofChange netTurnsWrong)

/-- 'thrumlaw21.NetDoes': WHATEVER THE INPUT: true; the input reads as it did. -/
def netDoesSpec : ChangeSpec := { name := "netDoes", fn := fun _ => fun
  | [d1, d2, d3, d4, d5, d6] => { results := [.lit (.bool true)], args := [d1, d2, d3, d4, d5, d6] }
  | _ => none }
def netDoesRow : OpenClaim := { program := "ytlppmamhbpcfcaa", sum := "cf616656dc1b9a16798414f226f08e161c780f5f2901b1c21529478dc7774e8e", func := "thrum/thrumlaw21.NetDoes", spec := "netDoes", unfollowed := true, recurses := true, apart := false }
def NetDoesSaid : Prop := netDoesRow.holds Try.pinned (OpenSpec.ofChange netDoesSpec)

/-- ITS FALSE NEIGHBOUR: 'it returns false'. Refute it at one input. -/
def netDoesWrong : ChangeSpec := { name := "netDoes", fn := fun _ => fun
  | [d1, d2, d3, d4, d5, d6] => { results := [.lit (.bool false)], args := [d1, d2, d3, d4, d5, d6] }
  | _ => none }
def NetDoesWrongFalsely : Prop := netDoesRow.holds Try.pinned (OpenSpec.ofChange netDoesWrong)

/- THE SECOND FORM. 'bulk': how many values and letters a reading holds, each counted each time it is reached (what is shared counts as often as it is met; a slice's spare places count too). A statement '..UptoSaid' is the law's where the arguments, and the package variables that the reading takes, are together of bulk at most 1048576: NARROWER than '..Said'. Prove '..Said' where nothing that the law and all that it calls make is longer than what came in: it says more and counts as full. Else prove '..UptoSaid'. A law counts once. -/
mutual
def uptoBulk {H : Type} : DataW H → Nat
  | .lit (.string bytes) => bytes.length + 1
  | .lit _ => 1
  | .nil => 1
  | .ptr d => uptoBulk d + 1
  | .slice elems spare => uptoBulkAll elems + uptoBulkAll spare + 1
  | .agg parts => uptoBulkAll parts + 1
  | .iface _ d => uptoBulk d + 1
  | .map entries => uptoBulkEntries entries + 1
  | .held _ => 1
def uptoBulkAll {H : Type} : List (DataW H) → Nat
  | [] => 0
  | d :: r => uptoBulk d + uptoBulkAll r
def uptoBulkEntries {H : Type} : List (Lit × DataW H) → Nat
  | [] => 0
  | x :: r => uptoBulkEntry x + uptoBulkEntries r
def uptoBulkEntry {H : Type} : Lit × DataW H → Nat
  | (.string bytes, d) => bytes.length + uptoBulk d + 1
  | (_, d) => uptoBulk d + 1
 end
def uptoSmall : (H : Type) → List (DataW H) → Bool := fun _ ds => decide (uptoBulkAll ds ≤ 1048576)
def OpenSpec.upto (s : _root_.Go.ChangeSpec) : _root_.Go.OpenSpec := { _root_.Go.OpenSpec.ofChange s with cond := some uptoSmall }

/-- 'thrumlaw05.PlanePacks', WHERE WHAT IT READS IS OF BULK AT MOST 1048576: true; the input reads as it did. -/
def planePacksUptoRow : OpenClaim := { program := "ytlppmamhbpcfcaa", sum := "cf616656dc1b9a16798414f226f08e161c780f5f2901b1c21529478dc7774e8e", func := "thrum/thrumlaw05.PlanePacks", spec := "planePacks", unfollowed := true, recurses := true, apart := false, narrowed := true }
def PlanePacksUptoSaid : Prop := planePacksUptoRow.holds Try.pinned (OpenSpec.upto planePacksSpec)

/-- 'thrumlaw21.NetGives', WHERE WHAT IT READS IS OF BULK AT MOST 1048576: true; the input reads as it did. -/
def netGivesUptoRow : OpenClaim := { program := "ytlppmamhbpcfcaa", sum := "cf616656dc1b9a16798414f226f08e161c780f5f2901b1c21529478dc7774e8e", func := "thrum/thrumlaw21.NetGives", spec := "netGives", unfollowed := true, recurses := true, apart := false, narrowed := true }
def NetGivesUptoSaid : Prop := netGivesUptoRow.holds Try.pinned (OpenSpec.upto netGivesSpec)

/-- 'thrumlaw21.NetRoom', WHERE WHAT IT READS IS OF BULK AT MOST 1048576: true; the input reads as it did. -/
def netRoomUptoRow : OpenClaim := { program := "ytlppmamhbpcfcaa", sum := "cf616656dc1b9a16798414f226f08e161c780f5f2901b1c21529478dc7774e8e", func := "thrum/thrumlaw21.NetRoom", spec := "netRoom", unfollowed := true, recurses := true, apart := false, narrowed := true }
def NetRoomUptoSaid : Prop := netRoomUptoRow.holds Try.pinned (OpenSpec.upto netRoomSpec)

/-- 'thrumlaw05.PlaneAgain', WHERE WHAT IT READS IS OF BULK AT MOST 1048576: true; the input reads as it did. -/
def planeAgainUptoRow : OpenClaim := { program := "ytlppmamhbpcfcaa", sum := "cf616656dc1b9a16798414f226f08e161c780f5f2901b1c21529478dc7774e8e", func := "thrum/thrumlaw05.PlaneAgain", spec := "planeAgain", unfollowed := true, recurses := true, apart := false, narrowed := true }
def PlaneAgainUptoSaid : Prop := planeAgainUptoRow.holds Try.pinned (OpenSpec.upto planeAgainSpec)

/-- 'thrumlaw05.PlaneBack', WHERE WHAT IT READS IS OF BULK AT MOST 1048576: true; the input reads as it did. -/
def planeBackUptoRow : OpenClaim := { program := "ytlppmamhbpcfcaa", sum := "cf616656dc1b9a16798414f226f08e161c780f5f2901b1c21529478dc7774e8e", func := "thrum/thrumlaw05.PlaneBack", spec := "planeBack", unfollowed := true, recurses := true, apart := false, narrowed := true }
def PlaneBackUptoSaid : Prop := planeBackUptoRow.holds Try.pinned (OpenSpec.upto planeBackSpec)

/-- 'thrumlaw05.PlaneReads', WHERE WHAT IT READS IS OF BULK AT MOST 1048576: true; the input reads as it did. -/
def planeReadsUptoRow : OpenClaim := { program := "ytlppmamhbpcfcaa", sum := "cf616656dc1b9a16798414f226f08e161c780f5f2901b1c21529478dc7774e8e", func := "thrum/thrumlaw05.PlaneReads", spec := "planeReads", unfollowed := true, recurses := true, apart := false, narrowed := true }
def PlaneReadsUptoSaid : Prop := planeReadsUptoRow.holds Try.pinned (OpenSpec.upto planeReadsSpec)

/-- 'thrumlaw21.NetTurns', WHERE WHAT IT READS IS OF BULK AT MOST 1048576: true; the input reads as it did. -/
def netTurnsUptoRow : OpenClaim := { program := "ytlppmamhbpcfcaa", sum := "cf616656dc1b9a16798414f226f08e161c780f5f2901b1c21529478dc7774e8e", func := "thrum/thrumlaw21.NetTurns", spec := "netTurns", unfollowed := true, recurses := true, apart := false, narrowed := true }
def NetTurnsUptoSaid : Prop := netTurnsUptoRow.holds Try.pinned (OpenSpec.upto netTurnsSpec)

/-- 'thrumlaw21.NetDoes', WHERE WHAT IT READS IS OF BULK AT MOST 1048576: true; the input reads as it did. -/
def netDoesUptoRow : OpenClaim := { program := "ytlppmamhbpcfcaa", sum := "cf616656dc1b9a16798414f226f08e161c780f5f2901b1c21529478dc7774e8e", func := "thrum/thrumlaw21.NetDoes", spec := "netDoes", unfollowed := true, recurses := true, apart := false, narrowed := true }
def NetDoesUptoSaid : Prop := netDoesUptoRow.holds Try.pinned (OpenSpec.upto netDoesSpec)

end Rows
end Go.Proofs.Ytlppmamhbpcfcaa
