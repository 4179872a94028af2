/-
  No cell of these rows narrows 'for every input' (looked for: loops, veiled, ifaces, maps, wideKeys, modest, calm, conditions, laid).
  DERIVED. THE GIVEN ROWS OF THIS SEAT. 12 by the template 'for every input the law returns true; each argument reads behind the call as it read before'; 0 by the template 'total and deterministic' (their statements: YtejhbmdjdbbnpaaTotals.lean).
  GIVEN WITH THE SEED: the statements are not yours to turn. If you find one false, say at which input.
  Laid BY PROGRAM, IN A SANDBOX (cutbox-rows.mjs): the forced cells as the released guide's own fill.sh prints them over the translation 3c11aed9c4a413e8… (all of the seat's roots in one cut). By AI agents, Wed Nov 11 2026. No macro, syntax, notation, axiom, sorry.
-/
import Derived.Test.YtejhbmdjdbbnpaaChecked
import GoSem.Claim
import GoSem.ClaimJoined
import GoSem.ClaimMapViews
import Derived.JoinedTies
import Derived.KernelRfl
namespace Go.Proofs.Ytejhbmdjdbbnpaa
/- THE CELL 'sum', in the pinned program and in every row, IS THE sha256 OF THE DUMP (.gsa) THAT YtejhbmdjdbbnpaaProg.lean LOADS. Nothing in Lean hashes anything: it is a label: what it is worth is what the hold of that sum in a sandbox is worth. -/
noncomputable def Try.pinned : Pinned := { name := "ytejhbmdjdbbnpaa", sum := "3c11aed9c4a413e8e0fedafa124d89bdaa16ff0f015530858a597693e88afc4d", checked := Try.checked }
namespace Rows
def none {H : Type} : Left H := { results := [], args := [] }

/-- 'thrumlaw08.DrawApart': WHATEVER THE INPUT: true; the input reads as it did. -/
def drawApartSpec : ChangeSpec := { name := "drawApart", fn := fun _ => fun
  | [d1, d2, d3, d4, d5] => { results := [.lit (.bool true)], args := [d1, d2, d3, d4, d5] }
  | _ => none }
def drawApartRow : OpenClaim := { program := "ytejhbmdjdbbnpaa", sum := "3c11aed9c4a413e8e0fedafa124d89bdaa16ff0f015530858a597693e88afc4d", func := "thrum/thrumlaw08.DrawApart", spec := "drawApart", apart := false }
def DrawApartSaid : Prop := drawApartRow.holds Try.pinned (OpenSpec.ofChange drawApartSpec)

/-- ITS FALSE NEIGHBOUR: 'it returns false'. Refute it at one input. -/
def drawApartWrong : ChangeSpec := { name := "drawApart", fn := fun _ => fun
  | [d1, d2, d3, d4, d5] => { results := [.lit (.bool false)], args := [d1, d2, d3, d4, d5] }
  | _ => none }
def DrawApartWrongFalsely : Prop := drawApartRow.holds Try.pinned (OpenSpec.ofChange drawApartWrong)

/-- 'thrumlaw03.LebSigns': WHATEVER THE INPUT: true; the input reads as it did. -/
def lebSignsSpec : ChangeSpec := { name := "lebSigns", fn := fun _ => fun
  | [d1, d2] => { results := [.lit (.bool true)], args := [d1, d2] }
  | _ => none }
def lebSignsRow : OpenClaim := { program := "ytejhbmdjdbbnpaa", sum := "3c11aed9c4a413e8e0fedafa124d89bdaa16ff0f015530858a597693e88afc4d", func := "thrum/thrumlaw03.LebSigns", spec := "lebSigns", apart := false }
def LebSignsSaid : Prop := lebSignsRow.holds Try.pinned (OpenSpec.ofChange lebSignsSpec)

/-- ITS FALSE NEIGHBOUR: 'it returns false'. Refute it at one input. -/
def lebSignsWrong : ChangeSpec := { name := "lebSigns", fn := fun _ => fun
  | [d1, d2] => { results := [.lit (.bool false)], args := [d1, d2] }
  | _ => none }
def LebSignsWrongFalsely : Prop := lebSignsRow.holds Try.pinned (OpenSpec.ofChange lebSignsWrong)

/-- 'thrumlaw08.DrawDraws': WHATEVER THE INPUT: true; the input reads as it did. -/
def drawDrawsSpec : ChangeSpec := { name := "drawDraws", fn := fun _ => fun
  | [d1, d2, d3, d4] => { results := [.lit (.bool true)], args := [d1, d2, d3, d4] }
  | _ => none }
def drawDrawsRow : OpenClaim := { program := "ytejhbmdjdbbnpaa", sum := "3c11aed9c4a413e8e0fedafa124d89bdaa16ff0f015530858a597693e88afc4d", func := "thrum/thrumlaw08.DrawDraws", spec := "drawDraws", apart := false }
def DrawDrawsSaid : Prop := drawDrawsRow.holds Try.pinned (OpenSpec.ofChange drawDrawsSpec)

/-- ITS FALSE NEIGHBOUR: 'it returns false'. Refute it at one input. -/
def drawDrawsWrong : ChangeSpec := { name := "drawDraws", fn := fun _ => fun
  | [d1, d2, d3, d4] => { results := [.lit (.bool false)], args := [d1, d2, d3, d4] }
  | _ => none }
def DrawDrawsWrongFalsely : Prop := drawDrawsRow.holds Try.pinned (OpenSpec.ofChange drawDrawsWrong)

/-- 'thrumlaw08.DrawChances': WHATEVER THE INPUT: true; the input reads as it did. -/
def drawChancesSpec : ChangeSpec := { name := "drawChances", fn := fun _ => fun
  | [d1, d2, d3, d4, d5] => { results := [.lit (.bool true)], args := [d1, d2, d3, d4, d5] }
  | _ => none }
def drawChancesRow : OpenClaim := { program := "ytejhbmdjdbbnpaa", sum := "3c11aed9c4a413e8e0fedafa124d89bdaa16ff0f015530858a597693e88afc4d", func := "thrum/thrumlaw08.DrawChances", spec := "drawChances", apart := false }
def DrawChancesSaid : Prop := drawChancesRow.holds Try.pinned (OpenSpec.ofChange drawChancesSpec)

/-- ITS FALSE NEIGHBOUR: 'it returns false'. Refute it at one input. -/
def drawChancesWrong : ChangeSpec := { name := "drawChances", fn := fun _ => fun
  | [d1, d2, d3, d4, d5] => { results := [.lit (.bool false)], args := [d1, d2, d3, d4, d5] }
  | _ => none }
def DrawChancesWrongFalsely : Prop := drawChancesRow.holds Try.pinned (OpenSpec.ofChange drawChancesWrong)

/-- 'thrumlaw08.DrawOrders': WHATEVER THE INPUT: true; the input reads as it did. -/
def drawOrdersSpec : ChangeSpec := { name := "drawOrders", fn := fun _ => fun
  | [d1, d2, d3, d4] => { results := [.lit (.bool true)], args := [d1, d2, d3, d4] }
  | _ => none }
def drawOrdersRow : OpenClaim := { program := "ytejhbmdjdbbnpaa", sum := "3c11aed9c4a413e8e0fedafa124d89bdaa16ff0f015530858a597693e88afc4d", func := "thrum/thrumlaw08.DrawOrders", spec := "drawOrders", apart := false }
def DrawOrdersSaid : Prop := drawOrdersRow.holds Try.pinned (OpenSpec.ofChange drawOrdersSpec)

/-- ITS FALSE NEIGHBOUR: 'it returns false'. Refute it at one input. -/
def drawOrdersWrong : ChangeSpec := { name := "drawOrders", fn := fun _ => fun
  | [d1, d2, d3, d4] => { results := [.lit (.bool false)], args := [d1, d2, d3, d4] }
  | _ => none }
def DrawOrdersWrongFalsely : Prop := drawOrdersRow.holds Try.pinned (OpenSpec.ofChange drawOrdersWrong)

/-- 'thrumlaw08.DrawOnce': WHATEVER THE INPUT: true; the input reads as it did. -/
def drawOnceSpec : ChangeSpec := { name := "drawOnce", fn := fun _ => fun
  | [d1, d2, d3, d4] => { results := [.lit (.bool true)], args := [d1, d2, d3, d4] }
  | _ => none }
def drawOnceRow : OpenClaim := { program := "ytejhbmdjdbbnpaa", sum := "3c11aed9c4a413e8e0fedafa124d89bdaa16ff0f015530858a597693e88afc4d", func := "thrum/thrumlaw08.DrawOnce", spec := "drawOnce", apart := false }
def DrawOnceSaid : Prop := drawOnceRow.holds Try.pinned (OpenSpec.ofChange drawOnceSpec)

/-- ITS FALSE NEIGHBOUR: 'it returns false'. Refute it at one input. -/
def drawOnceWrong : ChangeSpec := { name := "drawOnce", fn := fun _ => fun
  | [d1, d2, d3, d4] => { results := [.lit (.bool false)], args := [d1, d2, d3, d4] }
  | _ => none }
def DrawOnceWrongFalsely : Prop := drawOnceRow.holds Try.pinned (OpenSpec.ofChange drawOnceWrong)

/-- 'thrumlaw08.DrawSpreads': WHATEVER THE INPUT: true; the input reads as it did. -/
def drawSpreadsSpec : ChangeSpec := { name := "drawSpreads", fn := fun _ => fun
  | [d1, d2, d3, d4] => { results := [.lit (.bool true)], args := [d1, d2, d3, d4] }
  | _ => none }
def drawSpreadsRow : OpenClaim := { program := "ytejhbmdjdbbnpaa", sum := "3c11aed9c4a413e8e0fedafa124d89bdaa16ff0f015530858a597693e88afc4d", func := "thrum/thrumlaw08.DrawSpreads", spec := "drawSpreads", apart := false }
def DrawSpreadsSaid : Prop := drawSpreadsRow.holds Try.pinned (OpenSpec.ofChange drawSpreadsSpec)

/-- ITS FALSE NEIGHBOUR: 'it returns false'. Refute it at one input. -/
def drawSpreadsWrong : ChangeSpec := { name := "drawSpreads", fn := fun _ => fun
  | [d1, d2, d3, d4] => { results := [.lit (.bool false)], args := [d1, d2, d3, d4] }
  | _ => none }
def DrawSpreadsWrongFalsely : Prop := drawSpreadsRow.holds Try.pinned (OpenSpec.ofChange drawSpreadsWrong)

/-- 'thrumlaw03.LebMany': WHATEVER THE INPUT: true; the input reads as it did. -/
def lebManySpec : ChangeSpec := { name := "lebMany", fn := fun _ => fun
  | [d1, d2] => { results := [.lit (.bool true)], args := [d1, d2] }
  | _ => none }
def lebManyRow : OpenClaim := { program := "ytejhbmdjdbbnpaa", sum := "3c11aed9c4a413e8e0fedafa124d89bdaa16ff0f015530858a597693e88afc4d", func := "thrum/thrumlaw03.LebMany", spec := "lebMany", apart := false }
def LebManySaid : Prop := lebManyRow.holds Try.pinned (OpenSpec.ofChange lebManySpec)

/-- ITS FALSE NEIGHBOUR: 'it returns false'. Refute it at one input. -/
def lebManyWrong : ChangeSpec := { name := "lebMany", fn := fun _ => fun
  | [d1, d2] => { results := [.lit (.bool false)], args := [d1, d2] }
  | _ => none }
def LebManyWrongFalsely : Prop := lebManyRow.holds Try.pinned (OpenSpec.ofChange lebManyWrong)

/-- 'thrumlaw03.LebApart': WHATEVER THE INPUT: true; the input reads as it did. -/
def lebApartSpec : ChangeSpec := { name := "lebApart", fn := fun _ => fun
  | [d1, d2] => { results := [.lit (.bool true)], args := [d1, d2] }
  | _ => none }
def lebApartRow : OpenClaim := { program := "ytejhbmdjdbbnpaa", sum := "3c11aed9c4a413e8e0fedafa124d89bdaa16ff0f015530858a597693e88afc4d", func := "thrum/thrumlaw03.LebApart", spec := "lebApart", apart := false }
def LebApartSaid : Prop := lebApartRow.holds Try.pinned (OpenSpec.ofChange lebApartSpec)

/-- ITS FALSE NEIGHBOUR: 'it returns false'. Refute it at one input. -/
def lebApartWrong : ChangeSpec := { name := "lebApart", fn := fun _ => fun
  | [d1, d2] => { results := [.lit (.bool false)], args := [d1, d2] }
  | _ => none }
def LebApartWrongFalsely : Prop := lebApartRow.holds Try.pinned (OpenSpec.ofChange lebApartWrong)

/-- 'thrumlaw03.LebReads': WHATEVER THE INPUT: true; the input reads as it did. -/
def lebReadsSpec : ChangeSpec := { name := "lebReads", fn := fun _ => fun
  | [d1, d2, d3] => { results := [.lit (.bool true)], args := [d1, d2, d3] }
  | _ => none }
def lebReadsRow : OpenClaim := { program := "ytejhbmdjdbbnpaa", sum := "3c11aed9c4a413e8e0fedafa124d89bdaa16ff0f015530858a597693e88afc4d", func := "thrum/thrumlaw03.LebReads", spec := "lebReads", apart := false }
def LebReadsSaid : Prop := lebReadsRow.holds Try.pinned (OpenSpec.ofChange lebReadsSpec)

/-- ITS FALSE NEIGHBOUR: 'it returns false'. Refute it at one input. -/
def lebReadsWrong : ChangeSpec := { name := "lebReads", fn := fun _ => fun
  | [d1, d2, d3] => { results := [.lit (.bool false)], args := [d1, d2, d3] }
  | _ => none }
def LebReadsWrongFalsely : Prop := lebReadsRow.holds Try.pinned (OpenSpec.ofChange lebReadsWrong)

/-- 'thrumlaw03.LebWrites': WHATEVER THE INPUT: true; the input reads as it did. -/
def lebWritesSpec : ChangeSpec := { name := "lebWrites", fn := fun _ => fun
  | [d1, d2, d3, d4, d5] => { results := [.lit (.bool true)], args := [d1, d2, d3, d4, d5] }
  | _ => none }
def lebWritesRow : OpenClaim := { program := "ytejhbmdjdbbnpaa", sum := "3c11aed9c4a413e8e0fedafa124d89bdaa16ff0f015530858a597693e88afc4d", func := "thrum/thrumlaw03.LebWrites", spec := "lebWrites", recurses := true, apart := false }
def LebWritesSaid : Prop := lebWritesRow.holds Try.pinned (OpenSpec.ofChange lebWritesSpec)

/-- ITS FALSE NEIGHBOUR: 'it returns false'. Refute it at one input. -/
def lebWritesWrong : ChangeSpec := { name := "lebWrites", fn := fun _ => fun
  | [d1, d2, d3, d4, d5] => { results := [.lit (.bool false)], args := [d1, d2, d3, d4, d5] }
  | _ => none }
def LebWritesWrongFalsely : Prop := lebWritesRow.holds Try.pinned (OpenSpec.ofChange lebWritesWrong)

/-- 'thrumlaw03.LebBack': WHATEVER THE INPUT: true; the input reads as it did. -/
def lebBackSpec : ChangeSpec := { name := "lebBack", fn := fun _ => fun
  | [d1, d2, d3, d4] => { results := [.lit (.bool true)], args := [d1, d2, d3, d4] }
  | _ => none }
def lebBackRow : OpenClaim := { program := "ytejhbmdjdbbnpaa", sum := "3c11aed9c4a413e8e0fedafa124d89bdaa16ff0f015530858a597693e88afc4d", func := "thrum/thrumlaw03.LebBack", spec := "lebBack", apart := false }
def LebBackSaid : Prop := lebBackRow.holds Try.pinned (OpenSpec.ofChange lebBackSpec)

/-- ITS FALSE NEIGHBOUR: 'it returns false'. Refute it at one input. -/
def lebBackWrong : ChangeSpec := { name := "lebBack", fn := fun _ => fun
  | [d1, d2, d3, d4] => { results := [.lit (.bool false)], args := [d1, d2, d3, d4] }
  | _ => none }
def LebBackWrongFalsely : Prop := lebBackRow.holds Try.pinned (OpenSpec.ofChange lebBackWrong)

/- THE SECOND FORM. 'bulk': how many values and letters a reading holds, each counted each time it is reached (what is shared counts as often as it is met; a slice's spare places count too). A statement '..UptoSaid' is the law's where the arguments, and the package variables that the reading takes, are together of bulk at most 1048576: NARROWER than '..Said'. Prove '..Said' where nothing that the law and all that it calls make is longer than what came in: it says more and counts as full. Else prove '..UptoSaid'. A law counts once. -/
mutual
def uptoBulk {H : Type} : DataW H → Nat
  | .lit (.string bytes) => bytes.length + 1
  | .lit _ => 1
  | .nil => 1
  | .ptr d => uptoBulk d + 1
  | .slice elems spare => uptoBulkAll elems + uptoBulkAll spare + 1
  | .agg parts => uptoBulkAll parts + 1
  | .iface _ d => uptoBulk d + 1
  | .map entries => uptoBulkEntries entries + 1
  | .held _ => 1
def uptoBulkAll {H : Type} : List (DataW H) → Nat
  | [] => 0
  | d :: r => uptoBulk d + uptoBulkAll r
def uptoBulkEntries {H : Type} : List (Lit × DataW H) → Nat
  | [] => 0
  | x :: r => uptoBulkEntry x + uptoBulkEntries r
def uptoBulkEntry {H : Type} : Lit × DataW H → Nat
  | (.string bytes, d) => bytes.length + uptoBulk d + 1
  | (_, d) => uptoBulk d + 1
 end
def uptoSmall : (H : Type) → List (DataW H) → Bool := fun _ ds => decide (uptoBulkAll ds ≤ 1048576)
def OpenSpec.upto (s : _root_.Go.ChangeSpec) : _root_.Go.OpenSpec := { _root_.Go.OpenSpec.ofChange s with cond := some uptoSmall }

/-- 'thrumlaw08.DrawApart', WHERE WHAT IT READS IS OF BULK AT MOST 1048576: true; the input reads as it did. -/
def drawApartUptoRow : OpenClaim := { program := "ytejhbmdjdbbnpaa", sum := "3c11aed9c4a413e8e0fedafa124d89bdaa16ff0f015530858a597693e88afc4d", func := "thrum/thrumlaw08.DrawApart", spec := "drawApart", apart := false, narrowed := true }
def DrawApartUptoSaid : Prop := drawApartUptoRow.holds Try.pinned (OpenSpec.upto drawApartSpec)

/-- 'thrumlaw03.LebSigns', WHERE WHAT IT READS IS OF BULK AT MOST 1048576: true; the input reads as it did. -/
def lebSignsUptoRow : OpenClaim := { program := "ytejhbmdjdbbnpaa", sum := "3c11aed9c4a413e8e0fedafa124d89bdaa16ff0f015530858a597693e88afc4d", func := "thrum/thrumlaw03.LebSigns", spec := "lebSigns", apart := false, narrowed := true }
def LebSignsUptoSaid : Prop := lebSignsUptoRow.holds Try.pinned (OpenSpec.upto lebSignsSpec)

/-- 'thrumlaw08.DrawDraws', WHERE WHAT IT READS IS OF BULK AT MOST 1048576: true; the input reads as it did. -/
def drawDrawsUptoRow : OpenClaim := { program := "ytejhbmdjdbbnpaa", sum := "3c11aed9c4a413e8e0fedafa124d89bdaa16ff0f015530858a597693e88afc4d", func := "thrum/thrumlaw08.DrawDraws", spec := "drawDraws", apart := false, narrowed := true }
def DrawDrawsUptoSaid : Prop := drawDrawsUptoRow.holds Try.pinned (OpenSpec.upto drawDrawsSpec)

/-- 'thrumlaw08.DrawChances', WHERE WHAT IT READS IS OF BULK AT MOST 1048576: true; the input reads as it did. -/
def drawChancesUptoRow : OpenClaim := { program := "ytejhbmdjdbbnpaa", sum := "3c11aed9c4a413e8e0fedafa124d89bdaa16ff0f015530858a597693e88afc4d", func := "thrum/thrumlaw08.DrawChances", spec := "drawChances", apart := false, narrowed := true }
def DrawChancesUptoSaid : Prop := drawChancesUptoRow.holds Try.pinned (OpenSpec.upto drawChancesSpec)

/-- 'thrumlaw08.DrawOrders', WHERE WHAT IT READS IS OF BULK AT MOST 1048576: true; the input reads as it did. -/
def drawOrdersUptoRow : OpenClaim := { program := "ytejhbmdjdbbnpaa", sum := "3c11aed9c4a413e8e0fedafa124d89bdaa16ff0f015530858a597693e88afc4d", func := "thrum/thrumlaw08.DrawOrders", spec := "drawOrders", apart := false, narrowed := true }
def DrawOrdersUptoSaid : Prop := drawOrdersUptoRow.holds Try.pinned (OpenSpec.upto drawOrdersSpec)

/-- 'thrumlaw08.DrawOnce', WHERE WHAT IT READS IS OF BULK AT MOST 1048576: true; the input reads as it did. -/
def drawOnceUptoRow : OpenClaim := { program := "ytejhbmdjdbbnpaa", sum := "3c11aed9c4a413e8e0fedafa124d89bdaa16ff0f015530858a597693e88afc4d", func := "thrum/thrumlaw08.DrawOnce", spec := "drawOnce", apart := false, narrowed := true }
def DrawOnceUptoSaid : Prop := drawOnceUptoRow.holds Try.pinned (OpenSpec.upto drawOnceSpec)

/-- 'thrumlaw08.DrawSpreads', WHERE WHAT IT READS IS OF BULK AT MOST 1048576: true; the input reads as it did. -/
def drawSpreadsUptoRow : OpenClaim := { program := "ytejhbmdjdbbnpaa", sum := "3c11aed9c4a413e8e0fedafa124d89bdaa16ff0f015530858a597693e88afc4d", func := "thrum/thrumlaw08.DrawSpreads", spec := "drawSpreads", apart := false, narrowed := true }
def DrawSpreadsUptoSaid : Prop := drawSpreadsUptoRow.holds Try.pinned (OpenSpec.upto drawSpreadsSpec)

/-- 'thrumlaw03.LebMany', WHERE WHAT IT READS IS OF BULK AT MOST 1048576: true; the input reads as it did. -/
def lebManyUptoRow : OpenClaim := { program := "ytejhbmdjdbbnpaa", sum := "3c11aed9c4a413e8e0fedafa124d89bdaa16ff0f015530858a597693e88afc4d", func := "thrum/thrumlaw03.LebMany", spec := "lebMany", apart := false, narrowed := true }
def LebManyUptoSaid : Prop := lebManyUptoRow.holds Try.pinned (OpenSpec.upto lebManySpec)

/-- 'thrumlaw03.LebApart', WHERE WHAT IT READS IS OF BULK AT MOST 1048576: true; the input reads as it did. -/
def lebApartUptoRow : OpenClaim := { program := "ytejhbmdjdbbnpaa", sum := "3c11aed9c4a413e8e0fedafa124d89bdaa16ff0f015530858a597693e88afc4d", func := "thrum/thrumlaw03.LebApart", spec := "lebApart", apart := false, narrowed := true }
def LebApartUptoSaid : Prop := lebApartUptoRow.holds Try.pinned (OpenSpec.upto lebApartSpec)

/-- 'thrumlaw03.LebReads', WHERE WHAT IT READS IS OF BULK AT MOST 1048576: true; the input reads as it did. -/
def lebReadsUptoRow : OpenClaim := { program := "ytejhbmdjdbbnpaa", sum := "3c11aed9c4a413e8e0fedafa124d89bdaa16ff0f015530858a597693e88afc4d", func := "thrum/thrumlaw03.LebReads", spec := "lebReads", apart := false, narrowed := true }
def LebReadsUptoSaid : Prop := lebReadsUptoRow.holds Try.pinned (OpenSpec.upto lebReadsSpec)

/-- 'thrumlaw03.LebWrites', WHERE WHAT IT READS IS OF BULK AT MOST 1048576: true; the input reads as it did. -/
def lebWritesUptoRow : OpenClaim := { program := "ytejhbmdjdbbnpaa", sum := "3c11aed9c4a413e8e0fedafa124d89bdaa16ff0f015530858a597693e88afc4d", func := "thrum/thrumlaw03.LebWrites", spec := "lebWrites", recurses := true, apart := false, narrowed := true }
def LebWritesUptoSaid : Prop := lebWritesUptoRow.holds Try.pinned (OpenSpec.upto lebWritesSpec)

/-- 'thrumlaw03.LebBack', WHERE WHAT IT READS IS OF BULK AT MOST 1048576: true; the input reads as it did. -/
def lebBackUptoRow : OpenClaim := { program := "ytejhbmdjdbbnpaa", sum := "3c11aed9c4a413e8e0fedafa124d89bdaa16ff0f015530858a597693e88afc4d", func := "thrum/thrumlaw03.LebBack", spec := "lebBack", apart := false, narrowed := true }
def LebBackUptoSaid : Prop := lebBackUptoRow.holds Try.pinned (OpenSpec.upto lebBackSpec)

end Rows
end Go.Proofs.Ytejhbmdjdbbnpaa
