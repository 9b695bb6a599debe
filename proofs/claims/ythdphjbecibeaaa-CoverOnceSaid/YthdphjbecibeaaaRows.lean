/-
  No cell of these rows narrows 'for every input' (looked for: loops, veiled, ifaces, maps, wideKeys, modest, calm, conditions, laid).
  DERIVED. THE GIVEN ROWS OF THIS SEAT. 14 by the template 'for every input the law returns true; each argument reads behind the call as it read before'; 0 by the template 'total and deterministic' (their statements: YthdphjbecibeaaaTotals.lean).
  GIVEN WITH THE SEED: the statements are not yours to turn. If you find one false, say at which input.
  Laid BY PROGRAM, IN A SANDBOX (cutbox-rows.mjs): the forced cells as the released guide's own fill.sh prints them over the translation 94de93cceb372b9b… (all of the seat's roots in one cut). By AI agents, Wed Nov 11 2026. No macro, syntax, notation, axiom, sorry.
-/
import Derived.Test.YthdphjbecibeaaaChecked
import GoSem.Claim
import GoSem.ClaimJoined
import GoSem.ClaimMapViews
import Derived.JoinedTies
import Derived.KernelRfl
namespace Go.Proofs.Ythdphjbecibeaaa
/- THE CELL 'sum', in the pinned program and in every row, IS THE sha256 OF THE DUMP (.gsa) THAT YthdphjbecibeaaaProg.lean LOADS. Nothing in Lean hashes anything: it is a label: what it is worth is what the hold of that sum in a sandbox is worth. -/
noncomputable def Try.pinned : Pinned := { name := "ythdphjbecibeaaa", sum := "94de93cceb372b9bca9cd6512d5968981087372b832962e968406e8e089fe3fc", checked := Try.checked }
namespace Rows
def none {H : Type} : Left H := { results := [], args := [] }

/-- 'pantilelaw01.ZbitsOrder': WHATEVER THE INPUT: true; the input reads as it did. -/
def zbitsOrderSpec : ChangeSpec := { name := "zbitsOrder", fn := fun _ => fun
  | [d1, d2, d3] => { results := [.lit (.bool true)], args := [d1, d2, d3] }
  | _ => none }
def zbitsOrderRow : OpenClaim := { program := "ythdphjbecibeaaa", sum := "94de93cceb372b9bca9cd6512d5968981087372b832962e968406e8e089fe3fc", func := "pantile/pantilelaw01.ZbitsOrder", spec := "zbitsOrder", apart := false }
def ZbitsOrderSaid : Prop := zbitsOrderRow.holds Try.pinned (OpenSpec.ofChange zbitsOrderSpec)

/-- ITS FALSE NEIGHBOUR: 'it returns false'. Refute it at one input. -/
def zbitsOrderWrong : ChangeSpec := { name := "zbitsOrder", fn := fun _ => fun
  | [d1, d2, d3] => { results := [.lit (.bool false)], args := [d1, d2, d3] }
  | _ => none }
def ZbitsOrderWrongFalsely : Prop := zbitsOrderRow.holds Try.pinned (OpenSpec.ofChange zbitsOrderWrong)

/-- 'pantilelaw03.BoxAround': WHATEVER THE INPUT: true; the input reads as it did. -/
def boxAroundSpec : ChangeSpec := { name := "boxAround", fn := fun _ => fun
  | [d1, d2, d3, d4] => { results := [.lit (.bool true)], args := [d1, d2, d3, d4] }
  | _ => none }
def boxAroundRow : OpenClaim := { program := "ythdphjbecibeaaa", sum := "94de93cceb372b9bca9cd6512d5968981087372b832962e968406e8e089fe3fc", func := "pantile/pantilelaw03.BoxAround", spec := "boxAround", unfollowed := true, recurses := true, apart := false }
def BoxAroundSaid : Prop := boxAroundRow.holds Try.pinned (OpenSpec.ofChange boxAroundSpec)

/-- ITS FALSE NEIGHBOUR: 'it returns false'. Refute it at one input. -/
def boxAroundWrong : ChangeSpec := { name := "boxAround", fn := fun _ => fun
  | [d1, d2, d3, d4] => { results := [.lit (.bool false)], args := [d1, d2, d3, d4] }
  | _ => none }
def BoxAroundWrongFalsely : Prop := boxAroundRow.holds Try.pinned (OpenSpec.ofChange boxAroundWrong)

/-- 'pantilelaw01.ZbitsCuts': WHATEVER THE INPUT: true; the input reads as it did. -/
def zbitsCutsSpec : ChangeSpec := { name := "zbitsCuts", fn := fun _ => fun
  | [d1, d2, d3] => { results := [.lit (.bool true)], args := [d1, d2, d3] }
  | _ => none }
def zbitsCutsRow : OpenClaim := { program := "ythdphjbecibeaaa", sum := "94de93cceb372b9bca9cd6512d5968981087372b832962e968406e8e089fe3fc", func := "pantile/pantilelaw01.ZbitsCuts", spec := "zbitsCuts", apart := false }
def ZbitsCutsSaid : Prop := zbitsCutsRow.holds Try.pinned (OpenSpec.ofChange zbitsCutsSpec)

/-- ITS FALSE NEIGHBOUR: 'it returns false'. Refute it at one input. -/
def zbitsCutsWrong : ChangeSpec := { name := "zbitsCuts", fn := fun _ => fun
  | [d1, d2, d3] => { results := [.lit (.bool false)], args := [d1, d2, d3] }
  | _ => none }
def ZbitsCutsWrongFalsely : Prop := zbitsCutsRow.holds Try.pinned (OpenSpec.ofChange zbitsCutsWrong)

/-- 'pantilelaw04.MaskMeets': WHATEVER THE INPUT: true; the input reads as it did. -/
def maskMeetsSpec : ChangeSpec := { name := "maskMeets", fn := fun _ => fun
  | [d1, d2, d3, d4] => { results := [.lit (.bool true)], args := [d1, d2, d3, d4] }
  | _ => none }
def maskMeetsRow : OpenClaim := { program := "ythdphjbecibeaaa", sum := "94de93cceb372b9bca9cd6512d5968981087372b832962e968406e8e089fe3fc", func := "pantile/pantilelaw04.MaskMeets", spec := "maskMeets", apart := false }
def MaskMeetsSaid : Prop := maskMeetsRow.holds Try.pinned (OpenSpec.ofChange maskMeetsSpec)

/-- ITS FALSE NEIGHBOUR: 'it returns false'. Refute it at one input. -/
def maskMeetsWrong : ChangeSpec := { name := "maskMeets", fn := fun _ => fun
  | [d1, d2, d3, d4] => { results := [.lit (.bool false)], args := [d1, d2, d3, d4] }
  | _ => none }
def MaskMeetsWrongFalsely : Prop := maskMeetsRow.holds Try.pinned (OpenSpec.ofChange maskMeetsWrong)

/-- 'pantilelaw01.ZbitsAddr': WHATEVER THE INPUT: true; the input reads as it did. -/
def zbitsAddrSpec : ChangeSpec := { name := "zbitsAddr", fn := fun _ => fun
  | [d1, d2, d3] => { results := [.lit (.bool true)], args := [d1, d2, d3] }
  | _ => none }
def zbitsAddrRow : OpenClaim := { program := "ythdphjbecibeaaa", sum := "94de93cceb372b9bca9cd6512d5968981087372b832962e968406e8e089fe3fc", func := "pantile/pantilelaw01.ZbitsAddr", spec := "zbitsAddr", apart := false }
def ZbitsAddrSaid : Prop := zbitsAddrRow.holds Try.pinned (OpenSpec.ofChange zbitsAddrSpec)

/-- ITS FALSE NEIGHBOUR: 'it returns false'. Refute it at one input. -/
def zbitsAddrWrong : ChangeSpec := { name := "zbitsAddr", fn := fun _ => fun
  | [d1, d2, d3] => { results := [.lit (.bool false)], args := [d1, d2, d3] }
  | _ => none }
def ZbitsAddrWrongFalsely : Prop := zbitsAddrRow.holds Try.pinned (OpenSpec.ofChange zbitsAddrWrong)

/-- 'pantilelaw04.MaskOf': WHATEVER THE INPUT: true; the input reads as it did. -/
def maskOfSpec : ChangeSpec := { name := "maskOf", fn := fun _ => fun
  | [d1, d2, d3] => { results := [.lit (.bool true)], args := [d1, d2, d3] }
  | _ => none }
def maskOfRow : OpenClaim := { program := "ythdphjbecibeaaa", sum := "94de93cceb372b9bca9cd6512d5968981087372b832962e968406e8e089fe3fc", func := "pantile/pantilelaw04.MaskOf", spec := "maskOf", apart := false }
def MaskOfSaid : Prop := maskOfRow.holds Try.pinned (OpenSpec.ofChange maskOfSpec)

/-- ITS FALSE NEIGHBOUR: 'it returns false'. Refute it at one input. -/
def maskOfWrong : ChangeSpec := { name := "maskOf", fn := fun _ => fun
  | [d1, d2, d3] => { results := [.lit (.bool false)], args := [d1, d2, d3] }
  | _ => none }
def MaskOfWrongFalsely : Prop := maskOfRow.holds Try.pinned (OpenSpec.ofChange maskOfWrong)

/-- 'pantilelaw03.BoxNest': WHATEVER THE INPUT: true; the input reads as it did. -/
def boxNestSpec : ChangeSpec := { name := "boxNest", fn := fun _ => fun
  | [d1, d2, d3] => { results := [.lit (.bool true)], args := [d1, d2, d3] }
  | _ => none }
def boxNestRow : OpenClaim := { program := "ythdphjbecibeaaa", sum := "94de93cceb372b9bca9cd6512d5968981087372b832962e968406e8e089fe3fc", func := "pantile/pantilelaw03.BoxNest", spec := "boxNest", unfollowed := true, recurses := true, apart := false }
def BoxNestSaid : Prop := boxNestRow.holds Try.pinned (OpenSpec.ofChange boxNestSpec)

/-- ITS FALSE NEIGHBOUR: 'it returns false'. Refute it at one input. -/
def boxNestWrong : ChangeSpec := { name := "boxNest", fn := fun _ => fun
  | [d1, d2, d3] => { results := [.lit (.bool false)], args := [d1, d2, d3] }
  | _ => none }
def BoxNestWrongFalsely : Prop := boxNestRow.holds Try.pinned (OpenSpec.ofChange boxNestWrong)

/-- 'pantilelaw03.BoxMeets': WHATEVER THE INPUT: true; the input reads as it did. -/
def boxMeetsSpec : ChangeSpec := { name := "boxMeets", fn := fun _ => fun
  | [d1, d2, d3] => { results := [.lit (.bool true)], args := [d1, d2, d3] }
  | _ => none }
def boxMeetsRow : OpenClaim := { program := "ythdphjbecibeaaa", sum := "94de93cceb372b9bca9cd6512d5968981087372b832962e968406e8e089fe3fc", func := "pantile/pantilelaw03.BoxMeets", spec := "boxMeets", unfollowed := true, recurses := true, apart := false }
def BoxMeetsSaid : Prop := boxMeetsRow.holds Try.pinned (OpenSpec.ofChange boxMeetsSpec)

/-- ITS FALSE NEIGHBOUR: 'it returns false'. Refute it at one input. -/
def boxMeetsWrong : ChangeSpec := { name := "boxMeets", fn := fun _ => fun
  | [d1, d2, d3] => { results := [.lit (.bool false)], args := [d1, d2, d3] }
  | _ => none }
def BoxMeetsWrongFalsely : Prop := boxMeetsRow.holds Try.pinned (OpenSpec.ofChange boxMeetsWrong)

/-- 'pantilelaw04.MaskLeft': WHATEVER THE INPUT: true; the input reads as it did. -/
def maskLeftSpec : ChangeSpec := { name := "maskLeft", fn := fun _ => fun
  | [d1, d2] => { results := [.lit (.bool true)], args := [d1, d2] }
  | _ => none }
def maskLeftRow : OpenClaim := { program := "ythdphjbecibeaaa", sum := "94de93cceb372b9bca9cd6512d5968981087372b832962e968406e8e089fe3fc", func := "pantile/pantilelaw04.MaskLeft", spec := "maskLeft", apart := false }
def MaskLeftSaid : Prop := maskLeftRow.holds Try.pinned (OpenSpec.ofChange maskLeftSpec)

/-- ITS FALSE NEIGHBOUR: 'it returns false'. Refute it at one input. -/
def maskLeftWrong : ChangeSpec := { name := "maskLeft", fn := fun _ => fun
  | [d1, d2] => { results := [.lit (.bool false)], args := [d1, d2] }
  | _ => none }
def MaskLeftWrongFalsely : Prop := maskLeftRow.holds Try.pinned (OpenSpec.ofChange maskLeftWrong)

/-- 'pantilelaw04.MaskWalk': WHATEVER THE INPUT: true; the input reads as it did. -/
def maskWalkSpec : ChangeSpec := { name := "maskWalk", fn := fun _ => fun
  | [d] => { results := [.lit (.bool true)], args := [d] }
  | _ => none }
def maskWalkRow : OpenClaim := { program := "ythdphjbecibeaaa", sum := "94de93cceb372b9bca9cd6512d5968981087372b832962e968406e8e089fe3fc", func := "pantile/pantilelaw04.MaskWalk", spec := "maskWalk", apart := false }
def MaskWalkSaid : Prop := maskWalkRow.holds Try.pinned (OpenSpec.ofChange maskWalkSpec)

/-- ITS FALSE NEIGHBOUR: 'it returns false'. Refute it at one input. -/
def maskWalkWrong : ChangeSpec := { name := "maskWalk", fn := fun _ => fun
  | [d] => { results := [.lit (.bool false)], args := [d] }
  | _ => none }
def MaskWalkWrongFalsely : Prop := maskWalkRow.holds Try.pinned (OpenSpec.ofChange maskWalkWrong)

/-- 'pantilelaw03.BoxTells': WHATEVER THE INPUT: true; the input reads as it did. -/
def boxTellsSpec : ChangeSpec := { name := "boxTells", fn := fun _ => fun
  | [d1, d2, d3] => { results := [.lit (.bool true)], args := [d1, d2, d3] }
  | _ => none }
def boxTellsRow : OpenClaim := { program := "ythdphjbecibeaaa", sum := "94de93cceb372b9bca9cd6512d5968981087372b832962e968406e8e089fe3fc", func := "pantile/pantilelaw03.BoxTells", spec := "boxTells", unfollowed := true, recurses := true, apart := false }
def BoxTellsSaid : Prop := boxTellsRow.holds Try.pinned (OpenSpec.ofChange boxTellsSpec)

/-- ITS FALSE NEIGHBOUR: 'it returns false'. Refute it at one input. -/
def boxTellsWrong : ChangeSpec := { name := "boxTells", fn := fun _ => fun
  | [d1, d2, d3] => { results := [.lit (.bool false)], args := [d1, d2, d3] }
  | _ => none }
def BoxTellsWrongFalsely : Prop := boxTellsRow.holds Try.pinned (OpenSpec.ofChange boxTellsWrong)

/-- 'pantilelaw33.CoverCells': WHATEVER THE INPUT: true; the input reads as it did. -/
def coverCellsSpec : ChangeSpec := { name := "coverCells", fn := fun _ => fun
  | [d1, d2] => { results := [.lit (.bool true)], args := [d1, d2] }
  | _ => none }
def coverCellsRow : OpenClaim := { program := "ythdphjbecibeaaa", sum := "94de93cceb372b9bca9cd6512d5968981087372b832962e968406e8e089fe3fc", func := "pantile/pantilelaw33.CoverCells", spec := "coverCells", recurses := true, apart := false }
def CoverCellsSaid : Prop := coverCellsRow.holds Try.pinned (OpenSpec.ofChange coverCellsSpec)

/-- ITS FALSE NEIGHBOUR: 'it returns false'. Refute it at one input. -/
def coverCellsWrong : ChangeSpec := { name := "coverCells", fn := fun _ => fun
  | [d1, d2] => { results := [.lit (.bool false)], args := [d1, d2] }
  | _ => none }
def CoverCellsWrongFalsely : Prop := coverCellsRow.holds Try.pinned (OpenSpec.ofChange coverCellsWrong)

/-- 'pantilelaw33.CoverOnce': WHATEVER THE INPUT: true; the input reads as it did. -/
def coverOnceSpec : ChangeSpec := { name := "coverOnce", fn := fun _ => fun
  | [d1, d2] => { results := [.lit (.bool true)], args := [d1, d2] }
  | _ => none }
def coverOnceRow : OpenClaim := { program := "ythdphjbecibeaaa", sum := "94de93cceb372b9bca9cd6512d5968981087372b832962e968406e8e089fe3fc", func := "pantile/pantilelaw33.CoverOnce", spec := "coverOnce", unfollowed := true, recurses := true, apart := false }
def CoverOnceSaid : Prop := coverOnceRow.holds Try.pinned (OpenSpec.ofChange coverOnceSpec)

/-- ITS FALSE NEIGHBOUR: 'it returns false'. Refute it at one input. -/
def coverOnceWrong : ChangeSpec := { name := "coverOnce", fn := fun _ => fun
  | [d1, d2] => { results := [.lit (.bool false)], args := [d1, d2] }
  | _ => none }
def CoverOnceWrongFalsely : Prop := coverOnceRow.holds Try.pinned (OpenSpec.ofChange coverOnceWrong)

/-- 'pantilelaw33.CoverWithin': WHATEVER THE INPUT: true; the input reads as it did. -/
def coverWithinSpec : ChangeSpec := { name := "coverWithin", fn := fun _ => fun
  | [d1, d2] => { results := [.lit (.bool true)], args := [d1, d2] }
  | _ => none }
def coverWithinRow : OpenClaim := { program := "ythdphjbecibeaaa", sum := "94de93cceb372b9bca9cd6512d5968981087372b832962e968406e8e089fe3fc", func := "pantile/pantilelaw33.CoverWithin", spec := "coverWithin", unfollowed := true, recurses := true, apart := false }
def CoverWithinSaid : Prop := coverWithinRow.holds Try.pinned (OpenSpec.ofChange coverWithinSpec)

/-- ITS FALSE NEIGHBOUR: 'it returns false'. Refute it at one input. -/
def coverWithinWrong : ChangeSpec := { name := "coverWithin", fn := fun _ => fun
  | [d1, d2] => { results := [.lit (.bool false)], args := [d1, d2] }
  | _ => none }
def CoverWithinWrongFalsely : Prop := coverWithinRow.holds Try.pinned (OpenSpec.ofChange coverWithinWrong)

/- THE SECOND FORM. 'bulk': how many values and letters a reading holds, each counted each time it is reached (what is shared counts as often as it is met; a slice's spare places count too). A statement '..UptoSaid' is the law's where the arguments, and the package variables that the reading takes, are together of bulk at most 1048576: NARROWER than '..Said'. Prove '..Said' where nothing that the law and all that it calls make is longer than what came in: it says more and counts as full. Else prove '..UptoSaid'. A law counts once. -/
mutual
def uptoBulk {H : Type} : DataW H → Nat
  | .lit (.string bytes) => bytes.length + 1
  | .lit _ => 1
  | .nil => 1
  | .ptr d => uptoBulk d + 1
  | .slice elems spare => uptoBulkAll elems + uptoBulkAll spare + 1
  | .agg parts => uptoBulkAll parts + 1
  | .iface _ d => uptoBulk d + 1
  | .map entries => uptoBulkEntries entries + 1
  | .held _ => 1
def uptoBulkAll {H : Type} : List (DataW H) → Nat
  | [] => 0
  | d :: r => uptoBulk d + uptoBulkAll r
def uptoBulkEntries {H : Type} : List (Lit × DataW H) → Nat
  | [] => 0
  | x :: r => uptoBulkEntry x + uptoBulkEntries r
def uptoBulkEntry {H : Type} : Lit × DataW H → Nat
  | (.string bytes, d) => bytes.length + uptoBulk d + 1
  | (_, d) => uptoBulk d + 1
 end
def uptoSmall : (H : Type) → List (DataW H) → Bool := fun _ ds => decide (uptoBulkAll ds ≤ 1048576)
def OpenSpec.upto (s : _root_.Go.ChangeSpec) : _root_.Go.OpenSpec := { _root_.Go.OpenSpec.ofChange s with cond := some uptoSmall }

/-- 'pantilelaw01.ZbitsOrder', WHERE WHAT IT READS IS OF BULK AT MOST 1048576: true; the input reads as it did. -/
def zbitsOrderUptoRow : OpenClaim := { program := "ythdphjbecibeaaa", sum := "94de93cceb372b9bca9cd6512d5968981087372b832962e968406e8e089fe3fc", func := "pantile/pantilelaw01.ZbitsOrder", spec := "zbitsOrder", apart := false, narrowed := true }
def ZbitsOrderUptoSaid : Prop := zbitsOrderUptoRow.holds Try.pinned (OpenSpec.upto zbitsOrderSpec)

/-- 'pantilelaw03.BoxAround', WHERE WHAT IT READS IS OF BULK AT MOST 1048576: true; the input reads as it did. -/
def boxAroundUptoRow : OpenClaim := { program := "ythdphjbecibeaaa", sum := "94de93cceb372b9bca9cd6512d5968981087372b832962e968406e8e089fe3fc", func := "pantile/pantilelaw03.BoxAround", spec := "boxAround", unfollowed := true, recurses := true, apart := false, narrowed := true }
def BoxAroundUptoSaid : Prop := boxAroundUptoRow.holds Try.pinned (OpenSpec.upto boxAroundSpec)

/-- 'pantilelaw01.ZbitsCuts', WHERE WHAT IT READS IS OF BULK AT MOST 1048576: true; the input reads as it did. -/
def zbitsCutsUptoRow : OpenClaim := { program := "ythdphjbecibeaaa", sum := "94de93cceb372b9bca9cd6512d5968981087372b832962e968406e8e089fe3fc", func := "pantile/pantilelaw01.ZbitsCuts", spec := "zbitsCuts", apart := false, narrowed := true }
def ZbitsCutsUptoSaid : Prop := zbitsCutsUptoRow.holds Try.pinned (OpenSpec.upto zbitsCutsSpec)

/-- 'pantilelaw04.MaskMeets', WHERE WHAT IT READS IS OF BULK AT MOST 1048576: true; the input reads as it did. -/
def maskMeetsUptoRow : OpenClaim := { program := "ythdphjbecibeaaa", sum := "94de93cceb372b9bca9cd6512d5968981087372b832962e968406e8e089fe3fc", func := "pantile/pantilelaw04.MaskMeets", spec := "maskMeets", apart := false, narrowed := true }
def MaskMeetsUptoSaid : Prop := maskMeetsUptoRow.holds Try.pinned (OpenSpec.upto maskMeetsSpec)

/-- 'pantilelaw01.ZbitsAddr', WHERE WHAT IT READS IS OF BULK AT MOST 1048576: true; the input reads as it did. -/
def zbitsAddrUptoRow : OpenClaim := { program := "ythdphjbecibeaaa", sum := "94de93cceb372b9bca9cd6512d5968981087372b832962e968406e8e089fe3fc", func := "pantile/pantilelaw01.ZbitsAddr", spec := "zbitsAddr", apart := false, narrowed := true }
def ZbitsAddrUptoSaid : Prop := zbitsAddrUptoRow.holds Try.pinned (OpenSpec.upto zbitsAddrSpec)

/-- 'pantilelaw04.MaskOf', WHERE WHAT IT READS IS OF BULK AT MOST 1048576: true; the input reads as it did. -/
def maskOfUptoRow : OpenClaim := { program := "ythdphjbecibeaaa", sum := "94de93cceb372b9bca9cd6512d5968981087372b832962e968406e8e089fe3fc", func := "pantile/pantilelaw04.MaskOf", spec := "maskOf", apart := false, narrowed := true }
def MaskOfUptoSaid : Prop := maskOfUptoRow.holds Try.pinned (OpenSpec.upto maskOfSpec)

/-- 'pantilelaw03.BoxNest', WHERE WHAT IT READS IS OF BULK AT MOST 1048576: true; the input reads as it did. -/
def boxNestUptoRow : OpenClaim := { program := "ythdphjbecibeaaa", sum := "94de93cceb372b9bca9cd6512d5968981087372b832962e968406e8e089fe3fc", func := "pantile/pantilelaw03.BoxNest", spec := "boxNest", unfollowed := true, recurses := true, apart := false, narrowed := true }
def BoxNestUptoSaid : Prop := boxNestUptoRow.holds Try.pinned (OpenSpec.upto boxNestSpec)

/-- 'pantilelaw03.BoxMeets', WHERE WHAT IT READS IS OF BULK AT MOST 1048576: true; the input reads as it did. -/
def boxMeetsUptoRow : OpenClaim := { program := "ythdphjbecibeaaa", sum := "94de93cceb372b9bca9cd6512d5968981087372b832962e968406e8e089fe3fc", func := "pantile/pantilelaw03.BoxMeets", spec := "boxMeets", unfollowed := true, recurses := true, apart := false, narrowed := true }
def BoxMeetsUptoSaid : Prop := boxMeetsUptoRow.holds Try.pinned (OpenSpec.upto boxMeetsSpec)

/-- 'pantilelaw04.MaskLeft', WHERE WHAT IT READS IS OF BULK AT MOST 1048576: true; the input reads as it did. -/
def maskLeftUptoRow : OpenClaim := { program := "ythdphjbecibeaaa", sum := "94de93cceb372b9bca9cd6512d5968981087372b832962e968406e8e089fe3fc", func := "pantile/pantilelaw04.MaskLeft", spec := "maskLeft", apart := false, narrowed := true }
def MaskLeftUptoSaid : Prop := maskLeftUptoRow.holds Try.pinned (OpenSpec.upto maskLeftSpec)

/-- 'pantilelaw04.MaskWalk', WHERE WHAT IT READS IS OF BULK AT MOST 1048576: true; the input reads as it did. -/
def maskWalkUptoRow : OpenClaim := { program := "ythdphjbecibeaaa", sum := "94de93cceb372b9bca9cd6512d5968981087372b832962e968406e8e089fe3fc", func := "pantile/pantilelaw04.MaskWalk", spec := "maskWalk", apart := false, narrowed := true }
def MaskWalkUptoSaid : Prop := maskWalkUptoRow.holds Try.pinned (OpenSpec.upto maskWalkSpec)

/-- 'pantilelaw03.BoxTells', WHERE WHAT IT READS IS OF BULK AT MOST 1048576: true; the input reads as it did. -/
def boxTellsUptoRow : OpenClaim := { program := "ythdphjbecibeaaa", sum := "94de93cceb372b9bca9cd6512d5968981087372b832962e968406e8e089fe3fc", func := "pantile/pantilelaw03.BoxTells", spec := "boxTells", unfollowed := true, recurses := true, apart := false, narrowed := true }
def BoxTellsUptoSaid : Prop := boxTellsUptoRow.holds Try.pinned (OpenSpec.upto boxTellsSpec)

/-- 'pantilelaw33.CoverCells', WHERE WHAT IT READS IS OF BULK AT MOST 1048576: true; the input reads as it did. -/
def coverCellsUptoRow : OpenClaim := { program := "ythdphjbecibeaaa", sum := "94de93cceb372b9bca9cd6512d5968981087372b832962e968406e8e089fe3fc", func := "pantile/pantilelaw33.CoverCells", spec := "coverCells", recurses := true, apart := false, narrowed := true }
def CoverCellsUptoSaid : Prop := coverCellsUptoRow.holds Try.pinned (OpenSpec.upto coverCellsSpec)

/-- 'pantilelaw33.CoverOnce', WHERE WHAT IT READS IS OF BULK AT MOST 1048576: true; the input reads as it did. -/
def coverOnceUptoRow : OpenClaim := { program := "ythdphjbecibeaaa", sum := "94de93cceb372b9bca9cd6512d5968981087372b832962e968406e8e089fe3fc", func := "pantile/pantilelaw33.CoverOnce", spec := "coverOnce", unfollowed := true, recurses := true, apart := false, narrowed := true }
def CoverOnceUptoSaid : Prop := coverOnceUptoRow.holds Try.pinned (OpenSpec.upto coverOnceSpec)

/-- 'pantilelaw33.CoverWithin', WHERE WHAT IT READS IS OF BULK AT MOST 1048576: true; the input reads as it did. -/
def coverWithinUptoRow : OpenClaim := { program := "ythdphjbecibeaaa", sum := "94de93cceb372b9bca9cd6512d5968981087372b832962e968406e8e089fe3fc", func := "pantile/pantilelaw33.CoverWithin", spec := "coverWithin", unfollowed := true, recurses := true, apart := false, narrowed := true }
def CoverWithinUptoSaid : Prop := coverWithinUptoRow.holds Try.pinned (OpenSpec.upto coverWithinSpec)

end Rows
end Go.Proofs.Ythdphjbecibeaaa
