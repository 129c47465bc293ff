/-
  No cell of these rows narrows 'for every input' (looked for: loops, veiled, ifaces, maps, wideKeys, modest, calm, conditions, laid).
  DERIVED. THE GIVEN ROWS OF THIS SEAT. 10 by the template 'for every input the law returns true; each argument reads behind the call as it read before'; 0 by the template 'total and deterministic' (their statements: YtakiciemkecgfaaTotals.lean).
  GIVEN WITH THE SEED: the statements are not yours to turn. If you find one false, say at which input.
  Laid BY PROGRAM, IN A SANDBOX (cutbox-rows.mjs): the forced cells as the released guide's own fill.sh prints them over the translation 6c827a8af85a98b9… (all of the seat's roots in one cut). By AI agents, Wed Nov 11 2026. No macro, syntax, notation, axiom, sorry.
-/
import Derived.Test.YtakiciemkecgfaaChecked
import GoSem.Claim
import GoSem.ClaimJoined
import GoSem.ClaimMapViews
import Derived.JoinedTies
import Derived.KernelRfl
namespace Go.Proofs.Ytakiciemkecgfaa
/- THE CELL 'sum', in the pinned program and in every row, IS THE sha256 OF THE DUMP (.gsa) THAT YtakiciemkecgfaaProg.lean LOADS. Nothing in Lean hashes anything: it is a label: what it is worth is what the hold of that sum in a sandbox is worth. -/
noncomputable def Try.pinned : Pinned := { name := "ytakiciemkecgfaa", sum := "6c827a8af85a98b9c0f37645007e8773bc731fe10a044e26133183315255e9a4", checked := Try.checked }
namespace Rows
def none {H : Type} : Left H := { results := [], args := [] }

/-- 'groupagelaw06.AreaTells': WHATEVER THE INPUT: true; the input reads as it did. -/
def areaTellsSpec : ChangeSpec := { name := "areaTells", fn := fun _ => fun
  | [d1, d2, d3, d4] => { results := [.lit (.bool true)], args := [d1, d2, d3, d4] }
  | _ => none }
def areaTellsRow : OpenClaim := { program := "ytakiciemkecgfaa", sum := "6c827a8af85a98b9c0f37645007e8773bc731fe10a044e26133183315255e9a4", func := "groupage/groupagelaw06.AreaTells", spec := "areaTells", unfollowed := true, recurses := true, apart := false }
def AreaTellsSaid : Prop := areaTellsRow.holds Try.pinned (OpenSpec.ofChange areaTellsSpec)

/-- ITS FALSE NEIGHBOUR: 'it returns false'. Refute it at one input. -/
def areaTellsWrong : ChangeSpec := { name := "areaTells", fn := fun _ => fun
  | [d1, d2, d3, d4] => { results := [.lit (.bool false)], args := [d1, d2, d3, d4] }
  | _ => none }
def AreaTellsWrongFalsely : Prop := areaTellsRow.holds Try.pinned (OpenSpec.ofChange areaTellsWrong)

/-- 'groupagelaw06.AreaParts': WHATEVER THE INPUT: true; the input reads as it did. -/
def areaPartsSpec : ChangeSpec := { name := "areaParts", fn := fun _ => fun
  | [d1, d2, d3] => { results := [.lit (.bool true)], args := [d1, d2, d3] }
  | _ => none }
def areaPartsRow : OpenClaim := { program := "ytakiciemkecgfaa", sum := "6c827a8af85a98b9c0f37645007e8773bc731fe10a044e26133183315255e9a4", func := "groupage/groupagelaw06.AreaParts", spec := "areaParts", unfollowed := true, recurses := true, apart := false }
def AreaPartsSaid : Prop := areaPartsRow.holds Try.pinned (OpenSpec.ofChange areaPartsSpec)

/-- ITS FALSE NEIGHBOUR: 'it returns false'. Refute it at one input. -/
def areaPartsWrong : ChangeSpec := { name := "areaParts", fn := fun _ => fun
  | [d1, d2, d3] => { results := [.lit (.bool false)], args := [d1, d2, d3] }
  | _ => none }
def AreaPartsWrongFalsely : Prop := areaPartsRow.holds Try.pinned (OpenSpec.ofChange areaPartsWrong)

/-- 'groupagelaw06.AreaNear': WHATEVER THE INPUT: true; the input reads as it did. -/
def areaNearSpec : ChangeSpec := { name := "areaNear", fn := fun _ => fun
  | [d1, d2, d3] => { results := [.lit (.bool true)], args := [d1, d2, d3] }
  | _ => none }
def areaNearRow : OpenClaim := { program := "ytakiciemkecgfaa", sum := "6c827a8af85a98b9c0f37645007e8773bc731fe10a044e26133183315255e9a4", func := "groupage/groupagelaw06.AreaNear", spec := "areaNear", unfollowed := true, recurses := true, apart := false }
def AreaNearSaid : Prop := areaNearRow.holds Try.pinned (OpenSpec.ofChange areaNearSpec)

/-- ITS FALSE NEIGHBOUR: 'it returns false'. Refute it at one input. -/
def areaNearWrong : ChangeSpec := { name := "areaNear", fn := fun _ => fun
  | [d1, d2, d3] => { results := [.lit (.bool false)], args := [d1, d2, d3] }
  | _ => none }
def AreaNearWrongFalsely : Prop := areaNearRow.holds Try.pinned (OpenSpec.ofChange areaNearWrong)

/-- 'groupagelaw07.LoadTells': WHATEVER THE INPUT: true; the input reads as it did. -/
def loadTellsSpec : ChangeSpec := { name := "loadTells", fn := fun _ => fun
  | [d1, d2, d3, d4] => { results := [.lit (.bool true)], args := [d1, d2, d3, d4] }
  | _ => none }
def loadTellsRow : OpenClaim := { program := "ytakiciemkecgfaa", sum := "6c827a8af85a98b9c0f37645007e8773bc731fe10a044e26133183315255e9a4", func := "groupage/groupagelaw07.LoadTells", spec := "loadTells", unfollowed := true, recurses := true, apart := false }
def LoadTellsSaid : Prop := loadTellsRow.holds Try.pinned (OpenSpec.ofChange loadTellsSpec)

/-- ITS FALSE NEIGHBOUR: 'it returns false'. Refute it at one input. -/
def loadTellsWrong : ChangeSpec := { name := "loadTells", fn := fun _ => fun
  | [d1, d2, d3, d4] => { results := [.lit (.bool false)], args := [d1, d2, d3, d4] }
  | _ => none }
def LoadTellsWrongFalsely : Prop := loadTellsRow.holds Try.pinned (OpenSpec.ofChange loadTellsWrong)

/-- 'groupagelaw07.LoadLess': WHATEVER THE INPUT: true; the input reads as it did. -/
def loadLessSpec : ChangeSpec := { name := "loadLess", fn := fun _ => fun
  | [d1, d2, d3] => { results := [.lit (.bool true)], args := [d1, d2, d3] }
  | _ => none }
def loadLessRow : OpenClaim := { program := "ytakiciemkecgfaa", sum := "6c827a8af85a98b9c0f37645007e8773bc731fe10a044e26133183315255e9a4", func := "groupage/groupagelaw07.LoadLess", spec := "loadLess", unfollowed := true, recurses := true, apart := false }
def LoadLessSaid : Prop := loadLessRow.holds Try.pinned (OpenSpec.ofChange loadLessSpec)

/-- ITS FALSE NEIGHBOUR: 'it returns false'. Refute it at one input. -/
def loadLessWrong : ChangeSpec := { name := "loadLess", fn := fun _ => fun
  | [d1, d2, d3] => { results := [.lit (.bool false)], args := [d1, d2, d3] }
  | _ => none }
def LoadLessWrongFalsely : Prop := loadLessRow.holds Try.pinned (OpenSpec.ofChange loadLessWrong)

/-- 'groupagelaw07.LoadOrder': WHATEVER THE INPUT: true; the input reads as it did. -/
def loadOrderSpec : ChangeSpec := { name := "loadOrder", fn := fun _ => fun
  | [d] => { results := [.lit (.bool true)], args := [d] }
  | _ => none }
def loadOrderRow : OpenClaim := { program := "ytakiciemkecgfaa", sum := "6c827a8af85a98b9c0f37645007e8773bc731fe10a044e26133183315255e9a4", func := "groupage/groupagelaw07.LoadOrder", spec := "loadOrder", unfollowed := true, recurses := true, apart := false }
def LoadOrderSaid : Prop := loadOrderRow.holds Try.pinned (OpenSpec.ofChange loadOrderSpec)

/-- ITS FALSE NEIGHBOUR: 'it returns false'. Refute it at one input. -/
def loadOrderWrong : ChangeSpec := { name := "loadOrder", fn := fun _ => fun
  | [d] => { results := [.lit (.bool false)], args := [d] }
  | _ => none }
def LoadOrderWrongFalsely : Prop := loadOrderRow.holds Try.pinned (OpenSpec.ofChange loadOrderWrong)

/-- 'groupagelaw08.RouteTells': WHATEVER THE INPUT: true; the input reads as it did. -/
def routeTellsSpec : ChangeSpec := { name := "routeTells", fn := fun _ => fun
  | [d1, d2] => { results := [.lit (.bool true)], args := [d1, d2] }
  | _ => none }
def routeTellsRow : OpenClaim := { program := "ytakiciemkecgfaa", sum := "6c827a8af85a98b9c0f37645007e8773bc731fe10a044e26133183315255e9a4", func := "groupage/groupagelaw08.RouteTells", spec := "routeTells", unfollowed := true, recurses := true, apart := false }
def RouteTellsSaid : Prop := routeTellsRow.holds Try.pinned (OpenSpec.ofChange routeTellsSpec)

/-- ITS FALSE NEIGHBOUR: 'it returns false'. Refute it at one input. -/
def routeTellsWrong : ChangeSpec := { name := "routeTells", fn := fun _ => fun
  | [d1, d2] => { results := [.lit (.bool false)], args := [d1, d2] }
  | _ => none }
def RouteTellsWrongFalsely : Prop := routeTellsRow.holds Try.pinned (OpenSpec.ofChange routeTellsWrong)

/-- 'groupagelaw08.RouteEarly': WHATEVER THE INPUT: true; the input reads as it did. -/
def routeEarlySpec : ChangeSpec := { name := "routeEarly", fn := fun _ => fun
  | [d1, d2, d3, d4] => { results := [.lit (.bool true)], args := [d1, d2, d3, d4] }
  | _ => none }
def routeEarlyRow : OpenClaim := { program := "ytakiciemkecgfaa", sum := "6c827a8af85a98b9c0f37645007e8773bc731fe10a044e26133183315255e9a4", func := "groupage/groupagelaw08.RouteEarly", spec := "routeEarly", unfollowed := true, recurses := true, apart := false }
def RouteEarlySaid : Prop := routeEarlyRow.holds Try.pinned (OpenSpec.ofChange routeEarlySpec)

/-- ITS FALSE NEIGHBOUR: 'it returns false'. Refute it at one input. -/
def routeEarlyWrong : ChangeSpec := { name := "routeEarly", fn := fun _ => fun
  | [d1, d2, d3, d4] => { results := [.lit (.bool false)], args := [d1, d2, d3, d4] }
  | _ => none }
def RouteEarlyWrongFalsely : Prop := routeEarlyRow.holds Try.pinned (OpenSpec.ofChange routeEarlyWrong)

/-- 'groupagelaw08.RouteHolds': WHATEVER THE INPUT: true; the input reads as it did. -/
def routeHoldsSpec : ChangeSpec := { name := "routeHolds", fn := fun _ => fun
  | [d1, d2] => { results := [.lit (.bool true)], args := [d1, d2] }
  | _ => none }
def routeHoldsRow : OpenClaim := { program := "ytakiciemkecgfaa", sum := "6c827a8af85a98b9c0f37645007e8773bc731fe10a044e26133183315255e9a4", func := "groupage/groupagelaw08.RouteHolds", spec := "routeHolds", unfollowed := true, recurses := true, apart := false }
def RouteHoldsSaid : Prop := routeHoldsRow.holds Try.pinned (OpenSpec.ofChange routeHoldsSpec)

/-- ITS FALSE NEIGHBOUR: 'it returns false'. Refute it at one input. -/
def routeHoldsWrong : ChangeSpec := { name := "routeHolds", fn := fun _ => fun
  | [d1, d2] => { results := [.lit (.bool false)], args := [d1, d2] }
  | _ => none }
def RouteHoldsWrongFalsely : Prop := routeHoldsRow.holds Try.pinned (OpenSpec.ofChange routeHoldsWrong)

/-- 'groupagelaw08.RouteFirst': WHATEVER THE INPUT: true; the input reads as it did. -/
def routeFirstSpec : ChangeSpec := { name := "routeFirst", fn := fun _ => fun
  | [d1, d2, d3] => { results := [.lit (.bool true)], args := [d1, d2, d3] }
  | _ => none }
def routeFirstRow : OpenClaim := { program := "ytakiciemkecgfaa", sum := "6c827a8af85a98b9c0f37645007e8773bc731fe10a044e26133183315255e9a4", func := "groupage/groupagelaw08.RouteFirst", spec := "routeFirst", unfollowed := true, recurses := true, apart := false }
def RouteFirstSaid : Prop := routeFirstRow.holds Try.pinned (OpenSpec.ofChange routeFirstSpec)

/-- ITS FALSE NEIGHBOUR: 'it returns false'. Refute it at one input. -/
def routeFirstWrong : ChangeSpec := { name := "routeFirst", fn := fun _ => fun
  | [d1, d2, d3] => { results := [.lit (.bool false)], args := [d1, d2, d3] }
  | _ => none }
def RouteFirstWrongFalsely : Prop := routeFirstRow.holds Try.pinned (OpenSpec.ofChange routeFirstWrong)

/- THE SECOND FORM. 'bulk': how many values and letters a reading holds, each counted each time it is reached (what is shared counts as often as it is met; a slice's spare places count too). A statement '..UptoSaid' is the law's where the arguments, and the package variables that the reading takes, are together of bulk at most 1048576: NARROWER than '..Said'. Prove '..Said' where nothing that the law and all that it calls make is longer than what came in: it says more and counts as full. Else prove '..UptoSaid'. A law counts once. -/
mutual
def uptoBulk {H : Type} : DataW H → Nat
  | .lit (.string bytes) => bytes.length + 1
  | .lit _ => 1
  | .nil => 1
  | .ptr d => uptoBulk d + 1
  | .slice elems spare => uptoBulkAll elems + uptoBulkAll spare + 1
  | .agg parts => uptoBulkAll parts + 1
  | .iface _ d => uptoBulk d + 1
  | .map entries => uptoBulkEntries entries + 1
  | .held _ => 1
def uptoBulkAll {H : Type} : List (DataW H) → Nat
  | [] => 0
  | d :: r => uptoBulk d + uptoBulkAll r
def uptoBulkEntries {H : Type} : List (Lit × DataW H) → Nat
  | [] => 0
  | x :: r => uptoBulkEntry x + uptoBulkEntries r
def uptoBulkEntry {H : Type} : Lit × DataW H → Nat
  | (.string bytes, d) => bytes.length + uptoBulk d + 1
  | (_, d) => uptoBulk d + 1
 end
def uptoSmall : (H : Type) → List (DataW H) → Bool := fun _ ds => decide (uptoBulkAll ds ≤ 1048576)
def OpenSpec.upto (s : _root_.Go.ChangeSpec) : _root_.Go.OpenSpec := { _root_.Go.OpenSpec.ofChange s with cond := some uptoSmall }

/-- 'groupagelaw06.AreaTells', WHERE WHAT IT READS IS OF BULK AT MOST 1048576: true; the input reads as it did. -/
def areaTellsUptoRow : OpenClaim := { program := "ytakiciemkecgfaa", sum := "6c827a8af85a98b9c0f37645007e8773bc731fe10a044e26133183315255e9a4", func := "groupage/groupagelaw06.AreaTells", spec := "areaTells", unfollowed := true, recurses := true, apart := false, narrowed := true }
def AreaTellsUptoSaid : Prop := areaTellsUptoRow.holds Try.pinned (OpenSpec.upto areaTellsSpec)

/-- 'groupagelaw06.AreaParts', WHERE WHAT IT READS IS OF BULK AT MOST 1048576: true; the input reads as it did. -/
def areaPartsUptoRow : OpenClaim := { program := "ytakiciemkecgfaa", sum := "6c827a8af85a98b9c0f37645007e8773bc731fe10a044e26133183315255e9a4", func := "groupage/groupagelaw06.AreaParts", spec := "areaParts", unfollowed := true, recurses := true, apart := false, narrowed := true }
def AreaPartsUptoSaid : Prop := areaPartsUptoRow.holds Try.pinned (OpenSpec.upto areaPartsSpec)

/-- 'groupagelaw06.AreaNear', WHERE WHAT IT READS IS OF BULK AT MOST 1048576: true; the input reads as it did. -/
def areaNearUptoRow : OpenClaim := { program := "ytakiciemkecgfaa", sum := "6c827a8af85a98b9c0f37645007e8773bc731fe10a044e26133183315255e9a4", func := "groupage/groupagelaw06.AreaNear", spec := "areaNear", unfollowed := true, recurses := true, apart := false, narrowed := true }
def AreaNearUptoSaid : Prop := areaNearUptoRow.holds Try.pinned (OpenSpec.upto areaNearSpec)

/-- 'groupagelaw07.LoadTells', WHERE WHAT IT READS IS OF BULK AT MOST 1048576: true; the input reads as it did. -/
def loadTellsUptoRow : OpenClaim := { program := "ytakiciemkecgfaa", sum := "6c827a8af85a98b9c0f37645007e8773bc731fe10a044e26133183315255e9a4", func := "groupage/groupagelaw07.LoadTells", spec := "loadTells", unfollowed := true, recurses := true, apart := false, narrowed := true }
def LoadTellsUptoSaid : Prop := loadTellsUptoRow.holds Try.pinned (OpenSpec.upto loadTellsSpec)

/-- 'groupagelaw07.LoadLess', WHERE WHAT IT READS IS OF BULK AT MOST 1048576: true; the input reads as it did. -/
def loadLessUptoRow : OpenClaim := { program := "ytakiciemkecgfaa", sum := "6c827a8af85a98b9c0f37645007e8773bc731fe10a044e26133183315255e9a4", func := "groupage/groupagelaw07.LoadLess", spec := "loadLess", unfollowed := true, recurses := true, apart := false, narrowed := true }
def LoadLessUptoSaid : Prop := loadLessUptoRow.holds Try.pinned (OpenSpec.upto loadLessSpec)

/-- 'groupagelaw07.LoadOrder', WHERE WHAT IT READS IS OF BULK AT MOST 1048576: true; the input reads as it did. -/
def loadOrderUptoRow : OpenClaim := { program := "ytakiciemkecgfaa", sum := "6c827a8af85a98b9c0f37645007e8773bc731fe10a044e26133183315255e9a4", func := "groupage/groupagelaw07.LoadOrder", spec := "loadOrder", unfollowed := true, recurses := true, apart := false, narrowed := true }
def LoadOrderUptoSaid : Prop := loadOrderUptoRow.holds Try.pinned (OpenSpec.upto loadOrderSpec)

/-- 'groupagelaw08.RouteTells', WHERE WHAT IT READS IS OF BULK AT MOST 1048576: true; the input reads as it did. -/
def routeTellsUptoRow : OpenClaim := { program := "ytakiciemkecgfaa", sum := "6c827a8af85a98b9c0f37645007e8773bc731fe10a044e26133183315255e9a4", func := "groupage/groupagelaw08.RouteTells", spec := "routeTells", unfollowed := true, recurses := true, apart := false, narrowed := true }
def RouteTellsUptoSaid : Prop := routeTellsUptoRow.holds Try.pinned (OpenSpec.upto routeTellsSpec)

/-- 'groupagelaw08.RouteEarly', WHERE WHAT IT READS IS OF BULK AT MOST 1048576: true; the input reads as it did. -/
def routeEarlyUptoRow : OpenClaim := { program := "ytakiciemkecgfaa", sum := "6c827a8af85a98b9c0f37645007e8773bc731fe10a044e26133183315255e9a4", func := "groupage/groupagelaw08.RouteEarly", spec := "routeEarly", unfollowed := true, recurses := true, apart := false, narrowed := true }
def RouteEarlyUptoSaid : Prop := routeEarlyUptoRow.holds Try.pinned (OpenSpec.upto routeEarlySpec)

/-- 'groupagelaw08.RouteHolds', WHERE WHAT IT READS IS OF BULK AT MOST 1048576: true; the input reads as it did. -/
def routeHoldsUptoRow : OpenClaim := { program := "ytakiciemkecgfaa", sum := "6c827a8af85a98b9c0f37645007e8773bc731fe10a044e26133183315255e9a4", func := "groupage/groupagelaw08.RouteHolds", spec := "routeHolds", unfollowed := true, recurses := true, apart := false, narrowed := true }
def RouteHoldsUptoSaid : Prop := routeHoldsUptoRow.holds Try.pinned (OpenSpec.upto routeHoldsSpec)

/-- 'groupagelaw08.RouteFirst', WHERE WHAT IT READS IS OF BULK AT MOST 1048576: true; the input reads as it did. -/
def routeFirstUptoRow : OpenClaim := { program := "ytakiciemkecgfaa", sum := "6c827a8af85a98b9c0f37645007e8773bc731fe10a044e26133183315255e9a4", func := "groupage/groupagelaw08.RouteFirst", spec := "routeFirst", unfollowed := true, recurses := true, apart := false, narrowed := true }
def RouteFirstUptoSaid : Prop := routeFirstUptoRow.holds Try.pinned (OpenSpec.upto routeFirstSpec)

end Rows
end Go.Proofs.Ytakiciemkecgfaa
