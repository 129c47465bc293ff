/-
  No cell of these rows narrows 'for every input' (looked for: loops, veiled, ifaces, maps, wideKeys, modest, calm, conditions, laid).
  DERIVED. THE GIVEN ROWS OF THIS SEAT. 7 by the template 'for every input the law returns true; each argument reads behind the call as it read before'; 0 by the template 'total and deterministic' (their statements: YtknpncnogocbjaaTotals.lean).
  GIVEN WITH THE SEED: the statements are not yours to turn. If you find one false, say at which input.
  Laid BY PROGRAM, IN A SANDBOX (cutbox-rows.mjs): the forced cells as the released guide's own fill.sh prints them over the translation b35f3fe6ded6ac56… (all of the seat's roots in one cut). By AI agents, Wed Nov 11 2026. No macro, syntax, notation, axiom, sorry.
-/
import Derived.Test.YtknpncnogocbjaaChecked
import GoSem.Claim
import GoSem.ClaimJoined
import GoSem.ClaimMapViews
import Derived.JoinedTies
import Derived.KernelRfl
namespace Go.Proofs.Ytknpncnogocbjaa
/- THE CELL 'sum', in the pinned program and in every row, IS THE sha256 OF THE DUMP (.gsa) THAT YtknpncnogocbjaaProg.lean LOADS. Nothing in Lean hashes anything: it is a label: what it is worth is what the hold of that sum in a sandbox is worth. -/
noncomputable def Try.pinned : Pinned := { name := "ytknpncnogocbjaa", sum := "b35f3fe6ded6ac56f7da59a59feb1f23803c7f37ff2497b10904839ddcefbbda", checked := Try.checked }
namespace Rows
def none {H : Type} : Left H := { results := [], args := [] }

/-- 'groupagelaw02.CrcTells': WHATEVER THE INPUT: true; the input reads as it did. -/
def crcTellsSpec : ChangeSpec := { name := "crcTells", fn := fun _ => fun
  | [d1, d2, d3] => { results := [.lit (.bool true)], args := [d1, d2, d3] }
  | _ => none }
def crcTellsRow : OpenClaim := { program := "ytknpncnogocbjaa", sum := "b35f3fe6ded6ac56f7da59a59feb1f23803c7f37ff2497b10904839ddcefbbda", func := "groupage/groupagelaw02.CrcTells", spec := "crcTells", apart := false }
def CrcTellsSaid : Prop := crcTellsRow.holds Try.pinned (OpenSpec.ofChange crcTellsSpec)

/-- ITS FALSE NEIGHBOUR: 'it returns false'. Refute it at one input. -/
def crcTellsWrong : ChangeSpec := { name := "crcTells", fn := fun _ => fun
  | [d1, d2, d3] => { results := [.lit (.bool false)], args := [d1, d2, d3] }
  | _ => none }
def CrcTellsWrongFalsely : Prop := crcTellsRow.holds Try.pinned (OpenSpec.ofChange crcTellsWrong)

/-- 'groupagelaw02.CrcParts': WHATEVER THE INPUT: true; the input reads as it did. -/
def crcPartsSpec : ChangeSpec := { name := "crcParts", fn := fun _ => fun
  | [d1, d2, d3] => { results := [.lit (.bool true)], args := [d1, d2, d3] }
  | _ => none }
def crcPartsRow : OpenClaim := { program := "ytknpncnogocbjaa", sum := "b35f3fe6ded6ac56f7da59a59feb1f23803c7f37ff2497b10904839ddcefbbda", func := "groupage/groupagelaw02.CrcParts", spec := "crcParts", apart := false }
def CrcPartsSaid : Prop := crcPartsRow.holds Try.pinned (OpenSpec.ofChange crcPartsSpec)

/-- ITS FALSE NEIGHBOUR: 'it returns false'. Refute it at one input. -/
def crcPartsWrong : ChangeSpec := { name := "crcParts", fn := fun _ => fun
  | [d1, d2, d3] => { results := [.lit (.bool false)], args := [d1, d2, d3] }
  | _ => none }
def CrcPartsWrongFalsely : Prop := crcPartsRow.holds Try.pinned (OpenSpec.ofChange crcPartsWrong)

/-- 'groupagelaw02.CrcBurst': WHATEVER THE INPUT: true; the input reads as it did. -/
def crcBurstSpec : ChangeSpec := { name := "crcBurst", fn := fun _ => fun
  | [d1, d2, d3] => { results := [.lit (.bool true)], args := [d1, d2, d3] }
  | _ => none }
def crcBurstRow : OpenClaim := { program := "ytknpncnogocbjaa", sum := "b35f3fe6ded6ac56f7da59a59feb1f23803c7f37ff2497b10904839ddcefbbda", func := "groupage/groupagelaw02.CrcBurst", spec := "crcBurst", apart := false }
def CrcBurstSaid : Prop := crcBurstRow.holds Try.pinned (OpenSpec.ofChange crcBurstSpec)

/-- ITS FALSE NEIGHBOUR: 'it returns false'. Refute it at one input. -/
def crcBurstWrong : ChangeSpec := { name := "crcBurst", fn := fun _ => fun
  | [d1, d2, d3] => { results := [.lit (.bool false)], args := [d1, d2, d3] }
  | _ => none }
def CrcBurstWrongFalsely : Prop := crcBurstRow.holds Try.pinned (OpenSpec.ofChange crcBurstWrong)

/-- 'groupagelaw01.MoneyTells': WHATEVER THE INPUT: true; the input reads as it did. -/
def moneyTellsSpec : ChangeSpec := { name := "moneyTells", fn := fun _ => fun
  | [d1, d2, d3, d4] => { results := [.lit (.bool true)], args := [d1, d2, d3, d4] }
  | _ => none }
def moneyTellsRow : OpenClaim := { program := "ytknpncnogocbjaa", sum := "b35f3fe6ded6ac56f7da59a59feb1f23803c7f37ff2497b10904839ddcefbbda", func := "groupage/groupagelaw01.MoneyTells", spec := "moneyTells", recurses := true, apart := false }
def MoneyTellsSaid : Prop := moneyTellsRow.holds Try.pinned (OpenSpec.ofChange moneyTellsSpec)

/-- ITS FALSE NEIGHBOUR: 'it returns false'. Refute it at one input. -/
def moneyTellsWrong : ChangeSpec := { name := "moneyTells", fn := fun _ => fun
  | [d1, d2, d3, d4] => { results := [.lit (.bool false)], args := [d1, d2, d3, d4] }
  | _ => none }
def MoneyTellsWrongFalsely : Prop := moneyTellsRow.holds Try.pinned (OpenSpec.ofChange moneyTellsWrong)

/-- 'groupagelaw01.MoneyBack': WHATEVER THE INPUT: true; the input reads as it did. -/
def moneyBackSpec : ChangeSpec := { name := "moneyBack", fn := fun _ => fun
  | [d1, d2] => { results := [.lit (.bool true)], args := [d1, d2] }
  | _ => none }
def moneyBackRow : OpenClaim := { program := "ytknpncnogocbjaa", sum := "b35f3fe6ded6ac56f7da59a59feb1f23803c7f37ff2497b10904839ddcefbbda", func := "groupage/groupagelaw01.MoneyBack", spec := "moneyBack", apart := false }
def MoneyBackSaid : Prop := moneyBackRow.holds Try.pinned (OpenSpec.ofChange moneyBackSpec)

/-- ITS FALSE NEIGHBOUR: 'it returns false'. Refute it at one input. -/
def moneyBackWrong : ChangeSpec := { name := "moneyBack", fn := fun _ => fun
  | [d1, d2] => { results := [.lit (.bool false)], args := [d1, d2] }
  | _ => none }
def MoneyBackWrongFalsely : Prop := moneyBackRow.holds Try.pinned (OpenSpec.ofChange moneyBackWrong)

/-- 'groupagelaw01.MoneyShares': WHATEVER THE INPUT: true; the input reads as it did. -/
def moneySharesSpec : ChangeSpec := { name := "moneyShares", fn := fun _ => fun
  | [d1, d2, d3] => { results := [.lit (.bool true)], args := [d1, d2, d3] }
  | _ => none }
def moneySharesRow : OpenClaim := { program := "ytknpncnogocbjaa", sum := "b35f3fe6ded6ac56f7da59a59feb1f23803c7f37ff2497b10904839ddcefbbda", func := "groupage/groupagelaw01.MoneyShares", spec := "moneyShares", apart := false }
def MoneySharesSaid : Prop := moneySharesRow.holds Try.pinned (OpenSpec.ofChange moneySharesSpec)

/-- ITS FALSE NEIGHBOUR: 'it returns false'. Refute it at one input. -/
def moneySharesWrong : ChangeSpec := { name := "moneyShares", fn := fun _ => fun
  | [d1, d2, d3] => { results := [.lit (.bool false)], args := [d1, d2, d3] }
  | _ => none }
def MoneySharesWrongFalsely : Prop := moneySharesRow.holds Try.pinned (OpenSpec.ofChange moneySharesWrong)

/-- 'groupagelaw01.MoneyWhole': WHATEVER THE INPUT: true; the input reads as it did. -/
def moneyWholeSpec : ChangeSpec := { name := "moneyWhole", fn := fun _ => fun
  | [d1, d2, d3] => { results := [.lit (.bool true)], args := [d1, d2, d3] }
  | _ => none }
def moneyWholeRow : OpenClaim := { program := "ytknpncnogocbjaa", sum := "b35f3fe6ded6ac56f7da59a59feb1f23803c7f37ff2497b10904839ddcefbbda", func := "groupage/groupagelaw01.MoneyWhole", spec := "moneyWhole", apart := false }
def MoneyWholeSaid : Prop := moneyWholeRow.holds Try.pinned (OpenSpec.ofChange moneyWholeSpec)

/-- ITS FALSE NEIGHBOUR: 'it returns false'. Refute it at one input. -/
def moneyWholeWrong : ChangeSpec := { name := "moneyWhole", fn := fun _ => fun
  | [d1, d2, d3] => { results := [.lit (.bool false)], args := [d1, d2, d3] }
  | _ => none }
def MoneyWholeWrongFalsely : Prop := moneyWholeRow.holds Try.pinned (OpenSpec.ofChange moneyWholeWrong)

/- THE SECOND FORM. 'bulk': how many values and letters a reading holds, each counted each time it is reached (what is shared counts as often as it is met; a slice's spare places count too). A statement '..UptoSaid' is the law's where the arguments, and the package variables that the reading takes, are together of bulk at most 1048576: NARROWER than '..Said'. Prove '..Said' where nothing that the law and all that it calls make is longer than what came in: it says more and counts as full. Else prove '..UptoSaid'. A law counts once. -/
mutual
def uptoBulk {H : Type} : DataW H → Nat
  | .lit (.string bytes) => bytes.length + 1
  | .lit _ => 1
  | .nil => 1
  | .ptr d => uptoBulk d + 1
  | .slice elems spare => uptoBulkAll elems + uptoBulkAll spare + 1
  | .agg parts => uptoBulkAll parts + 1
  | .iface _ d => uptoBulk d + 1
  | .map entries => uptoBulkEntries entries + 1
  | .held _ => 1
def uptoBulkAll {H : Type} : List (DataW H) → Nat
  | [] => 0
  | d :: r => uptoBulk d + uptoBulkAll r
def uptoBulkEntries {H : Type} : List (Lit × DataW H) → Nat
  | [] => 0
  | x :: r => uptoBulkEntry x + uptoBulkEntries r
def uptoBulkEntry {H : Type} : Lit × DataW H → Nat
  | (.string bytes, d) => bytes.length + uptoBulk d + 1
  | (_, d) => uptoBulk d + 1
 end
def uptoSmall : (H : Type) → List (DataW H) → Bool := fun _ ds => decide (uptoBulkAll ds ≤ 1048576)
def OpenSpec.upto (s : _root_.Go.ChangeSpec) : _root_.Go.OpenSpec := { _root_.Go.OpenSpec.ofChange s with cond := some uptoSmall }

/-- 'groupagelaw02.CrcTells', WHERE WHAT IT READS IS OF BULK AT MOST 1048576: true; the input reads as it did. -/
def crcTellsUptoRow : OpenClaim := { program := "ytknpncnogocbjaa", sum := "b35f3fe6ded6ac56f7da59a59feb1f23803c7f37ff2497b10904839ddcefbbda", func := "groupage/groupagelaw02.CrcTells", spec := "crcTells", apart := false, narrowed := true }
def CrcTellsUptoSaid : Prop := crcTellsUptoRow.holds Try.pinned (OpenSpec.upto crcTellsSpec)

/-- 'groupagelaw02.CrcParts', WHERE WHAT IT READS IS OF BULK AT MOST 1048576: true; the input reads as it did. -/
def crcPartsUptoRow : OpenClaim := { program := "ytknpncnogocbjaa", sum := "b35f3fe6ded6ac56f7da59a59feb1f23803c7f37ff2497b10904839ddcefbbda", func := "groupage/groupagelaw02.CrcParts", spec := "crcParts", apart := false, narrowed := true }
def CrcPartsUptoSaid : Prop := crcPartsUptoRow.holds Try.pinned (OpenSpec.upto crcPartsSpec)

/-- 'groupagelaw02.CrcBurst', WHERE WHAT IT READS IS OF BULK AT MOST 1048576: true; the input reads as it did. -/
def crcBurstUptoRow : OpenClaim := { program := "ytknpncnogocbjaa", sum := "b35f3fe6ded6ac56f7da59a59feb1f23803c7f37ff2497b10904839ddcefbbda", func := "groupage/groupagelaw02.CrcBurst", spec := "crcBurst", apart := false, narrowed := true }
def CrcBurstUptoSaid : Prop := crcBurstUptoRow.holds Try.pinned (OpenSpec.upto crcBurstSpec)

/-- 'groupagelaw01.MoneyTells', WHERE WHAT IT READS IS OF BULK AT MOST 1048576: true; the input reads as it did. -/
def moneyTellsUptoRow : OpenClaim := { program := "ytknpncnogocbjaa", sum := "b35f3fe6ded6ac56f7da59a59feb1f23803c7f37ff2497b10904839ddcefbbda", func := "groupage/groupagelaw01.MoneyTells", spec := "moneyTells", recurses := true, apart := false, narrowed := true }
def MoneyTellsUptoSaid : Prop := moneyTellsUptoRow.holds Try.pinned (OpenSpec.upto moneyTellsSpec)

/-- 'groupagelaw01.MoneyBack', WHERE WHAT IT READS IS OF BULK AT MOST 1048576: true; the input reads as it did. -/
def moneyBackUptoRow : OpenClaim := { program := "ytknpncnogocbjaa", sum := "b35f3fe6ded6ac56f7da59a59feb1f23803c7f37ff2497b10904839ddcefbbda", func := "groupage/groupagelaw01.MoneyBack", spec := "moneyBack", apart := false, narrowed := true }
def MoneyBackUptoSaid : Prop := moneyBackUptoRow.holds Try.pinned (OpenSpec.upto moneyBackSpec)

/-- 'groupagelaw01.MoneyShares', WHERE WHAT IT READS IS OF BULK AT MOST 1048576: true; the input reads as it did. -/
def moneySharesUptoRow : OpenClaim := { program := "ytknpncnogocbjaa", sum := "b35f3fe6ded6ac56f7da59a59feb1f23803c7f37ff2497b10904839ddcefbbda", func := "groupage/groupagelaw01.MoneyShares", spec := "moneyShares", apart := false, narrowed := true }
def MoneySharesUptoSaid : Prop := moneySharesUptoRow.holds Try.pinned (OpenSpec.upto moneySharesSpec)

/-- 'groupagelaw01.MoneyWhole', WHERE WHAT IT READS IS OF BULK AT MOST 1048576: true; the input reads as it did. -/
def moneyWholeUptoRow : OpenClaim := { program := "ytknpncnogocbjaa", sum := "b35f3fe6ded6ac56f7da59a59feb1f23803c7f37ff2497b10904839ddcefbbda", func := "groupage/groupagelaw01.MoneyWhole", spec := "moneyWhole", apart := false, narrowed := true }
def MoneyWholeUptoSaid : Prop := moneyWholeUptoRow.holds Try.pinned (OpenSpec.upto moneyWholeSpec)

end Rows
end Go.Proofs.Ytknpncnogocbjaa
