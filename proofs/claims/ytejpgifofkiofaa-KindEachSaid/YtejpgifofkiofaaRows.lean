/-
  NARROWER THAN 'FOR EVERY INPUT', by the rows' own cells (each row's printed sentence says how): TermEtas: loops · TermShifts: loops · KindParts: loops · KindTexts: loops · KindMakes: loops · TermOrders: loops · KindOrders: loops · TermChecks: loops · TermWell: loops · KindEach: loops · TermParts: loops.
  DERIVED. THE GIVEN ROWS OF THIS SEAT. 11 by the template 'for every input the law returns true; each argument reads behind the call as it read before'; 0 by the template 'total and deterministic' (their statements: YtejpgifofkiofaaTotals.lean).
  GIVEN WITH THE SEED: the statements are not yours to turn. If you find one false, say at which input.
  Laid BY PROGRAM, IN A SANDBOX (cutbox-rows.mjs): the forced cells as the released guide's own fill.sh prints them over the translation 5b8e2bf9a84fc516… (all of the seat's roots in one cut). By AI agents, Wed Nov 11 2026. No macro, syntax, notation, axiom, sorry.
-/
import Derived.Test.YtejpgifofkiofaaChecked
import GoSem.Claim
import GoSem.ClaimJoined
import GoSem.ClaimMapViews
import Derived.JoinedTies
import Derived.KernelRfl
namespace Go.Proofs.Ytejpgifofkiofaa
/- THE CELL 'sum', in the pinned program and in every row, IS THE sha256 OF THE DUMP (.gsa) THAT YtejpgifofkiofaaProg.lean LOADS. Nothing in Lean hashes anything: it is a label: what it is worth is what the hold of that sum in a sandbox is worth. -/
noncomputable def Try.pinned : Pinned := { name := "ytejpgifofkiofaa", sum := "5b8e2bf9a84fc5160d8ea0c60b11ce8adf2ec26176318566f7fd943b13a45761", checked := Try.checked }
namespace Rows
def none {H : Type} : Left H := { results := [], args := [] }

/-- 'filigreelaw06.TermEtas': WHATEVER THE INPUT: true; the input reads as it did. -/
def termEtasSpec : ChangeSpec := { name := "termEtas", fn := fun _ => fun
  | [d1, d2, d3] => { results := [.lit (.bool true)], args := [d1, d2, d3] }
  | _ => none }
def termEtasRow : OpenClaim := { program := "ytejpgifofkiofaa", sum := "5b8e2bf9a84fc5160d8ea0c60b11ce8adf2ec26176318566f7fd943b13a45761", func := "filigree/filigreelaw06.TermEtas", spec := "termEtas", unfollowed := true, recurses := true, loops := true, apart := false }
def TermEtasSaid : Prop := termEtasRow.holds Try.pinned (OpenSpec.ofChange termEtasSpec)

/-- ITS FALSE NEIGHBOUR: 'it returns false'. Refute it at one input. -/
def termEtasWrong : ChangeSpec := { name := "termEtas", fn := fun _ => fun
  | [d1, d2, d3] => { results := [.lit (.bool false)], args := [d1, d2, d3] }
  | _ => none }
def TermEtasWrongFalsely : Prop := termEtasRow.holds Try.pinned (OpenSpec.ofChange termEtasWrong)

/-- 'filigreelaw06.TermShifts': WHATEVER THE INPUT: true; the input reads as it did. -/
def termShiftsSpec : ChangeSpec := { name := "termShifts", fn := fun _ => fun
  | [d1, d2, d3] => { results := [.lit (.bool true)], args := [d1, d2, d3] }
  | _ => none }
def termShiftsRow : OpenClaim := { program := "ytejpgifofkiofaa", sum := "5b8e2bf9a84fc5160d8ea0c60b11ce8adf2ec26176318566f7fd943b13a45761", func := "filigree/filigreelaw06.TermShifts", spec := "termShifts", unfollowed := true, recurses := true, loops := true, apart := false }
def TermShiftsSaid : Prop := termShiftsRow.holds Try.pinned (OpenSpec.ofChange termShiftsSpec)

/-- ITS FALSE NEIGHBOUR: 'it returns false'. Refute it at one input. -/
def termShiftsWrong : ChangeSpec := { name := "termShifts", fn := fun _ => fun
  | [d1, d2, d3] => { results := [.lit (.bool false)], args := [d1, d2, d3] }
  | _ => none }
def TermShiftsWrongFalsely : Prop := termShiftsRow.holds Try.pinned (OpenSpec.ofChange termShiftsWrong)

/-- 'filigreelaw04.KindParts': WHATEVER THE INPUT: true; the input reads as it did. -/
def kindPartsSpec : ChangeSpec := { name := "kindParts", fn := fun _ => fun
  | [d1, d2] => { results := [.lit (.bool true)], args := [d1, d2] }
  | _ => none }
def kindPartsRow : OpenClaim := { program := "ytejpgifofkiofaa", sum := "5b8e2bf9a84fc5160d8ea0c60b11ce8adf2ec26176318566f7fd943b13a45761", func := "filigree/filigreelaw04.KindParts", spec := "kindParts", inPlace := ["internal/abi.NoEscape", "internal/bytealg.MakeNoZero"], unfollowed := true, recurses := true, loops := true, apart := false }
def KindPartsSaid : Prop := kindPartsRow.holds Try.pinned (OpenSpec.ofChange kindPartsSpec)

/-- ITS FALSE NEIGHBOUR: 'it returns false'. Refute it at one input. -/
def kindPartsWrong : ChangeSpec := { name := "kindParts", fn := fun _ => fun
  | [d1, d2] => { results := [.lit (.bool false)], args := [d1, d2] }
  | _ => none }
def KindPartsWrongFalsely : Prop := kindPartsRow.holds Try.pinned (OpenSpec.ofChange kindPartsWrong)

/-- 'filigreelaw04.KindTexts': WHATEVER THE INPUT: true; the input reads as it did. -/
def kindTextsSpec : ChangeSpec := { name := "kindTexts", fn := fun _ => fun
  | [d1, d2] => { results := [.lit (.bool true)], args := [d1, d2] }
  | _ => none }
def kindTextsRow : OpenClaim := { program := "ytejpgifofkiofaa", sum := "5b8e2bf9a84fc5160d8ea0c60b11ce8adf2ec26176318566f7fd943b13a45761", func := "filigree/filigreelaw04.KindTexts", spec := "kindTexts", inPlace := ["internal/abi.NoEscape", "internal/bytealg.MakeNoZero"], unfollowed := true, recurses := true, loops := true, apart := false }
def KindTextsSaid : Prop := kindTextsRow.holds Try.pinned (OpenSpec.ofChange kindTextsSpec)

/-- ITS FALSE NEIGHBOUR: 'it returns false'. Refute it at one input. -/
def kindTextsWrong : ChangeSpec := { name := "kindTexts", fn := fun _ => fun
  | [d1, d2] => { results := [.lit (.bool false)], args := [d1, d2] }
  | _ => none }
def KindTextsWrongFalsely : Prop := kindTextsRow.holds Try.pinned (OpenSpec.ofChange kindTextsWrong)

/-- 'filigreelaw04.KindMakes': WHATEVER THE INPUT: true; the input reads as it did. -/
def kindMakesSpec : ChangeSpec := { name := "kindMakes", fn := fun _ => fun
  | [d1, d2, d3] => { results := [.lit (.bool true)], args := [d1, d2, d3] }
  | _ => none }
def kindMakesRow : OpenClaim := { program := "ytejpgifofkiofaa", sum := "5b8e2bf9a84fc5160d8ea0c60b11ce8adf2ec26176318566f7fd943b13a45761", func := "filigree/filigreelaw04.KindMakes", spec := "kindMakes", inPlace := ["internal/abi.NoEscape", "internal/bytealg.MakeNoZero"], unfollowed := true, recurses := true, loops := true, apart := false }
def KindMakesSaid : Prop := kindMakesRow.holds Try.pinned (OpenSpec.ofChange kindMakesSpec)

/-- ITS FALSE NEIGHBOUR: 'it returns false'. Refute it at one input. -/
def kindMakesWrong : ChangeSpec := { name := "kindMakes", fn := fun _ => fun
  | [d1, d2, d3] => { results := [.lit (.bool false)], args := [d1, d2, d3] }
  | _ => none }
def KindMakesWrongFalsely : Prop := kindMakesRow.holds Try.pinned (OpenSpec.ofChange kindMakesWrong)

/-- 'filigreelaw06.TermOrders': WHATEVER THE INPUT: true; the input reads as it did. -/
def termOrdersSpec : ChangeSpec := { name := "termOrders", fn := fun _ => fun
  | [d1, d2] => { results := [.lit (.bool true)], args := [d1, d2] }
  | _ => none }
def termOrdersRow : OpenClaim := { program := "ytejpgifofkiofaa", sum := "5b8e2bf9a84fc5160d8ea0c60b11ce8adf2ec26176318566f7fd943b13a45761", func := "filigree/filigreelaw06.TermOrders", spec := "termOrders", unfollowed := true, recurses := true, loops := true, apart := false }
def TermOrdersSaid : Prop := termOrdersRow.holds Try.pinned (OpenSpec.ofChange termOrdersSpec)

/-- ITS FALSE NEIGHBOUR: 'it returns false'. Refute it at one input. -/
def termOrdersWrong : ChangeSpec := { name := "termOrders", fn := fun _ => fun
  | [d1, d2] => { results := [.lit (.bool false)], args := [d1, d2] }
  | _ => none }
def TermOrdersWrongFalsely : Prop := termOrdersRow.holds Try.pinned (OpenSpec.ofChange termOrdersWrong)

/-- 'filigreelaw04.KindOrders': WHATEVER THE INPUT: true; the input reads as it did. -/
def kindOrdersSpec : ChangeSpec := { name := "kindOrders", fn := fun _ => fun
  | [d1, d2, d3] => { results := [.lit (.bool true)], args := [d1, d2, d3] }
  | _ => none }
def kindOrdersRow : OpenClaim := { program := "ytejpgifofkiofaa", sum := "5b8e2bf9a84fc5160d8ea0c60b11ce8adf2ec26176318566f7fd943b13a45761", func := "filigree/filigreelaw04.KindOrders", spec := "kindOrders", inPlace := ["internal/abi.NoEscape", "internal/bytealg.MakeNoZero"], unfollowed := true, recurses := true, loops := true, apart := false }
def KindOrdersSaid : Prop := kindOrdersRow.holds Try.pinned (OpenSpec.ofChange kindOrdersSpec)

/-- ITS FALSE NEIGHBOUR: 'it returns false'. Refute it at one input. -/
def kindOrdersWrong : ChangeSpec := { name := "kindOrders", fn := fun _ => fun
  | [d1, d2, d3] => { results := [.lit (.bool false)], args := [d1, d2, d3] }
  | _ => none }
def KindOrdersWrongFalsely : Prop := kindOrdersRow.holds Try.pinned (OpenSpec.ofChange kindOrdersWrong)

/-- 'filigreelaw06.TermChecks': WHATEVER THE INPUT: true; the input reads as it did. -/
def termChecksSpec : ChangeSpec := { name := "termChecks", fn := fun _ => fun
  | [d1, d2, d3, d4] => { results := [.lit (.bool true)], args := [d1, d2, d3, d4] }
  | _ => none }
def termChecksRow : OpenClaim := { program := "ytejpgifofkiofaa", sum := "5b8e2bf9a84fc5160d8ea0c60b11ce8adf2ec26176318566f7fd943b13a45761", func := "filigree/filigreelaw06.TermChecks", spec := "termChecks", unfollowed := true, recurses := true, loops := true, apart := false }
def TermChecksSaid : Prop := termChecksRow.holds Try.pinned (OpenSpec.ofChange termChecksSpec)

/-- ITS FALSE NEIGHBOUR: 'it returns false'. Refute it at one input. -/
def termChecksWrong : ChangeSpec := { name := "termChecks", fn := fun _ => fun
  | [d1, d2, d3, d4] => { results := [.lit (.bool false)], args := [d1, d2, d3, d4] }
  | _ => none }
def TermChecksWrongFalsely : Prop := termChecksRow.holds Try.pinned (OpenSpec.ofChange termChecksWrong)

/-- 'filigreelaw06.TermWell': WHATEVER THE INPUT: true; the input reads as it did. -/
def termWellSpec : ChangeSpec := { name := "termWell", fn := fun _ => fun
  | [d1, d2, d3, d4, d5] => { results := [.lit (.bool true)], args := [d1, d2, d3, d4, d5] }
  | _ => none }
def termWellRow : OpenClaim := { program := "ytejpgifofkiofaa", sum := "5b8e2bf9a84fc5160d8ea0c60b11ce8adf2ec26176318566f7fd943b13a45761", func := "filigree/filigreelaw06.TermWell", spec := "termWell", unfollowed := true, recurses := true, loops := true, apart := false }
def TermWellSaid : Prop := termWellRow.holds Try.pinned (OpenSpec.ofChange termWellSpec)

/-- ITS FALSE NEIGHBOUR: 'it returns false'. Refute it at one input. -/
def termWellWrong : ChangeSpec := { name := "termWell", fn := fun _ => fun
  | [d1, d2, d3, d4, d5] => { results := [.lit (.bool false)], args := [d1, d2, d3, d4, d5] }
  | _ => none }
def TermWellWrongFalsely : Prop := termWellRow.holds Try.pinned (OpenSpec.ofChange termWellWrong)

/-- 'filigreelaw04.KindEach': WHATEVER THE INPUT: true; the input reads as it did. -/
def kindEachSpec : ChangeSpec := { name := "kindEach", fn := fun _ => fun
  | [d1, d2] => { results := [.lit (.bool true)], args := [d1, d2] }
  | _ => none }
def kindEachRow : OpenClaim := { program := "ytejpgifofkiofaa", sum := "5b8e2bf9a84fc5160d8ea0c60b11ce8adf2ec26176318566f7fd943b13a45761", func := "filigree/filigreelaw04.KindEach", spec := "kindEach", inPlace := ["internal/abi.NoEscape", "internal/bytealg.MakeNoZero"], unfollowed := true, recurses := true, loops := true, apart := false }
def KindEachSaid : Prop := kindEachRow.holds Try.pinned (OpenSpec.ofChange kindEachSpec)

/-- ITS FALSE NEIGHBOUR: 'it returns false'. Refute it at one input. -/
def kindEachWrong : ChangeSpec := { name := "kindEach", fn := fun _ => fun
  | [d1, d2] => { results := [.lit (.bool false)], args := [d1, d2] }
  | _ => none }
def KindEachWrongFalsely : Prop := kindEachRow.holds Try.pinned (OpenSpec.ofChange kindEachWrong)

/-- 'filigreelaw06.TermParts': WHATEVER THE INPUT: true; the input reads as it did. -/
def termPartsSpec : ChangeSpec := { name := "termParts", fn := fun _ => fun
  | [d1, d2] => { results := [.lit (.bool true)], args := [d1, d2] }
  | _ => none }
def termPartsRow : OpenClaim := { program := "ytejpgifofkiofaa", sum := "5b8e2bf9a84fc5160d8ea0c60b11ce8adf2ec26176318566f7fd943b13a45761", func := "filigree/filigreelaw06.TermParts", spec := "termParts", unfollowed := true, recurses := true, loops := true, apart := false }
def TermPartsSaid : Prop := termPartsRow.holds Try.pinned (OpenSpec.ofChange termPartsSpec)

/-- ITS FALSE NEIGHBOUR: 'it returns false'. Refute it at one input. -/
def termPartsWrong : ChangeSpec := { name := "termParts", fn := fun _ => fun
  | [d1, d2] => { results := [.lit (.bool false)], args := [d1, d2] }
  | _ => none }
def TermPartsWrongFalsely : Prop := termPartsRow.holds Try.pinned (OpenSpec.ofChange termPartsWrong)

/- THE SECOND FORM. 'bulk': how many values and letters a reading holds, each counted each time it is reached (what is shared counts as often as it is met; a slice's spare places count too). A statement '..UptoSaid' is the law's where the arguments, and the package variables that the reading takes, are together of bulk at most 1048576: NARROWER than '..Said'. Prove '..Said' where nothing that the law and all that it calls make is longer than what came in: it says more and counts as full. Else prove '..UptoSaid'. A law counts once. -/
mutual
def uptoBulk {H : Type} : DataW H → Nat
  | .lit (.string bytes) => bytes.length + 1
  | .lit _ => 1
  | .nil => 1
  | .ptr d => uptoBulk d + 1
  | .slice elems spare => uptoBulkAll elems + uptoBulkAll spare + 1
  | .agg parts => uptoBulkAll parts + 1
  | .iface _ d => uptoBulk d + 1
  | .map entries => uptoBulkEntries entries + 1
  | .held _ => 1
def uptoBulkAll {H : Type} : List (DataW H) → Nat
  | [] => 0
  | d :: r => uptoBulk d + uptoBulkAll r
def uptoBulkEntries {H : Type} : List (Lit × DataW H) → Nat
  | [] => 0
  | x :: r => uptoBulkEntry x + uptoBulkEntries r
def uptoBulkEntry {H : Type} : Lit × DataW H → Nat
  | (.string bytes, d) => bytes.length + uptoBulk d + 1
  | (_, d) => uptoBulk d + 1
 end
def uptoSmall : (H : Type) → List (DataW H) → Bool := fun _ ds => decide (uptoBulkAll ds ≤ 1048576)
def OpenSpec.upto (s : _root_.Go.ChangeSpec) : _root_.Go.OpenSpec := { _root_.Go.OpenSpec.ofChange s with cond := some uptoSmall }

/-- 'filigreelaw06.TermEtas', WHERE WHAT IT READS IS OF BULK AT MOST 1048576: true; the input reads as it did. -/
def termEtasUptoRow : OpenClaim := { program := "ytejpgifofkiofaa", sum := "5b8e2bf9a84fc5160d8ea0c60b11ce8adf2ec26176318566f7fd943b13a45761", func := "filigree/filigreelaw06.TermEtas", spec := "termEtas", unfollowed := true, recurses := true, loops := true, apart := false, narrowed := true }
def TermEtasUptoSaid : Prop := termEtasUptoRow.holds Try.pinned (OpenSpec.upto termEtasSpec)

/-- 'filigreelaw06.TermShifts', WHERE WHAT IT READS IS OF BULK AT MOST 1048576: true; the input reads as it did. -/
def termShiftsUptoRow : OpenClaim := { program := "ytejpgifofkiofaa", sum := "5b8e2bf9a84fc5160d8ea0c60b11ce8adf2ec26176318566f7fd943b13a45761", func := "filigree/filigreelaw06.TermShifts", spec := "termShifts", unfollowed := true, recurses := true, loops := true, apart := false, narrowed := true }
def TermShiftsUptoSaid : Prop := termShiftsUptoRow.holds Try.pinned (OpenSpec.upto termShiftsSpec)

/-- 'filigreelaw04.KindParts', WHERE WHAT IT READS IS OF BULK AT MOST 1048576: true; the input reads as it did. -/
def kindPartsUptoRow : OpenClaim := { program := "ytejpgifofkiofaa", sum := "5b8e2bf9a84fc5160d8ea0c60b11ce8adf2ec26176318566f7fd943b13a45761", func := "filigree/filigreelaw04.KindParts", spec := "kindParts", inPlace := ["internal/abi.NoEscape", "internal/bytealg.MakeNoZero"], unfollowed := true, recurses := true, loops := true, apart := false, narrowed := true }
def KindPartsUptoSaid : Prop := kindPartsUptoRow.holds Try.pinned (OpenSpec.upto kindPartsSpec)

/-- 'filigreelaw04.KindTexts', WHERE WHAT IT READS IS OF BULK AT MOST 1048576: true; the input reads as it did. -/
def kindTextsUptoRow : OpenClaim := { program := "ytejpgifofkiofaa", sum := "5b8e2bf9a84fc5160d8ea0c60b11ce8adf2ec26176318566f7fd943b13a45761", func := "filigree/filigreelaw04.KindTexts", spec := "kindTexts", inPlace := ["internal/abi.NoEscape", "internal/bytealg.MakeNoZero"], unfollowed := true, recurses := true, loops := true, apart := false, narrowed := true }
def KindTextsUptoSaid : Prop := kindTextsUptoRow.holds Try.pinned (OpenSpec.upto kindTextsSpec)

/-- 'filigreelaw04.KindMakes', WHERE WHAT IT READS IS OF BULK AT MOST 1048576: true; the input reads as it did. -/
def kindMakesUptoRow : OpenClaim := { program := "ytejpgifofkiofaa", sum := "5b8e2bf9a84fc5160d8ea0c60b11ce8adf2ec26176318566f7fd943b13a45761", func := "filigree/filigreelaw04.KindMakes", spec := "kindMakes", inPlace := ["internal/abi.NoEscape", "internal/bytealg.MakeNoZero"], unfollowed := true, recurses := true, loops := true, apart := false, narrowed := true }
def KindMakesUptoSaid : Prop := kindMakesUptoRow.holds Try.pinned (OpenSpec.upto kindMakesSpec)

/-- 'filigreelaw06.TermOrders', WHERE WHAT IT READS IS OF BULK AT MOST 1048576: true; the input reads as it did. -/
def termOrdersUptoRow : OpenClaim := { program := "ytejpgifofkiofaa", sum := "5b8e2bf9a84fc5160d8ea0c60b11ce8adf2ec26176318566f7fd943b13a45761", func := "filigree/filigreelaw06.TermOrders", spec := "termOrders", unfollowed := true, recurses := true, loops := true, apart := false, narrowed := true }
def TermOrdersUptoSaid : Prop := termOrdersUptoRow.holds Try.pinned (OpenSpec.upto termOrdersSpec)

/-- 'filigreelaw04.KindOrders', WHERE WHAT IT READS IS OF BULK AT MOST 1048576: true; the input reads as it did. -/
def kindOrdersUptoRow : OpenClaim := { program := "ytejpgifofkiofaa", sum := "5b8e2bf9a84fc5160d8ea0c60b11ce8adf2ec26176318566f7fd943b13a45761", func := "filigree/filigreelaw04.KindOrders", spec := "kindOrders", inPlace := ["internal/abi.NoEscape", "internal/bytealg.MakeNoZero"], unfollowed := true, recurses := true, loops := true, apart := false, narrowed := true }
def KindOrdersUptoSaid : Prop := kindOrdersUptoRow.holds Try.pinned (OpenSpec.upto kindOrdersSpec)

/-- 'filigreelaw06.TermChecks', WHERE WHAT IT READS IS OF BULK AT MOST 1048576: true; the input reads as it did. -/
def termChecksUptoRow : OpenClaim := { program := "ytejpgifofkiofaa", sum := "5b8e2bf9a84fc5160d8ea0c60b11ce8adf2ec26176318566f7fd943b13a45761", func := "filigree/filigreelaw06.TermChecks", spec := "termChecks", unfollowed := true, recurses := true, loops := true, apart := false, narrowed := true }
def TermChecksUptoSaid : Prop := termChecksUptoRow.holds Try.pinned (OpenSpec.upto termChecksSpec)

/-- 'filigreelaw06.TermWell', WHERE WHAT IT READS IS OF BULK AT MOST 1048576: true; the input reads as it did. -/
def termWellUptoRow : OpenClaim := { program := "ytejpgifofkiofaa", sum := "5b8e2bf9a84fc5160d8ea0c60b11ce8adf2ec26176318566f7fd943b13a45761", func := "filigree/filigreelaw06.TermWell", spec := "termWell", unfollowed := true, recurses := true, loops := true, apart := false, narrowed := true }
def TermWellUptoSaid : Prop := termWellUptoRow.holds Try.pinned (OpenSpec.upto termWellSpec)

/-- 'filigreelaw04.KindEach', WHERE WHAT IT READS IS OF BULK AT MOST 1048576: true; the input reads as it did. -/
def kindEachUptoRow : OpenClaim := { program := "ytejpgifofkiofaa", sum := "5b8e2bf9a84fc5160d8ea0c60b11ce8adf2ec26176318566f7fd943b13a45761", func := "filigree/filigreelaw04.KindEach", spec := "kindEach", inPlace := ["internal/abi.NoEscape", "internal/bytealg.MakeNoZero"], unfollowed := true, recurses := true, loops := true, apart := false, narrowed := true }
def KindEachUptoSaid : Prop := kindEachUptoRow.holds Try.pinned (OpenSpec.upto kindEachSpec)

/-- 'filigreelaw06.TermParts', WHERE WHAT IT READS IS OF BULK AT MOST 1048576: true; the input reads as it did. -/
def termPartsUptoRow : OpenClaim := { program := "ytejpgifofkiofaa", sum := "5b8e2bf9a84fc5160d8ea0c60b11ce8adf2ec26176318566f7fd943b13a45761", func := "filigree/filigreelaw06.TermParts", spec := "termParts", unfollowed := true, recurses := true, loops := true, apart := false, narrowed := true }
def TermPartsUptoSaid : Prop := termPartsUptoRow.holds Try.pinned (OpenSpec.upto termPartsSpec)

end Rows
end Go.Proofs.Ytejpgifofkiofaa
