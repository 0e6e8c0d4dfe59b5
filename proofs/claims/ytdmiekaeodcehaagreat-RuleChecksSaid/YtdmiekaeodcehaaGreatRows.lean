/-
  NARROWER THAN 'FOR EVERY INPUT', by the rows' own cells (each row's printed sentence says how): RuleOwns: loops · RuleChecks: loops · RuleOrders: loops.
  DERIVED. THE GIVEN ROWS OF THIS SEAT. 3 by the template 'for every input the law returns true; each argument reads behind the call as it read before'; 0 by the template 'total and deterministic' (their statements: YtdmiekaeodcehaaGreatTotals.lean).
  GIVEN WITH THE SEED: the statements are not yours to turn. If you find one false, say at which input.
  Laid BY PROGRAM, IN A SANDBOX (cutbox-rows.mjs): the forced cells as the released guide's own fill.sh prints them over the translation 9cdf5e35f9e1e052… (all of the seat's roots in one cut). By AI agents, Wed Nov 11 2026. No macro, syntax, notation, axiom, sorry.
-/
import Derived.Test.YtdmiekaeodcehaaGreatChecked
import GoSem.Claim
import GoSem.ClaimJoined
import GoSem.ClaimMapViews
import Derived.JoinedTies
import Derived.KernelRfl
namespace Go.Proofs.YtdmiekaeodcehaaGreat
/- THE CELL 'sum', in the pinned program and in every row, IS THE sha256 OF THE DUMP (.gsa) THAT YtdmiekaeodcehaaGreatProg.lean LOADS. Nothing in Lean hashes anything: it is a label: what it is worth is what the hold of that sum in a sandbox is worth. -/
noncomputable def Tryz.pinned : Pinned := { name := "ytdmiekaeodcehaagreat", sum := "9cdf5e35f9e1e05274046121ab7ac2eb40476ab69f4a542fc73c251fc00bf244", checked := Tryz.checked }
namespace Rows
def none {H : Type} : Left H := { results := [], args := [] }

/-- 'filigreelaw17.RuleOwns': WHATEVER THE INPUT: true; the input reads as it did. -/
def ruleOwnsSpec : ChangeSpec := { name := "ruleOwns", fn := fun _ => fun
  | [d1, d2] => { results := [.lit (.bool true)], args := [d1, d2] }
  | _ => none }
def ruleOwnsRow : OpenClaim := { program := "ytdmiekaeodcehaagreat", sum := "9cdf5e35f9e1e05274046121ab7ac2eb40476ab69f4a542fc73c251fc00bf244", func := "filigree/filigreelaw17.RuleOwns", spec := "ruleOwns", unfollowed := true, recurses := true, loops := true, apart := false }
def RuleOwnsSaid : Prop := ruleOwnsRow.holds Tryz.pinned (OpenSpec.ofChange ruleOwnsSpec)

/-- ITS FALSE NEIGHBOUR: 'it returns false'. Refute it at one input. -/
def ruleOwnsWrong : ChangeSpec := { name := "ruleOwns", fn := fun _ => fun
  | [d1, d2] => { results := [.lit (.bool false)], args := [d1, d2] }
  | _ => none }
def RuleOwnsWrongFalsely : Prop := ruleOwnsRow.holds Tryz.pinned (OpenSpec.ofChange ruleOwnsWrong)

/-- 'filigreelaw17.RuleChecks': WHATEVER THE INPUT: true; the input reads as it did. -/
def ruleChecksSpec : ChangeSpec := { name := "ruleChecks", fn := fun _ => fun
  | [d1, d2] => { results := [.lit (.bool true)], args := [d1, d2] }
  | _ => none }
def ruleChecksRow : OpenClaim := { program := "ytdmiekaeodcehaagreat", sum := "9cdf5e35f9e1e05274046121ab7ac2eb40476ab69f4a542fc73c251fc00bf244", func := "filigree/filigreelaw17.RuleChecks", spec := "ruleChecks", unfollowed := true, recurses := true, loops := true, apart := false }
def RuleChecksSaid : Prop := ruleChecksRow.holds Tryz.pinned (OpenSpec.ofChange ruleChecksSpec)

/-- ITS FALSE NEIGHBOUR: 'it returns false'. Refute it at one input. -/
def ruleChecksWrong : ChangeSpec := { name := "ruleChecks", fn := fun _ => fun
  | [d1, d2] => { results := [.lit (.bool false)], args := [d1, d2] }
  | _ => none }
def RuleChecksWrongFalsely : Prop := ruleChecksRow.holds Tryz.pinned (OpenSpec.ofChange ruleChecksWrong)

/-- 'filigreelaw17.RuleOrders': WHATEVER THE INPUT: true; the input reads as it did. -/
def ruleOrdersSpec : ChangeSpec := { name := "ruleOrders", fn := fun _ => fun
  | [d1, d2] => { results := [.lit (.bool true)], args := [d1, d2] }
  | _ => none }
def ruleOrdersRow : OpenClaim := { program := "ytdmiekaeodcehaagreat", sum := "9cdf5e35f9e1e05274046121ab7ac2eb40476ab69f4a542fc73c251fc00bf244", func := "filigree/filigreelaw17.RuleOrders", spec := "ruleOrders", unfollowed := true, recurses := true, loops := true, apart := false }
def RuleOrdersSaid : Prop := ruleOrdersRow.holds Tryz.pinned (OpenSpec.ofChange ruleOrdersSpec)

/-- ITS FALSE NEIGHBOUR: 'it returns false'. Refute it at one input. -/
def ruleOrdersWrong : ChangeSpec := { name := "ruleOrders", fn := fun _ => fun
  | [d1, d2] => { results := [.lit (.bool false)], args := [d1, d2] }
  | _ => none }
def RuleOrdersWrongFalsely : Prop := ruleOrdersRow.holds Tryz.pinned (OpenSpec.ofChange ruleOrdersWrong)

/- THE SECOND FORM. 'bulk': how many values and letters a reading holds, each counted each time it is reached (what is shared counts as often as it is met; a slice's spare places count too). A statement '..UptoSaid' is the law's where the arguments, and the package variables that the reading takes, are together of bulk at most 1048576: NARROWER than '..Said'. Prove '..Said' where nothing that the law and all that it calls make is longer than what came in: it says more and counts as full. Else prove '..UptoSaid'. A law counts once. -/
mutual
def uptoBulk {H : Type} : DataW H → Nat
  | .lit (.string bytes) => bytes.length + 1
  | .lit _ => 1
  | .nil => 1
  | .ptr d => uptoBulk d + 1
  | .slice elems spare => uptoBulkAll elems + uptoBulkAll spare + 1
  | .agg parts => uptoBulkAll parts + 1
  | .iface _ d => uptoBulk d + 1
  | .map entries => uptoBulkEntries entries + 1
  | .held _ => 1
def uptoBulkAll {H : Type} : List (DataW H) → Nat
  | [] => 0
  | d :: r => uptoBulk d + uptoBulkAll r
def uptoBulkEntries {H : Type} : List (Lit × DataW H) → Nat
  | [] => 0
  | x :: r => uptoBulkEntry x + uptoBulkEntries r
def uptoBulkEntry {H : Type} : Lit × DataW H → Nat
  | (.string bytes, d) => bytes.length + uptoBulk d + 1
  | (_, d) => uptoBulk d + 1
 end
def uptoSmall : (H : Type) → List (DataW H) → Bool := fun _ ds => decide (uptoBulkAll ds ≤ 1048576)
def OpenSpec.upto (s : _root_.Go.ChangeSpec) : _root_.Go.OpenSpec := { _root_.Go.OpenSpec.ofChange s with cond := some uptoSmall }

/-- 'filigreelaw17.RuleOwns', WHERE WHAT IT READS IS OF BULK AT MOST 1048576: true; the input reads as it did. -/
def ruleOwnsUptoRow : OpenClaim := { program := "ytdmiekaeodcehaagreat", sum := "9cdf5e35f9e1e05274046121ab7ac2eb40476ab69f4a542fc73c251fc00bf244", func := "filigree/filigreelaw17.RuleOwns", spec := "ruleOwns", unfollowed := true, recurses := true, loops := true, apart := false, narrowed := true }
def RuleOwnsUptoSaid : Prop := ruleOwnsUptoRow.holds Tryz.pinned (OpenSpec.upto ruleOwnsSpec)

/-- 'filigreelaw17.RuleChecks', WHERE WHAT IT READS IS OF BULK AT MOST 1048576: true; the input reads as it did. -/
def ruleChecksUptoRow : OpenClaim := { program := "ytdmiekaeodcehaagreat", sum := "9cdf5e35f9e1e05274046121ab7ac2eb40476ab69f4a542fc73c251fc00bf244", func := "filigree/filigreelaw17.RuleChecks", spec := "ruleChecks", unfollowed := true, recurses := true, loops := true, apart := false, narrowed := true }
def RuleChecksUptoSaid : Prop := ruleChecksUptoRow.holds Tryz.pinned (OpenSpec.upto ruleChecksSpec)

/-- 'filigreelaw17.RuleOrders', WHERE WHAT IT READS IS OF BULK AT MOST 1048576: true; the input reads as it did. -/
def ruleOrdersUptoRow : OpenClaim := { program := "ytdmiekaeodcehaagreat", sum := "9cdf5e35f9e1e05274046121ab7ac2eb40476ab69f4a542fc73c251fc00bf244", func := "filigree/filigreelaw17.RuleOrders", spec := "ruleOrders", unfollowed := true, recurses := true, loops := true, apart := false, narrowed := true }
def RuleOrdersUptoSaid : Prop := ruleOrdersUptoRow.holds Tryz.pinned (OpenSpec.upto ruleOrdersSpec)

end Rows
end Go.Proofs.YtdmiekaeodcehaaGreat
