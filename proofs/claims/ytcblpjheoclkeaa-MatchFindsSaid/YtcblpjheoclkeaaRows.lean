/-
  NARROWER THAN 'FOR EVERY INPUT', by the rows' own cells (each row's printed sentence says how): SubstRenames: loops · MatchFinds: loops · LiftAparts: loops.
  DERIVED. THE GIVEN ROWS OF THIS SEAT. 3 by the template 'for every input the law returns true; each argument reads behind the call as it read before'; 0 by the template 'total and deterministic' (their statements: YtcblpjheoclkeaaTotals.lean).
  GIVEN WITH THE SEED: the statements are not yours to turn. If you find one false, say at which input.
  Laid BY PROGRAM, IN A SANDBOX (cutbox-rows.mjs): the forced cells as the released guide's own fill.sh prints them over the translation 516d9ad9dd3f39ad… (all of the seat's roots in one cut). By AI agents, Wed Nov 11 2026. No macro, syntax, notation, axiom, sorry.
-/
import Derived.Test.YtcblpjheoclkeaaChecked
import GoSem.Claim
import GoSem.ClaimJoined
import GoSem.ClaimMapViews
import Derived.JoinedTies
import Derived.KernelRfl
namespace Go.Proofs.Ytcblpjheoclkeaa
/- THE CELL 'sum', in the pinned program and in every row, IS THE sha256 OF THE DUMP (.gsa) THAT YtcblpjheoclkeaaProg.lean LOADS. Nothing in Lean hashes anything: it is a label: what it is worth is what the hold of that sum in a sandbox is worth. -/
noncomputable def Try.pinned : Pinned := { name := "ytcblpjheoclkeaa", sum := "516d9ad9dd3f39ad10cce1b1aa1bbd545b0c2cfae4d1af948f96b26db28cbb4e", checked := Try.checked }
namespace Rows
def none {H : Type} : Left H := { results := [], args := [] }

/-- 'filigreelaw09.SubstRenames': WHATEVER THE INPUT: true; the input reads as it did. -/
def substRenamesSpec : ChangeSpec := { name := "substRenames", fn := fun _ => fun
  | [d1, d2] => { results := [.lit (.bool true)], args := [d1, d2] }
  | _ => none }
def substRenamesRow : OpenClaim := { program := "ytcblpjheoclkeaa", sum := "516d9ad9dd3f39ad10cce1b1aa1bbd545b0c2cfae4d1af948f96b26db28cbb4e", func := "filigree/filigreelaw09.SubstRenames", spec := "substRenames", inPlace := ["sync/atomic.StoreInt64", "sync/atomic.LoadUint32", "sync/atomic.LoadInt64", "sync/atomic.AddInt64", "sync/atomic.StoreUint32", "(*internal/sync.Mutex).Lock", "internal/race.Disable", "sync/atomic.CompareAndSwapInt32", "internal/race.Enable", "internal/race.Acquire", "(*internal/sync.Mutex).lockSlow", "internal/sync.runtime_canSpin", "internal/sync.runtime_doSpin", "internal/sync.throw", "internal/sync.runtime_nanotime", "internal/sync.runtime_SemacquireMutex", "sync/atomic.AddInt32", "(*internal/sync.Mutex).Unlock", "internal/race.ReleaseMerge", "(*internal/sync.Mutex).unlockSlow", "internal/sync.fatal", "internal/sync.runtime_Semrelease"], unfollowed := true, recurses := true, loops := true, apart := false }
def SubstRenamesSaid : Prop := substRenamesRow.holds Try.pinned (OpenSpec.ofChange substRenamesSpec)

/-- ITS FALSE NEIGHBOUR: 'it returns false'. Refute it at one input. -/
def substRenamesWrong : ChangeSpec := { name := "substRenames", fn := fun _ => fun
  | [d1, d2] => { results := [.lit (.bool false)], args := [d1, d2] }
  | _ => none }
def SubstRenamesWrongFalsely : Prop := substRenamesRow.holds Try.pinned (OpenSpec.ofChange substRenamesWrong)

/-- 'filigreelaw12.MatchFinds': WHATEVER THE INPUT: true; the input reads as it did. -/
def matchFindsSpec : ChangeSpec := { name := "matchFinds", fn := fun _ => fun
  | [d1, d2] => { results := [.lit (.bool true)], args := [d1, d2] }
  | _ => none }
def matchFindsRow : OpenClaim := { program := "ytcblpjheoclkeaa", sum := "516d9ad9dd3f39ad10cce1b1aa1bbd545b0c2cfae4d1af948f96b26db28cbb4e", func := "filigree/filigreelaw12.MatchFinds", spec := "matchFinds", unfollowed := true, recurses := true, loops := true, apart := false }
def MatchFindsSaid : Prop := matchFindsRow.holds Try.pinned (OpenSpec.ofChange matchFindsSpec)

/-- ITS FALSE NEIGHBOUR: 'it returns false'. Refute it at one input. -/
def matchFindsWrong : ChangeSpec := { name := "matchFinds", fn := fun _ => fun
  | [d1, d2] => { results := [.lit (.bool false)], args := [d1, d2] }
  | _ => none }
def MatchFindsWrongFalsely : Prop := matchFindsRow.holds Try.pinned (OpenSpec.ofChange matchFindsWrong)

/-- 'filigreelaw22.LiftAparts': WHATEVER THE INPUT: true; the input reads as it did. -/
def liftApartsSpec : ChangeSpec := { name := "liftAparts", fn := fun _ => fun
  | [d1, d2, d3] => { results := [.lit (.bool true)], args := [d1, d2, d3] }
  | _ => none }
def liftApartsRow : OpenClaim := { program := "ytcblpjheoclkeaa", sum := "516d9ad9dd3f39ad10cce1b1aa1bbd545b0c2cfae4d1af948f96b26db28cbb4e", func := "filigree/filigreelaw22.LiftAparts", spec := "liftAparts", unfollowed := true, recurses := true, loops := true, apart := false }
def LiftApartsSaid : Prop := liftApartsRow.holds Try.pinned (OpenSpec.ofChange liftApartsSpec)

/-- ITS FALSE NEIGHBOUR: 'it returns false'. Refute it at one input. -/
def liftApartsWrong : ChangeSpec := { name := "liftAparts", fn := fun _ => fun
  | [d1, d2, d3] => { results := [.lit (.bool false)], args := [d1, d2, d3] }
  | _ => none }
def LiftApartsWrongFalsely : Prop := liftApartsRow.holds Try.pinned (OpenSpec.ofChange liftApartsWrong)

/- THE SECOND FORM. 'bulk': how many values and letters a reading holds, each counted each time it is reached (what is shared counts as often as it is met; a slice's spare places count too). A statement '..UptoSaid' is the law's where the arguments, and the package variables that the reading takes, are together of bulk at most 1048576: NARROWER than '..Said'. Prove '..Said' where nothing that the law and all that it calls make is longer than what came in: it says more and counts as full. Else prove '..UptoSaid'. A law counts once. -/
mutual
def uptoBulk {H : Type} : DataW H → Nat
  | .lit (.string bytes) => bytes.length + 1
  | .lit _ => 1
  | .nil => 1
  | .ptr d => uptoBulk d + 1
  | .slice elems spare => uptoBulkAll elems + uptoBulkAll spare + 1
  | .agg parts => uptoBulkAll parts + 1
  | .iface _ d => uptoBulk d + 1
  | .map entries => uptoBulkEntries entries + 1
  | .held _ => 1
def uptoBulkAll {H : Type} : List (DataW H) → Nat
  | [] => 0
  | d :: r => uptoBulk d + uptoBulkAll r
def uptoBulkEntries {H : Type} : List (Lit × DataW H) → Nat
  | [] => 0
  | x :: r => uptoBulkEntry x + uptoBulkEntries r
def uptoBulkEntry {H : Type} : Lit × DataW H → Nat
  | (.string bytes, d) => bytes.length + uptoBulk d + 1
  | (_, d) => uptoBulk d + 1
 end
def uptoSmall : (H : Type) → List (DataW H) → Bool := fun _ ds => decide (uptoBulkAll ds ≤ 1048576)
def OpenSpec.upto (s : _root_.Go.ChangeSpec) : _root_.Go.OpenSpec := { _root_.Go.OpenSpec.ofChange s with cond := some uptoSmall }

/-- 'filigreelaw09.SubstRenames', WHERE WHAT IT READS IS OF BULK AT MOST 1048576: true; the input reads as it did. -/
def substRenamesUptoRow : OpenClaim := { program := "ytcblpjheoclkeaa", sum := "516d9ad9dd3f39ad10cce1b1aa1bbd545b0c2cfae4d1af948f96b26db28cbb4e", func := "filigree/filigreelaw09.SubstRenames", spec := "substRenames", inPlace := ["sync/atomic.StoreInt64", "sync/atomic.LoadUint32", "sync/atomic.LoadInt64", "sync/atomic.AddInt64", "sync/atomic.StoreUint32", "(*internal/sync.Mutex).Lock", "internal/race.Disable", "sync/atomic.CompareAndSwapInt32", "internal/race.Enable", "internal/race.Acquire", "(*internal/sync.Mutex).lockSlow", "internal/sync.runtime_canSpin", "internal/sync.runtime_doSpin", "internal/sync.throw", "internal/sync.runtime_nanotime", "internal/sync.runtime_SemacquireMutex", "sync/atomic.AddInt32", "(*internal/sync.Mutex).Unlock", "internal/race.ReleaseMerge", "(*internal/sync.Mutex).unlockSlow", "internal/sync.fatal", "internal/sync.runtime_Semrelease"], unfollowed := true, recurses := true, loops := true, apart := false, narrowed := true }
def SubstRenamesUptoSaid : Prop := substRenamesUptoRow.holds Try.pinned (OpenSpec.upto substRenamesSpec)

/-- 'filigreelaw12.MatchFinds', WHERE WHAT IT READS IS OF BULK AT MOST 1048576: true; the input reads as it did. -/
def matchFindsUptoRow : OpenClaim := { program := "ytcblpjheoclkeaa", sum := "516d9ad9dd3f39ad10cce1b1aa1bbd545b0c2cfae4d1af948f96b26db28cbb4e", func := "filigree/filigreelaw12.MatchFinds", spec := "matchFinds", unfollowed := true, recurses := true, loops := true, apart := false, narrowed := true }
def MatchFindsUptoSaid : Prop := matchFindsUptoRow.holds Try.pinned (OpenSpec.upto matchFindsSpec)

/-- 'filigreelaw22.LiftAparts', WHERE WHAT IT READS IS OF BULK AT MOST 1048576: true; the input reads as it did. -/
def liftApartsUptoRow : OpenClaim := { program := "ytcblpjheoclkeaa", sum := "516d9ad9dd3f39ad10cce1b1aa1bbd545b0c2cfae4d1af948f96b26db28cbb4e", func := "filigree/filigreelaw22.LiftAparts", spec := "liftAparts", unfollowed := true, recurses := true, loops := true, apart := false, narrowed := true }
def LiftApartsUptoSaid : Prop := liftApartsUptoRow.holds Try.pinned (OpenSpec.upto liftApartsSpec)

end Rows
end Go.Proofs.Ytcblpjheoclkeaa
