/-
  NARROWER THAN 'FOR EVERY INPUT', by the rows' own cells (each row's printed sentence says how): AuditChecks: loops · AuditSteps: loops · AuditChains: loops · AuditTrims: loops.
  DERIVED. THE GIVEN ROWS OF THIS SEAT. 4 by the template 'for every input the law returns true; each argument reads behind the call as it read before'; 0 by the template 'total and deterministic' (their statements: YtclihnccilkohaaGreatTotals.lean).
  GIVEN WITH THE SEED: the statements are not yours to turn. If you find one false, say at which input.
  Laid BY PROGRAM, IN A SANDBOX (cutbox-rows.mjs): the forced cells as the released guide's own fill.sh prints them over the translation e605c3e4ce070a9e… (all of the seat's roots in one cut). By AI agents, Wed Nov 11 2026. No macro, syntax, notation, axiom, sorry.
-/
import Derived.Test.YtclihnccilkohaaGreatChecked
import GoSem.Claim
import GoSem.ClaimJoined
import GoSem.ClaimMapViews
import Derived.JoinedTies
import Derived.KernelRfl
namespace Go.Proofs.YtclihnccilkohaaGreat
/- THE CELL 'sum', in the pinned program and in every row, IS THE sha256 OF THE DUMP (.gsa) THAT YtclihnccilkohaaGreatProg.lean LOADS. Nothing in Lean hashes anything: it is a label: what it is worth is what the hold of that sum in a sandbox is worth. -/
noncomputable def Tryz.pinned : Pinned := { name := "ytclihnccilkohaagreat", sum := "e605c3e4ce070a9e195021a960010388c34f87b3b1716d3950c1079d0e3ae2d4", checked := Tryz.checked }
namespace Rows
def none {H : Type} : Left H := { results := [], args := [] }

/-- 'filigreelaw27.AuditChecks': WHATEVER THE INPUT: true; the input reads as it did. -/
def auditChecksSpec : ChangeSpec := { name := "auditChecks", fn := fun _ => fun
  | [d1, d2, d3, d4] => { results := [.lit (.bool true)], args := [d1, d2, d3, d4] }
  | _ => none }
def auditChecksRow : OpenClaim := { program := "ytclihnccilkohaagreat", sum := "e605c3e4ce070a9e195021a960010388c34f87b3b1716d3950c1079d0e3ae2d4", func := "filigree/filigreelaw27.AuditChecks", spec := "auditChecks", inPlace := ["sync/atomic.StoreInt64", "sync/atomic.LoadUint32", "sync/atomic.LoadInt64", "sync/atomic.AddInt64", "sync/atomic.StoreUint32", "(*internal/sync.Mutex).Lock", "internal/race.Disable", "sync/atomic.CompareAndSwapInt32", "internal/race.Enable", "internal/race.Acquire", "(*internal/sync.Mutex).lockSlow", "internal/sync.runtime_canSpin", "internal/sync.runtime_doSpin", "internal/sync.throw", "internal/sync.runtime_nanotime", "internal/sync.runtime_SemacquireMutex", "sync/atomic.AddInt32", "(*internal/sync.Mutex).Unlock", "internal/race.ReleaseMerge", "(*internal/sync.Mutex).unlockSlow", "internal/sync.fatal", "internal/sync.runtime_Semrelease"], unfollowed := true, recurses := true, loops := true, apart := false }
def AuditChecksSaid : Prop := auditChecksRow.holds Tryz.pinned (OpenSpec.ofChange auditChecksSpec)

/-- ITS FALSE NEIGHBOUR: 'it returns false'. Refute it at one input. -/
def auditChecksWrong : ChangeSpec := { name := "auditChecks", fn := fun _ => fun
  | [d1, d2, d3, d4] => { results := [.lit (.bool false)], args := [d1, d2, d3, d4] }
  | _ => none }
def AuditChecksWrongFalsely : Prop := auditChecksRow.holds Tryz.pinned (OpenSpec.ofChange auditChecksWrong)

/-- 'filigreelaw27.AuditSteps': WHATEVER THE INPUT: true; the input reads as it did. -/
def auditStepsSpec : ChangeSpec := { name := "auditSteps", fn := fun _ => fun
  | [d1, d2, d3, d4] => { results := [.lit (.bool true)], args := [d1, d2, d3, d4] }
  | _ => none }
def auditStepsRow : OpenClaim := { program := "ytclihnccilkohaagreat", sum := "e605c3e4ce070a9e195021a960010388c34f87b3b1716d3950c1079d0e3ae2d4", func := "filigree/filigreelaw27.AuditSteps", spec := "auditSteps", inPlace := ["sync/atomic.StoreInt64", "sync/atomic.LoadUint32", "sync/atomic.LoadInt64", "sync/atomic.AddInt64", "sync/atomic.StoreUint32", "(*internal/sync.Mutex).Lock", "internal/race.Disable", "sync/atomic.CompareAndSwapInt32", "internal/race.Enable", "internal/race.Acquire", "(*internal/sync.Mutex).lockSlow", "internal/sync.runtime_canSpin", "internal/sync.runtime_doSpin", "internal/sync.throw", "internal/sync.runtime_nanotime", "internal/sync.runtime_SemacquireMutex", "sync/atomic.AddInt32", "(*internal/sync.Mutex).Unlock", "internal/race.ReleaseMerge", "(*internal/sync.Mutex).unlockSlow", "internal/sync.fatal", "internal/sync.runtime_Semrelease"], unfollowed := true, recurses := true, loops := true, apart := false }
def AuditStepsSaid : Prop := auditStepsRow.holds Tryz.pinned (OpenSpec.ofChange auditStepsSpec)

/-- ITS FALSE NEIGHBOUR: 'it returns false'. Refute it at one input. -/
def auditStepsWrong : ChangeSpec := { name := "auditSteps", fn := fun _ => fun
  | [d1, d2, d3, d4] => { results := [.lit (.bool false)], args := [d1, d2, d3, d4] }
  | _ => none }
def AuditStepsWrongFalsely : Prop := auditStepsRow.holds Tryz.pinned (OpenSpec.ofChange auditStepsWrong)

/-- 'filigreelaw27.AuditChains': WHATEVER THE INPUT: true; the input reads as it did. -/
def auditChainsSpec : ChangeSpec := { name := "auditChains", fn := fun _ => fun
  | [d1, d2, d3, d4] => { results := [.lit (.bool true)], args := [d1, d2, d3, d4] }
  | _ => none }
def auditChainsRow : OpenClaim := { program := "ytclihnccilkohaagreat", sum := "e605c3e4ce070a9e195021a960010388c34f87b3b1716d3950c1079d0e3ae2d4", func := "filigree/filigreelaw27.AuditChains", spec := "auditChains", inPlace := ["sync/atomic.StoreInt64", "sync/atomic.LoadUint32", "sync/atomic.LoadInt64", "sync/atomic.AddInt64", "sync/atomic.StoreUint32", "(*internal/sync.Mutex).Lock", "internal/race.Disable", "sync/atomic.CompareAndSwapInt32", "internal/race.Enable", "internal/race.Acquire", "(*internal/sync.Mutex).lockSlow", "internal/sync.runtime_canSpin", "internal/sync.runtime_doSpin", "internal/sync.throw", "internal/sync.runtime_nanotime", "internal/sync.runtime_SemacquireMutex", "sync/atomic.AddInt32", "(*internal/sync.Mutex).Unlock", "internal/race.ReleaseMerge", "(*internal/sync.Mutex).unlockSlow", "internal/sync.fatal", "internal/sync.runtime_Semrelease"], unfollowed := true, recurses := true, loops := true, apart := false }
def AuditChainsSaid : Prop := auditChainsRow.holds Tryz.pinned (OpenSpec.ofChange auditChainsSpec)

/-- ITS FALSE NEIGHBOUR: 'it returns false'. Refute it at one input. -/
def auditChainsWrong : ChangeSpec := { name := "auditChains", fn := fun _ => fun
  | [d1, d2, d3, d4] => { results := [.lit (.bool false)], args := [d1, d2, d3, d4] }
  | _ => none }
def AuditChainsWrongFalsely : Prop := auditChainsRow.holds Tryz.pinned (OpenSpec.ofChange auditChainsWrong)

/-- 'filigreelaw27.AuditTrims': WHATEVER THE INPUT: true; the input reads as it did. -/
def auditTrimsSpec : ChangeSpec := { name := "auditTrims", fn := fun _ => fun
  | [d1, d2, d3] => { results := [.lit (.bool true)], args := [d1, d2, d3] }
  | _ => none }
def auditTrimsRow : OpenClaim := { program := "ytclihnccilkohaagreat", sum := "e605c3e4ce070a9e195021a960010388c34f87b3b1716d3950c1079d0e3ae2d4", func := "filigree/filigreelaw27.AuditTrims", spec := "auditTrims", inPlace := ["sync/atomic.StoreInt64", "sync/atomic.LoadUint32", "sync/atomic.LoadInt64", "sync/atomic.AddInt64", "sync/atomic.StoreUint32", "(*internal/sync.Mutex).Lock", "internal/race.Disable", "sync/atomic.CompareAndSwapInt32", "internal/race.Enable", "internal/race.Acquire", "(*internal/sync.Mutex).lockSlow", "internal/sync.runtime_canSpin", "internal/sync.runtime_doSpin", "internal/sync.throw", "internal/sync.runtime_nanotime", "internal/sync.runtime_SemacquireMutex", "sync/atomic.AddInt32", "(*internal/sync.Mutex).Unlock", "internal/race.ReleaseMerge", "(*internal/sync.Mutex).unlockSlow", "internal/sync.fatal", "internal/sync.runtime_Semrelease"], unfollowed := true, recurses := true, loops := true, apart := false }
def AuditTrimsSaid : Prop := auditTrimsRow.holds Tryz.pinned (OpenSpec.ofChange auditTrimsSpec)

/-- ITS FALSE NEIGHBOUR: 'it returns false'. Refute it at one input. -/
def auditTrimsWrong : ChangeSpec := { name := "auditTrims", fn := fun _ => fun
  | [d1, d2, d3] => { results := [.lit (.bool false)], args := [d1, d2, d3] }
  | _ => none }
def AuditTrimsWrongFalsely : Prop := auditTrimsRow.holds Tryz.pinned (OpenSpec.ofChange auditTrimsWrong)

/- THE SECOND FORM. 'bulk': how many values and letters a reading holds, each counted each time it is reached (what is shared counts as often as it is met; a slice's spare places count too). A statement '..UptoSaid' is the law's where the arguments, and the package variables that the reading takes, are together of bulk at most 1048576: NARROWER than '..Said'. Prove '..Said' where nothing that the law and all that it calls make is longer than what came in: it says more and counts as full. Else prove '..UptoSaid'. A law counts once. -/
mutual
def uptoBulk {H : Type} : DataW H → Nat
  | .lit (.string bytes) => bytes.length + 1
  | .lit _ => 1
  | .nil => 1
  | .ptr d => uptoBulk d + 1
  | .slice elems spare => uptoBulkAll elems + uptoBulkAll spare + 1
  | .agg parts => uptoBulkAll parts + 1
  | .iface _ d => uptoBulk d + 1
  | .map entries => uptoBulkEntries entries + 1
  | .held _ => 1
def uptoBulkAll {H : Type} : List (DataW H) → Nat
  | [] => 0
  | d :: r => uptoBulk d + uptoBulkAll r
def uptoBulkEntries {H : Type} : List (Lit × DataW H) → Nat
  | [] => 0
  | x :: r => uptoBulkEntry x + uptoBulkEntries r
def uptoBulkEntry {H : Type} : Lit × DataW H → Nat
  | (.string bytes, d) => bytes.length + uptoBulk d + 1
  | (_, d) => uptoBulk d + 1
 end
def uptoSmall : (H : Type) → List (DataW H) → Bool := fun _ ds => decide (uptoBulkAll ds ≤ 1048576)
def OpenSpec.upto (s : _root_.Go.ChangeSpec) : _root_.Go.OpenSpec := { _root_.Go.OpenSpec.ofChange s with cond := some uptoSmall }

/-- 'filigreelaw27.AuditChecks', WHERE WHAT IT READS IS OF BULK AT MOST 1048576: true; the input reads as it did. -/
def auditChecksUptoRow : OpenClaim := { program := "ytclihnccilkohaagreat", sum := "e605c3e4ce070a9e195021a960010388c34f87b3b1716d3950c1079d0e3ae2d4", func := "filigree/filigreelaw27.AuditChecks", spec := "auditChecks", inPlace := ["sync/atomic.StoreInt64", "sync/atomic.LoadUint32", "sync/atomic.LoadInt64", "sync/atomic.AddInt64", "sync/atomic.StoreUint32", "(*internal/sync.Mutex).Lock", "internal/race.Disable", "sync/atomic.CompareAndSwapInt32", "internal/race.Enable", "internal/race.Acquire", "(*internal/sync.Mutex).lockSlow", "internal/sync.runtime_canSpin", "internal/sync.runtime_doSpin", "internal/sync.throw", "internal/sync.runtime_nanotime", "internal/sync.runtime_SemacquireMutex", "sync/atomic.AddInt32", "(*internal/sync.Mutex).Unlock", "internal/race.ReleaseMerge", "(*internal/sync.Mutex).unlockSlow", "internal/sync.fatal", "internal/sync.runtime_Semrelease"], unfollowed := true, recurses := true, loops := true, apart := false, narrowed := true }
def AuditChecksUptoSaid : Prop := auditChecksUptoRow.holds Tryz.pinned (OpenSpec.upto auditChecksSpec)

/-- 'filigreelaw27.AuditSteps', WHERE WHAT IT READS IS OF BULK AT MOST 1048576: true; the input reads as it did. -/
def auditStepsUptoRow : OpenClaim := { program := "ytclihnccilkohaagreat", sum := "e605c3e4ce070a9e195021a960010388c34f87b3b1716d3950c1079d0e3ae2d4", func := "filigree/filigreelaw27.AuditSteps", spec := "auditSteps", inPlace := ["sync/atomic.StoreInt64", "sync/atomic.LoadUint32", "sync/atomic.LoadInt64", "sync/atomic.AddInt64", "sync/atomic.StoreUint32", "(*internal/sync.Mutex).Lock", "internal/race.Disable", "sync/atomic.CompareAndSwapInt32", "internal/race.Enable", "internal/race.Acquire", "(*internal/sync.Mutex).lockSlow", "internal/sync.runtime_canSpin", "internal/sync.runtime_doSpin", "internal/sync.throw", "internal/sync.runtime_nanotime", "internal/sync.runtime_SemacquireMutex", "sync/atomic.AddInt32", "(*internal/sync.Mutex).Unlock", "internal/race.ReleaseMerge", "(*internal/sync.Mutex).unlockSlow", "internal/sync.fatal", "internal/sync.runtime_Semrelease"], unfollowed := true, recurses := true, loops := true, apart := false, narrowed := true }
def AuditStepsUptoSaid : Prop := auditStepsUptoRow.holds Tryz.pinned (OpenSpec.upto auditStepsSpec)

/-- 'filigreelaw27.AuditChains', WHERE WHAT IT READS IS OF BULK AT MOST 1048576: true; the input reads as it did. -/
def auditChainsUptoRow : OpenClaim := { program := "ytclihnccilkohaagreat", sum := "e605c3e4ce070a9e195021a960010388c34f87b3b1716d3950c1079d0e3ae2d4", func := "filigree/filigreelaw27.AuditChains", spec := "auditChains", inPlace := ["sync/atomic.StoreInt64", "sync/atomic.LoadUint32", "sync/atomic.LoadInt64", "sync/atomic.AddInt64", "sync/atomic.StoreUint32", "(*internal/sync.Mutex).Lock", "internal/race.Disable", "sync/atomic.CompareAndSwapInt32", "internal/race.Enable", "internal/race.Acquire", "(*internal/sync.Mutex).lockSlow", "internal/sync.runtime_canSpin", "internal/sync.runtime_doSpin", "internal/sync.throw", "internal/sync.runtime_nanotime", "internal/sync.runtime_SemacquireMutex", "sync/atomic.AddInt32", "(*internal/sync.Mutex).Unlock", "internal/race.ReleaseMerge", "(*internal/sync.Mutex).unlockSlow", "internal/sync.fatal", "internal/sync.runtime_Semrelease"], unfollowed := true, recurses := true, loops := true, apart := false, narrowed := true }
def AuditChainsUptoSaid : Prop := auditChainsUptoRow.holds Tryz.pinned (OpenSpec.upto auditChainsSpec)

/-- 'filigreelaw27.AuditTrims', WHERE WHAT IT READS IS OF BULK AT MOST 1048576: true; the input reads as it did. -/
def auditTrimsUptoRow : OpenClaim := { program := "ytclihnccilkohaagreat", sum := "e605c3e4ce070a9e195021a960010388c34f87b3b1716d3950c1079d0e3ae2d4", func := "filigree/filigreelaw27.AuditTrims", spec := "auditTrims", inPlace := ["sync/atomic.StoreInt64", "sync/atomic.LoadUint32", "sync/atomic.LoadInt64", "sync/atomic.AddInt64", "sync/atomic.StoreUint32", "(*internal/sync.Mutex).Lock", "internal/race.Disable", "sync/atomic.CompareAndSwapInt32", "internal/race.Enable", "internal/race.Acquire", "(*internal/sync.Mutex).lockSlow", "internal/sync.runtime_canSpin", "internal/sync.runtime_doSpin", "internal/sync.throw", "internal/sync.runtime_nanotime", "internal/sync.runtime_SemacquireMutex", "sync/atomic.AddInt32", "(*internal/sync.Mutex).Unlock", "internal/race.ReleaseMerge", "(*internal/sync.Mutex).unlockSlow", "internal/sync.fatal", "internal/sync.runtime_Semrelease"], unfollowed := true, recurses := true, loops := true, apart := false, narrowed := true }
def AuditTrimsUptoSaid : Prop := auditTrimsUptoRow.holds Tryz.pinned (OpenSpec.upto auditTrimsSpec)

end Rows
end Go.Proofs.YtclihnccilkohaaGreat
