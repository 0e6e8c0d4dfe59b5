/-
  NARROWER THAN 'FOR EVERY INPUT', by the rows' own cells (each row's printed sentence says how): MatchSound: loops · SubstKeeps: loops · MatchBack: loops · RuleKeeps: loops · LiftImages: loops.
  DERIVED. THE GIVEN ROWS OF THIS SEAT. 5 by the template 'for every input the law returns true; each argument reads behind the call as it read before'; 0 by the template 'total and deterministic' (their statements: YtflbnonbfmmchaaGreatTotals.lean).
  GIVEN WITH THE SEED: the statements are not yours to turn. If you find one false, say at which input.
  Laid BY PROGRAM, IN A SANDBOX (cutbox-rows.mjs): the forced cells as the released guide's own fill.sh prints them over the translation 03257d5b5552e75d… (all of the seat's roots in one cut). By AI agents, Wed Nov 11 2026. No macro, syntax, notation, axiom, sorry.
-/
import Derived.Test.YtflbnonbfmmchaaGreatChecked
import GoSem.Claim
import GoSem.ClaimJoined
import GoSem.ClaimMapViews
import Derived.JoinedTies
import Derived.KernelRfl
namespace Go.Proofs.YtflbnonbfmmchaaGreat
/- THE CELL 'sum', in the pinned program and in every row, IS THE sha256 OF THE DUMP (.gsa) THAT YtflbnonbfmmchaaGreatProg.lean LOADS. Nothing in Lean hashes anything: it is a label: what it is worth is what the hold of that sum in a sandbox is worth. -/
noncomputable def Tryz.pinned : Pinned := { name := "ytflbnonbfmmchaagreat", sum := "03257d5b5552e75d3ecf829efef893f4af08774769a0c1651a0c6d25e1a86ef1", checked := Tryz.checked }
namespace Rows
def none {H : Type} : Left H := { results := [], args := [] }

/-- 'filigreelaw12.MatchSound': WHATEVER THE INPUT: true; the input reads as it did. -/
def matchSoundSpec : ChangeSpec := { name := "matchSound", fn := fun _ => fun
  | [d1, d2, d3, d4] => { results := [.lit (.bool true)], args := [d1, d2, d3, d4] }
  | _ => none }
def matchSoundRow : OpenClaim := { program := "ytflbnonbfmmchaagreat", sum := "03257d5b5552e75d3ecf829efef893f4af08774769a0c1651a0c6d25e1a86ef1", func := "filigree/filigreelaw12.MatchSound", spec := "matchSound", inPlace := ["sync/atomic.StoreInt64", "sync/atomic.LoadUint32", "sync/atomic.LoadInt64", "sync/atomic.AddInt64", "sync/atomic.StoreUint32", "(*internal/sync.Mutex).Lock", "internal/race.Disable", "sync/atomic.CompareAndSwapInt32", "internal/race.Enable", "internal/race.Acquire", "(*internal/sync.Mutex).lockSlow", "internal/sync.runtime_canSpin", "internal/sync.runtime_doSpin", "internal/sync.throw", "internal/sync.runtime_nanotime", "internal/sync.runtime_SemacquireMutex", "sync/atomic.AddInt32", "(*internal/sync.Mutex).Unlock", "internal/race.ReleaseMerge", "(*internal/sync.Mutex).unlockSlow", "internal/sync.fatal", "internal/sync.runtime_Semrelease"], unfollowed := true, recurses := true, loops := true, apart := false }
def MatchSoundSaid : Prop := matchSoundRow.holds Tryz.pinned (OpenSpec.ofChange matchSoundSpec)

/-- ITS FALSE NEIGHBOUR: 'it returns false'. Refute it at one input. -/
def matchSoundWrong : ChangeSpec := { name := "matchSound", fn := fun _ => fun
  | [d1, d2, d3, d4] => { results := [.lit (.bool false)], args := [d1, d2, d3, d4] }
  | _ => none }
def MatchSoundWrongFalsely : Prop := matchSoundRow.holds Tryz.pinned (OpenSpec.ofChange matchSoundWrong)

/-- 'filigreelaw09.SubstKeeps': WHATEVER THE INPUT: true; the input reads as it did. -/
def substKeepsSpec : ChangeSpec := { name := "substKeeps", fn := fun _ => fun
  | [d1, d2, d3, d4] => { results := [.lit (.bool true)], args := [d1, d2, d3, d4] }
  | _ => none }
def substKeepsRow : OpenClaim := { program := "ytflbnonbfmmchaagreat", sum := "03257d5b5552e75d3ecf829efef893f4af08774769a0c1651a0c6d25e1a86ef1", func := "filigree/filigreelaw09.SubstKeeps", spec := "substKeeps", inPlace := ["sync/atomic.StoreInt64", "sync/atomic.LoadUint32", "sync/atomic.LoadInt64", "sync/atomic.AddInt64", "sync/atomic.StoreUint32", "(*internal/sync.Mutex).Lock", "internal/race.Disable", "sync/atomic.CompareAndSwapInt32", "internal/race.Enable", "internal/race.Acquire", "(*internal/sync.Mutex).lockSlow", "internal/sync.runtime_canSpin", "internal/sync.runtime_doSpin", "internal/sync.throw", "internal/sync.runtime_nanotime", "internal/sync.runtime_SemacquireMutex", "sync/atomic.AddInt32", "(*internal/sync.Mutex).Unlock", "internal/race.ReleaseMerge", "(*internal/sync.Mutex).unlockSlow", "internal/sync.fatal", "internal/sync.runtime_Semrelease"], unfollowed := true, recurses := true, loops := true, apart := false }
def SubstKeepsSaid : Prop := substKeepsRow.holds Tryz.pinned (OpenSpec.ofChange substKeepsSpec)

/-- ITS FALSE NEIGHBOUR: 'it returns false'. Refute it at one input. -/
def substKeepsWrong : ChangeSpec := { name := "substKeeps", fn := fun _ => fun
  | [d1, d2, d3, d4] => { results := [.lit (.bool false)], args := [d1, d2, d3, d4] }
  | _ => none }
def SubstKeepsWrongFalsely : Prop := substKeepsRow.holds Tryz.pinned (OpenSpec.ofChange substKeepsWrong)

/-- 'filigreelaw12.MatchBack': WHATEVER THE INPUT: true; the input reads as it did. -/
def matchBackSpec : ChangeSpec := { name := "matchBack", fn := fun _ => fun
  | [d1, d2, d3] => { results := [.lit (.bool true)], args := [d1, d2, d3] }
  | _ => none }
def matchBackRow : OpenClaim := { program := "ytflbnonbfmmchaagreat", sum := "03257d5b5552e75d3ecf829efef893f4af08774769a0c1651a0c6d25e1a86ef1", func := "filigree/filigreelaw12.MatchBack", spec := "matchBack", inPlace := ["sync/atomic.StoreInt64", "sync/atomic.LoadUint32", "sync/atomic.LoadInt64", "sync/atomic.AddInt64", "sync/atomic.StoreUint32", "(*internal/sync.Mutex).Lock", "internal/race.Disable", "sync/atomic.CompareAndSwapInt32", "internal/race.Enable", "internal/race.Acquire", "(*internal/sync.Mutex).lockSlow", "internal/sync.runtime_canSpin", "internal/sync.runtime_doSpin", "internal/sync.throw", "internal/sync.runtime_nanotime", "internal/sync.runtime_SemacquireMutex", "sync/atomic.AddInt32", "(*internal/sync.Mutex).Unlock", "internal/race.ReleaseMerge", "(*internal/sync.Mutex).unlockSlow", "internal/sync.fatal", "internal/sync.runtime_Semrelease"], unfollowed := true, recurses := true, loops := true, apart := false }
def MatchBackSaid : Prop := matchBackRow.holds Tryz.pinned (OpenSpec.ofChange matchBackSpec)

/-- ITS FALSE NEIGHBOUR: 'it returns false'. Refute it at one input. -/
def matchBackWrong : ChangeSpec := { name := "matchBack", fn := fun _ => fun
  | [d1, d2, d3] => { results := [.lit (.bool false)], args := [d1, d2, d3] }
  | _ => none }
def MatchBackWrongFalsely : Prop := matchBackRow.holds Tryz.pinned (OpenSpec.ofChange matchBackWrong)

/-- 'filigreelaw17.RuleKeeps': WHATEVER THE INPUT: true; the input reads as it did. -/
def ruleKeepsSpec : ChangeSpec := { name := "ruleKeeps", fn := fun _ => fun
  | [d1, d2, d3] => { results := [.lit (.bool true)], args := [d1, d2, d3] }
  | _ => none }
def ruleKeepsRow : OpenClaim := { program := "ytflbnonbfmmchaagreat", sum := "03257d5b5552e75d3ecf829efef893f4af08774769a0c1651a0c6d25e1a86ef1", func := "filigree/filigreelaw17.RuleKeeps", spec := "ruleKeeps", inPlace := ["sync/atomic.StoreInt64", "sync/atomic.LoadUint32", "sync/atomic.LoadInt64", "sync/atomic.AddInt64", "sync/atomic.StoreUint32", "(*internal/sync.Mutex).Lock", "internal/race.Disable", "sync/atomic.CompareAndSwapInt32", "internal/race.Enable", "internal/race.Acquire", "(*internal/sync.Mutex).lockSlow", "internal/sync.runtime_canSpin", "internal/sync.runtime_doSpin", "internal/sync.throw", "internal/sync.runtime_nanotime", "internal/sync.runtime_SemacquireMutex", "sync/atomic.AddInt32", "(*internal/sync.Mutex).Unlock", "internal/race.ReleaseMerge", "(*internal/sync.Mutex).unlockSlow", "internal/sync.fatal", "internal/sync.runtime_Semrelease"], unfollowed := true, recurses := true, loops := true, apart := false }
def RuleKeepsSaid : Prop := ruleKeepsRow.holds Tryz.pinned (OpenSpec.ofChange ruleKeepsSpec)

/-- ITS FALSE NEIGHBOUR: 'it returns false'. Refute it at one input. -/
def ruleKeepsWrong : ChangeSpec := { name := "ruleKeeps", fn := fun _ => fun
  | [d1, d2, d3] => { results := [.lit (.bool false)], args := [d1, d2, d3] }
  | _ => none }
def RuleKeepsWrongFalsely : Prop := ruleKeepsRow.holds Tryz.pinned (OpenSpec.ofChange ruleKeepsWrong)

/-- 'filigreelaw22.LiftImages': WHATEVER THE INPUT: true; the input reads as it did. -/
def liftImagesSpec : ChangeSpec := { name := "liftImages", fn := fun _ => fun
  | [d1, d2, d3, d4] => { results := [.lit (.bool true)], args := [d1, d2, d3, d4] }
  | _ => none }
def liftImagesRow : OpenClaim := { program := "ytflbnonbfmmchaagreat", sum := "03257d5b5552e75d3ecf829efef893f4af08774769a0c1651a0c6d25e1a86ef1", func := "filigree/filigreelaw22.LiftImages", spec := "liftImages", inPlace := ["sync/atomic.StoreInt64", "sync/atomic.LoadUint32", "sync/atomic.LoadInt64", "sync/atomic.AddInt64", "sync/atomic.StoreUint32", "(*internal/sync.Mutex).Lock", "internal/race.Disable", "sync/atomic.CompareAndSwapInt32", "internal/race.Enable", "internal/race.Acquire", "(*internal/sync.Mutex).lockSlow", "internal/sync.runtime_canSpin", "internal/sync.runtime_doSpin", "internal/sync.throw", "internal/sync.runtime_nanotime", "internal/sync.runtime_SemacquireMutex", "sync/atomic.AddInt32", "(*internal/sync.Mutex).Unlock", "internal/race.ReleaseMerge", "(*internal/sync.Mutex).unlockSlow", "internal/sync.fatal", "internal/sync.runtime_Semrelease"], unfollowed := true, recurses := true, loops := true, apart := false }
def LiftImagesSaid : Prop := liftImagesRow.holds Tryz.pinned (OpenSpec.ofChange liftImagesSpec)

/-- ITS FALSE NEIGHBOUR: 'it returns false'. Refute it at one input. -/
def liftImagesWrong : ChangeSpec := { name := "liftImages", fn := fun _ => fun
  | [d1, d2, d3, d4] => { results := [.lit (.bool false)], args := [d1, d2, d3, d4] }
  | _ => none }
def LiftImagesWrongFalsely : Prop := liftImagesRow.holds Tryz.pinned (OpenSpec.ofChange liftImagesWrong)

/- THE SECOND FORM. 'bulk': how many values and letters a reading holds, each counted each time it is reached (what is shared counts as often as it is met; a slice's spare places count too). A statement '..UptoSaid' is the law's where the arguments, and the package variables that the reading takes, are together of bulk at most 1048576: NARROWER than '..Said'. Prove '..Said' where nothing that the law and all that it calls make is longer than what came in: it says more and counts as full. Else prove '..UptoSaid'. A law counts once. -/
mutual
def uptoBulk {H : Type} : DataW H → Nat
  | .lit (.string bytes) => bytes.length + 1
  | .lit _ => 1
  | .nil => 1
  | .ptr d => uptoBulk d + 1
  | .slice elems spare => uptoBulkAll elems + uptoBulkAll spare + 1
  | .agg parts => uptoBulkAll parts + 1
  | .iface _ d => uptoBulk d + 1
  | .map entries => uptoBulkEntries entries + 1
  | .held _ => 1
def uptoBulkAll {H : Type} : List (DataW H) → Nat
  | [] => 0
  | d :: r => uptoBulk d + uptoBulkAll r
def uptoBulkEntries {H : Type} : List (Lit × DataW H) → Nat
  | [] => 0
  | x :: r => uptoBulkEntry x + uptoBulkEntries r
def uptoBulkEntry {H : Type} : Lit × DataW H → Nat
  | (.string bytes, d) => bytes.length + uptoBulk d + 1
  | (_, d) => uptoBulk d + 1
 end
def uptoSmall : (H : Type) → List (DataW H) → Bool := fun _ ds => decide (uptoBulkAll ds ≤ 1048576)
def OpenSpec.upto (s : _root_.Go.ChangeSpec) : _root_.Go.OpenSpec := { _root_.Go.OpenSpec.ofChange s with cond := some uptoSmall }

/-- 'filigreelaw12.MatchSound', WHERE WHAT IT READS IS OF BULK AT MOST 1048576: true; the input reads as it did. -/
def matchSoundUptoRow : OpenClaim := { program := "ytflbnonbfmmchaagreat", sum := "03257d5b5552e75d3ecf829efef893f4af08774769a0c1651a0c6d25e1a86ef1", func := "filigree/filigreelaw12.MatchSound", spec := "matchSound", inPlace := ["sync/atomic.StoreInt64", "sync/atomic.LoadUint32", "sync/atomic.LoadInt64", "sync/atomic.AddInt64", "sync/atomic.StoreUint32", "(*internal/sync.Mutex).Lock", "internal/race.Disable", "sync/atomic.CompareAndSwapInt32", "internal/race.Enable", "internal/race.Acquire", "(*internal/sync.Mutex).lockSlow", "internal/sync.runtime_canSpin", "internal/sync.runtime_doSpin", "internal/sync.throw", "internal/sync.runtime_nanotime", "internal/sync.runtime_SemacquireMutex", "sync/atomic.AddInt32", "(*internal/sync.Mutex).Unlock", "internal/race.ReleaseMerge", "(*internal/sync.Mutex).unlockSlow", "internal/sync.fatal", "internal/sync.runtime_Semrelease"], unfollowed := true, recurses := true, loops := true, apart := false, narrowed := true }
def MatchSoundUptoSaid : Prop := matchSoundUptoRow.holds Tryz.pinned (OpenSpec.upto matchSoundSpec)

/-- 'filigreelaw09.SubstKeeps', WHERE WHAT IT READS IS OF BULK AT MOST 1048576: true; the input reads as it did. -/
def substKeepsUptoRow : OpenClaim := { program := "ytflbnonbfmmchaagreat", sum := "03257d5b5552e75d3ecf829efef893f4af08774769a0c1651a0c6d25e1a86ef1", func := "filigree/filigreelaw09.SubstKeeps", spec := "substKeeps", inPlace := ["sync/atomic.StoreInt64", "sync/atomic.LoadUint32", "sync/atomic.LoadInt64", "sync/atomic.AddInt64", "sync/atomic.StoreUint32", "(*internal/sync.Mutex).Lock", "internal/race.Disable", "sync/atomic.CompareAndSwapInt32", "internal/race.Enable", "internal/race.Acquire", "(*internal/sync.Mutex).lockSlow", "internal/sync.runtime_canSpin", "internal/sync.runtime_doSpin", "internal/sync.throw", "internal/sync.runtime_nanotime", "internal/sync.runtime_SemacquireMutex", "sync/atomic.AddInt32", "(*internal/sync.Mutex).Unlock", "internal/race.ReleaseMerge", "(*internal/sync.Mutex).unlockSlow", "internal/sync.fatal", "internal/sync.runtime_Semrelease"], unfollowed := true, recurses := true, loops := true, apart := false, narrowed := true }
def SubstKeepsUptoSaid : Prop := substKeepsUptoRow.holds Tryz.pinned (OpenSpec.upto substKeepsSpec)

/-- 'filigreelaw12.MatchBack', WHERE WHAT IT READS IS OF BULK AT MOST 1048576: true; the input reads as it did. -/
def matchBackUptoRow : OpenClaim := { program := "ytflbnonbfmmchaagreat", sum := "03257d5b5552e75d3ecf829efef893f4af08774769a0c1651a0c6d25e1a86ef1", func := "filigree/filigreelaw12.MatchBack", spec := "matchBack", inPlace := ["sync/atomic.StoreInt64", "sync/atomic.LoadUint32", "sync/atomic.LoadInt64", "sync/atomic.AddInt64", "sync/atomic.StoreUint32", "(*internal/sync.Mutex).Lock", "internal/race.Disable", "sync/atomic.CompareAndSwapInt32", "internal/race.Enable", "internal/race.Acquire", "(*internal/sync.Mutex).lockSlow", "internal/sync.runtime_canSpin", "internal/sync.runtime_doSpin", "internal/sync.throw", "internal/sync.runtime_nanotime", "internal/sync.runtime_SemacquireMutex", "sync/atomic.AddInt32", "(*internal/sync.Mutex).Unlock", "internal/race.ReleaseMerge", "(*internal/sync.Mutex).unlockSlow", "internal/sync.fatal", "internal/sync.runtime_Semrelease"], unfollowed := true, recurses := true, loops := true, apart := false, narrowed := true }
def MatchBackUptoSaid : Prop := matchBackUptoRow.holds Tryz.pinned (OpenSpec.upto matchBackSpec)

/-- 'filigreelaw17.RuleKeeps', WHERE WHAT IT READS IS OF BULK AT MOST 1048576: true; the input reads as it did. -/
def ruleKeepsUptoRow : OpenClaim := { program := "ytflbnonbfmmchaagreat", sum := "03257d5b5552e75d3ecf829efef893f4af08774769a0c1651a0c6d25e1a86ef1", func := "filigree/filigreelaw17.RuleKeeps", spec := "ruleKeeps", inPlace := ["sync/atomic.StoreInt64", "sync/atomic.LoadUint32", "sync/atomic.LoadInt64", "sync/atomic.AddInt64", "sync/atomic.StoreUint32", "(*internal/sync.Mutex).Lock", "internal/race.Disable", "sync/atomic.CompareAndSwapInt32", "internal/race.Enable", "internal/race.Acquire", "(*internal/sync.Mutex).lockSlow", "internal/sync.runtime_canSpin", "internal/sync.runtime_doSpin", "internal/sync.throw", "internal/sync.runtime_nanotime", "internal/sync.runtime_SemacquireMutex", "sync/atomic.AddInt32", "(*internal/sync.Mutex).Unlock", "internal/race.ReleaseMerge", "(*internal/sync.Mutex).unlockSlow", "internal/sync.fatal", "internal/sync.runtime_Semrelease"], unfollowed := true, recurses := true, loops := true, apart := false, narrowed := true }
def RuleKeepsUptoSaid : Prop := ruleKeepsUptoRow.holds Tryz.pinned (OpenSpec.upto ruleKeepsSpec)

/-- 'filigreelaw22.LiftImages', WHERE WHAT IT READS IS OF BULK AT MOST 1048576: true; the input reads as it did. -/
def liftImagesUptoRow : OpenClaim := { program := "ytflbnonbfmmchaagreat", sum := "03257d5b5552e75d3ecf829efef893f4af08774769a0c1651a0c6d25e1a86ef1", func := "filigree/filigreelaw22.LiftImages", spec := "liftImages", inPlace := ["sync/atomic.StoreInt64", "sync/atomic.LoadUint32", "sync/atomic.LoadInt64", "sync/atomic.AddInt64", "sync/atomic.StoreUint32", "(*internal/sync.Mutex).Lock", "internal/race.Disable", "sync/atomic.CompareAndSwapInt32", "internal/race.Enable", "internal/race.Acquire", "(*internal/sync.Mutex).lockSlow", "internal/sync.runtime_canSpin", "internal/sync.runtime_doSpin", "internal/sync.throw", "internal/sync.runtime_nanotime", "internal/sync.runtime_SemacquireMutex", "sync/atomic.AddInt32", "(*internal/sync.Mutex).Unlock", "internal/race.ReleaseMerge", "(*internal/sync.Mutex).unlockSlow", "internal/sync.fatal", "internal/sync.runtime_Semrelease"], unfollowed := true, recurses := true, loops := true, apart := false, narrowed := true }
def LiftImagesUptoSaid : Prop := liftImagesUptoRow.holds Tryz.pinned (OpenSpec.upto liftImagesSpec)

end Rows
end Go.Proofs.YtflbnonbfmmchaaGreat
