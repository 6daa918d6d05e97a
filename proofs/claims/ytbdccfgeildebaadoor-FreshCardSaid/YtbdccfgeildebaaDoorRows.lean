/-
  NARROWER THAN 'FOR EVERY INPUT', by the rows' own cells (each row's printed sentence says how): Names: laid · Untorn: laid · Fresh: laid.
  DERIVED. THE GIVEN ROWS OF THIS SEAT. 3 by the template 'for every input the law returns true; each argument reads behind the call as it read before'; 0 by the template 'total and deterministic' (their statements: YtbdccfgeildebaaDoorTotals.lean).
  GIVEN WITH THE SEED: the statements are not yours to turn. If you find one false, say at which input.
  Laid BY PROGRAM, IN A SANDBOX (cutbox-rows.mjs): the forced cells as the released guide's own fill.sh prints them over the translation 98659637ac3ea57f… (all of the seat's roots in one cut). By AI agents, Wed Nov 11 2026. No macro, syntax, notation, axiom, sorry.
-/
import Derived.Test.YtbdccfgeildebaaDoorChecked
import GoSem.Claim
import GoSem.ClaimJoined
import GoSem.ClaimMapViews
import Derived.JoinedTies
import Derived.KernelRfl
namespace Go.Proofs.YtbdccfgeildebaaDoor
/- THE CELL 'sum', in the pinned program and in every row, IS THE sha256 OF THE DUMP (.gsa) THAT YtbdccfgeildebaaDoorProg.lean LOADS. Nothing in Lean hashes anything: it is a label: what it is worth is what the hold of that sum in a sandbox is worth. -/
noncomputable def Tryd.pinned : Pinned := { name := "ytbdccfgeildebaadoor", sum := "98659637ac3ea57fe9f23b254f13852bc17ca252b164423e04c44d5f7bf96e09", checked := Tryd.checked }
namespace Rows
def none {H : Type} : Left H := { results := [], args := [] }

/- WHAT THE LISTED PACKAGE-LEVEL VARIABLES READ AS WHEN THE CALL BEGINS. Each datum BY PROGRAM (the guide's laid-datum.mjs) off the statement by which the dump's own 'gosem.cut.vars' lays the variable. In a bare row this is a premise. The card (YtbdccfgeildebaaDoorCards.lean) ties it to the program's text. -/
def laid_ratemill_reg_ErrKind {H : Type} : DataW H := .iface "*errors.errorString" (.ptr (.agg [.lit (.string [110, 111, 32, 115, 117, 99, 104, 32, 107, 105, 110, 100])]))
def laid_ratemill_reg_ErrWidth {H : Type} : DataW H := .iface "*errors.errorString" (.ptr (.agg [.lit (.string [110, 111, 32, 115, 117, 99, 104, 32, 119, 105, 100, 116, 104])]))
def laid_ratemill_reg_ErrBusy {H : Type} : DataW H := .iface "*errors.errorString" (.ptr (.agg [.lit (.string [110, 111, 116, 32, 97, 116, 32, 105, 116, 115, 32, 101, 110, 100])]))
def laid_ratemill_reg_ErrIdle {H : Type} : DataW H := .iface "*errors.errorString" (.ptr (.agg [.lit (.string [110, 111, 116, 104, 105, 110, 103, 32, 116, 111, 32, 100, 111])]))
def laid_ratemill_mill_ErrLong {H : Type} : DataW H := .iface "*errors.errorString" (.ptr (.agg [.lit (.string [116, 111, 111, 32, 108, 111, 110, 103])]))
def laid_ratemill_mill_ErrToken {H : Type} : DataW H := .iface "*errors.errorString" (.ptr (.agg [.lit (.string [110, 111, 32, 116, 111, 107, 101, 110])]))
def laid_ratemill_mill_ErrSyntax {H : Type} : DataW H := .iface "*errors.errorString" (.ptr (.agg [.lit (.string [105, 116, 32, 99, 97, 110, 110, 111, 116, 32, 103, 111, 32, 111, 110, 32, 115, 111])]))
def laid_ratemill_mill_ErrMany {H : Type} : DataW H := .iface "*errors.errorString" (.ptr (.agg [.lit (.string [116, 111, 111, 32, 109, 97, 110, 121, 32, 105, 116, 101, 109, 115])]))
def laid_ratemill_mill_ErrTwice {H : Type} : DataW H := .iface "*errors.errorString" (.ptr (.agg [.lit (.string [97, 32, 110, 97, 109, 101, 32, 102, 111, 114, 32, 116, 104, 101, 32, 115, 101, 99, 111, 110, 100, 32, 116, 105, 109, 101])]))
def laid_ratemill_mill_ErrName {H : Type} : DataW H := .iface "*errors.errorString" (.ptr (.agg [.lit (.string [110, 111, 32, 102, 108, 111, 119, 32, 104, 97, 115, 32, 116, 104, 97, 116, 32, 110, 97, 109, 101])]))
def laid_ratemill_mill_ErrType {H : Type} : DataW H := .iface "*errors.errorString" (.ptr (.agg [.lit (.string [116, 121, 112, 101, 115, 32, 116, 104, 97, 116, 32, 100, 111, 32, 110, 111, 116, 32, 102, 105, 116])]))
def laid_ratemill_mill_ErrPeriod {H : Type} : DataW H := .iface "*errors.errorString" (.ptr (.agg [.lit (.string [112, 101, 114, 105, 111, 100, 115, 32, 116, 104, 97, 116, 32, 100, 111, 32, 110, 111, 116, 32, 102, 105, 116])]))
def laid_ratemill_mill_ErrFree {H : Type} : DataW H := .iface "*errors.errorString" (.ptr (.agg [.lit (.string [97, 32, 102, 108, 111, 119, 32, 119, 105, 116, 104, 111, 117, 116, 32, 97, 32, 112, 101, 114, 105, 111, 100])]))
def laid_ratemill_mill_ErrCycle {H : Type} : DataW H := .iface "*errors.errorString" (.ptr (.agg [.lit (.string [97, 32, 102, 108, 111, 119, 32, 116, 104, 97, 116, 32, 110, 101, 101, 100, 115, 32, 105, 116, 115, 101, 108, 102])]))
def laid_ratemill_mill_ErrFlow {H : Type} : DataW H := .iface "*errors.errorString" (.ptr (.agg [.lit (.string [110, 111, 32, 115, 117, 99, 104, 32, 102, 108, 111, 119, 32, 111, 114, 32, 105, 110, 115, 116, 97, 110, 116])]))
def laid_ratemill_mill_ErrInputs {H : Type} : DataW H := .iface "*errors.errorString" (.ptr (.agg [.lit (.string [105, 110, 112, 117, 116, 115, 32, 116, 104, 97, 116, 32, 100, 111, 32, 110, 111, 116, 32, 102, 105, 116])]))
def laid_ratemill_mill_ErrOverrun {H : Type} : DataW H := .iface "*errors.errorString" (.ptr (.agg [.lit (.string [97, 32, 106, 111, 98, 32, 119, 97, 115, 32, 110, 111, 116, 32, 100, 111, 110, 101, 32, 105, 110, 32, 116, 105, 109, 101])]))

/-- 'ratemilllaw.Names': WHATEVER THE INPUT: true; the input reads as it did. -/
def namesSpec : ChangeSpec := { name := "names", fn := fun _ => fun
  | [] => { results := [.lit (.bool true)], args := [] }
  | _ => none }
def namesRow : OpenClaim := { program := "ytbdccfgeildebaadoor", sum := "98659637ac3ea57fe9f23b254f13852bc17ca252b164423e04c44d5f7bf96e09", func := "ratemill/ratemilllaw.Names", spec := "names", named := ["ratemill/reg.ErrKind", "ratemill/reg.ErrWidth", "ratemill/reg.ErrBusy", "ratemill/reg.ErrIdle", "ratemill/mill.ErrLong", "ratemill/mill.ErrToken", "ratemill/mill.ErrSyntax", "ratemill/mill.ErrMany", "ratemill/mill.ErrTwice", "ratemill/mill.ErrName", "ratemill/mill.ErrType", "ratemill/mill.ErrPeriod", "ratemill/mill.ErrFree", "ratemill/mill.ErrCycle", "ratemill/mill.ErrFlow", "ratemill/mill.ErrInputs", "ratemill/mill.ErrOverrun"], apart := false, laid := [("ratemill/reg.ErrKind", laid_ratemill_reg_ErrKind), ("ratemill/reg.ErrWidth", laid_ratemill_reg_ErrWidth), ("ratemill/reg.ErrBusy", laid_ratemill_reg_ErrBusy), ("ratemill/reg.ErrIdle", laid_ratemill_reg_ErrIdle), ("ratemill/mill.ErrLong", laid_ratemill_mill_ErrLong), ("ratemill/mill.ErrToken", laid_ratemill_mill_ErrToken), ("ratemill/mill.ErrSyntax", laid_ratemill_mill_ErrSyntax), ("ratemill/mill.ErrMany", laid_ratemill_mill_ErrMany), ("ratemill/mill.ErrTwice", laid_ratemill_mill_ErrTwice), ("ratemill/mill.ErrName", laid_ratemill_mill_ErrName), ("ratemill/mill.ErrType", laid_ratemill_mill_ErrType), ("ratemill/mill.ErrPeriod", laid_ratemill_mill_ErrPeriod), ("ratemill/mill.ErrFree", laid_ratemill_mill_ErrFree), ("ratemill/mill.ErrCycle", laid_ratemill_mill_ErrCycle), ("ratemill/mill.ErrFlow", laid_ratemill_mill_ErrFlow), ("ratemill/mill.ErrInputs", laid_ratemill_mill_ErrInputs), ("ratemill/mill.ErrOverrun", laid_ratemill_mill_ErrOverrun)] }
def NamesSaid : Prop := namesRow.holds Tryd.pinned (OpenSpec.ofChange namesSpec)

/-- ITS FALSE NEIGHBOUR: 'it returns false'. Refute it at one input. -/
def namesWrong : ChangeSpec := { name := "names", fn := fun _ => fun
  | [] => { results := [.lit (.bool false)], args := [] }
  | _ => none }
def NamesWrongFalsely : Prop := namesRow.holds Tryd.pinned (OpenSpec.ofChange namesWrong)

/-- 'ratemilllaw.Untorn': WHATEVER THE INPUT: true; the input reads as it did. -/
def untornSpec : ChangeSpec := { name := "untorn", fn := fun _ => fun
  | [d] => { results := [.lit (.bool true)], args := [d] }
  | _ => none }
def untornRow : OpenClaim := { program := "ytbdccfgeildebaadoor", sum := "98659637ac3ea57fe9f23b254f13852bc17ca252b164423e04c44d5f7bf96e09", func := "ratemill/ratemilllaw.Untorn", spec := "untorn", inPlace := ["sync/atomic.StoreUint32", "sync/atomic.StoreUint64"], unfollowed := true, recurses := true, named := ["ratemill/reg.ErrKind", "ratemill/reg.ErrWidth", "ratemill/reg.ErrBusy", "ratemill/reg.ErrIdle"], apart := false, laid := [("ratemill/reg.ErrKind", laid_ratemill_reg_ErrKind), ("ratemill/reg.ErrWidth", laid_ratemill_reg_ErrWidth), ("ratemill/reg.ErrBusy", laid_ratemill_reg_ErrBusy), ("ratemill/reg.ErrIdle", laid_ratemill_reg_ErrIdle)] }
def UntornSaid : Prop := untornRow.holds Tryd.pinned (OpenSpec.ofChange untornSpec)

/-- ITS FALSE NEIGHBOUR: 'it returns false'. Refute it at one input. -/
def untornWrong : ChangeSpec := { name := "untorn", fn := fun _ => fun
  | [d] => { results := [.lit (.bool false)], args := [d] }
  | _ => none }
def UntornWrongFalsely : Prop := untornRow.holds Tryd.pinned (OpenSpec.ofChange untornWrong)

/-- 'ratemilllaw.Fresh': WHATEVER THE INPUT: true; the input reads as it did. -/
def freshSpec : ChangeSpec := { name := "fresh", fn := fun _ => fun
  | [d] => { results := [.lit (.bool true)], args := [d] }
  | _ => none }
def freshRow : OpenClaim := { program := "ytbdccfgeildebaadoor", sum := "98659637ac3ea57fe9f23b254f13852bc17ca252b164423e04c44d5f7bf96e09", func := "ratemill/ratemilllaw.Fresh", spec := "fresh", inPlace := ["sync/atomic.StoreUint32", "sync/atomic.StoreUint64"], unfollowed := true, recurses := true, named := ["ratemill/reg.ErrKind", "ratemill/reg.ErrWidth", "ratemill/reg.ErrBusy", "ratemill/reg.ErrIdle"], apart := false, laid := [("ratemill/reg.ErrKind", laid_ratemill_reg_ErrKind), ("ratemill/reg.ErrWidth", laid_ratemill_reg_ErrWidth), ("ratemill/reg.ErrBusy", laid_ratemill_reg_ErrBusy), ("ratemill/reg.ErrIdle", laid_ratemill_reg_ErrIdle)] }
def FreshSaid : Prop := freshRow.holds Tryd.pinned (OpenSpec.ofChange freshSpec)

/-- ITS FALSE NEIGHBOUR: 'it returns false'. Refute it at one input. -/
def freshWrong : ChangeSpec := { name := "fresh", fn := fun _ => fun
  | [d] => { results := [.lit (.bool false)], args := [d] }
  | _ => none }
def FreshWrongFalsely : Prop := freshRow.holds Tryd.pinned (OpenSpec.ofChange freshWrong)

/- THE SECOND FORM. 'bulk': how many values and letters a reading holds, each counted each time it is reached (what is shared counts as often as it is met; a slice's spare places count too). A statement '..UptoSaid' is the law's where the arguments, and the package variables that the reading takes, are together of bulk at most 1048576: NARROWER than '..Said'. Prove '..Said' where nothing that the law and all that it calls make is longer than what came in: it says more and counts as full. Else prove '..UptoSaid'. A law counts once. -/
mutual
def uptoBulk {H : Type} : DataW H → Nat
  | .lit (.string bytes) => bytes.length + 1
  | .lit _ => 1
  | .nil => 1
  | .ptr d => uptoBulk d + 1
  | .slice elems spare => uptoBulkAll elems + uptoBulkAll spare + 1
  | .agg parts => uptoBulkAll parts + 1
  | .iface _ d => uptoBulk d + 1
  | .map entries => uptoBulkEntries entries + 1
  | .held _ => 1
def uptoBulkAll {H : Type} : List (DataW H) → Nat
  | [] => 0
  | d :: r => uptoBulk d + uptoBulkAll r
def uptoBulkEntries {H : Type} : List (Lit × DataW H) → Nat
  | [] => 0
  | x :: r => uptoBulkEntry x + uptoBulkEntries r
def uptoBulkEntry {H : Type} : Lit × DataW H → Nat
  | (.string bytes, d) => bytes.length + uptoBulk d + 1
  | (_, d) => uptoBulk d + 1
 end
def uptoSmall : (H : Type) → List (DataW H) → Bool := fun _ ds => decide (uptoBulkAll ds ≤ 1048576)
def OpenSpec.upto (s : _root_.Go.ChangeSpec) : _root_.Go.OpenSpec := { _root_.Go.OpenSpec.ofChange s with cond := some uptoSmall }

/-- 'ratemilllaw.Names', WHERE WHAT IT READS IS OF BULK AT MOST 1048576: true; the input reads as it did. -/
def namesUptoRow : OpenClaim := { program := "ytbdccfgeildebaadoor", sum := "98659637ac3ea57fe9f23b254f13852bc17ca252b164423e04c44d5f7bf96e09", func := "ratemill/ratemilllaw.Names", spec := "names", named := ["ratemill/reg.ErrKind", "ratemill/reg.ErrWidth", "ratemill/reg.ErrBusy", "ratemill/reg.ErrIdle", "ratemill/mill.ErrLong", "ratemill/mill.ErrToken", "ratemill/mill.ErrSyntax", "ratemill/mill.ErrMany", "ratemill/mill.ErrTwice", "ratemill/mill.ErrName", "ratemill/mill.ErrType", "ratemill/mill.ErrPeriod", "ratemill/mill.ErrFree", "ratemill/mill.ErrCycle", "ratemill/mill.ErrFlow", "ratemill/mill.ErrInputs", "ratemill/mill.ErrOverrun"], apart := false, laid := [("ratemill/reg.ErrKind", laid_ratemill_reg_ErrKind), ("ratemill/reg.ErrWidth", laid_ratemill_reg_ErrWidth), ("ratemill/reg.ErrBusy", laid_ratemill_reg_ErrBusy), ("ratemill/reg.ErrIdle", laid_ratemill_reg_ErrIdle), ("ratemill/mill.ErrLong", laid_ratemill_mill_ErrLong), ("ratemill/mill.ErrToken", laid_ratemill_mill_ErrToken), ("ratemill/mill.ErrSyntax", laid_ratemill_mill_ErrSyntax), ("ratemill/mill.ErrMany", laid_ratemill_mill_ErrMany), ("ratemill/mill.ErrTwice", laid_ratemill_mill_ErrTwice), ("ratemill/mill.ErrName", laid_ratemill_mill_ErrName), ("ratemill/mill.ErrType", laid_ratemill_mill_ErrType), ("ratemill/mill.ErrPeriod", laid_ratemill_mill_ErrPeriod), ("ratemill/mill.ErrFree", laid_ratemill_mill_ErrFree), ("ratemill/mill.ErrCycle", laid_ratemill_mill_ErrCycle), ("ratemill/mill.ErrFlow", laid_ratemill_mill_ErrFlow), ("ratemill/mill.ErrInputs", laid_ratemill_mill_ErrInputs), ("ratemill/mill.ErrOverrun", laid_ratemill_mill_ErrOverrun)], narrowed := true }
def NamesUptoSaid : Prop := namesUptoRow.holds Tryd.pinned (OpenSpec.upto namesSpec)

/-- 'ratemilllaw.Untorn', WHERE WHAT IT READS IS OF BULK AT MOST 1048576: true; the input reads as it did. -/
def untornUptoRow : OpenClaim := { program := "ytbdccfgeildebaadoor", sum := "98659637ac3ea57fe9f23b254f13852bc17ca252b164423e04c44d5f7bf96e09", func := "ratemill/ratemilllaw.Untorn", spec := "untorn", inPlace := ["sync/atomic.StoreUint32", "sync/atomic.StoreUint64"], unfollowed := true, recurses := true, named := ["ratemill/reg.ErrKind", "ratemill/reg.ErrWidth", "ratemill/reg.ErrBusy", "ratemill/reg.ErrIdle"], apart := false, laid := [("ratemill/reg.ErrKind", laid_ratemill_reg_ErrKind), ("ratemill/reg.ErrWidth", laid_ratemill_reg_ErrWidth), ("ratemill/reg.ErrBusy", laid_ratemill_reg_ErrBusy), ("ratemill/reg.ErrIdle", laid_ratemill_reg_ErrIdle)], narrowed := true }
def UntornUptoSaid : Prop := untornUptoRow.holds Tryd.pinned (OpenSpec.upto untornSpec)

/-- 'ratemilllaw.Fresh', WHERE WHAT IT READS IS OF BULK AT MOST 1048576: true; the input reads as it did. -/
def freshUptoRow : OpenClaim := { program := "ytbdccfgeildebaadoor", sum := "98659637ac3ea57fe9f23b254f13852bc17ca252b164423e04c44d5f7bf96e09", func := "ratemill/ratemilllaw.Fresh", spec := "fresh", inPlace := ["sync/atomic.StoreUint32", "sync/atomic.StoreUint64"], unfollowed := true, recurses := true, named := ["ratemill/reg.ErrKind", "ratemill/reg.ErrWidth", "ratemill/reg.ErrBusy", "ratemill/reg.ErrIdle"], apart := false, laid := [("ratemill/reg.ErrKind", laid_ratemill_reg_ErrKind), ("ratemill/reg.ErrWidth", laid_ratemill_reg_ErrWidth), ("ratemill/reg.ErrBusy", laid_ratemill_reg_ErrBusy), ("ratemill/reg.ErrIdle", laid_ratemill_reg_ErrIdle)], narrowed := true }
def FreshUptoSaid : Prop := freshUptoRow.holds Tryd.pinned (OpenSpec.upto freshSpec)

end Rows
end Go.Proofs.YtbdccfgeildebaaDoor
