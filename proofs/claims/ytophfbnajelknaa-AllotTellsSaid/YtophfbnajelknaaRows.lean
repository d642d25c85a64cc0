/-
  No cell of these rows narrows 'for every input' (looked for: loops, veiled, ifaces, maps, wideKeys, modest, calm, conditions, laid).
  DERIVED. THE GIVEN ROWS OF THIS SEAT. 11 by the template 'for every input the law returns true; each argument reads behind the call as it read before'; 0 by the template 'total and deterministic' (their statements: YtophfbnajelknaaTotals.lean).
  GIVEN WITH THE SEED: the statements are not yours to turn. If you find one false, say at which input.
  Laid BY PROGRAM, IN A SANDBOX (cutbox-rows.mjs): the forced cells as the released guide's own fill.sh prints them over the translation 10e81e9d71c45de2… (all of the seat's roots in one cut). By AI agents, Wed Nov 11 2026. No macro, syntax, notation, axiom, sorry.
-/
import Derived.Test.YtophfbnajelknaaChecked
import GoSem.Claim
import GoSem.ClaimJoined
import GoSem.ClaimMapViews
import Derived.JoinedTies
import Derived.KernelRfl
namespace Go.Proofs.Ytophfbnajelknaa
/- THE CELL 'sum', in the pinned program and in every row, IS THE sha256 OF THE DUMP (.gsa) THAT YtophfbnajelknaaProg.lean LOADS. Nothing in Lean hashes anything: it is a label: what it is worth is what the hold of that sum in a sandbox is worth. -/
noncomputable def Try.pinned : Pinned := { name := "ytophfbnajelknaa", sum := "10e81e9d71c45de2a540d74b337e6352181b6c8c844f441d28bc3dd4c7a17bc4", checked := Try.checked }
namespace Rows
def none {H : Type} : Left H := { results := [], args := [] }

/-- 'quitrentlaw09.AccountDoes': WHATEVER THE INPUT: true; the input reads as it did. -/
def accountDoesSpec : ChangeSpec := { name := "accountDoes", fn := fun _ => fun
  | [d1, d2, d3, d4, d5] => { results := [.lit (.bool true)], args := [d1, d2, d3, d4, d5] }
  | _ => none }
def accountDoesRow : OpenClaim := { program := "ytophfbnajelknaa", sum := "10e81e9d71c45de2a540d74b337e6352181b6c8c844f441d28bc3dd4c7a17bc4", func := "quitrent/quitrentlaw09.AccountDoes", spec := "accountDoes", unfollowed := true, recurses := true, plainKeys := false, apart := false }
def AccountDoesSaid : Prop := accountDoesRow.holds Try.pinned (OpenSpec.ofChange accountDoesSpec)

/-- ITS FALSE NEIGHBOUR: 'it returns false'. Refute it at one input. -/
def accountDoesWrong : ChangeSpec := { name := "accountDoes", fn := fun _ => fun
  | [d1, d2, d3, d4, d5] => { results := [.lit (.bool false)], args := [d1, d2, d3, d4, d5] }
  | _ => none }
def AccountDoesWrongFalsely : Prop := accountDoesRow.holds Try.pinned (OpenSpec.ofChange accountDoesWrong)

/-- 'quitrentlaw09.AccountEven': WHATEVER THE INPUT: true; the input reads as it did. -/
def accountEvenSpec : ChangeSpec := { name := "accountEven", fn := fun _ => fun
  | [d1, d2, d3] => { results := [.lit (.bool true)], args := [d1, d2, d3] }
  | _ => none }
def accountEvenRow : OpenClaim := { program := "ytophfbnajelknaa", sum := "10e81e9d71c45de2a540d74b337e6352181b6c8c844f441d28bc3dd4c7a17bc4", func := "quitrent/quitrentlaw09.AccountEven", spec := "accountEven", unfollowed := true, recurses := true, plainKeys := false, apart := false }
def AccountEvenSaid : Prop := accountEvenRow.holds Try.pinned (OpenSpec.ofChange accountEvenSpec)

/-- ITS FALSE NEIGHBOUR: 'it returns false'. Refute it at one input. -/
def accountEvenWrong : ChangeSpec := { name := "accountEven", fn := fun _ => fun
  | [d1, d2, d3] => { results := [.lit (.bool false)], args := [d1, d2, d3] }
  | _ => none }
def AccountEvenWrongFalsely : Prop := accountEvenRow.holds Try.pinned (OpenSpec.ofChange accountEvenWrong)

/-- 'quitrentlaw09.AccountClosed': WHATEVER THE INPUT: true; the input reads as it did. -/
def accountClosedSpec : ChangeSpec := { name := "accountClosed", fn := fun _ => fun
  | [d1, d2, d3, d4, d5, d6] => { results := [.lit (.bool true)], args := [d1, d2, d3, d4, d5, d6] }
  | _ => none }
def accountClosedRow : OpenClaim := { program := "ytophfbnajelknaa", sum := "10e81e9d71c45de2a540d74b337e6352181b6c8c844f441d28bc3dd4c7a17bc4", func := "quitrent/quitrentlaw09.AccountClosed", spec := "accountClosed", unfollowed := true, recurses := true, plainKeys := false, apart := false }
def AccountClosedSaid : Prop := accountClosedRow.holds Try.pinned (OpenSpec.ofChange accountClosedSpec)

/-- ITS FALSE NEIGHBOUR: 'it returns false'. Refute it at one input. -/
def accountClosedWrong : ChangeSpec := { name := "accountClosed", fn := fun _ => fun
  | [d1, d2, d3, d4, d5, d6] => { results := [.lit (.bool false)], args := [d1, d2, d3, d4, d5, d6] }
  | _ => none }
def AccountClosedWrongFalsely : Prop := accountClosedRow.holds Try.pinned (OpenSpec.ofChange accountClosedWrong)

/-- 'quitrentlaw09.AccountBack': WHATEVER THE INPUT: true; the input reads as it did. -/
def accountBackSpec : ChangeSpec := { name := "accountBack", fn := fun _ => fun
  | [d1, d2, d3, d4] => { results := [.lit (.bool true)], args := [d1, d2, d3, d4] }
  | _ => none }
def accountBackRow : OpenClaim := { program := "ytophfbnajelknaa", sum := "10e81e9d71c45de2a540d74b337e6352181b6c8c844f441d28bc3dd4c7a17bc4", func := "quitrent/quitrentlaw09.AccountBack", spec := "accountBack", unfollowed := true, recurses := true, plainKeys := false, apart := false }
def AccountBackSaid : Prop := accountBackRow.holds Try.pinned (OpenSpec.ofChange accountBackSpec)

/-- ITS FALSE NEIGHBOUR: 'it returns false'. Refute it at one input. -/
def accountBackWrong : ChangeSpec := { name := "accountBack", fn := fun _ => fun
  | [d1, d2, d3, d4] => { results := [.lit (.bool false)], args := [d1, d2, d3, d4] }
  | _ => none }
def AccountBackWrongFalsely : Prop := accountBackRow.holds Try.pinned (OpenSpec.ofChange accountBackWrong)

/-- 'quitrentlaw13.AllotTells': WHATEVER THE INPUT: true; the input reads as it did. -/
def allotTellsSpec : ChangeSpec := { name := "allotTells", fn := fun _ => fun
  | [d1, d2, d3, d4] => { results := [.lit (.bool true)], args := [d1, d2, d3, d4] }
  | _ => none }
def allotTellsRow : OpenClaim := { program := "ytophfbnajelknaa", sum := "10e81e9d71c45de2a540d74b337e6352181b6c8c844f441d28bc3dd4c7a17bc4", func := "quitrent/quitrentlaw13.AllotTells", spec := "allotTells", unfollowed := true, recurses := true, plainKeys := false, apart := false }
def AllotTellsSaid : Prop := allotTellsRow.holds Try.pinned (OpenSpec.ofChange allotTellsSpec)

/-- ITS FALSE NEIGHBOUR: 'it returns false'. Refute it at one input. -/
def allotTellsWrong : ChangeSpec := { name := "allotTells", fn := fun _ => fun
  | [d1, d2, d3, d4] => { results := [.lit (.bool false)], args := [d1, d2, d3, d4] }
  | _ => none }
def AllotTellsWrongFalsely : Prop := allotTellsRow.holds Try.pinned (OpenSpec.ofChange allotTellsWrong)

/-- 'quitrentlaw13.AllotWhole': WHATEVER THE INPUT: true; the input reads as it did. -/
def allotWholeSpec : ChangeSpec := { name := "allotWhole", fn := fun _ => fun
  | [d1, d2, d3, d4] => { results := [.lit (.bool true)], args := [d1, d2, d3, d4] }
  | _ => none }
def allotWholeRow : OpenClaim := { program := "ytophfbnajelknaa", sum := "10e81e9d71c45de2a540d74b337e6352181b6c8c844f441d28bc3dd4c7a17bc4", func := "quitrent/quitrentlaw13.AllotWhole", spec := "allotWhole", unfollowed := true, recurses := true, plainKeys := false, apart := false }
def AllotWholeSaid : Prop := allotWholeRow.holds Try.pinned (OpenSpec.ofChange allotWholeSpec)

/-- ITS FALSE NEIGHBOUR: 'it returns false'. Refute it at one input. -/
def allotWholeWrong : ChangeSpec := { name := "allotWhole", fn := fun _ => fun
  | [d1, d2, d3, d4] => { results := [.lit (.bool false)], args := [d1, d2, d3, d4] }
  | _ => none }
def AllotWholeWrongFalsely : Prop := allotWholeRow.holds Try.pinned (OpenSpec.ofChange allotWholeWrong)

/-- 'quitrentlaw13.AllotNone': WHATEVER THE INPUT: true; the input reads as it did. -/
def allotNoneSpec : ChangeSpec := { name := "allotNone", fn := fun _ => fun
  | [d1, d2, d3] => { results := [.lit (.bool true)], args := [d1, d2, d3] }
  | _ => none }
def allotNoneRow : OpenClaim := { program := "ytophfbnajelknaa", sum := "10e81e9d71c45de2a540d74b337e6352181b6c8c844f441d28bc3dd4c7a17bc4", func := "quitrent/quitrentlaw13.AllotNone", spec := "allotNone", unfollowed := true, recurses := true, plainKeys := false, apart := false }
def AllotNoneSaid : Prop := allotNoneRow.holds Try.pinned (OpenSpec.ofChange allotNoneSpec)

/-- ITS FALSE NEIGHBOUR: 'it returns false'. Refute it at one input. -/
def allotNoneWrong : ChangeSpec := { name := "allotNone", fn := fun _ => fun
  | [d1, d2, d3] => { results := [.lit (.bool false)], args := [d1, d2, d3] }
  | _ => none }
def AllotNoneWrongFalsely : Prop := allotNoneRow.holds Try.pinned (OpenSpec.ofChange allotNoneWrong)

/-- 'quitrentlaw13.AllotAgain': WHATEVER THE INPUT: true; the input reads as it did. -/
def allotAgainSpec : ChangeSpec := { name := "allotAgain", fn := fun _ => fun
  | [d1, d2, d3] => { results := [.lit (.bool true)], args := [d1, d2, d3] }
  | _ => none }
def allotAgainRow : OpenClaim := { program := "ytophfbnajelknaa", sum := "10e81e9d71c45de2a540d74b337e6352181b6c8c844f441d28bc3dd4c7a17bc4", func := "quitrent/quitrentlaw13.AllotAgain", spec := "allotAgain", unfollowed := true, recurses := true, plainKeys := false, apart := false }
def AllotAgainSaid : Prop := allotAgainRow.holds Try.pinned (OpenSpec.ofChange allotAgainSpec)

/-- ITS FALSE NEIGHBOUR: 'it returns false'. Refute it at one input. -/
def allotAgainWrong : ChangeSpec := { name := "allotAgain", fn := fun _ => fun
  | [d1, d2, d3] => { results := [.lit (.bool false)], args := [d1, d2, d3] }
  | _ => none }
def AllotAgainWrongFalsely : Prop := allotAgainRow.holds Try.pinned (OpenSpec.ofChange allotAgainWrong)

/-- 'quitrentlaw11.DutyTells': WHATEVER THE INPUT: true; the input reads as it did. -/
def dutyTellsSpec : ChangeSpec := { name := "dutyTells", fn := fun _ => fun
  | [d1, d2, d3] => { results := [.lit (.bool true)], args := [d1, d2, d3] }
  | _ => none }
def dutyTellsRow : OpenClaim := { program := "ytophfbnajelknaa", sum := "10e81e9d71c45de2a540d74b337e6352181b6c8c844f441d28bc3dd4c7a17bc4", func := "quitrent/quitrentlaw11.DutyTells", spec := "dutyTells", unfollowed := true, recurses := true, plainKeys := false, apart := false }
def DutyTellsSaid : Prop := dutyTellsRow.holds Try.pinned (OpenSpec.ofChange dutyTellsSpec)

/-- ITS FALSE NEIGHBOUR: 'it returns false'. Refute it at one input. -/
def dutyTellsWrong : ChangeSpec := { name := "dutyTells", fn := fun _ => fun
  | [d1, d2, d3] => { results := [.lit (.bool false)], args := [d1, d2, d3] }
  | _ => none }
def DutyTellsWrongFalsely : Prop := dutyTellsRow.holds Try.pinned (OpenSpec.ofChange dutyTellsWrong)

/-- 'quitrentlaw11.DutyEach': WHATEVER THE INPUT: true; the input reads as it did. -/
def dutyEachSpec : ChangeSpec := { name := "dutyEach", fn := fun _ => fun
  | [d1, d2, d3] => { results := [.lit (.bool true)], args := [d1, d2, d3] }
  | _ => none }
def dutyEachRow : OpenClaim := { program := "ytophfbnajelknaa", sum := "10e81e9d71c45de2a540d74b337e6352181b6c8c844f441d28bc3dd4c7a17bc4", func := "quitrent/quitrentlaw11.DutyEach", spec := "dutyEach", unfollowed := true, recurses := true, plainKeys := false, apart := false }
def DutyEachSaid : Prop := dutyEachRow.holds Try.pinned (OpenSpec.ofChange dutyEachSpec)

/-- ITS FALSE NEIGHBOUR: 'it returns false'. Refute it at one input. -/
def dutyEachWrong : ChangeSpec := { name := "dutyEach", fn := fun _ => fun
  | [d1, d2, d3] => { results := [.lit (.bool false)], args := [d1, d2, d3] }
  | _ => none }
def DutyEachWrongFalsely : Prop := dutyEachRow.holds Try.pinned (OpenSpec.ofChange dutyEachWrong)

/-- 'quitrentlaw11.DutyTurned': WHATEVER THE INPUT: true; the input reads as it did. -/
def dutyTurnedSpec : ChangeSpec := { name := "dutyTurned", fn := fun _ => fun
  | [d1, d2, d3] => { results := [.lit (.bool true)], args := [d1, d2, d3] }
  | _ => none }
def dutyTurnedRow : OpenClaim := { program := "ytophfbnajelknaa", sum := "10e81e9d71c45de2a540d74b337e6352181b6c8c844f441d28bc3dd4c7a17bc4", func := "quitrent/quitrentlaw11.DutyTurned", spec := "dutyTurned", unfollowed := true, recurses := true, plainKeys := false, apart := false }
def DutyTurnedSaid : Prop := dutyTurnedRow.holds Try.pinned (OpenSpec.ofChange dutyTurnedSpec)

/-- ITS FALSE NEIGHBOUR: 'it returns false'. Refute it at one input. -/
def dutyTurnedWrong : ChangeSpec := { name := "dutyTurned", fn := fun _ => fun
  | [d1, d2, d3] => { results := [.lit (.bool false)], args := [d1, d2, d3] }
  | _ => none }
def DutyTurnedWrongFalsely : Prop := dutyTurnedRow.holds Try.pinned (OpenSpec.ofChange dutyTurnedWrong)

/- THE SECOND FORM. 'bulk': how many values and letters a reading holds, each counted each time it is reached (what is shared counts as often as it is met; a slice's spare places count too). A statement '..UptoSaid' is the law's where the arguments, and the package variables that the reading takes, are together of bulk at most 1048576: NARROWER than '..Said'. Prove '..Said' where nothing that the law and all that it calls make is longer than what came in: it says more and counts as full. Else prove '..UptoSaid'. A law counts once. -/
mutual
def uptoBulk {H : Type} : DataW H → Nat
  | .lit (.string bytes) => bytes.length + 1
  | .lit _ => 1
  | .nil => 1
  | .ptr d => uptoBulk d + 1
  | .slice elems spare => uptoBulkAll elems + uptoBulkAll spare + 1
  | .agg parts => uptoBulkAll parts + 1
  | .iface _ d => uptoBulk d + 1
  | .map entries => uptoBulkEntries entries + 1
  | .held _ => 1
def uptoBulkAll {H : Type} : List (DataW H) → Nat
  | [] => 0
  | d :: r => uptoBulk d + uptoBulkAll r
def uptoBulkEntries {H : Type} : List (Lit × DataW H) → Nat
  | [] => 0
  | x :: r => uptoBulkEntry x + uptoBulkEntries r
def uptoBulkEntry {H : Type} : Lit × DataW H → Nat
  | (.string bytes, d) => bytes.length + uptoBulk d + 1
  | (_, d) => uptoBulk d + 1
 end
def uptoSmall : (H : Type) → List (DataW H) → Bool := fun _ ds => decide (uptoBulkAll ds ≤ 1048576)
def OpenSpec.upto (s : _root_.Go.ChangeSpec) : _root_.Go.OpenSpec := { _root_.Go.OpenSpec.ofChange s with cond := some uptoSmall }

/-- 'quitrentlaw09.AccountDoes', WHERE WHAT IT READS IS OF BULK AT MOST 1048576: true; the input reads as it did. -/
def accountDoesUptoRow : OpenClaim := { program := "ytophfbnajelknaa", sum := "10e81e9d71c45de2a540d74b337e6352181b6c8c844f441d28bc3dd4c7a17bc4", func := "quitrent/quitrentlaw09.AccountDoes", spec := "accountDoes", unfollowed := true, recurses := true, plainKeys := false, apart := false, narrowed := true }
def AccountDoesUptoSaid : Prop := accountDoesUptoRow.holds Try.pinned (OpenSpec.upto accountDoesSpec)

/-- 'quitrentlaw09.AccountEven', WHERE WHAT IT READS IS OF BULK AT MOST 1048576: true; the input reads as it did. -/
def accountEvenUptoRow : OpenClaim := { program := "ytophfbnajelknaa", sum := "10e81e9d71c45de2a540d74b337e6352181b6c8c844f441d28bc3dd4c7a17bc4", func := "quitrent/quitrentlaw09.AccountEven", spec := "accountEven", unfollowed := true, recurses := true, plainKeys := false, apart := false, narrowed := true }
def AccountEvenUptoSaid : Prop := accountEvenUptoRow.holds Try.pinned (OpenSpec.upto accountEvenSpec)

/-- 'quitrentlaw09.AccountClosed', WHERE WHAT IT READS IS OF BULK AT MOST 1048576: true; the input reads as it did. -/
def accountClosedUptoRow : OpenClaim := { program := "ytophfbnajelknaa", sum := "10e81e9d71c45de2a540d74b337e6352181b6c8c844f441d28bc3dd4c7a17bc4", func := "quitrent/quitrentlaw09.AccountClosed", spec := "accountClosed", unfollowed := true, recurses := true, plainKeys := false, apart := false, narrowed := true }
def AccountClosedUptoSaid : Prop := accountClosedUptoRow.holds Try.pinned (OpenSpec.upto accountClosedSpec)

/-- 'quitrentlaw09.AccountBack', WHERE WHAT IT READS IS OF BULK AT MOST 1048576: true; the input reads as it did. -/
def accountBackUptoRow : OpenClaim := { program := "ytophfbnajelknaa", sum := "10e81e9d71c45de2a540d74b337e6352181b6c8c844f441d28bc3dd4c7a17bc4", func := "quitrent/quitrentlaw09.AccountBack", spec := "accountBack", unfollowed := true, recurses := true, plainKeys := false, apart := false, narrowed := true }
def AccountBackUptoSaid : Prop := accountBackUptoRow.holds Try.pinned (OpenSpec.upto accountBackSpec)

/-- 'quitrentlaw13.AllotTells', WHERE WHAT IT READS IS OF BULK AT MOST 1048576: true; the input reads as it did. -/
def allotTellsUptoRow : OpenClaim := { program := "ytophfbnajelknaa", sum := "10e81e9d71c45de2a540d74b337e6352181b6c8c844f441d28bc3dd4c7a17bc4", func := "quitrent/quitrentlaw13.AllotTells", spec := "allotTells", unfollowed := true, recurses := true, plainKeys := false, apart := false, narrowed := true }
def AllotTellsUptoSaid : Prop := allotTellsUptoRow.holds Try.pinned (OpenSpec.upto allotTellsSpec)

/-- 'quitrentlaw13.AllotWhole', WHERE WHAT IT READS IS OF BULK AT MOST 1048576: true; the input reads as it did. -/
def allotWholeUptoRow : OpenClaim := { program := "ytophfbnajelknaa", sum := "10e81e9d71c45de2a540d74b337e6352181b6c8c844f441d28bc3dd4c7a17bc4", func := "quitrent/quitrentlaw13.AllotWhole", spec := "allotWhole", unfollowed := true, recurses := true, plainKeys := false, apart := false, narrowed := true }
def AllotWholeUptoSaid : Prop := allotWholeUptoRow.holds Try.pinned (OpenSpec.upto allotWholeSpec)

/-- 'quitrentlaw13.AllotNone', WHERE WHAT IT READS IS OF BULK AT MOST 1048576: true; the input reads as it did. -/
def allotNoneUptoRow : OpenClaim := { program := "ytophfbnajelknaa", sum := "10e81e9d71c45de2a540d74b337e6352181b6c8c844f441d28bc3dd4c7a17bc4", func := "quitrent/quitrentlaw13.AllotNone", spec := "allotNone", unfollowed := true, recurses := true, plainKeys := false, apart := false, narrowed := true }
def AllotNoneUptoSaid : Prop := allotNoneUptoRow.holds Try.pinned (OpenSpec.upto allotNoneSpec)

/-- 'quitrentlaw13.AllotAgain', WHERE WHAT IT READS IS OF BULK AT MOST 1048576: true; the input reads as it did. -/
def allotAgainUptoRow : OpenClaim := { program := "ytophfbnajelknaa", sum := "10e81e9d71c45de2a540d74b337e6352181b6c8c844f441d28bc3dd4c7a17bc4", func := "quitrent/quitrentlaw13.AllotAgain", spec := "allotAgain", unfollowed := true, recurses := true, plainKeys := false, apart := false, narrowed := true }
def AllotAgainUptoSaid : Prop := allotAgainUptoRow.holds Try.pinned (OpenSpec.upto allotAgainSpec)

/-- 'quitrentlaw11.DutyTells', WHERE WHAT IT READS IS OF BULK AT MOST 1048576: true; the input reads as it did. -/
def dutyTellsUptoRow : OpenClaim := { program := "ytophfbnajelknaa", sum := "10e81e9d71c45de2a540d74b337e6352181b6c8c844f441d28bc3dd4c7a17bc4", func := "quitrent/quitrentlaw11.DutyTells", spec := "dutyTells", unfollowed := true, recurses := true, plainKeys := false, apart := false, narrowed := true }
def DutyTellsUptoSaid : Prop := dutyTellsUptoRow.holds Try.pinned (OpenSpec.upto dutyTellsSpec)

/-- 'quitrentlaw11.DutyEach', WHERE WHAT IT READS IS OF BULK AT MOST 1048576: true; the input reads as it did. -/
def dutyEachUptoRow : OpenClaim := { program := "ytophfbnajelknaa", sum := "10e81e9d71c45de2a540d74b337e6352181b6c8c844f441d28bc3dd4c7a17bc4", func := "quitrent/quitrentlaw11.DutyEach", spec := "dutyEach", unfollowed := true, recurses := true, plainKeys := false, apart := false, narrowed := true }
def DutyEachUptoSaid : Prop := dutyEachUptoRow.holds Try.pinned (OpenSpec.upto dutyEachSpec)

/-- 'quitrentlaw11.DutyTurned', WHERE WHAT IT READS IS OF BULK AT MOST 1048576: true; the input reads as it did. -/
def dutyTurnedUptoRow : OpenClaim := { program := "ytophfbnajelknaa", sum := "10e81e9d71c45de2a540d74b337e6352181b6c8c844f441d28bc3dd4c7a17bc4", func := "quitrent/quitrentlaw11.DutyTurned", spec := "dutyTurned", unfollowed := true, recurses := true, plainKeys := false, apart := false, narrowed := true }
def DutyTurnedUptoSaid : Prop := dutyTurnedUptoRow.holds Try.pinned (OpenSpec.upto dutyTurnedSpec)

end Rows
end Go.Proofs.Ytophfbnajelknaa
