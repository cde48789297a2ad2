/-
  No cell of these rows narrows 'for every input' (looked for: loops, veiled, ifaces, maps, wideKeys, modest, calm, conditions, laid).
  DERIVED. THE GIVEN ROWS OF THIS SEAT. 5 by the template 'for every input the law returns true; each argument reads behind the call as it read before'; 0 by the template 'total and deterministic' (their statements: YtijieojklndakaaTotals.lean).
  GIVEN WITH THE SEED: the statements are not yours to turn. If you find one false, say at which input.
  Laid BY PROGRAM, IN A SANDBOX (cutbox-rows.mjs): the forced cells as the released guide's own fill.sh prints them over the translation b64df81bb5cc6b33… (all of the seat's roots in one cut). By AI agents, Wed Nov 11 2026. No macro, syntax, notation, axiom, sorry.
-/
import Derived.Test.YtijieojklndakaaChecked
import GoSem.Claim
import GoSem.ClaimJoined
import GoSem.ClaimMapViews
import Derived.JoinedTies
import Derived.KernelRfl
namespace Go.Proofs.Ytijieojklndakaa
/- THE CELL 'sum', in the pinned program and in every row, IS THE sha256 OF THE DUMP (.gsa) THAT YtijieojklndakaaProg.lean LOADS. Nothing in Lean hashes anything: it is a label: what it is worth is what the hold of that sum in a sandbox is worth. -/
noncomputable def Try.pinned : Pinned := { name := "ytijieojklndakaa", sum := "b64df81bb5cc6b330f4a0e90f5658b97bde2cf224c39c5c64c15c2385e2bc9fc", checked := Try.checked }
namespace Rows
def none {H : Type} : Left H := { results := [], args := [] }

/-- 'ceilidhlaw17.HostInputs': WHATEVER THE INPUT: true; the input reads as it did. -/
def hostInputsSpec : ChangeSpec := { name := "hostInputs", fn := fun _ => fun
  | [d1, d2, d3, d4] => { results := [.lit (.bool true)], args := [d1, d2, d3, d4] }
  | _ => none }
def hostInputsRow : OpenClaim := { program := "ytijieojklndakaa", sum := "b64df81bb5cc6b330f4a0e90f5658b97bde2cf224c39c5c64c15c2385e2bc9fc", func := "ceilidh/ceilidhlaw17.HostInputs", spec := "hostInputs", unfollowed := true, recurses := true, plainKeys := false, apart := false }
def HostInputsSaid : Prop := hostInputsRow.holds Try.pinned (OpenSpec.ofChange hostInputsSpec)

/-- ITS FALSE NEIGHBOUR: 'it returns false'. Refute it at one input. -/
def hostInputsWrong : ChangeSpec := { name := "hostInputs", fn := fun _ => fun
  | [d1, d2, d3, d4] => { results := [.lit (.bool false)], args := [d1, d2, d3, d4] }
  | _ => none }
def HostInputsWrongFalsely : Prop := hostInputsRow.holds Try.pinned (OpenSpec.ofChange hostInputsWrong)

/-- 'ceilidhlaw17.HostLate': WHATEVER THE INPUT: true; the input reads as it did. -/
def hostLateSpec : ChangeSpec := { name := "hostLate", fn := fun _ => fun
  | [d1, d2, d3] => { results := [.lit (.bool true)], args := [d1, d2, d3] }
  | _ => none }
def hostLateRow : OpenClaim := { program := "ytijieojklndakaa", sum := "b64df81bb5cc6b330f4a0e90f5658b97bde2cf224c39c5c64c15c2385e2bc9fc", func := "ceilidh/ceilidhlaw17.HostLate", spec := "hostLate", unfollowed := true, recurses := true, plainKeys := false, apart := false }
def HostLateSaid : Prop := hostLateRow.holds Try.pinned (OpenSpec.ofChange hostLateSpec)

/-- ITS FALSE NEIGHBOUR: 'it returns false'. Refute it at one input. -/
def hostLateWrong : ChangeSpec := { name := "hostLate", fn := fun _ => fun
  | [d1, d2, d3] => { results := [.lit (.bool false)], args := [d1, d2, d3] }
  | _ => none }
def HostLateWrongFalsely : Prop := hostLateRow.holds Try.pinned (OpenSpec.ofChange hostLateWrong)

/-- 'ceilidhlaw17.HostGoes': WHATEVER THE INPUT: true; the input reads as it did. -/
def hostGoesSpec : ChangeSpec := { name := "hostGoes", fn := fun _ => fun
  | [d1, d2, d3, d4] => { results := [.lit (.bool true)], args := [d1, d2, d3, d4] }
  | _ => none }
def hostGoesRow : OpenClaim := { program := "ytijieojklndakaa", sum := "b64df81bb5cc6b330f4a0e90f5658b97bde2cf224c39c5c64c15c2385e2bc9fc", func := "ceilidh/ceilidhlaw17.HostGoes", spec := "hostGoes", unfollowed := true, recurses := true, plainKeys := false, apart := false }
def HostGoesSaid : Prop := hostGoesRow.holds Try.pinned (OpenSpec.ofChange hostGoesSpec)

/-- ITS FALSE NEIGHBOUR: 'it returns false'. Refute it at one input. -/
def hostGoesWrong : ChangeSpec := { name := "hostGoes", fn := fun _ => fun
  | [d1, d2, d3, d4] => { results := [.lit (.bool false)], args := [d1, d2, d3, d4] }
  | _ => none }
def HostGoesWrongFalsely : Prop := hostGoesRow.holds Try.pinned (OpenSpec.ofChange hostGoesWrong)

/-- 'ceilidhlaw17.HostJoins': WHATEVER THE INPUT: true; the input reads as it did. -/
def hostJoinsSpec : ChangeSpec := { name := "hostJoins", fn := fun _ => fun
  | [d1, d2, d3, d4] => { results := [.lit (.bool true)], args := [d1, d2, d3, d4] }
  | _ => none }
def hostJoinsRow : OpenClaim := { program := "ytijieojklndakaa", sum := "b64df81bb5cc6b330f4a0e90f5658b97bde2cf224c39c5c64c15c2385e2bc9fc", func := "ceilidh/ceilidhlaw17.HostJoins", spec := "hostJoins", unfollowed := true, recurses := true, plainKeys := false, apart := false }
def HostJoinsSaid : Prop := hostJoinsRow.holds Try.pinned (OpenSpec.ofChange hostJoinsSpec)

/-- ITS FALSE NEIGHBOUR: 'it returns false'. Refute it at one input. -/
def hostJoinsWrong : ChangeSpec := { name := "hostJoins", fn := fun _ => fun
  | [d1, d2, d3, d4] => { results := [.lit (.bool false)], args := [d1, d2, d3, d4] }
  | _ => none }
def HostJoinsWrongFalsely : Prop := hostJoinsRow.holds Try.pinned (OpenSpec.ofChange hostJoinsWrong)

/-- 'ceilidhlaw17.HostFull': WHATEVER THE INPUT: true; the input reads as it did. -/
def hostFullSpec : ChangeSpec := { name := "hostFull", fn := fun _ => fun
  | [d1, d2] => { results := [.lit (.bool true)], args := [d1, d2] }
  | _ => none }
def hostFullRow : OpenClaim := { program := "ytijieojklndakaa", sum := "b64df81bb5cc6b330f4a0e90f5658b97bde2cf224c39c5c64c15c2385e2bc9fc", func := "ceilidh/ceilidhlaw17.HostFull", spec := "hostFull", unfollowed := true, recurses := true, plainKeys := false, apart := false }
def HostFullSaid : Prop := hostFullRow.holds Try.pinned (OpenSpec.ofChange hostFullSpec)

/-- ITS FALSE NEIGHBOUR: 'it returns false'. Refute it at one input. -/
def hostFullWrong : ChangeSpec := { name := "hostFull", fn := fun _ => fun
  | [d1, d2] => { results := [.lit (.bool false)], args := [d1, d2] }
  | _ => none }
def HostFullWrongFalsely : Prop := hostFullRow.holds Try.pinned (OpenSpec.ofChange hostFullWrong)

/- THE SECOND FORM. 'bulk': how many values and letters a reading holds, each counted each time it is reached (what is shared counts as often as it is met; a slice's spare places count too). A statement '..UptoSaid' is the law's where the arguments, and the package variables that the reading takes, are together of bulk at most 1048576: NARROWER than '..Said'. Prove '..Said' where nothing that the law and all that it calls make is longer than what came in: it says more and counts as full. Else prove '..UptoSaid'. A law counts once. -/
mutual
def uptoBulk {H : Type} : DataW H → Nat
  | .lit (.string bytes) => bytes.length + 1
  | .lit _ => 1
  | .nil => 1
  | .ptr d => uptoBulk d + 1
  | .slice elems spare => uptoBulkAll elems + uptoBulkAll spare + 1
  | .agg parts => uptoBulkAll parts + 1
  | .iface _ d => uptoBulk d + 1
  | .map entries => uptoBulkEntries entries + 1
  | .held _ => 1
def uptoBulkAll {H : Type} : List (DataW H) → Nat
  | [] => 0
  | d :: r => uptoBulk d + uptoBulkAll r
def uptoBulkEntries {H : Type} : List (Lit × DataW H) → Nat
  | [] => 0
  | x :: r => uptoBulkEntry x + uptoBulkEntries r
def uptoBulkEntry {H : Type} : Lit × DataW H → Nat
  | (.string bytes, d) => bytes.length + uptoBulk d + 1
  | (_, d) => uptoBulk d + 1
 end
def uptoSmall : (H : Type) → List (DataW H) → Bool := fun _ ds => decide (uptoBulkAll ds ≤ 1048576)
def OpenSpec.upto (s : _root_.Go.ChangeSpec) : _root_.Go.OpenSpec := { _root_.Go.OpenSpec.ofChange s with cond := some uptoSmall }

/-- 'ceilidhlaw17.HostInputs', WHERE WHAT IT READS IS OF BULK AT MOST 1048576: true; the input reads as it did. -/
def hostInputsUptoRow : OpenClaim := { program := "ytijieojklndakaa", sum := "b64df81bb5cc6b330f4a0e90f5658b97bde2cf224c39c5c64c15c2385e2bc9fc", func := "ceilidh/ceilidhlaw17.HostInputs", spec := "hostInputs", unfollowed := true, recurses := true, plainKeys := false, apart := false, narrowed := true }
def HostInputsUptoSaid : Prop := hostInputsUptoRow.holds Try.pinned (OpenSpec.upto hostInputsSpec)

/-- 'ceilidhlaw17.HostLate', WHERE WHAT IT READS IS OF BULK AT MOST 1048576: true; the input reads as it did. -/
def hostLateUptoRow : OpenClaim := { program := "ytijieojklndakaa", sum := "b64df81bb5cc6b330f4a0e90f5658b97bde2cf224c39c5c64c15c2385e2bc9fc", func := "ceilidh/ceilidhlaw17.HostLate", spec := "hostLate", unfollowed := true, recurses := true, plainKeys := false, apart := false, narrowed := true }
def HostLateUptoSaid : Prop := hostLateUptoRow.holds Try.pinned (OpenSpec.upto hostLateSpec)

/-- 'ceilidhlaw17.HostGoes', WHERE WHAT IT READS IS OF BULK AT MOST 1048576: true; the input reads as it did. -/
def hostGoesUptoRow : OpenClaim := { program := "ytijieojklndakaa", sum := "b64df81bb5cc6b330f4a0e90f5658b97bde2cf224c39c5c64c15c2385e2bc9fc", func := "ceilidh/ceilidhlaw17.HostGoes", spec := "hostGoes", unfollowed := true, recurses := true, plainKeys := false, apart := false, narrowed := true }
def HostGoesUptoSaid : Prop := hostGoesUptoRow.holds Try.pinned (OpenSpec.upto hostGoesSpec)

/-- 'ceilidhlaw17.HostJoins', WHERE WHAT IT READS IS OF BULK AT MOST 1048576: true; the input reads as it did. -/
def hostJoinsUptoRow : OpenClaim := { program := "ytijieojklndakaa", sum := "b64df81bb5cc6b330f4a0e90f5658b97bde2cf224c39c5c64c15c2385e2bc9fc", func := "ceilidh/ceilidhlaw17.HostJoins", spec := "hostJoins", unfollowed := true, recurses := true, plainKeys := false, apart := false, narrowed := true }
def HostJoinsUptoSaid : Prop := hostJoinsUptoRow.holds Try.pinned (OpenSpec.upto hostJoinsSpec)

/-- 'ceilidhlaw17.HostFull', WHERE WHAT IT READS IS OF BULK AT MOST 1048576: true; the input reads as it did. -/
def hostFullUptoRow : OpenClaim := { program := "ytijieojklndakaa", sum := "b64df81bb5cc6b330f4a0e90f5658b97bde2cf224c39c5c64c15c2385e2bc9fc", func := "ceilidh/ceilidhlaw17.HostFull", spec := "hostFull", unfollowed := true, recurses := true, plainKeys := false, apart := false, narrowed := true }
def HostFullUptoSaid : Prop := hostFullUptoRow.holds Try.pinned (OpenSpec.upto hostFullSpec)

end Rows
end Go.Proofs.Ytijieojklndakaa
