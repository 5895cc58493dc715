/-
  No cell of these rows narrows 'for every input' (looked for: loops, veiled, ifaces, maps, wideKeys, modest, calm, conditions, laid).
  DERIVED. THE GIVEN ROWS OF THIS SEAT. 4 by the template 'for every input the law returns true; each argument reads behind the call as it read before'; 0 by the template 'total and deterministic' (their statements: YtecmpkcjeaiknaaTotals.lean).
  GIVEN WITH THE SEED: the statements are not yours to turn. If you find one false, say at which input.
  Laid BY PROGRAM, IN A SANDBOX (cutbox-rows.mjs): the forced cells as the released guide's own fill.sh prints them over the translation 718e8c7e83963d11… (all of the seat's roots in one cut). By AI agents, Wed Nov 11 2026. No macro, syntax, notation, axiom, sorry.
-/
import Derived.Test.YtecmpkcjeaiknaaChecked
import GoSem.Claim
import GoSem.ClaimJoined
import GoSem.ClaimMapViews
import Derived.JoinedTies
import Derived.KernelRfl
namespace Go.Proofs.Ytecmpkcjeaiknaa
/- THE CELL 'sum', in the pinned program and in every row, IS THE sha256 OF THE DUMP (.gsa) THAT YtecmpkcjeaiknaaProg.lean LOADS. Nothing in Lean hashes anything: it is a label: what it is worth is what the hold of that sum in a sandbox is worth. -/
noncomputable def Try.pinned : Pinned := { name := "ytecmpkcjeaiknaa", sum := "718e8c7e83963d11309853f920b7a69a77e592bf6192d30ba9d7626417382d54", checked := Try.checked }
namespace Rows
def none {H : Type} : Left H := { results := [], args := [] }

/-- 'customslaw35.TransitArrival': WHATEVER THE INPUT: true; the input reads as it did. -/
def transitArrivalSpec : ChangeSpec := { name := "transitArrival", fn := fun _ => fun
  | [d1, d2, d3, d4, d5, d6, d7] => { results := [.lit (.bool true)], args := [d1, d2, d3, d4, d5, d6, d7] }
  | _ => none }
def transitArrivalRow : OpenClaim := { program := "ytecmpkcjeaiknaa", sum := "718e8c7e83963d11309853f920b7a69a77e592bf6192d30ba9d7626417382d54", func := "customs/customslaw35.TransitArrival", spec := "transitArrival", recurses := true, apart := false }
def TransitArrivalSaid : Prop := transitArrivalRow.holds Try.pinned (OpenSpec.ofChange transitArrivalSpec)

/-- ITS FALSE NEIGHBOUR: 'it returns false'. Refute it at one input. -/
def transitArrivalWrong : ChangeSpec := { name := "transitArrival", fn := fun _ => fun
  | [d1, d2, d3, d4, d5, d6, d7] => { results := [.lit (.bool false)], args := [d1, d2, d3, d4, d5, d6, d7] }
  | _ => none }
def TransitArrivalWrongFalsely : Prop := transitArrivalRow.holds Try.pinned (OpenSpec.ofChange transitArrivalWrong)

/-- 'customslaw35.TransitOneEnd': WHATEVER THE INPUT: true; the input reads as it did. -/
def transitOneEndSpec : ChangeSpec := { name := "transitOneEnd", fn := fun _ => fun
  | [d1, d2, d3] => { results := [.lit (.bool true)], args := [d1, d2, d3] }
  | _ => none }
def transitOneEndRow : OpenClaim := { program := "ytecmpkcjeaiknaa", sum := "718e8c7e83963d11309853f920b7a69a77e592bf6192d30ba9d7626417382d54", func := "customs/customslaw35.TransitOneEnd", spec := "transitOneEnd", recurses := true, apart := false }
def TransitOneEndSaid : Prop := transitOneEndRow.holds Try.pinned (OpenSpec.ofChange transitOneEndSpec)

/-- ITS FALSE NEIGHBOUR: 'it returns false'. Refute it at one input. -/
def transitOneEndWrong : ChangeSpec := { name := "transitOneEnd", fn := fun _ => fun
  | [d1, d2, d3] => { results := [.lit (.bool false)], args := [d1, d2, d3] }
  | _ => none }
def TransitOneEndWrongFalsely : Prop := transitOneEndRow.holds Try.pinned (OpenSpec.ofChange transitOneEndWrong)

/-- 'customslaw35.TransitSeals': WHATEVER THE INPUT: true; the input reads as it did. -/
def transitSealsSpec : ChangeSpec := { name := "transitSeals", fn := fun _ => fun
  | [d1, d2, d3, d4, d5, d6] => { results := [.lit (.bool true)], args := [d1, d2, d3, d4, d5, d6] }
  | _ => none }
def transitSealsRow : OpenClaim := { program := "ytecmpkcjeaiknaa", sum := "718e8c7e83963d11309853f920b7a69a77e592bf6192d30ba9d7626417382d54", func := "customs/customslaw35.TransitSeals", spec := "transitSeals", unfollowed := true, recurses := true, apart := false }
def TransitSealsSaid : Prop := transitSealsRow.holds Try.pinned (OpenSpec.ofChange transitSealsSpec)

/-- ITS FALSE NEIGHBOUR: 'it returns false'. Refute it at one input. -/
def transitSealsWrong : ChangeSpec := { name := "transitSeals", fn := fun _ => fun
  | [d1, d2, d3, d4, d5, d6] => { results := [.lit (.bool false)], args := [d1, d2, d3, d4, d5, d6] }
  | _ => none }
def TransitSealsWrongFalsely : Prop := transitSealsRow.holds Try.pinned (OpenSpec.ofChange transitSealsWrong)

/-- 'customslaw35.TransitBelief': WHATEVER THE INPUT: true; the input reads as it did. -/
def transitBeliefSpec : ChangeSpec := { name := "transitBelief", fn := fun _ => fun
  | [d1, d2, d3] => { results := [.lit (.bool true)], args := [d1, d2, d3] }
  | _ => none }
def transitBeliefRow : OpenClaim := { program := "ytecmpkcjeaiknaa", sum := "718e8c7e83963d11309853f920b7a69a77e592bf6192d30ba9d7626417382d54", func := "customs/customslaw35.TransitBelief", spec := "transitBelief", unfollowed := true, recurses := true, apart := false }
def TransitBeliefSaid : Prop := transitBeliefRow.holds Try.pinned (OpenSpec.ofChange transitBeliefSpec)

/-- ITS FALSE NEIGHBOUR: 'it returns false'. Refute it at one input. -/
def transitBeliefWrong : ChangeSpec := { name := "transitBelief", fn := fun _ => fun
  | [d1, d2, d3] => { results := [.lit (.bool false)], args := [d1, d2, d3] }
  | _ => none }
def TransitBeliefWrongFalsely : Prop := transitBeliefRow.holds Try.pinned (OpenSpec.ofChange transitBeliefWrong)

/- THE SECOND FORM. 'bulk': how many values and letters a reading holds, each counted each time it is reached (what is shared counts as often as it is met; a slice's spare places count too). A statement '..UptoSaid' is the law's where the arguments, and the package variables that the reading takes, are together of bulk at most 1048576: NARROWER than '..Said'. Prove '..Said' where nothing that the law and all that it calls make is longer than what came in: it says more and counts as full. Else prove '..UptoSaid'. A law counts once. -/
mutual
def uptoBulk {H : Type} : DataW H → Nat
  | .lit (.string bytes) => bytes.length + 1
  | .lit _ => 1
  | .nil => 1
  | .ptr d => uptoBulk d + 1
  | .slice elems spare => uptoBulkAll elems + uptoBulkAll spare + 1
  | .agg parts => uptoBulkAll parts + 1
  | .iface _ d => uptoBulk d + 1
  | .map entries => uptoBulkEntries entries + 1
  | .held _ => 1
def uptoBulkAll {H : Type} : List (DataW H) → Nat
  | [] => 0
  | d :: r => uptoBulk d + uptoBulkAll r
def uptoBulkEntries {H : Type} : List (Lit × DataW H) → Nat
  | [] => 0
  | x :: r => uptoBulkEntry x + uptoBulkEntries r
def uptoBulkEntry {H : Type} : Lit × DataW H → Nat
  | (.string bytes, d) => bytes.length + uptoBulk d + 1
  | (_, d) => uptoBulk d + 1
 end
def uptoSmall : (H : Type) → List (DataW H) → Bool := fun _ ds => decide (uptoBulkAll ds ≤ 1048576)
def OpenSpec.upto (s : _root_.Go.ChangeSpec) : _root_.Go.OpenSpec := { _root_.Go.OpenSpec.ofChange s with cond := some uptoSmall }

/-- 'customslaw35.TransitArrival', WHERE WHAT IT READS IS OF BULK AT MOST 1048576: true; the input reads as it did. -/
def transitArrivalUptoRow : OpenClaim := { program := "ytecmpkcjeaiknaa", sum := "718e8c7e83963d11309853f920b7a69a77e592bf6192d30ba9d7626417382d54", func := "customs/customslaw35.TransitArrival", spec := "transitArrival", recurses := true, apart := false, narrowed := true }
def TransitArrivalUptoSaid : Prop := transitArrivalUptoRow.holds Try.pinned (OpenSpec.upto transitArrivalSpec)

/-- 'customslaw35.TransitOneEnd', WHERE WHAT IT READS IS OF BULK AT MOST 1048576: true; the input reads as it did. -/
def transitOneEndUptoRow : OpenClaim := { program := "ytecmpkcjeaiknaa", sum := "718e8c7e83963d11309853f920b7a69a77e592bf6192d30ba9d7626417382d54", func := "customs/customslaw35.TransitOneEnd", spec := "transitOneEnd", recurses := true, apart := false, narrowed := true }
def TransitOneEndUptoSaid : Prop := transitOneEndUptoRow.holds Try.pinned (OpenSpec.upto transitOneEndSpec)

/-- 'customslaw35.TransitSeals', WHERE WHAT IT READS IS OF BULK AT MOST 1048576: true; the input reads as it did. -/
def transitSealsUptoRow : OpenClaim := { program := "ytecmpkcjeaiknaa", sum := "718e8c7e83963d11309853f920b7a69a77e592bf6192d30ba9d7626417382d54", func := "customs/customslaw35.TransitSeals", spec := "transitSeals", unfollowed := true, recurses := true, apart := false, narrowed := true }
def TransitSealsUptoSaid : Prop := transitSealsUptoRow.holds Try.pinned (OpenSpec.upto transitSealsSpec)

/-- 'customslaw35.TransitBelief', WHERE WHAT IT READS IS OF BULK AT MOST 1048576: true; the input reads as it did. -/
def transitBeliefUptoRow : OpenClaim := { program := "ytecmpkcjeaiknaa", sum := "718e8c7e83963d11309853f920b7a69a77e592bf6192d30ba9d7626417382d54", func := "customs/customslaw35.TransitBelief", spec := "transitBelief", unfollowed := true, recurses := true, apart := false, narrowed := true }
def TransitBeliefUptoSaid : Prop := transitBeliefUptoRow.holds Try.pinned (OpenSpec.upto transitBeliefSpec)

end Rows
end Go.Proofs.Ytecmpkcjeaiknaa
