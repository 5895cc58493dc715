/- A drawn region whose first n operations only read or call quietly, and whose rest stands in one forced order: the library's law with the draw written as 'drew'. -/
import Derived.StillTailTactics
import Derived.Lib.Hide
namespace Go.Proofs.YtecmpkcjeaiknaaDoor
theorem wp_region_tail {P : Program} {id : Nat} {Q : Exit → Act → World → Prop} {a : Act} {w : World} {l : List Oper} (n : Nat) (hm : P.follows .mixedOrders = true) (hB : Region.lexTailB .any l.toArray n = true)
    (h : wpStill P l.toArray w.drew (fun a' => wpList P l.toArray Q (l.drop n) a' w.drew) (l.take n) a) : (Code.region id l.toArray true).wp P Q a w :=
  wp_region_still_tail n hm hB h
/-- a quiet contract with the world on the left, as a still call asks it -/
theorem stillC {P : Program} {f : FuncId} {args : Array Value} {w : World} {v : Value} (h : Calls P f args w fun e w' => e = .returned v ∧ w = w') : Calls P f args w fun e w' => e = .returned v ∧ w' = w :=
  h.mono fun _ _ ⟨a, b⟩ => ⟨a, b.symm⟩
end Go.Proofs.YtecmpkcjeaiknaaDoor
