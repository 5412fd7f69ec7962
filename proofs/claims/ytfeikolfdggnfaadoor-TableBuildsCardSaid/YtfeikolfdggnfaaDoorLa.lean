/- Regions that draw their order, whose callees may lay blocks: one walk in the order of the text, over whatever later world. -/
import Derived.Test.YtfeikolfdggnfaaDoorRows
import Derived.WalkKit
import Derived.Deep.QuietTactic
import Derived.BigQuiet
import Derived.Lib.Hide
namespace Go.Proofs.YtfeikolfdggnfaaDoor
open Go.RowKit

/-- A world behind w: whatever lay in w lies as it lay. -/
structure Later (w : World) where
  val : World
  below : Below w.heap.size w val

instance (w : World) : Nonempty (Later w) := ⟨⟨w, Below.refl _ _⟩⟩

theorem wp_region_later {P : Program} {Q : Exit → Act → World → Prop} {id : Nat} {a : Act} {w : World} {l : List Oper} (hm : P.follows .mixedOrders = true) (hB : Region.lexB .any l.toArray = true)
    (h : wpQuiet P l.toArray (fun w' => ∃ u : Later w, w' = u.val) (fun a' => ∀ w', (∃ u : Later w, w' = u.val) → Q .normal a' w') l a) : (Code.region id l.toArray true).wp P Q a w :=
  wp_region_quiet (C := fun w' => ∃ u : Later w, w' = u.val) hm hB ⟨⟨w.drew, (Below.refl _ _).drew⟩, rfl⟩ (by simpa using h)

theorem Later.cell {w : World} {a : Addr} {v : Value} (h : w.cell? a = some v) (u : Later w) : u.val.cell? a = some v := (u.below.cell (World.block_lt_of_cell? w _ h)).trans h

/-- A callee's contract, met in a later world. -/
theorem Calls.later {P : Program} {f : FuncId} {args : Array Value} {w : World} {u : Later w} {v : Value} (h : Calls P f args u.val fun e w' => e = .returned v ∧ Below u.val.heap.size u.val w') :
    Calls P f args u.val fun e w' => e = .returned v ∧ ∃ u' : Later w, w' = u'.val :=
  h.mono fun _ w' h => ⟨h.1, ⟨w', u.below.trans (h.2.mono u.below.size)⟩, rfl⟩

end Go.Proofs.YtfeikolfdggnfaaDoor
