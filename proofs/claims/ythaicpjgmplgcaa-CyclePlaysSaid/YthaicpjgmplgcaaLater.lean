/- A drawn region whose operations read and call, and whose callees may make memory but turn nothing that was there: one walk. -/
import Derived.Test.YthaicpjgmplgcaaLib
namespace Go.Proofs.Ythaicpjgmplgcaa
open Go.RowKit

/-- A world in which what was there is as it was. -/
structure Later (w : World) where
  val : World
  up : Upd (fun _ => False) w val

instance Later.nonempty (w : World) : Nonempty (Later w) := ⟨⟨w, Upd.refl _ _⟩⟩

theorem wp_region_later {P : Program} {id : Nat} {Q : Exit → Act → World → Prop} {a : Act} {w : World} {l : List Oper} (hm : P.follows .mixedOrders = true) (hB : Region.lexB .any l.toArray = true)
    (h : wpQuiet P l.toArray (fun w' => ∃ s : Later w, w' = s.val) (fun a' => ∀ w', (∃ s : Later w, w' = s.val) → Q .normal a' w') l a) : (Code.region id l.toArray true).wp P Q a w :=
  wp_region_quiet (C := fun w' => ∃ s : Later w, w' = s.val) hm hB ⟨⟨w.drew, (Upd.refl _ _).drew⟩, rfl⟩ (by simpa using h)

theorem calls_later {P : Program} {f : FuncId} {args : Array Value} {w w' : World} {v : Value} (h : Calls P f args w' (fun e w'' => e = .returned v ∧ Upd (fun _ => False) w w'')) :
    Calls P f args w' (fun e w'' => e = .returned v ∧ ∃ s : Later w, w'' = s.val) :=
  h.mono fun _ w'' ⟨h1, h2⟩ => ⟨h1, ⟨w'', h2⟩, rfl⟩
end Go.Proofs.Ythaicpjgmplgcaa
