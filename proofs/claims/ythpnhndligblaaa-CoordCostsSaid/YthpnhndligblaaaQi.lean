/- A region that draws its order and whose operations only read, its callees laying blocks of their own: walked once, in whatever worlds come of one by a frame. Conditions: none. -/
import Derived.Test.YthpnhndligblaaaBase
import Derived.BigQuiet
import Derived.Laws.Cover1
import Derived.Laws.StructEq
import Derived.Deep.RegionHeld3
import Derived.Deep.CutRange
import Derived.Deep.CutBlock
namespace Go.Proofs.Ythpnhndligblaaa
open Go.RowKit Go.Maps
/-- A world that comes of W by new blocks alone. -/
structure WIn (W : World) where
  w : World
  h : Chg NoB W w
instance (W : World) : Nonempty (WIn W) := ⟨⟨W, Chg.refl _ _⟩⟩
theorem WIn.cell {W : World} (p : WIn W) {a : Addr} {v : Value} (h : W.cell? a = some v) : p.w.cell? a = some v := p.h.cell h (by simp [NoB])
theorem wp_region_in {P : Program} {id : Nat} {Q : Exit → Act → World → Prop} {a : Act} {w : World} {l : List Oper} (W : World) (hW : Chg NoB W w) (hm : P.follows .mixedOrders = true) (hB : Region.lexB .any l.toArray = true)
    (h : wpQuiet P l.toArray (fun w' => ∃ p : WIn W, w' = p.w) (fun a' => ∀ w', (∃ p : WIn W, w' = p.w) → Q .normal a' w') l a) : (Code.region id l.toArray true).wp P Q a w :=
  wp_region_quiet (C := fun w' => ∃ p : WIn W, w' = p.w) hm hB ⟨⟨_, hW.drew⟩, rfl⟩ (by simpa using h)
theorem Calls.in_of {P : Program} {f : FuncId} {args : Array Value} {W : World} {p : WIn W} {v : Value} (h : Calls P f args p.w fun e w' => e = .returned v ∧ Chg NoB p.w w') :
    Calls P f args p.w fun e w' => e = .returned v ∧ ∃ q : WIn W, w' = q.w :=
  h.mono fun _ w' ⟨he, hc⟩ => ⟨he, ⟨w', p.h.trans hc (by simp [NoB])⟩, rfl⟩
end Go.Proofs.Ythpnhndligblaaa
