/- A region that draws its order, whose operations read and whose callees leave all that was there as it was: one walk, in the order of the text. -/
import Derived.Test.YtikbjaopcminaaaDoorExtS
import Derived.BigQuiet
namespace Go.Proofs.YtikbjaopcminaaaDoor
open Go.RowKit
/-- The worlds in which all that was there in w is as it was. -/
structure ExtOf (w : World) where
  val : World
  ext : Ext w val
instance (w : World) : Nonempty (ExtOf w) := ⟨⟨w, Ext.refl w⟩⟩
theorem latersU {w : World} {a : Addr} {v : Value} (h : w.cell? a = some v) : ∀ u : ExtOf w, u.val.cell? a = some v := fun u => later u.ext h
theorem Calls.quiet_ext {P : Program} {f : FuncId} {args : Array Value} {w : World} {u : ExtOf w} {v : Value}
    (h : Calls P f args u.1 fun e w' => e = .returned v ∧ Ext u.1 w') : Calls P f args u.1 fun e w'' => e = .returned v ∧ ∃ u' : ExtOf w, w'' = u'.1 :=
  h.mono fun _ w'' ⟨he, hE⟩ => ⟨he, ⟨w'', u.ext.trans hE⟩, rfl⟩
theorem wp_region_ext_lit {P : Program} {id : Nat} {Q : Exit → Act → World → Prop} {a : Act} {w : World} {l : List Oper} (hm : P.follows .mixedOrders = true) (hB : Region.lexB .any l.toArray = true)
    (h : wpQuiet P l.toArray (fun w' => ∃ u : ExtOf w, w' = u.1) (fun a' => ∀ w', (∃ u : ExtOf w, w' = u.1) → Q .normal a' w') l a) : (Code.region id l.toArray true).wp P Q a w :=
  wp_region_quiet (C := fun w' => ∃ u : ExtOf w, w' = u.1) hm hB ⟨⟨w.drew, (Ext.refl w).drew⟩, rfl⟩ (by simpa using h)
end Go.Proofs.YtikbjaopcminaaaDoor
