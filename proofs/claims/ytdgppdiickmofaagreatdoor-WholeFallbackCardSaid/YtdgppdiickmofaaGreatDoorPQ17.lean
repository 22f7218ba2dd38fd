/- A drawn region, one operation after the other. -/
import Derived.Test.YtdgppdiickmofaaGreatDoorPQ01
import Derived.Deep.RegionHeld3
import Derived.Laws.Tables
namespace Go.Proofs.YtdgppdiickmofaaGreatDoor
open Go.RowKit
set_option maxRecDepth 100000
section
variable {P : Program} {md : Region.Mode} {ops : Array Oper} {Q : Exit → Act → World → Prop} {S : World → Prop}
theorem wpAnyH_takeD {i d : Nat} {oi : Oper} {v : Value} {fuel : Nat} {listed : Array Bool} {a : Act} {w : World} (hi : ops[i]? = some oi) (hd : oi.dst = some d)
    (hs : Region.noSelect ops = true) (hf : Region.free md ops listed i = true) (hr : (Region.ready md ops listed).contains i = true)
    (hQ : ∀ c a w, Q (.panic c) (a.put oi.dst v) w → Q (.panic c) a w) (hy : YieldsIf P ops S oi v a) (hS : S w)
    (h : wpAnyH P md ops Q S fuel (listed.setIfInBounds i true) (a.put (some d) v) w) : wpAnyH P md ops Q S (fuel + 1) listed a w :=
  wpAnyH_take hi hs hf hr hQ hy hS (by rw [hd]; exact h)
/-- A store that alone may come up next. -/
theorem wpAnyH_storeR {i g : Nat} {ty t : TypeId} {x y : Operand} {oi : Oper} {fuel : Nat} {listed : Array Bool} {a : Act} {w : World} {cells old : Array Value} (hr : Region.ready md ops listed = [i]) (hi : ops[i]? = some oi) (hgd : oi.guard = none) (hd : oi.dst = none) (ho : oi.op = .store ty x y)
    (hx : a.eval x = .pointer (some ⟨g, 0, none⟩)) (hy : a.eval y = .agg cells) (hg : Blk w g t old) (hc : (P.info? ty).map (·.size) = some cells.size) (hold : old.size = cells.size) (h1 : cells.all (·.oneCell') = true)
    (hS : S (w.setRow g cells)) (h : wpAnyH P md ops Q S fuel (listed.setIfInBounds i true) a (w.setRow g cells)) : wpAnyH P md ops Q S (fuel + 1) listed a w := by
  refine wpAnyH_ready hr (by simp) (AllReadyH.cons hi (fun K hK => ?_) AllReadyH.nil)
  have hw : Region.wanted oi (yielded ops a.tmps) = true := by simp [Region.wanted, hgd]
  rw [if_pos hw]
  refine wp_store_row ty x y ho g cells hx hy t old hg hc hold h1 ?_
  have e : a.put oi.dst undef = a := by rw [hd]; rfl
  rw [e]
  exact hK.out _ _ hS fun _ => h
end
end Go.Proofs.YtdgppdiickmofaaGreatDoor
