/- Owned rows and stores into other blocks. -/
import Derived.Test.YtdgppdiickmofaaGreatDoorPQ14
namespace Go.Proofs.YtdgppdiickmofaaGreatDoor
open Go.RowKit
set_option maxRecDepth 100000
section
variable {α : Type} {cs : α → List Value} {t e : TypeId} {k by_ : Nat} {w : World} {base : Nat} {A : Option Addr} {m c : Nat} {l : List α}
theorem OsC.blk_ (h : OsC cs e k w base A m c l) {j : Nat} (hj : ob A = some j) : ∃ xs, Blk w j e xs := by
  rcases h.own.2 with hv | ⟨g', cap, cur, hv, hbg, hb, r⟩
  · have hv := hv.1
    injection hv with hv
    rw [hv] at hj
    cases hj
  · injection hv with hv
    rw [hv] at hj
    injection hj with hj
    subst hj
    exact ⟨_, hb⟩
theorem grownSet (w : World) (p : Addr) (u : Value) : w.grownBy (w.setCell p u) (some p.block) :=
  ⟨rfl, rfl, rfl, by simp, fun k hk hn => Below.heap_setCell w p u k (fun e => hn (by rw [e]))⟩
theorem OsC.setFar {g : Nat} {t2 : TypeId} {xs : Array Value} (h : OsC cs e k w base A m c l) (hb : Blk w g t2 xs) (hne : e ≠ t2) (i : Nat) (u : Value) : OsC cs e k (w.setCell ⟨g, i, none⟩ u) base A m c l :=
  h.kept (grownSet w ⟨g, i, none⟩ u) (Or.inr fun e2 => by
    obtain ⟨ys, hy⟩ := h.blk_ e2
    exact Blk.ne_ hy hb hne rfl)
end
end Go.Proofs.YtdgppdiickmofaaGreatDoor
