/- Regions that draw their order, inside a round of a range over a function, behind the wide fence. -/
import Derived.Test.YtdgppdiickmofaaGreatDoorPQ17
import Derived.OrdersIn
import Derived.RangeFuncCalls
namespace Go.Proofs.YtdgppdiickmofaaGreatDoor
open Go.RowKit
set_option maxRecDepth 100000
/-- The wide fence, in round l. -/
abbrev WR (l : Nat) : Fence := Fence.wide.inRound l
section
variable {P : Program} {ops : Array Oper} {Q : Exit → Act → World → Prop} {K : Act → World → Prop} {a : Act} {w : World} {l n : Nat} {md : Region.Mode}
theorem callsWR {f : FuncId} {args : Array Value} {R : Ending → World → Prop} (h : Calls P f args w R) : CallsIn (WR l) n P f args w R := CallsIn.inRound l (callsIn_wide.2 h)
theorem callsW {f : FuncId} {args : Array Value} {R : Ending → World → Prop} (h : Calls P f args w R) : CallsIn Fence.wide n P f args w R := callsIn_wide.2 h
theorem op_in {o : Oper} (hd : ∀ c, o.op ≠ .defer c) (h : o.wp P a w K Q) : o.wpIn (WR l) n P a w K Q := by
  refine ⟨fun _ _ => trivial, ?_⟩
  rw [show (WR l).round = some l from rfl, Oper.semAt_some l _ _ hd]
  unfold Oper.wp at h
  generalize (execOp a.eval o).run P w = r at *
  cases r with
  | ok x w' =>
    cases x with
    | value v => exact h
    | skip => exact h
    | defer d => exact h
    | enter f args => exact ⟨fun e => absurd e (by simp [Fence.inRound, Fence.wide]), callsWR h⟩
    | row r args => exact ⟨fun e => absurd e (by simp [Fence.inRound, Fence.wide]), fun c cs _ => by
        obtain ⟨v, w2, h1, h2⟩ := h c cs
        exact ⟨v, w2, h1, stepsIn_wide.2 h2⟩⟩
    | _ => exact h.elim
  | halt x w' => cases x <;> first | exact h | exact h.elim
def noDefer (ops : Array Oper) : Bool := ops.all fun o => match o.op with | .defer _ => false | _ => true
theorem noDefer_at (h : noDefer ops = true) {i : Nat} {o : Oper} (hi : ops[i]? = some o) : ∀ c, o.op ≠ .defer c := by
  intro c hc
  have h1 := Array.all_eq_true.1 h i (Array.getElem?_eq_some_iff.1 hi).1
  rw [(Array.getElem?_eq_some_iff.1 hi).2, hc] at h1
  cases h1
theorem any_in (hL : ¬ LetsOut Q) (hd : noDefer ops = true) : ∀ (fuel : Nat) (listed : Array Bool) (a : Act) (w : World), wpAny P md ops Q fuel listed a w → wpAnyIn (WR l) n P md ops Q fuel listed a w
  | 0, _, _, _, h => h
  | fuel + 1, listed, a, w, h => ⟨h.1, fun i hi => by
      have h2 := wpOp_mono (K' := wpAnyIn (WR l) n P md ops Q fuel (listed.setIfInBounds i true)) (fun a' w' h' => any_in hL hd fuel _ a' w' h') (h.2 i hi)
      unfold wpOp at h2
      unfold wpOpIn
      cases ho : ops[i]? with
      | none => rw [ho] at h2; exact h2
      | some o =>
        rw [ho] at h2
        dsimp only at h2 ⊢
        split
        · rename_i hw
          rw [if_pos hw] at h2
          exact op_in (noDefer_at hd ho) (h2.resolve_right fun e => hL e.2)
        · rename_i hw
          rw [if_neg hw] at h2
          exact ⟨fun _ _ => trivial, h2⟩⟩
theorem wpIn_region_heldW {S : World → Prop} {id : Nat} (hL : ¬ LetsOut Q) (hd : noDefer ops = true) (hm : P.follows .mixedOrders = true)
    (h : wpAnyH P .any ops Q S ops.size (Array.replicate ops.size false) a { w with drawn := w.drawn + 1 }) : (Code.region id ops true).wpIn (WR l) n P Q a w :=
  wpIn_region_any hm (any_in hL hd _ _ _ _ (wpAny_of_held _ _ _ _ h))
theorem wpIn_region_quietW {C : World → Prop} {id : Nat} (hL : ¬ LetsOut Q) (hd : noDefer ops = true) (hm : P.follows .mixedOrders = true) (hB : Region.lexB .any ops = true) (hC : C { w with drawn := w.drawn + 1 })
    (h : wpQuiet P ops C (fun a' => ∀ w', C w' → Q .normal a' w') ops.toList a) : (Code.region id ops true).wpIn (WR l) n P Q a w := by
  simp only [Region.lexB, Bool.and_eq_true] at hB
  refine wpIn_region_any hm (any_in hL hd _ _ _ _ (wpAny_of_quiet (Q := fun a' => ∀ w', C w' → Q .normal a' w') (fun _ w' hw' h => h w' hw') _ _ _ _ hC ?_))
  have := wpAnyQ_lex (C := C) (md := .any) hB.1 ops.toList 0 (Array.replicate ops.size false) a (by simp) (by simpa using hB.2) h
  simpa using this
theorem wpIn_region_extW {id : Nat} {L : List Oper} (hL : ¬ LetsOut Q) (hd : noDefer L.toArray = true) (hm : P.follows .mixedOrders = true) (hB : Region.lexB .any L.toArray = true)
    (h : wpQuiet P L.toArray (fun w' => ∃ u : ExtOf w, w' = u.1) (fun a' => ∀ w', (∃ u : ExtOf w, w' = u.1) → Q .normal a' w') L a) : (Code.region id L.toArray true).wpIn (WR l) n P Q a w :=
  wpIn_region_quietW (C := fun w' => ∃ u : ExtOf w, w' = u.1) hL hd hm hB ⟨⟨w.drew, (Ext.refl w).drew⟩, rfl⟩ (by simpa using h)
end
end Go.Proofs.YtdgppdiickmofaaGreatDoor
