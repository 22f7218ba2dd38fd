/- The whole fallback: the frame of the law; internal/bytealg.MaxLen; its example. -/
import Derived.Test.YtdgppdiickmofaaGreatDoorPQ28
import Derived.Test.YtdgppdiickmofaaGreatDoorPQ46
import Derived.Test.YtdgppdiickmofaaGreatDoorPQ47
import Derived.Test.YtdgppdiickmofaaGreatDoorPQ48
import Derived.Test.YtdgppdiickmofaaGreatDoorPQ03
import Derived.HandedShaped
import Derived.Handed
import Derived.Shelf.Vars
namespace Go.Proofs.YtdgppdiickmofaaGreatDoor
open Go.RowKit
set_option maxRecDepth 100000
attribute [local go_sem] ext_refl_t ext_alloc_t ext_drew_t ext_drewN_t ext_alloc2_t ext_alloc3_t ext_alloc4_t ext_alloc5_t ext_alloc6_t ext_alloc7_t ext_alloc8_t ext_alloc1d_t ext_alloc2d_t ext_alloc3d_t ext_alloc4d_t
theorem rih_both {H : Type} {enc : TypeId × Value → H} {a : Assume} {C : Checked} {os : Os} {f : FuncId} {fn : Func} {s : ChangeSpec} {conds : List PathCond} {apart fresh handsOn again : Bool} {X : World → Array Value → Prop}
    (hX : ∀ (w w' : World) (args : Array Value), w.heap = w'.heap → X w args → X w' args)
    (own : ownKnob C.prog.godebug = none) (started : os.Started) (noInit : C.prog.inits.idxOf? f = none) (hfn : C.prog.funcs[f]? = some fn)
    (witness : ∃ (w : World) (tape : Tape) (i : Input), w.os = os ∧ (w.forCall tape i).Shaped C.prog ∧ i.vars = [] ∧ Input.okWide C.prog (w.forCall tape i) .any w.heap.size f i ∧
      ((s.pre enc C.prog fn conds apart (w.forCall tape i).memory i.args ∧ X (w.forCall tape i).memory i.args) ∧ sizedMet enc C.prog fn (OpenSpec.ofChange s) apart (w.forCall tape i).memory i.args) ∧ a.holds C.prog (lone (Frame.enter C.prog f i.args .normal) [] (w.forCall tape i)))
    (contract : ∀ (W : World) (base : Nat) (args : Array Value) (ds gs : List (DataW H)) (before : List MemPlace),
      (∀ (j : Nat) t v, fn.params[j]? = some t → args[j]? = some v → Value.okWide C.prog W .any base t v) →
      DataW.Whole enc C.prog fn.params.toList s.vars apart W args.toList ds gs before →
      conds.all (PathCond.test C.prog ⟨fn.params.toList, ds, s.plain.varTypes C.prog, gs⟩) = true →
      (DataW.weightsEach C.prog (fn.params.toList ++ s.plain.varTypes C.prog) (ds ++ gs)).all (· ≤ reachBytes) = true → X W args → W.ShapedOpen C.prog →
      a.holds C.prog (lone (Frame.enter C.prog f args .normal) [] W) →
      Calls C.prog f args W fun e W' => ∃ v, e = .returned v ∧ s.post enc C.prog fn apart fresh handsOn again W args v W') :
    ReturnsInHanded a C os f .any (fun w args => (s.pre enc C.prog fn conds apart w args ∧ X w args) ∧ sizedMet enc C.prog fn (OpenSpec.ofChange s) apart w args) (s.post enc C.prog fn apart fresh handsOn again) := by
  refine returnsInHanded_of_calls own started noInit witness ?_
  intro w tape i _ hsh _ hok hpre hholds
  obtain ⟨_, _, _, fn', hfn', _, _, _, _, hval⟩ := hok
  have e : fn' = fn := Option.some.inj (hfn'.symm.trans hfn)
  subst e
  obtain ⟨⟨⟨ds, gs, before, hw, hc⟩, hx⟩, hz⟩ := hpre
  have hw' := DataW.Whole.of_heap (w' := w.forCall tape i) (by rfl) hw
  refine (contract (w.forCall tape i) w.heap.size i.args ds gs before hval hw' hc (hz.weights hw) (hX _ _ _ (by rfl) hx) hsh hholds).mono fun e W' ⟨v, he, hp⟩ => ?_
  subst he
  exact ChangeSpec.post_blind hp
theorem mx_of {W : World} (h : W.ShapedOpen Tryz.prog) : MX W :=
  Go.Proofs.cell_of_shapedOpen_int (t := 3) (zero := #[.int .i64 0]) h (of_decide_eq_true (by kernel_rfl)) (by kernel_rfl) rfl (by kernel_rfl) (by kernel_rfl) Tryz.underlying3
/-- What Effective returns, at a table that came in. -/
def EfPost (wb w : World) (t : TabH) (xs : List LxH) (s : List UInt8) (e : Ending) (w' : World) : Prop := ∃ y : LcH, e = .returned (.tuple #[lcV y, .int .i64 (chainP (tabL t.ls) t.al s).2]) ∧ ((chainP (tabL t.ls) t.al s).2 = 0 → ∃ x : LxH, x.lc = y ∧ DLy w' (fun j => wb.heap.size ≤ j ∧ j < w.heap.size) x ∧ EfR (atP xs (chainP (tabL t.ls) t.al s).1) (plx x))
theorem eff_any {wb w : World} (hbx : Ext wb w) {t : TabH} (ht : TabW w t) {xs : List LxH} (hx : xs.map LxH.lc = t.ls) (hd : ∀ x ∈ xs, DLx wb x ∧ SzX x) {s : List UInt8} (hs : s.length ≤ 1000) (hM : MX w) :
    Calls Tryz.prog 7 #[tbV t, .string (str s)] w fun e w' => EfPost wb w t xs s e w' ∧ Ext w w' := by
  have hll : t.ls.length = xs.length := by rw [← hx, List.length_map]
  refine eff_walk hbx ht.ls hx hd (by rw [← hll]; exact ht.l12) (fun W hE => chain_any (ht.ext hE) hs (hM.ext hE)) (fun i hi => ?_) ?_ (fun h0 => ?_)
  · have h1 := chain_lt i hi
    rw [tabL_len, hll] at h1
    exact h1
  · have h1 := chainP_len (tabL t.ls) t.al s
    rw [tabL_len, hll] at h1
    exact h1
  · obtain ⟨_, _, _, r, hr⟩ := chain_head h0
    rw [hr]
    simp
end Go.Proofs.YtdgppdiickmofaaGreatDoor
