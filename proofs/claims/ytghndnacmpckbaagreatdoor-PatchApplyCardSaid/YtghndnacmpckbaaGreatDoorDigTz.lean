/- What the rows' listed variables give: one cell of Go's table of trailing zeros. -/
import Derived.Test.YtghndnacmpckbaaGreatDoorHex
import Derived.Test.YtghndnacmpckbaaGreatDoorTie
import Derived.Test.YtghndnacmpckbaaGreatDoorCards
import Derived.ProofKit
import Derived.OpenShut
import Derived.LaidMore
import Derived.Lay
import Derived.Lib.LaidIn
import Derived.Lib.LaidU8T
import Derived.SevenTiedAt
import Derived.Stop.Joined
namespace Go.Proofs.YtghndnacmpckbaaGreatDoor
open Go.ChangeShapes Go.WideShapes Go.ChangeAt Go.RowKit
set_option maxRecDepth 100000

theorem tz_of {W : World} {l : List (String × DataW Unit)} {x : String × DataW Unit} (h : laidMet Tryz.prog l W) (hx : x ∈ l) (hn : Tryz.prog.globalNamed x.1 = some 5) (hd : x.2 = Rows.laid_math_bits_deBruijn64tab) : TZ W := by
  obtain ⟨s, d⟩ := x
  subst hd
  obtain ⟨g, t, cs, fuel, p, hg, hty, hvar, hr⟩ := Lib.laidMet.reads h hx
  obtain rfl := Option.some.inj (hn.symm.trans hg)
  obtain rfl := Option.some.inj ((show (Tryz.prog.globals[5]?).map (·.type) = some 143 by kernel_rfl).symm.trans hty)
  obtain ⟨xs, m, _, ex, _, hl, hel⟩ := DataW.trod_array Tryz.underlying143 hr
  have c5 : Tryz.prog.cellsOf 5 = 1 := by kernel_rfl
  have hE := hel 15 (by omega)
  rw [c5, Nat.mul_one, List.getElem?_eq_getElem (by omega)] at hE
  obtain ⟨z, e1, e2, _⟩ := DataW.trod_int Tryz.underlying5 hE
  have e3 := DataW.agg.inj (Prod.mk.inj ex).1
  have e4 := congrArg (fun l => l[15]?) e3
  rw [List.getElem?_map, List.getElem?_eq_getElem (by omega : 15 < xs.length), e2] at e4
  have hz : z = 4 := by simpa using e4.symm
  subst hz
  unfold TZ
  rw [World.var?_cell hg hvar 15]
  have h0 : ((cs.toList.drop 15).take 1)[0]? = some (.int .u8 4) := by rw [e1]; rfl
  simpa using h0
theorem iface_cells {H : Type} {enc : TypeId × Value → H} {W : World} {b : Nat} {sp : Nat → Bool} {held : Bool} {fuel : Nat} {t : TypeId} {cs : List Value} {x : DataW H × List MemPlace} {ms : Array (String × TypeId)}
    (ht : Tryz.prog.underlying t = some (.interface ms)) (h : DataW.trod enc Tryz.prog W b sp held fuel t cs = some x) : ∃ v, cs = [v] ∧ (v = .nilIface ∨ ∃ te pe, v = .iface te pe) := by
  cases fuel with
  | zero => simp [DataW.trod] at h
  | succ n =>
    unfold DataW.trod at h
    rw [ht] at h
    split at h <;> first | exact ⟨_, rfl, .inl rfl⟩ | exact ⟨_, rfl, .inr ⟨_, _, rfl⟩⟩ | skip
    all_goals simp_all
theorem iface_of {W : World} {l : List (String × DataW Unit)} {x : String × DataW Unit} (h : laidMet Tryz.prog l W) (hx : x ∈ l) (gg : Nat) (hn : Tryz.prog.globalNamed x.1 = some gg) (h0 : (Tryz.prog.globals[gg]?).map (·.type) = some 87) :
    ∃ ev, W.cell? ⟨gg, 0, none⟩ = some ev ∧ (ev = .nilIface ∨ ∃ te pe, ev = .iface te pe) := by
  obtain ⟨g, t, cs, fuel, p, hg, hty, hvar, hr⟩ := Lib.laidMet.reads h hx
  obtain rfl := Option.some.inj (hn.symm.trans hg)
  obtain rfl := Option.some.inj (h0.symm.trans hty)
  obtain ⟨v, hv, hk⟩ := iface_cells Tryz.underlying87 hr
  refine ⟨v, ?_, hk⟩
  rw [World.var?_cell hg hvar 0]
  have h2 : cs.toList[0]? = some v := by rw [hv]; rfl
  simpa using h2
end Go.Proofs.YtghndnacmpckbaaGreatDoor
