/- What the rows of the great statements of chapter 57 list. -/
import Derived.Test.YtoghaehcmbonnaaGreatDoorJrnD
import Derived.Test.YtoghaehcmbonnaaGreatDoorJrnU
import Derived.Test.YtoghaehcmbonnaaGreatDoorJrnT
import Derived.Test.YtoghaehcmbonnaaGreatDoorReadB
import Derived.LaidSub
import Derived.Lib.LaidTab
import Derived.ProofKit
import Derived.OpenShut
import Derived.ShutString
import Derived.LaidMore
import Derived.Lay
import Derived.Lib.LaidIn
import Derived.Lib.LaidTab
import Derived.Lib.LaidU8
import Derived.SevenTiedAt
import Derived.Stop.Joined
namespace Go.Proofs.YtoghaehcmbonnaaGreatDoor
open Go.ChangeShapes Go.WideShapes Go.ChangeAt Go.RowKit
set_option maxRecDepth 100000
theorem iface_cells {H : Type} {enc : TypeId × Value → H} {W : World} {b : Nat} {sp : Nat → Bool} {held : Bool} {fuel : Nat} {t : TypeId} {cs : List Value} {x : DataW H × List MemPlace} {ms : Array (String × TypeId)}
    (ht : Tryz.prog.underlying t = some (.interface ms)) (h : DataW.trod enc Tryz.prog W b sp held fuel t cs = some x) : ∃ v, cs = [v] ∧ (v = .nilIface ∨ ∃ te pe, v = .iface te pe) := by
  cases fuel with
  | zero => simp [DataW.trod] at h
  | succ n =>
    unfold DataW.trod at h
    rw [ht] at h
    split at h <;> first | exact ⟨_, rfl, .inl rfl⟩ | exact ⟨_, rfl, .inr ⟨_, _, rfl⟩⟩ | skip
    all_goals simp_all
theorem iface_of {W : World} {l : List (String × DataW Unit)} {x : String × DataW Unit} (h : laidMet Tryz.prog l W) (hx : x ∈ l) (gg : Nat) (hn : Tryz.prog.globalNamed x.1 = some gg) (h0 : (Tryz.prog.globals[gg]?).map (·.type) = some 74) :
    ∃ ev, W.cell? ⟨gg, 0, none⟩ = some ev ∧ (ev = .nilIface ∨ ∃ te pe, ev = .iface te pe) := by
  obtain ⟨g, t, cs, fuel, p, hg, hty, hvar, hr⟩ := Lib.laidMet.reads h hx
  obtain rfl := Option.some.inj (hn.symm.trans hg)
  obtain rfl := Option.some.inj (h0.symm.trans hty)
  obtain ⟨v, hv, hk⟩ := iface_cells Tryz.underlying74 hr
  refine ⟨v, ?_, hk⟩
  rw [World.var?_cell hg hvar 0]
  have h2 : cs.toList[0]? = some v := by rw [hv]; rfl
  simpa using h2
def laidZ : List (String × DataW Unit) := Rows.journalOpenRow.laid
theorem ptns_of_laid {W : World} (h : laidMetH Tryz.prog laidZ W) : PT W ∧ NS W := by
  rw [MakeChecks.laidMetH_plain _ _ _ (by kernel_rfl)] at h
  have hns : NS W := iface_of h (.tail _ (.tail _ (.tail _ (.tail _ (.head _))))) 1 (by kernel_rfl) (by kernel_rfl)
  have h2 := laidMet.filter (fun x => x.1 == "internal/strconv.uint64pow10") h
  have e : laidZ.filter (fun x => x.1 == "internal/strconv.uint64pow10") = [("internal/strconv.uint64pow10", Lib.tabData .u64 Lib.pow10Tab)] := by kernel_rfl
  rw [e] at h2
  exact ⟨Lib.tabIs_of_head (g := 3) (t := 164) (e := 60) (n := 20) (by kernel_rfl) (by kernel_rfl) Tryz.underlying164 Tryz.underlying60 (by kernel_rfl) (by kernel_rfl) h2, hns⟩
end Go.Proofs.YtoghaehcmbonnaaGreatDoor
