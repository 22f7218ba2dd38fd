/- What the rows' listed variables give; the example of the document. -/
import Derived.Test.YtkicjbmljbfojaaDoorEscQ4
import Derived.Test.YtkicjbmljbfojaaDoorEscT
import Derived.Test.YtkicjbmljbfojaaDoorEscPl
import Derived.Test.YtkicjbmljbfojaaDoorTie
import Derived.Test.YtkicjbmljbfojaaDoorCards
import Derived.ProofKit
import Derived.OpenShut
import Derived.ShutString
import Derived.LaidMore
import Derived.Lay
import Derived.Lib.LaidIn
import Derived.Lib.LaidTab
import Derived.Lib.LaidU8
import Derived.SevenTiedAt
import Derived.Stop.Joined
namespace Go.Proofs.YtkicjbmljbfojaaDoor
open Go.ChangeShapes Go.WideShapes Go.ChangeAt Go.RowKit
set_option maxRecDepth 100000

/-- What the rows list. -/
def laidL : List (String × DataW Unit) := Rows.escapeEscapeRow.laid
theorem tz_of {W : World} {l : List (String × DataW Unit)} {x : String × DataW Unit} (h : laidMet Tryd.prog l W) (hx : x ∈ l) (hn : Tryd.prog.globalNamed x.1 = some 3) (hd : x.2 = Rows.laid_math_bits_deBruijn64tab) : TZ W := by
  obtain ⟨s, d⟩ := x
  subst hd
  obtain ⟨g, t, cs, fuel, p, hg, hty, hvar, hr⟩ := Lib.laidMet.reads h hx
  obtain rfl := Option.some.inj (hn.symm.trans hg)
  obtain rfl := Option.some.inj ((show (Tryd.prog.globals[3]?).map (·.type) = some 93 by kernel_rfl).symm.trans hty)
  obtain ⟨xs, m, _, ex, _, hl, hel⟩ := DataW.trod_array Tryd.underlying93 hr
  have c5 : Tryd.prog.cellsOf 5 = 1 := by kernel_rfl
  have hE := hel 15 (by omega)
  rw [c5, Nat.mul_one, List.getElem?_eq_getElem (by omega)] at hE
  obtain ⟨z, e1, e2, _⟩ := DataW.trod_int Tryd.underlying5 hE
  have e3 := DataW.agg.inj (Prod.mk.inj ex).1
  have e4 := congrArg (fun l => l[15]?) e3
  rw [List.getElem?_map, List.getElem?_eq_getElem (by omega : 15 < xs.length), e2] at e4
  have hz : z = 4 := by simpa using e4.symm
  subst hz
  unfold TZ
  rw [World.var?_cell hg hvar 15]
  have h0 : ((cs.toList.drop 15).take 1)[0]? = some (.int .u8 4) := by rw [e1]; rfl
  simpa using h0
theorem pt_of {W : World} {l : List (String × DataW Unit)} {x : String × DataW Unit} (h : laidMet Tryd.prog l W) (hx : x ∈ l) (hn : x.1 = "internal/strconv.uint64pow10") (hd : x.2 = Rows.laid_internal_strconv_uint64pow10) : Lib.TabIs Tryd.prog W "internal/strconv.uint64pow10" .u64 Lib.pow10Tab := by
  obtain ⟨s, d⟩ := x
  subst hn
  have hd2 : d = Lib.tabData .u64 Lib.pow10Tab := by
    rw [show d = Rows.laid_internal_strconv_uint64pow10 from hd]
    kernel_rfl
  subst hd2
  obtain ⟨g, t, cs, fuel, p, hg, hty, hvar, hr⟩ := Lib.laidMet.reads h hx
  obtain rfl := Option.some.inj ((show Tryd.prog.globalNamed "internal/strconv.uint64pow10" = some 1 by kernel_rfl).symm.trans hg)
  obtain rfl := Option.some.inj ((show (Tryd.prog.globals[1]?).map (·.type) = some 87 by kernel_rfl).symm.trans hty)
  unfold Lib.TabIs
  rw [hvar, ← Lib.cells_of_tab Tryd.underlying87 Tryd.underlying74 (by kernel_rfl) (by kernel_rfl) hr]
theorem t2_of_laid {W : World} (h : laidMetH Tryd.prog laidL W) : T2 W := by
  rw [MakeChecks.laidMetH_plain _ _ _ (by kernel_rfl)] at h
  exact ⟨tz_of h (.tail _ (.head _)) (by kernel_rfl) rfl, pt_of h (.tail _ (.tail _ (.head _))) rfl rfl⟩
section
variable {w : World}
set_option maxHeartbeats 1600000 in
theorem awake_es (hT : T2 w) : Calls Tryd.prog 10 #[] w fun e w' => e = .returned (.bool true) ∧ Ext w w' := by
  have r1 : unV (unZ 1 (bys ⟨#[97, 92, 113]⟩)) = .tuple #[.string ⟨#[]⟩, .int .i64 1, .int .i64 3] := by kernel_rfl
  have r2 : str (escZ 1 (bys ⟨#[32, 97, 61, 98]⟩)) = ⟨#[92, 32, 97, 92, 61, 98]⟩ := by kernel_rfl
  have r3 : str (escZ 4 (bys ⟨#[7]⟩)) = ⟨#[38, 35, 55, 59]⟩ := by kernel_rfl
  have R1 := Lib.hid r1
  have R2 := Lib.hid r2
  have R3 := Lib.hid r3
  clear r1 r2 r3
  go_enter Tryd.func10, Tryd.ntmps10
  go_wp2_with (first
    | (go_at_call 13; refine Hid.out ?_))
  refine Hid.mk_ ((un_any 1 ⟨#[97, 92, 113]⟩ (by decide)).mono ?_)
  rintro e w1 ⟨rfl, hE1⟩
  rw [R1.out]
  go_wp2_with (first
    | (go_at_call 11; refine Hid.out ?_))
  refine Hid.mk_ ((escape_any 1 ⟨#[32, 97, 61, 98]⟩ (by decide) (hT.ext hE1)).mono ?_)
  rintro e w2 ⟨rfl, hE2⟩
  rw [R2.out]
  go_wp2_with (first
    | (go_at_call 11; refine Hid.out ?_))
  refine Hid.mk_ ((escape_any 4 ⟨#[7]⟩ (by decide) ((hT.ext hE1).ext hE2)).mono ?_)
  rintro e w3 ⟨rfl, hE3⟩
  rw [R3.out]
  go_wp2
  go_ret
  exact ⟨rfl, (hE1.trans hE2).trans hE3⟩
end

end Go.Proofs.YtkicjbmljbfojaaDoor
