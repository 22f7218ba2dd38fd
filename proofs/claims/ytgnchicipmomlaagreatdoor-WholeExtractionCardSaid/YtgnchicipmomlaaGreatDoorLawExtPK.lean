/- Updating a catalog by what is extracted from sources loses no translation, gives every extracted entry its source, and, done again, changes nothing. No condition. -/
import Derived.Test.YtgnchicipmomlaaGreatDoorPK39
import Derived.Test.YtgnchicipmomlaaGreatDoorPK44
import Derived.Test.YtgnchicipmomlaaGreatDoorPK23
import Derived.ProofKit
import Derived.OpenShut
import Derived.ShutString
import Derived.LaidMore
import Derived.Lay
import Derived.Lib.LaidIn
import Derived.Lib.LaidTab
import Derived.Lib.LaidU8
import Derived.SevenTiedAt
import Derived.Stop.Joined
namespace Go.Proofs.YtgnchicipmomlaaGreatDoor
open Go.ChangeShapes Go.WideShapes Go.ChangeAt Go.RowKit
set_option maxRecDepth 100000
attribute [local go_sem] ext_refl_t ext_alloc_t ext_drew_t ext_drewN_t ext_alloc2_t ext_alloc3_t ext_alloc4_t ext_alloc5_t ext_alloc6_t ext_alloc7_t ext_alloc8_t ext_alloc1d_t ext_alloc2d_t ext_alloc3d_t ext_alloc4d_t
def laidX : List (String × DataW Unit) := Rows.wholeExtractionRow.laid
theorem tabsX {W : World} (h : laidMetH Tryz.prog laidX W) : Tabs W ∧ PTt W := by
  rw [MakeChecks.laidMetH_plain _ _ _ (by kernel_rfl)] at h
  have h1 := laidMet.filter (fun x => x.1 == "unicode/utf8.acceptRanges" || x.1 == "unicode/utf8.first") h
  have e1 : laidX.filter (fun x => x.1 == "unicode/utf8.acceptRanges" || x.1 == "unicode/utf8.first") = laidL := by kernel_rfl
  rw [e1] at h1
  have h2 := laidMet.filter (fun x => x.1 == "internal/strconv.uint64pow10") h
  have e : laidX.filter (fun x => x.1 == "internal/strconv.uint64pow10") = [("internal/strconv.uint64pow10", Lib.tabData .u64 Lib.pow10Tab)] := by kernel_rfl
  rw [e] at h2
  exact ⟨tabs_of_laid (by rw [MakeChecks.laidMetH_plain _ _ _ (by kernel_rfl)]; exact h1), Lib.tabIs_of_head (g := 3) (t := 248) (e := 225) (n := 20) (by kernel_rfl) (by kernel_rfl) Tryz.underlying248 Tryz.underlying225 (by kernel_rfl) (by kernel_rfl) h2⟩
def exX : Cp := ⟨⟨#[100, 101]⟩, [], [], []⟩
def exL : List Ep := [⟨⟨#[97]⟩, ⟨#[98]⟩, ⟨#[]⟩, [], [], 0, []⟩]
theorem ex_k : (updP exX exL).2.2 = 0 := by kernel_rfl
theorem ex_n : (updP exX exL).1.es.length = 1 := by kernel_rfl
theorem fewC_es {c : Cp} (h : fewC c = true) : ∀ y ∈ c.es, y.src.size ≤ 1000000 := by
  unfold fewC at h
  simp only [Bool.and_eq_true, List.all_eq_true] at h
  intro y hy
  have h1 := h.2 y hy
  unfold fewE at h1
  simp only [Bool.and_eq_true, decide_eq_true_eq] at h1
  omega
section
variable {w : World}
set_option maxHeartbeats 12800000 in
theorem ext_walk {x : Stg} (hx : StgW w x) {hf : SlH} {files : List (ByteArray × ByteArray)} (hfl : FilsW w hf files) {cat : Cat} (hc : CatW w cat) (hT : Tabs w ∧ PTt w) :
    Calls Tryz.prog 3 #[.agg (stgC x).toArray, .slice hf.A hf.m hf.c, catV cat] w fun e w' => e = .returned (.bool true) ∧ Ext w w' := by
  obtain ⟨scr, calls, ⟨S, ns, ds⟩, ⟨C, n, d⟩⟩ := x
  obtain ⟨tag, com, fd, ces, hcc, hd, he⟩ := cat
  obtain ⟨F, p, r⟩ := hf
  have HX := Lib.hid hx
  have HF := Lib.hid hfl
  have HC := Lib.hid hc
  have HTT := Lib.hid hT
  have HL := Lib.hid hc.e.sl.len
  have hle := hc.e.sl.le
  dsimp only at HL hle
  unfold catV stgC
  dsimp only
  obtain ⟨W1, hW1⟩ : ∃ W1, W1 = (w.alloc (Obj.cells #[.slice S ns ds, .slice C n d] 26)).alloc (Obj.cells #[.string tag, .slice hcc.A hcc.m hcc.c, .slice hd.A hd.m hd.c, .slice he.A he.m he.c] 32) := ⟨_, rfl⟩
  have hb3 := (Blk.new w 26 #[.slice S ns ds, .slice C n d]).alloc (Obj.cells #[.string tag, .slice hcc.A hcc.m hcc.c, .slice hd.A hd.m hd.c, .slice he.A he.m he.c] 32)
  have hb5 := Blk.new1 w (Obj.cells #[.slice S ns ds, .slice C n d] 26) 32 #[.string tag, .slice hcc.A hcc.m hcc.c, .slice hd.A hd.m hd.c, .slice he.A he.m he.c]
  rw [← hW1] at hb3 hb5
  have hE1 : Ext w W1 := by rw [hW1]; exact ((Ext.refl _).alloc _).alloc _
  obtain ⟨g5, hg5⟩ : ∃ g, g = w.heap.size + 1 := ⟨_, rfl⟩
  obtain ⟨g3, hg3⟩ : ∃ g, g = w.heap.size := ⟨_, rfl⟩
  rw [← hg5] at hb5
  rw [← hg3] at hb3
  have Z0 := laters (show _ = some (.slice S ns ds) from hb3.cell 0)
  have Z1 := laters (show _ = some (.slice C n d) from hb3.cell 1)
  have X0 := laters (show _ = some (.string tag) from hb5.cell 0)
  have X1 := laters (show _ = some (.slice hcc.A hcc.m hcc.c) from hb5.cell 1)
  have X2 := laters (show _ = some (.slice hd.A hd.m hd.c) from hb5.cell 2)
  have X3 := laters (show _ = some (.slice he.A he.m he.c) from hb5.cell 3)
  clear hb3 hb5 hx hfl hc hT
  have hs2 := txtE_1 W1 (a := ⟨#[97]⟩) (b := ⟨#[98]⟩) (d := ⟨#[]⟩) (by show _ ≤ _; decide) (by show _ ≤ _; decide) (by show _ ≤ _; decide)
  have hE2 : Ext W1 (W1.alloc (Obj.cells #[.string ⟨#[97]⟩, .string ⟨#[98]⟩, .string ⟨#[]⟩, .slice none 0 0, .slice none 0 0, .int .i64 0, .slice none 0 0] 39)) := (Ext.refl _).alloc _
  have hx2 : CatW (W1.alloc (Obj.cells #[.string ⟨#[97]⟩, .string ⟨#[98]⟩, .string ⟨#[]⟩, .slice none 0 0, .slice none 0 0, .int .i64 0, .slice none 0 0] 39)) ⟨⟨#[100, 101]⟩, [], [], [], ⟨none, 0, 0⟩, ⟨none, 0, 0⟩, ⟨none, 0, 0⟩⟩ := ⟨by show ByteArray.size ⟨#[100, 101]⟩ ≤ 140737488351232; decide, HW.nil_ strF_len, HW.nil_ fdC_len, HW.nil_ entC_len⟩
  have hup := update_any hx2 hs2 (HTT.out.1.ext (hE1.trans hE2)) (fun y hy => by cases hy) (fun y hy => by obtain rfl := List.mem_singleton.1 hy; show _ ≤ _; decide)
  unfold catV at hup
  dsimp only at hup
  clear hs2 hx2
  go_enter Tryz.func3, Tryz.ntmps3
  go_upto_region 1 with fail
  rw [← hW1, ← hg5, ← hg3]
  clear hW1 hg3 hg5
  go_wp2_with (first
    | (go_at_call 4; refine Hid.out ?_))
  refine Hid.mk_ ((hup).mono ?_)
  rintro e w4 ⟨⟨atag, acom, afd, aes, ahc, ahd, ⟨aA, am, ac⟩⟩, R, r4, k, rfl, hupd, hW4, -, hE4⟩
  change (_, r4, k) = updP exX exL at hupd
  have a1 := ex_k
  have a2 := ex_n
  rw [← hupd] at a1 a2
  dsimp only at a1 a2
  have e3 : k = 0 := a1
  have hm : am = 1 := by
    have h1 := hW4.e.sl.len
    have h2 : (aes.map Ent.p).length = 1 := a2
    rw [List.length_map] at h2
    dsimp only at h1
    omega
  clear a1 a2 hupd hup hW4
  subst e3
  subst hm
  have hE14 := hE2.trans hE4
  have hE04 := hE1.trans hE14
  clear hE2 hE4
  unfold catV repA
  dsimp only
  have hbA := Blk.new w4 32 #[.string atag, .slice ahc.A ahc.m ahc.c, .slice ahd.A ahd.m ahd.c, .slice (⟨aA, 1, ac⟩ : SlH).A (⟨aA, 1, ac⟩ : SlH).m (⟨aA, 1, ac⟩ : SlH).c]
  have hbR := Blk.new1 w4 (Obj.cells #[.string atag, .slice ahc.A ahc.m ahc.c, .slice ahd.A ahd.m ahd.c, .slice (⟨aA, 1, ac⟩ : SlH).A (⟨aA, 1, ac⟩ : SlH).m (⟨aA, 1, ac⟩ : SlH).c] 32) 34 #[.slice (R 0).A (R 0).m (R 0).c, .slice (R 1).A (R 1).m (R 1).c, .slice (R 2).A (R 2).m (R 2).c, .slice (R 3).A (R 3).m (R 3).c, .slice (R 4).A (R 4).m (R 4).c, .slice (R 5).A (R 5).m (R 5).c, .slice (R 6).A (R 6).m (R 6).c]
  have hbA' := hbA.alloc (Obj.cells #[.slice (R 0).A (R 0).m (R 0).c, .slice (R 1).A (R 1).m (R 1).c, .slice (R 2).A (R 2).m (R 2).c, .slice (R 3).A (R 3).m (R 3).c, .slice (R 4).A (R 4).m (R 4).c, .slice (R 5).A (R 5).m (R 5).c, .slice (R 6).A (R 6).m (R 6).c] 34)
  obtain ⟨W5, hW5⟩ : ∃ W5, W5 = ((w4).alloc (Obj.cells #[.string atag, .slice ahc.A ahc.m ahc.c, .slice ahd.A ahd.m ahd.c, .slice (⟨aA, 1, ac⟩ : SlH).A (⟨aA, 1, ac⟩ : SlH).m (⟨aA, 1, ac⟩ : SlH).c] 32)).alloc (Obj.cells #[.slice (R 0).A (R 0).m (R 0).c, .slice (R 1).A (R 1).m (R 1).c, .slice (R 2).A (R 2).m (R 2).c, .slice (R 3).A (R 3).m (R 3).c, .slice (R 4).A (R 4).m (R 4).c, .slice (R 5).A (R 5).m (R 5).c, .slice (R 6).A (R 6).m (R 6).c] 34) := ⟨_, rfl⟩
  rw [← hW5] at hbA' hbR
  have hEW5 : Ext w4 W5 := by rw [hW5]; exact ((Ext.refl _).alloc _).alloc _
  obtain ⟨g8, hg8⟩ : ∃ g6, g6 = (w4).heap.size + 1 := ⟨_, rfl⟩
  obtain ⟨g7, hg7⟩ : ∃ g5, g5 = (w4).heap.size := ⟨_, rfl⟩
  rw [← hg7] at hbA'
  rw [← hg8] at hbR
  go_upto_region 2 with fail
  rw [← hW5, ← hg8, ← hg7]
  have HBAW5 := Lib.hid hbA'
  have HBRW5 := Lib.hid hbR
  clear hbA hbA' hbR hW5 hg7 hg8
  have hE15 := hE14.trans hEW5
  have hE05 := hE04.trans hEW5
  have A3 := laters (show W5.cell? ⟨g7, 3, none⟩ = some (.slice aA 1 ac) from HBAW5.out.cell 3)
  have hE55 := Ext.refl W5
  clear hE14 hE04 hEW5
  go_wp2_with (first
    | (go_at_call 5; refine Hid.out ?_))
  refine Hid.mk_ ((few45_any (HW.ext HX.out.c hE05) (HW.ext HF.out hE05)).mono ?_)
  rintro e w6 ⟨⟨r6, rfl, hr6⟩, hE6⟩
  have hE06 := hE05.trans hE6
  have hE16 := hE15.trans hE6
  have HR6 := Lib.hid hr6
  clear hr6 hE55 A3 hE05 hE15 hE6 HBAW5 HBRW5
  cases r6 with
  | false =>
    go_wp2
    go_ret
    exact ⟨rfl, hE06⟩
  | true =>
  obtain ⟨hf6, hn45, hfb⟩ := HR6.out rfl
  have HN45 := Lib.hid hn45
  have HF6 := Lib.hid hf6
  have HFB := Lib.hid hfb
  clear hf6 hn45 hfb HR6
  dsimp only at HN45
  go_wp2_with (first
    | (go_at_call 6; refine Hid.out ?_))
  refine Hid.mk_ ((few44_any (ScrW.ext HX.out.s hE06)).mono ?_)
  rintro e w7 ⟨⟨r7, rfl, -⟩, hE7⟩
  have hE07 := hE06.trans hE7
  have hE17 := hE16.trans hE7
  clear hE06 hE16 hE7
  cases r7 with
  | false =>
    go_wp2
    go_ret
    exact ⟨rfl, hE07⟩
  | true =>
  go_wp2_with (first
    | (go_at_call 7; refine Hid.out ?_))
  refine Hid.mk_ ((Valid44_any (ScrW.ext HX.out.s hE07)).mono ?_)
  rintro e w8 ⟨⟨r8, rfl, -⟩, hE8⟩
  have hE08 := hE07.trans hE8
  have hE18 := hE17.trans hE8
  clear hE07 hE17 hE8
  cases r8 with
  | false =>
    go_wp2
    go_ret
    exact ⟨rfl, hE08⟩
  | true =>
  have hfw := few_any (HC.out.ext hE08)
  unfold catV at hfw
  dsimp only at hfw
  go_wp2_with (first
    | (go_at_call 8; refine Hid.out ?_))
  refine Hid.mk_ ((hfw).mono ?_)
  rintro e w9 ⟨rfl, hE9⟩
  have hE09 := hE08.trans hE9
  have hE19 := hE18.trans hE9
  clear hE08 hE18 hE9 hfw
  cases hf1 : fewC (Cat.p ⟨tag, com, fd, ces, hcc, hd, he⟩) with
  | false =>
    clear hf1
    go_wp2
    go_ret
    exact ⟨rfl, hE09⟩
  | true =>
  have HFC := Lib.hid hf1
  clear hf1
  have hxt := extracted_any (⟨ScrW.ext HX.out.s hE09, HW.ext HX.out.c hE09⟩ : StgW w9 ⟨scr, calls, ⟨S, ns, ds⟩, ⟨C, n, d⟩⟩) (HW.ext HF.out hE09) HN45.out HF6.out HFB.out (HTT.out.2.ext hE09)
  unfold stgC at hxt
  dsimp only at hxt
  go_wp2_with (first
    | (go_at_call 9; refine Hid.out ?_))
  refine Hid.mk_ ((hxt).mono ?_)
  rintro e w10 ⟨hE10, ⟨A9, m9, c9⟩, er, rfl, hes⟩
  have hE010 := hE09.trans hE10
  have hE110 := hE19.trans hE10
  have HES := Lib.hid hes
  clear hxt hE09 hE19 hE10 hes
  dsimp only
  by_cases her : er = 0
  case neg =>
    have hb1 : (er != 0) = true := by simp [her]
    go_wp2
    go_ret
    exact ⟨rfl, hE010⟩
  have hb1 : (er != 0) = false := by simp [her]
  obtain ⟨es, hEs, hsrc⟩ := HES.out her
  have HE9 := Lib.hid hEs
  have HSRC := Lib.hid hsrc
  have HL9 := Lib.hid hEs.sl.len
  dsimp only at HL9
  clear hEs hsrc HES her
  by_cases h12 : m9 ≤ 12
  case neg =>
    have hi12 : (12 : Int) < (m9 : Int) := by omega
    go_wp2
    go_ret
    exact ⟨rfl, hE010⟩
  have hi12 : ¬ (12 : Int) < (m9 : Int) := by omega
  have hup := update_any (HC.out.ext hE010) HE9.out (HTT.out.1.ext hE010) (fun y hy => fewC_es HFC.out y.p (List.mem_map_of_mem hy)) HSRC.out
  unfold catV at hup
  dsimp only at hup
  go_wp2_with (first
    | (go_at_call 4; refine Hid.out ?_))
  refine Hid.mk_ ((hup).mono ?_)
  rintro e w11 ⟨⟨atag', acom', afd', aes', ahc', ahd', ahe⟩, R', r5, k, rfl, hupd, hW11, -, hE11⟩
  have hE011 := hE010.trans hE11
  have hE111 := hE110.trans hE11
  have HE911 := Lib.hid (EntsW.ext HE9.out hE11)
  have HUPD := Lib.hid hupd
  have HW11 := Lib.hid hW11
  have HLA := Lib.hid hW11.e.sl.len
  have hleA := hW11.e.sl.le
  dsimp only at HLA hleA
  clear hup hE010 hE110 hE11 hupd hW11
  unfold catV repA
  dsimp only
  have hbA := Blk.new w11 32 #[.string atag', .slice ahc'.A ahc'.m ahc'.c, .slice ahd'.A ahd'.m ahd'.c, .slice ahe.A ahe.m ahe.c]
  have hbR := Blk.new1 w11 (Obj.cells #[.string atag', .slice ahc'.A ahc'.m ahc'.c, .slice ahd'.A ahd'.m ahd'.c, .slice ahe.A ahe.m ahe.c] 32) 34 #[.slice (R' 0).A (R' 0).m (R' 0).c, .slice (R' 1).A (R' 1).m (R' 1).c, .slice (R' 2).A (R' 2).m (R' 2).c, .slice (R' 3).A (R' 3).m (R' 3).c, .slice (R' 4).A (R' 4).m (R' 4).c, .slice (R' 5).A (R' 5).m (R' 5).c, .slice (R' 6).A (R' 6).m (R' 6).c]
  have hbA' := hbA.alloc (Obj.cells #[.slice (R' 0).A (R' 0).m (R' 0).c, .slice (R' 1).A (R' 1).m (R' 1).c, .slice (R' 2).A (R' 2).m (R' 2).c, .slice (R' 3).A (R' 3).m (R' 3).c, .slice (R' 4).A (R' 4).m (R' 4).c, .slice (R' 5).A (R' 5).m (R' 5).c, .slice (R' 6).A (R' 6).m (R' 6).c] 34)
  obtain ⟨W12, hW12⟩ : ∃ W5, W5 = ((w11).alloc (Obj.cells #[.string atag', .slice ahc'.A ahc'.m ahc'.c, .slice ahd'.A ahd'.m ahd'.c, .slice ahe.A ahe.m ahe.c] 32)).alloc (Obj.cells #[.slice (R' 0).A (R' 0).m (R' 0).c, .slice (R' 1).A (R' 1).m (R' 1).c, .slice (R' 2).A (R' 2).m (R' 2).c, .slice (R' 3).A (R' 3).m (R' 3).c, .slice (R' 4).A (R' 4).m (R' 4).c, .slice (R' 5).A (R' 5).m (R' 5).c, .slice (R' 6).A (R' 6).m (R' 6).c] 34) := ⟨_, rfl⟩
  rw [← hW12] at hbA' hbR
  have hEW12 : Ext w11 W12 := by rw [hW12]; exact ((Ext.refl _).alloc _).alloc _
  obtain ⟨g13, hg13⟩ : ∃ g6, g6 = (w11).heap.size + 1 := ⟨_, rfl⟩
  obtain ⟨g12, hg12⟩ : ∃ g5, g5 = (w11).heap.size := ⟨_, rfl⟩
  rw [← hg12] at hbA'
  rw [← hg13] at hbR
  go_upto_region 10 with fail
  rw [← hW12, ← hg13, ← hg12]
  have HBAW12 := Lib.hid hbA'
  have HBRW12 := Lib.hid hbR
  clear hbA hbA' hbR hW12 hg12 hg13
  have hE012 := hE011.trans hEW12
  have hE112 := hE111.trans hEW12
  have B0 := laters (show _ = some (.string atag') from HBAW12.out.cell 0)
  have B1 := laters (show _ = some (.slice ahc'.A ahc'.m ahc'.c) from HBAW12.out.cell 1)
  have B2 := laters (show _ = some (.slice ahd'.A ahd'.m ahd'.c) from HBAW12.out.cell 2)
  have B3 := laters (show _ = some (.slice ahe.A ahe.m ahe.c) from HBAW12.out.cell 3)
  clear hE011 hE111
  by_cases hk : k = 0
  case neg =>
    have hb2 : (k != 0) = true := by simp [hk]
    rcases updP_code HUPD.out.symm with h1 | h1 | h1
    · exact absurd h1 hk
    · subst h1
      go_wp2
      go_ret
      exact ⟨rfl, hE012⟩
    · subst h1
      go_wp2
      go_ret
      exact ⟨rfl, hE012⟩
  subst hk
  have hD := updP_D HUPD.out.symm
  have HD := Lib.hid hD
  obtain ⟨r', hag, hkl⟩ := hD.again
  have HAG := Lib.hid hag
  have HKL := Lib.hid hkl
  clear hD hag hkl
  have hup := update_any (HW11.out.ext hEW12) (EntsW.ext HE911.out hEW12) (HTT.out.1.ext hE012) (fun y hy => by
    rcases HD.out.src y.p (List.mem_map_of_mem hy) with ⟨z, hz, e1⟩ | ⟨z, hz, e1⟩
    · obtain ⟨u, hu, rfl⟩ := List.mem_map.1 hz
      rw [e1]; exact HSRC.out u hu
    · rw [e1]; exact fewC_es HFC.out z hz) HSRC.out
  unfold catV at hup
  dsimp only at hup
  have hE1212 := Ext.refl W12
  go_wp2_with (first
    | (go_at_call 4; refine Hid.out ?_))
  refine Hid.mk_ ((hup).mono ?_)
  rintro e w13 ⟨⟨btag, bcom, bfd, bes, bhc, bhd, bhe⟩, R2, r6, k2, rfl, hupd2, hW13, hR13, hE13⟩
  have hE013 := hE012.trans hE13
  have hE113 := hE112.trans hE13
  have HE1213 := Lib.hid (hE1212.trans hE13)
  have h2 := hupd2.trans HAG.out
  have hk2 : k2 = 0 := congrArg (·.2.2) h2
  have HBA2 : Hid (Cat.p ⟨btag, bcom, bfd, bes, bhc, bhd, bhe⟩ = Cat.p ⟨atag', acom', afd', aes', ahc', ahd', ahe⟩) := by have h9 := congrArg Prod.fst h2; exact h9
  have hr2 : r6 = r' := congrArg (·.2.1) h2
  have HM2 : Hid ((R2 0).m = m9) := by
    show _ = _
    rw [(hR13 0 (by omega)).1.len]
    show r6.kept.length = m9
    rw [hr2, HKL.out, List.length_map, ← HL9.out]
  have HW13 := Lib.hid hW13
  have HW1113 := Lib.hid (HW11.out.ext (hEW12.trans hE13))
  have HE913 := Lib.hid (EntsW.ext HE911.out (hEW12.trans hE13))
  subst hk2
  clear hup hE012 hE112 hE13 hupd2 hW13 hR13 h2 hr2 hE1212 HAG HKL
  unfold catV repA
  dsimp only
  have hbA := Blk.new w13 32 #[.string btag, .slice bhc.A bhc.m bhc.c, .slice bhd.A bhd.m bhd.c, .slice bhe.A bhe.m bhe.c]
  have hbR := Blk.new1 w13 (Obj.cells #[.string btag, .slice bhc.A bhc.m bhc.c, .slice bhd.A bhd.m bhd.c, .slice bhe.A bhe.m bhe.c] 32) 34 #[.slice (R2 0).A (R2 0).m (R2 0).c, .slice (R2 1).A (R2 1).m (R2 1).c, .slice (R2 2).A (R2 2).m (R2 2).c, .slice (R2 3).A (R2 3).m (R2 3).c, .slice (R2 4).A (R2 4).m (R2 4).c, .slice (R2 5).A (R2 5).m (R2 5).c, .slice (R2 6).A (R2 6).m (R2 6).c]
  have hbA' := hbA.alloc (Obj.cells #[.slice (R2 0).A (R2 0).m (R2 0).c, .slice (R2 1).A (R2 1).m (R2 1).c, .slice (R2 2).A (R2 2).m (R2 2).c, .slice (R2 3).A (R2 3).m (R2 3).c, .slice (R2 4).A (R2 4).m (R2 4).c, .slice (R2 5).A (R2 5).m (R2 5).c, .slice (R2 6).A (R2 6).m (R2 6).c] 34)
  obtain ⟨W14, hW14⟩ : ∃ W5, W5 = ((w13).alloc (Obj.cells #[.string btag, .slice bhc.A bhc.m bhc.c, .slice bhd.A bhd.m bhd.c, .slice bhe.A bhe.m bhe.c] 32)).alloc (Obj.cells #[.slice (R2 0).A (R2 0).m (R2 0).c, .slice (R2 1).A (R2 1).m (R2 1).c, .slice (R2 2).A (R2 2).m (R2 2).c, .slice (R2 3).A (R2 3).m (R2 3).c, .slice (R2 4).A (R2 4).m (R2 4).c, .slice (R2 5).A (R2 5).m (R2 5).c, .slice (R2 6).A (R2 6).m (R2 6).c] 34) := ⟨_, rfl⟩
  rw [← hW14] at hbA' hbR
  have hEW14 : Ext w13 W14 := by rw [hW14]; exact ((Ext.refl _).alloc _).alloc _
  obtain ⟨g15, hg15⟩ : ∃ g6, g6 = (w13).heap.size + 1 := ⟨_, rfl⟩
  obtain ⟨g14, hg14⟩ : ∃ g5, g5 = (w13).heap.size := ⟨_, rfl⟩
  rw [← hg14] at hbA'
  rw [← hg15] at hbR
  go_upto_region 13 with fail
  rw [← hW14, ← hg15, ← hg14]
  have HBAW14 := Lib.hid hbA'
  have HBRW14 := Lib.hid hbR
  clear hbA hbA' hbR hW14 hg14 hg15
  have hE014 := hE013.trans hEW14
  have hE114 := hE113.trans hEW14
  have hE1214 := HE1213.out.trans hEW14
  have C0 := laters (show _ = some (.string btag) from HBAW14.out.cell 0)
  have C1 := laters (show _ = some (.slice bhc.A bhc.m bhc.c) from HBAW14.out.cell 1)
  have C2 := laters (show _ = some (.slice bhd.A bhd.m bhd.c) from HBAW14.out.cell 2)
  have C3 := laters (show _ = some (.slice bhe.A bhe.m bhe.c) from HBAW14.out.cell 3)
  have D0 := laters (show _ = some (.slice (R2 0).A (R2 0).m (R2 0).c) from HBRW14.out.cell 0)
  rw [HM2.out] at D0
  have hqe := reqC_any (HW13.out.ext hEW14) (HW1113.out.ext hEW14)
  rw [eqC_iff.2 HBA2.out] at hqe
  unfold catV at hqe
  dsimp only at hqe
  have hE1414 := Ext.refl W14
  have hlen : m9 ≤ ahe.m := by
    have h1 := HD.out.len
    have h2 : (Cat.p ⟨atag', acom', afd', aes', ahc', ahd', ahe⟩).es.length = ahe.m := by rw [HLA.out]; exact List.length_map _
    have h3 := HL9.out
    rw [List.length_map] at h1
    omega
  clear hE013 hE113
  go_wp2_with (first
    | (go_at_call 10; refine Hid.out ?_))
  refine Hid.mk_ ((hqe).mono ?_)
  rintro e w15 ⟨rfl, hE15⟩
  have hE015 := hE014.trans hE15
  have hE115 := hE114.trans hE15
  have hE1215 := hE1214.trans hE15
  have hE1415 := hE1414.trans hE15
  have hi13 : ¬ (ahe.m : Int) < (m9 : Int) := by omega
  have HE015 := Lib.hid hE015
  have HE115 := Lib.hid hE115
  have HE1215 := Lib.hid hE1215
  have HE1115 := Lib.hid (hEW12.trans hE1215)
  have HE915 := Lib.hid (EntsW.ext HE913.out (hEW14.trans hE15))
  have HW1115 := Lib.hid (HW1113.out.ext (hEW14.trans hE15))
  clear hqe hE014 hE114 hE1214 hE1414 hE15
  go_wp2
  clear hE1415 hi13 hi12 hb1 h12 X0 X1 X2 Z0 Z1 B0 B1 B2 C0 C1 C2 C3 D0 hE015 hE115 hE1215
  go_loopw [121] (fun v wr => ∃ q : Nat, q ≤ m9 ∧ v = .int .i64 q ∧ Hid (Ext w15 wr)) (fun v _ => m9 - (intOf v).toNat)
  case atStart => exact ⟨0, Nat.zero_le _, rfl, Ext.refl _⟩
  case round =>
    obtain ⟨q, hq, rfl, HER⟩ := hrel
    by_cases hlt : q < m9
    · have hlz : q < ahe.m := by omega
      have hskip : True := trivial
      --S[ l1
      have hi1 : (q : Int) < (m9 : Int) := by omega
      obtain ⟨lb, lo, e0, -, hcs⟩ := (EntsW.ext HE915.out HER.out).sl.at_ hlt (by omega)
      dsimp only at e0
      subst e0
      have hlt9 : q < es.length := by rw [← HL9.out]; exact hlt
      obtain ⟨u, hu⟩ : ∃ y, y = es[q] := ⟨_, rfl⟩
      have l0 := hcs q hlt9 0 (by omega)
      have l1 := hcs q hlt9 1 (by omega)
      simp only [← hu, entC, List.getElem_cons_zero, List.getElem_cons_succ, Nat.add_zero, ← Nat.add_assoc] at l0 l1
      have HU : Hid (es[q]? = some u) := by show _ = _; rw [List.getElem?_eq_getElem hlt9, hu]
      obtain ⟨⟨lid, lsrc, ltgt, lcom, lfl, lst, lfd⟩, lhc, lhf, lhd⟩ := u
      dsimp only at l0 l1
      clear hcs hu
      obtain ⟨zzb, zzo, hzA, -, hcs⟩ := ((HW1115.out.ext HER.out).e).sl.at_ hlz (by omega)
      have HzzA := Lib.hid hzA
      clear hzA
      have zzlt : q < (aes').length := by rw [← (HLA).out]; exact hlz
      obtain ⟨y, hyq⟩ : ∃ y, y = (aes')[q] := ⟨_, rfl⟩
      have y0 := hcs q zzlt 0 (by omega)
      have y1 := hcs q zzlt 1 (by omega)
      have y2 := hcs q zzlt 2 (by omega)
      have y3 := hcs q zzlt 3 (by omega)
      have y4 := hcs q zzlt 4 (by omega)
      have y5 := hcs q zzlt 5 (by omega)
      have y6 := hcs q zzlt 6 (by omega)
      simp only [← hyq, entC, List.getElem_cons_zero, List.getElem_cons_succ, Nat.add_zero, ← Nat.add_assoc] at y0 y1 y2 y3 y4 y5 y6
      have HzzM : Hid (y ∈ aes') := by show _ ∈ _; rw [hyq]; exact List.getElem_mem zzlt
      have HzzW : Hid (EntW wr y) := ((HW1115.out.ext HER.out).e).good y HzzM.out
      have HzzQ : Hid ((aes')[q]? = some y) := by show _ = _; rw [List.getElem?_eq_getElem zzlt, hyq]
      have zzi : (q : Int) < (ahe.m : Int) := by omega
      clear hcs hyq
      obtain ⟨⟨zid, zsrc, ztgt, zcom, zfl, zst, zfd⟩, zhc, zhf, zhd⟩ := y
      dsimp only at y0 y1 y2 y3 y4 y5 y6
      have hbY := Blk.new wr 39 #[.string zid, .string zsrc, .string ztgt, .slice zhc.A zhc.m zhc.c, .slice zhf.A zhf.m zhf.c, .int .i64 zst, .slice zhd.A zhd.m zhd.c]
      obtain ⟨W6, hW6⟩ : ∃ W : World, W = wr.alloc (Obj.cells #[.string zid, .string zsrc, .string ztgt, .slice zhc.A zhc.m zhc.c, .slice zhf.A zhf.m zhf.c, .int .i64 zst, .slice zhd.A zhd.m zhd.c] 39) := ⟨_, rfl⟩
      rw [← hW6] at hbY
      have hEW6 : Ext wr W6 := by rw [hW6]; exact (Ext.refl _).alloc _
      obtain ⟨g18, hg18⟩ : ∃ n, n = wr.heap.size := ⟨_, rfl⟩
      rw [← hg18] at hbY
      have Yz0 := laters (show _ = some (.string zid) from hbY.cell 0)
      have Yz1 := laters (show _ = some (.string zsrc) from hbY.cell 1)
      have Yz2 := laters (show _ = some (.string ztgt) from hbY.cell 2)
      have Yz3 := laters (show _ = some (.slice zhc.A zhc.m zhc.c) from hbY.cell 3)
      have Yz4 := laters (show _ = some (.slice zhf.A zhf.m zhf.c) from hbY.cell 4)
      have Yz5 := laters (show _ = some (.int .i64 zst) from hbY.cell 5)
      have Yz6 := laters (show _ = some (.slice zhd.A zhd.m zhd.c) from hbY.cell 6)
      clear hbY
      have hfr := HD.out.front q _ _ (show (Cat.p ⟨atag', acom', afd', aes', ahc', ahd', ahe⟩).es[q]? = some _ by show (aes'.map Ent.p)[q]? = _; rw [List.getElem?_map, HzzQ.out]; rfl) (by rw [List.getElem?_map, HU.out]; rfl)
      obtain ⟨f1, f2, f3⟩ := hfr
      dsimp only at f1 f2 f3
      subst f1
      subst f2
      have hb4 : (zst == 4) = false := by simpa using f3
      have hE12r := HE1215.out.trans HER.out
      have B3r := B3 wr hE12r
      rw [show ahe.A = some ⟨zzb, zzo, none⟩ from HzzA.out] at B3r
      have L0 := laters (later hEW6 l0)
      have L1 := laters (later hEW6 l1)
      have HE6 := Lib.hid (HER.out.trans hEW6)
      clear hE12r f3 HU l0 l1
      go_upto_region 19 with fail
      rw [← hW6, ← hg18]
      clear hW6 hg18 y0 y1 y2 y3 y4 y5 y6 B3r hEW6
      have U0 := latersU (Yz0 W6 (Ext.refl _))
      have U1 := latersU (Yz1 W6 (Ext.refl _))
      have U5 := latersU (Yz5 W6 (Ext.refl _))
      have UL0 := latersU (L0 W6 (Ext.refl _))
      have UL1 := latersU (L1 W6 (Ext.refl _))
      clear Yz0 Yz1 Yz2 Yz3 Yz4 Yz5 Yz6 L0 L1
      refine wp_region_ext_lit (by kernel_rfl) (by kernel_rfl) ?_
      try dsimp only [List.append]
      repeat (go_big_quiet_step (fail))
      refine wpQuiet_nil ?_
      rintro W8 ⟨⟨_, h8⟩, rfl⟩
      try dsimp only
      have HE8 := Lib.hid (HE6.out.trans h8)
      go_wp2
      all_goals first
        | (refine ⟨⟨q + 1, by omega, by go_num, HE8.out⟩, ?_⟩; first | (simp [intOf]; omega) | (simp [intOf]) | omega)
        | (go_roundw; (case rel => exact ⟨q + 1, by omega, by go_num, HE8.out⟩); (case measure => first | (simp [intOf]; omega) | (simp [intOf])))
      --S]
    · have hi1 : ¬ (q : Int) < (m9 : Int) := by omega
      obtain ⟨w16, rfl⟩ : ∃ w16 : World, w16 = wr := ⟨_, rfl⟩
      have hE116 := HE115.out.trans HER.out
      have HE116 := Lib.hid hE116
      have HE016 := Lib.hid (HE015.out.trans HER.out)
      have HE1216 := Lib.hid (HE1215.out.trans HER.out)
      have HW1116 := Lib.hid (HW1115.out.ext HER.out)
      go_wp2
      clear hE116 hi1
      go_loopw [156] (fun v wr => ∃ q : Nat, q ≤ he.m ∧ v = .int .i64 q ∧ Hid (Ext w16 wr)) (fun v _ => he.m - (intOf v).toNat)
      case atStart => exact ⟨0, Nat.zero_le _, rfl, Ext.refl _⟩
      case round =>
        obtain ⟨z, hz, rfl, HEZ⟩ := hrel
        by_cases hlz : z < he.m
        · have hskip : True := trivial
          have hi2 : (z : Int) < (he.m : Int) := by omega
          obtain ⟨cb, co, e0, -, hcs⟩ := (HC.out.ext (HE016.out.trans HEZ.out)).e.sl.at_ hlz (by omega)
          have HCA := Lib.hid e0
          clear e0
          have hltc : z < ces.length := by rw [← HL.out]; exact hlz
          obtain ⟨u, hu⟩ : ∃ y, y = ces[z] := ⟨_, rfl⟩
          have c2 := hcs z hltc 2 (by omega)
          simp only [← hu, entC, List.getElem_cons_zero, List.getElem_cons_succ, ← Nat.add_assoc] at c2
          have HU : Hid (u ∈ ces) := by show _ ∈ _; rw [hu]; exact List.getElem_mem hltc
          clear hcs hu
          have hE1z := HE116.out.trans HEZ.out
          have X3r := X3 wr hE1z
          rw [show he.A = some ⟨cb, co, none⟩ from HCA.out] at X3r
          obtain ⟨tg, htg⟩ : ∃ t, t = u.p.tgt := ⟨_, rfl⟩
          have HTG := Lib.hid htg
          rw [← htg] at c2
          clear htg
          obtain ⟨f1, hf1⟩ : ∃ b, b = tg.toList.isEmpty := ⟨_, rfl⟩
          have HF1 : Hid (f1 = true ∨ ∃ y ∈ aes', y.p.tgt = tg) := by
            by_cases h0 : u.p.tgt.size = 0
            · left; rw [hf1, HTG.out, isEmpty_size, h0]; rfl
            · right
              obtain ⟨y, hy, h1⟩ := HD.out.keeps u.p (List.mem_map_of_mem HU.out) h0
              obtain ⟨v, hv, rfl⟩ := List.mem_map.1 (show y ∈ aes'.map Ent.p from hy)
              exact ⟨v, hv, by rw [HTG.out]; exact h1⟩
          have hE12z := HE1216.out.trans HEZ.out
          have X3z := laters X3r
          have C2z := laters c2
          have HE12z := Lib.hid hE12z
          have HE0z := Lib.hid (HE016.out.trans HEZ.out)
          have HW11z := Lib.hid (HW1116.out.ext HEZ.out)
          clear X3r c2 hE1z
          have hEzz := Ext.refl wr
          obtain ⟨wz, rfl⟩ : ∃ wz : World, wz = wr := ⟨_, rfl⟩
          go_wp2
          rw [← hf1]
          clear hf1 hEzz hE12z
          go_loopw [169, 20] (fun v f wr => ∃ j : Nat, j ≤ ahe.m ∧ v = .int .i64 j ∧ Hid (Ext wz wr) ∧ f = .bool (f1 || (aes'.take j).any fun y => decide (y.p.tgt = tg))) (fun v _ _ => ahe.m - (intOf v).toNat)
          case atStart => exact ⟨0, Nat.zero_le _, rfl, Ext.refl _, by simp⟩
          case round =>
            obtain ⟨j, hj, rfl, HEJ, rfl⟩ := hrel
            by_cases hlj : j < ahe.m
            · have hskip : True := trivial
              --S[ l3
              have hi3 : (j : Int) < (ahe.m : Int) := by omega
              obtain ⟨db, d0, e0, -, hcs⟩ := (HW11z.out.ext HEJ.out).e.sl.at_ hlj (by omega)
              have HDA := Lib.hid e0
              clear e0
              have hltd : j < aes'.length := by rw [← HLA.out]; exact hlj
              obtain ⟨v, hv⟩ : ∃ y, y = aes'[j] := ⟨_, rfl⟩
              have c2 := hcs j hltd 2 (by omega)
              simp only [← hv, entC, List.getElem_cons_zero, List.getElem_cons_succ, ← Nat.add_assoc] at c2
              obtain ⟨td, htd⟩ : ∃ t, t = v.p.tgt := ⟨_, rfl⟩
              rw [← htd] at c2
              have HTK : Hid (((aes'.take (j + 1)).any fun y => decide (y.p.tgt = tg)) = (((aes'.take j).any fun y => decide (y.p.tgt = tg)) || decide (td = tg))) := by
                show _ = _
                rw [List.take_succ_eq_append_getElem hltd, List.any_append, ← hv, htd]
                simp
              clear hcs hv htd
              have B3r := B3 wr (HE12z.out.trans HEJ.out)
              rw [show ahe.A = some ⟨db, d0, none⟩ from HDA.out] at B3r
              have B3j := latersU B3r
              have C2j := latersU c2
              have X3j := latersU (X3z wr HEJ.out)
              have C2k := latersU (C2z wr HEJ.out)
              obtain ⟨f0, hf0⟩ : ∃ f0, f0 = (f1 || (aes'.take j).any fun y => decide (y.p.tgt = tg)) := ⟨_, rfl⟩
              have HF0 := Lib.hid hf0
              rw [← hf0]
              clear hf0 B3r c2
              cases f0 with
              | true =>
                have HN : Hid ((f1 || (aes'.take (j + 1)).any fun y => decide (y.p.tgt = tg)) = true) := by show _ = _; rw [HTK.out, ← Bool.or_assoc, ← HF0.out]; rfl
                go_upto_region 29 with fail
                refine wp_region_ext_lit (by kernel_rfl) (by kernel_rfl) ?_
                try dsimp only [List.append]
                repeat (go_big_quiet_step (fail))
                refine wpQuiet_nil ?_
                rintro W8 ⟨⟨_, h8⟩, rfl⟩
                try dsimp only
                have HE8 := Lib.hid (HEJ.out.trans h8)
                go_wp2
                all_goals first
                  | (refine ⟨⟨j + 1, by omega, by go_num, HE8.out, by rw [HN.out]⟩, ?_⟩; first | (simp [intOf]; omega) | (simp [intOf]) | omega)
                  | (go_roundw; (case rel => exact ⟨j + 1, by omega, by go_num, HE8.out, by rw [HN.out]⟩); (case measure => first | (simp [intOf]; omega) | (simp [intOf])))
              | false =>
                by_cases h1 : td = tg
                · have e1 : (td.toList == tg.toList) = true := by rw [h1]; simp
                  have HN : Hid ((f1 || (aes'.take (j + 1)).any fun y => decide (y.p.tgt = tg)) = true) := by show _ = _; rw [HTK.out, decide_eq_true h1]; simp
                  clear h1
                  go_upto_region 29 with fail
                  refine wp_region_ext_lit (by kernel_rfl) (by kernel_rfl) ?_
                  try dsimp only [List.append]
                  repeat (go_big_quiet_step (fail))
                  refine wpQuiet_nil ?_
                  rintro W8 ⟨⟨_, h8⟩, rfl⟩
                  try dsimp only
                  have HE8 := Lib.hid (HEJ.out.trans h8)
                  go_wp2
                  all_goals first
                    | (refine ⟨⟨j + 1, by omega, by go_num, HE8.out, by rw [HN.out]⟩, ?_⟩; first | (simp [intOf]; omega) | (simp [intOf]) | omega)
                    | (go_roundw; (case rel => exact ⟨j + 1, by omega, by go_num, HE8.out, by rw [HN.out]⟩); (case measure => first | (simp [intOf]; omega) | (simp [intOf])))
                · have e1 : (td.toList == tg.toList) = false := by rw [beq_eq_false_iff_ne]; exact fun e => h1 (toList_iff.1 e)
                  have HN : Hid ((f1 || (aes'.take (j + 1)).any fun y => decide (y.p.tgt = tg)) = false) := by show _ = _; rw [HTK.out, ← Bool.or_assoc, ← HF0.out, decide_eq_false h1]; rfl
                  clear h1
                  go_upto_region 29 with fail
                  refine wp_region_ext_lit (by kernel_rfl) (by kernel_rfl) ?_
                  try dsimp only [List.append]
                  repeat (go_big_quiet_step (fail))
                  refine wpQuiet_nil ?_
                  rintro W8 ⟨⟨_, h8⟩, rfl⟩
                  try dsimp only
                  have HE8 := Lib.hid (HEJ.out.trans h8)
                  go_wp2
                  all_goals first
                    | (refine ⟨⟨j + 1, by omega, by go_num, HE8.out, by rw [HN.out]⟩, ?_⟩; first | (simp [intOf]; omega) | (simp [intOf]) | omega)
                    | (go_roundw; (case rel => exact ⟨j + 1, by omega, by go_num, HE8.out, by rw [HN.out]⟩); (case measure => first | (simp [intOf]; omega) | (simp [intOf])))
              --S]
            · have hi3 : ¬ (j : Int) < (ahe.m : Int) := by omega
              have HFT : Hid ((f1 || (aes'.take j).any fun y => decide (y.p.tgt = tg)) = true) := by
                show _ = _
                rw [List.take_of_length_le (by have := HLA.out; omega)]
                rcases HF1.out with h1 | ⟨y, hy, h1⟩
                · rw [h1]; rfl
                · rw [List.any_eq_true.2 ⟨y, hy, decide_eq_true h1⟩, Bool.or_true]
              rw [HFT.out]
              have HEQ := Lib.hid (HEZ.out.trans HEJ.out)
              go_wp2
              all_goals first
                | (refine ⟨⟨z + 1, by omega, by go_num, HEQ.out⟩, ?_⟩; first | (simp [intOf]; omega) | (simp [intOf]) | omega)
                | (go_roundw; (case rel => exact ⟨z + 1, by omega, by go_num, HEQ.out⟩); (case measure => first | (simp [intOf]; omega) | (simp [intOf])))
        · have hi2 : ¬ (z : Int) < (he.m : Int) := by omega
          have HEF := Lib.hid (HE016.out.trans HEZ.out)
          go_wp2
          go_ret
          exact ⟨rfl, HEF.out⟩
end
set_option maxRecDepth 100000 in
theorem liftedWholeExtraction (os : Os) (started : os.Started) (H : Type) (enc : TypeId × Value → H) :
    ReturnsInHanded {} Tryz.checked os 3 .any (fun w args => (Rows.wholeExtractionSpec.pre enc Tryz.prog Tryz.f3 [] false w args ∧ laidMetH Tryz.prog laidX w) ∧ sizedMet enc Tryz.prog Tryz.f3 (OpenSpec.ofChange Rows.wholeExtractionSpec) false w args) (Rows.wholeExtractionSpec.post enc Tryz.prog Tryz.f3 false true false false) := by
  refine returnsInHanded_of_change_and (C := Tryz.checked) (X := fun w _ => laidMetH Tryz.prog laidX w) (fun _ _ _ hh h => h.of_heap hh) ownK started (by kernel_rfl) Tryz.func3
    (ChangeSpec.witness_shaped (enc := enc) (C := Tryz.checked) (os := os) (X := fun w _ => laidMetH Tryz.prog laidX w) false (World.laidAll Tryz.prog os laidX) #[.agg #[.slice none 0 0, .slice none 0 0], .slice none 0 0, .agg #[.string ⟨#[]⟩, .slice none 0 0, .slice none 0 0, .slice none 0 0]] 8 (World.laidAll_os _ _ _)
      (World.shaped_of_ZipB (by kernel_rfl) (by kernel_rfl)) (by kernel_rfl) (by kernel_rfl) (by kernel_rfl)
      (by rw [MakeChecks.laidMetH_plain _ _ _ (by kernel_rfl)]; exact laidMet_laidAll _ (by kernel_rfl) (by kernel_rfl))) ?_
  intro W base args ds gs before hval0 hW hcnd hsz0 hL _
  have hT := tabsX hL
  have hval : ∀ (j : Nat) t v, Tryz.f3.params[j]? = some t → args[j]? = some v → Value.okWide Tryz.prog W .any base t v := hval0
  have hW' := hW
  obtain ⟨p, q, hA0, hV, rfl, hfz, hnd⟩ := hW
  have hA : DataW.TrodAll enc Tryz.prog W 0 (fun _ => true) true Tryz.f3.params.toList args.toList ds p := hA0
  have hsz : (DataW.weightsEach Tryz.prog (Tryz.f3.params.toList ++ Rows.wholeExtractionSpec.plain.varTypes Tryz.prog) (ds ++ gs)).all (· ≤ reachBytes) = true := hsz0
  rw [Tryz.params3] at hA hval hsz
  obtain ⟨v0, vs0, d0, ds0, p0, q0, hargs0, rfl, rfl, h0, r0⟩ := trodAll_cons hA
  obtain ⟨v1, vs1, d1, ds1, p1, q1, hargs1, rfl, rfl, h1, r1⟩ := trodAll_cons r0
  obtain ⟨v2, vs2, d2, ds2, p2, q2, hargs2, rfl, rfl, h2, r2⟩ := trodAll_cons r1
  obtain ⟨rfl, rfl, rfl⟩ := trodAll_nil r2
  obtain rfl : args = #[v0, v1, v2] := by cases args; simp_all
  obtain ⟨rfl, rfl⟩ := trodVars_none hV
  have k0 := h0
  have lt0 : ∀ x ∈ p0, x.block < W.heap.size := by obtain ⟨m, hm⟩ := k0; exact DataW.trod_lt m _ _ _ hm
  have k1 := h1
  have lt1 : ∀ x ∈ p1, x.block < W.heap.size := by obtain ⟨m, hm⟩ := k1; exact DataW.trod_lt m _ _ _ hm
  have k2 := h2
  have lt2 : ∀ x ∈ p2, x.block < W.heap.size := by obtain ⟨m, hm⟩ := k2; exact DataW.trod_lt m _ _ _ hm
  obtain ⟨x0, rfl, g0⟩ := opn_top_agg opn_stg ((okWide_struct Tryz.underlying26 (hval 0 26 v0 rfl rfl)).imp fun _ hh => hh.1) h0 (WOk.top hsz (j := 0) rfl rfl)
  obtain ⟨A1, m1, c1, l1, rfl, wf1, gf1, hc1, hb1⟩ := opn_top_slice Tryz.underlying27 opn_fils (hval 1 27 v1 rfl rfl) h1 (WOk.top hsz (j := 1) rfl rfl)
  have g1 : FilsW W ⟨A1, m1, c1⟩ l1 := ⟨wf1, hc1, Nat.le_trans (Nat.mul_le_mul_right _ hc1) hb1, gf1⟩
  obtain ⟨x2, rfl, g2⟩ := opn_top_agg opn_cat ((okWide_struct Tryz.underlying32 (hval 2 32 v2 rfl rfl)).imp fun _ hh => hh.1) h2 (WOk.top hsz (j := 2) rfl rfl)
  clear hA0 hval0
  refine (ext_walk g0 g1 g2 hT).mono fun e W' ⟨he, bel⟩ => ?_
  subst he
  exact ⟨_, rfl, _, _, _, [], _, [], hW', trodAll_mk1 (shut_bool Tryz.underlying4 _), (trodAll_cons_mk (Below.trod laidK (by kernel_rfl) (of_decide_eq_true (by kernel_rfl)) k0 bel lt0) (trodAll_cons_mk (Below.trod laidK (by kernel_rfl) (of_decide_eq_true (by kernel_rfl)) k1 bel lt1) (trodAll_cons_mk (Below.trod laidK (by kernel_rfl) (of_decide_eq_true (by kernel_rfl)) k2 bel lt2) trodAll_mk0))), rfl, Below.frame bel _, fun h => by cases h⟩
theorem WholeExtraction_row : Rows.WholeExtractionSaid :=
  OpenClaim.holds_of_wide 3 Tryz.f3 rfl rfl rfl rfl rfl rfl rfl ⟨rfl, rfl, rfl, rfl, rfl⟩ rfl rfl rfl rfl rfl (by kernel_rfl) Tryz.func3 (by kernel_rfl)
    (of_decide_eq_true (by kernel_rfl)) (by unfold Func.isWrapper; rw [if_neg (of_decide_eq_false (by kernel_rfl))]; exact ⟨rfl, rfl⟩)
    (fun os started H enc _ => liftedWholeExtraction os started H enc)
theorem WholeExtraction_holds : Rows.WholeExtractionCardSaid :=
  Claim7.holds_tied_plain_at .later [] Rows.wholeExtractionCard.laidKinds true Rows.wholeExtractionCard.stood.harness Rows.wholeExtractionCard.stood.looks
    WholeExtraction_row (fun _ h => by cases h) (by kernel_rfl) (fun _ h => by cases h) wholeExtraction_row_tie rfl ⟨rfl, rfl⟩ (by kernel_rfl) rfl
    (fun f fn hf hfn => by
      obtain rfl : f = 3 := Option.some.inj ((show Tryz.prog.funcNamed Rows.wholeExtractionRow.func = some 3 by kernel_rfl).symm.trans hf) |>.symm
      obtain rfl : fn = Tryz.f3 := (Option.some.inj (Tryz.func3.symm.trans hfn)).symm
      exact ⟨by kernel_rfl, fun j t ht => by
        rw [Tryz.params3] at ht
        have hm : t ∈ [26, 27, 32] := by simpa using Array.mem_of_getElem? ht
        have hall : ([26, 27, 32].all fun u => !Tryz.prog.wantsStandIn u) = true := by kernel_rfl
        exact (show Tryz.prog.wantsStandIn t = false by simpa using List.all_eq_true.1 hall t hm)⟩)
    (by kernel_rfl)
#print axioms WholeExtraction_holds
end Go.Proofs.YtgnchicipmomlaaGreatDoor
