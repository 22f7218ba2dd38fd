/- What is extracted from files by a script that is printed and read back. -/
import Derived.Test.YtgnchicipmomlaaGreatDoorPK38
import Derived.Test.YtgnchicipmomlaaGreatDoorPK05
namespace Go.Proofs.YtgnchicipmomlaaGreatDoor
open Go.RowKit Go.Maps
set_option maxRecDepth 100000
attribute [local go_sem] ext_refl_t ext_alloc_t ext_drew_t ext_drewN_t ext_alloc2_t ext_alloc3_t ext_alloc4_t ext_alloc5_t ext_alloc6_t ext_alloc7_t ext_alloc8_t ext_alloc1d_t ext_alloc2d_t ext_alloc3d_t ext_alloc4d_t
theorem einfo_cll : EInfo 86 87 3 32 := EInfo.mk_ (z := .agg #[.string ⟨#[]⟩, .int .i64 0, .int .i64 0]) Tryz.underlying86 (by kernel_rfl) rfl (by omega) (by omega)
theorem einfo_fil : EInfo 88 89 2 32 := EInfo.mk_ (z := .agg #[.string ⟨#[]⟩, .string ⟨#[]⟩]) Tryz.underlying88 (by kernel_rfl) rfl (by omega) (by omega)
theorem cllC_cell (x : Cll) : ∀ u ∈ cllC x, u.oneCell' = true := fun u hu => by
  simp [cllC] at hu
  rcases hu with rfl | rfl | rfl <;> rfl
theorem filC_cell (x : ByteArray × ByteArray) : ∀ u ∈ filC x, u.oneCell' = true := fun u hu => by
  simp [filC] at hu
  rcases hu with rfl | rfl <;> rfl
/-- What is extracted. -/
def ExdR (w w' : World) (e : Ending) : Prop :=
  Ext w w' ∧ ∃ (h : SlH) (er : Int), e = .returned (.tuple #[.slice h.A h.m h.c, .int .i64 er]) ∧ (er = 0 → ∃ es, EntsW w' h es ∧ ∀ x ∈ es, x.p.src.size ≤ 1000000)
section
variable {w : World}
set_option maxHeartbeats 12800000 in
theorem extracted_any {x : Stg} (hx : StgW w x) {hf : SlH} {files : List (ByteArray × ByteArray)} (hfl : FilsW w hf files) (h45 : x.calls.length ≤ 45) (h6 : files.length ≤ 6) (hfb : ∀ y ∈ files, y.1.size ≤ 200 ∧ y.2.size ≤ 400) (hT : PTt w) :
    Calls Tryz.prog 9 #[.agg (stgC x).toArray, .slice hf.A hf.m hf.c] w fun e w' => ExdR w w' e := by
  obtain ⟨scr, calls, hs, ⟨C, n, d⟩⟩ := x
  obtain ⟨F, p, r⟩ := hf
  have HX := Lib.hid hx.s
  have HC := Lib.hid hx.c
  have HF := Lib.hid hfl
  have HFB := Lib.hid hfb
  have HTT := Lib.hid hT
  have HLC := Lib.hid hx.c.sl.len
  have HLF := Lib.hid hfl.sl.len
  dsimp only at HLC HLF h45 HX HC
  have hn45 : n ≤ 45 := by rw [HLC.out]; exact h45
  have hp6 : p ≤ 6 := by rw [HLF.out]; exact h6
  unfold stgC
  dsimp only
  have hb := Blk.new w 26 #[.slice hs.A hs.m hs.c, .slice C n d]
  have hE1 : Ext w (w.alloc (Obj.cells #[.slice hs.A hs.m hs.c, .slice C n d] 26)) := (Ext.refl w).alloc _
  obtain ⟨W1, hW1⟩ : ∃ W1, W1 = w.alloc (Obj.cells #[.slice hs.A hs.m hs.c, .slice C n d] 26) := ⟨_, rfl⟩
  obtain ⟨g, hg⟩ : ∃ g, g = w.heap.size := ⟨_, rfl⟩
  rw [← hW1, ← hg] at hb
  rw [← hW1] at hE1
  have X0 := laters (show _ = some (.slice hs.A hs.m hs.c) from hb.cell 0)
  have X1 := laters (show _ = some (.slice C n d) from hb.cell 1)
  have hEr := Ext.refl W1
  clear hb hx hfl hfb hT h45 h6
  go_enter Tryz.func9, Tryz.ntmps9
  go_upto_region 1 with fail
  rw [← hW1, ← hg]
  clear hW1 hg
  go_wp2_with (first
    | (go_at_call 24; refine Hid.out ?_))
  refine Hid.mk_ ((Print44_any (ScrW.ext HX.out hE1)).mono ?_)
  rintro e w2 ⟨⟨s, k, rfl, hsz⟩, hE2⟩
  go_wp2_with (first
    | (go_at_call 25; refine Hid.out ?_))
  refine Hid.mk_ ((parseS_any s hsz).mono ?_)
  rintro e w3 ⟨⟨A3, m3, c3⟩, at_, er, rfl, hE3, hpar⟩
  have hE13 := hE2.trans hE3
  have hE03 := hE1.trans hE13
  have HPAR := Lib.hid hpar
  clear hpar hsz hE2 hE3 hEr
  by_cases her : er = 0
  · have hb1 : (er != 0) = false := by simp [her]
    obtain ⟨l3, hscr, -, hlg⟩ := HPAR.out her
    have HSC := Lib.hid hscr
    have HLG := Lib.hid hlg
    clear hscr hlg her
    have HE13 := Lib.hid hE13
    go_wp2
    clear hE13
    go_loopw [11, 35] (fun v11 v35 wr => ∃ (q : Nat) (A : Option Addr) (m c : Nat), q ≤ n ∧ v35 = .int .i64 q ∧ v11 = .slice A m c ∧ m = q ∧ Hid (Ext w3 wr) ∧ Hid (OsC cllC 87 3 wr w3.heap.size A m c (calls.take q))) (fun _ v _ => n - (intOf v).toNat)
    case atStart => exact ⟨0, none, 0, 0, Nat.zero_le _, rfl, rfl, rfl, Ext.refl _, by rw [List.take_zero]; exact OsC.nil_ cllC_len cllC_cell⟩
    case round =>
      obtain ⟨q, A, m, c, hq, rfl, rfl, hm, HE, HO⟩ := hrel
      have HMQ := Lib.hid hm
      clear hm
      have hE1r := HE13.out.trans HE.out
      by_cases hlt : q < n
      · obtain ⟨b, off, e0, hbl, hcs⟩ := (HC.out.sl.ext (hE03.trans HE.out)).at_ hlt (by omega)
        dsimp only at e0
        subst e0
        have hlt1 : q < calls.length := by rw [← HLC.out]; exact hlt
        obtain ⟨⟨nm, id, sr⟩, hyq⟩ : ∃ y, y = calls[q] := ⟨_, rfl⟩
        have y0 := hcs q hlt1 0 (by omega)
        have y1 := hcs q hlt1 1 (by omega)
        have y2 := hcs q hlt1 2 (by omega)
        simp only [← hyq, cllC, List.getElem_cons_zero, List.getElem_cons_succ, Nat.add_zero, ← Nat.add_assoc] at y0 y1 y2
        have hi1 : (q : Int) < (n : Int) := by omega
        have HTK : Hid (calls.take (q + 1) = calls.take q ++ [(⟨nm, id, sr⟩ : Cll)]) := by show _ = _; rw [List.take_succ_eq_append_getElem hlt1, hyq]
        have hnew := SlC.new_ (cs := cllC) wr [(⟨nm, id, sr⟩ : Cll)] cllC_len (by simp) #[.string nm, .int .i64 id, .int .i64 sr] rfl (0, 0) 1 rfl 87
        have hEa : Ext wr (wr.alloc (Obj.cells #[.string nm, .int .i64 id, .int .i64 sr] 87)) := (Ext.refl _).alloc _
        have hO8 := HO.out.ext hEa
        have hsz := (HE.out.trans hEa).size_le
        clear hcs hyq
        go_wp2_with (first
          | (at_builtin; refine Hid.out ?_))
        refine Hid.mk_ ?_
        refine appC einfo_cll rfl _ _ rfl hO8 rfl hnew rfl (by have := HMQ.out; omega) hsz ?_
        intro A8 m8 c8 w8 ho8 hg8 hn8
        have HM8 : Hid (m8 = q + 1) := by show m8 = q + 1; rw [ho8.len, List.length_append, ← hO8.len, HMQ.out]; rfl
        have HE8 : Hid (Ext w3 w8) := (HE.out.trans hEa).grown hg8 (fun j hj => HO.out.ge j hj)
        have HO8 : Hid (OsC cllC 87 3 w8 w3.heap.size A8 m8 c8 (calls.take (q + 1))) := by show OsC _ _ _ _ _ _ _ _ _; rw [HTK.out]; exact ho8
        clear ho8 hg8 hn8 hO8 hnew
        go_wp2
        all_goals first
          | (refine ⟨⟨q + 1, A8, m8, c8, by omega, by go_num, rfl, HM8.out, HE8, HO8⟩, ?_⟩; first | (simp [intOf]; omega) | (simp [intOf]) | omega)
          | (go_roundw; (case rel => exact ⟨q + 1, A8, m8, c8, by omega, by go_num, rfl, HM8.out, HE8, HO8⟩); (case measure => first | (simp [intOf]; omega) | (simp [intOf])))
      · have hi1 : ¬ (q : Int) < (n : Int) := by omega
        have hE0r := hE03.trans HE.out
        have HCL : Hid (CllsW wr ⟨A, m, c⟩ calls) := by
          have h1 := HO.out
          rw [List.take_of_length_le (by rw [← HLC.out]; omega)] at h1
          exact ⟨h1.sl, h1.cap, (by have := HMQ.out; show m * 32 ≤ 140737488351232; omega), HC.out.good⟩
        obtain ⟨w4, rfl⟩ : ∃ w4 : World, w4 = wr := ⟨_, rfl⟩
        have HSC4 := Lib.hid (ScrW.ext HSC.out HE.out)
        clear hE1r
        go_wp2
        go_loopw [13, 49] (fun v13 v49 wr => ∃ (z : Nat) (A5 : Option Addr) (m5 c5 : Nat), z ≤ p ∧ v49 = .int .i64 z ∧ v13 = .slice A5 m5 c5 ∧ m5 = z ∧ Hid (Ext w4 wr) ∧ Hid (OsC filC 89 2 wr w4.heap.size A5 m5 c5 (files.take z))) (fun _ v _ => p - (intOf v).toNat)
        case atStart => exact ⟨0, none, 0, 0, Nat.zero_le _, rfl, rfl, rfl, Ext.refl _, by rw [List.take_zero]; exact OsC.nil_ filC_len filC_cell⟩
        case round =>
          obtain ⟨z, A5, m5, c5, hz, rfl, rfl, hm5, HE5, HO5⟩ := hrel
          have HMZ := Lib.hid hm5
          clear hm5
          have hE05 := hE0r.trans HE5.out
          by_cases hlz : z < p
          · obtain ⟨b, off, e0, hbl, hcs⟩ := (HF.out.sl.ext hE05).at_ hlz (by omega)
            dsimp only at e0
            subst e0
            have hlt1 : z < files.length := by rw [← HLF.out]; exact hlz
            obtain ⟨⟨nm, tx⟩, hyq⟩ : ∃ y, y = files[z] := ⟨_, rfl⟩
            have y0 := hcs z hlt1 0 (by omega)
            have y1 := hcs z hlt1 1 (by omega)
            simp only [← hyq, filC, List.getElem_cons_zero, List.getElem_cons_succ, Nat.add_zero, ← Nat.add_assoc] at y0 y1
            have hi2 : (z : Int) < (p : Int) := by omega
            have HTK : Hid (files.take (z + 1) = files.take z ++ [(nm, tx)]) := by show _ = _; rw [List.take_succ_eq_append_getElem hlt1, hyq]
            have hnew := SlC.new_ (cs := filC) wr [(nm, tx)] filC_len (by simp) #[.string nm, .string tx] rfl (0, 0) 1 rfl 89
            have hEa : Ext wr (wr.alloc (Obj.cells #[.string nm, .string tx] 89)) := (Ext.refl _).alloc _
            have hO8 := HO5.out.ext hEa
            have hsz := (HE5.out.trans hEa).size_le
            clear hcs hyq
            go_wp2_with (first
              | (at_builtin; refine Hid.out ?_))
            refine Hid.mk_ ?_
            refine appC einfo_fil rfl _ _ rfl hO8 rfl hnew rfl (by have := HMZ.out; omega) hsz ?_
            intro A8 m8 c8 w8 ho8 hg8 hn8
            have HM8 : Hid (m8 = z + 1) := by show m8 = z + 1; rw [ho8.len, List.length_append, ← hO8.len, HMZ.out]; rfl
            have HE8 : Hid (Ext w4 w8) := (HE5.out.trans hEa).grown hg8 (fun j hj => HO5.out.ge j hj)
            have HO8 : Hid (OsC filC 89 2 w8 w4.heap.size A8 m8 c8 (files.take (z + 1))) := by show OsC _ _ _ _ _ _ _ _ _; rw [HTK.out]; exact ho8
            clear ho8 hg8 hn8 hO8 hnew
            go_wp2
            all_goals first
              | (refine ⟨⟨z + 1, A8, m8, c8, by omega, by go_num, rfl, HM8.out, HE8, HO8⟩, ?_⟩; first | (simp [intOf]; omega) | (simp [intOf]) | omega)
              | (go_roundw; (case rel => exact ⟨z + 1, A8, m8, c8, by omega, by go_num, rfl, HM8.out, HE8, HO8⟩); (case measure => first | (simp [intOf]; omega) | (simp [intOf])))
          · have hi2 : ¬ (z : Int) < (p : Int) := by omega
            have HFL : Hid (FilsW wr ⟨A5, m5, c5⟩ files) := by
              have h1 := HO5.out
              rw [List.take_of_length_le (by rw [← HLF.out]; omega)] at h1
              exact ⟨h1.sl, h1.cap, (by have := HMZ.out; show m5 * 32 ≤ 140737488351232; omega), HF.out.good⟩
            go_wp2_with (first
              | (go_at_call 26; refine Hid.out ?_))
            refine Hid.mk_ ((Extract_any (ScrW.ext HSC4.out HE5.out) HLG.out (HW.ext HCL.out HE5.out) HFL.out (by rw [← HLC.out]; exact hn45) (by rw [← HLF.out]; exact hp6) HFB.out (HTT.out.ext hE05)).mono ?_)
            rintro e w7 ⟨hE7, ⟨A7, m7, c7⟩, x1, x2, er7, rfl, hes⟩
            have HES := Lib.hid hes
            have hE07 := hE05.trans hE7
            clear hes
            go_wp2
            go_ret2
            exact ⟨hE07.alloc _, ⟨A7, m7, c7⟩, _, rfl, fun h0 => by
              obtain ⟨es, h1, h2⟩ := HES.out h0
              exact ⟨es, EntsW.ext h1 ((Ext.refl _).alloc _), h2⟩⟩
  · have hb1 : (er != 0) = true := by simp [her]
    go_wp2
    go_ret2
    exact ⟨hE03, ⟨none, 0, 0⟩, _, rfl, fun h => absurd h her⟩
end
end Go.Proofs.YtgnchicipmomlaaGreatDoor
