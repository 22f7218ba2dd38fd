/- The reference's Remove. -/
import Derived.Test.YtikbjaopcminaaaDoorRWith
import Derived.Test.YtikbjaopcminaaaDoorCatM
namespace Go.Proofs.YtikbjaopcminaaaDoor
open Go.RowKit
set_option maxRecDepth 100000
attribute [local go_sem] ext_refl_t ext_alloc_t ext_drew_t ext_drewN_t ext_alloc2_t ext_alloc3_t ext_alloc4_t ext_alloc5_t ext_alloc6_t ext_alloc7_t ext_alloc8_t ext_alloc1d_t ext_alloc2d_t ext_alloc3d_t ext_alloc4d_t
theorem cat0_W (w : World) : CatW w cat0 := (CatO.zero w 0).w (by show (0 : Nat) ≤ _; omega)
theorem CatW.withE {w : World} {x : Cat} (hx : CatW w x) {base : Nat} {A : Option Addr} {m c : Nat} {es : List Ent} (ho : OsC entC 30 7 w base A m c es) (hm : m ≤ 1000000) (hg : ∀ z ∈ es, EntW w z) : CatW w (x.withE es ⟨A, m, c⟩) :=
  ⟨hx.tag, hx.c, hx.d, ⟨ho.sl, ho.cap, by show m * 128 ≤ _; omega, hg⟩⟩
theorem withE_p (x : Cat) (es : List Ent) (e : SlH) : (x.withE es e).p = ⟨x.tag, x.com, x.fd, es.map Ent.p⟩ := rfl
section
variable {w : World}
set_option maxHeartbeats 12800000 in
theorem rremove_any {x : Cat} (hx : CatW w x) (id : ByteArray) :
    Calls Tryd.prog 26 #[catV x, .string id] w fun e w' => (∃ (y : Cat) (code : Int), e = .returned (.tuple #[catV y, .int .i64 code]) ∧ RemR x.p id y.p code ∧ CatW w' y ∧ ∀ z ∈ y.es, z ∈ x.es) ∧ Ext w w' := by
  obtain ⟨W0, hW0⟩ : ∃ W0, W0 = (w.alloc (Obj.cells #[.string x.tag, .slice x.c.A x.c.m x.c.c, .slice x.d.A x.d.m x.d.c, .slice x.e.A x.e.m x.e.c] 28)).alloc (Obj.cells #[.string ⟨#[]⟩, .slice none 0 0, .slice none 0 0, .slice none 0 0] 28) := ⟨_, rfl⟩
  have hb0 : Blk W0 w.heap.size 28 #[.string x.tag, .slice x.c.A x.c.m x.c.c, .slice x.d.A x.d.m x.d.c, .slice x.e.A x.e.m x.e.c] := by
    rw [hW0]; exact (Blk.new w _ _).alloc _
  have hb1 : Blk W0 (w.heap.size + 1) 28 #[.string ⟨#[]⟩, .slice none 0 0, .slice none 0 0, .slice none 0 0] := by
    rw [hW0]; exact Blk.new1 w _ _ _
  have hEW0 : Ext w W0 := by rw [hW0]; exact ((Ext.refl w).alloc _).alloc _
  have hsz0 : W0.heap.size = w.heap.size + 2 := by rw [hW0]; simp
  have HIDV : Hid (∀ y : Cat, catV y = .agg #[.string y.tag, .slice y.c.A y.c.m y.c.c, .slice y.d.A y.d.m y.d.c, .slice y.e.A y.e.m y.e.c]) := fun _ => rfl
  have hval := rvalid_any (hx.ext hEW0)
  rw [HIDV.out x] at hval ⊢
  obtain ⟨g, hg⟩ : ∃ g, g = w.heap.size := ⟨_, rfl⟩
  have HG := Lib.hid hg
  have HSZ := Lib.hid hsz0
  go_enter Tryd.func26, Tryd.ntmps26
  go_wp2_with (first
    | (go_at_call 22; refine Hid.out ?_))
  rw [← hW0, ← hg]
  rw [← hg] at hb0 hb1
  refine Hid.mk_ (hval.mono ?_)
  rintro e w1 ⟨rfl, hE1⟩
  have X0 := laters (show _ = some (.string x.tag) from hb0.cell 0)
  have X1 := laters (show _ = some (.slice x.c.A x.c.m x.c.c) from hb0.cell 1)
  have X2 := laters (show _ = some (.slice x.d.A x.d.m x.d.c) from hb0.cell 2)
  have X3 := laters (show _ = some (.slice x.e.A x.e.m x.e.c) from hb0.cell 3)
  have hEw1 := hEW0.trans hE1
  clear hW0 hg hsz0 hval
  cases hv : validC x.p with
  | false =>
    have hr1 := hb1.below hE1 hb1.lt
    have s0 := hr1.cell 0
    have s1 := hr1.cell 1
    have s2 := hr1.cell 2
    have s3 := hr1.cell 3
    have t0 := hr1.frozen 0
    have t1 := hr1.frozen 1
    have t2 := hr1.frozen 2
    have t3 := hr1.frozen 3
    have HBR : Hid (Blk w1 (g + 1) 28 _) := hr1
    clear hr1
    have HR : Hid (RemR x.p id cp0 1) := .inl ⟨hv, rfl, rfl⟩
    clear hv
    go_wp2
    refine bodyPost_ret (results_cell_row_tmp' rfl _ _ (g + 1) 28 #[.string ⟨#[]⟩, .slice none 0 0, .slice none 0 0, .slice none 0 0] (0, 0) _ rfl ((((HBR.out.set_ 0 _).set_ 1 _).set_ 2 _).set_ 3 _) Tryd.underlying28 rfl info_cat4) rfl ?_
    refine ⟨⟨cat0, _, rfl, HR.out, cat0_W _, fun z h => (by cases h)⟩, ?_⟩
    iterate 4 refine Ext.set_ ?_ (by show w.heap.size ≤ g + 1; rw [HG.out]; omega) _
    exact hEw1
  | true =>
  have HV := Lib.hid hv
  clear hv
  have hfd := refFind_any (hx.ext hEw1) id
  rw [HIDV.out x] at hfd
  go_wp2_with (first
    | (go_at_call 35; refine Hid.out ?_))
  refine Hid.mk_ ((hfd).mono ?_)
  rintro e w2 ⟨⟨z, hz, rfl⟩, hE2⟩
  have HZ := Lib.hid hz
  have hE02 := hE1.trans hE2
  have hEw2 := hEw1.trans hE2
  clear hfd
  rcases hz.cases_ with rfl | ⟨k, rfl⟩
  · clear hz
    have HFV : Hid (FindV (-1) = .tuple #[.int .i64 0, .bool false]) := rfl
    rw [HFV.out]
    have hr1 := hb1.below hE02 hb1.lt
    have s0 := hr1.cell 0
    have s1 := hr1.cell 1
    have s2 := hr1.cell 2
    have s3 := hr1.cell 3
    have t0 := hr1.frozen 0
    have t1 := hr1.frozen 1
    have t2 := hr1.frozen 2
    have t3 := hr1.frozen 3
    have HBR : Hid (Blk w2 (g + 1) 28 _) := hr1
    clear hr1
    have HR : Hid (RemR x.p id cp0 8) := .inr (.inl ⟨HV.out, HZ.out, rfl, rfl⟩)
    go_wp2
    refine bodyPost_ret (results_cell_row_tmp' rfl _ _ (g + 1) 28 #[.string ⟨#[]⟩, .slice none 0 0, .slice none 0 0, .slice none 0 0] (0, 0) _ rfl ((((HBR.out.set_ 0 _).set_ 1 _).set_ 2 _).set_ 3 _) Tryd.underlying28 rfl info_cat4) rfl ?_
    refine ⟨⟨cat0, _, rfl, HR.out, cat0_W _, fun z h => (by cases h)⟩, ?_⟩
    iterate 4 refine Ext.set_ ?_ (by show w.heap.size ≤ g + 1; rw [HG.out]; omega) _
    exact hEw2
  · have hklt := hz.lt
    clear hz
    have HFV : Hid (FindV (k : Int) = .tuple #[.int .i64 k, .bool true]) := by show FindV _ = _; unfold FindV; rw [if_pos (by omega), decide_eq_true (by omega)]
    rw [HFV.out]
    have hpes : x.p.es.length = x.es.length := List.length_map _
    have hm : x.e.m = x.es.length := hx.e.sl.len
    have hkm : k < x.e.m := by omega
    have hm1 : x.e.m ≤ 1000 := by rw [hm, ← hpes]; exact validC_len HV.out
    have hcap := hx.e.cap
    have HKL := Lib.hid hklt
    have HWI : Hid (∀ (W : World) (A : Option Addr) (m c : Nat), Calls Tryd.prog 65 #[.agg #[.string x.tag, .slice x.c.A x.c.m x.c.c, .slice x.d.A x.d.m x.d.c, .slice x.e.A x.e.m x.e.c], .slice A m c] W fun e w' => e = .returned (.agg #[.string x.tag, .slice x.c.A x.c.m x.c.c, .slice x.d.A x.d.m x.d.c, .slice A m c]) ∧ Ext W w') := fun W A m c => rwith_any (w := W) x A m c []
    have hE02d := hE02.drew
    have hEw2d := hEw2.drew
    have hle1 : g + 1 < w2.heap.size := Nat.lt_of_lt_of_le hb1.lt hE02.size_le
    clear hklt hpes hm
    go_wp2
    first
    | (go_region_law (first
        | (go_simp; go_at_call 65; refine (HWI.out _ A4 m4 c4).mono ?_; rintro e w5 ⟨rfl, hE5⟩; have hE05 := hE04.trans hE5; have hr1 := hb1.below hE05 hb1.lt; have s0 := hr1.cell 0; have s1 := hr1.cell 1; have s2 := hr1.cell 2; have s3 := hr1.cell 3; have t0 := hr1.frozen 0; have t1 := hr1.frozen 1; have t2 := hr1.frozen 2; have t3 := hr1.frozen 3; have HBR : Hid (Blk w5 (g + 1) 28 _) := hr1; clear hr1)
        | (go_simp; go_at_call 66; refine (rwithout_any (hx.e.sl.ext hEw2d) hcap hkm (by omega)).mono ?_; rintro e w4 ⟨⟨A4, m4, c4, rfl, ho4⟩, hE4⟩; have hE04 := hE02d.trans hE4; have hEw4 := hEw2d.trans hE4)
        | fail))
    | fail
    all_goals
      have HR : Hid (RemR x.p id (x.withE (x.es.take k ++ x.es.drop (k + 1)) ⟨A4, m4, c4⟩).p 0) := .inr (.inr ⟨HV.out, k, HZ.out, HKL.out, rfl, by rw [withE_p, List.map_append, List.map_take, List.map_drop]; rfl⟩)
      have hm4 : m4 ≤ 1000 := by
        have h1 := ho4.len
        have h2 := hx.e.sl.len
        rw [List.length_append, List.length_take, List.length_drop] at h1
        omega
      have hne : ob A4 = none ∨ ob A4 ≠ some (g + 1) := by
        cases hA : ob A4 with
        | none => exact .inl rfl
        | some j => exact .inr (fun e => by injection e with e; have h1 := ho4.ge j hA; have h2 : w2.drew.heap.size = w2.heap.size := rfl; omega)
      go_wp2
      refine bodyPost_ret (results_cell_row_tmp' rfl _ _ (g + 1) 28 #[.string x.tag, .slice x.c.A x.c.m x.c.c, .slice x.d.A x.d.m x.d.c, .slice A4 m4 c4] (0, 0) _ rfl ((((HBR.out.set_ 0 _).set_ 1 _).set_ 2 _).set_ 3 _) Tryd.underlying28 rfl info_cat4) rfl ?_
      have hmem : ∀ z ∈ x.es.take k ++ x.es.drop (k + 1), z ∈ x.es := fun z hz => by
        rcases List.mem_append.1 hz with h9 | h9
        · exact List.mem_of_mem_take h9
        · exact List.mem_of_mem_drop h9
      refine ⟨⟨x.withE (x.es.take k ++ x.es.drop (k + 1)) ⟨A4, m4, c4⟩, 0, rfl, HR.out, ?_, hmem⟩, ?_⟩
      · refine CatW.withE (base := w2.drew.heap.size) (hx.ext ?_) ?_ (by omega) (fun z hz => EntW.ext (hx.e.good z (hmem z hz)) ?_)
        · iterate 4 refine Ext.set_ ?_ (by show w.heap.size ≤ g + 1; rw [HG.out]; omega) _
          exact hEw4.trans hE5
        · iterate 4 refine OsC.kept ?_ (grown_set _ ⟨g + 1, _, none⟩ _) hne
          exact ho4.ext hE5
        · iterate 4 refine Ext.set_ ?_ (by show w.heap.size ≤ g + 1; rw [HG.out]; omega) _
          exact hEw4.trans hE5
      · iterate 4 refine Ext.set_ ?_ (by show w.heap.size ≤ g + 1; rw [HG.out]; omega) _
        exact hEw4.trans hE5
end

end Go.Proofs.YtikbjaopcminaaaDoor
