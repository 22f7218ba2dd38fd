/- Move. -/
import Derived.Test.YtikbjaopcminaaaDoorCatR
import Derived.Test.YtikbjaopcminaaaDoorCatI
namespace Go.Proofs.YtikbjaopcminaaaDoor
open Go.RowKit
set_option maxRecDepth 100000

theorem FindZ.uniq {l : List Ep} {id : ByteArray} {a b : Int} (h : FindZ l id a) (h' : FindZ l id b) : a = b := by
  rcases h with ⟨rfl, h1⟩ | ⟨k, rfl, hk, h1, h2⟩
  · rcases h' with ⟨rfl, _⟩ | ⟨j, rfl, hj, h3, _⟩
    · rfl
    · exact absurd h3 (h1 j hj)
  · rcases h' with ⟨rfl, h3⟩ | ⟨j, rfl, hj, h3, h4⟩
    · exact absurd h1 (h3 k hk)
    · rcases Nat.lt_trichotomy k j with h5 | h5 | h5
      · exact absurd h1 (h4 k h5)
      · rw [h5]
      · exact absurd h3 (h2 j h5)
/-- What Move does. -/
def MovR (c : Cp) (id : ByteArray) (at_ : Int) (c' : Cp) (code : Int) : Prop :=
  ∃ c1 code1, RemR c id c1 code1 ∧ ((code1 ≠ 0 ∧ c' = c1 ∧ code = code1) ∨ (code1 = 0 ∧ (at_ < 0 ∨ (c.es.length : Int) ≤ at_) ∧ c' = cp0 ∧ code = 2) ∨
    (code1 = 0 ∧ ∃ a k : Nat, at_ = a ∧ a < c.es.length ∧ FindZ c.es id k ∧ ∃ h : k < c.es.length, code = 0 ∧ c' = ⟨c1.tag, c1.com, c1.fd, c1.es.take a ++ [c.es[k]] ++ c1.es.drop a⟩))
attribute [local go_sem] ext_refl_t ext_alloc_t ext_drew_t ext_drewN_t ext_alloc2_t ext_alloc3_t ext_alloc4_t ext_alloc5_t ext_alloc6_t ext_alloc7_t ext_alloc8_t ext_alloc1d_t ext_alloc2d_t ext_alloc3d_t ext_alloc4d_t
section
variable {w : World}
set_option maxHeartbeats 12800000 in
theorem move_any {x : Cat} (hx : CatW w x) (id : ByteArray) (at_ : Int) (hT : Tabs w) (hat1 : -9223372036854775808 ≤ at_) (hat2 : at_ ≤ 9223372036854775807) :
    Calls Tryd.prog 27 #[catV x, .string id, .int .i64 at_] w fun e w' => (∃ (y : Cat) (code : Int), e = .returned (.tuple #[catV y, .int .i64 code]) ∧ MovR x.p id at_ y.p code ∧ CatO w' w.heap.size y) ∧ Ext w w' := by
  obtain ⟨W0, hW0⟩ : ∃ W0, W0 = (w.alloc (Obj.cells #[.string x.tag, .slice x.c.A x.c.m x.c.c, .slice x.d.A x.d.m x.d.c, .slice x.e.A x.e.m x.e.c] 28)).alloc (Obj.cells #[.string ⟨#[]⟩, .slice none 0 0, .slice none 0 0, .slice none 0 0] 28) := ⟨_, rfl⟩
  have hb0 : Blk W0 w.heap.size 28 #[.string x.tag, .slice x.c.A x.c.m x.c.c, .slice x.d.A x.d.m x.d.c, .slice x.e.A x.e.m x.e.c] := by
    rw [hW0]; exact (Blk.new w _ _).alloc _
  have hb1 : Blk W0 (w.heap.size + 1) 28 #[.string ⟨#[]⟩, .slice none 0 0, .slice none 0 0, .slice none 0 0] := by
    have h := Blk.new (w.alloc (Obj.cells #[.string x.tag, .slice x.c.A x.c.m x.c.c, .slice x.d.A x.d.m x.d.c, .slice x.e.A x.e.m x.e.c] 28)) 28 #[.string ⟨#[]⟩, .slice none 0 0, .slice none 0 0, .slice none 0 0]
    rw [hW0]; simpa using h
  have hEW0 : Ext w W0 := by rw [hW0]; exact ((Ext.refl w).alloc _).alloc _
  have hsz0 : W0.heap.size = w.heap.size + 2 := by rw [hW0]; simp
  have HIDV : Hid (∀ y : Cat, catV y = .agg #[.string y.tag, .slice y.c.A y.c.m y.c.c, .slice y.d.A y.d.m y.d.c, .slice y.e.A y.e.m y.e.c]) := fun _ => rfl
  have hrem := remove_any (hx.ext hEW0) id (hT.ext hEW0)
  rw [HIDV.out x] at hrem ⊢
  obtain ⟨g, hg⟩ : ∃ g, g = w.heap.size := ⟨_, rfl⟩
  have HG := Lib.hid hg
  have HSZ := Lib.hid hsz0
  have HG1 : Hid (g + 1 < W0.heap.size) := by show _ < _; omega
  go_enter Tryd.func27, Tryd.ntmps27
  go_wp2_with (first
    | (go_at_call 25; refine Hid.out ?_))
  rw [← hW0, ← hg]
  rw [← hg] at hb0 hb1
  refine Hid.mk_ (hrem.mono ?_)
  rintro e w1 ⟨⟨y, code, rfl, hRR, hyO⟩, hE1⟩
  rw [HIDV.out y]
  have hEw1 := hEW0.trans hE1
  have hEal : Ext w1 (w1.alloc (Obj.cells #[.string y.tag, .slice y.c.A y.c.m y.c.c, .slice y.d.A y.d.m y.d.c, .slice y.e.A y.e.m y.e.c] 28)) := (Ext.refl _).alloc _
  have hbO := Blk.new w1 28 #[.string y.tag, .slice y.c.A y.c.m y.c.c, .slice y.d.A y.d.m y.d.c, .slice y.e.A y.e.m y.e.c]
  have hyO2 := hyO.ext hEal
  have X0 := laters (show _ = some (.string x.tag) from hb0.cell 0)
  have X1 := laters (show _ = some (.slice x.c.A x.c.m x.c.c) from hb0.cell 1)
  have X2 := laters (show _ = some (.slice x.d.A x.d.m x.d.c) from hb0.cell 2)
  have X3 := laters (show _ = some (.slice x.e.A x.e.m x.e.c) from hb0.cell 3)
  have HRR := Lib.hid hRR
  clear hW0 hg hsz0 hrem
  have hcode : code = 1 ∨ code = 8 ∨ code = 0 := by
    rcases hRR with ⟨_, h, _⟩ | ⟨_, _, h, _⟩ | ⟨_, _, _, _, h, _⟩
    · exact .inl h
    · exact .inr (.inl h)
    · exact .inr (.inr h)
  clear hRR
  rcases hcode with rfl | rfl | rfl
  case inl =>
    have hr1 := hb1.below (hE1.trans hEal) hb1.lt
    have s0 := hr1.cell 0
    have s1 := hr1.cell 1
    have s2 := hr1.cell 2
    have s3 := hr1.cell 3
    have t0 := hr1.frozen 0
    have t1 := hr1.frozen 1
    have t2 := hr1.frozen 2
    have t3 := hr1.frozen 3
    have HBR : Hid (Blk (w1.alloc (Obj.cells #[.string y.tag, .slice y.c.A y.c.m y.c.c, .slice y.d.A y.d.m y.d.c, .slice y.e.A y.e.m y.e.c] 28)) (g + 1) 28 _) := hr1
    clear hr1
    have HM : Hid (MovR x.p id at_ y.p 1) := ⟨y.p, 1, HRR.out, .inl ⟨by omega, rfl, rfl⟩⟩
    go_wp2
    refine bodyPost_ret (results_cell_row_tmp' rfl _ _ (g + 1) 28 #[.string y.tag, .slice y.c.A y.c.m y.c.c, .slice y.d.A y.d.m y.d.c, .slice y.e.A y.e.m y.e.c] (0, 0) _ rfl ((((HBR.out.set_ 0 _).set_ 1 _).set_ 2 _).set_ 3 _) Tryd.underlying28 rfl info_cat4) rfl ?_
    refine ⟨⟨y, 1, rfl, HM.out, ?_⟩, ?_⟩
    · refine CatO.mono ?_ hEW0.size_le
      iterate 4 refine CatO.set_ ?_ (hyO2.lt_all HG1.out) _
      exact hyO2
    · iterate 4 refine Ext.set_ ?_ (by show w.heap.size ≤ g + 1; rw [HG.out]; omega) _
      exact hEw1.trans hEal
  case inr.inl =>
    have hr1 := hb1.below (hE1.trans hEal) hb1.lt
    have s0 := hr1.cell 0
    have s1 := hr1.cell 1
    have s2 := hr1.cell 2
    have s3 := hr1.cell 3
    have t0 := hr1.frozen 0
    have t1 := hr1.frozen 1
    have t2 := hr1.frozen 2
    have t3 := hr1.frozen 3
    have HBR : Hid (Blk (w1.alloc (Obj.cells #[.string y.tag, .slice y.c.A y.c.m y.c.c, .slice y.d.A y.d.m y.d.c, .slice y.e.A y.e.m y.e.c] 28)) (g + 1) 28 _) := hr1
    clear hr1
    have HM : Hid (MovR x.p id at_ y.p 8) := ⟨y.p, 8, HRR.out, .inl ⟨by omega, rfl, rfl⟩⟩
    go_wp2
    refine bodyPost_ret (results_cell_row_tmp' rfl _ _ (g + 1) 28 #[.string y.tag, .slice y.c.A y.c.m y.c.c, .slice y.d.A y.d.m y.d.c, .slice y.e.A y.e.m y.e.c] (0, 0) _ rfl ((((HBR.out.set_ 0 _).set_ 1 _).set_ 2 _).set_ 3 _) Tryd.underlying28 rfl info_cat4) rfl ?_
    refine ⟨⟨y, 8, rfl, HM.out, ?_⟩, ?_⟩
    · refine CatO.mono ?_ hEW0.size_le
      iterate 4 refine CatO.set_ ?_ (hyO2.lt_all HG1.out) _
      exact hyO2
    · iterate 4 refine Ext.set_ ?_ (by show w.heap.size ≤ g + 1; rw [HG.out]; omega) _
      exact hEw1.trans hEal
  case inr.inr =>
    have hpl : x.p.es.length = x.es.length := List.length_map _
    have hxm : x.e.m = x.es.length := hx.e.sl.len
    have HXM : Hid (x.e.m = x.p.es.length) := by show _ = _; rw [hxm, hpl]
    clear hpl hxm
    by_cases c1 : at_ < 0
    · skip
      have hr1 := hb1.below (hE1.trans hEal) hb1.lt
      have s0 := hr1.cell 0
      have s1 := hr1.cell 1
      have s2 := hr1.cell 2
      have s3 := hr1.cell 3
      have t0 := hr1.frozen 0
      have t1 := hr1.frozen 1
      have t2 := hr1.frozen 2
      have t3 := hr1.frozen 3
      have HBR : Hid (Blk (w1.alloc (Obj.cells #[.string y.tag, .slice y.c.A y.c.m y.c.c, .slice y.d.A y.d.m y.d.c, .slice y.e.A y.e.m y.e.c] 28)) (g + 1) 28 _) := hr1
      clear hr1
      have HM : Hid (MovR x.p id at_ cp0 2) := ⟨y.p, 0, HRR.out, .inr (.inl ⟨rfl, (.inl c1), rfl, rfl⟩)⟩
      go_wp2
      refine bodyPost_ret (results_cell_row_tmp' rfl _ _ (g + 1) 28 #[.string ⟨#[]⟩, .slice none 0 0, .slice none 0 0, .slice none 0 0] (0, 0) _ rfl ((((HBR.out.set_ 0 _).set_ 1 _).set_ 2 _).set_ 3 _) Tryd.underlying28 rfl info_cat4) rfl ?_
      refine ⟨⟨cat0, 2, rfl, HM.out, CatO.zero _ _⟩, ?_⟩
      iterate 4 refine Ext.set_ ?_ (by show w.heap.size ≤ g + 1; rw [HG.out]; omega) _
      exact hEw1.trans hEal
    have c1' : (0 : Int) ≤ at_ := by omega
    obtain ⟨a, rfl⟩ : ∃ a : Nat, at_ = a := ⟨at_.toNat, by omega⟩
    by_cases c2 : x.e.m ≤ a
    · have c2i : (x.e.m : Int) ≤ (a : Int) := by omega
      have hr1 := hb1.below (hE1.trans hEal) hb1.lt
      have s0 := hr1.cell 0
      have s1 := hr1.cell 1
      have s2 := hr1.cell 2
      have s3 := hr1.cell 3
      have t0 := hr1.frozen 0
      have t1 := hr1.frozen 1
      have t2 := hr1.frozen 2
      have t3 := hr1.frozen 3
      have HBR : Hid (Blk (w1.alloc (Obj.cells #[.string y.tag, .slice y.c.A y.c.m y.c.c, .slice y.d.A y.d.m y.d.c, .slice y.e.A y.e.m y.e.c] 28)) (g + 1) 28 _) := hr1
      clear hr1
      have HM : Hid (MovR x.p id (a : Int) cp0 2) := ⟨y.p, 0, HRR.out, .inr (.inl ⟨rfl, (.inr (by rw [← HXM.out]; exact c2i)), rfl, rfl⟩)⟩
      go_wp2
      refine bodyPost_ret (results_cell_row_tmp' rfl _ _ (g + 1) 28 #[.string ⟨#[]⟩, .slice none 0 0, .slice none 0 0, .slice none 0 0] (0, 0) _ rfl ((((HBR.out.set_ 0 _).set_ 1 _).set_ 2 _).set_ 3 _) Tryd.underlying28 rfl info_cat4) rfl ?_
      refine ⟨⟨cat0, 2, rfl, HM.out, CatO.zero _ _⟩, ?_⟩
      iterate 4 refine Ext.set_ ?_ (by show w.heap.size ≤ g + 1; rw [HG.out]; omega) _
      exact hEw1.trans hEal
    have c2i : ¬ (x.e.m : Int) ≤ (a : Int) := by omega
    have hRR2 : ∃ k : Nat, validC x.p = true ∧ FindZ x.p.es id k ∧ k < x.p.es.length ∧ y.p = ⟨x.p.tag, x.p.com, x.p.fd, x.p.es.take k ++ x.p.es.drop (k + 1)⟩ := by
      rcases HRR.out with ⟨_, h, _⟩ | ⟨_, _, h, _⟩ | ⟨h1, k, h2, h3, _, h4⟩
      · omega
      · omega
      · exact ⟨k, h1, h2, h3, h4⟩
    obtain ⟨k, hvx, hfk, hkl, hyp⟩ := hRR2
    have HVX := Lib.hid hvx; have HFK := Lib.hid hfk; have HKL := Lib.hid hkl; have HYP := Lib.hid hyp
    clear hvx hfk hkl hyp
    have hEw2 := hEw1.trans hEal
    have hE02 := hE1.trans hEal
    have hfd := find_any (hx.ext hEw2) id
    rw [HIDV.out x] at hfd
    go_wp2_with (first
      | (go_at_call 32; refine Hid.out ?_))
    refine Hid.mk_ ((hfd).mono ?_)
    rintro e w3 ⟨⟨z, hz, rfl⟩, hE3⟩
    have hzk : z = (k : Int) := hz.uniq HFK.out
    subst hzk
    have HFV : Hid (FindV (k : Int) = .tuple #[.int .i64 k, .bool true]) := by show FindV _ = _; unfold FindV; rw [if_pos (by omega), decide_eq_true (by omega)]
    rw [HFV.out]
    clear hfd hz
    have hE03 := hE02.trans hE3
    have hEw3 := hEw2.trans hE3
    obtain ⟨gO, hgO⟩ : ∃ gO, gO = w1.heap.size := ⟨_, rfl⟩
    have HGO := Lib.hid hgO
    rw [← hgO] at hbO ⊢
    have hapO : ApartAll (some gO) y := hyO.ge_all (by rw [hgO]; exact Nat.le_refl _)
    clear hgO
    have hyO3 := hyO2.ext hE3
    have hbO3 := hbO.below hE3 hbO.lt
    have hr3 := hb1.below hE03 hb1.lt
    have hlenx := HXM.out
    have hklt : k < x.es.length := by have h9 := HKL.out; rwa [show x.p.es.length = x.es.length from List.length_map _] at h9
    have hkm : k < x.e.m := by rw [HXM.out]; exact HKL.out
    have hx1000 : x.e.m ≤ 1000 := by rw [HXM.out]; exact validC_len HVX.out
    have hyl : y.e.m = x.e.m - 1 := by
      have h9 := congrArg (fun c : Cp => c.es.length) HYP.out
      have h8 : y.p.es.length = y.es.length := List.length_map _
      have h7 := HKL.out
      simp only [List.length_append, List.length_take, List.length_drop] at h9
      rw [h8] at h9
      rw [hyO.own.len, HXM.out]
      omega
    have HYL := Lib.hid hyl
    obtain ⟨b, off, eA, hbl, hcs⟩ := hx.e.sl.at_ hkm (by omega)
    obtain ⟨v, hvk⟩ : ∃ v, v = x.es[k] := ⟨_, rfl⟩
    have hvW := hx.e.good _ (List.getElem_mem hklt)
    rw [← hvk] at hvW
    have z0 := hcs k hklt 0 (by omega)
    have z1 := hcs k hklt 1 (by omega)
    have z2 := hcs k hklt 2 (by omega)
    have z3 := hcs k hklt 3 (by omega)
    have z4 := hcs k hklt 4 (by omega)
    have z5 := hcs k hklt 5 (by omega)
    have z6 := hcs k hklt 6 (by omega)
    simp only [← hvk, entC, List.getElem_cons_zero, List.getElem_cons_succ, Nat.add_zero, ← Nat.add_assoc] at z0 z1 z2 z3 z4 z5 z6
    have HVK : Hid (∀ h, v = x.es[k]'h) := fun _ => hvk
    have Z0 := laters (later (hEw3) z0)
    have Z1 := laters (later (hEw3) z1)
    have Z2 := laters (later (hEw3) z2)
    have Z3 := laters (later (hEw3) z3)
    have Z4 := laters (later (hEw3) z4)
    have Z5 := laters (later (hEw3) z5)
    have Z6 := laters (later (hEw3) z6)
    have Y3 := laters (show w3.cell? ⟨gO, 3, none⟩ = some (.slice y.e.A y.e.m y.e.c) from hbO3.cell 3)
    have V3 := laters (later hE03 (show W0.cell? ⟨g, 3, none⟩ = some (.slice x.e.A x.e.m x.e.c) from hb0.cell 3))
    rw [eA] at V3
    have hkmi : (k : Int) < (x.e.m : Int) := by omega
    have hEd3 : Ext w3 w3.drew := (Ext.refl _).drew
    have hEwd := hEw3.drew
    have hbase : W0.heap.size ≤ w3.heap.size := hE03.size_le
    have HAM : Hid (a ≤ y.e.m) := by show _ ≤ _; omega
    have HBIG : Hid ((y.e.m + 1) * 128 ≤ 70368744177664) := by show _ ≤ _; omega
    clear hcs hvk z0 z1 z2 z3 z4 z5 z6 hlenx hyl hklt hb0 hb1 X0 X1 X2 X3
    go_wp2
    first
    | (go_region_law (first
        | (go_simp; go_at_call 68; refine (copied_any (x := v) (hvW.ext hEwd)).mono ?_; rintro e w4 ⟨z, rfl, hzp, hzW, hE4, hzA⟩; have HZP := Lib.hid hzp; clear hzp; unfold entV; have hE34 := hEd3.trans hE4; have hEal2 : Ext w4 (w4.alloc (Obj.cells #[.string z.p.id, .string z.p.src, .string z.p.tgt, .slice z.c.A z.c.m z.c.c, .slice z.f.A z.f.m z.f.c, .int .i64 z.p.st, .slice z.d.A z.d.m z.d.c] 30)) := (Ext.refl _).alloc _; have hE3a := hE34.trans hEal2; have hvB : Blk (w4.alloc (Obj.cells #[.string z.p.id, .string z.p.src, .string z.p.tgt, .slice z.c.A z.c.m z.c.c, .slice z.f.A z.f.m z.f.c, .int .i64 z.p.st, .slice z.d.A z.d.m z.d.c] 30)) w4.heap.size 30 (entC z).toArray := Blk.new w4 _ _)
        | (go_simp; go_at_call 67; refine (insertE_any (hyO3.own.ext hE3a) a HAM.out z hvB (fun e => by have h9 := hyO3.own.lt _ e.symm; have h8 := hE34.size_le; omega) (Nat.le_trans hbase hE3a.size_le) HBIG.out).mono ?_; rintro e w5 ⟨A', c', rfl, ho5, hg5, hN5⟩; have hbO5 := (hbO3.below hE3a hbO3.lt).grown hg5 (fun e => by have h9 := hyO.own.lt gO e.symm; have h8 := HGO.out; omega); have d3 := hbO5.cell 3; have f3 := hbO5.frozen 3)
        | fail))
    | fail
    all_goals
      have HW5 : Hid (CatO w5 W0.heap.size (y.withE (y.es.take a ++ [z] ++ y.es.drop a) ⟨A', y.e.m + 1, c'⟩)) := (hyO3.ext hE3a).turn hg5 (e' := ⟨A', y.e.m + 1, c'⟩) ho5 hN5 (fun u hu => by
        rcases List.mem_append.1 hu with h9 | h9
        · rcases List.mem_append.1 h9 with h8 | h8
          · exact .inl (List.mem_of_mem_take h8)
          · rw [List.mem_singleton] at h8
            rw [h8]
            refine .inr ⟨hzW.ext hEal2, hzA _ (fun j hj => ?_), fun j hj => hzA _ (fun q hq => ?_)⟩
            · have h7 := hyO3.own.lt j hj
              exact h7
            · injection hq with hq
              show q < w3.drew.heap.size
              have h7 : w3.drew.heap.size = w3.heap.size := rfl
              omega
        · exact .inl (List.mem_of_mem_drop h9))
      have hapD : ApartAll (some gO) (y.withE (y.es.take a ++ [z] ++ y.es.drop a) ⟨A', y.e.m + 1, c'⟩) := by
        have h6 : gO < w3.heap.size := hbO3.lt
        refine ⟨?_, hapO.2.1, hapO.2.2.1, fun u hu => ?_⟩
        · cases hA : ob A' with
          | none => exact .inl hA
          | some j =>
            refine .inr (fun e => ?_)
            have e2 : j = gO := by
              have h5 : ob A' = some gO := e
              rw [hA] at h5
              injection h5
            rcases hN5 j hA with h9 | h9
            · have h8 := hE3a.size_le; omega
            · rcases hapO.1 with h7 | h7
              · rw [h7] at h9; cases h9
              · exact h7 (by rw [h9, e2])
        · rcases List.mem_append.1 hu with h9 | h9
          · rcases List.mem_append.1 h9 with h8 | h8
            · exact hapO.2.2.2 u (List.mem_of_mem_take h8)
            · rw [List.mem_singleton] at h8
              rw [h8]
              exact hzA _ (fun q hq => by injection hq with hq; show q < w3.drew.heap.size; have h7 : w3.drew.heap.size = w3.heap.size := rfl; omega)
          · exact hapO.2.2.2 u (List.mem_of_mem_drop h9)
      have HYD : Hid (CatO (w5.setCell ⟨gO, 3, none⟩ (.slice A' (y.e.m + 1) c')) W0.heap.size (y.withE (y.es.take a ++ [z] ++ y.es.drop a) ⟨A', y.e.m + 1, c'⟩)) := HW5.out.set_ (p := ⟨gO, 3, none⟩) hapD _
      have hg1O : g + 1 ≠ gO := by have h9 := HGO.out; have h8 := hE1.size_le; have h7 := HG1.out; omega
      have hr5 := (hr3.below hE3a hr3.lt).grown hg5 (fun e => by have h9 := hyO.own.ge (g + 1) e.symm; have h7 := HG1.out; omega)
      have hr6 := hr5.far (p := ⟨gO, 3, none⟩) hg1O (.slice A' (y.e.m + 1) c')
      have hbO6 := hbO5.set_ 3 (.slice A' (y.e.m + 1) c')
      have q0 : (w5.setCell ⟨gO, 3, none⟩ (.slice A' (y.e.m + 1) c')).cell? ⟨gO, 0, none⟩ = some (.string y.tag) := hbO6.cell 0
      have q1 : (w5.setCell ⟨gO, 3, none⟩ (.slice A' (y.e.m + 1) c')).cell? ⟨gO, 1, none⟩ = some (.slice y.c.A y.c.m y.c.c) := hbO6.cell 1
      have q2 : (w5.setCell ⟨gO, 3, none⟩ (.slice A' (y.e.m + 1) c')).cell? ⟨gO, 2, none⟩ = some (.slice y.d.A y.d.m y.d.c) := hbO6.cell 2
      have q3 : (w5.setCell ⟨gO, 3, none⟩ (.slice A' (y.e.m + 1) c')).cell? ⟨gO, 3, none⟩ = some (.slice A' (y.e.m + 1) c') := hbO6.cell 3
      have s0 := hr6.cell 0
      have s1 := hr6.cell 1
      have s2 := hr6.cell 2
      have s3 := hr6.cell 3
      have t0 := hr6.frozen 0
      have t1 := hr6.frozen 1
      have t2 := hr6.frozen 2
      have t3 := hr6.frozen 3
      have HBR : Hid (Blk (w5.setCell ⟨gO, 3, none⟩ (.slice A' (y.e.m + 1) c')) (g + 1) 28 _) := hr6
      have HEW5 : Hid (Ext w w5) := (hEw3.trans hE3a).grown hg5 (fun j hj => by have h9 := hyO.own.ge j hj; have h8 := hEW0.size_le; omega)
      have HEW6 : Hid (Ext w (w5.setCell ⟨gO, 3, none⟩ (.slice A' (y.e.m + 1) c'))) := HEW5.out.set_ (p := ⟨gO, 3, none⟩) (by show w.heap.size ≤ gO; have h9 := HGO.out; have h8 := hEw1.size_le; omega) _
      have HR : Hid (MovR x.p id (a : Int) (y.withE (y.es.take a ++ [z] ++ y.es.drop a) ⟨A', y.e.m + 1, c'⟩).p 0) := ⟨y.p, 0, HRR.out, .inr (.inr ⟨rfl, a, k, rfl, by rw [← HXM.out]; omega, HFK.out, HKL.out, rfl, by
        have hkl2 : k < x.es.length := by have h9 := HKL.out; rwa [show x.p.es.length = x.es.length from List.length_map _] at h9
        have h9 : z.p = x.p.es[k]'HKL.out := by
          rw [HZP.out, HVK.out hkl2]
          simp [Cat.p]
        show Cp.mk _ _ _ _ = _
        rw [← h9]
        simp [Cat.p, Cat.withE, List.map_take, List.map_drop]⟩)⟩
      clear hr5 hr6 hbO5 hbO6 hg5 ho5 hapD Z0 Z1 Z2 Z3 Z4 Z5 Z6 Y3 V3 hvB
      go_wp2
      refine bodyPost_ret (results_cell_row_tmp' rfl _ _ (g + 1) 28 #[.string y.tag, .slice y.c.A y.c.m y.c.c, .slice y.d.A y.d.m y.d.c, .slice A' (y.e.m + 1) c'] (0, 0) _ rfl ((((HBR.out.set_ 0 _).set_ 1 _).set_ 2 _).set_ 3 _) Tryd.underlying28 rfl info_cat4) rfl ?_
      refine ⟨⟨y.withE (y.es.take a ++ [z] ++ y.es.drop a) ⟨A', y.e.m + 1, c'⟩, 0, rfl, HR.out, ?_⟩, ?_⟩
      · refine CatO.mono ?_ hEW0.size_le
        iterate 4 refine CatO.set_ ?_ (HYD.out.lt_all HG1.out) _
        exact HYD.out
      · iterate 4 refine Ext.set_ ?_ (by show w.heap.size ≤ g + 1; rw [HG.out]; omega) _
        exact HEW6.out
end

end Go.Proofs.YtikbjaopcminaaaDoor
