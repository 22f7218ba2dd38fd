/- The reference's Put. -/
import Derived.Test.YtikbjaopcminaaaDoorCatPu
namespace Go.Proofs.YtikbjaopcminaaaDoor
open Go.RowKit
set_option maxRecDepth 100000
attribute [local go_sem] ext_refl_t ext_alloc_t ext_drew_t ext_drewN_t ext_alloc2_t ext_alloc3_t ext_alloc4_t ext_alloc5_t ext_alloc6_t ext_alloc7_t ext_alloc8_t ext_alloc1d_t ext_alloc2d_t ext_alloc3d_t ext_alloc4d_t
theorem set_parts {α : Type} (l : List α) (k : Nat) (h : k < l.length) (x : α) : (l.take k ++ l.drop (k + 1)).take k ++ [x] ++ (l.take k ++ l.drop (k + 1)).drop k = l.set k x := by
  have h1 : (l.take k).length = k := by rw [List.length_take]; omega
  have h2 : (l.take k ++ l.drop (k + 1)).take k = l.take k := List.take_left' h1
  have h3 : (l.take k ++ l.drop (k + 1)).drop k = l.drop (k + 1) := List.drop_left' h1
  rw [h2, h3, List.set_eq_take_append_cons_drop, if_pos h, List.append_assoc]
  rfl
section
variable {w : World}
set_option maxHeartbeats 12800000 in
theorem rput_any {x : Cat} {v : Ent} (hx : CatW w x) (hv : EntW w v) (at_ : Int) (hat1 : -9223372036854775808 ≤ at_) (hat2 : at_ ≤ 9223372036854775807) :
    Calls Tryd.prog 31 #[catV x, entV v, .int .i64 at_] w fun e w' => (∃ (y : Cat) (code : Int), e = .returned (.tuple #[catV y, .int .i64 code]) ∧ PutR x.p v.p at_ y.p code ∧ CatW w' y) ∧ Ext w w' := by
  obtain ⟨W0, hW0⟩ : ∃ W0, W0 = ((w.alloc (Obj.cells #[.string x.tag, .slice x.c.A x.c.m x.c.c, .slice x.d.A x.d.m x.d.c, .slice x.e.A x.e.m x.e.c] 28)).alloc (Obj.cells #[.string v.p.id, .string v.p.src, .string v.p.tgt, .slice v.c.A v.c.m v.c.c, .slice v.f.A v.f.m v.f.c, .int .i64 v.p.st, .slice v.d.A v.d.m v.d.c] 30)).alloc (Obj.cells #[.string ⟨#[]⟩, .slice none 0 0, .slice none 0 0, .slice none 0 0] 28) := ⟨_, rfl⟩
  have hb0 : Blk W0 w.heap.size 28 #[.string x.tag, .slice x.c.A x.c.m x.c.c, .slice x.d.A x.d.m x.d.c, .slice x.e.A x.e.m x.e.c] := by
    rw [hW0]; exact ((Blk.new w _ _).alloc _).alloc _
  have hb1 : Blk W0 (w.heap.size + 1) 30 #[.string v.p.id, .string v.p.src, .string v.p.tgt, .slice v.c.A v.c.m v.c.c, .slice v.f.A v.f.m v.f.c, .int .i64 v.p.st, .slice v.d.A v.d.m v.d.c] := by
    rw [hW0]; exact (Blk.new1 w _ _ _).alloc _
  have hb2 : Blk W0 (w.heap.size + 1 + 1) 28 #[.string ⟨#[]⟩, .slice none 0 0, .slice none 0 0, .slice none 0 0] := by
    rw [hW0]; have h9 := Blk.new1 (w.alloc (Obj.cells #[.string x.tag, .slice x.c.A x.c.m x.c.c, .slice x.d.A x.d.m x.d.c, .slice x.e.A x.e.m x.e.c] 28)) (Obj.cells #[.string v.p.id, .string v.p.src, .string v.p.tgt, .slice v.c.A v.c.m v.c.c, .slice v.f.A v.f.m v.f.c, .int .i64 v.p.st, .slice v.d.A v.d.m v.d.c] 30) 28 #[.string ⟨#[]⟩, .slice none 0 0, .slice none 0 0, .slice none 0 0]; simpa using h9
  have hEW0 : Ext w W0 := by rw [hW0]; exact (((Ext.refl w).alloc _).alloc _).alloc _
  have hsz0 : W0.heap.size = w.heap.size + 3 := by rw [hW0]; simp
  have HIDV : Hid (∀ y : Cat, catV y = .agg #[.string y.tag, .slice y.c.A y.c.m y.c.c, .slice y.d.A y.d.m y.d.c, .slice y.e.A y.e.m y.e.c]) := fun _ => rfl
  have HIDE : Hid (∀ z : Ent, entV z = .agg #[.string z.p.id, .string z.p.src, .string z.p.tgt, .slice z.c.A z.c.m z.c.c, .slice z.f.A z.f.m z.f.c, .int .i64 z.p.st, .slice z.d.A z.d.m z.d.c]) := fun _ => rfl
  have hval := rvalid_any (hx.ext hEW0)
  rw [HIDV.out x] at hval ⊢
  rw [HIDE.out v]
  obtain ⟨g, hg⟩ : ∃ g, g = w.heap.size := ⟨_, rfl⟩
  obtain ⟨g1, hg1⟩ : ∃ g1, g1 = w.heap.size + 1 := ⟨_, rfl⟩
  obtain ⟨g2, hg2⟩ : ∃ g2, g2 = w.heap.size + 1 + 1 := ⟨_, rfl⟩
  have HG2 : Hid (w.heap.size ≤ g2) := by show _ ≤ _; omega
  have HG2' : Hid (g2 < W0.heap.size) := by show _ < _; omega
  go_enter Tryd.func31, Tryd.ntmps31
  go_wp2_with (first
    | (go_at_call 22; refine Hid.out ?_))
  rw [← hW0, ← hg2, ← hg1, ← hg]
  rw [← hg] at hb0
  rw [← hg1] at hb1
  rw [← hg2] at hb2
  refine Hid.mk_ (hval.mono ?_)
  rintro e w1 ⟨rfl, hE1⟩
  have X0 := laters (show _ = some (.string x.tag) from hb0.cell 0)
  have X1 := laters (show _ = some (.slice x.c.A x.c.m x.c.c) from hb0.cell 1)
  have X2 := laters (show _ = some (.slice x.d.A x.d.m x.d.c) from hb0.cell 2)
  have X3 := laters (show _ = some (.slice x.e.A x.e.m x.e.c) from hb0.cell 3)
  have Y0 := laters (show W0.cell? ⟨g1, 0, none⟩ = some (.string v.p.id) from (hb1).cell 0)
  have Y1 := laters (show W0.cell? ⟨g1, 1, none⟩ = some (.string v.p.src) from (hb1).cell 1)
  have Y2 := laters (show W0.cell? ⟨g1, 2, none⟩ = some (.string v.p.tgt) from (hb1).cell 2)
  have Y3 := laters (show W0.cell? ⟨g1, 3, none⟩ = some (.slice v.c.A v.c.m v.c.c) from (hb1).cell 3)
  have Y4 := laters (show W0.cell? ⟨g1, 4, none⟩ = some (.slice v.f.A v.f.m v.f.c) from (hb1).cell 4)
  have Y5 := laters (show W0.cell? ⟨g1, 5, none⟩ = some (.int .i64 v.p.st) from (hb1).cell 5)
  have Y6 := laters (show W0.cell? ⟨g1, 6, none⟩ = some (.slice v.d.A v.d.m v.d.c) from (hb1).cell 6)
  have hEw1 := hEW0.trans hE1
  clear hW0 hg hg1 hg2 hsz0 hval
  cases hvv : validC x.p with
  | false =>
    have HR : Hid (PutR x.p v.p at_ cp0 1) := .inl ⟨.inl hvv, rfl, rfl⟩
    clear hvv
    have hr1 := (hb2).below hE1 (hb2).lt
    have s0 := hr1.cell 0
    have s1 := hr1.cell 1
    have s2 := hr1.cell 2
    have s3 := hr1.cell 3
    have t0 := hr1.frozen 0
    have t1 := hr1.frozen 1
    have t2 := hr1.frozen 2
    have t3 := hr1.frozen 3
    have HBR : Hid (Blk w1 g2 28 _) := hr1
    clear hr1
    go_wp2
    refine bodyPost_ret (results_cell_row_tmp' rfl _ _ g2 28 #[.string ⟨#[]⟩, .slice none 0 0, .slice none 0 0, .slice none 0 0] (0, 0) _ rfl ((((HBR.out.set_ 0 _).set_ 1 _).set_ 2 _).set_ 3 _) Tryd.underlying28 rfl info_cat4) rfl ?_
    refine ⟨⟨cat0, _, rfl, HR.out, cat0_W _⟩, ?_⟩
    iterate 4 refine Ext.set_ ?_ HG2.out _
    exact hEw1
  | true =>
  have HV := Lib.hid hvv
  clear hvv
  have hve := rentry_any (hv.ext hEw1)
  rw [HIDE.out v] at hve
  go_wp2_with (first
    | (go_at_call 24; refine Hid.out ?_))
  refine Hid.mk_ ((hve).mono ?_)
  rintro e w2 ⟨rfl, hE2⟩
  have hE02 := hE1.trans hE2
  have hEw2 := hEw1.trans hE2
  clear hve
  cases hvv : validE v.p with
  | false =>
    have HR : Hid (PutR x.p v.p at_ cp0 1) := .inl ⟨.inr hvv, rfl, rfl⟩
    clear hvv
    have hr1 := (hb2).below hE02 (hb2).lt
    have s0 := hr1.cell 0
    have s1 := hr1.cell 1
    have s2 := hr1.cell 2
    have s3 := hr1.cell 3
    have t0 := hr1.frozen 0
    have t1 := hr1.frozen 1
    have t2 := hr1.frozen 2
    have t3 := hr1.frozen 3
    have HBR : Hid (Blk w2 g2 28 _) := hr1
    clear hr1
    go_wp2
    refine bodyPost_ret (results_cell_row_tmp' rfl _ _ g2 28 #[.string ⟨#[]⟩, .slice none 0 0, .slice none 0 0, .slice none 0 0] (0, 0) _ rfl ((((HBR.out.set_ 0 _).set_ 1 _).set_ 2 _).set_ 3 _) Tryd.underlying28 rfl info_cat4) rfl ?_
    refine ⟨⟨cat0, _, rfl, HR.out, cat0_W _⟩, ?_⟩
    iterate 4 refine Ext.set_ ?_ HG2.out _
    exact hEw2
  | true =>
  have HVE := Lib.hid hvv
  clear hvv
  have hpes : x.p.es.length = x.es.length := List.length_map _
  have hm : x.e.m = x.es.length := hx.e.sl.len
  have HXM : Hid (x.e.m = x.p.es.length) := by show _ = _; rw [hm, hpes]
  clear hpes hm
  have hfd := refFind_any (hx.ext hEw2) v.p.id
  rw [HIDV.out x] at hfd
  go_wp2_with (first
    | (go_at_call 35; refine Hid.out ?_))
  refine Hid.mk_ ((hfd).mono ?_)
  rintro e w3 ⟨⟨z, hz, rfl⟩, hE3⟩
  have HZ := Lib.hid hz
  have hE03 := hE02.trans hE3
  have hEw3 := hEw2.trans hE3
  clear hfd
  have hx1000 : x.e.m ≤ 1000 := by rw [HXM.out]; exact validC_len HV.out
  have hEd3 : Ext w3 w3.drew := (Ext.refl _).drew
  have hEwd := hEw3.drew
  have hcap := hx.e.cap
  have hr3 := hb2.below hE03 hb2.lt
  have HWI : Hid (∀ (W : World) (A : Option Addr) (m c : Nat), Calls Tryd.prog 65 #[.agg #[.string x.tag, .slice x.c.A x.c.m x.c.c, .slice x.d.A x.d.m x.d.c, .slice x.e.A x.e.m x.e.c], .slice A m c] W fun e w' => e = .returned (.agg #[.string x.tag, .slice x.c.A x.c.m x.c.c, .slice x.d.A x.d.m x.d.c, .slice A m c]) ∧ Ext W w') := fun W A m c => rwith_any (w := W) x A m c []
  have HINS : Hid (∀ (W : World) (A : Option Addr) (m c : Nat) (l : List Ent) (k : Nat), SlC entC 7 W A m l → m ≤ c → k ≤ m → m ≤ 4000 → Calls Tryd.prog 69 #[.slice A m c, .agg #[.string v.p.id, .string v.p.src, .string v.p.tgt, .slice v.c.A v.c.m v.c.c, .slice v.f.A v.f.m v.f.c, .int .i64 v.p.st, .slice v.d.A v.d.m v.d.c], .int .i64 k] W fun e w' => (∃ A m c, e = .returned (.slice A m c) ∧ OsC entC 30 7 w' W.heap.size A m c (l.take k ++ [v] ++ l.drop k)) ∧ Ext W w') :=
    fun W A m c l k h1 h2 h3 h4 => rinserted_any h1 h2 v h3 h4
  rcases hz.cases_ with rfl | ⟨k, rfl⟩
  · clear hz
    have HFV : Hid (FindV (-1) = .tuple #[.int .i64 0, .bool false]) := rfl
    rw [HFV.out]
    by_cases c1 : at_ < 0
    · have HR : Hid (PutR x.p v.p at_ cp0 2) := .inr ⟨HV.out, HVE.out, .inr ⟨HZ.out, .inl ⟨.inl c1, rfl, rfl⟩⟩⟩
      have hr1 := (hb2).below hE03 (hb2).lt
      have s0 := hr1.cell 0
      have s1 := hr1.cell 1
      have s2 := hr1.cell 2
      have s3 := hr1.cell 3
      have t0 := hr1.frozen 0
      have t1 := hr1.frozen 1
      have t2 := hr1.frozen 2
      have t3 := hr1.frozen 3
      have HBR : Hid (Blk w3 g2 28 _) := hr1
      clear hr1
      go_wp2
      refine bodyPost_ret (results_cell_row_tmp' rfl _ _ g2 28 #[.string ⟨#[]⟩, .slice none 0 0, .slice none 0 0, .slice none 0 0] (0, 0) _ rfl ((((HBR.out.set_ 0 _).set_ 1 _).set_ 2 _).set_ 3 _) Tryd.underlying28 rfl info_cat4) rfl ?_
      refine ⟨⟨cat0, _, rfl, HR.out, cat0_W _⟩, ?_⟩
      iterate 4 refine Ext.set_ ?_ HG2.out _
      exact hEw3
    have c1' : (0 : Int) ≤ at_ := by omega
    obtain ⟨a, rfl⟩ : ∃ a : Nat, at_ = a := ⟨at_.toNat, by omega⟩
    by_cases c2 : x.e.m < a
    · have c2i : (x.e.m : Int) < (a : Int) := by omega
      have HR : Hid (PutR x.p v.p (a : Int) cp0 2) := .inr ⟨HV.out, HVE.out, .inr ⟨HZ.out, .inl ⟨.inr (by rw [← HXM.out]; exact c2i), rfl, rfl⟩⟩⟩
      have hr1 := (hb2).below hE03 (hb2).lt
      have s0 := hr1.cell 0
      have s1 := hr1.cell 1
      have s2 := hr1.cell 2
      have s3 := hr1.cell 3
      have t0 := hr1.frozen 0
      have t1 := hr1.frozen 1
      have t2 := hr1.frozen 2
      have t3 := hr1.frozen 3
      have HBR : Hid (Blk w3 g2 28 _) := hr1
      clear hr1
      go_wp2
      refine bodyPost_ret (results_cell_row_tmp' rfl _ _ g2 28 #[.string ⟨#[]⟩, .slice none 0 0, .slice none 0 0, .slice none 0 0] (0, 0) _ rfl ((((HBR.out.set_ 0 _).set_ 1 _).set_ 2 _).set_ 3 _) Tryd.underlying28 rfl info_cat4) rfl ?_
      refine ⟨⟨cat0, _, rfl, HR.out, cat0_W _⟩, ?_⟩
      iterate 4 refine Ext.set_ ?_ HG2.out _
      exact hEw3
    have c2i : ¬ (x.e.m : Int) < (a : Int) := by omega
    by_cases c3 : 1000 ≤ x.e.m
    · have c3i : (1000 : Int) ≤ (x.e.m : Int) := by omega
      have HR : Hid (PutR x.p v.p (a : Int) cp0 6) := .inr ⟨HV.out, HVE.out, .inr ⟨HZ.out, .inr ⟨a, rfl, by rw [← HXM.out]; omega, .inl ⟨by rw [← HXM.out]; exact c3, rfl, rfl⟩⟩⟩⟩
      have hr1 := (hb2).below hE03 (hb2).lt
      have s0 := hr1.cell 0
      have s1 := hr1.cell 1
      have s2 := hr1.cell 2
      have s3 := hr1.cell 3
      have t0 := hr1.frozen 0
      have t1 := hr1.frozen 1
      have t2 := hr1.frozen 2
      have t3 := hr1.frozen 3
      have HBR : Hid (Blk w3 g2 28 _) := hr1
      clear hr1
      go_wp2
      refine bodyPost_ret (results_cell_row_tmp' rfl _ _ g2 28 #[.string ⟨#[]⟩, .slice none 0 0, .slice none 0 0, .slice none 0 0] (0, 0) _ rfl ((((HBR.out.set_ 0 _).set_ 1 _).set_ 2 _).set_ 3 _) Tryd.underlying28 rfl info_cat4) rfl ?_
      refine ⟨⟨cat0, _, rfl, HR.out, cat0_W _⟩, ?_⟩
      iterate 4 refine Ext.set_ ?_ HG2.out _
      exact hEw3
    have c3i : ¬ (1000 : Int) ≤ (x.e.m : Int) := by omega
    have ham : a ≤ x.e.m := by omega
    have HAM := Lib.hid ham
    clear ham
    go_wp2
    first
    | (go_region_law (first
        | (go_simp; go_at_call 65; refine (HWI.out _ A4 m4 c4).mono ?_; rintro e w5 ⟨rfl, hE5⟩; have hE35 := hE34.trans hE5; have hr1 := hr3.below hE35 hr3.lt; have s0 := hr1.cell 0; have s1 := hr1.cell 1; have s2 := hr1.cell 2; have s3 := hr1.cell 3; have t0 := hr1.frozen 0; have t1 := hr1.frozen 1; have t2 := hr1.frozen 2; have t3 := hr1.frozen 3; have HBR : Hid (Blk w5 g2 28 _) := hr1; clear hr1)
        | (go_simp; go_at_call 69; refine (HINS.out _ _ _ _ _ a (hx.e.sl.ext hEwd) hcap HAM.out (by omega)).mono ?_; rintro e w4 ⟨⟨A4, m4, c4, rfl, ho4⟩, hE4⟩; have hE34 := hEd3.trans hE4; have hE04 := hE03.trans hE34; have hEw4 := hEwd.trans hE4)
        | fail))
    | fail
    all_goals
      have hmem : ∀ z ∈ x.es.take a ++ [v] ++ x.es.drop a, z ∈ x.es ∨ z = v := fun z hz => by
        rcases List.mem_append.1 hz with h9 | h9
        · rcases List.mem_append.1 h9 with h8 | h8
          · exact .inl (List.mem_of_mem_take h8)
          · exact .inr (List.mem_singleton.1 h8)
        · exact .inl (List.mem_of_mem_drop h9)
      have HR : Hid (PutR x.p v.p (a : Int) (x.withE (x.es.take a ++ [v] ++ x.es.drop a) ⟨A4, m4, c4⟩).p 0) := .inr ⟨HV.out, HVE.out, .inr ⟨HZ.out, .inr ⟨a, rfl, by rw [← HXM.out]; omega, .inr ⟨by rw [← HXM.out]; omega, rfl, by
        rw [withE_p]
        simp [Cat.p, List.map_take, List.map_drop]⟩⟩⟩⟩
      have hm4 : m4 ≤ 1001 := by
        have h1 := ho4.len
        have h2 := hx.e.sl.len
        rw [List.length_append, List.length_append, List.length_take, List.length_drop] at h1
        simp only [List.length_cons, List.length_nil] at h1
        omega
      have hne : ob A4 = none ∨ ob A4 ≠ some g2 := by
        cases hA : ob A4 with
        | none => exact .inl rfl
        | some j => exact .inr (fun e => by injection e with e; have h1 := ho4.ge j hA; have h3 := hEd3.size_le; have h4 := hE03.size_le; have h5 := HG2'.out; omega)
      go_wp2
      refine bodyPost_ret (results_cell_row_tmp' rfl _ _ g2 28 #[.string x.tag, .slice x.c.A x.c.m x.c.c, .slice x.d.A x.d.m x.d.c, .slice A4 m4 c4] (0, 0) _ rfl ((((HBR.out.set_ 0 _).set_ 1 _).set_ 2 _).set_ 3 _) Tryd.underlying28 rfl info_cat4) rfl ?_
      refine ⟨⟨x.withE (x.es.take a ++ [v] ++ x.es.drop a) ⟨A4, m4, c4⟩, 0, rfl, HR.out, ?_⟩, ?_⟩
      · refine CatW.withE (hx.ext ?_) (OsC.kept (OsC.kept (OsC.kept (OsC.kept (ho4.ext hE5) (grown_set _ ⟨g2, _, none⟩ _) hne) (grown_set _ ⟨g2, _, none⟩ _) hne) (grown_set _ ⟨g2, _, none⟩ _) hne) (grown_set _ ⟨g2, _, none⟩ _) hne) (by omega) (fun z hz => ?_)
        · skip
          iterate 4 refine Ext.set_ ?_ HG2.out _
          exact hEw4.trans hE5
        · refine EntW.ext ((hmem z hz).elim (fun h9 => hx.e.good z h9) (fun h9 => h9 ▸ hv)) ?_
          iterate 4 refine Ext.set_ ?_ HG2.out _
          exact hEw4.trans hE5
      · skip
        iterate 4 refine Ext.set_ ?_ HG2.out _
        exact hEw4.trans hE5
  · have hklt := hz.lt
    clear hz
    have HFV : Hid (FindV (k : Int) = .tuple #[.int .i64 k, .bool true]) := by show FindV _ = _; unfold FindV; rw [if_pos (by omega), decide_eq_true (by omega)]
    rw [HFV.out]
    have hkm : k < x.e.m := by rw [HXM.out]; exact hklt
    have HKM := Lib.hid hkm
    have HKL := Lib.hid hklt
    clear hklt hkm
    go_wp2
    first
    | (go_region_law (first
        | (go_simp; go_at_call 65; refine (HWI.out _ A4 m4 c4).mono ?_; rintro e w5 ⟨rfl, hE5⟩; have hE35 := hE34.trans hE5; have hr1 := hr3.below hE35 hr3.lt; have s0 := hr1.cell 0; have s1 := hr1.cell 1; have s2 := hr1.cell 2; have s3 := hr1.cell 3; have t0 := hr1.frozen 0; have t1 := hr1.frozen 1; have t2 := hr1.frozen 2; have t3 := hr1.frozen 3; have HBR : Hid (Blk w5 g2 28 _) := hr1; clear hr1)
        | (go_simp; go_at_call 69; refine (HINS.out _ Aq mq cq _ k hoq.sl hoq.cap (by have h1 := HMQ.out; have h2 := HKM.out; omega) (by have h1 := HMQ.out; omega)).mono ?_; rintro e w4 ⟨⟨A4, m4, c4, rfl, ho4⟩, hE4⟩; have hE34 := hE3q.trans hE4; have hE04 := hE03.trans hE34; have hEw4 := hEwq.trans hE4)
        | (go_simp; go_at_call 66; refine (rwithout_any (hx.e.sl.ext hEwd) hcap HKM.out (by omega)).mono ?_; rintro e wq ⟨⟨Aq, mq, cq, rfl, hoq⟩, hEq⟩; have hE3q := hEd3.trans hEq; have hE0q := hE03.trans hE3q; have hEwq := hEwd.trans hEq; have HMQ : Hid (mq = x.e.m - 1) := (by show _ = _; have h1 := hoq.len; have h2 := hx.e.sl.len; have h3 := HKM.out; rw [List.length_append, List.length_take, List.length_drop] at h1; omega))
        | fail))
    | fail
    all_goals
      have hkx : k < x.es.length := by have h9 := HKL.out; rwa [show x.p.es.length = x.es.length from List.length_map _] at h9
      rw [set_parts _ _ hkx] at ho4
      have hmem : ∀ z ∈ x.es.set k v, z ∈ x.es ∨ z = v := fun z hz => List.mem_or_eq_of_mem_set hz
      have HR : Hid (PutR x.p v.p at_ (x.withE (x.es.set k v) ⟨A4, m4, c4⟩).p 0) := .inr ⟨HV.out, HVE.out, .inl ⟨k, HZ.out, HKL.out, rfl, by
        rw [withE_p]
        simp [Cat.p, List.map_set]⟩⟩
      have hm4 : m4 ≤ 1001 := by
        have h1 := ho4.len
        have h2 := hx.e.sl.len
        rw [List.length_set] at h1
        omega
      have hne : ob A4 = none ∨ ob A4 ≠ some g2 := by
        cases hA : ob A4 with
        | none => exact .inl rfl
        | some j => exact .inr (fun e => by injection e with e; have h1 := ho4.ge j hA; have h3 := hE3q.size_le; have h4 := hE03.size_le; have h5 := HG2'.out; omega)
      go_wp2
      refine bodyPost_ret (results_cell_row_tmp' rfl _ _ g2 28 #[.string x.tag, .slice x.c.A x.c.m x.c.c, .slice x.d.A x.d.m x.d.c, .slice A4 m4 c4] (0, 0) _ rfl ((((HBR.out.set_ 0 _).set_ 1 _).set_ 2 _).set_ 3 _) Tryd.underlying28 rfl info_cat4) rfl ?_
      refine ⟨⟨x.withE (x.es.set k v) ⟨A4, m4, c4⟩, 0, rfl, HR.out, ?_⟩, ?_⟩
      · refine CatW.withE (hx.ext ?_) (OsC.kept (OsC.kept (OsC.kept (OsC.kept (ho4.ext hE5) (grown_set _ ⟨g2, _, none⟩ _) hne) (grown_set _ ⟨g2, _, none⟩ _) hne) (grown_set _ ⟨g2, _, none⟩ _) hne) (grown_set _ ⟨g2, _, none⟩ _) hne) (by omega) (fun z hz => ?_)
        · skip
          iterate 4 refine Ext.set_ ?_ HG2.out _
          exact hEw4.trans hE5
        · refine EntW.ext ((hmem z hz).elim (fun h9 => hx.e.good z h9) (fun h9 => h9 ▸ hv)) ?_
          iterate 4 refine Ext.set_ ?_ HG2.out _
          exact hEw4.trans hE5
      · skip
        iterate 4 refine Ext.set_ ?_ HG2.out _
        exact hEw4.trans hE5
end

end Go.Proofs.YtikbjaopcminaaaDoor
