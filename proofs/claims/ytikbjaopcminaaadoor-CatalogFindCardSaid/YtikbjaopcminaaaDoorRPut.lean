/- A struct stored cell by cell into an element of a row. -/
import Derived.Test.YtikbjaopcminaaaDoorRow
import Derived.Laws.IdiomCopy
import Derived.Test.YtikbjaopcminaaaDoorRMov
import Derived.Test.YtikbjaopcminaaaDoorRFew
import Derived.Test.YtikbjaopcminaaaDoorCatCard
namespace Go.Proofs.YtikbjaopcminaaaDoor
open Go.RowKit
set_option maxRecDepth 100000
section
variable {α : Type} {cs : α → List Value} {t e : TypeId} {k by_ : Nat} {w w' : World} {base : Nat} {A : Option Addr} {m c : Nat} {l : List α}
/-- The cells of element i, ready to be written; and what the row holds afterwards. -/
theorem OsC.setE (hown : OsC cs e k w base A m c l) {i : Nat} (hi : i < m) {g : Nat} (hA : A = some ⟨g, 0, none⟩) (y : α) :
    (∀ j, j < k → (∃ u, w.cell? ⟨g, i * k + j, none⟩ = some u) ∧ w.frozen? ⟨g, i * k + j, none⟩ = false) ∧
    OsC cs e k (w.setCells g (i * k) (cs y)) base A m c (l.set i y) ∧ w.grownBy (w.setCells g (i * k) (cs y)) (ob A) ∧ (w.setCells g (i * k) (cs y)).heap.size = w.heap.size := by
  obtain ⟨g', cur, hA', hg, hh, hmc, hc, hsz, htk⟩ := hown.row (by omega)
  rw [hA] at hA'
  simp only [Option.some.injEq, Addr.mk.injEq, and_true] at hA'
  subst hA'
  have hyl : (cs y).length = k := hown.one y
  have hik : (i + 1) * k ≤ m * k := Nat.mul_le_mul_right _ hi
  have hmk : m * k ≤ c * k := Nat.mul_le_mul_right _ hmc
  have e1 : (i + 1) * k = i * k + k := Nat.succ_mul _ _
  have hb : Blk w g e cur := hh
  have hcell : ∀ j, j < k → (∃ u, w.cell? ⟨g, i * k + j, none⟩ = some u) ∧ w.frozen? ⟨g, i * k + j, none⟩ = false := fun j hj => by
    refine ⟨⟨cur[i * k + j]'(by omega), ?_⟩, hb.frozen _⟩
    rw [hb.cell]
    exact Array.getElem?_eq_getElem _
  have hst := run_storeCells_at Tryd.prog g (i * k) e (cs y) 0 cur w hh (by rw [hyl]; omega) (hown.cell y)
  have hst2 := run_storeCells_cells (P := Tryd.prog) g (i * k) (cs y) 0 w (fun j hj => by
    obtain ⟨⟨u, hu⟩, _⟩ := hcell j (by omega)
    rw [show i * k + 0 + j = i * k + j by omega, hu]; rfl) (fun j hj => by
    rw [show i * k + 0 + j = i * k + j by omega]; exact (hcell j (by omega)).2) (hown.cell y)
  rw [hst] at hst2
  injection hst2 with _ hw
  rw [Nat.add_zero] at hw
  rw [hyl] at hw
  refine ⟨hcell, ?_⟩
  rw [← hw]
  refine ⟨OsC.of_row hA hg (setRow_heap' hh _) hmc hc ?_ ?_ hown.one hown.cell (by rw [List.length_set]; exact hown.len) hown.le, by rw [hA]; exact grown_setRow w g _, setRow_size _ _ _⟩
  · have := splice_size (cur := cur) (o := i * k) (n := k) hyl (by omega)
    exact this.trans hsz
  · have hlt : i < l.length := by rw [← hown.len]; exact hi
    have h3 : cur.toList.take (i * k) = (l.take i).flatMap cs := by
      rw [← flat_take hown.one, ← htk, List.take_take, Nat.min_eq_left (by omega)]
    have h4 : (cur.toList.drop (i * k + k)).take (m * k - (i * k + k)) = (l.drop (i + 1)).flatMap cs := by
      rw [← flat_drop hown.one, ← htk, e1, List.drop_take]
    rw [List.set_eq_take_append_cons_drop, if_pos hlt, List.flatMap_append, List.flatMap_cons, h3, ← h4]
    have h5 : ((l.take i).flatMap cs).length = i * k := by rw [flat_len hown.one, List.length_take, Nat.min_eq_left (by omega)]
    have h6 := take_three ((l.take i).flatMap cs) (cs y) (cur.toList.drop (i * k + k)) (m * k) (by rw [h5, hyl]; omega)
    rw [h5, hyl] at h6
    exact h6
end
end Go.Proofs.YtikbjaopcminaaaDoor

/- Put. -/
namespace Go.Proofs.YtikbjaopcminaaaDoor
open Go.RowKit
set_option maxRecDepth 100000
attribute [local go_sem] ext_refl_t ext_alloc_t ext_drew_t ext_drewN_t ext_alloc2_t ext_alloc3_t ext_alloc4_t ext_alloc5_t ext_alloc6_t ext_alloc7_t ext_alloc8_t ext_alloc1d_t ext_alloc2d_t ext_alloc3d_t ext_alloc4d_t
/-- What Put does. -/
def PutR (c : Cp) (x : Ep) (at_ : Int) (c' : Cp) (code : Int) : Prop :=
  ((validC c = false ∨ validE x = false) ∧ code = 1 ∧ c' = cp0) ∨
  (validC c = true ∧ validE x = true ∧
    ((∃ k : Nat, FindZ c.es x.id k ∧ k < c.es.length ∧ code = 0 ∧ c' = ⟨c.tag, c.com, c.fd, c.es.set k x⟩) ∨
     (FindZ c.es x.id (-1) ∧ (((at_ < 0 ∨ (c.es.length : Int) < at_) ∧ code = 2 ∧ c' = cp0) ∨
       ∃ a : Nat, at_ = a ∧ a ≤ c.es.length ∧ ((1000 ≤ c.es.length ∧ code = 6 ∧ c' = cp0) ∨
         (c.es.length < 1000 ∧ code = 0 ∧ c' = ⟨c.tag, c.com, c.fd, c.es.take a ++ [x] ++ c.es.drop a⟩))))))
section
variable {w : World}
set_option maxHeartbeats 12800000 in
theorem put_any {x : Cat} {v : Ent} (hx : CatW w x) (hv : EntW w v) (at_ : Int) (hT : Tabs w) (hat1 : -9223372036854775808 ≤ at_) (hat2 : at_ ≤ 9223372036854775807) :
    Calls Tryd.prog 30 #[catV x, entV v, .int .i64 at_] w fun e w' => (∃ (y : Cat) (code : Int), e = .returned (.tuple #[catV y, .int .i64 code]) ∧ PutR x.p v.p at_ y.p code ∧ CatO w' w.heap.size y) ∧ Ext w w' := by
  obtain ⟨W0, hW0⟩ : ∃ W0, W0 = ((w.alloc (Obj.cells #[.string x.tag, .slice x.c.A x.c.m x.c.c, .slice x.d.A x.d.m x.d.c, .slice x.e.A x.e.m x.e.c] 28)).alloc (Obj.cells #[.string v.p.id, .string v.p.src, .string v.p.tgt, .slice v.c.A v.c.m v.c.c, .slice v.f.A v.f.m v.f.c, .int .i64 v.p.st, .slice v.d.A v.d.m v.d.c] 30)).alloc (Obj.cells #[.string ⟨#[]⟩, .slice none 0 0, .slice none 0 0, .slice none 0 0] 28) := ⟨_, rfl⟩
  have hb0 : Blk W0 w.heap.size 28 #[.string x.tag, .slice x.c.A x.c.m x.c.c, .slice x.d.A x.d.m x.d.c, .slice x.e.A x.e.m x.e.c] := by
    rw [hW0]; exact ((Blk.new w _ _).alloc _).alloc _
  have hb1 : Blk W0 (w.heap.size + 1) 30 #[.string v.p.id, .string v.p.src, .string v.p.tgt, .slice v.c.A v.c.m v.c.c, .slice v.f.A v.f.m v.f.c, .int .i64 v.p.st, .slice v.d.A v.d.m v.d.c] := by
    rw [hW0]; exact (Blk.new1 w _ _ _).alloc _
  have hb2 : Blk W0 (w.heap.size + 1 + 1) 28 #[.string ⟨#[]⟩, .slice none 0 0, .slice none 0 0, .slice none 0 0] := by
    rw [hW0]; have h9 := Blk.new1 (w.alloc (Obj.cells #[.string x.tag, .slice x.c.A x.c.m x.c.c, .slice x.d.A x.d.m x.d.c, .slice x.e.A x.e.m x.e.c] 28)) (Obj.cells #[.string v.p.id, .string v.p.src, .string v.p.tgt, .slice v.c.A v.c.m v.c.c, .slice v.f.A v.f.m v.f.c, .int .i64 v.p.st, .slice v.d.A v.d.m v.d.c] 30) 28 #[.string ⟨#[]⟩, .slice none 0 0, .slice none 0 0, .slice none 0 0]; simpa using h9
  have hEW0 : Ext w W0 := by rw [hW0]; exact (((Ext.refl w).alloc _).alloc _).alloc _
  have hsz0 : W0.heap.size = w.heap.size + 3 := by rw [hW0]; simp
  have HIDV : Hid (∀ y : Cat, catV y = .agg #[.string y.tag, .slice y.c.A y.c.m y.c.c, .slice y.d.A y.d.m y.d.c, .slice y.e.A y.e.m y.e.c]) := fun _ => rfl
  have HIDE : Hid (∀ z : Ent, entV z = .agg #[.string z.p.id, .string z.p.src, .string z.p.tgt, .slice z.c.A z.c.m z.c.c, .slice z.f.A z.f.m z.f.c, .int .i64 z.p.st, .slice z.d.A z.d.m z.d.c]) := fun _ => rfl
  have hval := valid_any' (hx.ext hEW0) (hT.ext hEW0)
  rw [HIDV.out x] at hval ⊢
  rw [HIDE.out v]
  obtain ⟨g, hg⟩ : ∃ g, g = w.heap.size := ⟨_, rfl⟩
  obtain ⟨g1, hg1⟩ : ∃ g1, g1 = w.heap.size + 1 := ⟨_, rfl⟩
  obtain ⟨g2, hg2⟩ : ∃ g2, g2 = w.heap.size + 1 + 1 := ⟨_, rfl⟩
  have HG2 : Hid (w.heap.size ≤ g2) := by show _ ≤ _; omega
  have HG2' : Hid (g2 < W0.heap.size) := by show _ < _; omega
  go_enter Tryd.func30, Tryd.ntmps30
  go_wp2_with (first
    | (go_at_call 21; refine Hid.out ?_))
  rw [← hW0, ← hg2, ← hg1, ← hg]
  rw [← hg] at hb0
  rw [← hg1] at hb1
  rw [← hg2] at hb2
  refine Hid.mk_ (hval.mono ?_)
  rintro e w1 ⟨rfl, hE1⟩
  have X0 := laters (show _ = some (.string x.tag) from hb0.cell 0)
  have X1 := laters (show _ = some (.slice x.c.A x.c.m x.c.c) from hb0.cell 1)
  have X2 := laters (show _ = some (.slice x.d.A x.d.m x.d.c) from hb0.cell 2)
  have X3 := laters (show _ = some (.slice x.e.A x.e.m x.e.c) from hb0.cell 3)
  have Y0 := laters (show W0.cell? ⟨g1, 0, none⟩ = some (.string v.p.id) from (hb1).cell 0)
  have Y1 := laters (show W0.cell? ⟨g1, 1, none⟩ = some (.string v.p.src) from (hb1).cell 1)
  have Y2 := laters (show W0.cell? ⟨g1, 2, none⟩ = some (.string v.p.tgt) from (hb1).cell 2)
  have Y3 := laters (show W0.cell? ⟨g1, 3, none⟩ = some (.slice v.c.A v.c.m v.c.c) from (hb1).cell 3)
  have Y4 := laters (show W0.cell? ⟨g1, 4, none⟩ = some (.slice v.f.A v.f.m v.f.c) from (hb1).cell 4)
  have Y5 := laters (show W0.cell? ⟨g1, 5, none⟩ = some (.int .i64 v.p.st) from (hb1).cell 5)
  have Y6 := laters (show W0.cell? ⟨g1, 6, none⟩ = some (.slice v.d.A v.d.m v.d.c) from (hb1).cell 6)
  have hEw1 := hEW0.trans hE1
  clear hW0 hg hg1 hg2 hsz0 hval
  cases hvv : validC x.p with
  | false =>
    have HR : Hid (PutR x.p v.p at_ cp0 1) := .inl ⟨.inl hvv, rfl, rfl⟩
    clear hvv
    have hr1 := (hb2).below hE1 (hb2).lt
    have s0 := hr1.cell 0
    have s1 := hr1.cell 1
    have s2 := hr1.cell 2
    have s3 := hr1.cell 3
    have t0 := hr1.frozen 0
    have t1 := hr1.frozen 1
    have t2 := hr1.frozen 2
    have t3 := hr1.frozen 3
    have HBR : Hid (Blk w1 g2 28 _) := hr1
    clear hr1
    go_wp2
    refine bodyPost_ret (results_cell_row_tmp' rfl _ _ g2 28 #[.string ⟨#[]⟩, .slice none 0 0, .slice none 0 0, .slice none 0 0] (0, 0) _ rfl ((((HBR.out.set_ 0 _).set_ 1 _).set_ 2 _).set_ 3 _) Tryd.underlying28 rfl info_cat4) rfl ?_
    refine ⟨⟨cat0, _, rfl, HR.out, CatO.zero _ _⟩, ?_⟩
    iterate 4 refine Ext.set_ ?_ HG2.out _
    exact hEw1
  | true =>
  have HV := Lib.hid hvv
  clear hvv
  have hve := validEntry_any (hv.ext hEw1) (hT.ext hEw1)
  rw [HIDE.out v] at hve
  go_wp2_with (first
    | (go_at_call 23; refine Hid.out ?_))
  refine Hid.mk_ ((hve).mono ?_)
  rintro e w2 ⟨rfl, hE2⟩
  have hE02 := hE1.trans hE2
  have hEw2 := hEw1.trans hE2
  clear hve
  cases hvv : validE v.p with
  | false =>
    have HR : Hid (PutR x.p v.p at_ cp0 1) := .inl ⟨.inr hvv, rfl, rfl⟩
    clear hvv
    have hr1 := (hb2).below hE02 (hb2).lt
    have s0 := hr1.cell 0
    have s1 := hr1.cell 1
    have s2 := hr1.cell 2
    have s3 := hr1.cell 3
    have t0 := hr1.frozen 0
    have t1 := hr1.frozen 1
    have t2 := hr1.frozen 2
    have t3 := hr1.frozen 3
    have HBR : Hid (Blk w2 g2 28 _) := hr1
    clear hr1
    go_wp2
    refine bodyPost_ret (results_cell_row_tmp' rfl _ _ g2 28 #[.string ⟨#[]⟩, .slice none 0 0, .slice none 0 0, .slice none 0 0] (0, 0) _ rfl ((((HBR.out.set_ 0 _).set_ 1 _).set_ 2 _).set_ 3 _) Tryd.underlying28 rfl info_cat4) rfl ?_
    refine ⟨⟨cat0, _, rfl, HR.out, CatO.zero _ _⟩, ?_⟩
    iterate 4 refine Ext.set_ ?_ HG2.out _
    exact hEw2
  | true =>
  have HVE := Lib.hid hvv
  clear hvv
  have hpes : x.p.es.length = x.es.length := List.length_map _
  have hm : x.e.m = x.es.length := hx.e.sl.len
  have HXM : Hid (x.e.m = x.p.es.length) := by show _ = _; rw [hm, hpes]
  have hcl := clone_any (hx.ext hEw2) (by rw [hm, ← hpes]; exact validC_len HV.out)
  rw [HIDV.out x] at hcl
  clear hpes hm
  go_wp2_with (first
    | (go_at_call 63; refine Hid.out ?_))
  refine Hid.mk_ ((hcl).mono ?_)
  rintro e w3 ⟨⟨y, rfl, hyp, hyO⟩, hE3⟩
  have HYP := Lib.hid hyp
  have hE03 := hE02.trans hE3
  have hEw3 := hEw2.trans hE3
  rw [HIDV.out y]
  clear hcl hyp
  obtain ⟨w4, hw4⟩ : ∃ W : World, W = w3.alloc (Obj.cells #[.string y.tag, .slice y.c.A y.c.m y.c.c, .slice y.d.A y.d.m y.d.c, .slice y.e.A y.e.m y.e.c] 28) := ⟨_, rfl⟩
  have hb3 : Blk w4 w3.heap.size 28 #[.string y.tag, .slice y.c.A y.c.m y.c.c, .slice y.d.A y.d.m y.d.c, .slice y.e.A y.e.m y.e.c] := by rw [hw4]; exact Blk.new w3 _ _
  have hEw4 : Ext w3 w4 := by rw [hw4]; exact (Ext.refl _).alloc _
  obtain ⟨gO, hgO⟩ : ∃ k, k = w3.heap.size := ⟨_, rfl⟩
  have hfd := find_any (hx.ext (hEw3.trans hEw4)) v.p.id
  rw [HIDV.out x] at hfd
  go_wp2_with (first
    | (go_at_call 32; refine Hid.out ?_))
  rw [← hw4, ← hgO]
  rw [← hgO] at hb3
  refine Hid.mk_ (hfd.mono ?_)
  have hyO4 := hyO.ext hEw4
  have hapO : ApartAll (some gO) y := hyO.ge_all (by rw [hgO]; exact Nat.le_refl _)
  have HGO := Lib.hid hgO
  clear hw4 hgO hfd
  rintro e w5 ⟨⟨z, hz, rfl⟩, hE5⟩
  have HZ := Lib.hid hz
  have hE04 := hE03.trans hEw4
  have hE05 := hE04.trans hE5
  have hEw5 := (hEw3.trans hEw4).trans hE5
  have hyO5 := hyO4.ext hE5
  have hbO5 := hb3.below hE5 hb3.lt
  have hyl : y.es.length = x.es.length := by have h9 := congrArg (fun c : Cp => c.es.length) HYP.out; simpa [Cat.p] using h9
  have hym : y.e.m = x.e.m := by rw [hyO.own.len, hyl, hx.e.sl.len]
  have hx1000 : x.e.m ≤ 1000 := by rw [HXM.out]; exact validC_len HV.out
  have hEd5 : Ext w5 w5.drew := (Ext.refl _).drew
  have hEwd := hEw5.drew
  have hlw2 : w2.heap.size ≤ w5.heap.size := (hE3.trans (hEw4.trans hE5)).size_le
  have hlO : gO < w5.heap.size := hbO5.lt
  have hl2 : g2 < w2.heap.size := Nat.lt_of_lt_of_le HG2'.out hE02.size_le
  have hlw : w.heap.size ≤ w2.heap.size := hEw2.size_le
  rcases hz.cases_ with rfl | ⟨k, rfl⟩
  · clear hz
    have HFV : Hid (FindV (-1) = .tuple #[.int .i64 0, .bool false]) := rfl
    rw [HFV.out]
    by_cases c1 : at_ < 0
    · have HR : Hid (PutR x.p v.p at_ cp0 2) := .inr ⟨HV.out, HVE.out, .inr ⟨HZ.out, .inl ⟨.inl c1, rfl, rfl⟩⟩⟩
      have hr1 := (hb2).below hE05 (hb2).lt
      have s0 := hr1.cell 0
      have s1 := hr1.cell 1
      have s2 := hr1.cell 2
      have s3 := hr1.cell 3
      have t0 := hr1.frozen 0
      have t1 := hr1.frozen 1
      have t2 := hr1.frozen 2
      have t3 := hr1.frozen 3
      have HBR : Hid (Blk w5 g2 28 _) := hr1
      clear hr1
      go_wp2
      refine bodyPost_ret (results_cell_row_tmp' rfl _ _ g2 28 #[.string ⟨#[]⟩, .slice none 0 0, .slice none 0 0, .slice none 0 0] (0, 0) _ rfl ((((HBR.out.set_ 0 _).set_ 1 _).set_ 2 _).set_ 3 _) Tryd.underlying28 rfl info_cat4) rfl ?_
      refine ⟨⟨cat0, _, rfl, HR.out, CatO.zero _ _⟩, ?_⟩
      iterate 4 refine Ext.set_ ?_ HG2.out _
      exact hEw5
    have c1' : (0 : Int) ≤ at_ := by omega
    obtain ⟨a, rfl⟩ : ∃ a : Nat, at_ = a := ⟨at_.toNat, by omega⟩
    by_cases c2 : x.e.m < a
    · have c2i : (x.e.m : Int) < (a : Int) := by omega
      have HR : Hid (PutR x.p v.p (a : Int) cp0 2) := .inr ⟨HV.out, HVE.out, .inr ⟨HZ.out, .inl ⟨.inr (by rw [← HXM.out]; exact c2i), rfl, rfl⟩⟩⟩
      have hr1 := (hb2).below hE05 (hb2).lt
      have s0 := hr1.cell 0
      have s1 := hr1.cell 1
      have s2 := hr1.cell 2
      have s3 := hr1.cell 3
      have t0 := hr1.frozen 0
      have t1 := hr1.frozen 1
      have t2 := hr1.frozen 2
      have t3 := hr1.frozen 3
      have HBR : Hid (Blk w5 g2 28 _) := hr1
      clear hr1
      go_wp2
      refine bodyPost_ret (results_cell_row_tmp' rfl _ _ g2 28 #[.string ⟨#[]⟩, .slice none 0 0, .slice none 0 0, .slice none 0 0] (0, 0) _ rfl ((((HBR.out.set_ 0 _).set_ 1 _).set_ 2 _).set_ 3 _) Tryd.underlying28 rfl info_cat4) rfl ?_
      refine ⟨⟨cat0, _, rfl, HR.out, CatO.zero _ _⟩, ?_⟩
      iterate 4 refine Ext.set_ ?_ HG2.out _
      exact hEw5
    have c2i : ¬ (x.e.m : Int) < (a : Int) := by omega
    by_cases c3 : 1000 ≤ x.e.m
    · have c3i : (1000 : Int) ≤ (x.e.m : Int) := by omega
      have HR : Hid (PutR x.p v.p (a : Int) cp0 6) := .inr ⟨HV.out, HVE.out, .inr ⟨HZ.out, .inr ⟨a, rfl, by rw [← HXM.out]; omega, .inl ⟨by rw [← HXM.out]; exact c3, rfl, rfl⟩⟩⟩⟩
      have hr1 := (hb2).below hE05 (hb2).lt
      have s0 := hr1.cell 0
      have s1 := hr1.cell 1
      have s2 := hr1.cell 2
      have s3 := hr1.cell 3
      have t0 := hr1.frozen 0
      have t1 := hr1.frozen 1
      have t2 := hr1.frozen 2
      have t3 := hr1.frozen 3
      have HBR : Hid (Blk w5 g2 28 _) := hr1
      clear hr1
      go_wp2
      refine bodyPost_ret (results_cell_row_tmp' rfl _ _ g2 28 #[.string ⟨#[]⟩, .slice none 0 0, .slice none 0 0, .slice none 0 0] (0, 0) _ rfl ((((HBR.out.set_ 0 _).set_ 1 _).set_ 2 _).set_ 3 _) Tryd.underlying28 rfl info_cat4) rfl ?_
      refine ⟨⟨cat0, _, rfl, HR.out, CatO.zero _ _⟩, ?_⟩
      iterate 4 refine Ext.set_ ?_ HG2.out _
      exact hEw5
    have c3i : ¬ (1000 : Int) ≤ (x.e.m : Int) := by omega
    have HAM : Hid (a ≤ y.e.m) := by show _ ≤ _; omega
    have HBIG : Hid ((y.e.m + 1) * 128 ≤ 70368744177664) := by show _ ≤ _; omega
    have HYM := Lib.hid hym
    have O3 := laters (show w5.cell? ⟨gO, 3, none⟩ = some (.slice y.e.A y.e.m y.e.c) from hbO5.cell 3)
    have hbase : w2.heap.size ≤ w5.heap.size := hlw2
    clear hym hyl
    go_wp2
    first
    | (go_region_law (first
        | (go_simp; go_at_call 68; refine (copied_any (x := v) (hv.ext hEwd)).mono ?_; rintro e w6 ⟨z, rfl, hzp, hzW, hE6, hzA⟩; have HZP := Lib.hid hzp; clear hzp; unfold entV; have hE56 := hEd5.trans hE6; have hEal2 : Ext w6 (w6.alloc (Obj.cells #[.string z.p.id, .string z.p.src, .string z.p.tgt, .slice z.c.A z.c.m z.c.c, .slice z.f.A z.f.m z.f.c, .int .i64 z.p.st, .slice z.d.A z.d.m z.d.c] 30)) := (Ext.refl _).alloc _; have hE5a := hE56.trans hEal2; have hvB : Blk (w6.alloc (Obj.cells #[.string z.p.id, .string z.p.src, .string z.p.tgt, .slice z.c.A z.c.m z.c.c, .slice z.f.A z.f.m z.f.c, .int .i64 z.p.st, .slice z.d.A z.d.m z.d.c] 30)) w6.heap.size 30 (entC z).toArray := Blk.new w6 _ _)
        | (go_simp; go_at_call 67; refine (insertE_any (hyO5.own.ext hE5a) a HAM.out z hvB (fun e => by have h9 := hyO5.own.lt _ e.symm; have h8 := hE56.size_le; omega) (Nat.le_trans hbase hE5a.size_le) HBIG.out).mono ?_; rintro e w7 ⟨A', c', rfl, ho7, hg7, hN7⟩; have hbO7 := (hbO5.below hE5a hbO5.lt).grown hg7 (fun e => by have h9 := hyO.own.lt gO e.symm; have h8 := HGO.out; omega); have d3 := hbO7.cell 3; have f3 := hbO7.frozen 3)
        | fail))
    | fail
    all_goals
      have HW7 : Hid (CatO w7 w2.heap.size (y.withE (y.es.take a ++ [z] ++ y.es.drop a) ⟨A', y.e.m + 1, c'⟩)) := (hyO5.ext hE5a).turn hg7 (e' := ⟨A', y.e.m + 1, c'⟩) ho7 hN7 (fun u hu => by
        rcases List.mem_append.1 hu with h9 | h9
        · rcases List.mem_append.1 h9 with h8 | h8
          · exact .inl (List.mem_of_mem_take h8)
          · rw [List.mem_singleton] at h8
            rw [h8]
            refine .inr ⟨hzW.ext hEal2, hzA _ (fun j hj => ?_), fun j hj => hzA _ (fun q hq => ?_)⟩
            · have h7 := hyO5.own.lt j hj
              exact h7
            · injection hq with hq
              show q < w5.drew.heap.size
              have h7 : w5.drew.heap.size = w5.heap.size := rfl
              omega
        · exact .inl (List.mem_of_mem_drop h9))
      have hapD : ApartAll (some gO) (y.withE (y.es.take a ++ [z] ++ y.es.drop a) ⟨A', y.e.m + 1, c'⟩) := by
        refine ⟨?_, hapO.2.1, hapO.2.2.1, fun u hu => ?_⟩
        · cases hA : ob A' with
          | none => exact .inl hA
          | some j =>
            refine .inr (fun e => ?_)
            have e2 : j = gO := by
              have h5 : ob A' = some gO := e
              rw [hA] at h5
              injection h5
            rcases hN7 j hA with h9 | h9
            · have h8 := hE5a.size_le; omega
            · rcases hapO.1 with h7 | h7
              · rw [h7] at h9; cases h9
              · exact h7 (by rw [h9, e2])
        · rcases List.mem_append.1 hu with h9 | h9
          · rcases List.mem_append.1 h9 with h8 | h8
            · exact hapO.2.2.2 u (List.mem_of_mem_take h8)
            · rw [List.mem_singleton] at h8
              rw [h8]
              exact hzA _ (fun q hq => by injection hq with hq; show q < w5.drew.heap.size; have h7 : w5.drew.heap.size = w5.heap.size := rfl; omega)
          · exact hapO.2.2.2 u (List.mem_of_mem_drop h9)
      have HYD : Hid (CatO (w7.setCell ⟨gO, 3, none⟩ (.slice A' (y.e.m + 1) c')) w2.heap.size (y.withE (y.es.take a ++ [z] ++ y.es.drop a) ⟨A', y.e.m + 1, c'⟩)) := HW7.out.set_ (p := ⟨gO, 3, none⟩) hapD _
      have hg1O : g2 ≠ gO := by have h9 := HGO.out; have h8 := hE3.size_le; omega
      have hr7 := ((hb2.below hE05 hb2.lt).below hE5a (Nat.lt_of_lt_of_le hb2.lt hE05.size_le)).grown hg7 (fun e => by have h9 := hyO.own.ge g2 e.symm; omega)
      have hr8 := hr7.far (p := ⟨gO, 3, none⟩) hg1O (.slice A' (y.e.m + 1) c')
      have hbO8 := hbO7.set_ 3 (.slice A' (y.e.m + 1) c')
      have q0 : (w7.setCell ⟨gO, 3, none⟩ (.slice A' (y.e.m + 1) c')).cell? ⟨gO, 0, none⟩ = some (.string y.tag) := hbO8.cell 0
      have q1 : (w7.setCell ⟨gO, 3, none⟩ (.slice A' (y.e.m + 1) c')).cell? ⟨gO, 1, none⟩ = some (.slice y.c.A y.c.m y.c.c) := hbO8.cell 1
      have q2 : (w7.setCell ⟨gO, 3, none⟩ (.slice A' (y.e.m + 1) c')).cell? ⟨gO, 2, none⟩ = some (.slice y.d.A y.d.m y.d.c) := hbO8.cell 2
      have q3 : (w7.setCell ⟨gO, 3, none⟩ (.slice A' (y.e.m + 1) c')).cell? ⟨gO, 3, none⟩ = some (.slice A' (y.e.m + 1) c') := hbO8.cell 3
      have hr1 := (hr8).below (Ext.refl _) (hr8).lt
      have s0 := hr1.cell 0
      have s1 := hr1.cell 1
      have s2 := hr1.cell 2
      have s3 := hr1.cell 3
      have t0 := hr1.frozen 0
      have t1 := hr1.frozen 1
      have t2 := hr1.frozen 2
      have t3 := hr1.frozen 3
      have HBR : Hid (Blk (w7.setCell ⟨gO, 3, none⟩ (.slice A' (y.e.m + 1) c')) g2 28 _) := hr1
      clear hr1
      have HEW7 : Hid (Ext w w7) := (hEw5.trans hE5a).grown hg7 (fun j hj => by have h9 := hyO.own.ge j hj; omega)
      have HEW8 : Hid (Ext w (w7.setCell ⟨gO, 3, none⟩ (.slice A' (y.e.m + 1) c'))) := HEW7.out.set_ (p := ⟨gO, 3, none⟩) (by show w.heap.size ≤ gO; have h9 := HGO.out; have h8 := hEw3.size_le; omega) _
      have HR : Hid (PutR x.p v.p (a : Int) (y.withE (y.es.take a ++ [z] ++ y.es.drop a) ⟨A', y.e.m + 1, c'⟩).p 0) := .inr ⟨HV.out, HVE.out, .inr ⟨HZ.out, .inr ⟨a, rfl, by rw [← HXM.out]; omega, .inr ⟨by rw [← HXM.out]; omega, rfl, by
        rw [withE_p, ← HYP.out, ← HZP.out]
        simp [Cat.p, List.map_take, List.map_drop]⟩⟩⟩⟩
      clear hr7 hr8 hbO7 hbO8 hg7 ho7 hapD hvB
      go_wp2
      refine bodyPost_ret (results_cell_row_tmp' rfl _ _ g2 28 #[.string y.tag, .slice y.c.A y.c.m y.c.c, .slice y.d.A y.d.m y.d.c, .slice A' (y.e.m + 1) c'] (0, 0) _ rfl ((((HBR.out.set_ 0 _).set_ 1 _).set_ 2 _).set_ 3 _) Tryd.underlying28 rfl info_cat4) rfl ?_
      refine ⟨⟨y.withE (y.es.take a ++ [z] ++ y.es.drop a) ⟨A', y.e.m + 1, c'⟩, 0, rfl, HR.out, ?_⟩, ?_⟩
      · refine CatO.mono ?_ hlw
        iterate 4 refine CatO.set_ ?_ (HYD.out.lt_all hl2) _
        exact HYD.out
      · skip
        iterate 4 refine Ext.set_ ?_ HG2.out _
        exact HEW8.out
  · have hklt := hz.lt
    clear hz
    have HFV : Hid (FindV (k : Int) = .tuple #[.int .i64 k, .bool true]) := by show FindV _ = _; unfold FindV; rw [if_pos (by omega), decide_eq_true (by omega)]
    rw [HFV.out]
    have hkm : k < y.e.m := by rw [hym, HXM.out]; exact hklt
    have HKL := Lib.hid hklt
    obtain ⟨gA, cur, eA, _, _⟩ := hyO5.own.row (by omega)
    have O3 := laters (show w5.cell? ⟨gO, 3, none⟩ = some (.slice y.e.A y.e.m y.e.c) from hbO5.cell 3)
    rw [eA] at O3
    have EA := Lib.hid eA
    have hkmi : (k : Int) < (y.e.m : Int) := by omega
    have O0 := laters (show w5.cell? ⟨gO, 0, none⟩ = some (.string y.tag) from hbO5.cell 0)
    have O1 := laters (show w5.cell? ⟨gO, 1, none⟩ = some (.slice y.c.A y.c.m y.c.c) from hbO5.cell 1)
    have O2 := laters (show w5.cell? ⟨gO, 2, none⟩ = some (.slice y.d.A y.d.m y.d.c) from hbO5.cell 2)
    have hgA := hyO5.own.ge gA (by rw [eA]; rfl)
    have hgO := hyO.own.lt gA (by rw [eA]; rfl)
    have hn1 : gA ≠ gO := by have := HGO.out; omega
    have hn2 : gO ≠ gA := fun h => hn1 h.symm
    have hn3 : gA ≠ g2 := by omega
    have hn4 : g2 ≠ gA := fun h => hn3 h.symm
    have hb25 := hb2.below hE05 hb2.lt
    clear hym hyl hklt eA hgA hgO
    go_wp2
    first
    | (go_region_law (first
        | (go_simp; go_at_call 68; refine (copied_any (x := v) (hv.ext hEwd)).mono ?_; rintro e w6 ⟨z, rfl, hzp, hzW, hE6, hzA⟩; have HZP := Lib.hid hzp; clear hzp; unfold entV; have hE56 := hEd5.trans hE6; obtain ⟨hq, hoW, hgW, hsW⟩ := OsC.setE (hyO5.own.ext hE56) hkm EA.out z; obtain ⟨⟨u0, k0⟩, m0⟩ := hq 0 (by omega); obtain ⟨⟨u1, k1⟩, m1⟩ := hq 1 (by omega); obtain ⟨⟨u2, k2⟩, m2⟩ := hq 2 (by omega); obtain ⟨⟨u3, k3⟩, m3⟩ := hq 3 (by omega); obtain ⟨⟨u4, k4⟩, m4⟩ := hq 4 (by omega); obtain ⟨⟨u5, k5⟩, m5⟩ := hq 5 (by omega); obtain ⟨⟨u6, k6⟩, m6⟩ := hq 6 (by omega); simp only [Nat.add_zero] at k0 m0; clear hq; have hb26 := hb25.below hE56 hb25.lt; have s0 := hb26.cell 0; have s1 := hb26.cell 1; have s2 := hb26.cell 2; have s3 := hb26.cell 3; have t0 := hb26.frozen 0; have t1 := hb26.frozen 1; have t2 := hb26.frozen 2; have t3 := hb26.frozen 3)
        | fail))
    | fail
    all_goals
      have HOW := Lib.hid hoW
      have HGW := Lib.hid hgW
      have HBR : Hid (Blk (w6.setCells gA (k * 7) (entC z)) g2 28 _) := hb26.grown hgW (fun e => by rw [EA.out] at e; injection e with e; exact hn4 e)
      have HYD : Hid (CatO (w6.setCells gA (k * 7) (entC z)) w2.heap.size (y.withE (y.es.set k z) ⟨some ⟨gA, 0, none⟩, y.e.m, y.e.c⟩)) := (hyO5.ext hE56).turn hgW (e' := ⟨some ⟨gA, 0, none⟩, y.e.m, y.e.c⟩) (by have h9 := HOW.out; rw [EA.out] at h9; exact h9) (by show NewOr _ (ob y.e.A) (ob (some ⟨gA, 0, none⟩)); rw [← EA.out]; exact NewOr.refl _ _) (fun u hu => by
        rcases List.mem_or_eq_of_mem_set hu with h9 | h9
        · exact .inl h9
        · rw [h9]
          refine .inr ⟨hzW, hzA _ (fun j hj => ?_), fun j hj => hzA _ (fun q hq => ?_)⟩
          · exact hyO5.own.lt j hj
          · injection hq with hq
            have h7 : w5.drew.heap.size = w5.heap.size := rfl
            omega)
      have HR : Hid (PutR x.p v.p at_ (y.withE (y.es.set k z) ⟨some ⟨gA, 0, none⟩, y.e.m, y.e.c⟩).p 0) := .inr ⟨HV.out, HVE.out, .inl ⟨k, HZ.out, HKL.out, rfl, by
        rw [withE_p, ← HYP.out, ← HZP.out]
        simp [Cat.p, List.map_set]⟩⟩
      have HEW : Hid (Ext w (w6.setCells gA (k * 7) (entC z))) := (hEw5.trans hE56).grown hgW (fun j hj => by have h9 := hyO.own.ge j hj; omega)
      clear hoW hgW hsW hb26
      go_wp2
      refine bodyPost_ret (results_cell_row_tmp' rfl _ _ g2 28 #[.string y.tag, .slice y.c.A y.c.m y.c.c, .slice y.d.A y.d.m y.d.c, .slice (some ⟨gA, 0, none⟩) y.e.m y.e.c] (0, 0) _ rfl ((((HBR.out.set_ 0 _).set_ 1 _).set_ 2 _).set_ 3 _) Tryd.underlying28 rfl info_cat4) rfl ?_
      refine ⟨⟨y.withE (y.es.set k z) ⟨some ⟨gA, 0, none⟩, y.e.m, y.e.c⟩, 0, rfl, HR.out, ?_⟩, ?_⟩
      · refine CatO.mono ?_ hlw
        iterate 4 refine CatO.set_ ?_ (HYD.out.lt_all hl2) _
        exact HYD.out
      · skip
        iterate 4 refine Ext.set_ ?_ HG2.out _
        exact HEW.out
end

end Go.Proofs.YtikbjaopcminaaaDoor

/- The reference's Put. -/
namespace Go.Proofs.YtikbjaopcminaaaDoor
open Go.RowKit
set_option maxRecDepth 100000
attribute [local go_sem] ext_refl_t ext_alloc_t ext_drew_t ext_drewN_t ext_alloc2_t ext_alloc3_t ext_alloc4_t ext_alloc5_t ext_alloc6_t ext_alloc7_t ext_alloc8_t ext_alloc1d_t ext_alloc2d_t ext_alloc3d_t ext_alloc4d_t
theorem set_parts {α : Type} (l : List α) (k : Nat) (h : k < l.length) (x : α) : (l.take k ++ l.drop (k + 1)).take k ++ [x] ++ (l.take k ++ l.drop (k + 1)).drop k = l.set k x := by
  have h1 : (l.take k).length = k := by rw [List.length_take]; omega
  have h2 : (l.take k ++ l.drop (k + 1)).take k = l.take k := List.take_left' h1
  have h3 : (l.take k ++ l.drop (k + 1)).drop k = l.drop (k + 1) := List.drop_left' h1
  rw [h2, h3, List.set_eq_take_append_cons_drop, if_pos h, List.append_assoc]
  rfl
section
variable {w : World}
set_option maxHeartbeats 12800000 in
theorem rput_any {x : Cat} {v : Ent} (hx : CatW w x) (hv : EntW w v) (at_ : Int) (hat1 : -9223372036854775808 ≤ at_) (hat2 : at_ ≤ 9223372036854775807) :
    Calls Tryd.prog 31 #[catV x, entV v, .int .i64 at_] w fun e w' => (∃ (y : Cat) (code : Int), e = .returned (.tuple #[catV y, .int .i64 code]) ∧ PutR x.p v.p at_ y.p code ∧ CatW w' y) ∧ Ext w w' := by
  obtain ⟨W0, hW0⟩ : ∃ W0, W0 = ((w.alloc (Obj.cells #[.string x.tag, .slice x.c.A x.c.m x.c.c, .slice x.d.A x.d.m x.d.c, .slice x.e.A x.e.m x.e.c] 28)).alloc (Obj.cells #[.string v.p.id, .string v.p.src, .string v.p.tgt, .slice v.c.A v.c.m v.c.c, .slice v.f.A v.f.m v.f.c, .int .i64 v.p.st, .slice v.d.A v.d.m v.d.c] 30)).alloc (Obj.cells #[.string ⟨#[]⟩, .slice none 0 0, .slice none 0 0, .slice none 0 0] 28) := ⟨_, rfl⟩
  have hb0 : Blk W0 w.heap.size 28 #[.string x.tag, .slice x.c.A x.c.m x.c.c, .slice x.d.A x.d.m x.d.c, .slice x.e.A x.e.m x.e.c] := by
    rw [hW0]; exact ((Blk.new w _ _).alloc _).alloc _
  have hb1 : Blk W0 (w.heap.size + 1) 30 #[.string v.p.id, .string v.p.src, .string v.p.tgt, .slice v.c.A v.c.m v.c.c, .slice v.f.A v.f.m v.f.c, .int .i64 v.p.st, .slice v.d.A v.d.m v.d.c] := by
    rw [hW0]; exact (Blk.new1 w _ _ _).alloc _
  have hb2 : Blk W0 (w.heap.size + 1 + 1) 28 #[.string ⟨#[]⟩, .slice none 0 0, .slice none 0 0, .slice none 0 0] := by
    rw [hW0]; have h9 := Blk.new1 (w.alloc (Obj.cells #[.string x.tag, .slice x.c.A x.c.m x.c.c, .slice x.d.A x.d.m x.d.c, .slice x.e.A x.e.m x.e.c] 28)) (Obj.cells #[.string v.p.id, .string v.p.src, .string v.p.tgt, .slice v.c.A v.c.m v.c.c, .slice v.f.A v.f.m v.f.c, .int .i64 v.p.st, .slice v.d.A v.d.m v.d.c] 30) 28 #[.string ⟨#[]⟩, .slice none 0 0, .slice none 0 0, .slice none 0 0]; simpa using h9
  have hEW0 : Ext w W0 := by rw [hW0]; exact (((Ext.refl w).alloc _).alloc _).alloc _
  have hsz0 : W0.heap.size = w.heap.size + 3 := by rw [hW0]; simp
  have HIDV : Hid (∀ y : Cat, catV y = .agg #[.string y.tag, .slice y.c.A y.c.m y.c.c, .slice y.d.A y.d.m y.d.c, .slice y.e.A y.e.m y.e.c]) := fun _ => rfl
  have HIDE : Hid (∀ z : Ent, entV z = .agg #[.string z.p.id, .string z.p.src, .string z.p.tgt, .slice z.c.A z.c.m z.c.c, .slice z.f.A z.f.m z.f.c, .int .i64 z.p.st, .slice z.d.A z.d.m z.d.c]) := fun _ => rfl
  have hval := rvalid_any (hx.ext hEW0)
  rw [HIDV.out x] at hval ⊢
  rw [HIDE.out v]
  obtain ⟨g, hg⟩ : ∃ g, g = w.heap.size := ⟨_, rfl⟩
  obtain ⟨g1, hg1⟩ : ∃ g1, g1 = w.heap.size + 1 := ⟨_, rfl⟩
  obtain ⟨g2, hg2⟩ : ∃ g2, g2 = w.heap.size + 1 + 1 := ⟨_, rfl⟩
  have HG2 : Hid (w.heap.size ≤ g2) := by show _ ≤ _; omega
  have HG2' : Hid (g2 < W0.heap.size) := by show _ < _; omega
  go_enter Tryd.func31, Tryd.ntmps31
  go_wp2_with (first
    | (go_at_call 22; refine Hid.out ?_))
  rw [← hW0, ← hg2, ← hg1, ← hg]
  rw [← hg] at hb0
  rw [← hg1] at hb1
  rw [← hg2] at hb2
  refine Hid.mk_ (hval.mono ?_)
  rintro e w1 ⟨rfl, hE1⟩
  have X0 := laters (show _ = some (.string x.tag) from hb0.cell 0)
  have X1 := laters (show _ = some (.slice x.c.A x.c.m x.c.c) from hb0.cell 1)
  have X2 := laters (show _ = some (.slice x.d.A x.d.m x.d.c) from hb0.cell 2)
  have X3 := laters (show _ = some (.slice x.e.A x.e.m x.e.c) from hb0.cell 3)
  have Y0 := laters (show W0.cell? ⟨g1, 0, none⟩ = some (.string v.p.id) from (hb1).cell 0)
  have Y1 := laters (show W0.cell? ⟨g1, 1, none⟩ = some (.string v.p.src) from (hb1).cell 1)
  have Y2 := laters (show W0.cell? ⟨g1, 2, none⟩ = some (.string v.p.tgt) from (hb1).cell 2)
  have Y3 := laters (show W0.cell? ⟨g1, 3, none⟩ = some (.slice v.c.A v.c.m v.c.c) from (hb1).cell 3)
  have Y4 := laters (show W0.cell? ⟨g1, 4, none⟩ = some (.slice v.f.A v.f.m v.f.c) from (hb1).cell 4)
  have Y5 := laters (show W0.cell? ⟨g1, 5, none⟩ = some (.int .i64 v.p.st) from (hb1).cell 5)
  have Y6 := laters (show W0.cell? ⟨g1, 6, none⟩ = some (.slice v.d.A v.d.m v.d.c) from (hb1).cell 6)
  have hEw1 := hEW0.trans hE1
  clear hW0 hg hg1 hg2 hsz0 hval
  cases hvv : validC x.p with
  | false =>
    have HR : Hid (PutR x.p v.p at_ cp0 1) := .inl ⟨.inl hvv, rfl, rfl⟩
    clear hvv
    have hr1 := (hb2).below hE1 (hb2).lt
    have s0 := hr1.cell 0
    have s1 := hr1.cell 1
    have s2 := hr1.cell 2
    have s3 := hr1.cell 3
    have t0 := hr1.frozen 0
    have t1 := hr1.frozen 1
    have t2 := hr1.frozen 2
    have t3 := hr1.frozen 3
    have HBR : Hid (Blk w1 g2 28 _) := hr1
    clear hr1
    go_wp2
    refine bodyPost_ret (results_cell_row_tmp' rfl _ _ g2 28 #[.string ⟨#[]⟩, .slice none 0 0, .slice none 0 0, .slice none 0 0] (0, 0) _ rfl ((((HBR.out.set_ 0 _).set_ 1 _).set_ 2 _).set_ 3 _) Tryd.underlying28 rfl info_cat4) rfl ?_
    refine ⟨⟨cat0, _, rfl, HR.out, cat0_W _⟩, ?_⟩
    iterate 4 refine Ext.set_ ?_ HG2.out _
    exact hEw1
  | true =>
  have HV := Lib.hid hvv
  clear hvv
  have hve := rentry_any (hv.ext hEw1)
  rw [HIDE.out v] at hve
  go_wp2_with (first
    | (go_at_call 24; refine Hid.out ?_))
  refine Hid.mk_ ((hve).mono ?_)
  rintro e w2 ⟨rfl, hE2⟩
  have hE02 := hE1.trans hE2
  have hEw2 := hEw1.trans hE2
  clear hve
  cases hvv : validE v.p with
  | false =>
    have HR : Hid (PutR x.p v.p at_ cp0 1) := .inl ⟨.inr hvv, rfl, rfl⟩
    clear hvv
    have hr1 := (hb2).below hE02 (hb2).lt
    have s0 := hr1.cell 0
    have s1 := hr1.cell 1
    have s2 := hr1.cell 2
    have s3 := hr1.cell 3
    have t0 := hr1.frozen 0
    have t1 := hr1.frozen 1
    have t2 := hr1.frozen 2
    have t3 := hr1.frozen 3
    have HBR : Hid (Blk w2 g2 28 _) := hr1
    clear hr1
    go_wp2
    refine bodyPost_ret (results_cell_row_tmp' rfl _ _ g2 28 #[.string ⟨#[]⟩, .slice none 0 0, .slice none 0 0, .slice none 0 0] (0, 0) _ rfl ((((HBR.out.set_ 0 _).set_ 1 _).set_ 2 _).set_ 3 _) Tryd.underlying28 rfl info_cat4) rfl ?_
    refine ⟨⟨cat0, _, rfl, HR.out, cat0_W _⟩, ?_⟩
    iterate 4 refine Ext.set_ ?_ HG2.out _
    exact hEw2
  | true =>
  have HVE := Lib.hid hvv
  clear hvv
  have hpes : x.p.es.length = x.es.length := List.length_map _
  have hm : x.e.m = x.es.length := hx.e.sl.len
  have HXM : Hid (x.e.m = x.p.es.length) := by show _ = _; rw [hm, hpes]
  clear hpes hm
  have hfd := refFind_any (hx.ext hEw2) v.p.id
  rw [HIDV.out x] at hfd
  go_wp2_with (first
    | (go_at_call 35; refine Hid.out ?_))
  refine Hid.mk_ ((hfd).mono ?_)
  rintro e w3 ⟨⟨z, hz, rfl⟩, hE3⟩
  have HZ := Lib.hid hz
  have hE03 := hE02.trans hE3
  have hEw3 := hEw2.trans hE3
  clear hfd
  have hx1000 : x.e.m ≤ 1000 := by rw [HXM.out]; exact validC_len HV.out
  have hEd3 : Ext w3 w3.drew := (Ext.refl _).drew
  have hEwd := hEw3.drew
  have hcap := hx.e.cap
  have hr3 := hb2.below hE03 hb2.lt
  have HWI : Hid (∀ (W : World) (A : Option Addr) (m c : Nat), Calls Tryd.prog 65 #[.agg #[.string x.tag, .slice x.c.A x.c.m x.c.c, .slice x.d.A x.d.m x.d.c, .slice x.e.A x.e.m x.e.c], .slice A m c] W fun e w' => e = .returned (.agg #[.string x.tag, .slice x.c.A x.c.m x.c.c, .slice x.d.A x.d.m x.d.c, .slice A m c]) ∧ Ext W w') := fun W A m c => rwith_any (w := W) x A m c []
  have HINS : Hid (∀ (W : World) (A : Option Addr) (m c : Nat) (l : List Ent) (k : Nat), SlC entC 7 W A m l → m ≤ c → k ≤ m → m ≤ 4000 → Calls Tryd.prog 69 #[.slice A m c, .agg #[.string v.p.id, .string v.p.src, .string v.p.tgt, .slice v.c.A v.c.m v.c.c, .slice v.f.A v.f.m v.f.c, .int .i64 v.p.st, .slice v.d.A v.d.m v.d.c], .int .i64 k] W fun e w' => (∃ A m c, e = .returned (.slice A m c) ∧ OsC entC 30 7 w' W.heap.size A m c (l.take k ++ [v] ++ l.drop k)) ∧ Ext W w') :=
    fun W A m c l k h1 h2 h3 h4 => rinserted_any h1 h2 v h3 h4
  rcases hz.cases_ with rfl | ⟨k, rfl⟩
  · clear hz
    have HFV : Hid (FindV (-1) = .tuple #[.int .i64 0, .bool false]) := rfl
    rw [HFV.out]
    by_cases c1 : at_ < 0
    · have HR : Hid (PutR x.p v.p at_ cp0 2) := .inr ⟨HV.out, HVE.out, .inr ⟨HZ.out, .inl ⟨.inl c1, rfl, rfl⟩⟩⟩
      have hr1 := (hb2).below hE03 (hb2).lt
      have s0 := hr1.cell 0
      have s1 := hr1.cell 1
      have s2 := hr1.cell 2
      have s3 := hr1.cell 3
      have t0 := hr1.frozen 0
      have t1 := hr1.frozen 1
      have t2 := hr1.frozen 2
      have t3 := hr1.frozen 3
      have HBR : Hid (Blk w3 g2 28 _) := hr1
      clear hr1
      go_wp2
      refine bodyPost_ret (results_cell_row_tmp' rfl _ _ g2 28 #[.string ⟨#[]⟩, .slice none 0 0, .slice none 0 0, .slice none 0 0] (0, 0) _ rfl ((((HBR.out.set_ 0 _).set_ 1 _).set_ 2 _).set_ 3 _) Tryd.underlying28 rfl info_cat4) rfl ?_
      refine ⟨⟨cat0, _, rfl, HR.out, cat0_W _⟩, ?_⟩
      iterate 4 refine Ext.set_ ?_ HG2.out _
      exact hEw3
    have c1' : (0 : Int) ≤ at_ := by omega
    obtain ⟨a, rfl⟩ : ∃ a : Nat, at_ = a := ⟨at_.toNat, by omega⟩
    by_cases c2 : x.e.m < a
    · have c2i : (x.e.m : Int) < (a : Int) := by omega
      have HR : Hid (PutR x.p v.p (a : Int) cp0 2) := .inr ⟨HV.out, HVE.out, .inr ⟨HZ.out, .inl ⟨.inr (by rw [← HXM.out]; exact c2i), rfl, rfl⟩⟩⟩
      have hr1 := (hb2).below hE03 (hb2).lt
      have s0 := hr1.cell 0
      have s1 := hr1.cell 1
      have s2 := hr1.cell 2
      have s3 := hr1.cell 3
      have t0 := hr1.frozen 0
      have t1 := hr1.frozen 1
      have t2 := hr1.frozen 2
      have t3 := hr1.frozen 3
      have HBR : Hid (Blk w3 g2 28 _) := hr1
      clear hr1
      go_wp2
      refine bodyPost_ret (results_cell_row_tmp' rfl _ _ g2 28 #[.string ⟨#[]⟩, .slice none 0 0, .slice none 0 0, .slice none 0 0] (0, 0) _ rfl ((((HBR.out.set_ 0 _).set_ 1 _).set_ 2 _).set_ 3 _) Tryd.underlying28 rfl info_cat4) rfl ?_
      refine ⟨⟨cat0, _, rfl, HR.out, cat0_W _⟩, ?_⟩
      iterate 4 refine Ext.set_ ?_ HG2.out _
      exact hEw3
    have c2i : ¬ (x.e.m : Int) < (a : Int) := by omega
    by_cases c3 : 1000 ≤ x.e.m
    · have c3i : (1000 : Int) ≤ (x.e.m : Int) := by omega
      have HR : Hid (PutR x.p v.p (a : Int) cp0 6) := .inr ⟨HV.out, HVE.out, .inr ⟨HZ.out, .inr ⟨a, rfl, by rw [← HXM.out]; omega, .inl ⟨by rw [← HXM.out]; exact c3, rfl, rfl⟩⟩⟩⟩
      have hr1 := (hb2).below hE03 (hb2).lt
      have s0 := hr1.cell 0
      have s1 := hr1.cell 1
      have s2 := hr1.cell 2
      have s3 := hr1.cell 3
      have t0 := hr1.frozen 0
      have t1 := hr1.frozen 1
      have t2 := hr1.frozen 2
      have t3 := hr1.frozen 3
      have HBR : Hid (Blk w3 g2 28 _) := hr1
      clear hr1
      go_wp2
      refine bodyPost_ret (results_cell_row_tmp' rfl _ _ g2 28 #[.string ⟨#[]⟩, .slice none 0 0, .slice none 0 0, .slice none 0 0] (0, 0) _ rfl ((((HBR.out.set_ 0 _).set_ 1 _).set_ 2 _).set_ 3 _) Tryd.underlying28 rfl info_cat4) rfl ?_
      refine ⟨⟨cat0, _, rfl, HR.out, cat0_W _⟩, ?_⟩
      iterate 4 refine Ext.set_ ?_ HG2.out _
      exact hEw3
    have c3i : ¬ (1000 : Int) ≤ (x.e.m : Int) := by omega
    have ham : a ≤ x.e.m := by omega
    have HAM := Lib.hid ham
    clear ham
    go_wp2
    first
    | (go_region_law (first
        | (go_simp; go_at_call 65; refine (HWI.out _ A4 m4 c4).mono ?_; rintro e w5 ⟨rfl, hE5⟩; have hE35 := hE34.trans hE5; have hr1 := hr3.below hE35 hr3.lt; have s0 := hr1.cell 0; have s1 := hr1.cell 1; have s2 := hr1.cell 2; have s3 := hr1.cell 3; have t0 := hr1.frozen 0; have t1 := hr1.frozen 1; have t2 := hr1.frozen 2; have t3 := hr1.frozen 3; have HBR : Hid (Blk w5 g2 28 _) := hr1; clear hr1)
        | (go_simp; go_at_call 69; refine (HINS.out _ _ _ _ _ a (hx.e.sl.ext hEwd) hcap HAM.out (by omega)).mono ?_; rintro e w4 ⟨⟨A4, m4, c4, rfl, ho4⟩, hE4⟩; have hE34 := hEd3.trans hE4; have hE04 := hE03.trans hE34; have hEw4 := hEwd.trans hE4)
        | fail))
    | fail
    all_goals
      have hmem : ∀ z ∈ x.es.take a ++ [v] ++ x.es.drop a, z ∈ x.es ∨ z = v := fun z hz => by
        rcases List.mem_append.1 hz with h9 | h9
        · rcases List.mem_append.1 h9 with h8 | h8
          · exact .inl (List.mem_of_mem_take h8)
          · exact .inr (List.mem_singleton.1 h8)
        · exact .inl (List.mem_of_mem_drop h9)
      have HR : Hid (PutR x.p v.p (a : Int) (x.withE (x.es.take a ++ [v] ++ x.es.drop a) ⟨A4, m4, c4⟩).p 0) := .inr ⟨HV.out, HVE.out, .inr ⟨HZ.out, .inr ⟨a, rfl, by rw [← HXM.out]; omega, .inr ⟨by rw [← HXM.out]; omega, rfl, by
        rw [withE_p]
        simp [Cat.p, List.map_take, List.map_drop]⟩⟩⟩⟩
      have hm4 : m4 ≤ 1001 := by
        have h1 := ho4.len
        have h2 := hx.e.sl.len
        rw [List.length_append, List.length_append, List.length_take, List.length_drop] at h1
        simp only [List.length_cons, List.length_nil] at h1
        omega
      have hne : ob A4 = none ∨ ob A4 ≠ some g2 := by
        cases hA : ob A4 with
        | none => exact .inl rfl
        | some j => exact .inr (fun e => by injection e with e; have h1 := ho4.ge j hA; have h3 := hEd3.size_le; have h4 := hE03.size_le; have h5 := HG2'.out; omega)
      go_wp2
      refine bodyPost_ret (results_cell_row_tmp' rfl _ _ g2 28 #[.string x.tag, .slice x.c.A x.c.m x.c.c, .slice x.d.A x.d.m x.d.c, .slice A4 m4 c4] (0, 0) _ rfl ((((HBR.out.set_ 0 _).set_ 1 _).set_ 2 _).set_ 3 _) Tryd.underlying28 rfl info_cat4) rfl ?_
      refine ⟨⟨x.withE (x.es.take a ++ [v] ++ x.es.drop a) ⟨A4, m4, c4⟩, 0, rfl, HR.out, ?_⟩, ?_⟩
      · refine CatW.withE (hx.ext ?_) (OsC.kept (OsC.kept (OsC.kept (OsC.kept (ho4.ext hE5) (grown_set _ ⟨g2, _, none⟩ _) hne) (grown_set _ ⟨g2, _, none⟩ _) hne) (grown_set _ ⟨g2, _, none⟩ _) hne) (grown_set _ ⟨g2, _, none⟩ _) hne) (by omega) (fun z hz => ?_)
        · skip
          iterate 4 refine Ext.set_ ?_ HG2.out _
          exact hEw4.trans hE5
        · refine EntW.ext ((hmem z hz).elim (fun h9 => hx.e.good z h9) (fun h9 => h9 ▸ hv)) ?_
          iterate 4 refine Ext.set_ ?_ HG2.out _
          exact hEw4.trans hE5
      · skip
        iterate 4 refine Ext.set_ ?_ HG2.out _
        exact hEw4.trans hE5
  · have hklt := hz.lt
    clear hz
    have HFV : Hid (FindV (k : Int) = .tuple #[.int .i64 k, .bool true]) := by show FindV _ = _; unfold FindV; rw [if_pos (by omega), decide_eq_true (by omega)]
    rw [HFV.out]
    have hkm : k < x.e.m := by rw [HXM.out]; exact hklt
    have HKM := Lib.hid hkm
    have HKL := Lib.hid hklt
    clear hklt hkm
    go_wp2
    first
    | (go_region_law (first
        | (go_simp; go_at_call 65; refine (HWI.out _ A4 m4 c4).mono ?_; rintro e w5 ⟨rfl, hE5⟩; have hE35 := hE34.trans hE5; have hr1 := hr3.below hE35 hr3.lt; have s0 := hr1.cell 0; have s1 := hr1.cell 1; have s2 := hr1.cell 2; have s3 := hr1.cell 3; have t0 := hr1.frozen 0; have t1 := hr1.frozen 1; have t2 := hr1.frozen 2; have t3 := hr1.frozen 3; have HBR : Hid (Blk w5 g2 28 _) := hr1; clear hr1)
        | (go_simp; go_at_call 69; refine (HINS.out _ Aq mq cq _ k hoq.sl hoq.cap (by have h1 := HMQ.out; have h2 := HKM.out; omega) (by have h1 := HMQ.out; omega)).mono ?_; rintro e w4 ⟨⟨A4, m4, c4, rfl, ho4⟩, hE4⟩; have hE34 := hE3q.trans hE4; have hE04 := hE03.trans hE34; have hEw4 := hEwq.trans hE4)
        | (go_simp; go_at_call 66; refine (rwithout_any (hx.e.sl.ext hEwd) hcap HKM.out (by omega)).mono ?_; rintro e wq ⟨⟨Aq, mq, cq, rfl, hoq⟩, hEq⟩; have hE3q := hEd3.trans hEq; have hE0q := hE03.trans hE3q; have hEwq := hEwd.trans hEq; have HMQ : Hid (mq = x.e.m - 1) := (by show _ = _; have h1 := hoq.len; have h2 := hx.e.sl.len; have h3 := HKM.out; rw [List.length_append, List.length_take, List.length_drop] at h1; omega))
        | fail))
    | fail
    all_goals
      have hkx : k < x.es.length := by have h9 := HKL.out; rwa [show x.p.es.length = x.es.length from List.length_map _] at h9
      rw [set_parts _ _ hkx] at ho4
      have hmem : ∀ z ∈ x.es.set k v, z ∈ x.es ∨ z = v := fun z hz => List.mem_or_eq_of_mem_set hz
      have HR : Hid (PutR x.p v.p at_ (x.withE (x.es.set k v) ⟨A4, m4, c4⟩).p 0) := .inr ⟨HV.out, HVE.out, .inl ⟨k, HZ.out, HKL.out, rfl, by
        rw [withE_p]
        simp [Cat.p, List.map_set]⟩⟩
      have hm4 : m4 ≤ 1001 := by
        have h1 := ho4.len
        have h2 := hx.e.sl.len
        rw [List.length_set] at h1
        omega
      have hne : ob A4 = none ∨ ob A4 ≠ some g2 := by
        cases hA : ob A4 with
        | none => exact .inl rfl
        | some j => exact .inr (fun e => by injection e with e; have h1 := ho4.ge j hA; have h3 := hE3q.size_le; have h4 := hE03.size_le; have h5 := HG2'.out; omega)
      go_wp2
      refine bodyPost_ret (results_cell_row_tmp' rfl _ _ g2 28 #[.string x.tag, .slice x.c.A x.c.m x.c.c, .slice x.d.A x.d.m x.d.c, .slice A4 m4 c4] (0, 0) _ rfl ((((HBR.out.set_ 0 _).set_ 1 _).set_ 2 _).set_ 3 _) Tryd.underlying28 rfl info_cat4) rfl ?_
      refine ⟨⟨x.withE (x.es.set k v) ⟨A4, m4, c4⟩, 0, rfl, HR.out, ?_⟩, ?_⟩
      · refine CatW.withE (hx.ext ?_) (OsC.kept (OsC.kept (OsC.kept (OsC.kept (ho4.ext hE5) (grown_set _ ⟨g2, _, none⟩ _) hne) (grown_set _ ⟨g2, _, none⟩ _) hne) (grown_set _ ⟨g2, _, none⟩ _) hne) (grown_set _ ⟨g2, _, none⟩ _) hne) (by omega) (fun z hz => ?_)
        · skip
          iterate 4 refine Ext.set_ ?_ HG2.out _
          exact hEw4.trans hE5
        · refine EntW.ext ((hmem z hz).elim (fun h9 => hx.e.good z h9) (fun h9 => h9 ▸ hv)) ?_
          iterate 4 refine Ext.set_ ?_ HG2.out _
          exact hEw4.trans hE5
      · skip
        iterate 4 refine Ext.set_ ?_ HG2.out _
        exact hEw4.trans hE5
end

end Go.Proofs.YtikbjaopcminaaaDoor

/- The results of Remove, Move are the only ones; what the laws of catalogs share. -/
namespace Go.Proofs.YtikbjaopcminaaaDoor
open Go.ChangeShapes Go.WideShapes Go.ChangeAt Go.RowKit
set_option maxRecDepth 100000
attribute [local go_sem] ext_refl_t ext_alloc_t ext_drew_t ext_drewN_t ext_alloc2_t ext_alloc3_t ext_alloc4_t ext_alloc5_t ext_alloc6_t ext_alloc7_t ext_alloc8_t ext_alloc1d_t ext_alloc2d_t ext_alloc3d_t ext_alloc4d_t
theorem RemR.uniq {c : Cp} {id : ByteArray} {a b : Cp} {m n : Int} (h : RemR c id a m) (h' : RemR c id b n) : a = b ∧ m = n := by
  rcases h with ⟨h1, h2, h3⟩ | ⟨h1, h2, h3, h4⟩ | ⟨h1, k, h2, _, h3, h4⟩ <;> rcases h' with ⟨i1, i2, i3⟩ | ⟨i1, i2, i3, i4⟩ | ⟨i1, j, i2, _, i3, i4⟩
  · exact ⟨h3.trans i3.symm, h2.trans i2.symm⟩
  · rw [h1] at i1; cases i1
  · rw [h1] at i1; cases i1
  · rw [h1] at i1; cases i1
  · exact ⟨h4.trans i4.symm, h3.trans i3.symm⟩
  · have := h2.uniq i2; omega
  · rw [h1] at i1; cases i1
  · have := h2.uniq i2; omega
  · have e : k = j := by have := h2.uniq i2; omega
    subst e
    exact ⟨h4.trans i4.symm, h3.trans i3.symm⟩
theorem MovR.uniq {c : Cp} {id : ByteArray} {at_ : Int} {a b : Cp} {m n : Int} (h : MovR c id at_ a m) (h' : MovR c id at_ b n) : a = b ∧ m = n := by
  obtain ⟨c1, k1, hr, h⟩ := h
  obtain ⟨c2, k2, hr', h'⟩ := h'
  obtain ⟨rfl, rfl⟩ := hr.uniq hr'
  rcases h with ⟨h1, h2, h3⟩ | ⟨h1, h2, h3, h4⟩ | ⟨h1, a1, k, h2, h3, h4, h5, h6, h7⟩ <;> rcases h' with ⟨i1, i2, i3⟩ | ⟨i1, i2, i3, i4⟩ | ⟨i1, a2, j, i2, i3, i4, i5, i6, i7⟩
  · exact ⟨h2.trans i2.symm, h3.trans i3.symm⟩
  · exact absurd i1 h1
  · exact absurd i1 h1
  · exact absurd h1 i1
  · exact ⟨h3.trans i3.symm, h4.trans i4.symm⟩
  · omega
  · exact absurd h1 i1
  · omega
  · have e1 : a1 = a2 := by omega
    have e2 : k = j := by have := h4.uniq i4; omega
    subst e1 e2
    exact ⟨h7.trans i7.symm, h6.trans i6.symm⟩
theorem CatO.w' {w : World} {base : Nat} {y : Cat} (h : CatO w base y) (hn : y.p.es.length ≤ 1000) : CatW w y := h.w (by rw [h.own.len, ← show y.p.es.length = y.es.length from List.length_map _]; omega)
theorem RemR.len {c : Cp} {id : ByteArray} {a : Cp} {m : Int} (h : RemR c id a m) : a.es.length ≤ 1000 := by
  rcases h with ⟨h1, h2, rfl⟩ | ⟨h1, h2, h3, rfl⟩ | ⟨h1, k, h2, _, h3, rfl⟩
  · exact Nat.zero_le _
  · exact Nat.zero_le _
  · have := validC_len h1
    show (c.es.take k ++ c.es.drop (k + 1)).length ≤ 1000
    rw [List.length_append, List.length_take, List.length_drop]
    omega
theorem MovR.len {c : Cp} {id : ByteArray} {at_ : Int} {a : Cp} {m : Int} (h : MovR c id at_ a m) : a.es.length ≤ 1000 := by
  obtain ⟨c1, k1, hr, ⟨_, rfl, _⟩ | ⟨_, _, rfl, _⟩ | ⟨h0, a1, k, _, h1, h2, h3, _, rfl⟩⟩ := h
  · exact hr.len
  · exact Nat.zero_le _
  · rcases hr with ⟨_, h, _⟩ | ⟨_, _, h, _⟩ | ⟨hv, k2, _, hk2, _, rfl⟩
    · omega
    · omega
    · have := validC_len hv
      show ((c.es.take k2 ++ c.es.drop (k2 + 1)).take a1 ++ [c.es[k]] ++ (c.es.take k2 ++ c.es.drop (k2 + 1)).drop a1).length ≤ 1000
      simp only [List.length_append, List.length_take, List.length_drop, List.length_cons, List.length_nil]
      omega
theorem in_p (x : Cat) (e : SlH) : (x.withE x.es e).p = x.p := rfl
theorem reqC_true {w : World} {x y : Cat} (hx : CatW w x) (hy : CatW w y) (h : x.p = y.p) :
    Calls Tryd.prog 29 #[catV x, catV y] w fun e w' => e = .returned (.bool true) ∧ Ext w w' := by
  have h1 := reqC_any hx hy
  rwa [eqC_iff.2 h] at h1
end Go.Proofs.YtikbjaopcminaaaDoor
