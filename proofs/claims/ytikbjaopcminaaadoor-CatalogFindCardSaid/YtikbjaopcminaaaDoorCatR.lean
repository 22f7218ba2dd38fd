/- Remove. -/
import Derived.Test.YtikbjaopcminaaaDoorCatK
import Derived.Test.YtikbjaopcminaaaDoorCatD
import Derived.Test.YtikbjaopcminaaaDoorCatFi
namespace Go.Proofs.YtikbjaopcminaaaDoor
open Go.RowKit
set_option maxRecDepth 100000

theorem results_cell_row_tmp' {P : Program} {fn : Func} {p u : Tmp} {ty : TypeId} (h : fn.results = #[.cell p ty, .tmp u]) (tmps : Array Value) (w : World) (g : Nat) (t : TypeId) (cs : Array Value) (fr : Nat × Nat) (d : TypeDesc)
    (hp : tmps.getD p undef = .pointer (some ⟨g, 0, none⟩)) (hg : w.heap[g]? = some (.cells cs t fr))
    (hu : P.underlying ty = some d) (hd : (match d with | .struct _ | .array _ _ => true | _ => false) = true) (hi : (P.info? ty).map (·.size) = some cs.size) :
    (results fn tmps).run P w = .ok (.tuple #[.agg cs, tmps.getD u undef]) w := by
  rw [results_cell_tmp h, hp]
  simp [asAddr, run_loadVar_row w g t ty cs fr d hg hu hd hi, Result.andThen]

def ApartAll (r : Option Nat) (y : Cat) : Prop := (ob y.e.A = none ∨ ob y.e.A ≠ r) ∧ Apart r y.c ∧ Apart r y.d ∧ ∀ z ∈ y.es, EntA r z
section
variable {w w' : World} {base : Nat} {y : Cat}
theorem CatO.lt_all (h : CatO w base y) {j : Nat} (hj : j < base) : ApartAll (some j) y := by
  obtain ⟨h1, h2, h3⟩ := h.new j hj
  refine ⟨?_, h1, h2, h3⟩
  cases hA : ob y.e.A with
  | none => exact .inl rfl
  | some k => exact .inr (fun e => by injection e with e; have := h.own.ge k hA; omega)
theorem CatO.ge_all (h : CatO w base y) {j : Nat} (hj : w.heap.size ≤ j) : ApartAll (some j) y := by
  refine ⟨?_, h.c.lt (fun g e => by injection e with e; omega), h.d.lt (fun g e => by injection e with e; omega), fun z hz => (h.each z hz).lt (fun g e => by injection e with e; omega)⟩
  cases hA : ob y.e.A with
  | none => exact .inl rfl
  | some k => exact .inr (fun e => by injection e with e; have := h.own.lt k hA; omega)
theorem CatO.kept {r : Option Nat} (h : CatO w base y) (hg : w.grownBy w' r) (ha : ApartAll r y) : CatO w' base y :=
  ⟨h.tag, h.c.kept hg ha.2.1, h.d.kept hg ha.2.2.1, h.own.kept hg ha.1, fun z hz => (h.each z hz).kept hg (ha.2.2.2 z hz), h.apE, h.apC, h.apD, h.new⟩
theorem CatO.set_ (h : CatO w base y) {p : Addr} (ha : ApartAll (some p.block) y) (u : Value) : CatO (w.setCell p u) base y := h.kept (grown_set w p u) ha
theorem CatO.mono {base' : Nat} (h : CatO w base y) (hb : base' ≤ base) : CatO w base' y :=
  ⟨h.tag, h.c, h.d, h.own.mono hb, h.each, h.apE, h.apC, h.apD, fun j hj => h.new j (by omega)⟩
def Cat.withE (y : Cat) (es : List Ent) (e : SlH) : Cat := ⟨y.tag, y.com, y.fd, es, y.c, y.d, e⟩
theorem CatO.turn (h : CatO w base y) (hg : w.grownBy w' (ob y.e.A)) {es' : List Ent} {e' : SlH} (hown : OsC entC 30 7 w' base e'.A e'.m e'.c es') (hN : NewOr w.heap.size (ob y.e.A) (ob e'.A))
    (hsub : ∀ z ∈ es', z ∈ y.es ∨ (EntW w z ∧ EntA (ob y.e.A) z ∧ ∀ j, j < base → EntA (some j) z)) : CatO w' base (y.withE es' e') := by
  have hz : ∀ z ∈ es', EntW w z ∧ EntA (ob y.e.A) z ∧ ∀ j, j < base → EntA (some j) z := fun z hz => by
    rcases hsub z hz with h1 | h1
    · exact ⟨h.each z h1, h.apE z h1, fun j hj => (h.new j hj).2.2 z h1⟩
    · exact h1
  exact ⟨h.tag, h.c.kept hg h.apC, h.d.kept hg h.apD, hown, fun z hm => (hz z hm).1.kept hg (hz z hm).2.1, fun z hm => (hz z hm).2.1.turn (hz z hm).1 hN (Nat.le_refl _),
    h.apC.turn h.c hN (Nat.le_refl _), h.apD.turn h.d hN (Nat.le_refl _), fun j hj => ⟨(h.new j hj).1, (h.new j hj).2.1, fun z hm => (hz z hm).2.2 j hj⟩⟩
end
def cp0 : Cp := ⟨⟨#[]⟩, [], [], []⟩
def cat0 : Cat := ⟨⟨#[]⟩, [], [], [], ⟨none, 0, 0⟩, ⟨none, 0, 0⟩, ⟨none, 0, 0⟩⟩
theorem apart_none (r : Option Nat) : Apart r ⟨none, 0, 0⟩ := .inl rfl
theorem CatO.zero (w : World) (base : Nat) : CatO w base cat0 :=
  ⟨by show (0 : Nat) ≤ _; omega, HW.nil_ strF_len, HW.nil_ fdC_len, OsC.nil_ entC_len entC_cell, fun z h => (by cases h), fun z h => (by cases h), apart_none _, apart_none _, fun j _ => ⟨apart_none _, apart_none _, fun z h => (by cases h)⟩⟩
/-- What Remove does. -/
def RemR (c : Cp) (id : ByteArray) (c' : Cp) (code : Int) : Prop :=
  (validC c = false ∧ code = 1 ∧ c' = cp0) ∨ (validC c = true ∧ FindZ c.es id (-1) ∧ code = 8 ∧ c' = cp0) ∨
  (validC c = true ∧ ∃ k : Nat, FindZ c.es id k ∧ k < c.es.length ∧ code = 0 ∧ c' = ⟨c.tag, c.com, c.fd, c.es.take k ++ c.es.drop (k + 1)⟩)
theorem FindZ.lt {l : List Ep} {id : ByteArray} {k : Nat} (h : FindZ l id k) : k < l.length := by
  rcases h with ⟨h, _⟩ | ⟨j, h, hj, _⟩
  · omega
  · omega
theorem FindZ.cases_ {l : List Ep} {id : ByteArray} {z : Int} (h : FindZ l id z) : z = -1 ∨ ∃ k : Nat, z = k := by
  rcases h with ⟨h, _⟩ | ⟨k, h, _⟩
  · exact .inl h
  · exact .inr ⟨k, h⟩
theorem validC_len {c : Cp} (h : validC c = true) : c.es.length ≤ 1000 := by
  unfold validC at h
  simp only [Bool.and_eq_true, decide_eq_true_eq] at h
  exact h.1.2
attribute [local go_sem] ext_refl_t ext_alloc_t ext_drew_t ext_drewN_t ext_alloc2_t ext_alloc3_t ext_alloc4_t ext_alloc5_t ext_alloc6_t ext_alloc7_t ext_alloc8_t ext_alloc1d_t ext_alloc2d_t ext_alloc3d_t ext_alloc4d_t
section
variable {w : World}
set_option maxHeartbeats 12800000 in
theorem remove_any {x : Cat} (hx : CatW w x) (id : ByteArray) (hT : Tabs w) :
    Calls Tryd.prog 25 #[catV x, .string id] w fun e w' => (∃ (y : Cat) (code : Int), e = .returned (.tuple #[catV y, .int .i64 code]) ∧ RemR x.p id y.p code ∧ CatO w' w.heap.size y) ∧ Ext w w' := by
  obtain ⟨W0, hW0⟩ : ∃ W0, W0 = (w.alloc (Obj.cells #[.string x.tag, .slice x.c.A x.c.m x.c.c, .slice x.d.A x.d.m x.d.c, .slice x.e.A x.e.m x.e.c] 28)).alloc (Obj.cells #[.string ⟨#[]⟩, .slice none 0 0, .slice none 0 0, .slice none 0 0] 28) := ⟨_, rfl⟩
  have hb0 : Blk W0 w.heap.size 28 #[.string x.tag, .slice x.c.A x.c.m x.c.c, .slice x.d.A x.d.m x.d.c, .slice x.e.A x.e.m x.e.c] := by
    rw [hW0]; exact (Blk.new w _ _).alloc _
  have hb1 : Blk W0 (w.heap.size + 1) 28 #[.string ⟨#[]⟩, .slice none 0 0, .slice none 0 0, .slice none 0 0] := by
    have h := Blk.new (w.alloc (Obj.cells #[.string x.tag, .slice x.c.A x.c.m x.c.c, .slice x.d.A x.d.m x.d.c, .slice x.e.A x.e.m x.e.c] 28)) 28 #[.string ⟨#[]⟩, .slice none 0 0, .slice none 0 0, .slice none 0 0]
    rw [hW0]; simpa using h
  have hEW0 : Ext w W0 := by rw [hW0]; exact ((Ext.refl w).alloc _).alloc _
  have hsz0 : W0.heap.size = w.heap.size + 2 := by rw [hW0]; simp
  have HIDV : Hid (∀ y : Cat, catV y = .agg #[.string y.tag, .slice y.c.A y.c.m y.c.c, .slice y.d.A y.d.m y.d.c, .slice y.e.A y.e.m y.e.c]) := fun _ => rfl
  have hval := valid_any' (hx.ext hEW0) (hT.ext hEW0)
  rw [HIDV.out x] at hval ⊢
  obtain ⟨g, hg⟩ : ∃ g, g = w.heap.size := ⟨_, rfl⟩
  have HG := Lib.hid hg
  have HSZ := Lib.hid hsz0
  go_enter Tryd.func25, Tryd.ntmps25
  go_wp2_with (first
    | (go_at_call 21; refine Hid.out ?_))
  rw [← hW0, ← hg]
  rw [← hg] at hb0 hb1
  refine Hid.mk_ (hval.mono ?_)
  rintro e w1 ⟨rfl, hE1⟩
  have X0 := laters (show _ = some (.string x.tag) from hb0.cell 0)
  have X1 := laters (show _ = some (.slice x.c.A x.c.m x.c.c) from hb0.cell 1)
  have X2 := laters (show _ = some (.slice x.d.A x.d.m x.d.c) from hb0.cell 2)
  have X3 := laters (show _ = some (.slice x.e.A x.e.m x.e.c) from hb0.cell 3)
  have hEw1 := hEW0.trans hE1
  clear hW0 hg hsz0 hval
  cases hv : validC x.p with
  | false =>
    have hr1 := hb1.below hE1 hb1.lt
    have s0 := hr1.cell 0
    have s1 := hr1.cell 1
    have s2 := hr1.cell 2
    have s3 := hr1.cell 3
    have t0 := hr1.frozen 0
    have t1 := hr1.frozen 1
    have t2 := hr1.frozen 2
    have t3 := hr1.frozen 3
    have HBR : Hid (Blk w1 (g + 1) 28 _) := hr1
    clear hr1
    have HR : Hid (RemR x.p id cp0 1) := .inl ⟨hv, rfl, rfl⟩
    clear hv
    go_wp2
    refine bodyPost_ret (results_cell_row_tmp' rfl _ _ (g + 1) 28 #[.string ⟨#[]⟩, .slice none 0 0, .slice none 0 0, .slice none 0 0] (0, 0) _ rfl ((((HBR.out.set_ 0 _).set_ 1 _).set_ 2 _).set_ 3 _) Tryd.underlying28 rfl info_cat4) rfl ?_
    refine ⟨⟨cat0, 1, rfl, HR.out, CatO.zero _ _⟩, ?_⟩
    iterate 4 refine Ext.set_ ?_ (by show w.heap.size ≤ g + 1; rw [HG.out]; omega) _
    exact hEw1
  | true =>
  have HV := Lib.hid hv
  clear hv
  have hfd := find_any (hx.ext hEw1) id
  rw [HIDV.out x] at hfd
  go_wp2_with (first
    | (go_at_call 32; refine Hid.out ?_))
  refine Hid.mk_ ((hfd).mono ?_)
  rintro e w2 ⟨⟨z, hz, rfl⟩, hE2⟩
  have HZ := Lib.hid hz
  have hE02 := hE1.trans hE2
  have hEw2 := hEw1.trans hE2
  clear hfd
  rcases hz.cases_ with rfl | ⟨k, rfl⟩
  · clear hz
    have HFV : Hid (FindV (-1) = .tuple #[.int .i64 0, .bool false]) := rfl
    rw [HFV.out]
    have hr1 := hb1.below hE02 hb1.lt
    have s0 := hr1.cell 0
    have s1 := hr1.cell 1
    have s2 := hr1.cell 2
    have s3 := hr1.cell 3
    have t0 := hr1.frozen 0
    have t1 := hr1.frozen 1
    have t2 := hr1.frozen 2
    have t3 := hr1.frozen 3
    have HBR : Hid (Blk w2 (g + 1) 28 _) := hr1
    clear hr1
    have HR : Hid (RemR x.p id cp0 8) := .inr (.inl ⟨HV.out, HZ.out, rfl, rfl⟩)
    go_wp2
    refine bodyPost_ret (results_cell_row_tmp' rfl _ _ (g + 1) 28 #[.string ⟨#[]⟩, .slice none 0 0, .slice none 0 0, .slice none 0 0] (0, 0) _ rfl ((((HBR.out.set_ 0 _).set_ 1 _).set_ 2 _).set_ 3 _) Tryd.underlying28 rfl info_cat4) rfl ?_
    refine ⟨⟨cat0, 8, rfl, HR.out, CatO.zero _ _⟩, ?_⟩
    iterate 4 refine Ext.set_ ?_ (by show w.heap.size ≤ g + 1; rw [HG.out]; omega) _
    exact hEw2
  · have hklt := hz.lt
    clear hz
    have HFV : Hid (FindV (k : Int) = .tuple #[.int .i64 k, .bool true]) := by show FindV _ = _; unfold FindV; rw [if_pos (by omega), decide_eq_true (by omega)]
    rw [HFV.out]
    have hpes : x.p.es.length = x.es.length := List.length_map _
    have hm : x.e.m = x.es.length := hx.e.sl.len
    have hcl := clone_any (hx.ext hEw2) (by rw [hm, ← hpes]; exact validC_len HV.out)
    rw [HIDV.out x] at hcl
    have HKL := Lib.hid hklt
    clear hklt hpes hm
    go_wp2_with (first
      | (go_at_call 63; refine Hid.out ?_))
    refine Hid.mk_ ((hcl).mono ?_)
    rintro e w3 ⟨⟨y, rfl, hyp, hyO⟩, hE3⟩
    have HYP := Lib.hid hyp
    have hE03 := hE02.trans hE3
    have hEw3 := hEw2.trans hE3
    rw [HIDV.out y]
    clear hcl hyp
    have hyl : y.es.length = x.es.length := by have h9 := congrArg (fun c : Cp => c.es.length) HYP.out; simpa [Cat.p] using h9
    have hkm : k < y.e.m := by rw [hyO.own.len, hyl]; have h9 := HKL.out; rwa [show x.p.es.length = x.es.length from List.length_map _] at h9
    have hk9 : k < 17592186044416 := by have h9 := hyO.own.le; omega
    have hEal : Ext w3 (w3.alloc (Obj.cells #[.string y.tag, .slice y.c.A y.c.m y.c.c, .slice y.d.A y.d.m y.d.c, .slice y.e.A y.e.m y.e.c] 28)) := (Ext.refl _).alloc _
    have hbO := Blk.new w3 28 #[.string y.tag, .slice y.c.A y.c.m y.c.c, .slice y.d.A y.d.m y.d.c, .slice y.e.A y.e.m y.e.c]
    obtain ⟨gO, hgO⟩ : ∃ gO, gO = w3.heap.size := ⟨_, rfl⟩
    have HGO := Lib.hid hgO
    have hapO : ApartAll (some gO) y := hyO.ge_all (by rw [hgO]; exact Nat.le_refl _)
    have hyO4 := hyO.ext hEal
    have o3 : (w3.alloc (Obj.cells #[.string y.tag, .slice y.c.A y.c.m y.c.c, .slice y.d.A y.d.m y.d.c, .slice y.e.A y.e.m y.e.c] 28)).cell? ⟨gO, 3, none⟩ = some (.slice y.e.A y.e.m y.e.c) := by rw [hgO]; exact hbO.cell 3
    have hdel := deleteE_any hyO4.own k hkm
    have hr4 := hb1.below (hE03.trans hEal) hb1.lt
    have HYL := Lib.hid hyl
    have HEW4 : Hid (Ext w (w3.alloc (Obj.cells #[.string y.tag, .slice y.c.A y.c.m y.c.c, .slice y.d.A y.d.m y.d.c, .slice y.e.A y.e.m y.e.c] 28))) := hEw3.trans hEal
    clear hyl
    go_wp2_with (first
      | (go_at_call 64; refine Hid.out ?_))
    refine Hid.mk_ (hdel.mono ?_)
    rintro e w5 ⟨rfl, ho5, hg5⟩
    rw [← hgO] at hbO ⊢
    have hyD : CatO w5 w2.heap.size (y.withE (y.es.take k ++ y.es.drop (k + 1)) ⟨y.e.A, y.e.m - 1, y.e.c⟩) := hyO4.turn hg5 (e' := ⟨y.e.A, y.e.m - 1, y.e.c⟩) ho5 (NewOr.refl _ _) (fun z hz => .inl (by
      rcases List.mem_append.1 hz with h9 | h9
      · exact List.mem_of_mem_take h9
      · exact List.mem_of_mem_drop h9))
    have hneO : some gO ≠ ob y.e.A := fun e => by
      have h9 := hyO.own.lt gO e.symm
      have h8 := HGO.out
      omega
    have hg1l : g + 1 < w2.heap.size := by have h9 := hE02.size_le; have h8 := HSZ.out; have h7 := HG.out; omega
    have hne1 : some (g + 1) ≠ ob y.e.A := fun e => by
      have h9 := hyO.own.ge (g + 1) e.symm
      omega
    have hbO5 := hbO.grown hg5 hneO
    have hr5 := hr4.grown hg5 hne1
    have hsw2 := hEw2.size_le
    have HEW5 : Hid (Ext w w5) := HEW4.out.grown hg5 (fun j hj => by have h9 := hyO.own.ge j hj; omega)
    have d3 := hbO5.cell 3
    have f3 := hbO5.frozen 3
    have hbO6 := hbO5.set_ 3 (.slice y.e.A (y.e.m - 1) y.e.c)
    have hg1O : g + 1 ≠ gO := by have h9 := HGO.out; have h8 := hE3.size_le; omega
    have hr6 := hr5.far (p := ⟨gO, 3, none⟩) hg1O (.slice y.e.A (y.e.m - 1) y.e.c)
    have q0 : (w5.setCell ⟨gO, 3, none⟩ (.slice y.e.A (y.e.m - 1) y.e.c)).cell? ⟨gO, 0, none⟩ = some (.string y.tag) := hbO6.cell 0
    have q1 : (w5.setCell ⟨gO, 3, none⟩ (.slice y.e.A (y.e.m - 1) y.e.c)).cell? ⟨gO, 1, none⟩ = some (.slice y.c.A y.c.m y.c.c) := hbO6.cell 1
    have q2 : (w5.setCell ⟨gO, 3, none⟩ (.slice y.e.A (y.e.m - 1) y.e.c)).cell? ⟨gO, 2, none⟩ = some (.slice y.d.A y.d.m y.d.c) := hbO6.cell 2
    have q3 : (w5.setCell ⟨gO, 3, none⟩ (.slice y.e.A (y.e.m - 1) y.e.c)).cell? ⟨gO, 3, none⟩ = some (.slice y.e.A (y.e.m - 1) y.e.c) := hbO6.cell 3
    have s0 := hr6.cell 0
    have s1 := hr6.cell 1
    have s2 := hr6.cell 2
    have s3 := hr6.cell 3
    have t0 := hr6.frozen 0
    have t1 := hr6.frozen 1
    have t2 := hr6.frozen 2
    have t3 := hr6.frozen 3
    have HBR : Hid (Blk (w5.setCell ⟨gO, 3, none⟩ (.slice y.e.A (y.e.m - 1) y.e.c)) (g + 1) 28 _) := hr6
    have HYD : Hid (CatO (w5.setCell ⟨gO, 3, none⟩ (.slice y.e.A (y.e.m - 1) y.e.c)) w2.heap.size (y.withE (y.es.take k ++ y.es.drop (k + 1)) ⟨y.e.A, y.e.m - 1, y.e.c⟩)) := hyD.set_ (p := ⟨gO, 3, none⟩) ⟨hapO.1, hapO.2.1, hapO.2.2.1, fun z hz => hapO.2.2.2 z (by
      rcases List.mem_append.1 hz with h9 | h9
      · exact List.mem_of_mem_take h9
      · exact List.mem_of_mem_drop h9)⟩ _
    have HEW6 : Hid (Ext w (w5.setCell ⟨gO, 3, none⟩ (.slice y.e.A (y.e.m - 1) y.e.c))) := HEW5.out.set_ (p := ⟨gO, 3, none⟩) (by show w.heap.size ≤ gO; have h9 := HGO.out; have h8 := hEw3.size_le; omega) _
    have HR : Hid (RemR x.p id (y.withE (y.es.take k ++ y.es.drop (k + 1)) ⟨y.e.A, y.e.m - 1, y.e.c⟩).p 0) := .inr (.inr ⟨HV.out, k, HZ.out, HKL.out, rfl, by
      have h9 := HYP.out
      show Cp.mk _ _ _ _ = _
      rw [← h9]
      simp [Cat.p, Cat.withE, List.map_take, List.map_drop]⟩)
    have HL1 := Lib.hid hg1l
    have HSW := Lib.hid hsw2
    clear hr4 hr5 hr6 hbO hbO5 hyO4 hdel hbO6 hb0 hb1 X0 X1 X2 X3 hyO o3 hyD ho5 hapO hgO
    go_wp2
    refine bodyPost_ret (results_cell_row_tmp' rfl _ _ (g + 1) 28 #[.string y.tag, .slice y.c.A y.c.m y.c.c, .slice y.d.A y.d.m y.d.c, .slice y.e.A (y.e.m - 1) y.e.c] (0, 0) _ rfl ((((HBR.out.set_ 0 _).set_ 1 _).set_ 2 _).set_ 3 _) Tryd.underlying28 rfl info_cat4) rfl ?_
    refine ⟨⟨y.withE (y.es.take k ++ y.es.drop (k + 1)) ⟨y.e.A, y.e.m - 1, y.e.c⟩, 0, rfl, HR.out, ?_⟩, ?_⟩
    · refine CatO.mono ?_ HSW.out
      iterate 4 refine CatO.set_ ?_ (HYD.out.lt_all HL1.out) _
      exact HYD.out
    · iterate 4 refine Ext.set_ ?_ (by show w.heap.size ≤ g + 1; rw [HG.out]; omega) _
      exact HEW6.out
end

end Go.Proofs.YtikbjaopcminaaaDoor
