/- The program's Encode. -/
import Derived.Test.YtngpajaghadhdaaGreatDoorBinE
namespace Go.Proofs.YtngpajaghadhdaaGreatDoor
open Go.RowKit
set_option maxRecDepth 100000
attribute [local go_sem] ext_refl_t ext_alloc_t ext_drew_t ext_drewN_t ext_alloc2_t ext_alloc3_t ext_alloc4_t ext_alloc5_t ext_alloc6_t ext_alloc7_t ext_alloc8_t ext_alloc1d_t ext_alloc2d_t ext_alloc3d_t ext_alloc4d_t
/-- What Encode returns. -/
def EncR (c : Cp) (code : Int) (L : List UInt8) : Prop := (validC c = true ∧ code = 0 ∧ L = encC c) ∨ (validC c = false ∧ code = 1 ∧ L = [])
theorem rows_ne {α : Type} {cs : α → List Value} {e : TypeId} {w : World} {base base' k : Nat} {A B : Option Addr} {m c m' c' : Nat} {l : List α} {bs : List UInt8} (he : e ≠ 5) (h : OsC cs e k w base A m c l) (h' : OsB w base' B m' c' bs) : ob A = none ∨ ob A ≠ ob B := by
  rcases h.own.2 with ⟨hv, _⟩ | ⟨g, cap, cur, hv, _, hh, _⟩
  · injection hv with e1
    subst e1
    exact .inl rfl
  · injection hv with e1
    subst e1
    rcases h'.own.2 with ⟨hv', _⟩ | ⟨g', cap', cur', hv', _, hh', _⟩
    · injection hv' with e2
      subst e2
      exact .inr (by simp [ob])
    · injection hv' with e2
      subst e2
      refine .inr fun e9 => ?_
      simp only [ob, Option.map_some, Option.some.injEq] at e9
      subst e9
      rw [hh] at hh'
      injection hh' with hh'
      injection hh' with _ h9
      exact he h9
theorem rows_ne' {α : Type} {cs : α → List Value} {e : TypeId} {w : World} {base base' k : Nat} {A B : Option Addr} {m c m' c' : Nat} {l : List α} {bs : List UInt8} (he : e ≠ 5) (h : OsC cs e k w base A m c l) (h' : OsB w base' B m' c' bs) : ob B = none ∨ ob B ≠ ob A := by
  rcases rows_ne he h h' with h1 | h1
  · cases hB : ob B with
    | none => exact .inl rfl
    | some j => exact .inr (by rw [h1]; simp)
  · exact .inr fun e => h1 e.symm
theorem validC_nodup {c : Cp} (h : validC c = true) : (c.es.map Ep.id).Nodup := by
  unfold validC at h
  simp only [Bool.and_eq_true, decide_eq_true_eq] at h
  have h5 := h.2
  rw [List.Nodup, List.pairwise_iff_getElem]
  intro i j hi hj hij
  rw [List.getElem_map, List.getElem_map]
  exact (h5 j (by simpa using hj)).2 i hij
theorem recs_take (l : List Ep) (q : Nat) : (recsE (l.take q)).length ≤ (recsE l).length := by
  have : (recsE l).length = (recsE (l.take q)).length + (recsE (l.drop q)).length := by
    unfold recsE
    rw [← List.length_append, ← List.flatMap_append, List.take_append_drop]
  omega
section
variable {w : World}
set_option maxHeartbeats 12800000 in
theorem bencode_any {x : Cat} (hx : CatW w x) (hT : Tabs w) :
    Calls Tryz.prog 17 #[catV x] w fun e w' => (∃ A m c code L, e = .returned (.tuple #[.slice A m c, .int .i64 code]) ∧ OsB w' w.heap.size A m c L ∧ EncR x.p code L) ∧ Ext w w' := by
  have HIDV : Hid (∀ y : Cat, catV y = .agg #[.string y.tag, .slice y.c.A y.c.m y.c.c, .slice y.d.A y.d.m y.d.c, .slice y.e.A y.e.m y.e.c]) := fun _ => rfl
  rw [HIDV.out x]
  obtain ⟨W0, hW0⟩ : ∃ W0, W0 = w.alloc (Obj.cells #[.string x.tag, .slice x.c.A x.c.m x.c.c, .slice x.d.A x.d.m x.d.c, .slice x.e.A x.e.m x.e.c] 28) := ⟨_, rfl⟩
  have hb0 : Blk W0 w.heap.size 28 #[.string x.tag, .slice x.c.A x.c.m x.c.c, .slice x.d.A x.d.m x.d.c, .slice x.e.A x.e.m x.e.c] := by rw [hW0]; exact Blk.new w _ _
  have hE0 : Ext w W0 := by rw [hW0]; exact (Ext.refl w).alloc _
  obtain ⟨g, hg⟩ : ∃ g, g = w.heap.size := ⟨_, rfl⟩
  have hval := valid_any' (hx.ext hE0) (hT.ext hE0)
  rw [HIDV.out x] at hval
  go_enter Tryz.func17, Tryz.ntmps17
  go_wp2_with (first
    | (go_at_call 44; refine Hid.out ?_))
  rw [← hW0, ← hg]
  rw [← hg] at hb0
  have hsz0 := hE0.size_le
  refine Hid.mk_ (hval.mono ?_)
  rintro e w1 ⟨rfl, hE1⟩
  have X00 := laters (show W0.cell? ⟨g, 0, none⟩ = some (.string x.tag) from hb0.cell 0)
  have X01 := laters (show W0.cell? ⟨g, 1, none⟩ = some (.slice x.c.A x.c.m x.c.c) from hb0.cell 1)
  have X02 := laters (show W0.cell? ⟨g, 2, none⟩ = some (.slice x.d.A x.d.m x.d.c) from hb0.cell 2)
  have X03 := laters (show W0.cell? ⟨g, 3, none⟩ = some (.slice x.e.A x.e.m x.e.c) from hb0.cell 3)
  replace X00 := laters (X00 _ hE1)
  replace X01 := laters (X01 _ hE1)
  replace X02 := laters (X02 _ hE1)
  replace X03 := laters (X03 _ hE1)
  clear hW0 hg hval hb0
  have hE01 := hE0.trans hE1
  cases hv : validC x.p with
  | false =>
    have HR : Hid (EncR x.p 1 []) := .inr ⟨hv, rfl, rfl⟩
    clear hv
    go_wp2
    go_ret2
    exact ⟨⟨none, 0, 0, 1, [], rfl, OsB.nil_, HR.out⟩, hE01⟩
  | true =>
  have hsh := validC_short hv
  have HSH := Lib.hid hsh
  have HV := Lib.hid hv
  have z1 : x.tag.size ≤ 4000 := hsh.tag
  have z2 : (x.com.flatMap fun s => encS (bys s)).length ≤ 80180 := flat_short hsh.com
  have HFD : Hid (x.fd.length ≤ 20 ∧ ∀ f ∈ x.fd, f.1.size ≤ 4000 ∧ f.2.size ≤ 4000) := hsh.fd
  have HXL : Hid (x.e.m = x.es.length) := hx.e.sl.len
  have hxm : x.e.m ≤ 1000 := by have h1 := hsh.es.1; have h2 : x.p.es.length = x.es.length := List.length_map _; have h3 := HXL.out; omega
  clear hv hsh
  have hEd : Ext w1 w1.drew := (Ext.refl _).drew
  have hP1 : Hid (∀ W, Ext w1 W → Calls Tryz.prog 47 #[.slice none 0 0, .string x.tag] W fun e w' => ∃ A' m' c', e = .returned (.slice A' m' c') ∧ OsB w' W.heap.size A' m' c' ([] ++ encS (bys x.tag)) ∧ Ext W w') := fun W _ => packStr 0 x.tag SlB.nil_ (by omega)
  go_wp2_with fail
  go_region_held3 (fun w' => w'.cell? ⟨g, 0, none⟩ = some (.string x.tag) ∧ w'.cell? ⟨g, 1, none⟩ = some (.slice x.c.A x.c.m x.c.c) ∧ w'.cell? ⟨g, 2, none⟩ = some (.slice x.d.A x.d.m x.d.c))
    (exact ⟨X00 _ (by assumption), X01 _ (by assumption), X02 _ (by assumption)⟩)
    (first
      | (go_at_call 47; (with_reducible refine (hP1.out _ (by assumption)).mono ?_); rintro e w2 ⟨A2, m2, c2, rfl, ho2, hE2⟩; have hE12 : Ext w1 w2 := Ext.trans (by assumption) hE2; have hm2 : m2 ≤ 4009 := by (have h1 := ho2.len; have h3 := encS_len x.tag; rw [List.nil_append] at h1; omega))
      | (go_at_call 46; (with_reducible refine (packStrs c2 x.c.c ho2.sl (StrsW.sls_ (hx.c.ext (hE01.trans hE12))) (by omega)).mono ?_); rintro e w3 ⟨A3, m3, c3, rfl, ho3, hE3⟩; have hE13 : Ext w1 w3 := Ext.trans hE12 hE3; have hm3 : m3 ≤ m2 + 80200 := by (have h1 := ho3.len; have h2 := ho2.len; have h3 := encI_length_le (x.com.length : Int); simp only [List.length_append] at h1 h2; omega))
      | (go_at_call 45; (with_reducible refine (bfields_any ho3.sl (by omega) (HW.ext hx.d (hE01.trans hE13)) HFD.out).mono ?_); rintro e w4 ⟨A4, m4, c4, rfl, ho4, hE4⟩; have hE14 := hE13.trans hE4; have hm4 : m4 ≤ m3 + 160400 := by (have h1 := ho4.len; have h2 := ho3.len; have h3 := encF_le HFD.out; rw [List.length_append] at h1; omega))
      | fail)
  have hE04 := hE01.trans hE14
  have HO4 := Lib.hid ho4
  clear ho2 ho3 hP1 hEd hE12 hE13
  go_wp2_with (first
    | (go_at_call 48; refine Hid.out ?_))
  refine Hid.mk_ ((packInt c4 (x.e.m : Int) HO4.out.sl (by omega) (by omega) (by omega)).mono ?_)
  rintro e w5 ⟨A5, m5, c5, rfl, ho5, hE5⟩
  have HH : Hid ([] ++ encS (bys x.tag) ++ (encI x.com.length ++ x.com.flatMap fun s => encS (bys s)) ++ encF x.fd ++ encI (x.e.m : Int) = headE x.p) := by
    show _ = _
    rw [encL_map, List.nil_append, HXL.out, ← show x.p.es.length = x.es.length from List.length_map _]
    rfl
  rw [HH.out] at ho5
  have HO5 := Lib.hid ho5
  have HM5 : Hid (m5 = (headE x.p).length) := ho5.len
  have hm5 : m5 ≤ 300000 := by have h1 := headE_le HSH.out; have h2 := HM5.out; omega
  have hE15 := hE14.trans hE5
  have hE05 := hE04.trans hE5
  clear ho4 ho5 hE4 hE5
  obtain ⟨at0, hat0⟩ : ∃ at0 : Nat, at0 = 8 + m5 + 8 * x.e.m := ⟨_, rfl⟩
  have HPL : Hid (x.p.es.length = x.es.length) := List.length_map _
  have HAT : Hid (at0 = atE x.p) := by show _ = _; rw [hat0, HM5.out, HXL.out, ← HPL.out]; rfl
  have hati : (8 : Int) + (m5 : Int) + 8 * (x.e.m : Int) = (at0 : Int) := by omega
  have HATI := Lib.hid hati
  have HTOT : Hid (at0 + (recsE x.p.es).length = totE x.p) := by show _ = _; rw [HAT.out]; rfl
  have htot : at0 + (recsE x.p.es).length ≤ 400000000 := by rw [HTOT.out]; exact totE_le HSH.out
  clear hat0 hati
  go_wp2_with fail
  rw [HATI.out]
  go_loopw [6, 7, 9, 41] (fun s6 s7 _ i wr => ∃ (q : Nat) (A6 : Option Addr) (m6 c6 : Nat) (A7 : Option Addr) (m7 c7 : Nat) (O : List Nat) (R : List UInt8), q ≤ x.e.m ∧ i = .int .i64 q ∧ s6 = .slice A6 m6 c6 ∧ s7 = .slice A7 m7 c7 ∧ OsC natF 3 1 wr w5.heap.size A6 m6 c6 O ∧ OsB wr w5.heap.size A7 m7 c7 R ∧ Hid (O = (List.range q).map (offE x.p)) ∧ Hid (R = recsE (x.p.es.take q)) ∧ Ext w5 wr) (fun _ _ _ i _ => x.e.m - (intOf i).toNat)
  case atStart => exact ⟨0, none, 0, 0, none, 0, 0, [], [], Nat.zero_le _, rfl, rfl, rfl, OsC.nil_ natF_len natF_cell, OsB.nil_, Lib.hid rfl, Lib.hid rfl, Ext.refl _⟩
  case round =>
    obtain ⟨q, A6, m6, c6, A7, m7, c7, O, R, hq, rfl, rfl, rfl, ho6, ho7, HO, HR, hE⟩ := hrel
    have hE0r := hE05.trans hE
    have hm6 : m6 ≤ 1000 := by have h1 := ho6.len; rw [HO.out, List.length_map, List.length_range] at h1; omega
    have HM7 : Hid (m7 = (recsE (x.p.es.take q)).length) := by show _ = _; rw [ho7.len, HR.out]
    have hm7 : at0 + m7 ≤ 400000000 := by have h1 := HM7.out; have h2 := recs_take x.p.es q; omega
    by_cases hlt : q < x.e.m
    · have hi1 : (q : Int) < (x.e.m : Int) := by omega
      have hql : q < x.es.length := by rw [← HXL.out]; exact hlt
      obtain ⟨eb1, eo1, eA1, _, hcs1⟩ := ((hx.e.sl.ext hE0r)).at_ hlt (by omega)
      obtain ⟨v1, hv1⟩ : ∃ v, v = x.es[q]'hql := ⟨_, rfl⟩
      have q10 := hcs1 q hql 0 (by omega)
      have q11 := hcs1 q hql 1 (by omega)
      have q12 := hcs1 q hql 2 (by omega)
      have q13 := hcs1 q hql 3 (by omega)
      have q14 := hcs1 q hql 4 (by omega)
      have q15 := hcs1 q hql 5 (by omega)
      have q16 := hcs1 q hql 6 (by omega)
      simp only [← hv1, entC, List.getElem_cons_zero, List.getElem_cons_succ, Nat.add_zero, ← Nat.add_assoc] at q10 q11 q12 q13 q14 q15 q16
      have Z10 := laters q10
      have Z11 := laters q11
      have Z12 := laters q12
      have Z13 := laters q13
      have Z14 := laters q14
      have Z15 := laters q15
      have Z16 := laters q16
      have HVN1 := Lib.hid hv1
      clear hcs1 q10 q11 q12 q13 q14 q15 q16 hv1
      have EA1 := Lib.hid eA1
      have hv1W : EntW w v1 := by rw [HVN1.out]; exact hx.e.good _ (List.getElem_mem hql)
      have HVP : Hid (∀ h : q < x.p.es.length, v1.p = x.p.es[q]'h) := fun h => by rw [HVN1.out]; exact (List.getElem_map ..).symm
      have hvs : Short v1.p := by rw [HVP.out (by rw [HPL.out]; exact hql)]; exact HSH.out.es.2 _ (List.getElem_mem _)
      have HVS := Lib.hid hvs
      obtain ⟨wB, hwB⟩ : ∃ wB, wB = wr.alloc (Obj.cells #[.string v1.p.id, .string v1.p.src, .string v1.p.tgt, .slice v1.c.A v1.c.m v1.c.c, .slice v1.f.A v1.f.m v1.f.c, .int .i64 v1.p.st, .slice v1.d.A v1.d.m v1.d.c] 37) := ⟨_, rfl⟩
      have hbB : Blk wB wr.heap.size 37 #[.string v1.p.id, .string v1.p.src, .string v1.p.tgt, .slice v1.c.A v1.c.m v1.c.c, .slice v1.f.A v1.f.m v1.f.c, .int .i64 v1.p.st, .slice v1.d.A v1.d.m v1.d.c] := by rw [hwB]; exact Blk.new wr _ _
      have hEB : Ext wr wB := by rw [hwB]; exact (Ext.refl _).alloc _
      have hszB : wB.heap.size = wr.heap.size + 1 := by rw [hwB]; simp
      obtain ⟨gB, hgB⟩ : ∃ gB, gB = wr.heap.size := ⟨_, rfl⟩
      have hnew : SlC natF 1 (wB.alloc (Obj.cells #[.int .i64 ((at0 : Int) + (m7 : Int))] 3)) (some ⟨gB + 1, 0, none⟩) 1 [at0 + m7] := by
        have h9 := SlC.new_ (cs := natF) wB [at0 + m7] natF_len (by simp) #[.int .i64 ((at0 : Int) + (m7 : Int))] (by simp [natF]) (0, 0) 1 rfl 3
        rw [hszB, ← hgB] at h9
        exact h9
      have hEa : Ext wB (wB.alloc (Obj.cells #[.int .i64 ((at0 : Int) + (m7 : Int))] 3)) := (Ext.refl _).alloc _
      have hbA := hbB.below hEa hbB.lt
      have hne6 : some wr.heap.size ≠ ob A6 := fun e => by have := ho6.lt _ e.symm; omega
      have hEra := hEB.trans hEa
      have hbase := Nat.le_trans hE.size_le hEra.size_le
      go_wp2_with (first
        | (at_builtin; refine Hid.out ?_))
      rw [← hwB, ← hgB]
      clear eA1
      rw [← hgB] at hbA hne6
      clear hbB
      refine Hid.mk_ ?_
      refine appC einfo_int rfl _ _ rfl (ho6.ext hEra) rfl hnew rfl (by omega) hbase ?_
      intro A8 m8 c8 w2 ho8 hg8 hat8
      have hb2 := hbA.grown hg8 hne6
      have hE52 : Ext w5 w2 := (hE.trans hEra).grown hg8 ho6.ge
      have hr7 := rows_ne' (by decide) ho6 ho7
      have ho7' := (ho7.ext hEra).kept hg8 hr7
      have Q0 := laters (show w2.cell? ⟨gB, 0, none⟩ = some (.string v1.p.id) from hb2.cell 0)
      have Q1 := laters (show w2.cell? ⟨gB, 1, none⟩ = some (.string v1.p.src) from hb2.cell 1)
      have Q2 := laters (show w2.cell? ⟨gB, 2, none⟩ = some (.string v1.p.tgt) from hb2.cell 2)
      have Q3 := laters (show w2.cell? ⟨gB, 3, none⟩ = some (.slice v1.c.A v1.c.m v1.c.c) from hb2.cell 3)
      have Q4 := laters (show w2.cell? ⟨gB, 4, none⟩ = some (.slice v1.f.A v1.f.m v1.f.c) from hb2.cell 4)
      have Q5 := laters (show w2.cell? ⟨gB, 5, none⟩ = some (.int .i64 v1.p.st) from hb2.cell 5)
      have Q6 := laters (show w2.cell? ⟨gB, 6, none⟩ = some (.slice v1.d.A v1.d.m v1.d.c) from hb2.cell 6)
      have HIDE : Hid (entV v1 = .agg #[.string v1.p.id, .string v1.p.src, .string v1.p.tgt, .slice v1.c.A v1.c.m v1.c.c, .slice v1.f.A v1.f.m v1.f.c, .int .i64 v1.p.st, .slice v1.d.A v1.d.m v1.d.c]) := rfl
      have hrec := brecord_any (hv1W.ext (hE05.trans hE52)) HVS.out
      rw [HIDE.out] at hrec
      clear hbA hb2 hne6 hEra hEa hnew hwB hszB hgB hEB hbase hvs
      go_wp2_with (first
        | (go_at_call 49; refine Hid.out ?_))
      refine Hid.mk_ ((hrec).mono ?_)
      rintro e w3 ⟨A9, m9, c9, rfl, ho9, hE3⟩
      have hm9 : m9 ≤ 340000 := by rw [ho9.len]; exact recE_le HVS.out
      clear hrec
      go_wp2_with (first
        | (at_builtin; refine Hid.out ?_))
      refine Hid.mk_ ?_
      refine appB rfl _ _ rfl (ho7'.ext hE3) rfl ho9.sl rfl (by omega) (Nat.le_trans hE52.size_le hE3.size_le) ?_
      intro Aa ma ca w4a hoa hga hata
      have hr8 := rows_ne (by decide) ho8 ho7'
      have ho8' := (ho8.ext hE3).kept hga hr8
      have hE54 : Ext w5 w4a := (hE52.trans hE3).grown hga ho7.ge
      have HO2 : Hid (O ++ [at0 + m7] = (List.range (q + 1)).map (offE x.p)) := by
        show _ = _
        rw [List.range_succ, List.map_append, HO.out, HM7.out, HAT.out]
        rfl
      have HR2 : Hid (R ++ recE v1.p = recsE (x.p.es.take (q + 1))) := by
        show _ = _
        have h9 : q < x.p.es.length := by rw [HPL.out]; exact hql
        rw [List.take_succ_eq_append_getElem h9, HR.out, HVP.out h9]
        unfold recsE
        rw [List.flatMap_append]
        simp
      go_wp2
      go_roundw
      case rel => exact ⟨q + 1, A8, m8, c8, Aa, ma, ca, _, _, by omega, by go_num, rfl, rfl, ho8', hoa, HO2, HR2, hE54⟩
      case measure => simp [intOf]; omega
    · have hi1 : ¬ (q : Int) < (x.e.m : Int) := by omega
      have hqe : q = x.e.m := by omega
      have HR' : Hid (R = recsE x.p.es) := by show _ = _; rw [HR.out, List.take_of_length_le (by rw [HPL.out, ← HXL.out, hqe]; exact Nat.le_refl _)]
      have HO' : Hid (O = (List.range x.p.es.length).map (offE x.p)) := by show _ = _; rw [HO.out, hqe, HXL.out, HPL.out]
      clear HR HO hqe hq
      have HTT : Hid (at0 + m7 = totE x.p) := by show _ = _; rw [ho7.len, HR'.out]; exact HTOT.out
      have HM6 : Hid (m6 = x.p.es.length) := by show _ = _; rw [ho6.len, HO'.out, List.length_map, List.length_range]
      obtain ⟨wM, hwM⟩ : ∃ wM, wM = wr.alloc (Obj.cells #[.int .u8 67, .int .u8 81, .int .u8 66, .int .u8 49] 5 (4, 5)) := ⟨_, rfl⟩
      obtain ⟨gM, hgM⟩ : ∃ gM, gM = wr.heap.size := ⟨_, rfl⟩
      have hoM : SlB wM (some ⟨gM, 0, none⟩) 4 magicB := by rw [hwM, hgM]; exact magic_sl wr (4, 5)
      have hEM : Ext wr wM := by rw [hwM]; exact (Ext.refl _).alloc _
      have hszM : wM.heap.size = gM + 1 := by rw [hwM, hgM]; simp
      have hnewT : SlC natF 1 (wM.alloc (Obj.cells #[.int .i64 ((at0 : Int) + (m7 : Int))] 3)) (some ⟨gM + 1, 0, none⟩) 1 [at0 + m7] := by
        have h9 := SlC.new_ (cs := natF) wM [at0 + m7] natF_len (by simp) #[.int .i64 ((at0 : Int) + (m7 : Int))] (by simp [natF]) (0, 0) 1 rfl 3
        rw [hszM] at h9
        exact h9
      have hET : Ext wM (wM.alloc (Obj.cells #[.int .i64 ((at0 : Int) + (m7 : Int))] 3)) := (Ext.refl _).alloc _
      have hfour := four1_any (d := 1) (hoM.ext hET) (by omega) hnewT (by omega) (by omega)
      have HGM := Lib.hid hgM
      have hErT := hEM.trans hET
      have hcv := magic_conv wr
      go_wp2_with (first
        | (go_at_call 50; refine Hid.out ?_))
      rw [← hwM, ← hgM]
      refine Hid.mk_ (hfour.mono ?_)
      clear hfour hnewT hwM hgM hszM hoM hcv
      rintro e wF ⟨⟨AF, mF, cF, rfl, hoF⟩, hEF'⟩
      have hEF : Ext wr wF := hErT.trans hEF'
      have hgeF : ∀ k, ob AF = some k → gM ≤ k := fun k hk => by have h9 := hoF.ge k hk; have h8 := hErT.size_le; rw [HGM.out]; omega
      have hmF : mF = 8 := by rw [hoF.len]; rfl
      have hbF : gM ≤ wF.heap.size := by rw [HGM.out]; exact hEF.size_le
      have HMF := Lib.hid hmF
      clear hmF
      go_wp2_with (first
        | (at_builtin; refine Hid.out ?_))
      refine Hid.mk_ ?_
      refine appB rfl _ _ rfl (hoF.mono (base' := gM) (by have h8 := hErT.size_le; rw [HGM.out]; omega)) rfl (HO5.out.sl.ext (hE.trans hEF)) rfl (by have := HMF.out; omega) hbF ?_
      intro AG mG cG wG hoG hgG hatG
      have hEG : Ext wr wG := hEF.grown hgG (fun k hk => by have h9 := hgeF k hk; rw [HGM.out] at h9; exact h9)
      have hE5G := hE.trans hEG
      have hE1G := hE15.trans hE5G
      have hE0G := hE05.trans hE5G
      have hord := border_any (hx.ext hE0G) hxm (validC_nodup HV.out)
      rw [HIDV.out x] at hord
      clear hgG hatG hEM hErT hET hEF'
      go_wp2_with (first
        | (go_at_call 38; refine Hid.out ?_))
      refine Hid.mk_ ((hord).mono ?_)
      rintro e wH ⟨⟨AS, mS, cS, rfl, hsS, hfS⟩, hEH⟩
      have HMS : Hid (mS = x.p.es.length) := by show _ = _; rw [hsS.len, sortE_len]
      have hErH := hEG.trans hEH
      have hoH := hoG.ext hEH
      have hoO := ho6.ext hErH
      have hoR := ho7.ext hErH
      have hapS : ob AS = none ∨ ob AS ≠ ob AG := by
        cases hA : ob AS with
        | none => exact .inl rfl
        | some k => exact .inr (fun e => by have h1 := hfS k hA; have h2 := hoG.lt k e.symm; omega)
      have hapO := rows_ne (by decide) hoO hoH
      have hapR : ob A7 = none ∨ ob A7 ≠ ob AG := by
        cases hA : ob A7 with
        | none => exact .inl rfl
        | some k => exact .inr (fun e => by have h1 := ho7.lt k hA; have h2 := hoG.ge k e.symm; rw [HGM.out] at h2; omega)
      have HPRE : Hid (magicB ++ fourB (at0 + m7) ++ headE x.p = magicB ++ fourB (totE x.p) ++ headE x.p) := by show _ = _; rw [HTT.out]
      rw [HPRE.out] at hoH
      have hmG : mG = 8 + m5 := by rw [hoG.len, List.length_append, ← HM5.out]; rfl
      have HMG := Lib.hid hmG
      have hmS : mS ≤ 1000 := by have h1 := HMS.out; have h2 := HSH.out.es.1; omega
      have hbH : gM ≤ wH.heap.size := by rw [HGM.out]; exact hErH.size_le
      clear hord hmG hoG
      go_wp2
      go_loopw [10, 12, 71] (fun s10 _ i wr => ∃ (q : Nat) (A : Option Addr) (m c : Nat) (L : List UInt8), q ≤ mS ∧ i = .int .i64 q ∧ s10 = .slice A m c ∧ OsB wr gM A m c L ∧ Hid (L = magicB ++ fourB (totE x.p) ++ headE x.p ++ ((sortE x.p.es).take q).flatMap (fun i => fourB i ++ fourB (offE x.p i))) ∧ Hid (m = 8 + m5 + 8 * q) ∧ wH.grownBy wr (ob AG) ∧ NewOr wH.heap.size (ob AG) (ob A)) (fun _ _ i _ => mS - (intOf i).toNat)
      case atStart => exact ⟨0, AG, mG, cG, _, Nat.zero_le _, rfl, rfl, hoH, by show _ = _; simp, by show _ = _; rw [HMG.out]; omega, World.grownBy.refl _ _, NewOr.refl _ _⟩
      case round =>
        obtain ⟨q2, A, m, c, L, hq2, rfl, rfl, hoQ, HL, HMm, hgw, hN⟩ := hrel
        have hm9 : m ≤ 1000000 := by have := HMm.out; omega
        have hwq := hgw.size
        by_cases hlt2 : q2 < mS
        · have hi2 : (q2 : Int) < (mS : Int) := by omega
          obtain ⟨b2, off2, e2, hbl2, hcs2⟩ := (hsS.kept hgw hapS).at_ hlt2 (by omega)
          have E2 := Lib.hid e2
          have hq2l : q2 < (sortE x.p.es).length := by rw [sortE_len, ← HMS.out]; exact hlt2
          obtain ⟨p, hp⟩ : ∃ p, p = (sortE x.p.es)[q2] := ⟨_, rfl⟩
          have hpl : p < x.p.es.length := by rw [hp]; exact sortE_lt (List.getElem_mem _)
          have y0 := hcs2 q2 hq2l 0 (by omega)
          simp only [← hp, natF, List.getElem_cons_zero, Nat.mul_one, Nat.add_zero] at y0
          have hpm : p < m6 := by rw [HM6.out]; exact hpl
          obtain ⟨b3, off3, e3, hbl3, hcs3⟩ := (hoO.kept hgw hapO).sl.at_ hpm (by omega)
          have E3 := Lib.hid e3
          have hpO : p < O.length := by rw [← ho6.len]; exact hpm
          have u0 := hcs3 p hpO 0 (by omega)
          have hOp : O[p] = offE x.p p := by simp only [HO'.out, List.getElem_map, List.getElem_range]
          simp only [hOp, natF, List.getElem_cons_zero, Nat.mul_one, Nat.add_zero] at u0
          have hoff : offE x.p p ≤ 400000000 := Nat.le_trans (offE_le _ _) (totE_le HSH.out)
          obtain ⟨of, hof⟩ : ∃ of, of = offE x.p p := ⟨_, rfl⟩
          rw [← hof] at u0 hoff
          have HOF := Lib.hid hof
          have HP := Lib.hid hp
          have hpi : (p : Int) < (m6 : Int) := by omega
          have hp1000 : p ≤ 1000 := by have := HSH.out.es.1; omega
          clear hcs2 hcs3 hof hp hOp
          have hEa2 : Ext wr (wr.alloc (Obj.cells #[.int .i64 (p : Int), .int .i64 (of : Int)] 3)) := (Ext.refl _).alloc _
          have hnew2 : SlC natF 1 (wr.alloc (Obj.cells #[.int .i64 (p : Int), .int .i64 (of : Int)] 3)) (some ⟨wr.heap.size, 0, none⟩) 2 [p, of] := SlC.new_ (cs := natF) wr [p, of] natF_len (by simp) _ rfl (0, 0) 2 rfl 3
          have hf2 := four_any (d := 2) (hoQ.ext hEa2) hnew2 (.inr (fun e => absurd (hoQ.lt _ e.symm) (Nat.lt_irrefl _))) (fun j hj => by simp only [ob, Option.map_some, Option.some.injEq] at hj; simp; omega) (fun n hn => by simp only [List.mem_cons, List.not_mem_nil, or_false] at hn; omega) (by omega) (by omega) (Nat.le_trans hbH (Nat.le_trans hwq hEa2.size_le))
          go_wp2_with (first
            | (go_at_call 50; refine Hid.out ?_))
          clear e2 e3
          refine Hid.mk_ (hf2.mono ?_)
          rintro e wz ⟨⟨Az, mz, cz, rfl, hoZ, hNZ⟩, hgZ⟩
          have HMz : Hid (mz = 8 + m5 + 8 * (q2 + 1)) := by
            show _ = _
            have h1 := hoZ.len
            have h2 := hoQ.len
            have h3 := HMm.out
            rw [List.length_append] at h1
            have h4 : ([p, of].flatMap fourB).length = 8 := rfl
            omega
          have HLz : Hid (L ++ [p, of].flatMap fourB = magicB ++ fourB (totE x.p) ++ headE x.p ++ ((sortE x.p.es).take (q2 + 1)).flatMap (fun i => fourB i ++ fourB (offE x.p i))) := by
            show _ = _
            rw [List.take_succ_eq_append_getElem hq2l, List.flatMap_append, ← HP.out, HL.out, ← List.append_assoc]
            simp [HOF.out]
          have hgz : wH.grownBy wz (ob AG) := grown_step (grown_step hgw (hEa2.grownBy none) (fun k hk => by cases hk)) hgZ hN
          have hNz : NewOr wH.heap.size (ob AG) (ob Az) := hN.trans (hNZ.mono hEa2.size_le) hwq
          clear hf2 hnew2 hEa2 y0 u0
          go_wp2
          go_roundw
          case rel => exact ⟨q2 + 1, Az, mz, cz, _, by omega, by go_num, rfl, hoZ, HLz, HMz, hgz, hNz⟩
          case measure => simp [intOf]; omega
        · have hi2 : ¬ (q2 : Int) < (mS : Int) := by omega
          have hqS : q2 = mS := by omega
          have HLf : Hid (L = magicB ++ fourB (totE x.p) ++ headE x.p ++ dirE x.p) := by
            show _ = _
            rw [HL.out, List.take_of_length_le (by rw [sortE_len, ← HMS.out, hqS]; exact Nat.le_refl _)]
            rfl
          have HRf : Hid (EncR x.p 0 (L ++ R)) := .inl ⟨HV.out, rfl, by rw [HLf.out, HR'.out]; rfl⟩
          have hEwq : Ext w wr := (hE05.trans (hE.trans hErH)).grown hgw (fun k hk => by have h9 := hoH.ge k hk; have h8 := hE05.size_le; have h7 := hE.size_le; rw [HGM.out] at h9; omega)
          have hwg : w.heap.size ≤ gM := by rw [HGM.out]; exact Nat.le_trans hE05.size_le hE.size_le
          clear hqS
          go_wp2_with (first
            | (at_builtin; refine Hid.out ?_))
          refine Hid.mk_ ?_
          refine appB rfl _ _ rfl hoQ rfl (hoR.kept hgw hapR).sl rfl (by omega) (Nat.le_trans hbH hwq) ?_
          intro Ae me ce we hoe hge hate
          have HEw : Hid (Ext w we) := hEwq.grown hge (fun k hk => Nat.le_trans hwg (hoQ.ge k hk))
          have HOE := Lib.hid hoe
          clear hoe hge hate
          go_wp2
          go_ret2
          exact ⟨⟨Ae, me, ce, 0, _, rfl, HOE.out.mono hwg, HRf.out⟩, HEw.out⟩
end
end Go.Proofs.YtngpajaghadhdaaGreatDoor
