/- The reference's Encode. -/
import Derived.Test.YtngpajaghadhdaaGreatDoorBinRS
import Derived.Test.YtngpajaghadhdaaGreatDoorBinEn
import Derived.Test.YtngpajaghadhdaaGreatDoorRVal
namespace Go.Proofs.YtngpajaghadhdaaGreatDoor
open Go.RowKit
set_option maxRecDepth 100000
attribute [local go_sem] ext_refl_t ext_alloc_t ext_drew_t ext_drewN_t ext_alloc2_t ext_alloc3_t ext_alloc4_t ext_alloc5_t ext_alloc6_t ext_alloc7_t ext_alloc8_t ext_alloc1d_t ext_alloc2d_t ext_alloc3d_t ext_alloc4d_t
theorem nat_kept {w : World} {A : Option Addr} {m : Nat} {l : List Nat} {r : Option Nat} (hs : SlC natF 1 w A m l) (hap : ob A = none ∨ ob A ≠ r) {q b off : Nat} (hq : q < m) (e : A = some ⟨b, off, none⟩) (hql : q < l.length) : ∀ W : World, w.grownBy W r → W.cell? ⟨b, off + q, none⟩ = some (.int .i64 (l[q] : Int)) := fun W h => by
  obtain ⟨b', off', e', _, hcs⟩ := (hs.kept h hap).at_ hq (by omega)
  rw [e] at e'
  injection e' with e'
  injection e' with h1 h2
  subst h1 h2
  have h9 := hcs q hql 0 (by omega)
  simpa [natF] using h9
section
variable {w : World}
set_option maxHeartbeats 12800000 in
theorem rencode_any {x : Cat} (hx : CatW w x) :
    Calls Tryz.prog 33 #[catV x] w fun e w' => (∃ A m c code L, e = .returned (.tuple #[.slice A m c, .int .i64 code]) ∧ OsB w' w.heap.size A m c L ∧ EncR x.p code L) ∧ Ext w w' := by
  have HIDV : Hid (∀ y : Cat, catV y = .agg #[.string y.tag, .slice y.c.A y.c.m y.c.c, .slice y.d.A y.d.m y.d.c, .slice y.e.A y.e.m y.e.c]) := fun _ => rfl
  rw [HIDV.out x]
  obtain ⟨W0, hW0⟩ : ∃ W0, W0 = w.alloc (Obj.cells #[.string x.tag, .slice x.c.A x.c.m x.c.c, .slice x.d.A x.d.m x.d.c, .slice x.e.A x.e.m x.e.c] 28) := ⟨_, rfl⟩
  have hb0 : Blk W0 w.heap.size 28 #[.string x.tag, .slice x.c.A x.c.m x.c.c, .slice x.d.A x.d.m x.d.c, .slice x.e.A x.e.m x.e.c] := by rw [hW0]; exact Blk.new w _ _
  have hE0 : Ext w W0 := by rw [hW0]; exact (Ext.refl w).alloc _
  obtain ⟨g, hg⟩ : ∃ g, g = w.heap.size := ⟨_, rfl⟩
  have hval := rvalid_any (hx.ext hE0)
  rw [HIDV.out x] at hval
  go_enter Tryz.func33, Tryz.ntmps33
  go_wp2_with (first
    | (go_at_call 59; refine Hid.out ?_))
  rw [← hW0, ← hg]
  rw [← hg] at hb0
  have hsz0 := hE0.size_le
  refine Hid.mk_ (hval.mono ?_)
  rintro e w1 ⟨rfl, hE1⟩
  have X00 := laters (show W0.cell? ⟨g, 0, none⟩ = some (.string x.tag) from hb0.cell 0)
  have X01 := laters (show W0.cell? ⟨g, 1, none⟩ = some (.slice x.c.A x.c.m x.c.c) from hb0.cell 1)
  have X02 := laters (show W0.cell? ⟨g, 2, none⟩ = some (.slice x.d.A x.d.m x.d.c) from hb0.cell 2)
  have X03 := laters (show W0.cell? ⟨g, 3, none⟩ = some (.slice x.e.A x.e.m x.e.c) from hb0.cell 3)
  replace X00 := laters (X00 _ hE1)
  replace X01 := laters (X01 _ hE1)
  replace X02 := laters (X02 _ hE1)
  replace X03 := laters (X03 _ hE1)
  clear hW0 hg hval hb0
  have hE01 := hE0.trans hE1
  cases hv : validC x.p with
  | false =>
    have HR : Hid (EncR x.p 1 []) := .inr ⟨hv, rfl, rfl⟩
    clear hv
    go_wp2
    go_ret2
    exact ⟨⟨none, 0, 0, 1, [], rfl, OsB.nil_, HR.out⟩, hE01⟩
  | true =>
  have hsh := validC_short hv
  have HSH := Lib.hid hsh
  have HV := Lib.hid hv
  have z1 : x.tag.size ≤ 4000 := hsh.tag
  have z2 : (x.com.flatMap fun s => encS (bys s)).length ≤ 80180 := flat_short hsh.com
  have HFD : Hid (x.fd.length ≤ 20 ∧ ∀ f ∈ x.fd, f.1.size ≤ 4000 ∧ f.2.size ≤ 4000) := hsh.fd
  have HXL : Hid (x.e.m = x.es.length) := hx.e.sl.len
  have hxm : x.e.m ≤ 1000 := by have h1 := hsh.es.1; have h2 : x.p.es.length = x.es.length := List.length_map _; have h3 := HXL.out; omega
  have HC : Hid (x.com.length ≤ 20) := hsh.com.1
  clear hv hsh
  have hEd : Ext w1 w1.drew := (Ext.refl _).drew
  have hbQw : w1.heap.size ≤ w1.drew.heap.size := Nat.le_refl _
  have ez := encS_le z1
  have ei := encI_length_le (x.com.length : Int)
  have ef := encF_le HFD.out
  have en := encI_length_le (x.e.m : Int)
  go_wp2_with fail
  go_region_held3 (fun w' => w'.cell? ⟨g, 0, none⟩ = some (.string x.tag) ∧ w'.cell? ⟨g, 1, none⟩ = some (.slice x.c.A x.c.m x.c.c) ∧ w'.cell? ⟨g, 2, none⟩ = some (.slice x.d.A x.d.m x.d.c))
    (exact ⟨X00 _ (by assumption), X01 _ (by assumption), X02 _ (by assumption)⟩)
    (first
      | (refine step_appB rfl _ _ rfl (ho5.ext hE6) rfl ho6.sl rfl (by have h1 := ho5.len; have h2 := ho6.len; simp only [List.length_append] at h1; omega) (Nat.le_trans (Nat.le_trans (Nat.le_trans hE3.size_le hE4.size_le) hg5.size) hE6.size_le) ?_; intro A7 m7 c7 w7 ho7 hg7 hat7; have hE07 : Ext w1 w7 := Ext.grown hE06 hg7 (fun k hk => Nat.le_trans hbQw (ho5.ge k hk)); have hsz7 : w1.heap.size ≤ w7.heap.size := hE07.size_le)
      | (refine step_appB rfl _ _ rfl (ho3.ext hE4) rfl ho4.sl rfl (by have h1 := ho3.len; have h2 := ho4.len; simp only [List.length_append] at h2; omega) (Nat.le_trans hE3.size_le hE4.size_le) ?_; intro A5 m5 c5 w5 ho5 hg5 hat5; have hE05 : Ext w1 w5 := Ext.grown hE14 hg5 (fun k hk => Nat.le_trans hbQw (ho3.ge k hk)))
      | (go_at_call 60; (with_reducible refine (refStr x.tag (by omega)).mono ?_); rintro e w3 ⟨A3, m3, c3, rfl, ho3, hE3⟩; have hE13 : Ext w1 w3 := Ext.trans (by assumption) hE3)
      | (go_at_call 61; (with_reducible refine (refStrs x.c.c (StrsW.sls_ (hx.c.ext (hE01.trans hE13))) (by omega)).mono ?_); rintro e w4 ⟨A4, m4, c4, rfl, ho4, hE4⟩; have hE14 := hE13.trans hE4)
      | (go_at_call 62; (with_reducible refine (rfields_any4 (hf := (HW.ext hx.d (hE01.trans hE05)).sl) HFD.out).mono ?_); rintro e w6 ⟨A6, m6, c6, rfl, ho6, hE6⟩; have hE06 := hE05.trans hE6)
      | fail)
  have hm7 : m7 ≤ 300000 := by have h1 := ho7.len; simp only [List.length_append] at h1; omega
  have HO7 := Lib.hid ho7
  clear ho3 ho4 ho5 ho6 ho7 hE3 hE4 hE6 hE13 hE14 hE05 hE06 hg5 hg7 hat5 hat7 hEd
  go_wp2_with (first
    | (go_at_call 63; refine Hid.out ?_))
  refine Hid.mk_ ((refInt (x.e.m : Int) (by omega) (by omega)).mono ?_)
  rintro e w8 ⟨A8, m8, c8, rfl, ho8, hE8⟩
  have hm8 : m8 ≤ 9 := by have h1 := ho8.len; omega
  go_wp2_with (first
    | (at_builtin; refine Hid.out ?_))
  refine Hid.mk_ ?_
  refine appB rfl _ _ rfl (HO7.out.ext hE8) rfl ho8.sl rfl (by omega) (Nat.le_trans hsz7 hE8.size_le) ?_
  intro A5 m5 c5 w5 ho5 hg5 hat5
  have HH : Hid (encS (bys x.tag) ++ (encI x.com.length ++ x.com.flatMap fun s => encS (bys s)) ++ encF x.fd ++ encI (x.e.m : Int) = headE x.p) := by
    show _ = _
    rw [encL_map, HXL.out, ← show x.p.es.length = x.es.length from List.length_map _]
    rfl
  rw [HH.out] at ho5
  have HO5 := Lib.hid ho5
  have HM5 : Hid (m5 = (headE x.p).length) := ho5.len
  have hm5 : m5 ≤ 300000 := by have h1 := headE_le HSH.out; have h2 := HM5.out; omega
  have hE15 : Ext w1 w5 := (hE07.trans hE8).grown hg5 (fun k hk => HO7.out.ge k hk)
  have hE05 := hE01.trans hE15
  clear ho8 ho5 hE8 hg5 hat5 hE07 hsz7 hm7 hm8 ez ei ef en
  obtain ⟨at0, hat0⟩ : ∃ at0 : Nat, at0 = 8 + m5 + 8 * x.e.m := ⟨_, rfl⟩
  have HPL : Hid (x.p.es.length = x.es.length) := List.length_map _
  have HAT : Hid (at0 = atE x.p) := by show _ = _; rw [hat0, HM5.out, HXL.out, ← HPL.out]; rfl
  have hati : (8 : Int) + (m5 : Int) + 8 * (x.e.m : Int) = (at0 : Int) := by omega
  have HATI := Lib.hid hati
  have HTOT : Hid (at0 + (recsE x.p.es).length = totE x.p) := by show _ = _; rw [HAT.out]; rfl
  have htot : at0 + (recsE x.p.es).length ≤ 400000000 := by rw [HTOT.out]; exact totE_le HSH.out
  clear hat0 hati
  go_wp2_with fail
  rw [HATI.out]
  go_loopw [6, 7, 8] (fun s6 s7 i wr => ∃ (q : Nat) (A6 : Option Addr) (m6 c6 : Nat) (A7 : Option Addr) (m7 c7 : Nat) (O : List Nat) (R : List UInt8), q ≤ x.e.m ∧ i = .int .i64 q ∧ s6 = .slice A6 m6 c6 ∧ s7 = .slice A7 m7 c7 ∧ OsC natF 3 1 wr w5.heap.size A6 m6 c6 O ∧ OsB wr w5.heap.size A7 m7 c7 R ∧ Hid (O = (List.range q).map (offE x.p)) ∧ Hid (R = recsE (x.p.es.take q)) ∧ Ext w5 wr) (fun _ _ i _ => x.e.m - (intOf i).toNat)
  case atStart => exact ⟨0, none, 0, 0, none, 0, 0, [], [], Nat.zero_le _, rfl, rfl, rfl, OsC.nil_ natF_len natF_cell, OsB.nil_, Lib.hid rfl, Lib.hid rfl, Ext.refl _⟩
  case round =>
    obtain ⟨q, A6, m6, c6, A7, m7, c7, O, R, hq, rfl, rfl, rfl, ho6, ho7, HO, HR, hE⟩ := hrel
    have hE0r := hE05.trans hE
    have hE1r := hE15.trans hE
    have hm6 : m6 ≤ 1000 := by have h1 := ho6.len; rw [HO.out, List.length_map, List.length_range] at h1; omega
    have HM7 : Hid (m7 = (recsE (x.p.es.take q)).length) := by show _ = _; rw [ho7.len, HR.out]
    have hm7 : at0 + m7 ≤ 400000000 := by have h1 := HM7.out; have h2 := recs_take x.p.es q; omega
    by_cases hlt : q < x.e.m
    · have hi1 : (q : Int) < (x.e.m : Int) := by omega
      have hql : q < x.es.length := by rw [← HXL.out]; exact hlt
      obtain ⟨eb1, eo1, eA1, _, hcs1⟩ := ((hx.e.sl.ext hE05)).at_ hlt (by omega)
      obtain ⟨v1, hv1⟩ : ∃ v, v = x.es[q]'hql := ⟨_, rfl⟩
      have q10 := hcs1 q hql 0 (by omega)
      have q11 := hcs1 q hql 1 (by omega)
      have q12 := hcs1 q hql 2 (by omega)
      have q13 := hcs1 q hql 3 (by omega)
      have q14 := hcs1 q hql 4 (by omega)
      have q15 := hcs1 q hql 5 (by omega)
      have q16 := hcs1 q hql 6 (by omega)
      simp only [← hv1, entC, List.getElem_cons_zero, List.getElem_cons_succ, Nat.add_zero, ← Nat.add_assoc] at q10 q11 q12 q13 q14 q15 q16
      have Z10 := laters q10
      have Z11 := laters q11
      have Z12 := laters q12
      have Z13 := laters q13
      have Z14 := laters q14
      have Z15 := laters q15
      have Z16 := laters q16
      have HVN1 := Lib.hid hv1
      clear hcs1 q10 q11 q12 q13 q14 q15 q16 hv1
      have hv1W : EntW w v1 := by rw [HVN1.out]; exact hx.e.good _ (List.getElem_mem hql)
      have HVP : Hid (∀ h : q < x.p.es.length, v1.p = x.p.es[q]'h) := fun h => by rw [HVN1.out]; exact (List.getElem_map ..).symm
      have hvs : Short v1.p := by rw [HVP.out (by rw [HPL.out]; exact hql)]; exact HSH.out.es.2 _ (List.getElem_mem _)
      have HVS := Lib.hid hvs
      have hnew : SlC natF 1 (wr.alloc (Obj.cells #[.int .i64 ((at0 : Int) + (m7 : Int))] 3)) (some ⟨wr.heap.size, 0, none⟩) 1 [at0 + m7] := SlC.new_ (cs := natF) wr [at0 + m7] natF_len (by simp) #[.int .i64 ((at0 : Int) + (m7 : Int))] (by simp [natF]) (0, 0) 1 rfl 3
      have hEa : Ext wr (wr.alloc (Obj.cells #[.int .i64 ((at0 : Int) + (m7 : Int))] 3)) := (Ext.refl _).alloc _
      have hbase := Nat.le_trans hE.size_le hEa.size_le
      have EA1 := Lib.hid eA1
      clear eA1
      go_wp2_with (first
        | (at_builtin; refine Hid.out ?_))
      refine Hid.mk_ ?_
      refine appC einfo_int rfl _ _ rfl (ho6.ext hEa) rfl hnew rfl (by omega) hbase ?_
      intro A8 m8 c8 w2 ho8 hg8 hat8
      have hE52 : Ext w5 w2 := (hE.trans hEa).grown hg8 ho6.ge
      have hr7 := rows_ne' (by decide) ho6 ho7
      have ho7' := (ho7.ext hEa).kept hg8 hr7
      have hE12 := hE15.trans hE52
      have HIDE : Hid (entV v1 = .agg #[.string v1.p.id, .string v1.p.src, .string v1.p.tgt, .slice v1.c.A v1.c.m v1.c.c, .slice v1.f.A v1.f.m v1.f.c, .int .i64 v1.p.st, .slice v1.d.A v1.d.m v1.d.c]) := rfl
      have hrec := rrecord_any4 (hv1W.ext (hE05.trans hE52)) HVS.out
      rw [HIDE.out] at hrec
      clear hEa hnew hbase hvs
      have eA1 := EA1.out
      go_wp2_with (first
        | (go_at_call 64; refine Hid.out ?_))
      clear eA1
      rw [← EA1.out]
      refine Hid.mk_ (hrec.mono ?_)
      rintro e w3 ⟨A9, m9, c9, rfl, ho9, hE3⟩
      have hm9 : m9 ≤ 340000 := by rw [ho9.len]; exact recE_le HVS.out
      clear hrec
      go_wp2_with (first
        | (at_builtin; refine Hid.out ?_))
      refine Hid.mk_ ?_
      refine appB rfl _ _ rfl (ho7'.ext hE3) rfl ho9.sl rfl (by omega) (Nat.le_trans hE52.size_le hE3.size_le) ?_
      intro Aa ma ca w4a hoa hga hata
      have hr8 := rows_ne (by decide) ho8 ho7'
      have ho8' := (ho8.ext hE3).kept hga hr8
      have hE54 : Ext w5 w4a := (hE52.trans hE3).grown hga ho7.ge
      have HO2 : Hid (O ++ [at0 + m7] = (List.range (q + 1)).map (offE x.p)) := by
        show _ = _
        rw [List.range_succ, List.map_append, HO.out, HM7.out, HAT.out]
        rfl
      have HR2 : Hid (R ++ recE v1.p = recsE (x.p.es.take (q + 1))) := by
        show _ = _
        have h9 : q < x.p.es.length := by rw [HPL.out]; exact hql
        rw [List.take_succ_eq_append_getElem h9, HR.out, HVP.out h9]
        unfold recsE
        rw [List.flatMap_append]
        simp
      go_wp2
      go_roundw
      case rel => exact ⟨q + 1, A8, m8, c8, Aa, ma, ca, _, _, by omega, by go_num, rfl, rfl, ho8', hoa, HO2, HR2, hE54⟩
      case measure => simp [intOf]; omega
    · have hi1 : ¬ (q : Int) < (x.e.m : Int) := by omega
      have hqe : q = x.e.m := by omega
      have HR' : Hid (R = recsE x.p.es) := by show _ = _; rw [HR.out, List.take_of_length_le (by rw [HPL.out, ← HXL.out, hqe]; exact Nat.le_refl _)]
      have HO' : Hid (O = (List.range x.p.es.length).map (offE x.p)) := by show _ = _; rw [HO.out, hqe, HXL.out, HPL.out]
      clear HR HO hqe hq
      have HTT : Hid (at0 + m7 = totE x.p) := by show _ = _; rw [ho7.len, HR'.out]; exact HTOT.out
      have HM6 : Hid (m6 = x.p.es.length) := by show _ = _; rw [ho6.len, HO'.out, List.length_map, List.length_range]
      obtain ⟨wM, hwM⟩ : ∃ wM, wM = wr.alloc (Obj.cells #[.int .u8 67, .int .u8 81, .int .u8 66, .int .u8 49] 5 (4, 5)) := ⟨_, rfl⟩
      obtain ⟨gM, hgM⟩ : ∃ gM, gM = wr.heap.size := ⟨_, rfl⟩
      have hoM : SlB wM (some ⟨gM, 0, none⟩) 4 magicB := by rw [hwM, hgM]; exact magic_sl wr (4, 5)
      have hEM : Ext wr wM := by rw [hwM]; exact (Ext.refl _).alloc _
      have hfour := rfour_any (w := wM) (n := at0 + m7) (by omega)
      rw [show ((at0 + m7 : Nat) : Int) = (at0 : Int) + (m7 : Int) from by omega] at hfour
      have HGM := Lib.hid hgM
      have hcv := magic_conv wr
      go_wp2_with (first
        | (go_at_call 65; refine Hid.out ?_))
      rw [← hwM, ← hgM]
      refine Hid.mk_ (hfour.mono ?_)
      clear hfour hwM hgM hcv
      rintro e wF0 ⟨AF0, mF0, cF0, rfl, hoF0, hEF0⟩
      have HMF0 : Hid (mF0 = 4) := by show _ = _; rw [hoF0.len]; rfl
      go_wp2_with (first
        | (at_builtin; refine Hid.out ?_))
      refine Hid.mk_ ?_
      refine appFull rfl _ _ rfl (hoM.ext hEF0) rfl (by omega) hoF0.sl rfl (by have := HMF0.out; omega) (by have := HMF0.out; omega) (by have := HMF0.out; omega) ?_
      intro AF mF cF wF hoF hEF'
      have hErF0 := hEM.trans hEF0
      have hEF : Ext wr wF := hErF0.trans hEF'
      have hoFb := hoF.mono (base' := gM) (by rw [HGM.out]; exact hErF0.size_le)
      have hgeF : ∀ k, ob AF = some k → gM ≤ k := hoFb.ge
      have hmF : mF = 8 := by rw [hoF.len]; rfl
      have hbF : gM ≤ wF.heap.size := by rw [HGM.out]; exact hEF.size_le
      have HMF := Lib.hid hmF
      clear hmF
      go_wp2_with (first
        | (at_builtin; refine Hid.out ?_))
      refine Hid.mk_ ?_
      refine appB rfl _ _ rfl hoFb rfl (HO5.out.sl.ext (hE.trans hEF)) rfl (by have := HMF.out; omega) hbF ?_
      intro AG mG cG wG hoG hgG hatG
      have hEG : Ext wr wG := hEF.grown hgG (fun k hk => by have h9 := hgeF k hk; rw [HGM.out] at h9; exact h9)
      have hE5G := hE.trans hEG
      have hE0G := hE05.trans hE5G
      have hord := rsorted_any (hx.ext hE0G) hxm (validC_nodup HV.out)
      rw [HIDV.out x] at hord
      clear hgG hatG hEM hEF' hoF hoFb hEF0 hErF0
      have hE1G := hE15.trans hE5G
      replace X00 := laters (X00 _ hE1G)
      replace X01 := laters (X01 _ hE1G)
      replace X02 := laters (X02 _ hE1G)
      replace X03 := laters (X03 _ hE1G)
      go_wp2_with (first
        | (go_at_call 43; refine Hid.out ?_))
      refine Hid.mk_ ((hord).mono ?_)
      rintro e wH ⟨⟨AS, mS, cS, rfl, hsS, hfS⟩, hEH⟩
      have HMS : Hid (mS = x.p.es.length) := by show _ = _; rw [hsS.len, sortE_len]
      have hErH := hEG.trans hEH
      have hoH := hoG.ext hEH
      have hoO := ho6.ext hErH
      have hoR := ho7.ext hErH
      have hapS : ob AS = none ∨ ob AS ≠ ob AG := by
        cases hA : ob AS with
        | none => exact .inl rfl
        | some k => exact .inr (fun e => by have h1 := hfS k hA; have h2 := hoG.lt k e.symm; omega)
      have hapO := rows_ne (by decide) hoO hoH
      have hapR : ob A7 = none ∨ ob A7 ≠ ob AG := by
        cases hA : ob A7 with
        | none => exact .inl rfl
        | some k => exact .inr (fun e => by have h1 := ho7.lt k hA; have h2 := hoG.ge k e.symm; rw [HGM.out] at h2; omega)
      have HPRE : Hid (magicB ++ fourB (at0 + m7) ++ headE x.p = magicB ++ fourB (totE x.p) ++ headE x.p) := by show _ = _; rw [HTT.out]
      rw [HPRE.out] at hoH
      have hmG : mG = 8 + m5 := by rw [hoG.len, List.length_append, ← HM5.out]; rfl
      have HMG := Lib.hid hmG
      have hmS : mS ≤ 1000 := by have h1 := HMS.out; have h2 := HSH.out.es.1; omega
      have hbH : gM ≤ wH.heap.size := by rw [HGM.out]; exact hErH.size_le
      clear hord hmG hoG
      go_wp2
      go_loopw [9, 11] (fun s9 i wr => ∃ (q : Nat) (A : Option Addr) (m c : Nat) (L : List UInt8), q ≤ mS ∧ i = .int .i64 q ∧ s9 = .slice A m c ∧ OsB wr gM A m c L ∧ Hid (L = magicB ++ fourB (totE x.p) ++ headE x.p ++ ((sortE x.p.es).take q).flatMap (fun i => fourB i ++ fourB (offE x.p i))) ∧ Hid (m = 8 + m5 + 8 * q) ∧ wH.grownBy wr (ob AG) ∧ NewOr wH.heap.size (ob AG) (ob A)) (fun _ i _ => mS - (intOf i).toNat)
      case atStart => exact ⟨0, AG, mG, cG, _, Nat.zero_le _, rfl, rfl, hoH, by show _ = _; simp, by show _ = _; rw [HMG.out]; omega, World.grownBy.refl _ _, NewOr.refl _ _⟩
      case round =>
        obtain ⟨q2, A, m, c, L, hq2, rfl, rfl, hoQ, HL, HMm, hgw, hN⟩ := hrel
        have hm9 : m ≤ 1000000 := by have := HMm.out; omega
        have hwq := hgw.size
        by_cases hlt2 : q2 < mS
        · have hi2 : (q2 : Int) < (mS : Int) := by omega
          obtain ⟨b2, off2, e2, hbl2, -⟩ := hsS.at_ hlt2 (by omega)
          have hq2l : q2 < (sortE x.p.es).length := by rw [sortE_len, ← HMS.out]; exact hlt2
          obtain ⟨p, hp⟩ : ∃ p, p = (sortE x.p.es)[q2] := ⟨_, rfl⟩
          have hpl : p < x.p.es.length := by rw [hp]; exact sortE_lt (List.getElem_mem _)
          have Y0 := nat_kept hsS hapS hlt2 e2 hq2l
          rw [← hp] at Y0
          have hpm : p < m6 := by rw [HM6.out]; exact hpl
          obtain ⟨b3, off3, e3, hbl3, -⟩ := hoO.sl.at_ hpm (by omega)
          have hpO : p < O.length := by rw [← ho6.len]; exact hpm
          have U0 := nat_kept hoO.sl hapO hpm e3 hpO
          have hOp : O[p] = offE x.p p := by simp only [HO'.out, List.getElem_map, List.getElem_range]
          rw [hOp] at U0
          have hoff : offE x.p p ≤ 400000000 := Nat.le_trans (offE_le _ _) (totE_le HSH.out)
          obtain ⟨of, hof⟩ : ∃ of, of = offE x.p p := ⟨_, rfl⟩
          rw [← hof] at U0 hoff
          have HOF := Lib.hid hof
          have HP := Lib.hid hp
          have hpi : (p : Int) < (m6 : Int) := by omega
          have hp1000 : p ≤ 1000 := by have := HSH.out.es.1; omega
          have hEd : Ext wr wr.drew := (Ext.refl _).drew
          have hgd : wH.grownBy wr.drew (ob AG) := grown_step hgw (hEd.grownBy none) (fun k hk => by cases hk)
          have hbQ : gM ≤ wr.heap.size := Nat.le_trans hbH hwq
          have HZ := Lib.hid (⟨hsS, hapS, hapO, hapR, hoO⟩ : _ ∧ _ ∧ _ ∧ _ ∧ _)
          clear hof hp hOp hsS hapS hapO hapR hoO ho6
          subst e2 e3
          go_wp2_with fail
          go_region_held3 (fun w' => w'.cell? ⟨b2, off2 + q2, none⟩ = some (.int .i64 (p : Int)) ∧ w'.cell? ⟨b3, off3 + p, none⟩ = some (.int .i64 (of : Int)))
            (exact ⟨Y0 _ (by assumption), U0 _ (by assumption)⟩)
            (first
              | (refine step_appB rfl _ _ rfl (hoX5.ext hEX6) rfl hoX6.sl rfl (by have h1 := hoX5.len; have h2 := hoX6.len; have h3 := hoQ.len; have h4 : (fourB p).length = 4 := rfl; have h5 : (fourB of).length = 4 := rfl; simp only [List.length_append] at h1; omega) (Nat.le_trans (Nat.le_trans hbQ4 hgX5.size) hEX6.size_le) ?_; intro Az mz cz wz hoZ hgX7 hatX7; have hgz : wH.grownBy wz (ob AG) := grown_step hg06 hgX7 hN5; have hNz : NewOr wH.heap.size (ob AG) (ob Az) := hN5.trans hatX7 hg06.size)
              | (refine step_appB rfl _ _ rfl (hoQ.ext hEr4) rfl hoX4.sl rfl (by have h2 := hoX4.len; have h4 : (fourB p).length = 4 := rfl; omega) (Nat.le_trans hbQ hEr4.size_le) ?_; intro X5 mX5 cX5 wX5 hoX5 hgX5 hatX5; have hg05 : wH.grownBy wX5 (ob AG) := grown_step hg04 hgX5 hN; have hN5 : NewOr wH.heap.size (ob AG) (ob X5) := hN.trans hatX5 hg04.size)
              | (go_at_call 65; (with_reducible refine (rfour_any (n := p) (by omega)).mono ?_); rintro e wX4 ⟨X4, mX4, cX4, rfl, hoX4, hEX4⟩; have hEr4 : Ext wr wX4 := Ext.trans (by assumption) hEX4; have hg04 : wH.grownBy wX4 (ob AG) := grown_step hgw (hEr4.grownBy none) (fun k hk => by cases hk); have hbQ4 : gM ≤ wX4.heap.size := Nat.le_trans hbQ hEr4.size_le)
              | (go_at_call 65; (with_reducible refine (rfour_any (n := of) (by omega)).mono ?_); rintro e wX6 ⟨X6, mX6, cX6, rfl, hoX6, hEX6⟩; have hg06 : wH.grownBy wX6 (ob AG) := grown_step hg05 (hEX6.grownBy none) (fun k hk => by cases hk))
              | fail)
          all_goals
            have HMz : Hid (mz = 8 + m5 + 8 * (q2 + 1)) := by
              show _ = _
              have h1 := hoZ.len
              have h2 := hoQ.len
              have h3 := HMm.out
              simp only [List.length_append] at h1
              have h4 : (fourB p).length = 4 := rfl
              have h5 : (fourB of).length = 4 := rfl
              omega
            have HLz : Hid (L ++ fourB p ++ fourB of = magicB ++ fourB (totE x.p) ++ headE x.p ++ ((sortE x.p.es).take (q2 + 1)).flatMap (fun i => fourB i ++ fourB (offE x.p i))) := by
              show _ = _
              rw [List.take_succ_eq_append_getElem hq2l, List.flatMap_append, ← HP.out, HL.out]
              simp [HOF.out]
            clear Y0 U0
            go_wp2
            go_roundw
            case rel => exact ⟨q2 + 1, Az, mz, cz, _, by omega, by go_num, rfl, hoZ, HLz, HMz, hgz, hNz⟩
            case measure => simp [intOf]; omega
        · have hi2 : ¬ (q2 : Int) < (mS : Int) := by omega
          have hqS : q2 = mS := by omega
          have HLf : Hid (L = magicB ++ fourB (totE x.p) ++ headE x.p ++ dirE x.p) := by
            show _ = _
            rw [HL.out, List.take_of_length_le (by rw [sortE_len, ← HMS.out, hqS]; exact Nat.le_refl _)]
            rfl
          have HRf : Hid (EncR x.p 0 (L ++ R)) := .inl ⟨HV.out, rfl, by rw [HLf.out, HR'.out]; rfl⟩
          have hEwq : Ext w wr := (hE05.trans (hE.trans hErH)).grown hgw (fun k hk => by have h9 := hoH.ge k hk; have h8 := hE05.size_le; have h7 := hE.size_le; rw [HGM.out] at h9; omega)
          have hwg : w.heap.size ≤ gM := by rw [HGM.out]; exact Nat.le_trans hE05.size_le hE.size_le
          clear hqS
          go_wp2_with (first
            | (at_builtin; refine Hid.out ?_))
          refine Hid.mk_ ?_
          refine appB rfl _ _ rfl hoQ rfl (hoR.kept hgw hapR).sl rfl (by omega) (Nat.le_trans hbH hwq) ?_
          intro Ae me ce we hoe hge hate
          have HEw : Hid (Ext w we) := hEwq.grown hge (fun k hk => Nat.le_trans hwg (hoQ.ge k hk))
          have HOE := Lib.hid hoe
          clear hoe hge hate
          go_wp2
          go_ret2
          exact ⟨⟨Ae, me, ce, 0, _, rfl, HOE.out.mono hwg, HRf.out⟩, HEw.out⟩
end
end Go.Proofs.YtngpajaghadhdaaGreatDoor
