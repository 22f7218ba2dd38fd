/- Every entry of a valid catalog is found in its encoding, and no other ID; different catalogs have different encodings. No condition. -/
import Derived.Test.YtngpajaghadhdaaDoorBinAw
import Derived.Test.YtngpajaghadhdaaDoorBinFi
import Derived.Test.YtngpajaghadhdaaDoorRVal
import Derived.Test.YtngpajaghadhdaaDoorREq
import Derived.Test.YtngpajaghadhdaaDoorCatCard
import Derived.ProofKit
import Derived.OpenShut
import Derived.ShutString
import Derived.ChangeOld
import Derived.SizedLaws
namespace Go.Proofs.YtngpajaghadhdaaDoor
open Go.ChangeShapes Go.WideShapes Go.ChangeAt Go.RowKit
set_option maxRecDepth 100000
attribute [local go_sem] ext_refl_t ext_alloc_t ext_drew_t ext_drewN_t ext_alloc2_t ext_alloc3_t ext_alloc4_t ext_alloc5_t ext_alloc6_t ext_alloc7_t ext_alloc8_t ext_alloc1d_t ext_alloc2d_t ext_alloc3d_t ext_alloc4d_t
def laidL2 : List (String × DataW Unit) := Rows.binaryEntriesRow.laid
theorem tabs2 {W : World} (h : laidMetH Tryd.prog laidL2 W) : Tabs W := tabs_of_laid h
theorem dec_own2 {c y : Cp} {code : Int} (hv : validC c = true) (h : DecR (encC c) y code) : code = 0 ∧ y = c := by
  rcases h with ⟨rfl, hv', he⟩ | ⟨rfl, _, hn⟩
  · exact ⟨rfl, encC_inj (validC_short hv') (validC_short hv) he⟩
  · exact absurd rfl (hn c hv)
theorem enc_eq {c d : Cp} (hc : validC c = true) (hd : validC d = true) : decide (encC c = encC d) = eqC c d := by
  by_cases h : c = d
  · subst h
    rw [eqC_iff.2 rfl, decide_eq_true rfl]
  · have h1 : eqC c d = false := by
      cases he : eqC c d with
      | false => rfl
      | true => exact absurd (eqC_iff.1 he) h
    rw [h1, decide_eq_false (fun e => h (encC_inj (validC_short hc) (validC_short hd) e))]
theorem nodup_id {l : List Ep} (hd : (l.map Ep.id).Nodup) {a b : Ep} (ha : a ∈ l) (hb : b ∈ l) (h : a.id = b.id) : a = b := by
  obtain ⟨i, hi, rfl⟩ := List.getElem_of_mem ha
  obtain ⟨j, hj, rfl⟩ := List.getElem_of_mem hb
  have hij : i = j := by
    refine (List.getElem_inj (h₀ := by rw [List.length_map]; exact hi) (h₁ := by rw [List.length_map]; exact hj) hd).1 ?_
    rw [List.getElem_map, List.getElem_map]
    exact h
  subst hij
  rfl
theorem findO_at {c y : Cp} {v b : Ep} {f : Bool} {code : Int} (hv : validC c = true) (hd : DecR (encC c) y code) (hb : b ∈ c.es) (h : FindO y b.id v f) : f = true ∧ v = b := by
  obtain ⟨_, rfl⟩ := dec_own2 hv hd
  rcases h with ⟨h1, h2, h3⟩ | ⟨_, _, h3⟩
  · exact ⟨h1, nodup_id (validC_nodup hv) h2 hb h3⟩
  · exact absurd rfl (h3 b hb)
theorem findO_z {c y : Cp} {v : Ep} {f : Bool} {code z : Int} {id : ByteArray} (hv : validC c = true) (hd : DecR (encC c) y code) (hz : FindZ c.es id z) (h : FindO y id v f) : f = decide (0 ≤ z) := by
  obtain ⟨_, rfl⟩ := dec_own2 hv hd
  rcases hz with ⟨rfl, hn⟩ | ⟨k, rfl, hk, he, _⟩ <;> rcases h with ⟨rfl, h2, h3⟩ | ⟨rfl, _, h3⟩
  · exfalso
    obtain ⟨j, hj, rfl⟩ := List.getElem_of_mem h2
    exact hn j hj h3
  · rfl
  · rw [decide_eq_true (by omega)]
  · exact absurd he (h3 _ (List.getElem_mem hk))
section
variable {w : World}
set_option maxHeartbeats 12800000 in
theorem bent_walk {x y : Cat} (hx : CatW w x) (hy : CatW w y) (id : ByteArray) (hT : Tabs w) :
    Calls Tryd.prog 7 #[catV x, catV y, .string id] w fun e w' => e = .returned (.bool true) ∧ Ext w w' := by
  have HIDV : Hid (∀ y : Cat, catV y = .agg #[.string y.tag, .slice y.c.A y.c.m y.c.c, .slice y.d.A y.d.m y.d.c, .slice y.e.A y.e.m y.e.c]) := fun _ => rfl
  have HIDE : Hid (∀ z : Ent, entV z = .agg #[.string z.p.id, .string z.p.src, .string z.p.tgt, .slice z.c.A z.c.m z.c.c, .slice z.f.A z.f.m z.f.c, .int .i64 z.p.st, .slice z.d.A z.d.m z.d.c]) := fun _ => rfl
  rw [HIDV.out x, HIDV.out y]
  obtain ⟨W0, hW0⟩ : ∃ W0, W0 = (w.alloc (Obj.cells #[.string x.tag, .slice x.c.A x.c.m x.c.c, .slice x.d.A x.d.m x.d.c, .slice x.e.A x.e.m x.e.c] 26)).alloc (Obj.cells #[.string y.tag, .slice y.c.A y.c.m y.c.c, .slice y.d.A y.d.m y.d.c, .slice y.e.A y.e.m y.e.c] 26) := ⟨_, rfl⟩
  have hb0 : Blk W0 w.heap.size 26 #[.string x.tag, .slice x.c.A x.c.m x.c.c, .slice x.d.A x.d.m x.d.c, .slice x.e.A x.e.m x.e.c] := by rw [hW0]; exact (Blk.new w _ _).alloc _
  have hb1 : Blk W0 (w.heap.size + 1) 26 #[.string y.tag, .slice y.c.A y.c.m y.c.c, .slice y.d.A y.d.m y.d.c, .slice y.e.A y.e.m y.e.c] := by
    have h9 := Blk.new (w.alloc (Obj.cells #[.string x.tag, .slice x.c.A x.c.m x.c.c, .slice x.d.A x.d.m x.d.c, .slice x.e.A x.e.m x.e.c] 26)) 26 #[.string y.tag, .slice y.c.A y.c.m y.c.c, .slice y.d.A y.d.m y.d.c, .slice y.e.A y.e.m y.e.c]
    rw [hW0]; simpa using h9
  have hE0 : Ext w W0 := by rw [hW0]; exact ((Ext.refl w).alloc _).alloc _
  have hawk := awake_bin (hT.ext hE0)
  obtain ⟨g, hg⟩ : ∃ g, g = w.heap.size := ⟨_, rfl⟩
  obtain ⟨g1, hg1⟩ : ∃ g1, g1 = g + 1 := ⟨_, rfl⟩
  go_enter Tryd.func7, Tryd.ntmps7
  go_wp2_with (first
    | (go_at_call 8; refine Hid.out ?_))
  rw [← hW0, ← hg, ← hg1]
  rw [← hg] at hb0 hb1
  rw [← hg1] at hb1
  refine Hid.mk_ (hawk.mono ?_)
  rintro e w1 ⟨rfl, hE1⟩
  have hE01 := hE0.trans hE1
  have X00 := laters (show W0.cell? ⟨g, 0, none⟩ = some (.string x.tag) from hb0.cell 0)
  have X01 := laters (show W0.cell? ⟨g, 1, none⟩ = some (.slice x.c.A x.c.m x.c.c) from hb0.cell 1)
  have X02 := laters (show W0.cell? ⟨g, 2, none⟩ = some (.slice x.d.A x.d.m x.d.c) from hb0.cell 2)
  have X03 := laters (show W0.cell? ⟨g, 3, none⟩ = some (.slice x.e.A x.e.m x.e.c) from hb0.cell 3)
  have X10 := laters (show W0.cell? ⟨g1, 0, none⟩ = some (.string y.tag) from hb1.cell 0)
  have X11 := laters (show W0.cell? ⟨g1, 1, none⟩ = some (.slice y.c.A y.c.m y.c.c) from hb1.cell 1)
  have X12 := laters (show W0.cell? ⟨g1, 2, none⟩ = some (.slice y.d.A y.d.m y.d.c) from hb1.cell 2)
  have X13 := laters (show W0.cell? ⟨g1, 3, none⟩ = some (.slice y.e.A y.e.m y.e.c) from hb1.cell 3)
  clear hW0 hg hg1 hawk hb0 hb1
  have hfc := few_any (hx.ext hE01)
  rw [HIDV.out x] at hfc
  go_wp2_with (first
    | (go_at_call 9; refine Hid.out ?_))
  refine Hid.mk_ ((hfc).mono ?_)
  rintro e w2 ⟨rfl, hE2⟩
  clear hfc
  have hE12 := hE1.trans hE2
  have hE02 := hE01.trans hE2
  cases hf1 : fewC x.p with
  | false =>
    clear hf1
    go_wp2
    go_ret
    exact ⟨rfl, hE02⟩
  | true =>
  have hfc := few_any (hy.ext hE02)
  rw [HIDV.out y] at hfc
  go_wp2_with (first
    | (go_at_call 9; refine Hid.out ?_))
  refine Hid.mk_ ((hfc).mono ?_)
  rintro e w3 ⟨rfl, hE3⟩
  clear hfc hf1
  have hE13 := hE12.trans hE3
  have hE03 := hE02.trans hE3
  cases hf1 : fewC y.p with
  | false =>
    clear hf1
    go_wp2
    go_ret
    exact ⟨rfl, hE03⟩
  | true =>
  have hvc := rvalid_any (hx.ext hE03)
  rw [HIDV.out x] at hvc
  go_wp2_with (first
    | (go_at_call 12; refine Hid.out ?_))
  refine Hid.mk_ ((hvc).mono ?_)
  rintro e w4 ⟨rfl, hE4⟩
  clear hvc hf1
  have hE14 := hE13.trans hE4
  have hE04 := hE03.trans hE4
  cases hvx : validC x.p with
  | false =>
    clear hvx
    go_wp2
    go_ret
    exact ⟨rfl, hE04⟩
  | true =>
  have HVX := Lib.hid hvx
  clear hvx
  have hvc := rvalid_any (hy.ext hE04)
  rw [HIDV.out y] at hvc
  go_wp2_with (first
    | (go_at_call 12; refine Hid.out ?_))
  refine Hid.mk_ ((hvc).mono ?_)
  rintro e w5 ⟨rfl, hE5⟩
  clear hvc
  have hE15 := hE14.trans hE5
  have hE05 := hE04.trans hE5
  cases hvy : validC y.p with
  | false =>
    clear hvy
    go_wp2
    go_ret
    exact ⟨rfl, hE05⟩
  | true =>
  have HVY := Lib.hid hvy
  clear hvy
  by_cases hid300 : 300 < id.size
  · have hi : (300 : Int) < (id.size : Int) := by omega
    go_wp2
    go_ret
    exact ⟨rfl, hE05⟩
  have hi : ¬ (300 : Int) < (id.size : Int) := by omega
  have he1 := bencode_any (hx.ext hE05) (hT.ext hE05)
  rw [HIDV.out x] at he1
  go_wp2_with (first
    | (go_at_call 10; refine Hid.out ?_))
  refine Hid.mk_ ((he1).mono ?_)
  rintro e w6 ⟨⟨AX, mX, cX, code, LX, rfl, hoX, hRX⟩, hE6⟩
  obtain ⟨rfl, hLX⟩ : code = 0 ∧ LX = encC x.p := by
    rcases hRX with ⟨_, a, b⟩ | ⟨h, _, _⟩
    · exact ⟨a, b⟩
    · rw [HVX.out] at h; cases h
  have hmX : mX ≤ 1000000000 := by have h9 := totE_le (validC_short HVX.out); rw [hoX.len, hLX, encC_len]; omega
  have hE16 := hE15.trans hE6
  have hE06 := hE05.trans hE6
  have he2 := bencode_any (hy.ext hE06) (hT.ext hE06)
  rw [HIDV.out y] at he2
  clear he1 hRX
  have HLX := Lib.hid hLX
  clear hLX
  go_wp2_with (first
    | (go_at_call 10; refine Hid.out ?_))
  refine Hid.mk_ ((he2).mono ?_)
  rintro e w7 ⟨⟨AY, mY, cY, code, LY, rfl, hoY, hRY⟩, hE7⟩
  obtain ⟨rfl, hLY⟩ : code = 0 ∧ LY = encC y.p := by
    rcases hRY with ⟨_, a, b⟩ | ⟨h, _, _⟩
    · exact ⟨a, b⟩
    · rw [HVY.out] at h; cases h
  have HLY := Lib.hid hLY
  clear hLY hRY he2
  have hE17 := hE16.trans hE7
  have hE07 := hE06.trans hE7
  have hoX7 := hoX.sl.ext hE7
  have hcapX := hoX.cap
  obtain ⟨sA, hsA⟩ : ∃ s, s = str LX := ⟨_, rfl⟩
  obtain ⟨sB, hsB⟩ : ∃ s, s = str LY := ⟨_, rfl⟩
  have CA : ∀ W, Ext w7 W → (convert 29 9 (.slice AX mX cX)).run Tryd.prog W = .ok (.string sA) W := fun W h => by rw [hsA]; exact conv_str (hoX7.ext h) cX
  have CB : ∀ W, Ext w7 W → (convert 29 9 (.slice AY mY cY)).run Tryd.prog W = .ok (.string sB) W := fun W h => by rw [hsB]; exact conv_str (hoY.sl.ext h) cY
  obtain ⟨br, hbr⟩ : ∃ br : Bool, br = eqC x.p y.p := ⟨_, rfl⟩
  have hss : (sA.toList == sB.toList) = br := by
    rw [hbr, ← enc_eq HVX.out HVY.out, ← HLX.out, ← HLY.out, ByteArray.toList_eq, ByteArray.toList_eq, hsA, hsB]
    show (bys (str LX) == bys (str LY)) = _
    rw [bys_str, bys_str]
    by_cases h : LX = LY
    · simp [h]
    · rw [beq_eq_false_iff_ne.2 h, decide_eq_false h]
  have hbb : (br != br) = false := by simp
  have HEQ : Hid (∀ u : ExtOf w7, Calls Tryd.prog 19 #[.agg #[.string x.tag, .slice x.c.A x.c.m x.c.c, .slice x.d.A x.d.m x.d.c, .slice x.e.A x.e.m x.e.c], .agg #[.string y.tag, .slice y.c.A y.c.m y.c.c, .slice y.d.A y.d.m y.d.c, .slice y.e.A y.e.m y.e.c]] u.val fun e w' => e = .returned (.bool br) ∧ Ext u.val w') := fun u => by
    have h9 := reqC_any (hx.ext (hE07.trans u.ext)) (hy.ext (hE07.trans u.ext))
    rw [← hbr, HIDV.out x, HIDV.out y] at h9
    exact h9
  replace X00 := laters (X00 _ hE17)
  replace X01 := laters (X01 _ hE17)
  replace X02 := laters (X02 _ hE17)
  replace X03 := laters (X03 _ hE17)
  replace X10 := laters (X10 _ hE17)
  replace X11 := laters (X11 _ hE17)
  replace X12 := laters (X12 _ hE17)
  replace X13 := laters (X13 _ hE17)
  clear hsA hsB hbr
  have UA := fun (u : ExtOf w7) => CA u.val u.ext
  have UB := fun (u : ExtOf w7) => CB u.val u.ext
  have U00 := fun (u : ExtOf w7) => X00 u.val ((Ext.refl w7).trans u.ext)
  have U01 := fun (u : ExtOf w7) => X01 u.val ((Ext.refl w7).trans u.ext)
  have U02 := fun (u : ExtOf w7) => X02 u.val ((Ext.refl w7).trans u.ext)
  have U03 := fun (u : ExtOf w7) => X03 u.val ((Ext.refl w7).trans u.ext)
  have U10 := fun (u : ExtOf w7) => X10 u.val ((Ext.refl w7).trans u.ext)
  have U11 := fun (u : ExtOf w7) => X11 u.val ((Ext.refl w7).trans u.ext)
  have U12 := fun (u : ExtOf w7) => X12 u.val ((Ext.refl w7).trans u.ext)
  have U13 := fun (u : ExtOf w7) => X13 u.val ((Ext.refl w7).trans u.ext)
  go_wp2
  refine wp_region_ext_lit (by kernel_rfl) (by kernel_rfl) ?_
  try dsimp only [List.append]
  repeat (go_big_quiet_step ((go_at_call 19; with_reducible exact Calls.quiet_ext (HEQ.out _))))
  refine wpQuiet_nil ?_
  rintro w8 ⟨⟨_, hE78⟩, rfl⟩
  try dsimp only
  clear UA UB CA CB U00 U01 U02 U03 U10 U11 U12 U13 hss hbb X10 X11 X12 X13
  replace X00 := laters (X00 _ hE78)
  replace X01 := laters (X01 _ hE78)
  replace X02 := laters (X02 _ hE78)
  replace X03 := laters (X03 _ hE78)
  have hE08 := hE07.trans hE78
  have hoX8 := hoX7.ext hE78
  have HXL : Hid (x.e.m = x.es.length) := hx.e.sl.len
  have HPL : Hid (x.p.es.length = x.es.length) := List.length_map _
  have hem : x.e.m ≤ 1000 := by rw [HXL.out, ← HPL.out]; exact (validC_short HVX.out).es.1
  clear hoX
  go_wp2
  go_loopw [11, 12, 13] (fun i _ _ wr => ∃ q : Nat, q ≤ x.e.m ∧ i = .int .i64 q ∧ Ext w8 wr) (fun i _ _ _ => x.e.m - (intOf i).toNat)
  case atStart => exact ⟨0, Nat.zero_le _, rfl, Ext.refl _⟩
  case round =>
    obtain ⟨q, hq, rfl, hE8r⟩ := hrel
    have hE0r := hE08.trans hE8r
    by_cases hlt : q < x.e.m
    · have hi1 : (q : Int) < (x.e.m : Int) := by omega
      have hql : q < x.es.length := by rw [← HXL.out]; exact hlt
      obtain ⟨eb1, eo1, eA1, _, hcs1⟩ := ((hx.e.sl.ext hE0r)).at_ hlt (by omega)
      obtain ⟨v1, hv1⟩ : ∃ v, v = x.es[q]'hql := ⟨_, rfl⟩
      have q10 := hcs1 q hql 0 (by omega)
      have q11 := hcs1 q hql 1 (by omega)
      have q12 := hcs1 q hql 2 (by omega)
      have q13 := hcs1 q hql 3 (by omega)
      have q14 := hcs1 q hql 4 (by omega)
      have q15 := hcs1 q hql 5 (by omega)
      have q16 := hcs1 q hql 6 (by omega)
      simp only [← hv1, entC, List.getElem_cons_zero, List.getElem_cons_succ, Nat.add_zero, ← Nat.add_assoc] at q10 q11 q12 q13 q14 q15 q16
      have Z10 := laters q10
      have Z11 := laters q11
      have Z12 := laters q12
      have Z13 := laters q13
      have Z14 := laters q14
      have Z15 := laters q15
      have Z16 := laters q16
      have HVN1 := Lib.hid hv1
      clear hcs1 q10 q11 q12 q13 q14 q15 q16 hv1
      have hv1W : EntW wr v1 := by rw [HVN1.out]; exact (hx.e.good _ (List.getElem_mem hql)).ext hE0r
      have HVM : Hid (v1.p ∈ x.p.es) := by show _ ∈ _; rw [HVN1.out]; exact List.mem_map_of_mem (List.getElem_mem hql)
      have EA1 := Lib.hid eA1
      go_wp2_with (first
        | (go_at_call 21; refine Hid.out ?_))
      clear eA1
      rw [← EA1.out]
      refine Hid.mk_ ((bfind_any cX (hoX8.ext hE8r) hcapX hmX v1.p.id (hT.ext hE0r)).mono ?_)
      rintro e w9 ⟨⟨v, f, yy, code, rfl, hD, hF, hvW⟩, hE9⟩
      rw [HIDE.out v]
      obtain ⟨rfl, hvv⟩ : f = true ∧ v.p = v1.p := by
        rw [HLX.out] at hD
        exact findO_at HVX.out hD HVM.out hF
      have HVV := Lib.hid hvv
      clear hvv hD hF
      obtain ⟨wB, hwB⟩ : ∃ wB, wB = w9.alloc (Obj.cells #[.string v.p.id, .string v.p.src, .string v.p.tgt, .slice v.c.A v.c.m v.c.c, .slice v.f.A v.f.m v.f.c, .int .i64 v.p.st, .slice v.d.A v.d.m v.d.c] 40) := ⟨_, rfl⟩
      have hEB : Ext w9 wB := by rw [hwB]; exact (Ext.refl _).alloc _
      have hbB : Blk wB w9.heap.size 40 #[.string v.p.id, .string v.p.src, .string v.p.tgt, .slice v.c.A v.c.m v.c.c, .slice v.f.A v.f.m v.f.c, .int .i64 v.p.st, .slice v.d.A v.d.m v.d.c] := by rw [hwB]; exact Blk.new w9 _ _
      obtain ⟨gB, hgB⟩ : ∃ gB, gB = w9.heap.size := ⟨_, rfl⟩
      rw [← hgB] at hbB
      have hErB := hE9.trans hEB
      have hE8B := hE8r.trans hErB
      have HEE : Hid (∀ u : ExtOf wB, Calls Tryd.prog 22 #[.agg #[.string v.p.id, .string v.p.src, .string v.p.tgt, .slice v.c.A v.c.m v.c.c, .slice v.f.A v.f.m v.f.c, .int .i64 v.p.st, .slice v.d.A v.d.m v.d.c], .agg #[.string v1.p.id, .string v1.p.src, .string v1.p.tgt, .slice v1.c.A v1.c.m v1.c.c, .slice v1.f.A v1.f.m v1.f.c, .int .i64 v1.p.st, .slice v1.d.A v1.d.m v1.d.c]] u.val fun e w' => e = .returned (.bool true) ∧ Ext u.val w') := fun u => by
        have h9 := reqE_any (hvW.ext (hEB.trans u.ext)) (hv1W.ext (hErB.trans u.ext))
        rw [HIDE.out v, HIDE.out v1, decide_eq_true HVV.out] at h9
        exact h9
      have Y0 := laters (show wB.cell? ⟨gB, 0, none⟩ = some (.string v.p.id) from (hbB).cell 0)
      have Y1 := laters (show wB.cell? ⟨gB, 1, none⟩ = some (.string v.p.src) from (hbB).cell 1)
      have Y2 := laters (show wB.cell? ⟨gB, 2, none⟩ = some (.string v.p.tgt) from (hbB).cell 2)
      have Y3 := laters (show wB.cell? ⟨gB, 3, none⟩ = some (.slice v.c.A v.c.m v.c.c) from (hbB).cell 3)
      have Y4 := laters (show wB.cell? ⟨gB, 4, none⟩ = some (.slice v.f.A v.f.m v.f.c) from (hbB).cell 4)
      have Y5 := laters (show wB.cell? ⟨gB, 5, none⟩ = some (.int .i64 v.p.st) from (hbB).cell 5)
      have Y6 := laters (show wB.cell? ⟨gB, 6, none⟩ = some (.slice v.d.A v.d.m v.d.c) from (hbB).cell 6)
      have V90 := fun (u : ExtOf wB) => Y0 u.val (((Ext.refl wB)).trans u.ext)
      have V91 := fun (u : ExtOf wB) => Y1 u.val (((Ext.refl wB)).trans u.ext)
      have V92 := fun (u : ExtOf wB) => Y2 u.val (((Ext.refl wB)).trans u.ext)
      have V93 := fun (u : ExtOf wB) => Y3 u.val (((Ext.refl wB)).trans u.ext)
      have V94 := fun (u : ExtOf wB) => Y4 u.val (((Ext.refl wB)).trans u.ext)
      have V95 := fun (u : ExtOf wB) => Y5 u.val (((Ext.refl wB)).trans u.ext)
      have V96 := fun (u : ExtOf wB) => Y6 u.val (((Ext.refl wB)).trans u.ext)
      have V80 := fun (u : ExtOf wB) => Z10 u.val ((hErB).trans u.ext)
      have V81 := fun (u : ExtOf wB) => Z11 u.val ((hErB).trans u.ext)
      have V82 := fun (u : ExtOf wB) => Z12 u.val ((hErB).trans u.ext)
      have V83 := fun (u : ExtOf wB) => Z13 u.val ((hErB).trans u.ext)
      have V84 := fun (u : ExtOf wB) => Z14 u.val ((hErB).trans u.ext)
      have V85 := fun (u : ExtOf wB) => Z15 u.val ((hErB).trans u.ext)
      have V86 := fun (u : ExtOf wB) => Z16 u.val ((hErB).trans u.ext)
      have U3 := fun (u : ExtOf wB) => X03 u.val (hE8B.trans u.ext)
      clear Y0 Y1 Y2 Y3 Y4 Y5 Y6 Z10 Z11 Z12 Z13 Z14 Z15 Z16 hbB
      go_wp2
      rw [← hwB, ← hgB]
      clear hwB hgB
      have eA1 := EA1.out
      refine wp_region_ext_lit (by kernel_rfl) (by kernel_rfl) ?_
      try dsimp only [List.append]
      repeat (go_big_quiet_step ((go_at_call 22; with_reducible exact Calls.quiet_ext (HEE.out _))))
      refine wpQuiet_nil ?_
      rintro w10 ⟨⟨_, hEB10⟩, rfl⟩
      try dsimp only
      clear eA1 U3 V90 V91 V92 V93 V94 V95 V96 V80 V81 V82 V83 V84 V85 V86
      rw [← EA1.out]
      have hE810 := hE8B.trans hEB10
      go_wp2
      go_roundw
      case rel => exact ⟨q + 1, by omega, by go_num, hE810⟩
      case measure => simp [intOf]; omega
    · have hi1 : ¬ (q : Int) < (x.e.m : Int) := by omega
      have hfd := refFind_any (hx.ext hE0r) id
      rw [HIDV.out x] at hfd
      go_wp2_with (first
        | (go_at_call 23; refine Hid.out ?_))
      refine Hid.mk_ (hfd.mono ?_)
      clear hfd
      rintro e w9 ⟨⟨z, hz, rfl⟩, hE9⟩
      have HZ := Lib.hid hz
      have HFV : Hid (∃ (a : Int), FindV z = .tuple #[.int .i64 a, .bool (decide (0 ≤ z))]) := ⟨_, rfl⟩
      obtain ⟨a, ha⟩ := HFV.out
      rw [ha]
      obtain ⟨kz, hkz⟩ : ∃ kz : Bool, kz = decide (0 ≤ z) := ⟨_, rfl⟩
      rw [← hkz]
      have HKZ := Lib.hid hkz
      clear ha hz hkz HFV
      have hE89 := hE8r.trans hE9
      have hE09 := hE0r.trans hE9
      go_wp2_with (first
        | (go_at_call 21; refine Hid.out ?_))
      refine Hid.mk_ ((bfind_any cX (hoX8.ext hE89) hcapX hmX id (hT.ext hE09)).mono ?_)
      rintro e w10 ⟨⟨v, f, yy, code, rfl, hD, hF, hvW⟩, hE10⟩
      rw [HIDE.out v]
      have hfk : f = kz := by
        rw [HLX.out] at hD
        rw [HKZ.out]
        exact findO_z HVX.out hD HZ.out hF
      subst hfk
      clear hD hF hvW
      obtain ⟨wB, hwB⟩ : ∃ wB, wB = w10.alloc (Obj.cells #[.string v.p.id, .string v.p.src, .string v.p.tgt, .slice v.c.A v.c.m v.c.c, .slice v.f.A v.f.m v.f.c, .int .i64 v.p.st, .slice v.d.A v.d.m v.d.c] 40) := ⟨_, rfl⟩
      have hEB : Ext w10 wB := by rw [hwB]; exact (Ext.refl _).alloc _
      have hE8B := (hE89.trans hE10).trans hEB
      have hE0B := (hE09.trans hE10).trans hEB
      have X3B := X03 _ hE8B
      have hff : (f == f) = true := by simp
      have hEd : Ext wB wB.drew := (Ext.refl _).drew
      have hEBr : Ext wB wB := Ext.refl _
      have XB := laters X3B
      have HID_ : Hid (∀ W, Ext wB W → Calls Tryd.prog 24 #[.slice AX mX cX] W fun e w' => (∃ B d, e = .returned (.slice B x.e.m d)) ∧ Ext W w') := fun W hW => by
        refine (bids_any cX (hoX8.ext (hE8B.trans hW)) hcapX hmX (hT.ext (hE0B.trans hW))).mono ?_
        rintro e w' ⟨⟨y2, code, B, n, d, rfl, hD, ho, _⟩, hE⟩
        rw [HLX.out] at hD
        obtain ⟨_, rfl⟩ := dec_own2 HVX.out hD
        have hn : n = x.e.m := by rw [ho.len, List.length_map, sortE_len, HPL.out, HXL.out]
        subst hn
        exact ⟨⟨B, d, rfl⟩, hE⟩
      clear X00 X01 X02 X03 X3B
      go_wp2
      rw [← hwB]
      clear hwB
      go_region_held3 (fun w' => w'.cell? ⟨g, 3, none⟩ = some (.slice x.e.A x.e.m x.e.c))
        (exact XB _ (by assumption))
        (first
          | (go_at_call 24; (with_reducible refine (HID_.out _ (by assumption)).mono ?_); rintro e w11 ⟨⟨B, d, rfl⟩, hE11⟩; have hEB11 : Ext wB w11 := Ext.trans (by assumption) hE11)
          | fail)
      go_wp2
      go_ret
      exact ⟨rfl, hE0B.trans hEB11⟩
end

set_option maxRecDepth 100000 in
theorem liftedBinaryEntries (os : Os) (started : os.Started) (H : Type) (enc : TypeId × Value → H) :
    ReturnsInHanded {} Tryd.checked os 7 .any (fun w args => (Rows.binaryEntriesSpec.pre enc Tryd.prog Tryd.f7 [] false w args ∧ laidMetH Tryd.prog laidL2 w) ∧ sizedMet enc Tryd.prog Tryd.f7 (OpenSpec.ofChange Rows.binaryEntriesSpec) false w args) (Rows.binaryEntriesSpec.post enc Tryd.prog Tryd.f7 false true false false) := by
  refine returnsInHanded_of_change_and (C := Tryd.checked) (X := fun w _ => laidMetH Tryd.prog laidL2 w) (fun _ _ _ hh h => h.of_heap hh) ownK started (by kernel_rfl) Tryd.func7
    (ChangeSpec.witness_shaped (enc := enc) (C := Tryd.checked) (os := os) (X := fun w _ => laidMetH Tryd.prog laidL2 w) false (World.laidAll Tryd.prog os laidL2) #[.agg #[.string ⟨#[]⟩, .slice none 0 0, .slice none 0 0, .slice none 0 0], .agg #[.string ⟨#[]⟩, .slice none 0 0, .slice none 0 0, .slice none 0 0], .string ⟨#[]⟩] 8 (World.laidAll_os _ _ _)
      (World.shaped_of_ZipB (by kernel_rfl) (by kernel_rfl)) (by kernel_rfl) (by kernel_rfl) (by kernel_rfl)
      (by rw [MakeChecks.laidMetH_plain _ _ _ (by kernel_rfl)]; exact laidMet_laidAll _ (by kernel_rfl) (by kernel_rfl))) ?_
  intro W base args ds gs before hval0 hW hcnd hsz0 hL _
  have hT := tabs2 hL
  have hval : ∀ (j : Nat) t v, Tryd.f7.params[j]? = some t → args[j]? = some v → Value.okWide Tryd.prog W .any base t v := hval0
  have hW' := hW
  obtain ⟨p, q, hA0, hV, rfl, hfz, hnd⟩ := hW
  have hA : DataW.TrodAll enc Tryd.prog W 0 (fun _ => true) true Tryd.f7.params.toList args.toList ds p := hA0
  have hsz : (DataW.weightsEach Tryd.prog (Tryd.f7.params.toList ++ Rows.binaryEntriesSpec.plain.varTypes Tryd.prog) (ds ++ gs)).all (· ≤ reachBytes) = true := hsz0
  rw [Tryd.params7] at hA hval hsz
  obtain ⟨v0, vs0, d0, ds0, p0, q0, hargs0, rfl, rfl, h0, r0⟩ := trodAll_cons hA
  obtain ⟨v1, vs1, d1, ds1, p1, q1, hargs1, rfl, rfl, h1, r1⟩ := trodAll_cons r0
  obtain ⟨v2, vs2, d2, ds2, p2, q2, hargs2, rfl, rfl, h2, r2⟩ := trodAll_cons r1
  obtain ⟨rfl, rfl, rfl⟩ := trodAll_nil r2
  obtain rfl : args = #[v0, v1, v2] := by cases args; simp_all
  obtain ⟨rfl, rfl⟩ := trodVars_none hV
  have k0 := h0
  have lt0 : ∀ x ∈ p0, x.block < W.heap.size := by obtain ⟨m, hm⟩ := k0; exact DataW.trod_lt m _ _ _ hm
  have k1 := h1
  have lt1 : ∀ x ∈ p1, x.block < W.heap.size := by obtain ⟨m, hm⟩ := k1; exact DataW.trod_lt m _ _ _ hm
  obtain ⟨x0, rfl, g0⟩ := opn_top_agg opn_cat ((okWide_struct Tryd.underlying26 (hval 0 26 v0 rfl rfl)).imp fun _ hh => hh.1) h0 (WOk.top hsz (j := 0) rfl rfl)
  obtain ⟨x1, rfl, g1⟩ := opn_top_agg opn_cat ((okWide_struct Tryd.underlying26 (hval 1 26 v1 rfl rfl)).imp fun _ hh => hh.1) h1 (WOk.top hsz (j := 1) rfl rfl)
  obtain ⟨s2, rfl, rfl, rfl, ws2⟩ := Go.ChangeMaps.open_string Tryd.underlying9 (hval 2 9 v2 rfl rfl) h2
  clear hA0 hval0
  refine (bent_walk g0 g1 s2 hT).mono fun e W' ⟨he, bel⟩ => ?_
  subst he
  exact ⟨_, rfl, _, _, _, [], _, [], hW', trodAll_mk1 (shut_bool Tryd.underlying4 _), (trodAll_cons_mk (Below.trod laidK (by kernel_rfl) (of_decide_eq_true (by kernel_rfl)) k0 bel lt0) (trodAll_cons_mk (Below.trod laidK (by kernel_rfl) (of_decide_eq_true (by kernel_rfl)) k1 bel lt1) (trodAll_cons_mk (Go.ChangeMaps.shut_string Tryd.underlying9 ws2) trodAll_mk0))), rfl, Below.frame bel _, fun h => by cases h⟩
theorem BinaryEntries_row : Rows.BinaryEntriesSaid :=
  OpenClaim.holds_of_wide 7 Tryd.f7 rfl rfl rfl rfl rfl rfl rfl ⟨rfl, rfl, rfl, rfl, rfl⟩ rfl rfl rfl rfl rfl (by kernel_rfl) Tryd.func7 (by kernel_rfl)
    (of_decide_eq_true (by kernel_rfl)) (by unfold Func.isWrapper; rw [if_neg (of_decide_eq_false (by kernel_rfl))]; exact ⟨rfl, rfl⟩)
    (fun os started H enc _ => liftedBinaryEntries os started H enc)
theorem BinaryEntries_holds : Rows.BinaryEntriesCardSaid :=
  Claim7.holds_tied_plain_at .later [] Rows.binaryEntriesCard.laidKinds true Rows.binaryEntriesCard.stood.harness Rows.binaryEntriesCard.stood.looks
    BinaryEntries_row (fun _ h => by cases h) (by kernel_rfl) (fun _ h => by cases h) binaryEntries_row_tie rfl ⟨rfl, rfl⟩ (by kernel_rfl) rfl
    (fun f fn hf hfn => by
      obtain rfl : f = 7 := Option.some.inj ((show Tryd.prog.funcNamed Rows.binaryEntriesRow.func = some 7 by kernel_rfl).symm.trans hf) |>.symm
      obtain rfl : fn = Tryd.f7 := (Option.some.inj (Tryd.func7.symm.trans hfn)).symm
      exact ⟨by kernel_rfl, fun j t ht => by
        rw [Tryd.params7] at ht
        have hm : t ∈ [26, 9] := by simpa using Array.mem_of_getElem? ht
        have hall : ([26, 9].all fun u => !Tryd.prog.wantsStandIn u) = true := by kernel_rfl
        exact (show Tryd.prog.wantsStandIn t = false by simpa using List.all_eq_true.1 hall t hm)⟩)
    (by kernel_rfl)
#print axioms BinaryEntries_holds

end Go.Proofs.YtngpajaghadhdaaDoor
