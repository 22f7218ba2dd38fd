/- The offsets of the directory lead to the IDs of the entries with its indices, in ascending order. No condition. -/
import Derived.Test.YtngpajaghadhdaaDoorBinAw
import Derived.Test.YtngpajaghadhdaaDoorBinDP
import Derived.Test.YtngpajaghadhdaaDoorBinL
import Derived.Test.YtngpajaghadhdaaDoorRVal
import Derived.Test.YtngpajaghadhdaaDoorCatCard
import Derived.ProofKit
import Derived.OpenShut
import Derived.ShutString
import Derived.ChangeOld
import Derived.SizedLaws
namespace Go.Proofs.YtngpajaghadhdaaDoor
open Go.ChangeShapes Go.WideShapes Go.ChangeAt Go.RowKit
set_option maxRecDepth 100000
attribute [local go_sem] ext_refl_t ext_alloc_t ext_drew_t ext_drewN_t ext_alloc2_t ext_alloc3_t ext_alloc4_t ext_alloc5_t ext_alloc6_t ext_alloc7_t ext_alloc8_t ext_alloc1d_t ext_alloc2d_t ext_alloc3d_t ext_alloc4d_t
def laidL2 : List (String × DataW Unit) := Rows.binaryDirectoryRow.laid
theorem tabs2 {W : World} (h : laidMetH Tryd.prog laidL2 W) : Tabs W := tabs_of_laid h
theorem numAt_cut (L : List UInt8) (i : Nat) {t : Nat} (ht : t + 4 ≤ 8) : numAt ((L.take (i + 8)).drop i) t = numAt L (i + t) := by
  unfold numAt
  simp only [List.getD_eq_getElem?_getD, List.getElem?_drop, List.getElem?_take, ← Nat.add_assoc]
  rw [if_pos (by omega), if_pos (by omega), if_pos (by omega), if_pos (by omega)]
theorem numAt_get {D : List UInt8} {t : Nat} (h : t + 4 ≤ D.length) : numAt D t = (D[t]'(by omega)).toNat * 16777216 + (D[t + 1]'(by omega)).toNat * 65536 + (D[t + 2]'(by omega)).toNat * 256 + (D[t + 3]'(by omega)).toNat := by
  unfold numAt
  simp only [List.getD_eq_getElem?_getD, List.getElem?_eq_getElem (show t < D.length by omega), List.getElem?_eq_getElem (show t + 1 < D.length by omega), List.getElem?_eq_getElem (show t + 2 < D.length by omega), List.getElem?_eq_getElem (show t + 3 < D.length by omega), Option.getD_some]
section
variable {w : World}
set_option maxHeartbeats 12800000 in
theorem dirlaw_walk {x : Cat} (hx : CatW w x) (hT : Tabs w) :
    Calls Tryd.prog 4 #[catV x] w fun e w' => e = .returned (.bool true) ∧ Ext w w' := by
  have HIDV : Hid (∀ y : Cat, catV y = .agg #[.string y.tag, .slice y.c.A y.c.m y.c.c, .slice y.d.A y.d.m y.d.c, .slice y.e.A y.e.m y.e.c]) := fun _ => rfl
  rw [HIDV.out x]
  obtain ⟨W0, hW0⟩ : ∃ W0, W0 = w.alloc (Obj.cells #[.string x.tag, .slice x.c.A x.c.m x.c.c, .slice x.d.A x.d.m x.d.c, .slice x.e.A x.e.m x.e.c] 26) := ⟨_, rfl⟩
  have hb0 : Blk W0 w.heap.size 26 #[.string x.tag, .slice x.c.A x.c.m x.c.c, .slice x.d.A x.d.m x.d.c, .slice x.e.A x.e.m x.e.c] := by rw [hW0]; exact Blk.new w _ _
  have hE0 : Ext w W0 := by rw [hW0]; exact (Ext.refl w).alloc _
  have hawk := awake_bin (hT.ext hE0)
  obtain ⟨g, hg⟩ : ∃ g, g = w.heap.size := ⟨_, rfl⟩
  go_enter Tryd.func4, Tryd.ntmps4
  go_wp2_with (first
    | (go_at_call 8; refine Hid.out ?_))
  rw [← hW0, ← hg]
  rw [← hg] at hb0
  refine Hid.mk_ (hawk.mono ?_)
  rintro e w1 ⟨rfl, hE1⟩
  have hE01 := hE0.trans hE1
  have X00 := laters (show W0.cell? ⟨g, 0, none⟩ = some (.string x.tag) from hb0.cell 0)
  have X01 := laters (show W0.cell? ⟨g, 1, none⟩ = some (.slice x.c.A x.c.m x.c.c) from hb0.cell 1)
  have X02 := laters (show W0.cell? ⟨g, 2, none⟩ = some (.slice x.d.A x.d.m x.d.c) from hb0.cell 2)
  have X03 := laters (show W0.cell? ⟨g, 3, none⟩ = some (.slice x.e.A x.e.m x.e.c) from hb0.cell 3)
  clear hW0 hg hawk hb0
  have hfc := few_any (hx.ext hE01)
  rw [HIDV.out x] at hfc
  go_wp2_with (first
    | (go_at_call 9; refine Hid.out ?_))
  refine Hid.mk_ ((hfc).mono ?_)
  rintro e w2 ⟨rfl, hE2⟩
  clear hfc
  have hE12 := hE1.trans hE2
  have hE02 := hE01.trans hE2
  cases hf1 : fewC x.p with
  | false =>
    clear hf1
    go_wp2
    go_ret
    exact ⟨rfl, hE02⟩
  | true =>
  have hvc := rvalid_any (hx.ext hE02)
  rw [HIDV.out x] at hvc
  go_wp2_with (first
    | (go_at_call 12; refine Hid.out ?_))
  refine Hid.mk_ ((hvc).mono ?_)
  rintro e w3 ⟨rfl, hE3⟩
  clear hvc hf1
  have hE13 := hE12.trans hE3
  have hE03 := hE02.trans hE3
  cases hv : validC x.p with
  | false =>
    clear hv
    go_wp2
    go_ret
    exact ⟨rfl, hE03⟩
  | true =>
  have HSH := Lib.hid (validC_short hv)
  have HV := Lib.hid hv
  have he1 := bencode_any (hx.ext hE03) (hT.ext hE03)
  rw [HIDV.out x] at he1
  go_wp2_with (first
    | (go_at_call 10; refine Hid.out ?_))
  refine Hid.mk_ ((he1).mono ?_)
  rintro e w4 ⟨⟨A, m, c, code, L, rfl, ho, hR⟩, hE4⟩
  obtain ⟨rfl, hL⟩ : code = 0 ∧ L = encC x.p := by
    rcases hR with ⟨_, a, b⟩ | ⟨h, _, _⟩
    · exact ⟨a, b⟩
    · rw [HV.out] at h; cases h
  have HLE := Lib.hid hL
  have RC := Lib.hid (readsC HSH.out)
  have HLm : Hid (m = L.length) := ho.len
  have hm8 : 8 ≤ m := by rw [HLm.out, hL]; exact RC.out.l8
  have hmb : m ≤ 400000000 := by rw [HLm.out, hL, RC.out.len]; exact totE_le HSH.out
  have hcap := ho.cap
  have HDL : Hid (x.p.fd.length = x.d.m) := hx.d.sl.len.symm
  have HEL : Hid (x.p.es.length = x.e.m) := by show _ = _; rw [hx.e.sl.len]; exact List.length_map _
  have HXL : Hid (x.e.m = x.es.length) := hx.e.sl.len
  have hdm : x.d.m ≤ 20 := by have h1 := HSH.out.fd.1; rw [HDL.out] at h1; exact h1
  have hem : x.e.m ≤ 1000 := by have h1 := HSH.out.es.1; rw [HEL.out] at h1; exact h1
  have hE14 := hE13.trans hE4
  have hE04 := hE03.trans hE4
  obtain ⟨A8, _, hr8, _, hs8, _⟩ := cut_run ho.sl (i := 8) (j := m) hm8 (Nat.le_refl _) hcap
  have q1 : ∀ W, (Instr.sliceAt 29 (.slice A m c) (some (.int .i64 8)) none none).run Tryd.prog W = .ok (.slice A8 (m - 8) (c - 8)) W := fun W => (hr8 W .i64 8 rfl rfl).1
  have q2 : ∀ W, (Instr.slice 29 (.slice A m c) (some (.int .i64 8)) none none).run Tryd.prog W = .ok (.slice A8 (m - 8) (c - 8)) W := fun W => (hr8 W .i64 8 rfl rfl).2
  rw [List.take_of_length_le (by rw [← HLm.out]; exact Nat.le_refl _)] at hs8
  obtain ⟨bs, hbs⟩ : ∃ bs, bs = L.drop 8 := ⟨_, rfl⟩
  rw [← hbs] at hs8
  obtain ⟨p1, hp1⟩ : ∃ p, p = (encS (bys x.p.tag)).length := ⟨_, rfl⟩
  obtain ⟨p2, hp2⟩ : ∃ p, p = (encS (bys x.p.tag) ++ encL (x.p.com.map bys)).length := ⟨_, rfl⟩
  obtain ⟨hl, hhl⟩ : ∃ p, p = (headE x.p).length := ⟨_, rfl⟩
  have HT1 : Hid (stepS bs 0 false = (bys x.tag, p1, false)) := by show _ = _; rw [hbs, hL, hp1]; exact RC.out.tag
  have HC1 : Hid (stepL 20 bs p1 false = (x.com.map bys, p2, false)) := by show _ = _; rw [hbs, hL, hp1, hp2]; exact RC.out.com
  have HI1 : Hid (stepI bs p2 false = ((x.d.m : Int), posF x.p 0, false)) := by show _ = _; rw [hbs, hL, hp2, ← HDL.out]; exact (posF_read HSH.out).1
  have HS1 : Hid (∀ q, q < 2 * x.d.m → ∃ s, stepS bs (posF x.p q) false = (s, posF x.p (q + 1), false)) := fun q hq => by
    rw [hbs, hL]
    exact ⟨_, (posF_read HSH.out).2 q (by rw [strsF_len, HDL.out]; exact hq)⟩
  have HN1 : Hid (stepI bs (posF x.p (2 * x.d.m)) false = ((x.e.m : Int), hl, false)) := by show _ = _; rw [hbs, hL, hhl, ← HDL.out, posF_end, ← HEL.out]; exact RC.out.nI
  have hat : 8 + hl + 8 * x.e.m ≤ m := by
    have h1 := RC.out.at_
    unfold atE at h1
    rw [← hhl, HEL.out, ← hL, ← HLm.out] at h1
    exact h1
  have HHL := Lib.hid hhl
  clear hv hR he1 hr8 hbs hp1 hp2 hhl hL
  go_wp2_with (first
    | (go_at_call 13; refine Hid.out ?_))
  refine Hid.mk_ ((read_any (c - 8) hs8).mono ?_)
  rintro e w5 ⟨g2, A5, m5, c5, rfl, hRd, hE5, hg2, hA5⟩
  have hE45 := hE5
  go_wp2_with (first
    | (go_at_call 14; refine Hid.out ?_))
  refine Hid.mk_ ((rString hRd).mono ?_)
  rintro e w6 ⟨rfl, hR6, hg6⟩
  rw [HT1.out] at hR6 ⊢
  dsimp only at hR6
  simp only [str_bys]
  have hE46 := hE45.grown hg6 (fun k hk => by cases hk; exact hg2)
  have hm5 : m5 ≤ 8796093000000 := by
    have h1 := hR6.rd.len
    have h2 := hs8.len
    omega
  go_wp2_with (first
    | (go_at_call 15; refine Hid.out ?_))
  refine Hid.mk_ ((rStrings 20 hR6 hm5).mono ?_)
  rintro e w7 ⟨A7, m7, c7, rfl, ho7, hR7, hg7⟩
  rw [HC1.out] at hR7
  dsimp only at hR7
  have hE47 := hE46.grown hg7 (fun k hk => by cases hk; exact hg2)
  clear ho7
  go_wp2_with (first
    | (go_at_call 16; refine Hid.out ?_))
  refine Hid.mk_ ((rInt hR7).mono ?_)
  rintro e w8 ⟨rfl, hR8, hg8⟩
  rw [HI1.out] at hR8 ⊢
  dsimp only at hR8 ⊢
  have hE48 := hE47.grown hg8 (fun k hk => by cases hk; exact hg2)
  replace X00 := laters (X00 _ hE14)
  replace X01 := laters (X01 _ hE14)
  replace X02 := laters (X02 _ hE14)
  replace X03 := laters (X03 _ hE14)
  clear hRd hR6 hR7 hg6 hg7 hg8 hE46 hE47 hE45 hE5
  go_wp2
  go_loopw [8] (fun i wr => ∃ q : Nat, q ≤ 2 * x.d.m ∧ i = .int .i64 q ∧ Rdr wr g2 A5 m5 c5 bs (posF x.p q) false ∧ Ext w4 wr) (fun i _ => 2 * x.d.m - (intOf i).toNat)
  case atStart => exact ⟨0, Nat.zero_le _, rfl, hR8, hE48⟩
  case round =>
    obtain ⟨q, hq, rfl, hRr, hE4r⟩ := hrel
    by_cases hlt : q < 2 * x.d.m
    · have hi1 : (q : Int) < 2 * (x.d.m : Int) := by omega
      obtain ⟨s, hs⟩ := HS1.out q hlt
      have HSQ := Lib.hid hs
      clear hs
      go_wp2_with (first
        | (go_at_call 14; refine Hid.out ?_))
      refine Hid.mk_ ((rString hRr).mono ?_)
      rintro e w9 ⟨rfl, hR9, hg9⟩
      rw [HSQ.out] at hR9
      dsimp only at hR9
      have hE49 := hE4r.grown hg9 (fun k hk => by cases hk; exact hg2)
      go_wp2
      go_roundw
      case rel => exact ⟨q + 1, by omega, by go_num, hR9, hE49⟩
      case measure => simp [intOf]; omega
    · have hi1 : ¬ (q : Int) < 2 * (x.d.m : Int) := by omega
      have hqe : q = 2 * x.d.m := by omega
      rw [hqe] at hRr
      clear hqe
      go_wp2_with (first
        | (go_at_call 16; refine Hid.out ?_))
      refine Hid.mk_ ((rInt hRr).mono ?_)
      rintro e w9 ⟨rfl, hR9, hg9⟩
      rw [HN1.out] at hR9 ⊢
      dsimp only at hR9 ⊢
      have hE49 := hE4r.grown hg9 (fun k hk => by cases hk; exact hg2)
      go_wp2_with (first
        | (go_at_call 17; refine Hid.out ?_))
      refine Hid.mk_ ((offset_any hR9).mono ?_)
      rintro e w10 ⟨rfl, rfl⟩
      have hi9 : ¬ (m : Int) < 8 + (hl : Int) + 8 * (x.e.m : Int) := by omega
      clear hR9 hg9 hRr
      go_wp2
      go_loopw [11, 12] (fun s i wr => ∃ (q : Nat) (last : ByteArray), q ≤ x.e.m ∧ i = .int .i64 q ∧ s = .string last ∧ Hid (last = lastId x.p.es q) ∧ Ext w4 wr) (fun _ i _ => x.e.m - (intOf i).toNat)
      case atStart => exact ⟨0, ⟨#[]⟩, Nat.zero_le _, rfl, rfl, Lib.hid rfl, hE49⟩
      case round =>
        obtain ⟨q2, last, hq2, rfl, rfl, HLA, hE4q⟩ := hrel
        by_cases hlt2 : q2 < x.e.m
        · have hi2 : (q2 : Int) < (x.e.m : Int) := by omega
          have hqs : q2 < (sortE x.p.es).length := by rw [sortE_len, HEL.out]; exact hlt2
          have hdn := dir_num HSH.out hqs
          have hidn := lastId_lt HV.out (validC_nodup HV.out) hqs
          have hls := lastId_succ x.p.es hqs
          have hkl0 : (sortE x.p.es)[q2] < x.p.es.length := sortE_lt (List.getElem_mem _)
          obtain ⟨k, hk⟩ : ∃ k, k = (sortE x.p.es)[q2] := ⟨_, rfl⟩
          rw [← hk] at hdn hidn hls hkl0
          clear hk
          have hoff0 := off_id HSH.out hkl0
          have hofge := off_ge x.p k
          have hofle : offE x.p k ≤ totE x.p := offE_le _ _
          have hofz : k = 0 → offE x.p k = atE x.p := fun e => by rw [e]; exact off_zero _
          obtain ⟨of, hof⟩ : ∃ of, of = offE x.p k := ⟨_, rfl⟩
          rw [← hof] at hdn hoff0 hofge hofle hofz
          have hatE : atE x.p = 8 + hl + 8 * x.e.m := by unfold atE; rw [← HHL.out, HEL.out]
          have htot : totE x.p = m := by rw [HLm.out, HLE.out, RC.out.len]
          rw [hatE] at hofge hofz
          rw [htot] at hofle
          rw [← HLE.out] at hdn hoff0
          rw [← HHL.out] at hdn
          obtain ⟨hd1, hd2, hd3⟩ := hdn
          have hkm : k < x.e.m := by rw [← HEL.out]; exact hkl0
          have hkx : k < x.es.length := by rw [← HXL.out]; exact hkm
          have HID0 := Lib.hid hoff0
          have HLT := Lib.hid hidn
          have HLS := Lib.hid hls
          obtain ⟨Ad, hrd, _, _, hsd, _⟩ := cut_run (ho.sl.ext hE4q) (i := 8 + hl + 8 * q2) (j := 8 + hl + 8 * q2 + 8) (by omega) (by rw [HLm.out]; exact hd3) hcap
          have e8 : 8 + hl + 8 * q2 + 8 - (8 + hl + 8 * q2) = 8 := by omega
          rw [e8] at hrd hsd
          obtain ⟨cd, hcd⟩ : ∃ cd, cd = c - (8 + hl + 8 * q2) := ⟨_, rfl⟩
          rw [← hcd] at hrd
          have j1 : ∀ W, (Instr.sliceAt 29 (.slice A m c) (some (.int .i64 (8 + (hl : Int) + 8 * (q2 : Int)))) (some (.int .i64 (8 + (hl : Int) + 8 * (q2 : Int) + 8))) none).run Tryd.prog W = .ok (.slice Ad 8 cd) W := fun W => (hrd W .i64 .i64 _ _ (by omega) (by omega)).1
          have j2 : ∀ W, (Instr.slice 29 (.slice A m c) (some (.int .i64 (8 + (hl : Int) + 8 * (q2 : Int)))) (some (.int .i64 (8 + (hl : Int) + 8 * (q2 : Int) + 8))) none).run Tryd.prog W = .ok (.slice Ad 8 cd) W := fun W => (hrd W .i64 .i64 _ _ (by omega) (by omega)).2
          have hnc1 := numAt_cut L (8 + hl + 8 * q2) (t := 0) (by omega)
          have hnc2 := numAt_cut L (8 + hl + 8 * q2) (t := 4) (by omega)
          rw [show 8 + hl + 8 * q2 + 0 = 8 + hl + 8 * q2 from rfl, hd1] at hnc1
          rw [hd2] at hnc2
          obtain ⟨D, hD⟩ : ∃ D, D = (L.take (8 + hl + 8 * q2 + 8)).drop (8 + hl + 8 * q2) := ⟨_, rfl⟩
          rw [← hD] at hsd hnc1 hnc2
          have hl8 : D.length = 8 := hsd.len.symm
          obtain ⟨b, off, hAd, _, hc8⟩ := hsd.at_ (show 0 < 8 by omega)
          rw [numAt_get (by omega)] at hnc1 hnc2
          obtain ⟨y0, hy0⟩ : ∃ y, y = D[0]'(by omega) := ⟨_, rfl⟩
          have k0 := hc8 0 (by omega)
          rw [← hy0] at k0
          have z0 := y0.toNat_lt
          obtain ⟨y1, hy1⟩ : ∃ y, y = D[1]'(by omega) := ⟨_, rfl⟩
          have k1 := hc8 1 (by omega)
          rw [← hy1] at k1
          have z1 := y1.toNat_lt
          obtain ⟨y2, hy2⟩ : ∃ y, y = D[2]'(by omega) := ⟨_, rfl⟩
          have k2 := hc8 2 (by omega)
          rw [← hy2] at k2
          have z2 := y2.toNat_lt
          obtain ⟨y3, hy3⟩ : ∃ y, y = D[3]'(by omega) := ⟨_, rfl⟩
          have k3 := hc8 3 (by omega)
          rw [← hy3] at k3
          have z3 := y3.toNat_lt
          obtain ⟨y4, hy4⟩ : ∃ y, y = D[4]'(by omega) := ⟨_, rfl⟩
          have k4 := hc8 4 (by omega)
          rw [← hy4] at k4
          have z4 := y4.toNat_lt
          obtain ⟨y5, hy5⟩ : ∃ y, y = D[5]'(by omega) := ⟨_, rfl⟩
          have k5 := hc8 5 (by omega)
          rw [← hy5] at k5
          have z5 := y5.toNat_lt
          obtain ⟨y6, hy6⟩ : ∃ y, y = D[6]'(by omega) := ⟨_, rfl⟩
          have k6 := hc8 6 (by omega)
          rw [← hy6] at k6
          have z6 := y6.toNat_lt
          obtain ⟨y7, hy7⟩ : ∃ y, y = D[7]'(by omega) := ⟨_, rfl⟩
          have k7 := hc8 7 (by omega)
          rw [← hy7] at k7
          have z7 := y7.toNat_lt
          simp only [Nat.zero_add, Nat.reduceAdd, ← hy0, ← hy1, ← hy2, ← hy3, ← hy4, ← hy5, ← hy6, ← hy7] at hnc1 hnc2
          have HN0 := Lib.hid hnc1
          have HN4 := Lib.hid hnc2
          simp only [Nat.add_zero] at k0
          have X0 := laters k0
          have X1 := laters k1
          have X2 := laters k2
          have X3 := laters k3
          have X4 := laters k4
          have X5 := laters k5
          have X6 := laters k6
          have X7 := laters k7
          have V0 := latersU k0
          have V1 := latersU k1
          have V2 := latersU k2
          have V3 := latersU k3
          subst hAd
          clear hoff0 hidn hls hd1 hd2 hd3 hrd hsd hcd e8 hnc1 hnc2 hD hl8 hc8 hy0 hy1 hy2 hy3 hy4 hy5 hy6 hy7 hatE htot hof
          have n1 : ¬ (x.e.m : Int) ≤ (k : Int) := by omega
          have n2 : ¬ (of : Int) < 8 + (hl : Int) + 8 * (x.e.m : Int) := by omega
          have n3 : ¬ (m : Int) < (of : Int) := by omega
          by_cases hk0 : k = 0
          · have hoz : (of : Int) = 8 + (hl : Int) + 8 * (x.e.m : Int) := by have := hofz hk0; omega
            clear hofz
            subst hk0
            go_wp2
            refine wp_region_ext_lit (by kernel_rfl) (by kernel_rfl) ?_
            try dsimp only [List.append]
            repeat (go_big_quiet_step (fail))
            refine wpQuiet_nil ?_
            rintro w5a ⟨⟨_, h5a⟩, rfl⟩
            try dsimp only
            have hE4a := hE4q.trans h5a
            have U4 := fun (u : ExtOf w5a) => X4 u.val (h5a.trans u.ext)
            have U5 := fun (u : ExtOf w5a) => X5 u.val (h5a.trans u.ext)
            have U6 := fun (u : ExtOf w5a) => X6 u.val (h5a.trans u.ext)
            have U7 := fun (u : ExtOf w5a) => X7 u.val (h5a.trans u.ext)
            clear X0 X1 X2 X3 X4 X5 X6 X7 k0 k1 k2 k3 k4 k5 k6 k7
            go_wp2
            refine wp_region_ext_lit (by kernel_rfl) (by kernel_rfl) ?_
            try dsimp only [List.append]
            repeat (go_big_quiet_step (fail))
            refine wpQuiet_nil ?_
            rintro w6a ⟨⟨_, h6a⟩, rfl⟩
            try dsimp only
            clear U4 U5 U6 U7
            have hE4b := hE4a.trans h6a
            rw [be4 _ _ _ _ z0 z1 z2 z3, be4 _ _ _ _ z4 z5 z6 z7, HN0.out, HN4.out]
            obtain ⟨Ae, _, hre, _, hse, _⟩ := cut_run (ho.sl.ext hE4b) (i := of) (j := m) hofle (Nat.le_refl _) hcap
            have j3 : ∀ W, (Instr.sliceAt 29 (.slice A m c) (some (.int .i64 (8 + (hl : Int) + 8 * (x.e.m : Int)))) none none).run Tryd.prog W = .ok (.slice Ae (m - of) (c - of)) W := fun W => (hre W .i64 _ (by omega) rfl).1
            have j4 : ∀ W, (Instr.slice 29 (.slice A m c) (some (.int .i64 (8 + (hl : Int) + 8 * (x.e.m : Int)))) none none).run Tryd.prog W = .ok (.slice Ae (m - of) (c - of)) W := fun W => (hre W .i64 _ (by omega) rfl).2
            have i5 : 8 + (hl : Int) + 8 * (x.e.m : Int) ≤ (m : Int) := by omega
            rw [List.take_of_length_le (by rw [← HLm.out]; exact Nat.le_refl _)] at hse
            obtain ⟨eb1, eo1, eA1, _, hcs1⟩ := ((hx.e.sl.ext hE04)).at_ hkm (by omega)
            obtain ⟨v1, hv1⟩ : ∃ v, v = x.es[0]'hkx := ⟨_, rfl⟩
            have q10 := hcs1 0 hkx 0 (by omega)
            have q11 := hcs1 0 hkx 1 (by omega)
            have q12 := hcs1 0 hkx 2 (by omega)
            have q13 := hcs1 0 hkx 3 (by omega)
            have q14 := hcs1 0 hkx 4 (by omega)
            have q15 := hcs1 0 hkx 5 (by omega)
            have q16 := hcs1 0 hkx 6 (by omega)
            simp only [← hv1, entC, List.getElem_cons_zero, List.getElem_cons_succ, Nat.zero_mul, Nat.zero_add, Nat.add_zero] at q10 q11 q12 q13 q14 q15 q16
            have Z10 := laters q10
            have Z11 := laters q11
            have Z12 := laters q12
            have Z13 := laters q13
            have Z14 := laters q14
            have Z15 := laters q15
            have Z16 := laters q16
            have HVN1 := Lib.hid hv1
            clear hcs1 q10 q11 q12 q13 q14 q15 q16 hv1
            have HIDK : Hid (x.p.es[0].id = v1.p.id) := by show _ = _; rw [HVN1.out]; exact congrArg Ep.id (List.getElem_map ..)
            have HSV : Hid (stepS (L.drop of) 0 false = (bys v1.p.id, (encS (bys v1.p.id)).length, false)) := by show _ = _; rw [← HIDK.out]; exact HID0.out
            have hlt9 : Op.bytesLess last.toList v1.p.id.toList = true := by
              have h9 := HLT.out
              rw [← HLA.out, idAt_lt hkl0, HIDK.out] at h9
              exact h9
            have hlt8 : Op.bytesLess v1.p.id.toList last.toList = false := bO_asym (a := last) (b := v1.p.id) hlt9
            have heq9 : (v1.p.id.toList == last.toList) = false := by
              rw [beq_eq_false_iff_ne]
              intro e
              rw [e] at hlt9 hlt8
              rw [hlt9] at hlt8
              cases hlt8
            clear hlt9
            have HLN : Hid (v1.p.id = lastId x.p.es (q2 + 1)) := by show _ = _; rw [HLS.out, idAt_lt hkl0, HIDK.out]
            have EA1 := Lib.hid eA1
            clear hre eA1
            go_wp2_with (first
              | (go_at_call 13; refine Hid.out ?_))
            refine Hid.mk_ ((read_any (c - of) hse).mono ?_)
            rintro e w11 ⟨g3, A6, m6, c6, rfl, hRe, hE6, hg3, _⟩
            clear n1 n2 n3
            go_wp2_with (first
              | (go_at_call 14; refine Hid.out ?_))
            refine Hid.mk_ ((rString hRe).mono ?_)
            rintro e w12 ⟨rfl, hR12, hg12⟩
            rw [HSV.out] at ⊢
            simp only [str_bys]
            have hE4c := (hE4b.trans hE6).grown hg12 (fun k hk => by cases hk; exact Nat.le_trans hE4b.size_le hg3)
            clear hR12 hg12 hRe hse
            have eA1 := EA1.out
            go_wp2
            go_roundw
            case rel => exact ⟨q2 + 1, v1.p.id, by omega, by go_num, rfl, HLN, hE4c⟩
            case measure => simp [intOf]; omega
          · have hkz : ¬ (k : Int) = 0 := by omega
            clear hofz hk0
            go_wp2
            refine wp_region_ext_lit (by kernel_rfl) (by kernel_rfl) ?_
            try dsimp only [List.append]
            repeat (go_big_quiet_step (fail))
            refine wpQuiet_nil ?_
            rintro w5a ⟨⟨_, h5a⟩, rfl⟩
            try dsimp only
            have hE4a := hE4q.trans h5a
            have U4 := fun (u : ExtOf w5a) => X4 u.val (h5a.trans u.ext)
            have U5 := fun (u : ExtOf w5a) => X5 u.val (h5a.trans u.ext)
            have U6 := fun (u : ExtOf w5a) => X6 u.val (h5a.trans u.ext)
            have U7 := fun (u : ExtOf w5a) => X7 u.val (h5a.trans u.ext)
            clear X0 X1 X2 X3 X4 X5 X6 X7 k0 k1 k2 k3 k4 k5 k6 k7
            go_wp2
            refine wp_region_ext_lit (by kernel_rfl) (by kernel_rfl) ?_
            try dsimp only [List.append]
            repeat (go_big_quiet_step (fail))
            refine wpQuiet_nil ?_
            rintro w6a ⟨⟨_, h6a⟩, rfl⟩
            try dsimp only
            clear U4 U5 U6 U7
            have hE4b := hE4a.trans h6a
            rw [be4 _ _ _ _ z0 z1 z2 z3, be4 _ _ _ _ z4 z5 z6 z7, HN0.out, HN4.out]
            obtain ⟨Ae, _, hre, _, hse, _⟩ := cut_run (ho.sl.ext hE4b) (i := of) (j := m) hofle (Nat.le_refl _) hcap
            have j3 : ∀ W, (Instr.sliceAt 29 (.slice A m c) (some (.int .i64 ((of : Int)))) none none).run Tryd.prog W = .ok (.slice Ae (m - of) (c - of)) W := fun W => (hre W .i64 _ (by omega) rfl).1
            have j4 : ∀ W, (Instr.slice 29 (.slice A m c) (some (.int .i64 ((of : Int)))) none none).run Tryd.prog W = .ok (.slice Ae (m - of) (c - of)) W := fun W => (hre W .i64 _ (by omega) rfl).2
            have i5 : (of : Int) ≤ (m : Int) := by omega
            rw [List.take_of_length_le (by rw [← HLm.out]; exact Nat.le_refl _)] at hse
            obtain ⟨eb1, eo1, eA1, _, hcs1⟩ := ((hx.e.sl.ext hE04)).at_ hkm (by omega)
            obtain ⟨v1, hv1⟩ : ∃ v, v = x.es[k]'hkx := ⟨_, rfl⟩
            have q10 := hcs1 k hkx 0 (by omega)
            have q11 := hcs1 k hkx 1 (by omega)
            have q12 := hcs1 k hkx 2 (by omega)
            have q13 := hcs1 k hkx 3 (by omega)
            have q14 := hcs1 k hkx 4 (by omega)
            have q15 := hcs1 k hkx 5 (by omega)
            have q16 := hcs1 k hkx 6 (by omega)
            simp only [← hv1, entC, List.getElem_cons_zero, List.getElem_cons_succ, Nat.add_zero, ← Nat.add_assoc] at q10 q11 q12 q13 q14 q15 q16
            have Z10 := laters q10
            have Z11 := laters q11
            have Z12 := laters q12
            have Z13 := laters q13
            have Z14 := laters q14
            have Z15 := laters q15
            have Z16 := laters q16
            have HVN1 := Lib.hid hv1
            clear hcs1 q10 q11 q12 q13 q14 q15 q16 hv1
            have HIDK : Hid (x.p.es[k].id = v1.p.id) := by show _ = _; rw [HVN1.out]; exact congrArg Ep.id (List.getElem_map ..)
            have HSV : Hid (stepS (L.drop of) 0 false = (bys v1.p.id, (encS (bys v1.p.id)).length, false)) := by show _ = _; rw [← HIDK.out]; exact HID0.out
            have hlt9 : Op.bytesLess last.toList v1.p.id.toList = true := by
              have h9 := HLT.out
              rw [← HLA.out, idAt_lt hkl0, HIDK.out] at h9
              exact h9
            have hlt8 : Op.bytesLess v1.p.id.toList last.toList = false := bO_asym (a := last) (b := v1.p.id) hlt9
            have heq9 : (v1.p.id.toList == last.toList) = false := by
              rw [beq_eq_false_iff_ne]
              intro e
              rw [e] at hlt9 hlt8
              rw [hlt9] at hlt8
              cases hlt8
            clear hlt9
            have HLN : Hid (v1.p.id = lastId x.p.es (q2 + 1)) := by show _ = _; rw [HLS.out, idAt_lt hkl0, HIDK.out]
            have EA1 := Lib.hid eA1
            clear hre eA1
            go_wp2_with (first
              | (go_at_call 13; refine Hid.out ?_))
            refine Hid.mk_ ((read_any (c - of) hse).mono ?_)
            rintro e w11 ⟨g3, A6, m6, c6, rfl, hRe, hE6, hg3, _⟩
            clear n1 n2 n3
            go_wp2_with (first
              | (go_at_call 14; refine Hid.out ?_))
            refine Hid.mk_ ((rString hRe).mono ?_)
            rintro e w12 ⟨rfl, hR12, hg12⟩
            rw [HSV.out] at ⊢
            simp only [str_bys]
            have hE4c := (hE4b.trans hE6).grown hg12 (fun k hk => by cases hk; exact Nat.le_trans hE4b.size_le hg3)
            clear hR12 hg12 hRe hse
            have eA1 := EA1.out
            go_wp2
            go_roundw
            case rel => exact ⟨q2 + 1, v1.p.id, by omega, by go_num, rfl, HLN, hE4c⟩
            case measure => simp [intOf]; omega
        · have hi2 : ¬ (q2 : Int) < (x.e.m : Int) := by omega
          go_wp2
          go_ret
          exact ⟨rfl, hE04.trans hE4q⟩
end

set_option maxRecDepth 100000 in
theorem liftedBinaryDirectory (os : Os) (started : os.Started) (H : Type) (enc : TypeId × Value → H) :
    ReturnsInHanded {} Tryd.checked os 4 .any (fun w args => (Rows.binaryDirectorySpec.pre enc Tryd.prog Tryd.f4 [] false w args ∧ laidMetH Tryd.prog laidL2 w) ∧ sizedMet enc Tryd.prog Tryd.f4 (OpenSpec.ofChange Rows.binaryDirectorySpec) false w args) (Rows.binaryDirectorySpec.post enc Tryd.prog Tryd.f4 false true false false) := by
  refine returnsInHanded_of_change_and (C := Tryd.checked) (X := fun w _ => laidMetH Tryd.prog laidL2 w) (fun _ _ _ hh h => h.of_heap hh) ownK started (by kernel_rfl) Tryd.func4
    (ChangeSpec.witness_shaped (enc := enc) (C := Tryd.checked) (os := os) (X := fun w _ => laidMetH Tryd.prog laidL2 w) false (World.laidAll Tryd.prog os laidL2) #[.agg #[.string ⟨#[]⟩, .slice none 0 0, .slice none 0 0, .slice none 0 0]] 8 (World.laidAll_os _ _ _)
      (World.shaped_of_ZipB (by kernel_rfl) (by kernel_rfl)) (by kernel_rfl) (by kernel_rfl) (by kernel_rfl)
      (by rw [MakeChecks.laidMetH_plain _ _ _ (by kernel_rfl)]; exact laidMet_laidAll _ (by kernel_rfl) (by kernel_rfl))) ?_
  intro W base args ds gs before hval0 hW hcnd hsz0 hL _
  have hT := tabs2 hL
  have hval : ∀ (j : Nat) t v, Tryd.f4.params[j]? = some t → args[j]? = some v → Value.okWide Tryd.prog W .any base t v := hval0
  have hW' := hW
  obtain ⟨p, q, hA0, hV, rfl, hfz, hnd⟩ := hW
  have hA : DataW.TrodAll enc Tryd.prog W 0 (fun _ => true) true Tryd.f4.params.toList args.toList ds p := hA0
  have hsz : (DataW.weightsEach Tryd.prog (Tryd.f4.params.toList ++ Rows.binaryDirectorySpec.plain.varTypes Tryd.prog) (ds ++ gs)).all (· ≤ reachBytes) = true := hsz0
  rw [Tryd.params4] at hA hval hsz
  obtain ⟨v0, vs0, d0, ds0, p0, q0, hargs0, rfl, rfl, h0, r0⟩ := trodAll_cons hA
  obtain ⟨rfl, rfl, rfl⟩ := trodAll_nil r0
  obtain rfl : args = #[v0] := by cases args; simp_all
  obtain ⟨rfl, rfl⟩ := trodVars_none hV
  have k0 := h0
  have lt0 : ∀ x ∈ p0, x.block < W.heap.size := by obtain ⟨m, hm⟩ := k0; exact DataW.trod_lt m _ _ _ hm
  obtain ⟨x0, rfl, g0⟩ := opn_top_agg opn_cat ((okWide_struct Tryd.underlying26 (hval 0 26 v0 rfl rfl)).imp fun _ hh => hh.1) h0 (WOk.top hsz (j := 0) rfl rfl)
  clear hA0 hval0
  refine (dirlaw_walk g0 hT).mono fun e W' ⟨he, bel⟩ => ?_
  subst he
  exact ⟨_, rfl, _, _, _, [], _, [], hW', trodAll_mk1 (shut_bool Tryd.underlying4 _), (trodAll_cons_mk (Below.trod laidK (by kernel_rfl) (of_decide_eq_true (by kernel_rfl)) k0 bel lt0) trodAll_mk0), rfl, Below.frame bel _, fun h => by cases h⟩
theorem BinaryDirectory_row : Rows.BinaryDirectorySaid :=
  OpenClaim.holds_of_wide 4 Tryd.f4 rfl rfl rfl rfl rfl rfl rfl ⟨rfl, rfl, rfl, rfl, rfl⟩ rfl rfl rfl rfl rfl (by kernel_rfl) Tryd.func4 (by kernel_rfl)
    (of_decide_eq_true (by kernel_rfl)) (by unfold Func.isWrapper; rw [if_neg (of_decide_eq_false (by kernel_rfl))]; exact ⟨rfl, rfl⟩)
    (fun os started H enc _ => liftedBinaryDirectory os started H enc)
theorem BinaryDirectory_holds : Rows.BinaryDirectoryCardSaid :=
  Claim7.holds_tied_plain_at .later [] Rows.binaryDirectoryCard.laidKinds true Rows.binaryDirectoryCard.stood.harness Rows.binaryDirectoryCard.stood.looks
    BinaryDirectory_row (fun _ h => by cases h) (by kernel_rfl) (fun _ h => by cases h) binaryDirectory_row_tie rfl ⟨rfl, rfl⟩ (by kernel_rfl) rfl
    (fun f fn hf hfn => by
      obtain rfl : f = 4 := Option.some.inj ((show Tryd.prog.funcNamed Rows.binaryDirectoryRow.func = some 4 by kernel_rfl).symm.trans hf) |>.symm
      obtain rfl : fn = Tryd.f4 := (Option.some.inj (Tryd.func4.symm.trans hfn)).symm
      exact ⟨by kernel_rfl, fun j t ht => by
        rw [Tryd.params4] at ht
        have hm : t ∈ [26] := by simpa using Array.mem_of_getElem? ht
        have hall : ([26].all fun u => !Tryd.prog.wantsStandIn u) = true := by kernel_rfl
        exact (show Tryd.prog.wantsStandIn t = false by simpa using List.all_eq_true.1 hall t hm)⟩)
    (by kernel_rfl)
#print axioms BinaryDirectory_holds

end Go.Proofs.YtngpajaghadhdaaDoor
