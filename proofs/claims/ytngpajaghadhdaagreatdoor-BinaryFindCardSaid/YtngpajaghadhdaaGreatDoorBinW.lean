/- Writing fields and records of entries: the program's way. -/
import Derived.Test.YtngpajaghadhdaaGreatDoorBinD
import Derived.Test.YtngpajaghadhdaaGreatDoorCatE
namespace Go.Proofs.YtngpajaghadhdaaGreatDoor
open Go.RowKit
set_option maxRecDepth 100000
attribute [local go_sem] ext_refl_t ext_alloc_t ext_drew_t ext_drewN_t ext_alloc2_t ext_alloc3_t ext_alloc4_t ext_alloc5_t ext_alloc6_t ext_alloc7_t ext_alloc8_t ext_alloc1d_t ext_alloc2d_t ext_alloc3d_t ext_alloc4d_t
theorem StrsW.sls_ {w : World} {h : SlH} {l : List ByteArray} (hs : StrsW w h l) : SlS w h.A h.m l := SlC.sls hs.sl (by have := hs.bd; omega)
theorem encL_map (l : List ByteArray) : encI l.length ++ (l.flatMap fun s => encS (bys s)) = encL (l.map bys) := by
  unfold encL
  rw [List.length_map, List.flatMap_map]
theorem flat_short {l : List ByteArray} (h : l.length ≤ 20 ∧ ∀ s ∈ l, s.size ≤ 4000) : (l.flatMap fun s => encS (bys s)).length ≤ 80180 := by
  have h1 := flat_le_of (fun s => encS (bys s)) 4009 l fun s hs => encS_le (h.2 s hs)
  have h2 := Nat.mul_le_mul_right 4009 h.1
  omega
section
variable {w : World}
set_option maxHeartbeats 6400000 in
theorem bfields_any {A : Option Addr} {m c : Nat} {l : List UInt8} {h : SlH} {f : List Fd} (hb : SlB w A m l) (hm : m ≤ 1000000) (hf : FdsW w h f) (hs : f.length ≤ 20 ∧ ∀ x ∈ f, x.1.size ≤ 4000 ∧ x.2.size ≤ 4000) :
    Calls Tryz.prog 45 #[.slice A m c, .slice h.A h.m h.c] w fun e w' => ∃ A' m' c', e = .returned (.slice A' m' c') ∧ OsB w' w.heap.size A' m' c' (l ++ encF f) ∧ Ext w w' := by
  obtain ⟨B, n, d⟩ := h
  have HL : Hid (n = f.length) := hf.sl.len
  have hn20 : n ≤ 20 := by have := HL.out; omega
  have HS := Lib.hid hs
  have hsl : SlC fdC 2 w B n f := hf.sl
  have HML := Lib.hid hb.len
  clear hf hs
  dsimp only
  go_enter Tryz.func45, Tryz.ntmps45
  go_wp2_with (first
    | (go_at_call 48; refine Hid.out ?_))
  refine Hid.mk_ ((packInt c (n : Int) hb (by omega) (by omega) (by omega)).mono ?_)
  rintro e w1 ⟨A1, m1, c1, rfl, ho1, hE1⟩
  have hm1 : Hid (m1 ≤ 1000000 + 9) := by show _ ≤ _; have h1 := ho1.len; have h2 := encI_length_le (n : Int); have h3 := HML.out; rw [List.length_append] at h1; omega
  go_wp2
  go_loopw [0, 6, 13] (fun b _ i wr => ∃ (q : Nat) (A : Option Addr) (m c : Nat) (L : List UInt8), q ≤ n ∧ i = .int .i64 q ∧ b = .slice A m c ∧ OsB wr w.heap.size A m c L ∧ Hid (L = l ++ encI n ++ (f.take q).flatMap fdE) ∧ Hid (m ≤ 1000009 + q * 8018) ∧ Ext w wr) (fun _ _ i _ => n - (intOf i).toNat)
  case atStart => exact ⟨0, A1, m1, c1, _, Nat.zero_le _, rfl, rfl, ho1, by show _ = _; simp, by show _ ≤ _; have := hm1.out; omega, hE1⟩
  case round =>
    obtain ⟨q, A, m, c, L, hq, rfl, rfl, ho, HLL, HMM, hE⟩ := hrel
    have hm' : m ≤ 2000000 := by have := HMM.out; omega
    by_cases hlt : q < n
    · have hi1 : (q : Int) < (n : Int) := by omega
      obtain ⟨b, off, e0, hbl, hcs⟩ := (hsl.ext hE).at_ hlt (by omega)
      subst e0
      have hlt1 : q < f.length := by rw [← HL.out]; exact hlt
      obtain ⟨y, hyq⟩ : ∃ y, y = f[q] := ⟨_, rfl⟩
      have y0 := hcs q hlt1 0 (by omega)
      have y1 := hcs q hlt1 1 (by omega)
      simp only [← hyq, fdC, List.getElem_cons_zero, List.getElem_cons_succ, Nat.add_zero, ← Nat.add_assoc] at y0 y1
      have HY := Lib.hid hyq
      have hys : y.1.size ≤ 4000 ∧ y.2.size ≤ 4000 := HS.out.2 y (by rw [hyq]; exact List.getElem_mem _)
      have hys1 := hys.1
      have hys2 := hys.2
      clear hcs hyq hys
      obtain ⟨W1, hW1⟩ : ∃ W1, W1 = wr.alloc (Obj.cells #[.string y.1, .string y.2] 85) := ⟨_, rfl⟩
      have hb1 : Blk W1 wr.heap.size 85 #[.string y.1, .string y.2] := by rw [hW1]; exact Blk.new wr _ _
      have hEr : Ext wr W1 := by rw [hW1]; exact (Ext.refl _).alloc _
      obtain ⟨g, hg⟩ : ∃ g, g = wr.heap.size := ⟨_, rfl⟩
      go_wp2_with fail
      rw [← hW1, ← hg]
      rw [← hg] at hb1
      have X0 := laters (show W1.cell? ⟨g, 0, none⟩ = some (.string y.1) from hb1.cell 0)
      have X1 := laters (show W1.cell? ⟨g, 1, none⟩ = some (.string y.2) from hb1.cell 1)
      have hEd : Ext W1 W1.drew := (Ext.refl _).drew
      have hEw1 := hE.trans hEr
      have hsz1 := hEw1.size_le
      have hP1 : Hid (∀ W, Ext W1 W → Calls Tryz.prog 47 #[.slice A m c, .string y.1] W fun e w' => ∃ A' m' c', e = .returned (.slice A' m' c') ∧ OsB w' W.heap.size A' m' c' (L ++ encS (bys y.1)) ∧ Ext W w') := fun W hW => packStr c y.1 (ho.sl.ext (hEr.trans hW)) (by omega)
      clear hW1 hg hb1
      go_region_held3 (fun w' => w'.cell? ⟨g, 0, none⟩ = some (.string y.1) ∧ w'.cell? ⟨g, 1, none⟩ = some (.string y.2))
        (exact ⟨X0 _ (by assumption), X1 _ (by assumption)⟩)
        (first
          | (go_at_call 47; (with_reducible refine (hP1.out _ (by assumption)).mono ?_); rintro e w4 ⟨A4, m4, c4, rfl, ho4, hE4⟩; have hE14 : Ext W1 w4 := Ext.trans (by assumption) hE4; have hm4 : m4 ≤ m + 4009 := by (have h1 := ho4.len; have h2 := ho.len; have h3 := encS_len y.1; rw [List.length_append] at h1; omega))
          | (go_at_call 47; (with_reducible refine (packStr c4 y.2 ho4.sl (by omega)).mono ?_); rintro e w5 ⟨A5, m5, c5, rfl, ho5, hE5⟩; have hE15 : Ext W1 w5 := Ext.trans hE14 hE5)
          | fail)
      have HM5 : Hid (m5 ≤ 1000009 + (q + 1) * 8018) := by
        show _ ≤ _
        have h1 := ho5.len; have h2 := ho.len; have h3 := encS_len y.1; have h4 := encS_len y.2; have h5 := HMM.out
        simp only [List.length_append] at h1
        omega
      have HL5 : Hid (L ++ encS (bys y.1) ++ encS (bys y.2) = l ++ encI n ++ (f.take (q + 1)).flatMap fdE) := by
        show _ = _
        rw [HLL.out, List.take_succ_eq_append_getElem hlt1, List.flatMap_append, ← HY.out]
        simp only [List.flatMap_cons, List.flatMap_nil, List.append_nil, List.append_assoc]
      have ho5' := ho5.mono (base' := w.heap.size) (Nat.le_trans hsz1 hE14.size_le)
      have hE05 := hEw1.trans hE15
      go_wp2
      go_roundw
      case rel => exact ⟨q + 1, A5, m5, c5, _, by omega, by go_num, rfl, ho5', HL5, HM5, hE05⟩
      case measure => simp [intOf]; omega
    · have hi1 : ¬ (q : Int) < (n : Int) := by omega
      have HF : Hid (L = l ++ encF f) := by
        show _ = _
        rw [HLL.out, List.take_of_length_le (by have := HL.out; omega), HL.out]
        unfold encF
        simp only [List.append_assoc]
      go_wp2
      go_ret
      exact ⟨A, m, c, rfl, by rw [← HF.out]; exact ho, hE⟩

set_option maxHeartbeats 6400000 in
theorem brecord_any {x : Ent} (hx : EntW w x) (hs : Short x.p) :
    Calls Tryz.prog 49 #[entV x] w fun e w' => ∃ A' m' c', e = .returned (.slice A' m' c') ∧ OsB w' w.heap.size A' m' c' (recE x.p) ∧ Ext w w' := by
  obtain ⟨⟨id, src, tgt, com, fl, st, fd⟩, hc, hf, hd⟩ := x
  obtain ⟨kc, kf, kd, gid, gsrc, gtgt, gst⟩ := hx
  unfold entV
  dsimp only at *
  have HSH := Lib.hid hs
  have z1 : id.size ≤ 4000 := hs.id
  have z2 : src.size ≤ 4000 := hs.src
  have z3 : tgt.size ≤ 4000 := hs.tgt
  have z4 := flat_short hs.com
  have z5 := flat_short hs.fl
  have z6 : 0 ≤ st ∧ st ≤ 4 := hs.st
  have z61 := z6.1
  have z62 := z6.2
  clear hs z6
  obtain ⟨W1, hW1⟩ : ∃ W1, W1 = w.alloc (Obj.cells #[.string id, .string src, .string tgt, .slice hc.A hc.m hc.c, .slice hf.A hf.m hf.c, .int .i64 st, .slice hd.A hd.m hd.c] 37) := ⟨_, rfl⟩
  have hb1 : Blk W1 w.heap.size 37 #[.string id, .string src, .string tgt, .slice hc.A hc.m hc.c, .slice hf.A hf.m hf.c, .int .i64 st, .slice hd.A hd.m hd.c] := by rw [hW1]; exact Blk.new w _ _
  have hEw : Ext w W1 := by rw [hW1]; exact (Ext.refl _).alloc _
  obtain ⟨g, hg⟩ : ∃ g, g = w.heap.size := ⟨_, rfl⟩
  go_enter Tryz.func49, Tryz.ntmps49
  go_wp2_with fail
  rw [← hW1, ← hg]
  rw [← hg] at hb1
  have X0 := laters (show W1.cell? ⟨g, 0, none⟩ = some (.string id) from hb1.cell 0)
  have X1 := laters (show W1.cell? ⟨g, 1, none⟩ = some (.string src) from hb1.cell 1)
  have X2 := laters (show W1.cell? ⟨g, 2, none⟩ = some (.string tgt) from hb1.cell 2)
  have X3 := laters (show W1.cell? ⟨g, 3, none⟩ = some (.slice hc.A hc.m hc.c) from hb1.cell 3)
  have X4 := laters (show W1.cell? ⟨g, 4, none⟩ = some (.slice hf.A hf.m hf.c) from hb1.cell 4)
  have X5 := laters (show W1.cell? ⟨g, 5, none⟩ = some (.int .i64 st) from hb1.cell 5)
  have X6 := laters (show W1.cell? ⟨g, 6, none⟩ = some (.slice hd.A hd.m hd.c) from hb1.cell 6)
  have hEd : Ext W1 W1.drew := (Ext.refl _).drew
  have hsz1 := hEw.size_le
  have hP1 : Hid (∀ W, Ext W1 W → Calls Tryz.prog 47 #[.slice none 0 0, .string id] W fun e w' => ∃ A' m' c', e = .returned (.slice A' m' c') ∧ OsB w' W.heap.size A' m' c' ([] ++ encS (bys id)) ∧ Ext W w') := fun W _ => packStr 0 id SlB.nil_ (by omega)
  clear hW1 hg hb1
  go_region_held3 (fun w' => w'.cell? ⟨g, 0, none⟩ = some (.string id) ∧ w'.cell? ⟨g, 1, none⟩ = some (.string src) ∧ w'.cell? ⟨g, 2, none⟩ = some (.string tgt))
    (exact ⟨X0 _ (by assumption), X1 _ (by assumption), X2 _ (by assumption)⟩)
    (first
      | (go_at_call 47; (with_reducible refine (hP1.out _ (by assumption)).mono ?_); rintro e w4 ⟨A4, m4, c4, rfl, ho4, hE4⟩; have hE14 : Ext W1 w4 := Ext.trans (by assumption) hE4; have hm4 : m4 ≤ 4009 := by (have h1 := ho4.len; have h3 := encS_len id; rw [List.nil_append] at h1; omega))
      | (go_at_call 47; (with_reducible refine (packStr c4 src ho4.sl (by omega)).mono ?_); rintro e w5 ⟨A5, m5, c5, rfl, ho5, hE5⟩; have hE15 : Ext W1 w5 := Ext.trans hE14 hE5; have hm5 : m5 ≤ m4 + 4009 := by (have h1 := ho5.len; have h2 := ho4.len; have h3 := encS_len src; rw [List.length_append] at h1; omega))
      | (go_at_call 47; (with_reducible refine (packStr c5 tgt ho5.sl (by omega)).mono ?_); rintro e w6 ⟨A6, m6, c6, rfl, ho6, hE6⟩; have hE16 : Ext W1 w6 := Ext.trans hE15 hE6; have hm6 : m6 ≤ m5 + 4009 := by (have h1 := ho6.len; have h2 := ho5.len; have h3 := encS_len tgt; rw [List.length_append] at h1; omega))
      | fail)
  have hEd6 : Ext W1 w6.drew := hE16.drew
  have HO6 := Lib.hid ho6
  clear ho4 ho5 hP1 hE14 hE15 hEd
  go_wp2_with fail
  have hP2 : Hid (∀ W, Ext w6 W → Calls Tryz.prog 46 #[.slice A6 m6 c6, .slice hc.A hc.m hc.c] W fun e w' => ∃ A' m' c', e = .returned (.slice A' m' c') ∧ OsB w' W.heap.size A' m' c' ([] ++ encS (bys id) ++ encS (bys src) ++ encS (bys tgt) ++ (encI com.length ++ com.flatMap fun s => encS (bys s))) ∧ Ext W w') := fun W hW => packStrs c6 hc.c (HO6.out.sl.ext hW) (StrsW.sls_ (kc.ext ((hEw.trans hE16).trans hW))) (by omega)
  have hE6d : Ext w6 w6.drew := (Ext.refl _).drew
  go_region_held3 (fun w' => w'.cell? ⟨g, 3, none⟩ = some (.slice hc.A hc.m hc.c) ∧ w'.cell? ⟨g, 4, none⟩ = some (.slice hf.A hf.m hf.c))
    (exact ⟨X3 _ (by assumption), X4 _ (by assumption)⟩)
    (first
      | (go_at_call 46; (with_reducible refine (hP2.out _ (by assumption)).mono ?_); rintro e w7 ⟨A7, m7, c7, rfl, ho7, hE7⟩; have hE67 : Ext w6 w7 := Ext.trans (by assumption) hE7; have hE17 := hE16.trans hE67; have hm7 : m7 ≤ 200000 := by (have h1 := ho7.len; have h2 := HO6.out.len; have h3 := encI_length_le (com.length : Int); simp only [List.length_append] at h1 h2; omega))
      | (go_at_call 46; (with_reducible refine (packStrs c7 hf.c ho7.sl (StrsW.sls_ (kf.ext (hEw.trans hE17))) (by omega)).mono ?_); rintro e w8 ⟨A8, m8, c8, rfl, ho8, hE8⟩; have hE68 : Ext w6 w8 := Ext.trans hE67 hE8; have hE18 := hE16.trans hE68; have hm8 : m8 ≤ m7 + 80200 := by (have h1 := ho8.len; have h2 := ho7.len; have h3 := encI_length_le (fl.length : Int); simp only [List.length_append] at h1 h2; omega))
      | fail)
  have HO8 := Lib.hid ho8
  clear ho7 hP2 hE67 hE6d
  go_wp2_with fail
  have hP3 : Hid (∀ W, Ext w8 W → Calls Tryz.prog 48 #[.slice A8 m8 c8, .int .i64 st] W fun e w' => ∃ A' m' c', e = .returned (.slice A' m' c') ∧ OsB w' W.heap.size A' m' c' ([] ++ encS (bys id) ++ encS (bys src) ++ encS (bys tgt) ++ (encI com.length ++ com.flatMap fun s => encS (bys s)) ++ (encI fl.length ++ fl.flatMap fun s => encS (bys s)) ++ encI st) ∧ Ext W w') := fun W hW => packInt c8 st (HO8.out.sl.ext hW) (by omega) (by omega) (by omega)
  have hE8d : Ext w8 w8.drew := (Ext.refl _).drew
  have hE18d : Ext W1 w8.drew := hE18.drew
  go_region_held3 (fun w' => w'.cell? ⟨g, 5, none⟩ = some (.int .i64 st) ∧ w'.cell? ⟨g, 6, none⟩ = some (.slice hd.A hd.m hd.c))
    (exact ⟨X5 _ (by assumption), X6 _ (by assumption)⟩)
    (first
      | (go_at_call 48; (with_reducible refine (hP3.out _ (by assumption)).mono ?_); rintro e w9 ⟨A9, m9, c9, rfl, ho9, hE9⟩; have hE89 : Ext w8 w9 := Ext.trans (by assumption) hE9; have hE19 := hE18.trans hE89; have hm9 : m9 ≤ m8 + 9 := by (have h1 := ho9.len; have h2 := HO8.out.len; have h3 := encI_length_le st; rw [List.length_append] at h1; omega))
      | (go_at_call 45; (with_reducible refine (bfields_any ho9.sl (by omega) (HW.ext kd (hEw.trans hE19)) HSH.out.fd).mono ?_); rintro e wa ⟨Aa, ma, ca, rfl, hoa, hEa⟩; have hE1a := hE19.trans hEa)
      | fail)
  have HF : Hid ([] ++ encS (bys id) ++ encS (bys src) ++ encS (bys tgt) ++ (encI com.length ++ com.flatMap fun s => encS (bys s)) ++ (encI fl.length ++ fl.flatMap fun s => encS (bys s)) ++ encI st ++ encF fd = recE ⟨id, src, tgt, com, fl, st, fd⟩) := by
    show _ = _
    rw [encL_map, encL_map, List.nil_append]
    rfl
  have hoF := hoa.mono (base' := w.heap.size) (Nat.le_trans hsz1 hE19.size_le)
  rw [HF.out] at hoF
  have HOF := Lib.hid hoF
  clear hoF hoa ho9 HF
  go_wp2
  go_ret
  exact ⟨Aa, ma, ca, rfl, HOF.out, hEw.trans hE1a⟩
end
end Go.Proofs.YtngpajaghadhdaaGreatDoor
