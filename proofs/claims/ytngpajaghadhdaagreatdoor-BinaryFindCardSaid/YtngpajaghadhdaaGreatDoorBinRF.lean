/- The reference's numbers of four bytes, fields, records. -/
import Derived.Test.YtngpajaghadhdaaGreatDoorBinE
import Derived.Test.YtngpajaghadhdaaGreatDoorRefW
namespace Go.Proofs.YtngpajaghadhdaaGreatDoor
open Go.RowKit
set_option maxRecDepth 100000
attribute [local go_sem] ext_refl_t ext_alloc_t ext_drew_t ext_drewN_t ext_alloc2_t ext_alloc3_t ext_alloc4_t ext_alloc5_t ext_alloc6_t ext_alloc7_t ext_alloc8_t ext_alloc1d_t ext_alloc2d_t ext_alloc3d_t ext_alloc4d_t
theorem four_cells2 {n : Nat} (h : n < 4294967296) : #[Value.int .u8 ((n : Int) / 16777216 % 256), .int .u8 ((n : Int) / 65536 % 256), .int .u8 ((n : Int) / 256 % 256), .int .u8 ((n : Int) % 256)] = ((fourB n).map bv).toArray := by
  rw [← four_cells h]
  congr 3
  omega
theorem fresh_ne {A A' : Option Addr} {B C : Nat} (h : ∀ k, ob A = some k → B ≤ k) (h' : ∀ k, ob A' = some k → k < C) (hle : C ≤ B) : ob A = none ∨ ob A ≠ ob A' := by
  cases hA : ob A with
  | none => exact .inl rfl
  | some k => exact .inr (fun e => by have h1 := h k hA; have h2 := h' k e.symm; omega)
/- append(append(out, F1), F2), where F1 and F2 are calls: out is hoQ, at the world wr. -/
section
variable {w : World}
set_option maxHeartbeats 3200000 in
theorem rfields_any4 {B : Option Addr} {n d : Nat} {f : List Fd} (hf : SlC fdC 2 w B n f) (hs : f.length ≤ 20 ∧ ∀ x ∈ f, x.1.size ≤ 4000 ∧ x.2.size ≤ 4000) :
    Calls Tryz.prog 62 #[.slice B n d] w fun e w' => ∃ A' m' c', e = .returned (.slice A' m' c') ∧ OsB w' w.heap.size A' m' c' (encF f) ∧ Ext w w' := by
  have HL : Hid (n = f.length) := hf.len
  have hn20 : n ≤ 20 := by have := HL.out; omega
  have HS := Lib.hid hs
  clear hs
  go_enter Tryz.func62, Tryz.ntmps62
  go_wp2_with (first
    | (go_at_call 63; refine Hid.out ?_))
  refine Hid.mk_ ((refInt (n : Int) (by omega) (by omega)).mono ?_)
  rintro e w1 ⟨A1, m1, c1, rfl, ho1, hE1⟩
  have hm1 : Hid (m1 ≤ 9) := by show _ ≤ _; have h1 := ho1.len; have h2 := encI_length_le (n : Int); omega
  go_wp2
  go_loopw [3, 4] (fun b i wr => ∃ (q : Nat) (A : Option Addr) (m c : Nat) (L : List UInt8), q ≤ n ∧ i = .int .i64 q ∧ b = .slice A m c ∧ OsB wr w.heap.size A m c L ∧ Hid (L = encI n ++ (f.take q).flatMap fdE) ∧ Hid (m ≤ 9 + q * 8018) ∧ Ext w wr) (fun _ i _ => n - (intOf i).toNat)
  case atStart => exact ⟨0, A1, m1, c1, _, Nat.zero_le _, rfl, rfl, ho1, by show _ = _; simp, by show _ ≤ _; have := hm1.out; omega, hE1⟩
  case round =>
    obtain ⟨q, A, m, c, L, hq, rfl, rfl, hoQ, HLL, HMM, hE⟩ := hrel
    have hm' : m ≤ 2000000 := by have := HMM.out; omega
    by_cases hlt : q < n
    · have hi1 : (q : Int) < (n : Int) := by omega
      obtain ⟨b, off, e0, hbl, hcs⟩ := hf.at_ hlt (by omega)
      subst e0
      have hlt1 : q < f.length := by rw [← HL.out]; exact hlt
      obtain ⟨y, hyq⟩ : ∃ y, y = f[q] := ⟨_, rfl⟩
      have y0 := hcs q hlt1 0 (by omega)
      have y1 := hcs q hlt1 1 (by omega)
      simp only [← hyq, fdC, List.getElem_cons_zero, List.getElem_cons_succ, Nat.add_zero, ← Nat.add_assoc] at y0 y1
      have HY := Lib.hid hyq
      have hys : y.1.size ≤ 4000 ∧ y.2.size ≤ 4000 := HS.out.2 y (by rw [hyq]; exact List.getElem_mem _)
      have hys1 := hys.1
      have hys2 := hys.2
      have X0 := laters y0
      have X1 := laters y1
      have hEd : Ext wr wr.drew := (Ext.refl _).drew
      have hE0d : Ext w wr.drew := hE.drew
      have hbQ := hE.size_le
      have hbQw : w.heap.size ≤ w.heap.size := Nat.le_refl _
      have z1 := encS_le hys1
      have z2 := encS_le hys2
      clear hcs hyq hys y0 y1
      go_wp2_with fail
      go_region_held3 (fun w' => w'.cell? ⟨b, off + q * 2, none⟩ = some (.string y.1) ∧ w'.cell? ⟨b, off + q * 2 + 1, none⟩ = some (.string y.2))
        (exact ⟨X0 _ (by assumption), X1 _ (by assumption)⟩)
        (first
          | (refine step_appB rfl _ _ rfl (ho5.ext hE6) rfl ho6.sl rfl (by have h1 := ho5.len; rw [List.length_append] at h1; have h2 := hoQ.len; have h3 := ho6.len; omega) (Nat.le_trans (Nat.le_trans hbQ hsz5) hE6.size_le) ?_; intro A7 m7 c7 w7 ho7 hg7 hat7; have hE07 : Ext w w7 := Ext.grown hE06 hg7 (fun k hk => Nat.le_trans hbQw (ho5.ge k hk)); have hsz7 := Nat.le_trans (Nat.le_trans hsz5 hE6.size_le) hg7.size)
          | (refine step_appB rfl _ _ rfl (hoQ.ext hEr4) rfl ho4.sl rfl (by have h3 := ho4.len; omega) (Nat.le_trans hbQ hEr4.size_le) ?_; intro A5 m5 c5 w5 ho5 hg5 hat5; have hE05 : Ext w w5 := Ext.grown hE04 hg5 (fun k hk => Nat.le_trans hbQw (hoQ.ge k hk)); have hsz5 : wr.heap.size ≤ w5.heap.size := Nat.le_trans hEr4.size_le hg5.size)
          | (go_at_call 60; (with_reducible refine (refStr y.1 (by omega)).mono ?_); rintro e w4 ⟨A4, m4, c4, rfl, ho4, hE4⟩; have hEr4 : Ext wr w4 := Ext.trans (by assumption) hE4; have hE04 : Ext w w4 := hE.trans hEr4)
          | (go_at_call 60; (with_reducible refine (refStr y.2 (by omega)).mono ?_); rintro e w6 ⟨A6, m6, c6, rfl, ho6, hE6⟩; have hE06 : Ext w w6 := hE05.trans hE6)
          | fail)
      all_goals
        have HM5 : Hid (m7 ≤ 9 + (q + 1) * 8018) := by
          show _ ≤ _
          have h1 := ho7.len; have h2 := hoQ.len; have h5 := HMM.out
          simp only [List.length_append] at h1
          omega
        have HL5 : Hid (L ++ encS (bys y.1) ++ encS (bys y.2) = encI n ++ (f.take (q + 1)).flatMap fdE) := by
          show _ = _
          rw [HLL.out, List.take_succ_eq_append_getElem hlt1, List.flatMap_append, ← HY.out]
          simp only [List.flatMap_cons, List.flatMap_nil, List.append_nil, List.append_assoc]
        go_wp2
        go_roundw
        case rel => exact ⟨q + 1, A7, m7, c7, _, by omega, by go_num, rfl, ho7, HL5, HM5, hE07⟩
        case measure => simp [intOf]; omega
    · have hi1 : ¬ (q : Int) < (n : Int) := by omega
      have HF : Hid (L = encF f) := by
        show _ = _
        rw [HLL.out, List.take_of_length_le (by have := HL.out; omega), HL.out]
        rfl
      go_wp2
      go_ret
      exact ⟨A, m, c, rfl, by rw [← HF.out]; exact hoQ, hE⟩

set_option maxHeartbeats 3200000 in
theorem rfour_any {n : Nat} (hn : n < 4294967296) :
    Calls Tryz.prog 65 #[.int .i64 (n : Int)] w fun e w' => ∃ A' m' c', e = .returned (.slice A' m' c') ∧ OsB w' w.heap.size A' m' c' (fourB n) ∧ Ext w w' := by
  have hnew := OsB.new_ w w.heap.size (Nat.le_refl _) (fourB n) (by show 4 ≤ _; omega) _ (four_cells2 hn) 4 rfl
  go_enter Tryz.func65, Tryz.ntmps65
  go_wp2
  go_ret
  exact ⟨_, _, _, rfl, hnew, (Ext.refl w).alloc _⟩

/- append(F1, F2) at the world wr.drew. -/
set_option maxHeartbeats 6400000 in
theorem rrecord_any4 {x : Ent} (hx : EntW w x) (hs : Short x.p) :
    Calls Tryz.prog 64 #[entV x] w fun e w' => ∃ A' m' c', e = .returned (.slice A' m' c') ∧ OsB w' w.heap.size A' m' c' (recE x.p) ∧ Ext w w' := by
  obtain ⟨⟨id, src, tgt, com, fl, st, fd⟩, hc, hf, hd⟩ := x
  obtain ⟨kc, kf, kd, gid, gsrc, gtgt, gst⟩ := hx
  unfold entV
  dsimp only at *
  have HSH := Lib.hid hs
  have z1 : id.size ≤ 4000 := hs.id
  have z2 : src.size ≤ 4000 := hs.src
  have z3 : tgt.size ≤ 4000 := hs.tgt
  have z4 := flat_short hs.com
  have z5 := flat_short hs.fl
  have z6 : 0 ≤ st ∧ st ≤ 4 := hs.st
  have z61 := z6.1
  have z62 := z6.2
  have e1 := encS_le z1
  have e2 := encS_le z2
  have e3 := encS_le z3
  have e4 := encI_length_le (com.length : Int)
  have e5 := encI_length_le (fl.length : Int)
  have e6 := encI_length_le st
  have HFD : Hid (fd.length ≤ 20 ∧ ∀ f ∈ fd, f.1.size ≤ 4000 ∧ f.2.size ≤ 4000) := hs.fd
  have e7 := encF_le HFD.out
  clear hs z6
  obtain ⟨wb, hW1⟩ : ∃ W1, W1 = w.alloc (Obj.cells #[.string id, .string src, .string tgt, .slice hc.A hc.m hc.c, .slice hf.A hf.m hf.c, .int .i64 st, .slice hd.A hd.m hd.c] 37) := ⟨_, rfl⟩
  have hb1 : Blk wb w.heap.size 37 #[.string id, .string src, .string tgt, .slice hc.A hc.m hc.c, .slice hf.A hf.m hf.c, .int .i64 st, .slice hd.A hd.m hd.c] := by rw [hW1]; exact Blk.new w _ _
  have hEw : Ext w wb := by rw [hW1]; exact (Ext.refl _).alloc _
  obtain ⟨g, hg⟩ : ∃ g, g = w.heap.size := ⟨_, rfl⟩
  go_enter Tryz.func64, Tryz.ntmps64
  go_wp2_with fail
  rw [← hW1, ← hg]
  rw [← hg] at hb1
  have X0 := laters (show wb.cell? ⟨g, 0, none⟩ = some (.string id) from hb1.cell 0)
  have X1 := laters (show wb.cell? ⟨g, 1, none⟩ = some (.string src) from hb1.cell 1)
  have X2 := laters (show wb.cell? ⟨g, 2, none⟩ = some (.string tgt) from hb1.cell 2)
  have X3 := laters (show wb.cell? ⟨g, 3, none⟩ = some (.slice hc.A hc.m hc.c) from hb1.cell 3)
  have X4 := laters (show wb.cell? ⟨g, 4, none⟩ = some (.slice hf.A hf.m hf.c) from hb1.cell 4)
  have X5 := laters (show wb.cell? ⟨g, 5, none⟩ = some (.int .i64 st) from hb1.cell 5)
  have X6 := laters (show wb.cell? ⟨g, 6, none⟩ = some (.slice hd.A hd.m hd.c) from hb1.cell 6)
  have hEd : Ext wb wb.drew := (Ext.refl _).drew
  have hbQw : wb.heap.size ≤ wb.drew.heap.size := Nat.le_refl _
  have hgr := hb1.lt
  clear hW1 hg hb1
  go_region_held3 (fun w' => w'.cell? ⟨g, 0, none⟩ = some (.string id) ∧ w'.cell? ⟨g, 1, none⟩ = some (.string src))
    (exact ⟨X0 _ (by assumption), X1 _ (by assumption)⟩)
    (first
      | (refine step_appB rfl _ _ rfl (ho4.ext hE6) rfl ho6.sl rfl (by have h1 := ho4.len; have h2 := ho6.len; omega) (Nat.le_trans hE4.size_le hE6.size_le) ?_; intro A7 m7 c7 w7 ho7 hg7 hat7; have hE07 : Ext wb w7 := Ext.grown hE06 hg7 (fun k hk => Nat.le_trans hbQw (ho4.ge k hk)); have hsz7 : wb.heap.size ≤ w7.heap.size := Nat.le_trans (Nat.le_trans hEr4.size_le hE6.size_le) hg7.size)
      | (go_at_call 60; (with_reducible refine (refStr id (by omega)).mono ?_); rintro e w4 ⟨A4, m4, c4, rfl, ho4, hE4⟩; have hEr4 : Ext wb w4 := Ext.trans (by assumption) hE4; have hE04 := hEr4)
      | (go_at_call 60; (with_reducible refine (refStr src (by omega)).mono ?_); rintro e w6 ⟨A6, m6, c6, rfl, ho6, hE6⟩; have hE06 : Ext wb w6 := hE04.trans hE6)
      | fail)
  have hbQ : wb.drew.heap.size ≤ w7.heap.size := hsz7
  have hm8 := Lib.hid ho7.len
  clear ho4 ho6
  obtain ⟨wr, rfl⟩ : ∃ W : World, W = w7 := ⟨_, rfl⟩
  have hoQ := ho7
  have hE := hE07
  have hEd2 : Ext wr wr.drew := (Ext.refl _).drew
  have hE0d := hE.drew
  clear ho7 hE07 hg7 hat7 hsz7
  go_wp2_with fail
  go_region_held3 (fun w' => w'.cell? ⟨g, 2, none⟩ = some (.string tgt) ∧ w'.cell? ⟨g, 3, none⟩ = some (.slice hc.A hc.m hc.c))
    (exact ⟨X2 _ (by assumption), X3 _ (by assumption)⟩)
    (first
      | (refine step_appB rfl _ _ rfl (ho5.ext hE6) rfl ho6.sl rfl (by have h1 := ho5.len; have h2 := hoQ.len; have h3 := ho6.len; simp only [List.length_append] at h1 h2 h3; omega) (Nat.le_trans (Nat.le_trans hbQ hsz5) hE6.size_le) ?_; intro A7 m7 c7 w7 ho7 hg7 hat7; have hE07 : Ext wb w7 := Ext.grown hE06 hg7 (fun k hk => Nat.le_trans hbQw (ho5.ge k hk)); have hsz7 := Nat.le_trans (Nat.le_trans hsz5 hE6.size_le) hg7.size)
      | (refine step_appB rfl _ _ rfl (hoQ.ext hEr4) rfl ho4.sl rfl (by have h3 := ho4.len; have h2 := hoQ.len; rw [List.length_append] at h2; omega) (Nat.le_trans hbQ hEr4.size_le) ?_; intro A5 m5 c5 w5 ho5 hg5 hat5; have hE05 : Ext wb w5 := Ext.grown hE04 hg5 (fun k hk => Nat.le_trans hbQw (hoQ.ge k hk)); have hsz5 : wr.heap.size ≤ w5.heap.size := Nat.le_trans hEr4.size_le hg5.size)
      | (go_at_call 60; (with_reducible refine (refStr tgt (by omega)).mono ?_); rintro e w4 ⟨A4, m4, c4, rfl, ho4, hE4⟩; have hEr4 : Ext wr w4 := Ext.trans (by assumption) hE4; have hE04 : Ext wb w4 := hE.trans hEr4)
      | (go_at_call 61; (with_reducible refine (refStrs hc.c (StrsW.sls_ (kc.ext (hEw.trans hE05))) (by omega)).mono ?_); rintro e w6 ⟨A6, m6, c6, rfl, ho6, hE6⟩; have hE06 : Ext wb w6 := hE05.trans hE6)
      | fail)
  have hbQ : wb.drew.heap.size ≤ w7.heap.size := Nat.le_trans hbQ hsz7
  clear ho4 ho5 ho6 hoQ hE05 hE06 hsz5 hEd2 hE0d
  obtain ⟨wr, rfl⟩ : ∃ W : World, W = w7 := ⟨_, rfl⟩
  have hoQ := ho7
  have hE := hE07
  have hEd2 : Ext wr wr.drew := (Ext.refl _).drew
  have hE0d := hE.drew
  clear ho7 hE07 hg7 hat7 hsz7
  go_wp2_with fail
  go_region_held3 (fun w' => w'.cell? ⟨g, 4, none⟩ = some (.slice hf.A hf.m hf.c) ∧ w'.cell? ⟨g, 5, none⟩ = some (.int .i64 st))
    (exact ⟨X4 _ (by assumption), X5 _ (by assumption)⟩)
    (first
      | (refine step_appB rfl _ _ rfl (ho5.ext hE6) rfl ho6.sl rfl (by have h1 := ho5.len; have h2 := hoQ.len; have h3 := ho6.len; simp only [List.length_append] at h1 h2 h3; omega) (Nat.le_trans (Nat.le_trans hbQ hsz5) hE6.size_le) ?_; intro A7 m7 c7 w7 ho7 hg7 hat7; have hE07 : Ext wb w7 := Ext.grown hE06 hg7 (fun k hk => Nat.le_trans hbQw (ho5.ge k hk)); have hsz7 := Nat.le_trans (Nat.le_trans hsz5 hE6.size_le) hg7.size)
      | (refine step_appB rfl _ _ rfl (hoQ.ext hEr4) rfl ho4.sl rfl (by have h3 := ho4.len; have h2 := hoQ.len; simp only [List.length_append] at h2 h3; omega) (Nat.le_trans hbQ hEr4.size_le) ?_; intro A5 m5 c5 w5 ho5 hg5 hat5; have hE05 : Ext wb w5 := Ext.grown hE04 hg5 (fun k hk => Nat.le_trans hbQw (hoQ.ge k hk)); have hsz5 : wr.heap.size ≤ w5.heap.size := Nat.le_trans hEr4.size_le hg5.size)
      | (go_at_call 61; (with_reducible refine (refStrs hf.c (StrsW.sls_ (kf.ext (hEw.trans hE0d))) (by omega)).mono ?_); rintro e w4 ⟨A4, m4, c4, rfl, ho4, hE4⟩; have hEr4 : Ext wr w4 := Ext.trans (by assumption) hE4; have hE04 : Ext wb w4 := hE.trans hEr4)
      | (go_at_call 63; (with_reducible refine (refInt st (by omega) (by omega)).mono ?_); rintro e w6 ⟨A6, m6, c6, rfl, ho6, hE6⟩; have hE06 : Ext wb w6 := hE05.trans hE6)
      | fail)
  have hbQ : wb.drew.heap.size ≤ w7.heap.size := Nat.le_trans hbQ hsz7
  have hm9 : m7 ≤ 300000 := by have h1 := ho7.len; simp only [List.length_append] at h1; omega
  have HO7 := Lib.hid ho7
  clear ho4 ho5 ho6 hoQ hE05 hE06 hsz5 hEd2 hE0d
  go_wp2_with (first
    | (go_at_call 62; refine Hid.out ?_))
  refine Hid.mk_ ((rfields_any4 (hf := (HW.ext kd (hEw.trans hE07)).sl) HFD.out).mono ?_)
  rintro e wa ⟨Aa, ma, ca, rfl, hoa, hEa⟩
  have hma : ma ≤ 170000 := by have h1 := hoa.len; omega
  go_wp2_with (first
    | (at_builtin; refine Hid.out ?_))
  refine Hid.mk_ ?_
  refine appB rfl _ _ rfl (HO7.out.ext hEa) rfl hoa.sl rfl (by omega) (Nat.le_trans hbQ hEa.size_le) ?_
  intro Az mz cz wz hoz hgz hatz
  have hEz : Ext w wz := (hEw.trans (hE07.trans hEa)).grown hgz (fun k hk => Nat.le_trans hEw.size_le (HO7.out.ge k hk))
  have HF : Hid (encS (bys id) ++ encS (bys src) ++ encS (bys tgt) ++ (encI com.length ++ com.flatMap fun s => encS (bys s)) ++ (encI fl.length ++ fl.flatMap fun s => encS (bys s)) ++ encI st ++ encF fd = recE ⟨id, src, tgt, com, fl, st, fd⟩) := by
    show _ = _
    rw [encL_map, encL_map]
    rfl
  rw [HF.out] at hoz
  have HOZ := Lib.hid (hoz.mono (base' := w.heap.size) hEw.size_le)
  clear hoz hoa HF
  go_wp2
  go_ret
  exact ⟨Az, mz, cz, rfl, HOZ.out, hEz⟩
end
end Go.Proofs.YtngpajaghadhdaaGreatDoor
