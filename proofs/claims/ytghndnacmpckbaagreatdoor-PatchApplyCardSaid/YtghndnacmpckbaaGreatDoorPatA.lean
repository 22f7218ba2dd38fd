/- Apply and Sizes of the program. -/
import Derived.Test.YtghndnacmpckbaaGreatDoorPatO
namespace Go.Proofs.YtghndnacmpckbaaGreatDoor
open Go.RowKit
set_option maxRecDepth 100000
attribute [local go_sem] ext_refl_t ext_alloc_t ext_drew_t ext_drewN_t ext_alloc2_t ext_alloc3_t ext_alloc4_t ext_alloc5_t ext_alloc6_t ext_alloc7_t ext_alloc8_t ext_alloc1d_t ext_alloc2d_t ext_alloc3d_t ext_alloc4d_t
theorem run_lenO {x : List UInt8} {old : Int} (hx : (x.length : Int) = old) {L : List POp} (h : ∀ y ∈ L, OpOk old y) : ((L.flatMap (runO x)).length : Int) = sumO L := by
  induction L with
  | nil => rfl
  | cons y L ih =>
    have h1 := h y (.head _)
    rw [List.flatMap_cons, List.length_append, sumO]
    have h2 := ih (fun z hz => h z (.tail _ hz))
    have h3 : ((runO x y).length : Int) = oLen y := by
      cases y with
      | ins s => rfl
      | cp o n =>
        have h4 : 0 ≤ o ∧ 1 ≤ n ∧ o + n ≤ old := h1
        show (((x.drop o.toNat).take n.toNat).length : Int) = n
        rw [List.length_take, List.length_drop]
        omega
    omega
theorem run_take {x : List UInt8} {L : List POp} {q : Nat} (hq : q < L.length) : (L.take (q + 1)).flatMap (runO x) = (L.take q).flatMap (runO x) ++ runO x L[q] := by
  rw [List.take_succ_eq_append_getElem hq, List.flatMap_append]
  simp
theorem run_le {x : List UInt8} {c : PC} {a b : Nat} (hP : ProperC c a b) (hx : (x.length : Int) = c.old) (q : Nat) : (((c.ops.take q).flatMap (runO x)).length : Int) ≤ 1000000 := by
  rw [run_lenO hx (fun y hy => hP.each y (List.mem_of_mem_take hy))]
  have h1 := sumO_take hP.each q
  have h2 := hP.new.2
  rw [hP.sum] at h1
  omega
section
variable {w : World}
set_option maxHeartbeats 12800000 in
theorem papply_any {A B : Option Addr} {m k : Nat} (c d : Nat) {x p : List UInt8} (hx : SlB w A m x) (hmc : m ≤ c) (hm : m ≤ 1000000) (hp : SlB w B k p) (hkd : k ≤ d) (hk : k ≤ 1000000) (hT : Tb w) :
    Calls Tryz.prog 8 #[.slice A m c, .slice B k d] w fun e w' => (∃ (A' : Option Addr) (m' c' : Nat) (l : List UInt8) (code : Nat), e = .returned (.tuple #[.slice A' m' c', .int .i64 (code : Int)]) ∧ OsB w' w.heap.size A' m' c' l ∧ ApR x p (l, code)) ∧ Ext w w' := by
  go_enter Tryz.func8, Tryz.ntmps8
  go_wp2_with (first
    | (go_at_call 17; refine Hid.out ?_))
  refine Hid.mk_ ((popen_any d hp hkd hk hT).mono ?_)
  rintro e w1 ⟨⟨cells, code, rfl, hO⟩, hE1⟩
  rcases hO with ⟨h0, rfl, rfl⟩ | ⟨h0, ⟨hd, rfl, rfl⟩ | ⟨dd, a, b, Ad, md, cd, hd, rfl, hs, hc, rfl⟩⟩
  · obtain ⟨oc, hoc⟩ : ∃ oc, oc = (openR pkey p).2 := ⟨_, rfl⟩
    rw [← hoc] at h0
    have HR : Hid (ApR x p ([], oc)) := .inl ⟨by rw [← hoc]; exact h0, by rw [hoc]⟩
    rw [← hoc]
    have hzb : ((oc : Int) != 0) = true := by rw [bne_iff_ne]; omega
    unfold zeroC
    clear hoc h0
    go_wp2
    go_ret2
    exact ⟨⟨none, 0, 0, [], oc, rfl, OsB.nil_, HR.out⟩, hE1.alloc _⟩
  · have HR : Hid (ApR x p ([], 4)) := .inr ⟨h0, none, hd, rfl⟩
    unfold zeroC
    clear hd h0
    go_wp2
    go_ret2
    exact ⟨⟨none, 0, 0, [], 4, rfl, OsB.nil_, HR.out⟩, hE1.alloc _⟩
  · obtain ⟨old, os, new, ns, L⟩ := dd
    have HD := Lib.hid hd
    have H0 := Lib.hid h0
    have HLEN := Lib.hid hs.len
    have HXL := Lib.hid hx.len
    have hml := hs.len
    have hml6 : md ≤ 100000 := by have := hd.2.few; rw [hml]; exact this
    clear hd h0 hml
    dsimp only at *
    obtain ⟨W6, hW6⟩ : ∃ W6, W6 = w1.alloc (Obj.cells #[.int .i64 old, .int .i64 new, .int .u64 a, .int .u64 b, .slice Ad md cd] 44) := ⟨_, rfl⟩
    have hb6 : Blk W6 w1.heap.size 44 #[.int .i64 old, .int .i64 new, .int .u64 a, .int .u64 b, .slice Ad md cd] := by rw [hW6]; exact Blk.new w1 _ _
    have hE6 : Ext w1 W6 := by rw [hW6]; exact (Ext.refl w1).alloc _
    obtain ⟨g6, hg6⟩ : ∃ g6, g6 = w1.heap.size := ⟨_, rfl⟩
    go_upto_region 4 with fail
    rw [← hW6, ← hg6]
    rw [← hg6] at hb6
    clear hW6 hg6
    have hE06 := hE1.trans hE6
    have X0 := latersU (show W6.cell? ⟨g6, 0, none⟩ = some (.int .i64 old) from hb6.cell 0)
    have X2 := latersU (show W6.cell? ⟨g6, 2, none⟩ = some (.int .u64 a) from hb6.cell 2)
    by_cases hl : (m : Int) = old
    case neg =>
      have hbn : ((m : Int) != old) = true := by rw [bne_iff_ne]; exact hl
      have HR : Hid (ApR x p ([], 17)) := .inr ⟨H0.out, _, HD.out, .inl ⟨fun h => hl (by rw [HXL.out]; exact h.1), rfl⟩⟩
      clear hl
      refine wp_region_ext_lit (by kernel_rfl) (by kernel_rfl) ?_
      try dsimp only [List.append]
      repeat (go_big_quiet_step (fail))
      refine wpQuiet_nil ?_
      rintro w5 ⟨⟨_, h5⟩, rfl⟩
      try dsimp only
      clear X0 X2
      go_wp2
      go_ret2
      exact ⟨⟨none, 0, 0, [], 17, rfl, OsB.nil_, HR.out⟩, hE06.trans h5⟩
    case pos =>
    have hbn : ((m : Int) != old) = false := by rw [hl]; simp
    have HLO := Lib.hid hl
    obtain ⟨sx, hsx⟩ : ∃ sx, sx = sumN x := ⟨_, rfl⟩
    have HV : Hid (∀ u : ExtOf W6, Calls Tryz.prog 18 #[.slice A m c] u.1 fun e w' => e = .returned (.int .u64 (sx : Int)) ∧ Ext u.1 w') := fun u => by
      rw [hsx]
      exact sum_any c ((hx.ext hE06).ext u.ext)
    by_cases hq : sx = a
    case neg =>
      have hbq : ((sx : Int) != (a : Int)) = true := by rw [bne_iff_ne]; omega
      have HR : Hid (ApR x p ([], 17)) := .inr ⟨H0.out, _, HD.out, .inl ⟨fun h => hq (by rw [hsx]; exact h.2), rfl⟩⟩
      clear hq hsx hl
      refine wp_region_ext_lit (by kernel_rfl) (by kernel_rfl) ?_
      try dsimp only [List.append]
      repeat (go_big_quiet_step ((go_at_call 18; exact Calls.quiet_ext (HV.out _))))
      refine wpQuiet_nil ?_
      rintro w5 ⟨⟨_, h5⟩, rfl⟩
      try dsimp only
      clear X0 X2
      go_wp2
      go_ret2
      exact ⟨⟨none, 0, 0, [], 17, rfl, OsB.nil_, HR.out⟩, hE06.trans h5⟩
    case pos =>
    have HQ : Hid (((x.length : Int) = old) ∧ sumN x = a) := ⟨by rw [← HXL.out]; exact hl, by rw [← hsx]; exact hq⟩
    subst hq
    have hbq : ((sx : Int) != (sx : Int)) = false := by simp
    clear hsx hl
    refine wp_region_ext_lit (by kernel_rfl) (by kernel_rfl) ?_
    try dsimp only [List.append]
    repeat (go_big_quiet_step ((go_at_call 18; exact Calls.quiet_ext (HV.out _))))
    refine wpQuiet_nil ?_
    rintro w5 ⟨⟨_, h5⟩, rfl⟩
    try dsimp only
    have hE65 : Ext W6 w5 := h5
    have hE05 := hE06.trans hE65
    have hb5 := hb6.below hE65 hb6.lt
    have hs5 := (hs.ext hE6).ext hE65
    have e4 : w5.cell? ⟨g6, 4, none⟩ = some (.slice Ad md cd) := hb5.cell 4
    have HB5 := Lib.hid hb5
    clear X0 X2 HV hbq hbn hb6 hE6 h5 hE65 hE1 hb5
    go_wp2
    clear e4
    go_loopw [8, 10, 34] (fun o _ i wr => ∃ (q : Nat) (Ao : Option Addr) (mo co : Nat), q ≤ md ∧ o = .slice Ao mo co ∧ i = .int .i64 q ∧ Hid (OsB wr w5.heap.size Ao mo co ((L.take q).flatMap (runO x))) ∧ Hid (Ext w5 wr)) (fun _ _ i _ => md - (intOf i).toNat)
    case atStart => exact ⟨0, none, 0, 0, Nat.zero_le _, rfl, rfl, OsB.nil_, Ext.refl _⟩
    case round =>
      obtain ⟨q, Ao, mo, co, hq, rfl, rfl, HO, HE⟩ := hrel
      have hrl := run_le HD.out.2 HQ.out.1 q
      have hmo : mo ≤ 1000000 := by rw [HO.out.len]; dsimp only at hrl; omega
      clear hrl
      by_cases hlt : q < md
      · obtain ⟨bq, off, e0, hbl, hcs⟩ := (hs5.ext HE.out).at_ hlt (by omega)
        subst e0
        have hlt1 : q < L.length := by rw [← HLEN.out]; exact hlt
        obtain ⟨y, hy⟩ : ∃ y, y = L[q] := ⟨_, rfl⟩
        have HRT : Hid ((L.take (q + 1)).flatMap (runO x) = (L.take q).flatMap (runO x) ++ runO x y) := by show _ = _; rw [run_take hlt1, hy]
        have hok : OpOk old y := by rw [hy]; exact HD.out.2.each _ (List.getElem_mem hlt1)
        have hsl : oLen y ≤ 1000000 := by
          have h1 := sumO_mem HD.out.2.each (List.getElem_mem hlt1)
          rw [HD.out.2.sum, ← hy] at h1
          have h2 := HD.out.2.new.2
          omega
        have x0 : wr.cell? ⟨bq, off + (q * 4 + 0), none⟩ = (opC L[q])[0]? := (hcs q hlt1 0 (by omega)).trans (List.getElem?_eq_getElem _).symm
        have x1 : wr.cell? ⟨bq, off + (q * 4 + 1), none⟩ = (opC L[q])[1]? := (hcs q hlt1 1 (by omega)).trans (List.getElem?_eq_getElem _).symm
        have x2 : wr.cell? ⟨bq, off + (q * 4 + 2), none⟩ = (opC L[q])[2]? := (hcs q hlt1 2 (by omega)).trans (List.getElem?_eq_getElem _).symm
        have x3 : wr.cell? ⟨bq, off + (q * 4 + 3), none⟩ = (opC L[q])[3]? := (hcs q hlt1 3 (by omega)).trans (List.getElem?_eq_getElem _).symm
        rw [← hy] at x0 x1 x2 x3
        have hi1 : (q : Int) < (md : Int) := by omega
        clear hcs hy
        cases y with
        | ins s =>
          simp only [opC, List.getElem?_cons_zero, List.getElem?_cons_succ, Nat.add_zero, ← Nat.add_assoc] at x0 x1 x2 x3
          obtain ⟨ln, hln⟩ : ∃ ln : Int, ln = (s.length : Int) := ⟨_, rfl⟩
          have hln6 : ln ≤ 1000000 := by rw [hln]; exact hsl
          have hsz : (str s).size ≤ 1000000 := by rw [str_size]; omega
          have hbs : bys (str s) = s := bys_str s
          rw [← hln] at x2
          obtain ⟨r, hr⟩ : ∃ r, r = str s := ⟨_, rfl⟩
          rw [← hr] at x3 hsz hbs
          have HBS := Lib.hid hbs
          have HEN : Hid (Ext wr (wr.alloc (Obj.cells #[.bool true, .int .i64 0, .int .i64 ln, .string r] 49))) := (Ext.refl wr).alloc _
          clear hln hr hbs hok hsl
          go_wp2_with (first
            | (at_builtin; refine Hid.out ?_))
          refine Hid.mk_ ?_
          refine appS rfl _ _ rfl (HO.out.ext HEN.out) rfl r rfl (by omega) (Nat.le_trans HE.out.size_le HEN.out.size_le) ?_
          intro A7 m7 c7 w7 ho7 hg7 hN7
          have HO7 : Hid (OsB w7 w5.heap.size A7 m7 c7 ((L.take (q + 1)).flatMap (runO x))) := by
            show OsB _ _ _ _ _ _
            rw [HRT.out]
            have h9 : r.data.toList = runO x (.ins s) := HBS.out
            rw [← h9]
            exact ho7
          have HE7 : Hid (Ext w5 w7) := (HE.out.trans HEN.out).grown hg7 (fun j hj => HO.out.ge j hj)
          clear ho7 hg7 hN7
          go_wp2
          go_roundw
          case rel => exact ⟨q + 1, A7, m7, c7, by omega, rfl, by go_num, HO7, HE7⟩
          case measure => simp [intOf]; omega
        | cp o n =>
          have ho1 : 0 ≤ o ∧ 1 ≤ n ∧ o + n ≤ old := hok
          simp only [opC, List.getElem?_cons_zero, List.getElem?_cons_succ, Nat.add_zero, ← Nat.add_assoc] at x0 x1 x2 x3
          have HEN : Hid (Ext wr (wr.alloc (Obj.cells #[.bool false, .int .i64 o, .int .i64 n, .string ⟨#[]⟩] 49))) := (Ext.refl wr).alloc _
          have hlo := HLO.out
          obtain ⟨i, hi⟩ : ∃ i : Nat, o = i := ⟨o.toNat, by omega⟩
          obtain ⟨j, hj⟩ : ∃ j : Nat, o + n = j := ⟨(o + n).toNat, by omega⟩
          obtain ⟨A2, hx1, hx2, hx3, hsm, hobm⟩ := cut_run (((hx.ext hE05).ext HE.out).ext HEN.out) (i := i) (j := j) (by omega) (by omega) hmc
          have q1 : ∀ W, (Instr.sliceAt 22 (.slice A m c) (some (.int .i64 o)) (some (.int .i64 (o + n))) none).run Tryz.prog W = .ok (.slice A2 (j - i) (c - i)) W := fun W => (hx1 W .i64 .i64 _ _ hi hj).1
          have q2 : ∀ W, (Instr.slice 22 (.slice A m c) (some (.int .i64 o)) (some (.int .i64 (o + n))) none).run Tryz.prog W = .ok (.slice A2 (j - i) (c - i)) W := fun W => (hx1 W .i64 .i64 _ _ hi hj).2
          have hcb : j - i ≤ 1000000 := by omega
          have hb1 : 0 ≤ o ∧ 1 ≤ n ∧ o + n ≤ 1000000 := by omega
          obtain ⟨hb1, hb2, hb3⟩ := hb1
          have hb4 : 0 ≤ o + n := by omega
          have HRN : Hid ((x.take j).drop i = runO x (.cp o n)) := by
            show (x.take j).drop i = (x.drop o.toNat).take n.toNat
            rw [List.drop_take, show o.toNat = i by omega, show n.toNat = j - i by omega]
          clear hx1 hx2 hx3 hi hj hok hsl ho1 hlo
          go_wp2_with (first
            | (at_builtin; refine Hid.out ?_))
          refine Hid.mk_ ?_
          refine appB rfl _ _ rfl (HO.out.ext HEN.out) rfl hsm rfl (by omega) (Nat.le_trans HE.out.size_le HEN.out.size_le) ?_
          intro A7 m7 c7 w7 ho7 hg7 hN7
          have HO7 : Hid (OsB w7 w5.heap.size A7 m7 c7 ((L.take (q + 1)).flatMap (runO x))) := by
            show OsB _ _ _ _ _ _
            rw [HRT.out, ← HRN.out]
            exact ho7
          have HE7 : Hid (Ext w5 w7) := (HE.out.trans HEN.out).grown hg7 (fun j hj => HO.out.ge j hj)
          clear ho7 hg7 hN7 hsm
          go_wp2
          go_roundw
          case rel => exact ⟨q + 1, A7, m7, c7, by omega, rfl, by go_num, HO7, HE7⟩
          case measure => simp [intOf]; omega
      · have hi1 : ¬ (q : Int) < (md : Int) := by omega
        have hqe : L.take q = L := List.take_of_length_le (by rw [← HLEN.out]; omega)
        rw [hqe] at HO
        obtain ⟨out, hout⟩ : ∃ out, out = L.flatMap (runO x) := ⟨_, rfl⟩
        rw [← hout] at HO
        have HOUT := Lib.hid hout
        clear hqe hout
        obtain ⟨so, hso⟩ : ∃ so, so = sumN out := ⟨_, rfl⟩
        have HV : Hid (∀ u : ExtOf wr, Calls Tryz.prog 18 #[.slice Ao mo co] u.1 fun e w' => e = .returned (.int .u64 (so : Int)) ∧ Ext u.1 w') := fun u => by
          rw [hso]
          exact sum_any co (HO.out.sl.ext u.ext)
        have hb9 := HB5.out.below HE.out HB5.out.lt
        have X3 := latersU (show wr.cell? ⟨g6, 3, none⟩ = some (.int .u64 b) from hb9.cell 3)
        clear hb9
        by_cases hb : so = b
        · have HR : Hid (ApR x p (out, 0)) := .inr ⟨H0.out, _, HD.out, .inr ⟨HQ.out, .inr ⟨by show sumN (L.flatMap (runO x)) = b; rw [← HOUT.out, ← hso]; exact hb, by rw [HOUT.out]⟩⟩⟩
          subst hb
          have hbq : ((so : Int) != (so : Int)) = false := by simp
          clear hso
          go_upto_region 14 with fail
          refine wp_region_ext_lit (by kernel_rfl) (by kernel_rfl) ?_
          try dsimp only [List.append]
          repeat (go_big_quiet_step ((go_at_call 18; exact Calls.quiet_ext (HV.out _))))
          refine wpQuiet_nil ?_
          rintro w9 ⟨⟨_, h9⟩, rfl⟩
          try dsimp only
          clear X3
          go_wp2
          go_ret2
          exact ⟨⟨Ao, mo, co, out, 0, rfl, (HO.out.ext h9).mono hE05.size_le, HR.out⟩, (hE05.trans HE.out).trans h9⟩
        · have HR : Hid (ApR x p ([], 5)) := .inr ⟨H0.out, _, HD.out, .inr ⟨HQ.out, .inl ⟨fun h => hb (by rw [hso, HOUT.out]; exact h), rfl⟩⟩⟩
          have hbq : ((so : Int) != (b : Int)) = true := by rw [bne_iff_ne]; omega
          clear hso hb
          go_upto_region 14 with fail
          refine wp_region_ext_lit (by kernel_rfl) (by kernel_rfl) ?_
          try dsimp only [List.append]
          repeat (go_big_quiet_step ((go_at_call 18; exact Calls.quiet_ext (HV.out _))))
          refine wpQuiet_nil ?_
          rintro w9 ⟨⟨_, h9⟩, rfl⟩
          try dsimp only
          clear X3
          go_wp2
          go_ret2
          exact ⟨⟨none, 0, 0, [], 5, rfl, OsB.nil_, HR.out⟩, (hE05.trans HE.out).trans h9⟩
set_option maxHeartbeats 3200000 in
theorem psizes_any {B : Option Addr} {k : Nat} (d : Nat) {p : List UInt8} (hp : SlB w B k p) (hkd : k ≤ d) (hk : k ≤ 1000000) (hT : Tb w) :
    Calls Tryz.prog 10 #[.slice B k d] w fun e w' => (∃ (o n : Int) (code : Nat), e = .returned (.tuple #[.int .i64 o, .int .i64 n, .int .i64 (code : Int)]) ∧ SzR p o n code) ∧ Ext w w' := by
  go_enter Tryz.func10, Tryz.ntmps10
  go_wp2_with (first
    | (go_at_call 17; refine Hid.out ?_))
  refine Hid.mk_ ((popen_any d hp hkd hk hT).mono ?_)
  rintro e w1 ⟨⟨cells, code, rfl, hO⟩, hE1⟩
  rcases hO with ⟨h0, rfl, rfl⟩ | ⟨h0, ⟨hd, rfl, rfl⟩ | ⟨dd, a, b, Ad, md, cd, hd, rfl, hs, hc, rfl⟩⟩
  · obtain ⟨oc, hoc⟩ : ∃ oc, oc = (openR pkey p).2 := ⟨_, rfl⟩
    rw [← hoc] at h0
    have HR : Hid (SzR p 0 0 oc) := .inl ⟨by rw [← hoc]; exact h0, rfl, rfl, hoc⟩
    rw [← hoc]
    unfold zeroC
    clear hoc h0
    go_wp2_with fail
    go_quiet (fail)
    go_wp2
    refine bodyPost_ret (results_tmp3 rfl _ _ _) rfl ?_
    exact ⟨⟨0, 0, oc, rfl, HR.out⟩, (hE1.alloc _).drewN _⟩
  · have HR : Hid (SzR p 0 0 4) := .inr ⟨h0, none, hd, rfl, rfl, rfl⟩
    unfold zeroC
    clear hd h0
    go_wp2_with fail
    go_quiet (fail)
    go_wp2
    refine bodyPost_ret (results_tmp3 rfl _ _ _) rfl ?_
    exact ⟨⟨0, 0, 4, rfl, HR.out⟩, (hE1.alloc _).drewN _⟩
  · obtain ⟨old, os, new, ns, L⟩ := dd
    have HR : Hid (SzR p old new 0) := .inr ⟨h0, _, hd, rfl, rfl, rfl⟩
    clear hd h0 hs
    go_wp2_with fail
    go_quiet (fail)
    go_wp2
    refine bodyPost_ret (results_tmp3 rfl _ _ _) rfl ?_
    exact ⟨⟨old, new, 0, rfl, HR.out⟩, (hE1.alloc _).drewN _⟩
end
end Go.Proofs.YtghndnacmpckbaaGreatDoor
