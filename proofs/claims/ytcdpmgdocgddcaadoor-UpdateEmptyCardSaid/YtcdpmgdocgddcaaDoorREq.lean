/- The reference's equality of fields, entries, catalogs. -/
import Derived.Test.YtcdpmgdocgddcaaDoorRVal
namespace Go.Proofs.YtcdpmgdocgddcaaDoor
open Go.RowKit
set_option maxRecDepth 100000
attribute [local go_sem] ext_refl_t ext_alloc_t ext_drew_t ext_drewN_t ext_alloc2_t ext_alloc3_t ext_alloc4_t ext_alloc5_t ext_alloc6_t ext_alloc7_t ext_alloc8_t ext_alloc1d_t ext_alloc2d_t ext_alloc3d_t ext_alloc4d_t
instance : DecidableEq Ep := fun a b => decidable_of_iff (a.id = b.id ∧ a.src = b.src ∧ a.tgt = b.tgt ∧ a.st = b.st ∧ a.com = b.com ∧ a.fl = b.fl ∧ a.fd = b.fd) (by
  obtain ⟨a1, a2, a3, a4, a5, a6, a7⟩ := a
  obtain ⟨b1, b2, b3, b4, b5, b6, b7⟩ := b
  simp only [Ep.mk.injEq]
  constructor <;> (rintro ⟨h1, h2, h3, h4, h5, h6, h7⟩; exact ⟨h1, h2, h3, by assumption, by assumption, by assumption, by assumption⟩))
/-- Equal but for their entries. -/
def eqH (a b : Cp) : Bool := decide (a.tag = b.tag) && decide (a.com = b.com) && decide (a.fd = b.fd)
def eqC (a b : Cp) : Bool := eqH a b && decide (a.es = b.es)
theorem eqC_iff {a b : Cp} : eqC a b = true ↔ a = b := by
  obtain ⟨a1, a2, a3, a4⟩ := a
  obtain ⟨b1, b2, b3, b4⟩ := b
  simp only [eqC, eqH, Bool.and_eq_true, decide_eq_true_eq, Cp.mk.injEq]
  constructor
  · rintro ⟨⟨⟨h1, h2⟩, h3⟩, h4⟩; exact ⟨h1, h2, h3, h4⟩
  · rintro ⟨h1, h2, h3, h4⟩; exact ⟨⟨⟨h1, h2⟩, h3⟩, h4⟩
section
variable {w : World}
set_option maxHeartbeats 3200000 in
theorem rsameF_any {h h' : SlH} {l m : List Fd} (hs : FdsW w h l) (hs' : FdsW w h' m) :
    Calls Tryd.prog 33 #[.slice h.A h.m h.c, .slice h'.A h'.m h'.c] w fun e w' => e = .returned (.bool (decide (l = m))) ∧ Ext w w' := by
  obtain ⟨A, n, c⟩ := h
  obtain ⟨B, n', d⟩ := h'
  have HL1 := Lib.hid hs.sl.len
  have HL2 := Lib.hid hs'.sl.len
  have hle := hs.sl.le
  have hle' := hs'.sl.le
  dsimp only at HL1 HL2 hle hle' ⊢
  by_cases hlen : n = n'
  · subst hlen
    have e0 : ((n : Int) != (n : Int)) = false := by simp
    go_enter Tryd.func33, Tryd.ntmps33
    go_wp2
    go_loopw [5] (fun i wr => ∃ k : Nat, k ≤ n ∧ i = .int .i64 k ∧ Hid (l.take k = m.take k) ∧ Ext w wr) (fun i _ => n - (intOf i).toNat)
    case atStart => exact ⟨0, Nat.zero_le _, rfl, Lib.hid rfl, Ext.refl _⟩
    case round =>
      obtain ⟨k, hk, rfl, HP, hE⟩ := hrel
      by_cases hlt : k < n
      · obtain ⟨b, off, e1, _, hc⟩ := (hs.sl.ext hE).at_ hlt (by omega)
        obtain ⟨b', off', e2, _, hc'⟩ := (hs'.sl.ext hE).at_ hlt (by omega)
        dsimp only at e1 e2
        subst e1 e2
        have hlt1 : k < l.length := by rw [← HL1.out]; exact hlt
        have hlt2 : k < m.length := by rw [← HL2.out]; exact hlt
        obtain ⟨x, hxq⟩ : ∃ x, x = l[k] := ⟨_, rfl⟩
        obtain ⟨y, hyq⟩ : ∃ y, y = m[k] := ⟨_, rfl⟩
        obtain ⟨s, s2⟩ := x
        obtain ⟨t, t2⟩ := y
        have x0 := hc k hlt1 0 (by omega)
        have x1 := hc k hlt1 1 (by omega)
        have y0 := hc' k hlt2 0 (by omega)
        have y1 := hc' k hlt2 1 (by omega)
        simp only [← hxq, ← hyq, fdC, List.getElem_cons_zero, List.getElem_cons_succ, Nat.add_zero, ← Nat.add_assoc] at x0 x1 y0 y1
        have hi1 : (k : Int) < (n : Int) := by omega
        have HX := Lib.hid hxq
        have HY := Lib.hid hyq
        clear hc hc' hxq hyq
        have Y0 := latersU x0
        have Y1 := latersU x1
        have Y2 := latersU y0
        have Y3 := latersU y1
        by_cases heq : s = t ∧ s2 = t2
        · have hb1 : (s.toList == t.toList) = true := by simp [heq.1]
          have hb2 : (s2.toList == t2.toList) = true := by simp [heq.2]
          have Heq := Lib.hid heq; clear heq
          go_wp2
          refine wp_region_ext_lit (by kernel_rfl) (by kernel_rfl) ?_
          try dsimp only [List.append]
          repeat (go_big_quiet_step (fail))
          refine wpQuiet_nil ?_
          rintro w5 ⟨⟨_, h5⟩, rfl⟩
          try dsimp only
          go_wp2
          go_roundw
          case rel => exact ⟨k + 1, by omega, by go_num, by show _ = _; rw [List.take_succ_eq_append_getElem hlt1, List.take_succ_eq_append_getElem hlt2, HP.out, ← HX.out, ← HY.out, Heq.out.1, Heq.out.2], hE.trans h5⟩
          case measure => simp [intOf]; omega
        · have HF : Hid (decide (l = m) = false) := by
            show _ = _
            simp only [decide_eq_false_iff_not]
            rintro rfl
            have h9 := HX.out.trans HY.out.symm
            injection h9 with h91 h92
            exact heq ⟨h91, h92⟩
          by_cases h1 : s = t
          · have hb1 : (s.toList == t.toList) = true := by simp [h1]
            have hb2 : (s2.toList == t2.toList) = false := by
              rw [beq_eq_false_iff_ne]
              exact fun hh => heq ⟨h1, toList_inj hh⟩
            clear heq h1
            go_wp2
            refine wp_region_ext_lit (by kernel_rfl) (by kernel_rfl) ?_
            try dsimp only [List.append]
            repeat (go_big_quiet_step (fail))
            refine wpQuiet_nil ?_
            rintro w5 ⟨⟨_, h5⟩, rfl⟩
            try dsimp only
            go_wp2
            go_ret
            exact ⟨by rw [HF.out]; first | done | rfl, hE.trans h5⟩
          · have hb1 : (s.toList == t.toList) = false := by
              rw [beq_eq_false_iff_ne]
              exact fun hh => h1 (toList_inj hh)
            clear heq h1
            go_wp2
            refine wp_region_ext_lit (by kernel_rfl) (by kernel_rfl) ?_
            try dsimp only [List.append]
            repeat (go_big_quiet_step (fail))
            refine wpQuiet_nil ?_
            rintro w5 ⟨⟨_, h5⟩, rfl⟩
            try dsimp only
            go_wp2
            go_ret
            exact ⟨by rw [HF.out]; first | done | rfl, hE.trans h5⟩
      · have HF : Hid (decide (l = m) = true) := by
          show _ = _
          simp only [decide_eq_true_eq]
          have := HP.out
          rwa [List.take_of_length_le (by rw [← HL1.out]; omega), List.take_of_length_le (by rw [← HL2.out]; omega)] at this
        have hi1 : ¬ (k : Int) < (n : Int) := by omega
        go_wp2
        go_ret
        exact ⟨by rw [HF.out]; first | done | rfl, hE⟩
  · have hne : ((n : Int) != (n' : Int)) = true := by simp only [bne_iff_ne, ne_eq]; omega
    have HF : Hid (decide (l = m) = false) := by
      show _ = _
      simp only [decide_eq_false_iff_not]
      rintro rfl
      exact hlen (HL1.out.trans HL2.out.symm)
    go_enter Tryd.func33, Tryd.ntmps33
    go_wp2
    go_ret
    exact ⟨by rw [HF.out]; first | done | rfl, Ext.refl _⟩
end

end Go.Proofs.YtcdpmgdocgddcaaDoor

/- Equality of lists of strings and fields, of entries: the program's and the reference's. -/
namespace Go.Proofs.YtcdpmgdocgddcaaDoor
open Go.RowKit
set_option maxRecDepth 100000
attribute [local go_sem] ext_refl_t ext_alloc_t ext_drew_t ext_drewN_t ext_alloc2_t ext_alloc3_t ext_alloc4_t ext_alloc5_t ext_alloc6_t ext_alloc7_t ext_alloc8_t ext_alloc1d_t ext_alloc2d_t ext_alloc3d_t ext_alloc4d_t
theorem HW.sls {w : World} {h : SlH} {l : List ByteArray} (hh : StrsW w h l) : SlS w h.A h.m l := hh.sl.sls (by have := hh.bd; omega)
section
variable {w : World}
theorem rsameS_any {h h' : SlH} {l m : List ByteArray} (hs : StrsW w h l) (hs' : StrsW w h' m) :
    Calls Tryd.prog 14 #[.slice h.A h.m h.c, .slice h'.A h'.m h'.c] w fun e w' => e = .returned (.bool (decide (l = m))) ∧ Ext w w' := same5 _ _ hs.sls hs'.sls
end

end Go.Proofs.YtcdpmgdocgddcaaDoor

/- Equality of entries: the program's and the reference's. -/
namespace Go.Proofs.YtcdpmgdocgddcaaDoor
open Go.RowKit
set_option maxRecDepth 100000
attribute [local go_sem] ext_refl_t ext_alloc_t ext_drew_t ext_drewN_t ext_alloc2_t ext_alloc3_t ext_alloc4_t ext_alloc5_t ext_alloc6_t ext_alloc7_t ext_alloc8_t ext_alloc1d_t ext_alloc2d_t ext_alloc3d_t ext_alloc4d_t
section
variable {w : World}
set_option maxHeartbeats 6400000 in
theorem reqE_any {x y : Ent} (hx : EntW w x) (hy : EntW w y) :
    Calls Tryd.prog 36 #[entV x, entV y] w fun e w' => e = .returned (.bool (decide (x.p = y.p))) ∧ Ext w w' := by
  obtain ⟨⟨aid, asrc, atgt, acom, afl, ast, afd⟩, ahc, ahf, ahd⟩ := x
  obtain ⟨⟨bid, bsrc, btgt, bcom, bfl, bst, bfd⟩, bhc, bhf, bhd⟩ := y
  obtain ⟨akc, akf, akd, _, _, _, _, _⟩ := hx
  obtain ⟨bkc, bkf, bkd, _, _, _, _, _⟩ := hy
  unfold entV
  dsimp only at *
  have hb0 : Blk ((w.alloc (Obj.cells #[.string aid, .string asrc, .string atgt, .slice ahc.A ahc.m ahc.c, .slice ahf.A ahf.m ahf.c, .int .i64 ast, .slice ahd.A ahd.m ahd.c] 35)).alloc (Obj.cells #[.string bid, .string bsrc, .string btgt, .slice bhc.A bhc.m bhc.c, .slice bhf.A bhf.m bhf.c, .int .i64 bst, .slice bhd.A bhd.m bhd.c] 35)) w.heap.size 35 #[.string aid, .string asrc, .string atgt, .slice ahc.A ahc.m ahc.c, .slice ahf.A ahf.m ahf.c, .int .i64 ast, .slice ahd.A ahd.m ahd.c] := (Blk.new w _ _).alloc _
  have hb1 : Blk ((w.alloc (Obj.cells #[.string aid, .string asrc, .string atgt, .slice ahc.A ahc.m ahc.c, .slice ahf.A ahf.m ahf.c, .int .i64 ast, .slice ahd.A ahd.m ahd.c] 35)).alloc (Obj.cells #[.string bid, .string bsrc, .string btgt, .slice bhc.A bhc.m bhc.c, .slice bhf.A bhf.m bhf.c, .int .i64 bst, .slice bhd.A bhd.m bhd.c] 35)) (w.heap.size + 1) 35 #[.string bid, .string bsrc, .string btgt, .slice bhc.A bhc.m bhc.c, .slice bhf.A bhf.m bhf.c, .int .i64 bst, .slice bhd.A bhd.m bhd.c] := by
    have h := Blk.new (w.alloc (Obj.cells #[.string aid, .string asrc, .string atgt, .slice ahc.A ahc.m ahc.c, .slice ahf.A ahf.m ahf.c, .int .i64 ast, .slice ahd.A ahd.m ahd.c] 35)) 35 #[.string bid, .string bsrc, .string btgt, .slice bhc.A bhc.m bhc.c, .slice bhf.A bhf.m bhf.c, .int .i64 bst, .slice bhd.A bhd.m bhd.c]
    simpa using h
  have hE0 : Ext w ((w.alloc (Obj.cells #[.string aid, .string asrc, .string atgt, .slice ahc.A ahc.m ahc.c, .slice ahf.A ahf.m ahf.c, .int .i64 ast, .slice ahd.A ahd.m ahd.c] 35)).alloc (Obj.cells #[.string bid, .string bsrc, .string btgt, .slice bhc.A bhc.m bhc.c, .slice bhf.A bhf.m bhf.c, .int .i64 bst, .slice bhd.A bhd.m bhd.c] 35)) := ((Ext.refl w).alloc _).alloc _
  have HNE : Hid (¬ (aid = bid ∧ asrc = bsrc ∧ atgt = btgt ∧ ast = bst ∧ acom = bcom ∧ afl = bfl ∧ afd = bfd) → decide ((⟨aid, asrc, atgt, acom, afl, ast, afd⟩ : Ep) = ⟨bid, bsrc, btgt, bcom, bfl, bst, bfd⟩) = false) := fun h => decide_eq_false (fun e => h (by injection e with h1 h2 h3 h4 h5 h6 h7; exact ⟨h1, h2, h3, h6, h4, h5, h7⟩))
  have HEQ : Hid (aid = bid ∧ asrc = bsrc ∧ atgt = btgt ∧ ast = bst ∧ acom = bcom ∧ afl = bfl → decide ((⟨aid, asrc, atgt, acom, afl, ast, afd⟩ : Ep) = ⟨bid, bsrc, btgt, bcom, bfl, bst, bfd⟩) = decide (afd = bfd)) := fun ⟨h1, h2, h3, h4, h5, h6⟩ => by
    subst h1 h2 h3 h4 h5 h6
    by_cases h7 : afd = bfd
    · subst h7; simp
    · rw [decide_eq_false h7]; exact decide_eq_false (fun e => h7 (by injection e))
  have Xa0 := laters (show _ = some (.string aid) from hb0.cell 0)
  have Xb0 := laters (show _ = some (.string bid) from hb1.cell 0)
  have Xa1 := laters (show _ = some (.string asrc) from hb0.cell 1)
  have Xb1 := laters (show _ = some (.string bsrc) from hb1.cell 1)
  have Xa2 := laters (show _ = some (.string atgt) from hb0.cell 2)
  have Xb2 := laters (show _ = some (.string btgt) from hb1.cell 2)
  have Xa3 := laters (show _ = some (.slice ahc.A ahc.m ahc.c) from hb0.cell 3)
  have Xb3 := laters (show _ = some (.slice bhc.A bhc.m bhc.c) from hb1.cell 3)
  have Xa4 := laters (show _ = some (.slice ahf.A ahf.m ahf.c) from hb0.cell 4)
  have Xb4 := laters (show _ = some (.slice bhf.A bhf.m bhf.c) from hb1.cell 4)
  have Xa5 := laters (show _ = some (.int .i64 ast) from hb0.cell 5)
  have Xb5 := laters (show _ = some (.int .i64 bst) from hb1.cell 5)
  have Xa6 := laters (show _ = some (.slice ahd.A ahd.m ahd.c) from hb0.cell 6)
  have Xb6 := laters (show _ = some (.slice bhd.A bhd.m bhd.c) from hb1.cell 6)
  clear hb0 hb1
  by_cases hq : aid = bid
  case neg =>
    have hbq : (aid.toList == bid.toList) = false := by rw [beq_eq_false_iff_ne]; exact fun hh => hq (toList_inj hh)
    have HF := Lib.hid (HNE.out (fun h => hq h.1))
    clear hq
    go_enter Tryd.func36, Tryd.ntmps36
    go_wp2
    go_ret
    exact ⟨by rw [HF.out]; first | done | rfl, hE0⟩
  have hbaid : (aid.toList == bid.toList) = true := by rw [hq]; simp
  have Haid := Lib.hid hq
  clear hq
  by_cases hq : asrc = bsrc
  case neg =>
    have hbq : (asrc.toList == bsrc.toList) = false := by rw [beq_eq_false_iff_ne]; exact fun hh => hq (toList_inj hh)
    have HF := Lib.hid (HNE.out (fun h => hq h.2.1))
    clear hq
    go_enter Tryd.func36, Tryd.ntmps36
    go_wp2
    go_ret
    exact ⟨by rw [HF.out]; first | done | rfl, hE0⟩
  have hbasrc : (asrc.toList == bsrc.toList) = true := by rw [hq]; simp
  have Hasrc := Lib.hid hq
  clear hq
  by_cases hq : atgt = btgt
  case neg =>
    have hbq : (atgt.toList == btgt.toList) = false := by rw [beq_eq_false_iff_ne]; exact fun hh => hq (toList_inj hh)
    have HF := Lib.hid (HNE.out (fun h => hq h.2.2.1))
    clear hq
    go_enter Tryd.func36, Tryd.ntmps36
    go_wp2
    go_ret
    exact ⟨by rw [HF.out]; first | done | rfl, hE0⟩
  have hbatgt : (atgt.toList == btgt.toList) = true := by rw [hq]; simp
  have Hatgt := Lib.hid hq
  clear hq
  by_cases hq : ast = bst
  case neg =>
    have hbq : (ast == bst) = false := by rw [beq_eq_false_iff_ne]; exact hq
    have HF := Lib.hid (HNE.out (fun h => hq h.2.2.2.1))
    clear hq
    go_enter Tryd.func36, Tryd.ntmps36
    go_wp2
    go_ret
    exact ⟨by rw [HF.out]; first | done | rfl, hE0⟩
  have hbast : (ast == bst) = true := by rw [hq]; simp
  have Hast := Lib.hid hq
  clear hq
  go_enter Tryd.func36, Tryd.ntmps36
  go_wp2_with (first
    | (go_at_call 14; refine Hid.out ?_))
  refine Hid.mk_ ((rsameS_any (akc.ext hE0) (bkc.ext hE0)).mono ?_)
  rintro e w1 ⟨rfl, hE1⟩
  have hE01 := hE0.trans hE1
  by_cases hq : acom = bcom
  case neg =>
    rw [decide_eq_false hq]
    have HF := Lib.hid (HNE.out (fun h => hq h.2.2.2.2.1))
    clear hq
    go_wp2
    go_ret
    exact ⟨by rw [HF.out]; first | done | rfl, hE01⟩
  rw [decide_eq_true hq]
  have Hacom := Lib.hid hq
  clear hq
  go_wp2_with (first
    | (go_at_call 14; refine Hid.out ?_))
  refine Hid.mk_ ((rsameS_any (akf.ext hE01) (bkf.ext hE01)).mono ?_)
  rintro e w2 ⟨rfl, hE2⟩
  have hE12 := hE1.trans hE2
  have hE02 := hE01.trans hE2
  by_cases hq : afl = bfl
  case neg =>
    rw [decide_eq_false hq]
    have HF := Lib.hid (HNE.out (fun h => hq h.2.2.2.2.2.1))
    clear hq
    go_wp2
    go_ret
    exact ⟨by rw [HF.out]; first | done | rfl, hE02⟩
  rw [decide_eq_true hq]
  have HF := Lib.hid (HEQ.out ⟨Haid.out, Hasrc.out, Hatgt.out, Hast.out, Hacom.out, hq⟩)
  clear hq
  go_wp2_with (first
    | (go_at_call 33; refine Hid.out ?_))
  refine Hid.mk_ ((rsameF_any (akd.ext hE02) (bkd.ext hE02)).mono ?_)
  rintro e w3 ⟨rfl, hE3⟩
  go_wp2
  go_ret
  exact ⟨by rw [HF.out]; first | done | rfl | simp, hE02.trans hE3⟩
end

end Go.Proofs.YtcdpmgdocgddcaaDoor

/- Equality of lists of entries. -/
namespace Go.Proofs.YtcdpmgdocgddcaaDoor
open Go.RowKit
set_option maxRecDepth 100000
attribute [local go_sem] ext_refl_t ext_alloc_t ext_drew_t ext_drewN_t ext_alloc2_t ext_alloc3_t ext_alloc4_t ext_alloc5_t ext_alloc6_t ext_alloc7_t ext_alloc8_t ext_alloc1d_t ext_alloc2d_t ext_alloc3d_t ext_alloc4d_t
section
variable {w : World}
set_option maxHeartbeats 6400000 in
theorem rsameEs_any {h h' : SlH} {l m : List Ent} (hs : EntsW w h l) (hs' : EntsW w h' m) :
    Calls Tryd.prog 18 #[.slice h.A h.m h.c, .slice h'.A h'.m h'.c] w fun e w' => e = .returned (.bool (decide (l.map Ent.p = m.map Ent.p))) ∧ Ext w w' := by
  obtain ⟨A, n, c⟩ := h
  obtain ⟨B, n', d⟩ := h'
  have HL1 := Lib.hid hs.sl.len
  have HL2 := Lib.hid hs'.sl.len
  have hle := hs.sl.le
  have hle' := hs'.sl.le
  dsimp only at HL1 HL2 hle hle' ⊢
  by_cases hlen : n = n'
  case neg =>
    have hne : ((n : Int) != (n' : Int)) = true := by simp only [bne_iff_ne, ne_eq]; omega
    have HF : Hid (decide (l.map Ent.p = m.map Ent.p) = false) := by
      show _ = _
      simp only [decide_eq_false_iff_not]
      intro e
      have e2 := congrArg List.length e
      rw [List.length_map, List.length_map] at e2
      exact hlen (HL1.out.trans (e2.trans HL2.out.symm))
    go_enter Tryd.func18, Tryd.ntmps18
    go_wp2
    go_ret
    exact ⟨by rw [HF.out]; first | done | rfl, Ext.refl _⟩
  subst hlen
  have e0 : ((n : Int) != (n : Int)) = false := by simp
  go_enter Tryd.func18, Tryd.ntmps18
  go_wp2
  go_loopw [5] (fun i wr => ∃ k : Nat, k ≤ n ∧ i = .int .i64 k ∧ Hid ((l.map Ent.p).take k = (m.map Ent.p).take k) ∧ Ext w wr) (fun i _ => n - (intOf i).toNat)
  case atStart => exact ⟨0, Nat.zero_le _, rfl, Lib.hid rfl, Ext.refl _⟩
  case round =>
    obtain ⟨k, hk, rfl, HP, hE⟩ := hrel
    by_cases hlt : k < n
    · obtain ⟨b, off, e1, _, hc⟩ := (hs.sl.ext hE).at_ hlt (by omega)
      obtain ⟨b', off', e2, _, hc'⟩ := (hs'.sl.ext hE).at_ hlt (by omega)
      dsimp only at e1 e2
      subst e1 e2
      have hlt1 : k < l.length := by rw [← HL1.out]; exact hlt
      have hlt2 : k < m.length := by rw [← HL2.out]; exact hlt
      obtain ⟨x, hxq⟩ : ∃ x, x = l[k] := ⟨_, rfl⟩
      obtain ⟨y, hyq⟩ : ∃ y, y = m[k] := ⟨_, rfl⟩
      have hx := hs.good _ (List.getElem_mem hlt1)
      rw [← hxq] at hx
      have hy := hs'.good _ (List.getElem_mem hlt2)
      rw [← hyq] at hy
      have x0 := hc k hlt1 0 (by omega)
      have y0 := hc' k hlt2 0 (by omega)
      have x1 := hc k hlt1 1 (by omega)
      have y1 := hc' k hlt2 1 (by omega)
      have x2 := hc k hlt1 2 (by omega)
      have y2 := hc' k hlt2 2 (by omega)
      have x3 := hc k hlt1 3 (by omega)
      have y3 := hc' k hlt2 3 (by omega)
      have x4 := hc k hlt1 4 (by omega)
      have y4 := hc' k hlt2 4 (by omega)
      have x5 := hc k hlt1 5 (by omega)
      have y5 := hc' k hlt2 5 (by omega)
      have x6 := hc k hlt1 6 (by omega)
      have y6 := hc' k hlt2 6 (by omega)
      simp only [← hxq, ← hyq, entC, List.getElem_cons_zero, List.getElem_cons_succ, Nat.add_zero, ← Nat.add_assoc] at x0 y0 x1 y1 x2 y2 x3 y3 x4 y4 x5 y5 x6 y6
      have hi1 : (k : Int) < (n : Int) := by omega
      have HX := Lib.hid hxq
      have HY := Lib.hid hyq
      clear hc hc' hxq hyq
      have HNE : Hid (x.p ≠ y.p → decide (l.map Ent.p = m.map Ent.p) = false) := fun hne => decide_eq_false (fun e => hne (by
        rw [HX.out, HY.out]
        have h1 : (l.map Ent.p)[k]'(by rw [List.length_map]; exact hlt1) = (m.map Ent.p)[k]'(by rw [List.length_map]; exact hlt2) := by simp only [e]
        rwa [List.getElem_map, List.getElem_map] at h1))
      have HST : Hid (x.p = y.p → (l.map Ent.p).take (k + 1) = (m.map Ent.p).take (k + 1)) := fun e => by
        rw [List.take_succ_eq_append_getElem (by rw [List.length_map]; exact hlt1), List.take_succ_eq_append_getElem (by rw [List.length_map]; exact hlt2), HP.out, List.getElem_map, List.getElem_map, ← HX.out, ← HY.out, e]
      have hcall : ∀ u : ExtOf wr, Calls Tryd.prog 36 #[.agg #[.string x.p.id, .string x.p.src, .string x.p.tgt, .slice x.c.A x.c.m x.c.c, .slice x.f.A x.f.m x.f.c, .int .i64 x.p.st, .slice x.d.A x.d.m x.d.c], .agg #[.string y.p.id, .string y.p.src, .string y.p.tgt, .slice y.c.A y.c.m y.c.c, .slice y.f.A y.f.m y.f.c, .int .i64 y.p.st, .slice y.d.A y.d.m y.d.c]] u.1 fun e w' => e = .returned (.bool (decide (x.p = y.p))) ∧ Ext u.1 w' := fun u => reqE_any (hx.ext (hE.trans u.ext)) (hy.ext (hE.trans u.ext))
      have X0 := latersU x0
      have Y0 := latersU y0
      have X1 := latersU x1
      have Y1 := latersU y1
      have X2 := latersU x2
      have Y2 := latersU y2
      have X3 := latersU x3
      have Y3 := latersU y3
      have X4 := latersU x4
      have Y4 := latersU y4
      have X5 := latersU x5
      have Y5 := latersU y5
      have X6 := latersU x6
      have Y6 := latersU y6
      obtain ⟨r, hr⟩ : ∃ r, r = decide (x.p = y.p) := ⟨_, rfl⟩
      rw [← hr] at hcall
      have HV := Lib.hid hcall
      have HR := Lib.hid hr
      clear hcall hr
      cases r with
      | false =>
        have HF := Lib.hid (HNE.out (of_decide_eq_false HR.out.symm))
        go_wp2
        refine wp_region_ext_lit (by kernel_rfl) (by kernel_rfl) ?_
        try dsimp only [List.append]
        repeat (go_big_quiet_step ((go_at_call 36; with_reducible exact Calls.quiet_ext (HV.out _))))
        refine wpQuiet_nil ?_
        rintro w5 ⟨⟨_, h5⟩, rfl⟩
        try dsimp only
        go_wp2
        go_ret
        exact ⟨by rw [HF.out]; first | done | rfl, hE.trans h5⟩
      | true =>
        have HN := Lib.hid (HST.out (of_decide_eq_true HR.out.symm))
        go_wp2
        refine wp_region_ext_lit (by kernel_rfl) (by kernel_rfl) ?_
        try dsimp only [List.append]
        repeat (go_big_quiet_step ((go_at_call 36; with_reducible exact Calls.quiet_ext (HV.out _))))
        refine wpQuiet_nil ?_
        rintro w5 ⟨⟨_, h5⟩, rfl⟩
        try dsimp only
        go_wp2
        go_roundw
        case rel => exact ⟨k + 1, by omega, by go_num, HN, hE.trans h5⟩
        case measure => simp [intOf]; omega
    · have HF : Hid (decide (l.map Ent.p = m.map Ent.p) = true) := by
        show _ = _
        simp only [decide_eq_true_eq]
        have := HP.out
        rwa [List.take_of_length_le (by rw [List.length_map, ← HL1.out]; omega), List.take_of_length_le (by rw [List.length_map, ← HL2.out]; omega)] at this
      have hi1 : ¬ (k : Int) < (n : Int) := by omega
      go_wp2
      go_ret
      exact ⟨by rw [HF.out]; first | done | rfl, hE⟩
end

end Go.Proofs.YtcdpmgdocgddcaaDoor

/- Equality of catalogs; IDs; Count. -/
namespace Go.Proofs.YtcdpmgdocgddcaaDoor
open Go.RowKit
set_option maxRecDepth 100000
attribute [local go_sem] ext_refl_t ext_alloc_t ext_drew_t ext_drewN_t ext_alloc2_t ext_alloc3_t ext_alloc4_t ext_alloc5_t ext_alloc6_t ext_alloc7_t ext_alloc8_t ext_alloc1d_t ext_alloc2d_t ext_alloc3d_t ext_alloc4d_t
section
variable {w : World}
set_option maxHeartbeats 6400000 in
theorem reqH_any {x y : Cat} (hx : CatW w x) (hy : CatW w y) :
    Calls Tryd.prog 12 #[catV x, catV y] w fun e w' => e = .returned (.bool (eqH x.p y.p)) ∧ Ext w w' := by
  have HX := Lib.hid hx
  have HY := Lib.hid hy
  obtain ⟨atag, acom, afd, aes, ahc, ahd, ahe⟩ := x
  obtain ⟨btag, bcom, bfd, bes, bhc, bhd, bhe⟩ := y
  obtain ⟨_, akc, akd, ake⟩ := hx
  obtain ⟨_, bkc, bkd, bke⟩ := hy
  have HCA : Hid (catV ⟨atag, acom, afd, aes, ahc, ahd, ahe⟩ = .agg #[.string atag, .slice ahc.A ahc.m ahc.c, .slice ahd.A ahd.m ahd.c, .slice ahe.A ahe.m ahe.c]) := rfl
  have HCB : Hid (catV ⟨btag, bcom, bfd, bes, bhc, bhd, bhe⟩ = .agg #[.string btag, .slice bhc.A bhc.m bhc.c, .slice bhd.A bhd.m bhd.c, .slice bhe.A bhe.m bhe.c]) := rfl
  rw [HCA.out, HCB.out]
  dsimp only at *
  have hb0 : Blk ((w.alloc (Obj.cells #[.string atag, .slice ahc.A ahc.m ahc.c, .slice ahd.A ahd.m ahd.c, .slice ahe.A ahe.m ahe.c] 26)).alloc (Obj.cells #[.string btag, .slice bhc.A bhc.m bhc.c, .slice bhd.A bhd.m bhd.c, .slice bhe.A bhe.m bhe.c] 26)) w.heap.size 26 #[.string atag, .slice ahc.A ahc.m ahc.c, .slice ahd.A ahd.m ahd.c, .slice ahe.A ahe.m ahe.c] := (Blk.new w _ _).alloc _
  have hb1 : Blk ((w.alloc (Obj.cells #[.string atag, .slice ahc.A ahc.m ahc.c, .slice ahd.A ahd.m ahd.c, .slice ahe.A ahe.m ahe.c] 26)).alloc (Obj.cells #[.string btag, .slice bhc.A bhc.m bhc.c, .slice bhd.A bhd.m bhd.c, .slice bhe.A bhe.m bhe.c] 26)) (w.heap.size + 1) 26 #[.string btag, .slice bhc.A bhc.m bhc.c, .slice bhd.A bhd.m bhd.c, .slice bhe.A bhe.m bhe.c] := by
    have h := Blk.new (w.alloc (Obj.cells #[.string atag, .slice ahc.A ahc.m ahc.c, .slice ahd.A ahd.m ahd.c, .slice ahe.A ahe.m ahe.c] 26)) 26 #[.string btag, .slice bhc.A bhc.m bhc.c, .slice bhd.A bhd.m bhd.c, .slice bhe.A bhe.m bhe.c]
    simpa using h
  have hE0 : Ext w ((w.alloc (Obj.cells #[.string atag, .slice ahc.A ahc.m ahc.c, .slice ahd.A ahd.m ahd.c, .slice ahe.A ahe.m ahe.c] 26)).alloc (Obj.cells #[.string btag, .slice bhc.A bhc.m bhc.c, .slice bhd.A bhd.m bhd.c, .slice bhe.A bhe.m bhe.c] 26)) := ((Ext.refl w).alloc _).alloc _
  have HV : Hid (∀ b : Bool, eqH (Cat.p ⟨atag, acom, afd, aes, ahc, ahd, ahe⟩) (Cat.p ⟨btag, bcom, bfd, bes, bhc, bhd, bhe⟩) = b → eqH (Cat.p ⟨atag, acom, afd, aes, ahc, ahd, ahe⟩) (Cat.p ⟨btag, bcom, bfd, bes, bhc, bhd, bhe⟩) = b) := fun _ h => h
  have Xa0 := laters (show _ = some (.string atag) from hb0.cell 0)
  have Xb0 := laters (show _ = some (.string btag) from hb1.cell 0)
  have Xa1 := laters (show _ = some (.slice ahc.A ahc.m ahc.c) from hb0.cell 1)
  have Xb1 := laters (show _ = some (.slice bhc.A bhc.m bhc.c) from hb1.cell 1)
  have Xa2 := laters (show _ = some (.slice ahd.A ahd.m ahd.c) from hb0.cell 2)
  have Xb2 := laters (show _ = some (.slice bhd.A bhd.m bhd.c) from hb1.cell 2)
  have Xa3 := laters (show _ = some (.slice ahe.A ahe.m ahe.c) from hb0.cell 3)
  have Xb3 := laters (show _ = some (.slice bhe.A bhe.m bhe.c) from hb1.cell 3)
  clear hb0 hb1
  by_cases hq : atag = btag
  case neg =>
    have hbq : (atag.toList == btag.toList) = false := by rw [beq_eq_false_iff_ne]; exact fun hh => hq (toList_inj hh)
    have HF := Lib.hid (HV.out false (by show eqH _ _ = false; unfold eqH Cat.p; dsimp only; rw [decide_eq_false hq]; simp))
    clear hq
    go_enter Tryd.func12, Tryd.ntmps12
    go_wp2
    go_ret
    exact ⟨by rw [HF.out]; first | done | rfl, hE0⟩
  have hba : (atag.toList == btag.toList) = true := by rw [hq]; simp
  have HQ1 := Lib.hid hq
  clear hq
  go_enter Tryd.func12, Tryd.ntmps12
  go_wp2_with (first
    | (go_at_call 14; refine Hid.out ?_))
  refine Hid.mk_ ((rsameS_any (akc.ext hE0) (bkc.ext hE0)).mono ?_)
  rintro e w1 ⟨rfl, hE1⟩
  have hE01 := hE0.trans hE1
  by_cases hq : acom = bcom
  case neg =>
    rw [decide_eq_false hq]
    have HF := Lib.hid (HV.out false (by show eqH _ _ = false; unfold eqH Cat.p; dsimp only; rw [decide_eq_false hq]; simp))
    clear hq
    go_wp2
    go_ret
    exact ⟨by rw [HF.out]; first | done | rfl, hE01⟩
  rw [decide_eq_true hq]
  have HQ2 := Lib.hid hq
  clear hq
  go_wp2_with (first
    | (go_at_call 33; refine Hid.out ?_))
  refine Hid.mk_ ((rsameF_any (akd.ext hE01) (bkd.ext hE01)).mono ?_)
  rintro e w2 ⟨rfl, hE2⟩
  have hE12 := hE1.trans hE2
  have hE02 := hE01.trans hE2
  have HF := Lib.hid (HV.out (decide (afd = bfd)) (by show eqH _ _ = _; unfold eqH Cat.p; dsimp only; rw [decide_eq_true HQ1.out, decide_eq_true HQ2.out]; simp))
  go_wp2
  go_ret
  exact ⟨by rw [HF.out]; first | done | rfl | simp, hE02⟩
set_option maxHeartbeats 6400000 in
theorem reqC_any {x y : Cat} (hx : CatW w x) (hy : CatW w y) :
    Calls Tryd.prog 20 #[catV x, catV y] w fun e w' => e = .returned (.bool (eqC x.p y.p)) ∧ Ext w w' := by
  have HX := Lib.hid hx
  have HY := Lib.hid hy
  obtain ⟨atag, acom, afd, aes, ahc, ahd, ahe⟩ := x
  obtain ⟨btag, bcom, bfd, bes, bhc, bhd, bhe⟩ := y
  obtain ⟨_, akc, akd, ake⟩ := hx
  obtain ⟨_, bkc, bkd, bke⟩ := hy
  have HCA : Hid (catV ⟨atag, acom, afd, aes, ahc, ahd, ahe⟩ = .agg #[.string atag, .slice ahc.A ahc.m ahc.c, .slice ahd.A ahd.m ahd.c, .slice ahe.A ahe.m ahe.c]) := rfl
  have HCB : Hid (catV ⟨btag, bcom, bfd, bes, bhc, bhd, bhe⟩ = .agg #[.string btag, .slice bhc.A bhc.m bhc.c, .slice bhd.A bhd.m bhd.c, .slice bhe.A bhe.m bhe.c]) := rfl
  rw [HCA.out, HCB.out]
  dsimp only at *
  have hb0 : Blk ((w.alloc (Obj.cells #[.string atag, .slice ahc.A ahc.m ahc.c, .slice ahd.A ahd.m ahd.c, .slice ahe.A ahe.m ahe.c] 26)).alloc (Obj.cells #[.string btag, .slice bhc.A bhc.m bhc.c, .slice bhd.A bhd.m bhd.c, .slice bhe.A bhe.m bhe.c] 26)) w.heap.size 26 #[.string atag, .slice ahc.A ahc.m ahc.c, .slice ahd.A ahd.m ahd.c, .slice ahe.A ahe.m ahe.c] := (Blk.new w _ _).alloc _
  have hb1 : Blk ((w.alloc (Obj.cells #[.string atag, .slice ahc.A ahc.m ahc.c, .slice ahd.A ahd.m ahd.c, .slice ahe.A ahe.m ahe.c] 26)).alloc (Obj.cells #[.string btag, .slice bhc.A bhc.m bhc.c, .slice bhd.A bhd.m bhd.c, .slice bhe.A bhe.m bhe.c] 26)) (w.heap.size + 1) 26 #[.string btag, .slice bhc.A bhc.m bhc.c, .slice bhd.A bhd.m bhd.c, .slice bhe.A bhe.m bhe.c] := by
    have h := Blk.new (w.alloc (Obj.cells #[.string atag, .slice ahc.A ahc.m ahc.c, .slice ahd.A ahd.m ahd.c, .slice ahe.A ahe.m ahe.c] 26)) 26 #[.string btag, .slice bhc.A bhc.m bhc.c, .slice bhd.A bhd.m bhd.c, .slice bhe.A bhe.m bhe.c]
    simpa using h
  have hE0 : Ext w ((w.alloc (Obj.cells #[.string atag, .slice ahc.A ahc.m ahc.c, .slice ahd.A ahd.m ahd.c, .slice ahe.A ahe.m ahe.c] 26)).alloc (Obj.cells #[.string btag, .slice bhc.A bhc.m bhc.c, .slice bhd.A bhd.m bhd.c, .slice bhe.A bhe.m bhe.c] 26)) := ((Ext.refl w).alloc _).alloc _
  have HV : Hid (∀ b : Bool, eqC (Cat.p ⟨atag, acom, afd, aes, ahc, ahd, ahe⟩) (Cat.p ⟨btag, bcom, bfd, bes, bhc, bhd, bhe⟩) = b → eqC (Cat.p ⟨atag, acom, afd, aes, ahc, ahd, ahe⟩) (Cat.p ⟨btag, bcom, bfd, bes, bhc, bhd, bhe⟩) = b) := fun _ h => h
  have Xa0 := laters (show _ = some (.string atag) from hb0.cell 0)
  have Xb0 := laters (show _ = some (.string btag) from hb1.cell 0)
  have Xa1 := laters (show _ = some (.slice ahc.A ahc.m ahc.c) from hb0.cell 1)
  have Xb1 := laters (show _ = some (.slice bhc.A bhc.m bhc.c) from hb1.cell 1)
  have Xa2 := laters (show _ = some (.slice ahd.A ahd.m ahd.c) from hb0.cell 2)
  have Xb2 := laters (show _ = some (.slice bhd.A bhd.m bhd.c) from hb1.cell 2)
  have Xa3 := laters (show _ = some (.slice ahe.A ahe.m ahe.c) from hb0.cell 3)
  have Xb3 := laters (show _ = some (.slice bhe.A bhe.m bhe.c) from hb1.cell 3)
  clear hb0 hb1
  have hh := reqH_any (HX.out.ext hE0) (HY.out.ext hE0)
  rw [HCA.out, HCB.out] at hh
  go_enter Tryd.func20, Tryd.ntmps20
  go_wp2_with (first
    | (go_at_call 12; refine Hid.out ?_))
  refine Hid.mk_ ((hh).mono ?_)
  rintro e w1 ⟨rfl, hE1⟩
  have hE01 := hE0.trans hE1
  clear hh
  cases hq : eqH (Cat.p ⟨atag, acom, afd, aes, ahc, ahd, ahe⟩) (Cat.p ⟨btag, bcom, bfd, bes, bhc, bhd, bhe⟩) with
  | false =>
    have HF := Lib.hid (HV.out false (by unfold eqC; rw [hq]; rfl))
    clear hq
    go_wp2
    go_ret
    exact ⟨by rw [HF.out]; first | done | rfl, hE01⟩
  | true =>
  have HF := Lib.hid (HV.out (decide (aes.map Ent.p = bes.map Ent.p)) (by show eqC _ _ = _; unfold eqC; rw [hq]; rfl))
  clear hq
  go_wp2_with (first
    | (go_at_call 18; refine Hid.out ?_))
  refine Hid.mk_ ((rsameEs_any (EntsW.ext ake hE01) (EntsW.ext bke hE01)).mono ?_)
  rintro e w3 ⟨rfl, hE3⟩
  go_wp2
  go_ret
  exact ⟨by rw [HF.out]; first | done | rfl | simp, hE01.trans hE3⟩
end

end Go.Proofs.YtcdpmgdocgddcaaDoor
