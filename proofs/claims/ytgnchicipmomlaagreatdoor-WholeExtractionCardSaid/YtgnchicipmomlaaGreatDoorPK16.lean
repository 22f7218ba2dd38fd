/- The program's scripts: Valid. -/
import Derived.Test.YtgnchicipmomlaaGreatDoorPK09
import Derived.Test.YtgnchicipmomlaaGreatDoorPK15
namespace Go.Proofs.YtgnchicipmomlaaGreatDoor
open Go.RowKit Go.Maps
set_option maxRecDepth 100000
attribute [local go_sem] ext_refl_t ext_alloc_t ext_drew_t ext_drewN_t ext_alloc2_t ext_alloc3_t ext_alloc4_t ext_alloc5_t ext_alloc6_t ext_alloc7_t ext_alloc8_t ext_alloc1d_t ext_alloc2d_t ext_alloc3d_t ext_alloc4d_t
/-- A set of at most n strings. -/
def SMN (w : World) (bm n : Nat) : Prop := ∃ S, SM w bm n S
section
variable {w w' : World} {bm n : Nat}
theorem SMN.ext (h : SMN w bm n) (hE : Ext w w') : SMN w' bm n := by obtain ⟨S, h⟩ := h; exact ⟨S, h.ext hE⟩
theorem SMN.made (w : World) : SMN (w.alloc (.map #[] 0)) w.heap.size 0 := ⟨[], SM.made w⟩
theorem SMN.look (h : SMN w bm n) (s : ByteArray) (hs : s.size ≤ 140737488351232) : ∃ r : Bool, (Instr.lookup 50 (.map (some bm)) (.string s) false).run Tryz.prog w = .ok (.bool r) w := by
  obtain ⟨S, h⟩ := h
  exact ⟨_, h.look s (by unfold maxLen; omega)⟩
theorem SMN.store (h : SMN w bm n) (hn : n ≤ 1000000000) (s : ByteArray) (hs : s.size ≤ 140737488351232) :
    ∃ w', (Instr.mapUpdate 50 (.map (some bm)) (.string s) (.bool true)).run Tryz.prog w = .ok () w' ∧ SMN w' bm (n + 1) ∧ w.grownBy w' (some bm) := by
  obtain ⟨S, h⟩ := h
  obtain ⟨w', h1, h2, h3⟩ := h.store (by unfold maxLen; omega) s (by unfold maxLen; omega)
  exact ⟨w', h1, ⟨_, h2⟩, h3⟩
end
section
variable {w : World}
set_option maxHeartbeats 6400000 in
theorem ValidS_any {h : SlH} {l : List Sta} (hs : ScrW w h l) (hT : ∀ x ∈ l, LgT x) :
    Calls Tryz.prog 45 #[.slice h.A h.m h.c] w fun e w' => RetB (fun r => r = true → 1 ≤ l.length ∧ l.length ≤ 20 ∧ ∀ x ∈ l, x.rules.length ≤ 40) e ∧ Ext w w' := by
  have HSW := Lib.hid hs
  obtain ⟨A, m, c⟩ := h
  have HL := Lib.hid hs.sl.len
  have hle := hs.sl.le
  have HG := Lib.hid hs.good
  have HT := Lib.hid hT
  dsimp only at HL hle ⊢
  have hs := hs.sl
  clear hT
  by_cases hm1 : m < 1
  · go_enter Tryz.func45, Tryz.ntmps45
    go_wp2
    go_ret
    exact ⟨⟨_, rfl, by first | (intro h; cases h; done) | (intro h; simp at h; omega) | (intro h; omega) | omega⟩, Ext.refl _⟩
  by_cases hm2 : 20 < m
  · go_enter Tryz.func45, Tryz.ntmps45
    go_wp2
    go_ret
    exact ⟨⟨_, rfl, by first | (intro h; cases h; done) | (intro h; simp at h; omega) | (intro h; omega) | omega⟩, Ext.refl _⟩
  have hmm := @run_makeMap Tryz.prog
  have hm0 := SMN.made w
  have hEm : Ext w (w.alloc (.map #[] 0)) := (Ext.refl _).alloc _
  go_enter Tryz.func45, Tryz.ntmps45
  go_wp2
  obtain ⟨W4, hW4⟩ : ∃ W4, W4 = w.alloc (.map #[] 0) := ⟨_, rfl⟩
  rw [← hW4] at hm0 hEm ⊢
  obtain ⟨bm, hbm⟩ : ∃ bm, bm = w.heap.size := ⟨_, rfl⟩
  rw [← hbm] at hm0 ⊢
  have hbmw : ∀ k, some bm = some k → w.heap.size ≤ k := fun k hk => by injection hk with hk; omega
  have HBM := Lib.hid hbmw
  clear hmm hW4 hbm hbmw
  go_loopw [21] (fun i wr => ∃ q : Nat, q ≤ m ∧ i = .int .i64 q ∧ Ext w wr ∧ Hid (SMN wr bm q) ∧ Hid (∀ j (_ : j < q) (h : j < l.length), l[j].rules.length ≤ 40)) (fun i _ => m - (intOf i).toNat)
  case atStart => exact ⟨0, Nat.zero_le _, rfl, hEm, hm0, fun j hj _ => absurd hj (by omega)⟩
  case round =>
    obtain ⟨q, hq, rfl, hE, HS, HC⟩ := hrel
    by_cases hlt : q < m
    ·
      obtain ⟨b, off, e0, hbl, hcs⟩ := (hs.ext hE).at_ hlt (by omega)
      try dsimp only at e0
      subst e0
      have hlt1 : q < (l).length := by rw [← HL.out]; exact hlt
      have HM : Hid ((l)[q] ∈ l) := List.getElem_mem hlt1
      obtain ⟨⟨nm, rules, ⟨B, n, d⟩⟩, hyq⟩ : ∃ y, y = (l)[q] := ⟨_, rfl⟩
      have x0 := hcs q hlt1 0 (by omega)
      have x1 := hcs q hlt1 1 (by omega)
      simp only [← hyq, staC, List.getElem_cons_zero, List.getElem_cons_succ, Nat.add_zero, ← Nat.add_assoc] at x0 x1
      have hi1 : (q : Int) < (m : Int) := by omega
      rw [← hyq] at HM
      have HY := Lib.hid hyq
      clear hcs hyq
      have hgn : nm.size ≤ 4000000 := (HT.out _ HM.out).1
      have hgm : GoodStr nm := (HG.out _ HM.out).name
      have hn2 : n ≤ 140737488355328 := (HG.out _ HM.out).r.sl.le
      have HLn : Hid (n = rules.length) := (HG.out _ HM.out).r.sl.len
      have hbi := Blk.new wr 115 #[.string nm, .slice B n d]
      have hEx : Ext wr (wr.alloc (Obj.cells #[.string nm, .slice B n d] 115)) := (Ext.refl _).alloc _
      go_wp2_with (first
        | (go_at_call 44; refine Hid.out ?_))
      refine Hid.mk_ ((wordS_any nm hgm).mono ?_)
      rintro e w2 ⟨⟨r, rfl, -⟩, hE2⟩
      have k0 := later hE2 (hbi.cell 0)
      have k1 := later hE2 (hbi.cell 1)
      simp at k0 k1
      have hE3 := hEx.trans hE2
      have hE4 := hE.trans hE3
      have HS2 := Lib.hid (HS.out.ext hE3)
      obtain ⟨r2, hr2⟩ := HS2.out.look nm (by omega)
      obtain ⟨w3, hst, hS3, hg3⟩ := HS2.out.store (by omega) nm (by omega)
      have HST := Lib.hid hst
      have HS3 := Lib.hid hS3
      have HE5 := Lib.hid (hE4.grown hg3 HBM.out)
      clear hst hS3 hg3 hbi hEx hE2 hE3 hgm
      cases r with
      | false =>
        go_wp2
        go_ret
        exact ⟨⟨_, rfl, by first | (intro h; cases h; done) | (intro h; simp at h; omega) | (intro h; omega) | omega⟩, hE4⟩
      | true =>
        cases r2 with
        | true =>
          go_wp2
          go_ret
          exact ⟨⟨_, rfl, by first | (intro h; cases h; done) | (intro h; simp at h; omega) | (intro h; omega) | omega⟩, hE4⟩
        | false =>
          by_cases hn1 : n < 1
          · go_wp2
            go_ret
            exact ⟨⟨_, rfl, by first | (intro h; cases h; done) | (intro h; simp at h; omega) | (intro h; omega) | omega⟩, hE4⟩
          by_cases hn40 : 40 < n
          · go_wp2
            go_ret
            exact ⟨⟨_, rfl, by first | (intro h; cases h; done) | (intro h; simp at h; omega) | (intro h; omega) | omega⟩, hE4⟩
          have HN : Hid (∀ j (_ : j < q + 1) (h : j < l.length), l[j].rules.length ≤ 40) := fun j hj h => by
            rcases Nat.lt_or_ge j q with h2 | h2
            · exact HC.out j h2 h
            · obtain rfl : j = q := by omega
              rw [← HY.out]
              show rules.length ≤ 40
              rw [← HLn.out]; omega
          have hst := HST.out
          clear HST
          go_wp2
          all_goals first
            | (go_ret; exact ⟨⟨_, rfl, by first | (intro h; cases h; done) | (intro h; simp at h; omega) | (intro h; omega) | omega⟩, hE⟩)
            | (refine ⟨⟨q + 1, by omega, by go_num, HE5.out, HS3, HN⟩, ?_⟩; first | (simp [intOf]; omega) | (simp [intOf]) | omega)
            | (go_roundw; (case rel => exact ⟨q + 1, by omega, by go_num, HE5.out, HS3, HN⟩); (case measure => first | (simp [intOf]; omega) | (simp [intOf])))
    · have hi1 : ¬ (q : Int) < (m : Int) := by omega
      have HA : Hid (∀ x ∈ l, x.rules.length ≤ 40) := fun i hi => by
        obtain ⟨j, hj, rfl⟩ := List.mem_iff_getElem.1 hi
        exact HC.out j (by rw [← HL.out] at hj; omega) hj
      clear HC hlt
      obtain ⟨wo, rfl⟩ : ∃ wo : World, wo = wr := ⟨_, rfl⟩
      go_wp2
      go_loopw [53] (fun i wr => ∃ p : Nat, p ≤ m ∧ i = .int .i64 p ∧ Hid (Ext w wr) ∧ Hid (SMN wr bm q)) (fun i _ => m - (intOf i).toNat)
      case atStart => exact ⟨0, Nat.zero_le _, rfl, hE, HS⟩
      case round =>
        obtain ⟨p, hp, rfl, HE2, HS2⟩ := hrel
        obtain ⟨wo, rfl⟩ : ∃ wo : World, wo = wr := ⟨_, rfl⟩
        by_cases hltp : p < m
        ·
          obtain ⟨b, off, e0, hbl, hcs⟩ := (hs.ext HE2.out).at_ hltp (by omega)
          try dsimp only at e0
          subst e0
          have hlt1 : p < (l).length := by rw [← HL.out]; exact hltp
          have HM : Hid ((l)[p] ∈ l) := List.getElem_mem hlt1
          obtain ⟨⟨nm, rules, ⟨B, n, d⟩⟩, hyq⟩ : ∃ y, y = (l)[p] := ⟨_, rfl⟩
          have x0 := hcs p hlt1 0 (by omega)
          have x1 := hcs p hlt1 1 (by omega)
          simp only [← hyq, staC, List.getElem_cons_zero, List.getElem_cons_succ, Nat.add_zero, ← Nat.add_assoc] at x0 x1
          have hi1 : (p : Int) < (m : Int) := by omega
          rw [← hyq] at HM
          have HY := Lib.hid hyq
          clear hcs hyq
          have hw : RulsW w ⟨B, n, d⟩ rules := (HG.out _ HM.out).r
          have HR : Hid (∀ r ∈ rules, LgR r) := (HT.out _ HM.out).2
          have HG2 := Lib.hid hw.good
          have hw := hw.sl
          have HL2 := Lib.hid hw.len
          have hle2 := hw.le
          dsimp only at HL2 hle2
          have hEx : Ext wo (wo.alloc (Obj.cells #[.string nm, .slice B n d] 115)) := (Ext.refl _).alloc _
          have HE3 := Lib.hid (HE2.out.trans hEx)
          have HS3 := Lib.hid (HS2.out.ext hEx)
          clear hEx
          go_wp2
          go_loopw [60] (fun i wr => ∃ k : Nat, k ≤ n ∧ i = .int .i64 k ∧ Hid (Ext w wr) ∧ Hid (SMN wr bm q)) (fun i _ => n - (intOf i).toNat)
          case atStart => exact ⟨0, Nat.zero_le _, rfl, HE3, HS3⟩
          case round =>
            obtain ⟨k, hk, rfl, HE4, HS4⟩ := hrel
            by_cases hltk : k < n
            ·
              obtain ⟨b2, off2, e0, hbl2, hcs2⟩ := (hw.ext HE4.out).at_ hltk (by omega)
              try dsimp only at e0
              subst e0
              have hlt2 : k < (rules).length := by rw [← (HL2).out]; exact hltk
              have HM2 : Hid ((rules)[k] ∈ rules) := List.getElem_mem hlt2
              obtain ⟨y, hyq⟩ : ∃ y, y = (rules)[k] := ⟨_, rfl⟩
              have y0 := hcs2 k hlt2 0 (by omega)
              have y1 := hcs2 k hlt2 1 (by omega)
              have y2 := hcs2 k hlt2 2 (by omega)
              simp only [← hyq, rulC, List.getElem_cons_zero, List.getElem_cons_succ, Nat.add_zero, ← Nat.add_assoc] at y0 y1 y2
              have hi2 : (k : Int) < (n : Int) := by omega
              rw [← hyq] at HM2
              have HY2 := Lib.hid hyq
              clear hcs2 hyq
              have hbi := Blk.new wr 110 #[.string y.kind, .slice y.h.A y.h.m y.h.c, .string y.next]
              have hEx : Ext wr (wr.alloc (Obj.cells #[.string y.kind, .slice y.h.A y.h.m y.h.c, .string y.next] 110)) := (Ext.refl _).alloc _
              have hE5 := HE4.out.trans hEx
              have hny : y.next.size ≤ 4000000 := (HR.out _ HM2.out).2.1
              go_wp2_with (first
                | (go_at_call 73; refine Hid.out ?_))
              refine Hid.mk_ ((soundS_any (x := y) ((HG2.out _ HM2.out).ext hE5)).mono ?_)
              rintro e w6 ⟨⟨r, rfl, -⟩, hE6⟩
              have k2 := later hE6 (hbi.cell 2)
              simp at k2
              have HE7 := Lib.hid (hE5.trans hE6)
              have HS7 := Lib.hid (HS4.out.ext (hEx.trans hE6))
              obtain ⟨r2, hr2⟩ := HS7.out.look y.next (by omega)
              clear hbi hEx hE5 hE6
              cases r with
              | false =>
                go_wp2
                go_ret
                exact ⟨⟨_, rfl, by first | (intro h; cases h; done) | (intro h; simp at h; omega) | (intro h; omega) | omega⟩, HE7.out⟩
              | true =>
                by_cases hnx : y.next.size = 0
                · have hte := tl_empty hnx
                  clear hnx
                  go_wp2
                  all_goals first
                    | (go_ret; exact ⟨⟨_, rfl, by first | (intro h; cases h; done) | (intro h; simp at h; omega) | (intro h; omega) | omega⟩, HE7.out⟩)
                    | (refine ⟨⟨k + 1, by omega, by go_num, HE7, HS7⟩, ?_⟩; first | (simp [intOf]; omega) | (simp [intOf]) | omega)
                    | (go_roundw; (case rel => exact ⟨k + 1, by omega, by go_num, HE7, HS7⟩); (case measure => first | (simp [intOf]; omega) | (simp [intOf])))
                · have hte := tl_full hnx
                  clear hnx
                  cases r2 with
                  | true =>
                    go_wp2
                    all_goals first
                      | (go_ret; exact ⟨⟨_, rfl, by first | (intro h; cases h; done) | (intro h; simp at h; omega) | (intro h; omega) | omega⟩, HE7.out⟩)
                      | (refine ⟨⟨k + 1, by omega, by go_num, HE7, HS7⟩, ?_⟩; first | (simp [intOf]; omega) | (simp [intOf]) | omega)
                      | (go_roundw; (case rel => exact ⟨k + 1, by omega, by go_num, HE7, HS7⟩); (case measure => first | (simp [intOf]; omega) | (simp [intOf])))
                  | false =>
                    go_wp2
                    go_ret
                    exact ⟨⟨_, rfl, by first | (intro h; cases h; done) | (intro h; simp at h; omega) | (intro h; omega) | omega⟩, HE7.out⟩
            · have hi2 : ¬ (k : Int) < (n : Int) := by omega
              go_wp2
              all_goals first
                | (go_ret; exact ⟨⟨_, rfl, by first | (intro h; cases h; done) | (intro h; simp at h; omega) | (intro h; omega) | omega⟩, HE4.out⟩)
                | (refine ⟨⟨p + 1, by omega, by go_num, HE4, HS4⟩, ?_⟩; first | (simp [intOf]; omega) | (simp [intOf]) | omega)
                | (go_roundw; (case rel => exact ⟨p + 1, by omega, by go_num, HE4, HS4⟩); (case measure => first | (simp [intOf]; omega) | (simp [intOf])))
        · have hi2 : ¬ (p : Int) < (m : Int) := by omega
          have HLM : Hid (1 ≤ l.length ∧ l.length ≤ 20 ∧ ∀ x ∈ l, x.rules.length ≤ 40) := ⟨by rw [← HL.out]; omega, by rw [← HL.out]; omega, HA.out⟩
          go_wp2_with (first
            | (go_at_call 75; refine Hid.out ?_))
          refine Hid.mk_ ((textS_any (HSW.out.ext HE2.out) (by rw [← HL.out]; omega) (fun x hx => ⟨HT.out x hx, HA.out x hx⟩)).mono ?_)
          rintro e w5 ⟨⟨t, rfl, ht⟩, hE5⟩
          go_wp2
          go_ret
          exact ⟨⟨_, rfl, fun _ => HLM.out⟩, HE2.out.trans hE5⟩
end
end Go.Proofs.YtgnchicipmomlaaGreatDoor

/- The program's scripts: the reader. -/
namespace Go.Proofs.YtgnchicipmomlaaGreatDoor
open Go.RowKit
set_option maxRecDepth 100000
attribute [local go_sem] ext_refl_t ext_alloc_t ext_drew_t ext_drewN_t ext_alloc2_t ext_alloc3_t ext_alloc4_t ext_alloc5_t ext_alloc6_t ext_alloc7_t ext_alloc8_t ext_alloc1d_t ext_alloc2d_t ext_alloc3d_t ext_alloc4d_t
/-- The reader in block g is at the text s. -/
abbrev Rdr (w : World) (g : Nat) (s : ByteArray) : Prop := Blk w g 149 #[.string s]
/-- What a call of a reader's method leaves: only the reader has changed. -/
structure RdW (w w' : World) (g : Nat) (s' : ByteArray) : Prop where
  r : Rdr w' g s'
  g : w.grownBy w' (some g)
theorem indexE (c : Nat) : ∃ a : Int, (-1 ≤ a ∧ a < 100) ∧ Hid (∀ W, Calls Tryz.prog 122 #[.string ⟨#[48, 49, 50, 51, 52, 53, 54, 55, 56, 57, 97, 98, 99, 100, 101, 102]⟩, .int .u8 (c : Int)] W fun e w' => e = .returned (.int .i64 a) ∧ Ext W w') := by
  refine ⟨Lib.indexByte [48, 49, 50, 51, 52, 53, 54, 55, 56, 57, 97, 98, 99, 100, 101, 102] (c : Int).toNat.toUInt8, ?_, fun W => ?_⟩
  rotate_left
  · have h := Go.Proofs.Any.strings_IndexByte Tryz.laysIB ⟨#[48, 49, 50, 51, 52, 53, 54, 55, 56, 57, 97, 98, 99, 100, 101, 102]⟩ (c : Int) W
    change Calls Tryz.prog 122 _ _ _ at h
    exact h.mono fun e w' ⟨he, hw⟩ => ⟨he, by rw [hw]; exact Ext.refl _⟩
  · have h1 := Lib.indexByte_ge [48, 49, 50, 51, 52, 53, 54, 55, 56, 57, 97, 98, 99, 100, 101, 102] (c : Int).toNat.toUInt8
    refine ⟨h1, ?_⟩
    show Lib.indexByte [48, 49, 50, 51, 52, 53, 54, 55, 56, 57, 97, 98, 99, 100, 101, 102] _ < 100
    generalize hz : Lib.indexByte [48, 49, 50, 51, 52, 53, 54, 55, 56, 57, 97, 98, 99, 100, 101, 102] (c : Int).toNat.toUInt8 = z
    by_cases h0 : z < 0
    · omega
    · obtain ⟨o, ho⟩ : ∃ o : Nat, z = o := ⟨z.toNat, by omega⟩
      have h2 := (Lib.indexByte_some (hz.trans ho)).1
      have h3 := (List.getElem?_eq_some_iff.1 h2).1
      simp at h3
      omega
section
variable {w w' w1 : World} {g : Nat} {s s' : ByteArray}
theorem RdW.set_ (h : Rdr w g s) (s' : ByteArray) : RdW w (w.setCell ⟨g, 0, none⟩ (.string s')) g s' := ⟨h.set_ 0 _, grown_setB w ⟨g, 0, none⟩ _⟩
theorem RdW.refl (h : Rdr w g s) : RdW w w g s := ⟨h, (Ext.refl w).grownBy _⟩
theorem RdW.ext (h : RdW w w1 g s) (hE : Ext w1 w') : RdW w w' g s := ⟨Blk.below h.r hE (Blk.lt h.r), grown_step h.g (hE.grownBy (some g)) (NewOr.refl _ _)⟩
theorem RdW.trans {s1 : ByteArray} (h : RdW w w1 g s1) (k : RdW w1 w' g s) : RdW w w' g s := ⟨k.r, grown_step h.g k.g (NewOr.refl _ _)⟩
def CutW (w w' : World) (g : Nat) (s : ByteArray) (n : Nat) (e : Ending) : Prop := ∃ (s' : ByteArray) (r : Bool), e = .returned (.bool r) ∧ RdW w w' g s' ∧ (r = false → s' = s) ∧ (r = true → s'.size + n = s.size)
set_option maxHeartbeats 1600000 in
theorem cutW_any (h : Rdr w g s) (p : ByteArray) :
    Calls Tryz.prog 71 #[.pointer (some ⟨g, 0, none⟩), .string p] w fun e w' => CutW w w' g s p.size e := by
  have k0 := h.cell 0
  simp at k0
  go_enter Tryz.func71, Tryz.ntmps71
  go_wp2_with (first
    | (go_at_call 42; refine Hid.out ?_))
  refine Hid.mk_ ((cutPreT_any s p).mono ?_)
  rintro e w1 ⟨⟨a, r, rfl, hr1, hr2⟩, hE1⟩
  have HR1 := Lib.hid hr1
  have HR2 := Lib.hid hr2
  have h1 := Blk.below h hE1 (Blk.lt h)
  have k1 := h1.cell 0
  have f1 := h1.frozen 0
  simp at k1
  clear hr1 hr2
  cases r with
  | false =>
    go_wp2
    go_ret
    exact ⟨s, false, rfl, (RdW.refl h).ext hE1, fun _ => rfl, fun h => by cases h⟩
  | true =>
    go_wp2
    go_ret
    exact ⟨a, true, rfl, ((RdW.refl h).ext hE1).trans (RdW.set_ h1 a), (fun h => by cases h), fun _ => HR2.out (by trivial)⟩
def OneW (w w' : World) (g : Nat) (s : ByteArray) (e : Ending) : Prop := ∃ (s' : ByteArray) (z : Nat), e = .returned (.int .u8 (z : Int)) ∧ z < 256 ∧ RdW w w' g s' ∧ s'.size < s.size
set_option maxHeartbeats 3200000 in
theorem oneW_any (h : Rdr w g s) (hs : 0 < s.size) (hb : s.size ≤ 140737488351232) :
    Calls Tryz.prog 101 #[.pointer (some ⟨g, 0, none⟩)] w fun e w' => OneW w w' g s e := by
  have k0 := h.cell 0
  have f0 := h.frozen 0
  simp at k0
  obtain ⟨z, hz⟩ : ∃ z : Nat, s[0].toNat = z := ⟨_, rfl⟩
  have hz256 : z < 256 := by rw [← hz]; exact UInt8.toNat_lt _
  have hi0 : (0 : Int) < (s.size : Int) := by omega
  have hi1 : (1 : Int) ≤ (s.size : Int) := by omega
  go_enter Tryz.func101, Tryz.ntmps101
  go_upto_region 3 with fail
  obtain ⟨s1, hs1⟩ : ∃ s1, s1 = s.extract 1 s.size := ⟨_, rfl⟩
  have hz1 : s1.size < s.size := by rw [hs1, ByteArray.size_extract]; omega
  have hr1 := RdW.set_ h s1
  rw [← hs1]
  obtain ⟨W1, hW1⟩ : ∃ W1, W1 = w.setCell ⟨g, 0, none⟩ (.string s1) := ⟨_, rfl⟩
  rw [← hW1] at hr1 ⊢
  have k1 := hr1.r.cell 0
  have f1 := hr1.r.frozen 0
  simp at k1
  clear hW1 hs1 k0 f0 hz
  by_cases h92 : z = 92
  · have c1 : ((z : Int) != 92) = false := by simp; omega
    have c2 : ((z : Int) == 92) = true := by simp; omega
    clear h92
    by_cases hs10 : s1.size = 0
    · have hte := tl_empty hs10
      clear hs10
      go_wp2
      go_ret
      exact ⟨s1, z, rfl, hz256, hr1, by omega⟩
    · have hte := tl_full hs10
      have hj0 : (0 : Int) < (s1.size : Int) := by omega
      have hj1 : (1 : Int) ≤ (s1.size : Int) := by omega
      have hs1p : 0 < s1.size := by omega
      clear hs10
      obtain ⟨y, hy⟩ : ∃ y : Nat, s1[0].toNat = y := ⟨_, rfl⟩
      have hy256 : y < 256 := by rw [← hy]; exact UInt8.toNat_lt _
      go_upto_region 7 with fail
      obtain ⟨s2, hs2⟩ : ∃ s2, s2 = s1.extract 1 s1.size := ⟨_, rfl⟩
      have hz2 : s2.size < s1.size := by rw [hs2, ByteArray.size_extract]; omega
      have hr2 := hr1.trans (RdW.set_ hr1.r s2)
      rw [← hs2]
      obtain ⟨W2, hW2⟩ : ∃ W2, W2 = W1.setCell ⟨g, 0, none⟩ (.string s2) := ⟨_, rfl⟩
      rw [← hW2] at hr2 ⊢
      have k2 := hr2.r.cell 0
      have f2 := hr2.r.frozen 0
      simp at k2
      clear hW2 hs2 k1 f1 hy c1 c2 hr1
      by_cases h120 : y = 120
      · have c1 : ((y : Int) != 120) = false := by simp; omega
        have c2 : ((y : Int) == 120) = true := by simp; omega
        clear h120
        by_cases hl2 : s2.size < 2
        · go_wp2
          go_ret
          exact ⟨s2, y, rfl, hy256, hr2, by omega⟩
        · have hl0 : (0 : Int) < (s2.size : Int) := by omega
          have hl1 : (1 : Int) < (s2.size : Int) := by omega
          have hl2' : (2 : Int) ≤ (s2.size : Int) := by omega
          have hp0 : 0 < s2.size := by omega
          have hp1 : 1 < s2.size := by omega
          obtain ⟨u, hu⟩ : ∃ u : Nat, s2[0].toNat = u := ⟨_, rfl⟩
          obtain ⟨v, hv⟩ : ∃ v : Nat, s2[1].toNat = v := ⟨_, rfl⟩
          obtain ⟨a, ha, HA⟩ := indexE u
          obtain ⟨b, hb2, HB⟩ := indexE v
          have K2 := latersU k2
          go_wp2
          refine wp_region_ext_lit (by kernel_rfl) (by kernel_rfl) ?_
          try dsimp only [List.append]
          repeat (go_big_quiet_step (first | (go_at_call 122; exact Calls.quiet_ext (HA.out _)) | (go_at_call 122; exact Calls.quiet_ext (HB.out _))))
          refine wpQuiet_nil ?_
          rintro w5 ⟨⟨_, h5⟩, rfl⟩
          try dsimp only
          have hr5 := hr2.ext h5
          have k5 := hr5.r.cell 0
          have f5 := hr5.r.frozen 0
          simp at k5
          go_wp2
          go_ret
          refine ⟨_, ((16 * a + b) % 256).toNat, ?_, by omega, hr5.trans (RdW.set_ hr5.r _), by rw [ByteArray.size_extract]; omega⟩
          rw [Int.toNat_of_nonneg (by omega)]
          rfl
      · have c1 : ((y : Int) != 120) = true := by simp; omega
        have c2 : ((y : Int) == 120) = false := by simp; omega
        clear h120
        go_wp2
        go_ret
        exact ⟨s2, y, rfl, hy256, hr2, by omega⟩
  · have c1 : ((z : Int) != 92) = true := by simp; omega
    have c2 : ((z : Int) == 92) = false := by simp; omega
    clear h92
    go_wp2
    go_ret
    exact ⟨s1, z, rfl, hz256, hr1, by omega⟩
end
end Go.Proofs.YtgnchicipmomlaaGreatDoor
