/- The reference's scripts: the text, what is valid. -/
import Derived.Test.YtgnchicipmomlaaGreatDoorPK04
namespace Go.Proofs.YtgnchicipmomlaaGreatDoor
open Go.RowKit
set_option maxRecDepth 100000
attribute [local go_sem] ext_refl_t ext_alloc_t ext_drew_t ext_drewN_t ext_alloc2_t ext_alloc3_t ext_alloc4_t ext_alloc5_t ext_alloc6_t ext_alloc7_t ext_alloc8_t ext_alloc1d_t ext_alloc2d_t ext_alloc3d_t ext_alloc4d_t
section
variable {w : World}
set_option maxHeartbeats 6400000 in
theorem text44_any {h : SlH} {l : List Sta} (hs : ScrW w h l) (h20 : l.length ≤ 20) (hT : ∀ x ∈ l, SmT x) :
    Calls Tryz.prog 21 #[.slice h.A h.m h.c] w fun e w' => RetStr 4000000 e ∧ Ext w w' := by
  obtain ⟨A, m, c⟩ := h
  have HL := Lib.hid hs.sl.len
  have hle := hs.sl.le
  have HG := Lib.hid hs.good
  have HT := Lib.hid hT
  dsimp only at HL hle ⊢
  have hm20 : m ≤ 20 := by rw [HL.out]; exact h20
  have hs := hs.sl
  clear h20 hT
  go_enter Tryz.func21, Tryz.ntmps21
  go_wp2
  go_loopw [3, 4] (fun s i wr => ∃ (q : Nat) (t : ByteArray), q ≤ m ∧ i = .int .i64 q ∧ s = .string t ∧ t.size ≤ 164063 * q ∧ Ext w wr) (fun _ i _ => m - (intOf i).toNat)
  case atStart => exact ⟨0, _, Nat.zero_le _, rfl, rfl, by decide, Ext.refl _⟩
  case round =>
    obtain ⟨q, t, hq, rfl, rfl, hts, hE⟩ := hrel
    obtain ⟨wo, rfl⟩ : ∃ wo : World, wo = wr := ⟨_, rfl⟩
    by_cases hlt : q < m
    ·
      obtain ⟨b, off, e0, hbl, hcs⟩ := (hs.ext hE).at_ hlt (by omega)
      try dsimp only at e0
      subst e0
      have hlt1 : q < (l).length := by rw [← HL.out]; exact hlt
      have HM : Hid ((l)[q] ∈ l) := List.getElem_mem hlt1
      obtain ⟨⟨nm, rules, ⟨B, n, d⟩⟩, hyq⟩ : ∃ y, y = (l)[q] := ⟨_, rfl⟩
      have x0 := hcs q hlt1 0 (by omega)
      have x1 := hcs q hlt1 1 (by omega)
      simp only [← hyq, staC, List.getElem_cons_zero, List.getElem_cons_succ, Nat.add_zero, ← Nat.add_assoc] at x0 x1
      have hi1 : (q : Int) < (m : Int) := by omega
      rw [← hyq] at HM
      have HY := Lib.hid hyq
      clear hcs hyq
      have hw : RulsW wo ⟨B, n, d⟩ rules := ((HG.out _ HM.out).ext hE).r
      obtain ⟨hn16, hr40, hR⟩ := HT.out _ HM.out
      dsimp only at hn16 hr40 hR
      have HG2 := Lib.hid hw.good
      have HR := Lib.hid hR
      have hw := hw.sl
      have HL2 := Lib.hid hw.len
      have hle2 := hw.le
      dsimp only at HL2 hle2
      have hn40 : n ≤ 40 := by rw [HL2.out]; exact hr40
      have X1 := laters x1
      clear hr40 hR HM HY
      go_wp2
      go_loopw [3, 5] (fun s i wr => ∃ (k : Nat) (u : ByteArray), k ≤ n ∧ i = .int .i64 k ∧ s = .string u ∧ u.size ≤ 164063 * q + 23 + 4101 * k ∧ Ext wo wr) (fun _ i _ => n - (intOf i).toNat)
      case atStart => exact ⟨0, _, Nat.zero_le _, rfl, rfl, by simp only [ByteArray.size_append, bsz1, bsz6]; omega, Ext.refl _⟩
      case round =>
        obtain ⟨k, u, hk, rfl, rfl, hus, hE2⟩ := hrel
        have z1 := X1 _ hE2
        by_cases hltk : k < n
        ·
          obtain ⟨b2, off2, e0, hbl2, hcs2⟩ := (hw.ext hE2).at_ hltk (by omega)
          try dsimp only at e0
          subst e0
          have hlt2 : k < (rules).length := by rw [← (HL2).out]; exact hltk
          have HM2 : Hid ((rules)[k] ∈ rules) := List.getElem_mem hlt2
          obtain ⟨y, hyq⟩ : ∃ y, y = (rules)[k] := ⟨_, rfl⟩
          have y0 := hcs2 k hlt2 0 (by omega)
          have y1 := hcs2 k hlt2 1 (by omega)
          have y2 := hcs2 k hlt2 2 (by omega)
          simp only [← hyq, rulC, List.getElem_cons_zero, List.getElem_cons_succ, Nat.add_zero, ← Nat.add_assoc] at y0 y1 y2
          have hi2 : (k : Int) < (n : Int) := by omega
          rw [← hyq] at HM2
          have HY2 := Lib.hid hyq
          clear hcs2 hyq
          go_wp2_with (first
            | (go_at_call 40; refine Hid.out ?_))
          refine Hid.mk_ ((line44_any (x := y) ((HG2.out y HM2.out).ext hE2) (HR.out y HM2.out)).mono ?_)
          rintro e w2 ⟨⟨t2, rfl, ht2⟩, hE3⟩
          go_wp2
          all_goals first
            | (go_ret; exact ⟨⟨_, rfl, by first | (intro h; cases h; done) | (intro h; simp at h; omega) | (intro h; omega) | omega⟩, hE⟩)
            | (refine ⟨⟨k + 1, _, by omega, by go_num, rfl, by simp only [ByteArray.size_append, bsz1]; omega, hE2.trans hE3⟩, ?_⟩; first | (simp [intOf]; omega) | (simp [intOf]) | omega)
            | (go_roundw; (case rel => exact ⟨k + 1, _, by omega, by go_num, rfl, by simp only [ByteArray.size_append, bsz1]; omega, hE2.trans hE3⟩); (case measure => first | (simp [intOf]; omega) | (simp [intOf])))
        · have hi2 : ¬ (k : Int) < (n : Int) := by omega
          go_wp2
          all_goals first
            | (go_ret; exact ⟨⟨_, rfl, by first | (intro h; cases h; done) | (intro h; simp at h; omega) | (intro h; omega) | omega⟩, hE⟩)
            | (refine ⟨⟨q + 1, _, by omega, by go_num, rfl, by omega, hE.trans hE2⟩, ?_⟩; first | (simp [intOf]; omega) | (simp [intOf]) | omega)
            | (go_roundw; (case rel => exact ⟨q + 1, _, by omega, by go_num, rfl, by omega, hE.trans hE2⟩); (case measure => first | (simp [intOf]; omega) | (simp [intOf])))
    · have hi1 : ¬ (q : Int) < (m : Int) := by omega
      go_wp2
      go_ret
      exact ⟨⟨_, rfl, by omega⟩, hE⟩

/-- What Valid finds of a rule and a state of the script l. -/
def SmRl (l : List Sta) (x : Rul) : Prop := SmR x ∧ (x.next.size = 0 ∨ ∃ y ∈ l, y.name = x.next)
def SmTl (l : List Sta) (x : Sta) : Prop := x.name.size ≤ 16 ∧ x.rules.length ≤ 40 ∧ ∀ r ∈ x.rules, SmRl l r
theorem SmTl.all {l : List Sta} (h : ∀ x ∈ l, SmTl l x) : ∀ x ∈ l, SmT x := fun x hx => by
  obtain ⟨h1, h2, h3⟩ := h x hx
  refine ⟨h1, h2, fun r hr => ⟨(h3 r hr).1, ?_⟩⟩
  rcases (h3 r hr).2 with h4 | ⟨y, hy, e⟩
  · omega
  · rw [← e]; exact (h y hy).1
set_option maxHeartbeats 6400000 in
theorem Valid44_any {h : SlH} {l : List Sta} (hs : ScrW w h l) :
    Calls Tryz.prog 7 #[.slice h.A h.m h.c] w fun e w' => RetB (fun r => r = true → SmS l) e ∧ Ext w w' := by
  have HSW := Lib.hid hs
  obtain ⟨A, m, c⟩ := h
  have HL := Lib.hid hs.sl.len
  have hle := hs.sl.le
  have HG := Lib.hid hs.good
  dsimp only at HL hle ⊢
  have hs := hs.sl
  unfold SmS
  go_enter Tryz.func7, Tryz.ntmps7
  go_wp2
  go_loopw [3] (fun i wr => ∃ (q : Nat), q ≤ m ∧ i = .int .i64 q ∧ Hid (∀ j (_ : j < q) (h : j < l.length), SmTl l l[j]) ∧ Ext w wr) (fun i _ => m - (intOf i).toNat)
  case atStart => exact ⟨0, Nat.zero_le _, rfl, fun j hj => absurd hj (by omega), Ext.refl _⟩
  case round =>
    obtain ⟨q, hq, rfl, HC, hE⟩ := hrel
    obtain ⟨wo, rfl⟩ : ∃ wo : World, wo = wr := ⟨_, rfl⟩
    by_cases hlt : q < m
    ·
      obtain ⟨b, off, e0, hbl, hcs⟩ := (hs.ext hE).at_ hlt (by omega)
      try dsimp only at e0
      subst e0
      have hlt1 : q < (l).length := by rw [← HL.out]; exact hlt
      have HM : Hid ((l)[q] ∈ l) := List.getElem_mem hlt1
      obtain ⟨⟨nm, rules, ⟨B, n, d⟩⟩, hyq⟩ : ∃ y, y = (l)[q] := ⟨_, rfl⟩
      have x0 := hcs q hlt1 0 (by omega)
      have x1 := hcs q hlt1 1 (by omega)
      simp only [← hyq, staC, List.getElem_cons_zero, List.getElem_cons_succ, Nat.add_zero, ← Nat.add_assoc] at x0 x1
      have hi1 : (q : Int) < (m : Int) := by omega
      rw [← hyq] at HM
      have HY := Lib.hid hyq
      clear hcs hyq
      have hw : RulsW wo ⟨B, n, d⟩ rules := ((HG.out _ HM.out).ext hE).r
      have hgn : GoodStr nm := (HG.out _ HM.out).name
      have HG2 := Lib.hid hw.good
      have hw := hw.sl
      have HL2 := Lib.hid hw.len
      have hle2 := hw.le
      dsimp only at HL2 hle2
      have X0 := laters x0
      have X1 := laters x1
      go_wp2_with (first
        | (go_at_call 18; refine Hid.out ?_))
      refine Hid.mk_ ((word44_any nm hgn).mono ?_)
      rintro e w2 ⟨⟨r, rfl, hr⟩, hE2⟩
      have hX0 := X0 _ hE2
      have hX1 := X1 _ hE2
      cases r with
      | false =>
        clear hr
        go_wp2
        go_ret
        exact ⟨⟨_, rfl, by first | (intro h; cases h; done) | (intro h; simp at h; omega) | (intro h; omega) | omega⟩, hE.trans hE2⟩
      | true =>
        have hn16 := hr rfl
        clear hr
        go_wp2_with (first
          | (go_at_call 19; refine Hid.out ?_))
        refine Hid.mk_ ((index44_any (h := ⟨some ⟨b, off, none⟩, m, c⟩) (l := l) (HSW.out.ext (hE.trans hE2)) nm).mono ?_)
        rintro e w3 ⟨⟨z, rfl, hz1, hz2, -⟩, hE3⟩
        have hY1 := X1 _ (hE2.trans hE3)
        clear hX0 hX1
        by_cases hzq : z = (q : Int)
        · have b1 : (z != (q : Int)) = false := by simp [hzq]
          have b2 : (z == (q : Int)) = true := by simp [hzq]
          clear hzq hz1 hz2
          by_cases hn1 : n < 1
          · go_wp2
            all_goals go_ret
            all_goals exact ⟨⟨_, rfl, by first | (intro h; cases h; done) | (intro h; simp at h; omega) | (intro h; omega) | omega⟩, (hE.trans hE2).trans hE3⟩
          by_cases hn40 : 40 < n
          · go_wp2
            all_goals go_ret
            all_goals exact ⟨⟨_, rfl, by first | (intro h; cases h; done) | (intro h; simp at h; omega) | (intro h; omega) | omega⟩, (hE.trans hE2).trans hE3⟩
          go_wp2
          go_loopw [4] (fun i wr => ∃ (k : Nat), k ≤ n ∧ i = .int .i64 k ∧ Hid (∀ j (_ : j < k) (h : j < rules.length), SmRl l rules[j]) ∧ Ext w3 wr) (fun i _ => n - (intOf i).toNat)
          case atStart => exact ⟨0, Nat.zero_le _, rfl, fun j hj => absurd hj (by omega), Ext.refl _⟩
          case round =>
            obtain ⟨k, hk, rfl, HD, hE4⟩ := hrel
            have hE5 := (hE2.trans hE3).trans hE4
            have hZ1 := X1 _ hE5
            by_cases hltk : k < n
            ·
              obtain ⟨b2, off2, e0, hbl2, hcs2⟩ := (hw.ext hE5).at_ hltk (by omega)
              try dsimp only at e0
              subst e0
              have hlt2 : k < (rules).length := by rw [← (HL2).out]; exact hltk
              have HM2 : Hid ((rules)[k] ∈ rules) := List.getElem_mem hlt2
              obtain ⟨y, hyq⟩ : ∃ y, y = (rules)[k] := ⟨_, rfl⟩
              have y0 := hcs2 k hlt2 0 (by omega)
              have y1 := hcs2 k hlt2 1 (by omega)
              have y2 := hcs2 k hlt2 2 (by omega)
              simp only [← hyq, rulC, List.getElem_cons_zero, List.getElem_cons_succ, Nat.add_zero, ← Nat.add_assoc] at y0 y1 y2
              have hi2 : (k : Int) < (n : Int) := by omega
              rw [← hyq] at HM2
              have HY2 := Lib.hid hyq
              clear hcs2 hyq
              have hb4 := Blk.new wr 70 #[.string y.kind, .slice y.h.A y.h.m y.h.c, .string y.next]
              go_wp2_with (first
                | (go_at_call 20; refine Hid.out ?_))
              refine Hid.mk_ ((proper44_any (x := y) ((HG2.out y HM2.out).ext (hE5.alloc _))).mono ?_)
              rintro e w6 ⟨⟨r, rfl, hr⟩, hE6⟩
              have k2 := later hE6 (hb4.cell 2)
              simp at k2
              have hE7 := (hE4.alloc _).trans hE6
              cases r with
              | false =>
                clear hr
                go_wp2
                go_ret
                exact ⟨⟨_, rfl, by first | (intro h; cases h; done) | (intro h; simp at h; omega) | (intro h; omega) | omega⟩, ((hE.trans hE2).trans hE3).trans hE7⟩
              | true =>
                have HR := Lib.hid (hr rfl)
                clear hr hb4
                by_cases hnx : y.next.size = 0
                · have HN : Hid (∀ j (_ : j < k + 1) (h : j < rules.length), SmRl l rules[j]) := fun j hj h => by
                    rcases Nat.lt_or_ge j k with h2 | h2
                    · exact HD.out j h2 h
                    · obtain rfl : j = k := by omega
                      rw [← HY2.out]; exact ⟨HR.out, .inl hnx⟩
                  have hte := tl_empty hnx
                  clear hnx
                  go_wp2
                  all_goals first
                    | (go_ret; exact ⟨⟨_, rfl, by first | (intro h; cases h; done) | (intro h; simp at h; omega) | (intro h; omega) | omega⟩, hE⟩)
                    | (refine ⟨⟨k + 1, by omega, by go_num, HN, hE7⟩, ?_⟩; first | (simp [intOf]; omega) | (simp [intOf]) | omega)
                    | (go_roundw; (case rel => exact ⟨k + 1, by omega, by go_num, HN, hE7⟩); (case measure => first | (simp [intOf]; omega) | (simp [intOf])))
                · have hte := tl_full hnx
                  clear hnx
                  go_wp2_with (first
                    | (go_at_call 19; refine Hid.out ?_))
                  refine Hid.mk_ ((index44_any (h := ⟨some ⟨b, off, none⟩, m, c⟩) (l := l) (HSW.out.ext (((hE.trans hE2).trans hE3).trans hE7)) y.next).mono ?_)
                  rintro e w7 ⟨⟨z7, rfl, hz7, hz8, hz9⟩, hE8⟩
                  by_cases hz0 : z7 < 0
                  · clear hz9
                    go_wp2
                    go_ret
                    exact ⟨⟨_, rfl, by first | (intro h; cases h; done) | (intro h; simp at h; omega) | (intro h; omega) | omega⟩, (((hE.trans hE2).trans hE3).trans hE7).trans hE8⟩
                  · have HN : Hid (∀ j (_ : j < k + 1) (h : j < rules.length), SmRl l rules[j]) := fun j hj h => by
                      rcases Nat.lt_or_ge j k with h2 | h2
                      · exact HD.out j h2 h
                      · obtain rfl : j = k := by omega
                        rw [← HY2.out]; exact ⟨HR.out, .inr (hz9 (by omega))⟩
                    clear hz9
                    go_wp2
                    all_goals first
                      | (go_ret; exact ⟨⟨_, rfl, by first | (intro h; cases h; done) | (intro h; simp at h; omega) | (intro h; omega) | omega⟩, hE⟩)
                      | (refine ⟨⟨k + 1, by omega, by go_num, HN, hE7.trans hE8⟩, ?_⟩; first | (simp [intOf]; omega) | (simp [intOf]) | omega)
                      | (go_roundw; (case rel => exact ⟨k + 1, by omega, by go_num, HN, hE7.trans hE8⟩); (case measure => first | (simp [intOf]; omega) | (simp [intOf])))
            · have hi2 : ¬ (k : Int) < (n : Int) := by omega
              have HN : Hid (∀ j (_ : j < q + 1) (h : j < l.length), SmTl l l[j]) := fun j hj h => by
                rcases Nat.lt_or_ge j q with h2 | h2
                · exact HC.out j h2 h
                · obtain rfl : j = q := by omega
                  rw [← HY.out]
                  refine ⟨hn16, by rw [← HL2.out]; omega, fun i hi => ?_⟩
                  obtain ⟨j, hj, rfl⟩ := List.mem_iff_getElem.1 hi
                  exact HD.out j (by rw [← HL2.out] at hj; omega) hj
              go_wp2
              all_goals first
                | (go_ret; exact ⟨⟨_, rfl, by first | (intro h; cases h; done) | (intro h; simp at h; omega) | (intro h; omega) | omega⟩, hE⟩)
                | (refine ⟨⟨q + 1, by omega, by go_num, HN, (hE.trans hE2).trans (hE3.trans hE4)⟩, ?_⟩; first | (simp [intOf]; omega) | (simp [intOf]) | omega)
                | (go_roundw; (case rel => exact ⟨q + 1, by omega, by go_num, HN, (hE.trans hE2).trans (hE3.trans hE4)⟩); (case measure => first | (simp [intOf]; omega) | (simp [intOf])))
        · have b1 : (z != (q : Int)) = true := by simp [hzq]
          have b2 : (z == (q : Int)) = false := by simp [hzq]
          clear hzq
          go_wp2
          go_ret
          exact ⟨⟨_, rfl, by first | (intro h; cases h; done) | (intro h; simp at h; omega) | (intro h; omega) | omega⟩, (hE.trans hE2).trans hE3⟩
    · have hi1 : ¬ (q : Int) < (m : Int) := by omega
      have HA : Hid (∀ x ∈ l, SmT x) := SmTl.all fun i hi => by
          obtain ⟨j, hj, rfl⟩ := List.mem_iff_getElem.1 hi
          exact HC.out j (by rw [← HL.out] at hj; omega) hj
      clear HC
      by_cases hm1 : 1 ≤ m
      · by_cases hm20 : m ≤ 20
        ·
          go_wp2_with (first
            | (go_at_call 21; refine Hid.out ?_))
          refine Hid.mk_ ((text44_any (HSW.out.ext hE) (by rw [← HL.out]; exact hm20) HA.out).mono ?_)
          rintro e w2 ⟨⟨t, rfl, ht⟩, hE2⟩
          go_wp2
          go_ret
          exact ⟨⟨_, rfl, fun _ => ⟨by rw [← HL.out]; exact hm1, by rw [← HL.out]; exact hm20, HA.out⟩⟩, hE.trans hE2⟩
        · go_wp2
          go_ret
          exact ⟨⟨_, rfl, by first | (intro h; cases h; done) | (intro h; simp at h; omega) | (intro h; omega) | omega⟩, hE⟩
      · go_wp2
        go_ret
        exact ⟨⟨_, rfl, by first | (intro h; cases h; done) | (intro h; simp at h; omega) | (intro h; omega) | omega⟩, hE⟩
end
end Go.Proofs.YtgnchicipmomlaaGreatDoor

/- The reference's scripts, calls and files: what is few; Print. -/
namespace Go.Proofs.YtgnchicipmomlaaGreatDoor
open Go.RowKit
set_option maxRecDepth 100000
attribute [local go_sem] ext_refl_t ext_alloc_t ext_drew_t ext_drewN_t ext_alloc2_t ext_alloc3_t ext_alloc4_t ext_alloc5_t ext_alloc6_t ext_alloc7_t ext_alloc8_t ext_alloc1d_t ext_alloc2d_t ext_alloc3d_t ext_alloc4d_t
def RetStr2 (n : Nat) (e : Ending) : Prop := ∃ (s : ByteArray) (k : Int), e = .returned (.tuple #[.string s, .int .i64 k]) ∧ s.size ≤ n
theorem wrap64_lo (z : Int) : -9223372036854775808 ≤ wrap64 z := by unfold wrap64; omega
theorem wrap64_hi (z : Int) : wrap64 z ≤ 9223372036854775807 := by unfold wrap64; omega
section
variable {w : World}
set_option maxHeartbeats 1600000 in
theorem Print44_any {h : SlH} {l : List Sta} (hs : ScrW w h l) :
    Calls Tryz.prog 24 #[.slice h.A h.m h.c] w fun e w' => RetStr2 4000000 e ∧ Ext w w' := by
  go_enter Tryz.func24, Tryz.ntmps24
  go_wp2_with (first
    | (go_at_call 7; refine Hid.out ?_))
  refine Hid.mk_ ((Valid44_any hs).mono ?_)
  rintro e w2 ⟨⟨r, rfl, hr⟩, hE2⟩
  cases r with
  | false =>
    clear hr
    go_wp2
    go_ret2
    exact ⟨⟨_, _, rfl, by decide⟩, hE2⟩
  | true =>
    obtain ⟨-, h20, hT⟩ := hr rfl
    have HT := Lib.hid hT
    clear hr hT
    go_wp2_with (first
      | (go_at_call 21; refine Hid.out ?_))
    refine Hid.mk_ ((text44_any (hs.ext hE2) h20 HT.out).mono ?_)
    rintro e w3 ⟨⟨t, rfl, ht⟩, hE3⟩
    go_wp2
    go_ret2
    exact ⟨⟨_, _, rfl, ht⟩, hE2.trans hE3⟩

set_option maxHeartbeats 6400000 in
theorem few45_any {h h' : SlH} {l : List Cll} {f : List (ByteArray × ByteArray)} (hs : CllsW w h l) (hf : FilsW w h' f) :
    Calls Tryz.prog 5 #[.slice h.A h.m h.c, .slice h'.A h'.m h'.c] w fun e w' => RetB (fun r => r = true → f.length ≤ 6 ∧ l.length ≤ 45 ∧ ∀ x ∈ f, x.1.size ≤ 200 ∧ x.2.size ≤ 400) e ∧ Ext w w' := by
  obtain ⟨A, m, c⟩ := h
  obtain ⟨A', m', c'⟩ := h'
  have HL := Lib.hid hs.sl.len
  have HL' := Lib.hid hf.sl.len
  have hle := hs.sl.le
  have hle' := hf.sl.le
  have HG := Lib.hid hs.good
  have HG' := Lib.hid hf.good
  dsimp only at HL HL' hle hle' ⊢
  have hs := hs.sl
  have hf := hf.sl
  go_enter Tryz.func5, Tryz.ntmps5
  go_wp2
  go_loopw [5] (fun i wr => ∃ (q : Nat), q ≤ m' ∧ i = .int .i64 q ∧ Hid (∀ j (_ : j < q) (h : j < f.length), f[j].1.size ≤ 200 ∧ f[j].2.size ≤ 400) ∧ Ext w wr) (fun i _ => m' - (intOf i).toNat)
  case atStart => exact ⟨0, Nat.zero_le _, rfl, fun j hj => absurd hj (by omega), Ext.refl _⟩
  case round =>
    obtain ⟨q, hq, rfl, HC, hE⟩ := hrel
    by_cases hlt : q < m'
    · obtain ⟨b, off, e0, hbl, hcs⟩ := (hf.ext hE).at_ hlt (by omega)
      subst e0
      have hlt1 : q < f.length := by rw [← HL'.out]; exact hlt
      have hgs := HG'.out _ (List.getElem_mem hlt1)
      obtain ⟨⟨x, y⟩, hyq⟩ : ∃ y, y = f[q] := ⟨_, rfl⟩
      have y0 := hcs q hlt1 0 (by omega)
      have y1 := hcs q hlt1 1 (by omega)
      rw [← hyq] at hgs
      unfold FilG GoodStr at hgs
      dsimp only at hgs
      obtain ⟨hg1, hg2⟩ := hgs
      simp only [← hyq, filC, List.getElem_cons_zero, List.getElem_cons_succ, Nat.add_zero, ← Nat.add_assoc] at y0 y1
      have hi1 : (q : Int) < (m' : Int) := by omega
      have HY := Lib.hid hyq
      clear hcs hyq
      by_cases h4 : 400 < y.size
      · go_wp2
        all_goals go_ret
        all_goals exact ⟨⟨_, rfl, by first | (intro h; cases h; done) | (intro h; simp at h; omega) | (intro h; omega) | omega⟩, hE⟩
      by_cases h2 : 200 < x.size
      · go_wp2
        all_goals go_ret
        all_goals exact ⟨⟨_, rfl, by first | (intro h; cases h; done) | (intro h; simp at h; omega) | (intro h; omega) | omega⟩, hE⟩
      have HN : Hid (∀ j (_ : j < q + 1) (h : j < f.length), f[j].1.size ≤ 200 ∧ f[j].2.size ≤ 400) := fun j hj h => by
        rcases Nat.lt_or_ge j q with h2 | h2
        · exact HC.out j h2 h
        · obtain rfl : j = q := by omega
          rw [← HY.out]; dsimp only; omega
      go_wp2
      all_goals first
        | (go_ret; exact ⟨⟨_, rfl, by first | (intro h; cases h; done) | (intro h; simp at h; omega) | (intro h; omega) | omega⟩, hE⟩)
        | (refine ⟨⟨q + 1, by omega, by go_num, HN, hE⟩, ?_⟩; first | (simp [intOf]; omega) | (simp [intOf]) | omega)
        | (go_roundw; (case rel => exact ⟨q + 1, by omega, by go_num, HN, hE⟩); (case measure => first | (simp [intOf]; omega) | (simp [intOf])))
    · have hi1 : ¬ (q : Int) < (m' : Int) := by omega
      have HA : Hid (∀ x ∈ f, x.1.size ≤ 200 ∧ x.2.size ≤ 400) := fun i hi => by
        obtain ⟨j, hj, rfl⟩ := List.mem_iff_getElem.1 hi
        exact HC.out j (by rw [← HL'.out] at hj; omega) hj
      clear HC hlt
      obtain ⟨wo, rfl⟩ : ∃ wo : World, wo = wr := ⟨_, rfl⟩
      go_wp2
      go_loopw [6] (fun i wr => ∃ (k : Nat), k ≤ m ∧ i = .int .i64 k ∧ Ext w wr) (fun i _ => m - (intOf i).toNat)
      case atStart => exact ⟨0, Nat.zero_le _, rfl, hE⟩
      case round =>
        obtain ⟨k, hk, rfl, hE2⟩ := hrel
        by_cases hlt : k < m
        · obtain ⟨b, off, e0, hbl, hcs⟩ := (hs.ext hE2).at_ hlt (by omega)
          subst e0
          have hlt1 : k < l.length := by rw [← HL.out]; exact hlt
          have hgs := HG.out _ (List.getElem_mem hlt1)
          obtain ⟨y, hyq⟩ : ∃ y, y = l[k] := ⟨_, rfl⟩
          have y0 := hcs k hlt1 0 (by omega)
          rw [← hyq] at hgs
          unfold CllG GoodStr at hgs
          obtain ⟨hg1, -⟩ := hgs
          simp only [← hyq, cllC, List.getElem_cons_zero, Nat.add_zero] at y0
          have hi2 : (k : Int) < (m : Int) := by omega
          clear hcs hyq
          go_wp2
          all_goals first
            | (go_ret; exact ⟨⟨_, rfl, by first | (intro h; cases h; done) | (intro h; simp at h; omega) | (intro h; omega) | omega⟩, hE2⟩)
            | (refine ⟨⟨k + 1, by omega, by go_num, hE2⟩, ?_⟩; first | (simp [intOf]; omega) | (simp [intOf]) | omega)
            | (go_roundw; (case rel => exact ⟨k + 1, by omega, by go_num, hE2⟩); (case measure => first | (simp [intOf]; omega) | (simp [intOf])))
        · have hi2 : ¬ (k : Int) < (m : Int) := by omega
          go_wp2
          all_goals go_ret
          all_goals exact ⟨⟨_, rfl, fun h => by first | (cases h; done) | (simp at h; exact ⟨by rw [← HL'.out]; omega, by rw [← HL.out]; omega, fun a b hab => HA.out (a, b) hab⟩)⟩, hE2⟩

set_option maxHeartbeats 6400000 in
theorem few44_any {h : SlH} {l : List Sta} (hs : ScrW w h l) :
    Calls Tryz.prog 6 #[.slice h.A h.m h.c] w fun e w' => RetB (fun _ => True) e ∧ Ext w w' := by
  obtain ⟨A, m, c⟩ := h
  have HL := Lib.hid hs.sl.len
  have hle := hs.sl.le
  have HG := Lib.hid hs.good
  dsimp only at HL hle ⊢
  have hs := hs.sl
  go_enter Tryz.func6, Tryz.ntmps6
  go_wp2
  go_loopw [3, 4] (fun nn i wr => ∃ (q : Nat) (z : Int), q ≤ m ∧ i = .int .i64 q ∧ nn = .int .i64 z ∧ -9223372036854775808 ≤ z ∧ z ≤ 9223372036854775807 ∧ Ext w wr) (fun _ i _ => m - (intOf i).toNat)
  case atStart => exact ⟨0, 0, Nat.zero_le _, rfl, rfl, by omega, by omega, Ext.refl _⟩
  case round =>
    obtain ⟨q, z, hq, rfl, rfl, hz1, hz2, hE⟩ := hrel
    obtain ⟨wo, rfl⟩ : ∃ wo : World, wo = wr := ⟨_, rfl⟩
    by_cases hlt : q < m
    ·
      obtain ⟨b, off, e0, hbl, hcs⟩ := (hs.ext hE).at_ hlt (by omega)
      try dsimp only at e0
      subst e0
      have hlt1 : q < (l).length := by rw [← HL.out]; exact hlt
      have HM : Hid ((l)[q] ∈ l) := List.getElem_mem hlt1
      obtain ⟨⟨nm, rules, ⟨B, n, d⟩⟩, hyq⟩ : ∃ y, y = (l)[q] := ⟨_, rfl⟩
      have x0 := hcs q hlt1 0 (by omega)
      have x1 := hcs q hlt1 1 (by omega)
      simp only [← hyq, staC, List.getElem_cons_zero, List.getElem_cons_succ, Nat.add_zero, ← Nat.add_assoc] at x0 x1
      have hi1 : (q : Int) < (m : Int) := by omega
      rw [← hyq] at HM
      have HY := Lib.hid hyq
      clear hcs hyq
      have hw : RulsW wo ⟨B, n, d⟩ rules := ((HG.out _ HM.out).ext hE).r
      have hgn : GoodStr nm := (HG.out _ HM.out).name
      unfold GoodStr at hgn
      have HG2 := Lib.hid hw.good
      have hw := hw.sl
      have HL2 := Lib.hid hw.len
      have hle2 := hw.le
      dsimp only at HL2 hle2
      have X0 := laters x0
      have X1 := laters x1
      go_wp2
      go_loopw [3, 5] (fun nn i wr => ∃ (k : Nat) (z : Int), k ≤ n ∧ i = .int .i64 k ∧ nn = .int .i64 z ∧ -9223372036854775808 ≤ z ∧ z ≤ 9223372036854775807 ∧ Ext wo wr) (fun _ i _ => n - (intOf i).toNat)
      case atStart => exact ⟨0, _, Nat.zero_le _, rfl, rfl, hz1, hz2, Ext.refl _⟩
      case round =>
        obtain ⟨k, z2, hk, rfl, rfl, hz3, hz4, hE2⟩ := hrel
        have hZ1 := X1 _ hE2
        have hZ0 := X0 _ hE2
        by_cases hltk : k < n
        ·
          obtain ⟨b2, off2, e0, hbl2, hcs2⟩ := (hw.ext hE2).at_ hltk (by omega)
          try dsimp only at e0
          subst e0
          have hlt2 : k < (rules).length := by rw [← (HL2).out]; exact hltk
          have HM2 : Hid ((rules)[k] ∈ rules) := List.getElem_mem hlt2
          obtain ⟨y, hyq⟩ : ∃ y, y = (rules)[k] := ⟨_, rfl⟩
          have y0 := hcs2 k hlt2 0 (by omega)
          have y1 := hcs2 k hlt2 1 (by omega)
          have y2 := hcs2 k hlt2 2 (by omega)
          simp only [← hyq, rulC, List.getElem_cons_zero, List.getElem_cons_succ, Nat.add_zero, ← Nat.add_assoc] at y0 y1 y2
          have hi2 : (k : Int) < (n : Int) := by omega
          rw [← hyq] at HM2
          have HY2 := Lib.hid hyq
          clear hcs2 hyq
          obtain ⟨kind, items, next, ⟨C, p, pc⟩⟩ := y
          have hwr := (HG2.out _ HM2.out).ext hE2
          have hgk := hwr.kind
          have hgx := hwr.next
          have hi := hwr.i
          unfold GoodStr at hgk hgx
          dsimp only at hgk hgx hi y0 y1 y2
          have HG3 := Lib.hid hi.good
          have hi := hi.sl
          have HL3 := Lib.hid hi.len
          have hle3 := hi.le
          dsimp only at HL3 hle3
          have hb4 := Blk.new wr 70 #[.string kind, .slice C p pc, .string next]
          have X5 := laters (hb4.cell 1)
          simp at X5
          have hE3 : Ext wr (wr.alloc (Obj.cells #[.string kind, .slice C p pc, .string next] 70)) := (Ext.refl wr).alloc _
          clear hb4 hwr HM2 HY2
          go_wp2
          obtain ⟨w4, hw4⟩ : ∃ w4, w4 = wr.alloc (Obj.cells #[.string kind, .slice C p pc, .string next] 70) := ⟨_, rfl⟩
          rw [← hw4] at X5 hE3 ⊢
          clear hw4
          go_loopw [3, 7] (fun nn i wx => ∃ (j : Nat) (z : Int), j ≤ p ∧ i = .int .i64 j ∧ nn = .int .i64 z ∧ -9223372036854775808 ≤ z ∧ z ≤ 9223372036854775807 ∧ Ext w4 wx) (fun _ i _ => p - (intOf i).toNat)
          case atStart => exact ⟨0, _, Nat.zero_le _, rfl, rfl, wrap64_lo _, wrap64_hi _, Ext.refl _⟩
          case round =>
            obtain ⟨j, z8, hj, rfl, rfl, hz5, hz6, hE4⟩ := hrel
            have hZ5 := X5 _ hE4
            by_cases hltj : j < p
            · obtain ⟨b3, off3, e0, hbl3, hcs3⟩ := (hi.ext (hE3.trans hE4)).at_ hltj (by omega)
              try dsimp only at e0
              subst e0
              have hlt3 : j < items.length := by rw [← HL3.out]; exact hltj
              have hgi := HG3.out _ (List.getElem_mem hlt3)
              obtain ⟨y, hyq⟩ : ∃ y, y = items[j] := ⟨_, rfl⟩
              rw [← hyq] at hgi
              have v0 := hcs3 j hlt3 0 (by omega)
              have v1 := hcs3 j hlt3 1 (by omega)
              simp only [← hyq, itmC, List.getElem_cons_zero, List.getElem_cons_succ, Nat.add_zero, ← Nat.add_assoc] at v0 v1
              have hi3 : (j : Int) < (p : Int) := by omega
              have hgt := hgi.text
              have hgr := hgi.r.sl.le
              unfold GoodStr at hgt
              clear hcs3 hyq hgi
              have V0 := latersU v0
              have V1 := latersU v1
              have V2 := latersU hZ5
              go_wp2
              refine wp_region_ext_lit (by kernel_rfl) (by kernel_rfl) ?_
              try dsimp only [List.append]
              repeat (go_big_quiet_step (fail))
              refine wpQuiet_nil ?_
              rintro w5 ⟨⟨_, h5⟩, rfl⟩
              try dsimp only
              go_wp2
              all_goals first
                | (go_ret; exact ⟨⟨_, rfl, trivial⟩, hE⟩)
                | (refine ⟨⟨j + 1, _, by omega, by go_num, rfl, wrap64_lo _, wrap64_hi _, hE4.trans h5⟩, ?_⟩; first | (simp [intOf]; omega) | (simp [intOf]) | omega)
                | (go_roundw; (case rel => exact ⟨j + 1, _, by omega, by go_num, rfl, wrap64_lo _, wrap64_hi _, hE4.trans h5⟩); (case measure => first | (simp [intOf]; omega) | (simp [intOf])))
            · have hi3 : ¬ (j : Int) < (p : Int) := by omega
              go_wp2
              all_goals first
                | (go_ret; exact ⟨⟨_, rfl, trivial⟩, hE⟩)
                | (refine ⟨⟨k + 1, _, by omega, by go_num, rfl, hz5, hz6, (hE2.trans hE3).trans hE4⟩, ?_⟩; first | (simp [intOf]; omega) | (simp [intOf]) | omega)
                | (go_roundw; (case rel => exact ⟨k + 1, _, by omega, by go_num, rfl, hz5, hz6, (hE2.trans hE3).trans hE4⟩); (case measure => first | (simp [intOf]; omega) | (simp [intOf])))
        · have hi2 : ¬ (k : Int) < (n : Int) := by omega
          go_wp2
          all_goals first
            | (go_ret; exact ⟨⟨_, rfl, trivial⟩, hE⟩)
            | (refine ⟨⟨q + 1, _, by omega, by go_num, rfl, wrap64_lo _, wrap64_hi _, hE.trans hE2⟩, ?_⟩; first | (simp [intOf]; omega) | (simp [intOf]) | omega)
            | (go_roundw; (case rel => exact ⟨q + 1, _, by omega, by go_num, rfl, wrap64_lo _, wrap64_hi _, hE.trans hE2⟩); (case measure => first | (simp [intOf]; omega) | (simp [intOf])))
    · have hi1 : ¬ (q : Int) < (m : Int) := by omega
      go_wp2
      go_ret
      exact ⟨⟨_, rfl, trivial⟩, hE⟩
end
end Go.Proofs.YtgnchicipmomlaaGreatDoor
