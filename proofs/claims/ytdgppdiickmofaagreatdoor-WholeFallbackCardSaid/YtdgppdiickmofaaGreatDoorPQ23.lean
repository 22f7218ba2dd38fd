/- The program's aliases: slices.Sorted of maps.Keys, replace. -/
import Derived.Test.YtdgppdiickmofaaGreatDoorPQ21
import Derived.Test.YtdgppdiickmofaaGreatDoorPQ22
import Derived.Shelf.SlIter.Sorted
import Derived.Shelf.SlIter.Keys
namespace Go.Proofs.YtdgppdiickmofaaGreatDoor
open Go.RowKit Go.Shelf Go.Sort
set_option maxRecDepth 100000
attribute [local go_sem] ext_refl_t ext_alloc_t ext_drew_t ext_drewN_t ext_alloc2_t ext_alloc3_t ext_alloc4_t ext_alloc5_t ext_alloc6_t ext_alloc7_t ext_alloc8_t ext_alloc1d_t ext_alloc2d_t ext_alloc3d_t ext_alloc4d_t
section
variable {w : World}
theorem keysZ_any (bm : Nat) : Calls Tryz.prog 149 #[.map (some bm)] w fun e w' => e = .returned (.func (.func 182) #[] #[.pointer (some ⟨w.heap.size, 0, none⟩)]) ∧ w' = w.alloc (.cells #[.map (some bm)] 125) :=
  callsIn_wide.1 (AnyZ.keys_in Tryz.keysZ Fence.wide 5 trivial rfl (some bm) w)
theorem sortsIn_any (n : Nat) : AnyZ.SortsIn Tryz.prog Tryz.sortedZ_ren Fence.wide n :=
  ⟨fun blk off cap ss W h1 h2 h3 => callsIn_wide.2 (AnyG.slices_Sort_string Tryz.sortS blk off cap ss W h1 h2 h3), fun p cap W => callsIn_wide.2 (AnyG.slices_Sort_string_none Tryz.sortS p cap W)⟩
theorem sortedK_any {bm n : Nat} {S : List (List UInt8)} (h : SM w bm n S) (hn : n ≤ 4000) (hS : ∀ s ∈ S, s.length ≤ 1000) {gk : Nat} (hk : w.cell? ⟨gk, 0, none⟩ = some (.map (some bm))) :
    Calls Tryz.prog 148 #[.func (.func 182) #[] #[.pointer (some ⟨gk, 0, none⟩)]] w fun e w' => (∃ A m c, e = .returned (.slice A m c) ∧ OsC strF 9 1 w' w.heap.size A m c ((sortV (nubL S)).map str)) ∧ Ext w w' := by
  obtain ⟨D, ho, hD⟩ := h.keys (fun s hs => Nat.le_trans (hS s hs) (by simp [maxLen]))
  have hsz := ho.size_le
  have hseq := AnyZ.keys_gives Tryz.keys1Z Fence.wide 5 trivial rfl (by omega) gk bm n D w (World.block_lt_of_cell? w _ hk) hk ho
  have h1 := AnyZ.sorted_in Tryz.sortedZ Fence.wide 8 trivial trivial trivial trivial rfl (by omega) (sortsIn_any _) (enters_of Tryz.func95 (by kernel_rfl) rfl) 182 #[.pointer (some ⟨gk, 0, none⟩)] trivial (enters_of Tryz.func182 (by kernel_rfl) rfl)
    (fun ss => ss.Perm (Go.strKeys D)) (Maps.size D) (by simp [maxLen]; omega) (by omega) w hseq
  refine (callsIn_wide.1 h1).mono ?_
  rintro e w' ⟨v, ss, rfl, hp, hown, _, hb⟩
  have hss : (ss.mergeSort fun x y => decide (x ≤ y)) = sortV (nubL S) := hD ss hp
  rw [hss] at hown
  have hlen : ss.length = (sortV (nubL S)).length := by rw [← hss, List.length_mergeSort]
  have hsl : ss.length ≤ 4000 := by
    obtain ⟨es, rfl, _⟩ := ho.keysOf
    have := hp.length_eq
    rw [this]
    show (es.map _).length ≤ 4000
    rw [List.length_map]
    have : Maps.size (.map es : DataW Unit) = es.length := rfl
    omega
  have hmap : (sortV (nubL S)).map encStr = ((sortV (nubL S)).map str).flatMap strF := by rw [flat_str, List.map_map]; rfl
  rw [hmap] at hown
  refine ⟨?_, hb⟩
  rcases hown.2 with ⟨rfl, h0⟩ | ⟨g', cap, cur, rfl, _⟩
  · rw [h0] at hown
    exact ⟨none, 0, 0, rfl, hown, strF_len, strF_cell, by rw [List.length_map]; omega, by omega⟩
  · exact ⟨some ⟨g', 0, none⟩, ss.length, cap, rfl, hown, strF_len, strF_cell, by rw [List.length_map]; exact hlen, by omega⟩
theorem nub_len (l : List (List UInt8)) : (nubL l).length ≤ l.length := by
  induction l with
  | nil => exact Nat.le_refl _
  | cons a t ih =>
    unfold nubL
    split
    · rw [List.length_cons]; omega
    · rw [List.length_cons, List.length_cons]; omega
set_option maxHeartbeats 12800000 in
theorem repl_rule_any {x : RuH} {h : SlH} {t : Tg} (hx : RuW w x) (hs : TgW w h t) (hv : t.vars.length + x.r.b.vars.length ≤ 900) :
    Calls Tryz.prog 99 #[ruV x, tgV h t] w fun e w' => (∃ h' : SlH, e = .returned (tgV h' (replR x.r t)) ∧ TgW w' h' (replR x.r t) ∧ ∀ k, ob h'.A = some k → w.heap.size ≤ k) ∧ Ext w w' := by
  obtain ⟨⟨ra, rb⟩, ⟨A1, m1, c1⟩, ⟨A2, m2, c2⟩⟩ := x
  obtain ⟨A, m, c⟩ := h
  have HX1 := Lib.hid hx.a
  have HX2 := Lib.hid hx.b
  have HT := Lib.hid hs
  have HV := Lib.hid hv
  unfold ruV
  unfold tgV
  dsimp only at HX1 HX2 HT HV ⊢
  have HL2 : Hid (m2 = rb.vars.length) := by have := hx.b.sl.len; rw [List.length_map] at this; exact this
  have HL3 : Hid (m = t.vars.length) := by have := hs.sl.len; rw [List.length_map] at this; exact this
  have hle2 : m2 ≤ 1000 := by have := hx.b.n; have := HL2.out; dsimp only at *; omega
  have hle3 : m ≤ 1000 := by have := hs.n; have := HL3.out; dsimp only at *; omega
  obtain ⟨l1, hl1⟩ : ∃ x, x = str ra.lang := ⟨_, rfl⟩
  obtain ⟨s1, hs1⟩ : ∃ x, x = str ra.scr := ⟨_, rfl⟩
  obtain ⟨r1, hr1⟩ : ∃ x, x = str ra.reg := ⟨_, rfl⟩
  obtain ⟨l2, hl2⟩ : ∃ x, x = str rb.lang := ⟨_, rfl⟩
  obtain ⟨s2, hs2⟩ : ∃ x, x = str rb.scr := ⟨_, rfl⟩
  obtain ⟨r2, hr2⟩ : ∃ x, x = str rb.reg := ⟨_, rfl⟩
  obtain ⟨l3, hl3⟩ : ∃ x, x = str t.lang := ⟨_, rfl⟩
  obtain ⟨s3, hs3⟩ : ∃ x, x = str t.scr := ⟨_, rfl⟩
  obtain ⟨r3, hr3⟩ : ∃ x, x = str t.reg := ⟨_, rfl⟩
  rw [← hl1, ← hs1, ← hr1, ← hl2, ← hs2, ← hr2, ← hl3, ← hs3, ← hr3]
  have q1 : (l1.toList == [117, 110, 100]) = decide (ra.lang = undL) := by rw [hl1, ← str_toList [117, 110, 100]]; exact str_eqB _ _
  have q2 : (l2.toList == [117, 110, 100]) = decide (rb.lang = undL) := by rw [hl2, ← str_toList [117, 110, 100]]; exact str_eqB _ _
  have q3 : s1.toList.isEmpty = decide (ra.scr = []) := by rw [hs1, str_toList]; cases ra.scr <;> rfl
  have q4 : s3.toList.isEmpty = decide (t.scr = []) := by rw [hs3, str_toList]; cases t.scr <;> rfl
  have q5 : r1.toList.isEmpty = decide (ra.reg = []) := by rw [hr1, str_toList]; cases ra.reg <;> rfl
  have q6 : r3.toList.isEmpty = decide (t.reg = []) := by rw [hr3, str_toList]; cases t.reg <;> rfl
  obtain ⟨b1, hb1⟩ : ∃ b, b = decide (ra.lang = undL) := ⟨_, rfl⟩
  obtain ⟨b2, hb2⟩ : ∃ b, b = decide (rb.lang = undL) := ⟨_, rfl⟩
  obtain ⟨b3, hb3⟩ : ∃ b, b = decide (ra.scr = []) := ⟨_, rfl⟩
  obtain ⟨b4, hb4⟩ : ∃ b, b = decide (t.scr = []) := ⟨_, rfl⟩
  obtain ⟨b5, hb5⟩ : ∃ b, b = decide (ra.reg = []) := ⟨_, rfl⟩
  obtain ⟨b6, hb6⟩ : ∃ b, b = decide (t.reg = []) := ⟨_, rfl⟩
  rw [← hb1] at q1
  rw [← hb2] at q2
  rw [← hb3] at q3
  rw [← hb4] at q4
  rw [← hb5] at q5
  rw [← hb6] at q6
  obtain ⟨lN, hlN⟩ : ∃ lN, lN = if (!b1 || !b2) = true then l2 else l3 := ⟨_, rfl⟩
  obtain ⟨sN, hsN⟩ : ∃ sN, sN = if (!b3 || b4) = true then s2 else s3 := ⟨_, rfl⟩
  obtain ⟨rN, hrN⟩ : ∃ rN, rN = if (!b5 || b6) = true then r2 else r3 := ⟨_, rfl⟩
  have HRL : Hid (lN = str (replR ⟨ra, rb⟩ t).lang) := by
    show _ = _
    rw [hlN, hb1, hb2, hl2, hl3]
    unfold replR
    dsimp only
    by_cases h1 : ra.lang = undL <;> by_cases h2 : rb.lang = undL <;> simp [h1, h2]
  have HRS : Hid (sN = str (replR ⟨ra, rb⟩ t).scr) := by
    show _ = _
    rw [hsN, hb3, hb4, hs2, hs3]
    unfold replR
    dsimp only
    by_cases h1 : ra.scr = [] <;> by_cases h2 : t.scr = [] <;> simp [h1, h2]
  have HRR : Hid (rN = str (replR ⟨ra, rb⟩ t).reg) := by
    show _ = _
    rw [hrN, hb5, hb6, hr2, hr3]
    unfold replR
    dsimp only
    by_cases h1 : ra.reg = [] <;> by_cases h2 : t.reg = [] <;> simp [h1, h2]
  have Q1 := Lib.hid q1
  have Q2 := Lib.hid q2
  have Q3 := Lib.hid q3
  have Q4 := Lib.hid q4
  have Q5 := Lib.hid q5
  have Q6 := Lib.hid q6
  have HLN := Lib.hid hlN
  have HSN := Lib.hid hsN
  have HRN := Lib.hid hrN
  clear hb1 hb2 hb3 hb4 hb5 hb6 hl1 hs1 hr1 hl2 hs2 hr2 hl3 hs3 hr3 hx hs hv q1 q2 q3 q4 q5 q6 hlN hsN hrN
  go_enter Tryz.func99, Tryz.ntmps99
  obtain ⟨W0, hW0⟩ : ∃ W0, W0 = (((w.alloc (.cells #[.string l1, .string s1, .string r1, .slice A1 m1 c1, .string l2, .string s2, .string r2, .slice A2 m2 c2] 160)).alloc (.cells #[.string l3, .string s3, .string r3, .slice A m c] 108)).alloc (.cells #[.string ⟨#[]⟩, .string ⟨#[]⟩, .string ⟨#[]⟩, .slice none 0 0] 108)) := ⟨_, rfl⟩
  have hE0 : Ext w W0 := by rw [hW0]; exact (((Ext.refl w).alloc _).alloc _).alloc _
  have hb0 : Blk W0 w.heap.size 160 #[.string l1, .string s1, .string r1, .slice A1 m1 c1, .string l2, .string s2, .string r2, .slice A2 m2 c2] := by rw [hW0]; exact ((Blk.new w _ _).alloc _).alloc _
  have hb1 : Blk W0 (w.heap.size + 1) 108 #[.string l3, .string s3, .string r3, .slice A m c] := by
    rw [hW0]
    have h := Blk.new (w.alloc (.cells #[.string l1, .string s1, .string r1, .slice A1 m1 c1, .string l2, .string s2, .string r2, .slice A2 m2 c2] 160)) 108 #[.string l3, .string s3, .string r3, .slice A m c]
    rw [show (w.alloc (.cells #[.string l1, .string s1, .string r1, .slice A1 m1 c1, .string l2, .string s2, .string r2, .slice A2 m2 c2] 160)).heap.size = w.heap.size + 1 by simp] at h
    exact h.alloc _
  have hb2 : Blk W0 (w.heap.size + 1 + 1) 108 #[.string ⟨#[]⟩, .string ⟨#[]⟩, .string ⟨#[]⟩, .slice none 0 0] := by
    rw [hW0]
    have h := Blk.new ((w.alloc (.cells #[.string l1, .string s1, .string r1, .slice A1 m1 c1, .string l2, .string s2, .string r2, .slice A2 m2 c2] 160)).alloc (.cells #[.string l3, .string s3, .string r3, .slice A m c] 108)) 108 #[.string ⟨#[]⟩, .string ⟨#[]⟩, .string ⟨#[]⟩, .slice none 0 0]
    rwa [show ((w.alloc (.cells #[.string l1, .string s1, .string r1, .slice A1 m1 c1, .string l2, .string s2, .string r2, .slice A2 m2 c2] 160)).alloc (.cells #[.string l3, .string s3, .string r3, .slice A m c] 108)).heap.size = w.heap.size + 1 + 1 by simp] at h
  go_upto_region 1 with fail
  rw [← hW0]
  obtain ⟨g0, hg0⟩ : ∃ g, g = w.heap.size := ⟨_, rfl⟩
  obtain ⟨g1, hg1⟩ : ∃ g, g = w.heap.size + 1 := ⟨_, rfl⟩
  obtain ⟨g2, hg2⟩ : ∃ g, g = w.heap.size + 1 + 1 := ⟨_, rfl⟩
  rw [← hg0] at hb0
  rw [← hg1] at hb1
  rw [← hg2] at hb2
  rw [← hg2, ← hg1, ← hg0]
  have HG : Hid (w.heap.size ≤ g0 ∧ w.heap.size ≤ g1 ∧ w.heap.size ≤ g2 ∧ g0 ≠ g1 ∧ g1 ≠ g2 ∧ g0 ≠ g2) := by show _ ∧ _; omega
  have HE0 := Lib.hid hE0
  have HB0 := Lib.hid hb0
  have HB1 := Lib.hid hb1
  have HB2 := Lib.hid hb2
  clear hW0 hg0 hg1 hg2 hb0 hb1 hb2 hE0
  go_upto_region 1 with fail
  go_cut [19] from 10 to 19 (fun v wx => v = .bool (!b1 || !b2) ∧ wx = W0)
  case first =>
    have z0 := HB0.out.cell 0
    have z4 := HB0.out.cell 4
    simp only [List.getElem?_toArray, List.getElem?_cons_zero, List.getElem?_cons_succ] at z0 z4
    have q1 := (Q1).out
    have q2 := (Q2).out
    cases b1 <;> cases b2 <;> (go_wp2; go_meet; exact ⟨by first | rfl | trivial, by first | rfl | trivial⟩)
  obtain ⟨rfl, hwc⟩ := hcut
  subst hwc
  go_upto_if 19 with fail
  go_cut [] from 10 to 23 (fun wx => Ext w wx ∧ Blk wx g0 160 #[.string l1, .string s1, .string r1, .slice A1 m1 c1, .string l2, .string s2, .string r2, .slice A2 m2 c2] ∧ Blk wx g1 108 #[.string lN, .string s3, .string r3, .slice A m c] ∧ Blk wx g2 108 #[.string ⟨#[]⟩, .string ⟨#[]⟩, .string ⟨#[]⟩, .slice none 0 0])
  case first =>
    have zs := HB0.out.cell 4
    have zc := HB1.out.cell 0
    have zf := HB1.out.frozen 0
    simp only [List.getElem?_toArray, List.getElem?_cons_zero, List.getElem?_cons_succ] at zs zc
    have hc := (HLN).out
    obtain ⟨bb, hbb⟩ : ∃ bb, bb = (!b1 || !b2) := ⟨_, rfl⟩
    rw [← hbb] at hc ⊢
    clear hbb
    obtain ⟨hG0, hG1, hG2, hG3, hG4, hG5⟩ := HG.out
    cases bb with
    | true =>
      have HC := Lib.hid (hc.trans (if_pos rfl))
      have HE9 := Lib.hid (HE0.out.set_ (p := ⟨g1, 0, none⟩) hG1)
      have HB9 := Lib.hid (HB0.out.far (p := ⟨g1, 0, none⟩) hG3)
      have HD9 := Lib.hid (HB2.out.far (p := ⟨g1, 0, none⟩) (Ne.symm hG4))
      clear hc hG0 hG1 hG2 hG3 hG4 hG5
      go_wp2
      go_meet
      exact ⟨HE9.out _, HB9.out _, by rw [HC.out]; exact HB1.out.set_ 0 _, HD9.out _⟩
    | false =>
      have HC := Lib.hid (hc.trans (if_neg (by decide)))
      clear hc hG0 hG1 hG2 hG3 hG4 hG5
      go_wp2
      go_meet
      exact ⟨HE0.out, HB0.out, by rw [HC.out]; exact HB1.out, HB2.out⟩
  obtain ⟨hE9, h90, h91, h92⟩ := hcut
  obtain ⟨W1, rfl⟩ : ∃ W1 : World, W1 = wc := ⟨_, rfl⟩
  clear HE0 HB0 HB1 HB2
  have HE0 := Lib.hid hE9
  have HB0 := Lib.hid h90
  have HB1 := Lib.hid h91
  have HB2 := Lib.hid h92
  clear hE9 h90 h91 h92
  go_upto_region 3 with fail
  go_cut [32] from 24 to 32 (fun v wx => v = .bool (!b3 || b4) ∧ wx = W1)
  case first =>
    have z0 := HB0.out.cell 1
    have z4 := HB1.out.cell 1
    simp only [List.getElem?_toArray, List.getElem?_cons_zero, List.getElem?_cons_succ] at z0 z4
    have q1 := (Q3).out
    have q2 := (Q4).out
    cases b3 <;> cases b4 <;> (go_wp2; go_meet; exact ⟨by first | rfl | trivial, by first | rfl | trivial⟩)
  obtain ⟨rfl, hwc⟩ := hcut
  subst hwc
  go_upto_if 32 with fail
  go_cut [] from 24 to 36 (fun wx => Ext w wx ∧ Blk wx g0 160 #[.string l1, .string s1, .string r1, .slice A1 m1 c1, .string l2, .string s2, .string r2, .slice A2 m2 c2] ∧ Blk wx g1 108 #[.string lN, .string sN, .string r3, .slice A m c] ∧ Blk wx g2 108 #[.string ⟨#[]⟩, .string ⟨#[]⟩, .string ⟨#[]⟩, .slice none 0 0])
  case first =>
    have zs := HB0.out.cell 5
    have zc := HB1.out.cell 1
    have zf := HB1.out.frozen 1
    simp only [List.getElem?_toArray, List.getElem?_cons_zero, List.getElem?_cons_succ] at zs zc
    have hc := (HSN).out
    obtain ⟨bb, hbb⟩ : ∃ bb, bb = (!b3 || b4) := ⟨_, rfl⟩
    rw [← hbb] at hc ⊢
    clear hbb
    obtain ⟨hG0, hG1, hG2, hG3, hG4, hG5⟩ := HG.out
    cases bb with
    | true =>
      have HC := Lib.hid (hc.trans (if_pos rfl))
      have HE9 := Lib.hid (HE0.out.set_ (p := ⟨g1, 1, none⟩) hG1)
      have HB9 := Lib.hid (HB0.out.far (p := ⟨g1, 1, none⟩) hG3)
      have HD9 := Lib.hid (HB2.out.far (p := ⟨g1, 1, none⟩) (Ne.symm hG4))
      clear hc hG0 hG1 hG2 hG3 hG4 hG5
      go_wp2
      go_meet
      exact ⟨HE9.out _, HB9.out _, by rw [HC.out]; exact HB1.out.set_ 1 _, HD9.out _⟩
    | false =>
      have HC := Lib.hid (hc.trans (if_neg (by decide)))
      clear hc hG0 hG1 hG2 hG3 hG4 hG5
      go_wp2
      go_meet
      exact ⟨HE0.out, HB0.out, by rw [HC.out]; exact HB1.out, HB2.out⟩
  obtain ⟨hE9, h90, h91, h92⟩ := hcut
  obtain ⟨W2, rfl⟩ : ∃ W2 : World, W2 = wc := ⟨_, rfl⟩
  clear HE0 HB0 HB1 HB2
  have HE0 := Lib.hid hE9
  have HB0 := Lib.hid h90
  have HB1 := Lib.hid h91
  have HB2 := Lib.hid h92
  clear hE9 h90 h91 h92
  go_upto_region 5 with fail
  go_cut [45] from 37 to 45 (fun v wx => v = .bool (!b5 || b6) ∧ wx = W2)
  case first =>
    have z0 := HB0.out.cell 2
    have z4 := HB1.out.cell 2
    simp only [List.getElem?_toArray, List.getElem?_cons_zero, List.getElem?_cons_succ] at z0 z4
    have q1 := (Q5).out
    have q2 := (Q6).out
    cases b5 <;> cases b6 <;> (go_wp2; go_meet; exact ⟨by first | rfl | trivial, by first | rfl | trivial⟩)
  obtain ⟨rfl, hwc⟩ := hcut
  subst hwc
  go_upto_if 45 with fail
  go_cut [] from 37 to 49 (fun wx => Ext w wx ∧ Blk wx g0 160 #[.string l1, .string s1, .string r1, .slice A1 m1 c1, .string l2, .string s2, .string r2, .slice A2 m2 c2] ∧ Blk wx g1 108 #[.string lN, .string sN, .string rN, .slice A m c] ∧ Blk wx g2 108 #[.string ⟨#[]⟩, .string ⟨#[]⟩, .string ⟨#[]⟩, .slice none 0 0])
  case first =>
    have zs := HB0.out.cell 6
    have zc := HB1.out.cell 2
    have zf := HB1.out.frozen 2
    simp only [List.getElem?_toArray, List.getElem?_cons_zero, List.getElem?_cons_succ] at zs zc
    have hc := (HRN).out
    obtain ⟨bb, hbb⟩ : ∃ bb, bb = (!b5 || b6) := ⟨_, rfl⟩
    rw [← hbb] at hc ⊢
    clear hbb
    obtain ⟨hG0, hG1, hG2, hG3, hG4, hG5⟩ := HG.out
    cases bb with
    | true =>
      have HC := Lib.hid (hc.trans (if_pos rfl))
      have HE9 := Lib.hid (HE0.out.set_ (p := ⟨g1, 2, none⟩) hG1)
      have HB9 := Lib.hid (HB0.out.far (p := ⟨g1, 2, none⟩) hG3)
      have HD9 := Lib.hid (HB2.out.far (p := ⟨g1, 2, none⟩) (Ne.symm hG4))
      clear hc hG0 hG1 hG2 hG3 hG4 hG5
      go_wp2
      go_meet
      exact ⟨HE9.out _, HB9.out _, by rw [HC.out]; exact HB1.out.set_ 2 _, HD9.out _⟩
    | false =>
      have HC := Lib.hid (hc.trans (if_neg (by decide)))
      clear hc hG0 hG1 hG2 hG3 hG4 hG5
      go_wp2
      go_meet
      exact ⟨HE0.out, HB0.out, by rw [HC.out]; exact HB1.out, HB2.out⟩
  obtain ⟨hE9, h90, h91, h92⟩ := hcut
  obtain ⟨W3, rfl⟩ : ∃ W3 : World, W3 = wc := ⟨_, rfl⟩
  clear HE0 HB0 HB1 HB2
  have HE0 := Lib.hid hE9
  have HB0 := Lib.hid h90
  have HB1 := Lib.hid h91
  have HB2 := Lib.hid h92
  clear hE9 h90 h91 h92
  go_upto_region 7 with fail
  have hmm := @run_makeMap Tryz.prog
  obtain ⟨W4, hW4⟩ : ∃ W4, W4 = W3.alloc (.map #[] 0) := ⟨_, rfl⟩
  obtain ⟨bm, hbm⟩ : ∃ b, b = W3.heap.size := ⟨_, rfl⟩
  have hSM : SM W4 bm 0 [] := by rw [hW4, hbm]; exact SM.made W3
  have hE34 : Ext W3 W4 := by rw [hW4]; exact (Ext.refl W3).alloc _
  have HB04 := Lib.hid (HB0.out.below hE34 HB0.out.lt)
  have HB14 := Lib.hid (HB1.out.below hE34 HB1.out.lt)
  have HB24 := Lib.hid (HB2.out.below hE34 HB2.out.lt)
  have HGB : Hid (w.heap.size ≤ bm ∧ g0 ≠ bm ∧ g1 ≠ bm ∧ g2 ≠ bm) := ⟨by rw [hbm]; exact HE0.out.size_le, fun e => by have := HB0.out.lt; omega, fun e => by have := HB1.out.lt; omega, fun e => by have := HB2.out.lt; omega⟩
  have HE4 := Lib.hid (HE0.out.trans hE34)
  have HW4 := Lib.hid hW4
  have HBM := Lib.hid hbm
  clear HB0 HB1 HB2 HE0 hE34 hW4 hbm
  go_upto_region 8 with fail
  rw [← HW4.out, ← HBM.out]
  clear hmm
  have HFR : Hid (∀ W, W4.grownBy W (some bm) → Ext w W ∧ Blk W g0 160 #[.string l1, .string s1, .string r1, .slice A1 m1 c1, .string l2, .string s2, .string r2, .slice A2 m2 c2] ∧ Blk W g1 108 #[.string lN, .string sN, .string rN, .slice A m c] ∧ Blk W g2 108 #[.string ⟨#[]⟩, .string ⟨#[]⟩, .string ⟨#[]⟩, .slice none 0 0] ∧ TgW W ⟨A1, m1, c1⟩ ra ∧ TgW W ⟨A2, m2, c2⟩ rb ∧ TgW W ⟨A, m, c⟩ t) := fun W hg => by
    obtain ⟨h1, h2, h3, h4⟩ := HGB.out
    have hr : ∀ g, some bm = some g → w.heap.size ≤ g := fun g e => by injection e with e; omega
    exact ⟨HE4.out.grown hg hr, HB04.out.grown hg (by simpa using h2), HB14.out.grown hg (by simpa using h3), HB24.out.grown hg (by simpa using h4), (HX1.out.ext HE4.out).kept hg (HX1.out.far hr), (HX2.out.ext HE4.out).kept hg (HX2.out.far hr), (HT.out.ext HE4.out).kept hg (HT.out.far hr)⟩
  have k13 := HB14.out.cell 3
  simp only [List.getElem?_toArray, List.getElem?_cons_zero, List.getElem?_cons_succ] at k13
  go_wp2
  go_loopw [7, 54] (fun _ i wr => ∃ q n : Nat, q ≤ m ∧ n ≤ q ∧ i = .int .i64 q ∧ Hid (SM wr bm n ((t.vars.take q).filter fun v => !decide (v ∈ ra.vars))) ∧ Hid (W4.grownBy wr (some bm))) (fun _ i _ => m - (intOf i).toNat)
  case atStart => exact ⟨0, 0, Nat.zero_le _, Nat.zero_le _, rfl, hSM, (Ext.refl _).grownBy _⟩
  case round =>
    obtain ⟨q, n, hq, hnq, rfl, HSM, HGR⟩ := hrel
    obtain ⟨hEw, hw0, hw1, hw2, hwx1, hwx2, hwt⟩ := HFR.out wr HGR.out
    by_cases hlt : q < m
    · obtain ⟨b, off, e0, hbl, hcs⟩ := strs_cells hwt.sl (by dsimp only; omega)
      dsimp only at e0
      subst e0
      have hlt1 : q < t.vars.length := by rw [← HL3.out]; exact hlt
      have x0 := hcs q (str t.vars[q]) (by rw [List.getElem?_map, List.getElem?_eq_getElem hlt1]; rfl)
      have HK := Lib.hid (containsT_any c1 hwx1.sl t.vars[q])
      have hsz : t.vars[q].length ≤ maxLen := Nat.le_trans (HT.out.sz _ (List.getElem_mem hlt1)) (by simp [maxLen])
      have hn900 : n < maxLen := by have := HV.out; have := HL3.out; simp [maxLen]; omega
      obtain ⟨wn, hrun, hSMn, hgn⟩ := HSM.out.store hn900 t.vars[q] hsz
      obtain ⟨y, hy⟩ : ∃ y, y = str t.vars[q] := ⟨_, rfl⟩
      rw [← hy] at x0 HK hrun
      have k03 := hw0.cell 3
      simp only [List.getElem?_toArray, List.getElem?_cons_zero, List.getElem?_cons_succ] at k03
      have hi1 : (q : Int) < (m : Int) := by omega
      obtain ⟨bq, hbq⟩ : ∃ b, b = decide (t.vars[q] ∈ ra.vars) := ⟨_, rfl⟩
      rw [← hbq] at HK
      have HFL : Hid ((t.vars.take (q + 1)).filter (fun v => !decide (v ∈ ra.vars)) = (t.vars.take q).filter (fun v => !decide (v ∈ ra.vars)) ++ if bq = true then [] else [t.vars[q]]) := by
        show _ = _
        rw [List.take_succ_eq_append_getElem hlt1, List.filter_append, hbq]
        cases h9 : decide (t.vars[q] ∈ ra.vars) <;> simp [h9] <;> simpa using h9
      have HSMN := Lib.hid hSMn
      have HGN := Lib.hid hgn
      clear hcs hy hbq hSMn hgn hsz hn900 hEw hw0 hw1 hw2 hwx1 hwx2 hwt
      cases bq with
      | true =>
        clear hrun
        go_wp2_with (first
          | (go_at_call 147; refine Hid.out ?_))
        refine Hid.mk_ ((HK.out).mono ?_)
        rintro e w2 ⟨rfl, rfl⟩
        go_wp2
        go_roundw
        case rel => exact ⟨q + 1, n, by omega, by omega, by go_num, by rw [HFL.out]; (first | rw [if_pos rfl] | rw [if_pos trivial]); rw [List.append_nil]; exact HSM, HGR⟩
        case measure => simp [intOf]; omega
      | false =>
        go_wp2_with (first
          | (go_at_call 147; refine Hid.out ?_))
        refine Hid.mk_ ((HK.out).mono ?_)
        rintro e w2 ⟨rfl, rfl⟩
        go_wp2
        go_roundw
        case rel => exact ⟨q + 1, n + 1, by omega, by omega, by go_num, by rw [HFL.out, if_neg (by decide)]; exact HSMN, Lib.hid (HGR.out.trans HGN.out)⟩
        case measure => simp [intOf]; omega
    · have hi1 : ¬ (q : Int) < (m : Int) := by omega
      have HS1 : Hid (SM wr bm n (t.vars.filter fun v => !decide (v ∈ ra.vars))) := by
        have h := HSM.out
        rwa [List.take_of_length_le (by have := HL3.out; omega)] at h
      have hqn : n ≤ m := by omega
      obtain ⟨wo, hwo⟩ : ∃ wo : World, wo = wr := ⟨_, rfl⟩
      rw [← hwo] at HS1 HGR hw0 ⊢
      have k07 := hw0.cell 7
      simp only [List.getElem?_toArray, List.getElem?_cons_zero, List.getElem?_cons_succ] at k07
      clear hwo hEw hw0 hw1 hw2 hwx1 hwx2 hwt HSM hq hnq
      go_wp2
      go_loopw [9, 71] (fun _ i wr => ∃ q n2 : Nat, q ≤ m2 ∧ n2 ≤ n + q ∧ i = .int .i64 q ∧ Hid (SM wr bm n2 ((t.vars.filter fun v => !decide (v ∈ ra.vars)) ++ rb.vars.take q)) ∧ Hid (W4.grownBy wr (some bm))) (fun _ i _ => m2 - (intOf i).toNat)
      case atStart => exact ⟨0, n, Nat.zero_le _, Nat.le_refl _, rfl, by rw [List.take_zero, List.append_nil]; exact HS1, HGR⟩
      case round =>
        obtain ⟨q, n2, hq, hnq, rfl, HSM, HGR2⟩ := hrel
        obtain ⟨hEw, hw0, hw1, hw2, hwx1, hwx2, hwt⟩ := HFR.out wr HGR2.out
        by_cases hlt : q < m2
        · obtain ⟨b, off, e0, hbl, hcs⟩ := strs_cells hwx2.sl (by dsimp only; omega)
          dsimp only at e0
          subst e0
          have hlt1 : q < rb.vars.length := by rw [← HL2.out]; exact hlt
          have x0 := hcs q (str rb.vars[q]) (by rw [List.getElem?_map, List.getElem?_eq_getElem hlt1]; rfl)
          have hsz : rb.vars[q].length ≤ maxLen := Nat.le_trans (HX2.out.sz _ (List.getElem_mem hlt1)) (by simp [maxLen])
          have hn900 : n2 < maxLen := by have := HV.out; have := HL3.out; have := HL2.out; simp [maxLen]; omega
          obtain ⟨wn, hrun, hSMn, hgn⟩ := HSM.out.store hn900 rb.vars[q] hsz
          obtain ⟨y, hy⟩ : ∃ y, y = str rb.vars[q] := ⟨_, rfl⟩
          rw [← hy] at x0 hrun
          have hi1 : (q : Int) < (m2 : Int) := by omega
          have HTK : Hid ((t.vars.filter fun v => !decide (v ∈ ra.vars)) ++ rb.vars.take (q + 1) = ((t.vars.filter fun v => !decide (v ∈ ra.vars)) ++ rb.vars.take q) ++ [rb.vars[q]]) := by
            show _ = _
            rw [List.take_succ_eq_append_getElem hlt1, List.append_assoc]
          have HSMN := Lib.hid hSMn
          have HGN := Lib.hid hgn
          clear hcs hy hSMn hgn hsz hn900 hEw hw0 hw1 hw2 hwx1 hwx2 hwt
          go_wp2
          go_roundw
          case rel => exact ⟨q + 1, n2 + 1, by omega, by omega, by go_num, by rw [HTK.out]; exact HSMN, Lib.hid (HGR2.out.trans HGN.out)⟩
          case measure => simp [intOf]; omega
        · have hi1 : ¬ (q : Int) < (m2 : Int) := by omega
          have HSF : Hid (SM wr bm n2 ((t.vars.filter fun v => !decide (v ∈ ra.vars)) ++ rb.vars)) := by
            have h := HSM.out
            rwa [List.take_of_length_le (by have := HL2.out; omega)] at h
          have hn2 : n2 ≤ 4000 := by omega
          have HSS : Hid (∀ s ∈ (t.vars.filter fun v => !decide (v ∈ ra.vars)) ++ rb.vars, s.length ≤ 1000) := fun s hs => by
            rcases List.mem_append.1 hs with hs | hs
            · exact HT.out.sz s (List.mem_filter.1 hs).1
            · exact HX2.out.sz s hs
          have HKZ := Lib.hid (keysZ_any (w := wr) bm)
          have HEW := Lib.hid hEw
          have HW1 := Lib.hid hw1
          have HW2 := Lib.hid hw2
          clear hEw hw0 hw1 hw2 hwx1 hwx2 hwt
          go_wp2_with (first
            | (go_at_call 149; refine Hid.out ?_))
          refine Hid.mk_ (HKZ.out.mono ?_)
          rintro e w5 ⟨rfl, hw5⟩
          have hE5 : Ext wr w5 := by rw [hw5]; exact (Ext.refl wr).alloc _
          have hk5 : w5.cell? ⟨wr.heap.size, 0, none⟩ = some (.map (some bm)) := by rw [hw5]; exact (Blk.new wr _ _).cell 0
          have HSK := Lib.hid (sortedK_any (HSF.out.ext hE5) hn2 HSS.out hk5)
          clear hw5 hk5
          go_wp2_with (first
            | (go_at_call 148; refine Hid.out ?_))
          refine Hid.mk_ (HSK.out.mono ?_)
          rintro e w6 ⟨⟨A6, m6, c6, rfl, ho6⟩, hE6⟩
          have hE56 := hE5.trans hE6
          have hb1 := HW1.out.below hE56 HW1.out.lt
          have hb2 := HW2.out.below hE56 HW2.out.lt
          have HO6 := Lib.hid ho6
          have HEF := Lib.hid (HEW.out.trans hE56)
          have c13 := hb1.cell 3
          have f13 := hb1.frozen 3
          simp only [List.getElem?_toArray, List.getElem?_cons_zero, List.getElem?_cons_succ] at c13
          have HB17 : Hid (Blk (w6.setCell ⟨g1, 3, none⟩ (.slice A6 m6 c6)) g1 108 #[.string lN, .string sN, .string rN, .slice A6 m6 c6]) := hb1.set_ 3 _
          obtain ⟨hG0, hG1, hG2, hG3, hG4, hG5⟩ := HG.out
          have HB27 := Lib.hid (hb2.far (p := ⟨g1, 3, none⟩) (Ne.symm hG4) (.slice A6 m6 c6))
          have HE7 := Lib.hid (HEF.out.set_ (p := ⟨g1, 3, none⟩) hG1 (.slice A6 m6 c6))
          have HO7 : Hid (OsC strF 9 1 (w6.setCell ⟨g1, 3, none⟩ (.slice A6 m6 c6)) w5.heap.size A6 m6 c6 ((sortV (nubL ((t.vars.filter fun v => !decide (v ∈ ra.vars)) ++ rb.vars))).map str)) := ho6.kept (grown_setM w6 g1 3 _) (own_ne_tg ho6 hb1)
          have HGE : Hid (w.heap.size ≤ w5.heap.size ∧ w.heap.size ≤ g2) := ⟨(HEW.out.trans hE5).size_le, hG2⟩
          clear hG0 hG1 hG2 hG3 hG4 hG5 hb1 hb2 ho6 hE5 hE6 hE56
          go_upto_region 20 with fail
          obtain ⟨w7, hw7⟩ : ∃ w7, w7 = w6.setCell ⟨g1, 3, none⟩ (.slice A6 m6 c6) := ⟨_, rfl⟩
          rw [← hw7] at HB17 HB27 HE7 HO7 ⊢
          clear hw7 c13 f13
          have y0 := (HB17.out).cell 0
          have y1 := (HB17.out).cell 1
          have y2 := (HB17.out).cell 2
          have y3 := (HB17.out).cell 3
          simp only [List.getElem?_toArray, List.getElem?_cons_zero, List.getElem?_cons_succ] at y0 y1 y2 y3
          have q0 := (HB27.out).cell 0
          have q1 := (HB27.out).cell 1
          have q2 := (HB27.out).cell 2
          have q3 := (HB27.out).cell 3
          have gf0 := (HB27.out).frozen 0
          have gf1 := (HB27.out).frozen 1
          have gf2 := (HB27.out).frozen 2
          have gf3 := (HB27.out).frozen 3
          simp only [List.getElem?_toArray, List.getElem?_cons_zero, List.getElem?_cons_succ] at q0 q1 q2 q3
          have HRB := Lib.hid (HB27.out)
          go_wp2
          refine bodyPost_ret (results_cell_row rfl _ _ g2 108 _ (0, 0) _ rfl ((((HRB.out.set_ 0 _).set_ 1 _).set_ 2 _).set_ 3 _) Tryz.underlying108 rfl info_tg4) rfl ?_
          have hgw := HGE.out.2
          have hne := own_ne_tg HO7.out HRB.out
          refine ⟨⟨⟨A6, m6, c6⟩, ?_, ?_, fun k hk => Nat.le_trans HGE.out.1 (HO7.out.ge k hk)⟩, ((((HE7.out).set_ (p := ⟨g2, 0, none⟩) hgw _).set_ (p := ⟨g2, 1, none⟩) hgw _).set_ (p := ⟨g2, 2, none⟩) hgw _).set_ (p := ⟨g2, 3, none⟩) hgw _⟩
          · show _ = Ending.returned (.agg #[.string (str (replR ⟨ra, rb⟩ t).lang), .string (str (replR ⟨ra, rb⟩ t).scr), .string (str (replR ⟨ra, rb⟩ t).reg), .slice A6 m6 c6])
            rw [← HRL.out, ← HRS.out, ← HRR.out]
            rfl
          · have ho9 := ((((HO7.out.kept (grown_setM w7 g2 0 (.string lN)) hne).kept (grown_setM _ g2 1 (.string sN)) hne).kept (grown_setM _ g2 2 (.string rN)) hne).kept (grown_setM _ g2 3 (.slice A6 m6 c6)) hne)
            have hv9 : (replR ⟨ra, rb⟩ t).vars = sortV (nubL ((t.vars.filter fun v => !decide (v ∈ ra.vars)) ++ rb.vars)) := rfl
            have hmem : ∀ y ∈ (replR ⟨ra, rb⟩ t).vars, y.length ≤ 1000 := fun y hy => by
              rw [hv9, sortV_mem, nub_mem] at hy
              exact HSS.out y hy
            have hlen : (replR ⟨ra, rb⟩ t).vars.length ≤ 1000 := by
              rw [hv9, sortV_len]
              refine Nat.le_trans (nub_len _) ?_
              rw [List.length_append]
              have := List.length_filter_le (fun v => !decide (v ∈ ra.vars)) t.vars
              have := HV.out
              omega
            have t1 := HT.out
            have t2 := HX2.out
            refine ⟨ho9.sl, ho9.cap, hlen, hmem, ?_, ?_, ?_⟩
            · unfold replR
              dsimp only
              split
              · exact t2.ln
              · exact t1.ln
            · unfold replR
              dsimp only
              split
              · exact t2.sn
              · exact t1.sn
            · unfold replR
              dsimp only
              split
              · exact t2.rn
              · exact t1.rn
end
end Go.Proofs.YtdgppdiickmofaaGreatDoor

/- The program's aliases: step. -/
namespace Go.Proofs.YtdgppdiickmofaaGreatDoor
open Go.RowKit
set_option maxRecDepth 100000
attribute [local go_sem] ext_refl_t ext_alloc_t ext_drew_t ext_drewN_t ext_alloc2_t ext_alloc3_t ext_alloc4_t ext_alloc5_t ext_alloc6_t ext_alloc7_t ext_alloc8_t ext_alloc1d_t ext_alloc2d_t ext_alloc3d_t ext_alloc4d_t
theorem stepR_cons (r : Ral) (l : List Ral) (t : Tg) : stepR (r :: l) t = if fitsR r t && !eqT (replR r t) t then some (replR r t) else stepR l t := rfl
/-- What a step gives. -/
def StR (o : Option Tg) (h' : SlH) (t' : Tg) (ok : Bool) : Prop := match o with
  | none => ok = false ∧ t' = tg0 ∧ h' = ⟨none, 0, 0⟩
  | some u => ok = true ∧ t' = u
def StepPost (w : World) (o : Option Tg) (e : Ending) (w' : World) : Prop := ∃ h' t' ok, e = .returned (.tuple #[tgV h' t', .bool ok]) ∧ StR o h' t' ok ∧ TgW w' h' t' ∧ ∀ k, ob h'.A = some k → w.heap.size ≤ k
section
variable {w : World}
set_option maxHeartbeats 12800000 in
theorem astep_any {h ht : SlH} {rs : List Ral} {t : Tg} (hr : RusW w h rs) (hs : TgW w ht t) (hv : ∀ r ∈ rs, t.vars.length + r.b.vars.length ≤ 900) :
    Calls Tryz.prog 67 #[.slice h.A h.m h.c, tgV ht t] w fun e w' => StepPost w (stepR rs t) e w' ∧ Ext w w' := by
  obtain ⟨B, n, d⟩ := h
  obtain ⟨A, m, c⟩ := ht
  obtain ⟨L, rfl, hsl, -, hru⟩ := hr
  have HL : Hid (n = L.length) := hsl.len
  have hle := hsl.le
  have HSL := Lib.hid hsl
  have HRU := Lib.hid hru
  have HT := Lib.hid hs
  have HV := Lib.hid hv
  unfold tgV
  dsimp only at hle HSL HT ⊢
  obtain ⟨l3, hl3⟩ : ∃ x, x = str t.lang := ⟨_, rfl⟩
  obtain ⟨s3, hs3⟩ : ∃ x, x = str t.scr := ⟨_, rfl⟩
  obtain ⟨r3, hr3⟩ : ∃ x, x = str t.reg := ⟨_, rfl⟩
  rw [← hl3, ← hs3, ← hr3]
  have HL3 := Lib.hid hl3
  have HS3 := Lib.hid hs3
  have HR3 := Lib.hid hr3
  clear hl3 hs3 hr3 hsl hru hs hv
  go_enter Tryz.func67, Tryz.ntmps67
  obtain ⟨W0, hW0⟩ : ∃ W0, W0 = ((w.alloc (.cells #[.string l3, .string s3, .string r3, .slice A m c] 108)).alloc (.cells #[.string ⟨#[]⟩, .string ⟨#[]⟩, .string ⟨#[]⟩, .slice none 0 0] 108)) := ⟨_, rfl⟩
  have hE0 : Ext w W0 := by rw [hW0]; exact ((Ext.refl w).alloc _).alloc _
  have hb0 : Blk W0 w.heap.size 108 #[.string l3, .string s3, .string r3, .slice A m c] := by rw [hW0]; exact (Blk.new w _ _).alloc _
  have hb1 : Blk W0 (w.heap.size + 1) 108 #[.string ⟨#[]⟩, .string ⟨#[]⟩, .string ⟨#[]⟩, .slice none 0 0] := by rw [hW0]; exact blk2 w _ _
  go_upto_region 1 with fail
  rw [← hW0]
  obtain ⟨g0, hg0⟩ : ∃ g, g = w.heap.size := ⟨_, rfl⟩
  obtain ⟨gr, hgr⟩ : ∃ g, g = w.heap.size + 1 := ⟨_, rfl⟩
  rw [← hg0] at hb0
  rw [← hgr] at hb1
  rw [← hgr, ← hg0]
  have HG : Hid (w.heap.size ≤ g0 ∧ w.heap.size ≤ gr) := by show _ ∧ _; omega
  have HB0 := Lib.hid hb0
  have HB1 := Lib.hid hb1
  have HE0 := Lib.hid hE0
  clear hW0 hg0 hgr hb0 hb1 hE0
  go_wp2
  go_loopw [7, 8, 11] (fun _ _ i wr => ∃ q : Nat, q ≤ n ∧ i = .int .i64 q ∧ Hid (Ext W0 wr) ∧ Hid (stepR (L.map (·.r)) t = stepR ((L.drop q).map (·.r)) t)) (fun _ _ i _ => n - (intOf i).toNat)
  case atStart => exact ⟨0, Nat.zero_le _, rfl, Ext.refl _, Lib.hid (by rw [List.drop_zero])⟩
  case round =>
    obtain ⟨q, hq, rfl, HE, HC⟩ := hrel
    have HEw := Lib.hid (HE0.out.trans HE.out)
    by_cases hlt : q < n
    · obtain ⟨b, off, e0, hbl, hcs⟩ := (HSL.out.ext HEw.out).at_ hlt (by omega)
      subst e0
      have hlt1 : q < L.length := by rw [← HL.out]; exact hlt
      obtain ⟨x, hxq⟩ : ∃ x, x = L[q] := ⟨_, rfl⟩
      have x0 := hcs q hlt1 0 (by omega)
      have x1 := hcs q hlt1 1 (by omega)
      have x2 := hcs q hlt1 2 (by omega)
      have x3 := hcs q hlt1 3 (by omega)
      have x4 := hcs q hlt1 4 (by omega)
      have x5 := hcs q hlt1 5 (by omega)
      have x6 := hcs q hlt1 6 (by omega)
      have x7 := hcs q hlt1 7 (by omega)
      simp only [← hxq, ruC, List.getElem_cons_zero, List.getElem_cons_succ, Nat.add_zero, ← Nat.add_assoc] at x0 x1 x2 x3 x4 x5 x6 x7
      have HDR : Hid (stepR (L.map (·.r)) t = if fitsR x.r t && !eqT (replR x.r t) t then some (replR x.r t) else stepR ((L.drop (q + 1)).map (·.r)) t) := by
        show _ = _
        rw [HC.out, List.drop_eq_getElem_cons hlt1, List.map_cons, ← hxq]
        exact stepR_cons _ _ _
      have hxm : x ∈ L := by rw [hxq]; exact List.getElem_mem hlt1
      have HXW : Hid (RuW w x) := HRU.out x hxm
      have HXV : Hid (t.vars.length + x.r.b.vars.length ≤ 900) := HV.out _ (List.mem_map.2 ⟨x, hxm, rfl⟩)
      have hi1 : (q : Int) < (n : Int) := by omega
      clear hcs hxq hxm
      have hEa : ∀ cs, Ext wr (wr.alloc (.cells cs 160)) := fun cs => (Ext.refl wr).alloc _
      obtain ⟨fb, hfb⟩ : ∃ fb, fb = fitsR x.r t := ⟨_, rfl⟩
      have HK1 : Hid (∀ W, Ext wr W → Calls Tryz.prog 98 #[ruV x, .agg #[.string l3, .string s3, .string r3, .slice A m c]] W fun e w' => e = .returned (.bool fb) ∧ Ext W w') := fun W hE => by
        rw [hfb, HL3.out, HS3.out, HR3.out]
        exact fits_any (h := ⟨A, m, c⟩) (HXW.out.ext (HEw.out.trans hE)) (HT.out.ext (HEw.out.trans hE))
      have HK2 : Hid (∀ W, Ext wr W → Calls Tryz.prog 99 #[ruV x, .agg #[.string l3, .string s3, .string r3, .slice A m c]] W fun e w' => (∃ h' : SlH, e = .returned (tgV h' (replR x.r t)) ∧ TgW w' h' (replR x.r t) ∧ ∀ k, ob h'.A = some k → W.heap.size ≤ k) ∧ Ext W w') := fun W hE => by
        rw [HL3.out, HS3.out, HR3.out]
        exact repl_rule_any (h := ⟨A, m, c⟩) (HXW.out.ext (HEw.out.trans hE)) (HT.out.ext (HEw.out.trans hE)) HXV.out
      rw [← hfb] at HDR
      have hk0 := (HB0.out.below HE.out HB0.out.lt)
      have k0 := (hk0).cell 0
      have k1 := (hk0).cell 1
      have k2 := (hk0).cell 2
      have k3 := (hk0).cell 3
      simp only [List.getElem?_toArray, List.getElem?_cons_zero, List.getElem?_cons_succ] at k0 k1 k2 k3
      have k0 := laters k0
      have k1 := laters k1
      have k2 := laters k2
      have k3 := laters k3
      have hEr := Ext.refl wr
      have hbx := Blk.new wr 160 (ruC x).toArray
      have HBX := Lib.hid hbx
      have HK0 := Lib.hid hk0
      have HFB := Lib.hid hfb
      clear hbx hfb hk0
      go_wp2_with (first
        | (go_at_call 98; refine Hid.out ?_))
      refine Hid.mk_ ((HK1.out _ (hEa _)).mono ?_)
      rintro e w3 ⟨rfl, hE3⟩
      have hE13 : Ext wr w3 := (hEa (ruC x).toArray).trans hE3
      cases fb with
      | false =>
        have HN : Hid (stepR (L.map (·.r)) t = stepR ((L.drop (q + 1)).map (·.r)) t) := HDR.out
        have HE3 := Lib.hid (HE.out.trans hE13)
        clear hE3 hEa hEr k0 k1 k2 k3
        go_wp2
        go_roundw
        case rel => exact ⟨q + 1, by omega, by go_num, HE3, HN⟩
        case measure => simp [intOf]; omega
      | true =>
        have hbx3 : Blk w3 wr.heap.size 160 (ruC x).toArray := HBX.out.below hE3 (by simp)
        have z0 := (hbx3.cell 0).trans (show _ = some (.string (str x.r.a.lang)) from rfl)
        have z1 := (hbx3.cell 1).trans (show _ = some (.string (str x.r.a.scr)) from rfl)
        have z2 := (hbx3.cell 2).trans (show _ = some (.string (str x.r.a.reg)) from rfl)
        have z3 := (hbx3.cell 3).trans (show _ = some (.slice x.a.A x.a.m x.a.c) from rfl)
        have z4 := (hbx3.cell 4).trans (show _ = some (.string (str x.r.b.lang)) from rfl)
        have z5 := (hbx3.cell 5).trans (show _ = some (.string (str x.r.b.scr)) from rfl)
        have z6 := (hbx3.cell 6).trans (show _ = some (.string (str x.r.b.reg)) from rfl)
        have z7 := (hbx3.cell 7).trans (show _ = some (.slice x.b.A x.b.m x.b.c) from rfl)
        have m0 := k0 w3 hE13
        have m1 := k1 w3 hE13
        have m2 := k2 w3 hE13
        have m3 := k3 w3 hE13
        have HK03 := Lib.hid (HK0.out.below hE13 HK0.out.lt)
        have HE03 := Lib.hid (HE.out.trans hE13)
        have HE13 := Lib.hid hE13
        clear hEr k0 k1 k2 k3 x0 x1 x2 x3 x4 x5 x6 x7 hbx3 hE3 hEa hE13
        go_wp2_with (first
          | (go_at_call 99; refine Hid.out ?_))
        refine Hid.mk_ ((HK2.out _ HE13.out).mono ?_)
        rintro e w5 ⟨⟨h5, rfl, ht5, hn5⟩, hE5⟩
        obtain ⟨u, hu⟩ : ∃ u, u = replR x.r t := ⟨_, rfl⟩
        rw [← hu] at ht5 ⊢
        have HUQ := Lib.hid hu
        obtain ⟨eb, heb⟩ : ∃ eb, eb = eqT u t := ⟨_, rfl⟩
        have hE16 := (HE13.out.trans hE5).alloc (.cells #[.string (str u.lang), .string (str u.scr), .string (str u.reg), .slice h5.A h5.m h5.c] 108)
        have HE16 := Lib.hid (HEw.out.trans hE16)
        have HT5 := Lib.hid (ht5.ext ((Ext.refl w5).alloc (.cells #[.string (str u.lang), .string (str u.scr), .string (str u.reg), .slice h5.A h5.m h5.c] 108)))
        have HKE : Hid (Calls Tryz.prog 100 #[.agg #[.string (str u.lang), .string (str u.scr), .string (str u.reg), .slice h5.A h5.m h5.c], .agg #[.string l3, .string s3, .string r3, .slice A m c]] (w5.alloc (.cells #[.string (str u.lang), .string (str u.scr), .string (str u.reg), .slice h5.A h5.m h5.c] 108)) fun e w' => e = .returned (.bool eb) ∧ Ext (w5.alloc (.cells #[.string (str u.lang), .string (str u.scr), .string (str u.reg), .slice h5.A h5.m h5.c] 108)) w') := by
          show Calls _ _ _ _ _
          rw [heb, HL3.out, HS3.out, HR3.out]
          exact tequal_any (h := h5) (k := ⟨A, m, c⟩) HT5.out (HT.out.ext HE16.out)
        have HSTP : Hid (stepR (L.map (·.r)) t = if eb = true then stepR ((L.drop (q + 1)).map (·.r)) t else some u) := by
          show _ = _
          rw [HDR.out, ← HUQ.out, ← heb]
          cases eb <;> rfl
        have HE06 := Lib.hid (HE.out.trans hE16)
        have hb8 := Blk.new w5 108 #[.string (str u.lang), .string (str u.scr), .string (str u.reg), .slice h5.A h5.m h5.c]
        have hk6 := (HK03.out.below hE5 HK03.out.lt)
        have HN5 : Hid (∀ k, ob h5.A = some k → w.heap.size ≤ k) := fun k hk => Nat.le_trans (HEw.out.trans HE13.out).size_le (hn5 k hk)
        have HAP : Hid (Apart (some gr) h5) := apart_new (w := w3) (h := ⟨none, 0, 0⟩) (.inl rfl) (fun j hj => by injection hj with hj; have h9 := (HB1.out.below HE03.out HB1.out.lt).lt; omega) (.inr hn5)
        obtain ⟨lu, hlu⟩ : ∃ x, x = str u.lang := ⟨_, rfl⟩
        obtain ⟨su, hsu⟩ : ∃ x, x = str u.scr := ⟨_, rfl⟩
        obtain ⟨ru, hru⟩ : ∃ x, x = str u.reg := ⟨_, rfl⟩
        unfold tgV
        rw [← hlu, ← hsu, ← hru] at HKE HE06 HE16 HT5 hb8 ⊢
        have y0 := (hk6).cell 0
        have y1 := (hk6).cell 1
        have y2 := (hk6).cell 2
        have y3 := (hk6).cell 3
        simp only [List.getElem?_toArray, List.getElem?_cons_zero, List.getElem?_cons_succ] at y0 y1 y2 y3
        have y0 := laters y0
        have y1 := laters y1
        have y2 := laters y2
        have y3 := laters y3
        have hEr5 := Ext.refl w5
        have HLU := Lib.hid hlu
        have HSU := Lib.hid hsu
        have HRU2 := Lib.hid hru
        have HB8 := Lib.hid hb8
        clear hu heb hlu hsu hru hE16 ht5 hn5 hE5 hb8 hk6 z0 z1 z2 z3 z4 z5 z6 z7 m0 m1 m2 m3
        go_wp2_with (first
          | (go_at_call 100; refine Hid.out ?_))
        refine Hid.mk_ (HKE.out.mono ?_)
        rintro e w7 ⟨rfl, hE7⟩
        cases eb with
        | true =>
          have HN : Hid (stepR (L.map (·.r)) t = stepR ((L.drop (q + 1)).map (·.r)) t) := HSTP.out
          have HE3 := Lib.hid (HE06.out.trans hE7)
          clear hE7 hEr5 y0 y1 y2 y3
          go_wp2
          go_roundw
          case rel => exact ⟨q + 1, by omega, by go_num, HE3, HN⟩
          case measure => simp [intOf]; omega
        | false =>
          have HN : Hid (stepR (L.map (·.r)) t = some u) := HSTP.out
          have hbr := HB1.out.below (HE06.out.trans hE7) HB1.out.lt
          have hb87 := HB8.out.below hE7 (by simp)
          have n0 := (hb87).cell 0
          have n1 := (hb87).cell 1
          have n2 := (hb87).cell 2
          have n3 := (hb87).cell 3
          simp only [List.getElem?_toArray, List.getElem?_cons_zero, List.getElem?_cons_succ] at n0 n1 n2 n3
          have q0 := (hbr).cell 0
          have q1 := (hbr).cell 1
          have q2 := (hbr).cell 2
          have q3 := (hbr).cell 3
          have gf0 := (hbr).frozen 0
          have gf1 := (hbr).frozen 1
          have gf2 := (hbr).frozen 2
          have gf3 := (hbr).frozen 3
          simp only [List.getElem?_toArray, List.getElem?_cons_zero, List.getElem?_cons_succ] at q0 q1 q2 q3
          have HRB := Lib.hid (hbr)
          have HTF := Lib.hid (HT5.out.ext hE7)
          have HEF := Lib.hid (HE16.out.trans hE7)
          clear hE7 hbr hb87 hEr5 y0 y1 y2 y3
          go_wp2
          refine bodyPost_ret (results_cell_row_tmpT rfl _ _ gr 108 _ (0, 0) _ rfl ((((HRB.out.set_ 0 _).set_ 1 _).set_ 2 _).set_ 3 _) Tryz.underlying108 rfl info_tg4) rfl ?_
          have hgw := HG.out.2
          have hap := HAP.out
          refine ⟨⟨h5, u, true, ?_, ?_, (((HTF.out.kept (grown_setM w7 gr 0 (.string lu)) hap).kept (grown_setM _ gr 1 (.string su)) hap).kept (grown_setM _ gr 2 (.string ru)) hap).kept (grown_setM _ gr 3 (.slice h5.A h5.m h5.c)) hap, HN5.out⟩, (((HEF.out.set_ (p := ⟨gr, 0, none⟩) hgw _).set_ (p := ⟨gr, 1, none⟩) hgw _).set_ (p := ⟨gr, 2, none⟩) hgw _).set_ (p := ⟨gr, 3, none⟩) hgw _⟩
          · show _ = Ending.returned (.tuple #[.agg #[.string (str u.lang), .string (str u.scr), .string (str u.reg), .slice h5.A h5.m h5.c], .bool true])
            rw [← HLU.out, ← HSU.out, ← HRU2.out]
            rfl
          · rw [HN.out]
            exact ⟨rfl, rfl⟩
    · have hi1 : ¬ (q : Int) < (n : Int) := by omega
      have HN : Hid (stepR (L.map (·.r)) t = none) := by
        show _ = _
        rw [HC.out, List.drop_eq_nil_of_le (by have := HL.out; omega)]
        rfl
      have hbr := HB1.out.below HE.out HB1.out.lt
      have q0 := (hbr).cell 0
      have q1 := (hbr).cell 1
      have q2 := (hbr).cell 2
      have q3 := (hbr).cell 3
      have gf0 := (hbr).frozen 0
      have gf1 := (hbr).frozen 1
      have gf2 := (hbr).frozen 2
      have gf3 := (hbr).frozen 3
      simp only [List.getElem?_toArray, List.getElem?_cons_zero, List.getElem?_cons_succ] at q0 q1 q2 q3
      have HRB := Lib.hid (hbr)
      clear hbr
      go_wp2
      refine bodyPost_ret (results_cell_row_tmpT rfl _ _ gr 108 _ (0, 0) _ rfl ((((HRB.out.set_ 0 _).set_ 1 _).set_ 2 _).set_ 3 _) Tryz.underlying108 rfl info_tg4) rfl ?_
      have hgw := HG.out.2
      refine ⟨⟨⟨none, 0, 0⟩, tg0, false, rfl, ?_, tg0_W _, fun k hk => by cases hk⟩, (((HEw.out.set_ (p := ⟨gr, 0, none⟩) hgw _).set_ (p := ⟨gr, 1, none⟩) hgw _).set_ (p := ⟨gr, 2, none⟩) hgw _).set_ (p := ⟨gr, 3, none⟩) hgw _⟩
      rw [HN.out]
      exact ⟨rfl, rfl, rfl⟩
end
end Go.Proofs.YtdgppdiickmofaaGreatDoor
