/- The reference's order of the entries. -/
import Derived.Test.YtngpajaghadhdaaGreatDoorBinRF
import Derived.Test.YtngpajaghadhdaaGreatDoorBinO
namespace Go.Proofs.YtngpajaghadhdaaGreatDoor
open Go.RowKit
set_option maxRecDepth 100000
attribute [local go_sem] ext_refl_t ext_alloc_t ext_drew_t ext_drewN_t ext_alloc2_t ext_alloc3_t ext_alloc4_t ext_alloc5_t ext_alloc6_t ext_alloc7_t ext_alloc8_t ext_alloc1d_t ext_alloc2d_t ext_alloc3d_t ext_alloc4d_t
theorem ins_perm_ {α : Type} (l : List α) (x : α) (q : Nat) : List.Perm (x :: l) (l.take q ++ [x] ++ l.drop q) := by
  have h := (List.perm_middle (a := x) (l₁ := l.take q) (l₂ := l.drop q)).symm
  rw [List.take_append_drop] at h
  simpa using h
def leI (l : List Ep) (i j : Nat) : Prop := (!bO (idAt l j) (idAt l i)) = true
theorem ins_sorted {l : List Ep} {P : List Nat} {q k : Nat} (hp : List.Perm P (List.range q)) (hs : P.Pairwise (leI l)) (h1 : ∀ j (_ : j < k) (h : j < P.length), bO (idAt l P[j]) (idAt l q) = true) (h2 : ∀ h : k < P.length, bO (idAt l P[k]) (idAt l q) = false) :
    List.Perm (P.take k ++ [q] ++ P.drop k) (List.range (q + 1)) ∧ (P.take k ++ [q] ++ P.drop k).Pairwise (leI l) := by
  refine ⟨?_, ?_⟩
  · refine (ins_perm_ P q k).symm.trans ?_
    rw [List.range_succ]
    exact (hp.cons q).trans (List.perm_append_singleton q (List.range q)).symm
  · have hsp : P = P.take k ++ P.drop k := (List.take_append_drop k P).symm
    rw [hsp, List.pairwise_append] at hs
    have hlo : ∀ a ∈ P.take k, leI l a q := fun a ha => by
      obtain ⟨j, hj, rfl⟩ := List.getElem_of_mem ha
      rw [List.length_take] at hj
      rw [List.getElem_take]
      show (!bO (idAt l q) (idAt l P[j])) = true
      rw [bO_asym (h1 j (by omega) (by omega))]; rfl
    have hhi : ∀ b ∈ P.drop k, leI l q b := fun b hb => by
      obtain ⟨j, hj, rfl⟩ := List.getElem_of_mem hb
      have hj' := hj
      rw [List.length_drop] at hj'
      have hk : k < P.length := by omega
      have a : leI l q P[k] := by
        show (!bO (idAt l P[k]) (idAt l q)) = true
        rw [h2 hk]; rfl
      rcases Nat.eq_zero_or_pos j with h0 | h0
      · subst h0
        rw [List.getElem_drop]
        exact a
      · have hd := hs.2.1
        rw [List.pairwise_iff_getElem] at hd
        have b := hd 0 j (by omega) hj h0
        simp only [List.getElem_drop, Nat.add_zero] at b
        rw [List.getElem_drop]
        exact le_trans_ a b
    rw [List.pairwise_append, List.pairwise_append]
    refine ⟨⟨hs.1, by simp, fun a ha b hb => ?_⟩, hs.2.1, fun a ha b hb => ?_⟩
    · rw [List.mem_singleton] at hb; rw [hb]; exact hlo a ha
    · rcases List.mem_append.1 ha with h9 | h9
      · exact hs.2.2 a h9 b hb
      · rw [List.mem_singleton] at h9; rw [h9]; exact hhi b hb
section
variable {w : World}
set_option maxHeartbeats 6400000 in
theorem rsorted_any {x : Cat} (hx : CatW w x) (hn : x.e.m ≤ 1000) (hd : (x.p.es.map Ep.id).Nodup) :
    Calls Tryz.prog 43 #[catV x] w fun e w' => (∃ A m c, e = .returned (.slice A m c) ∧ SlC natF 1 w' A m (sortE x.p.es) ∧ ∀ k, ob A = some k → w.heap.size ≤ k) ∧ Ext w w' := by
  obtain ⟨tag, com, fd, es, hc, hf, ⟨eA, em, ec⟩⟩ := x
  have ke := hx.e
  unfold catV
  dsimp only at *
  have HL := Lib.hid ke.sl.len
  dsimp only at HL
  obtain ⟨W0, hW0⟩ : ∃ W0, W0 = w.alloc (Obj.cells #[.string tag, .slice hc.A hc.m hc.c, .slice hf.A hf.m hf.c, .slice eA em ec] 28) := ⟨_, rfl⟩
  have hb0 : Blk W0 w.heap.size 28 #[.string tag, .slice hc.A hc.m hc.c, .slice hf.A hf.m hf.c, .slice eA em ec] := by rw [hW0]; exact Blk.new w _ _
  have hE0 : Ext w W0 := by rw [hW0]; exact (Ext.refl w).alloc _
  obtain ⟨g, hg⟩ : ∃ g, g = w.heap.size := ⟨_, rfl⟩
  have HD := Lib.hid hd
  have X3 := laters (show _ = some (.slice eA em ec) from hb0.cell 3)
  clear hx hd hb0
  go_enter Tryz.func43, Tryz.ntmps43
  go_wp2
  rw [← hW0]
  rw [← hg] at X3
  rw [← hg]
  clear hW0 hg
  go_loopw [3, 4, 5] (fun o i _ wr => ∃ (q : Nat) (A : Option Addr) (m c : Nat) (P : List Nat), q ≤ em ∧ i = .int .i64 q ∧ o = .slice A m c ∧ OsC natF 3 1 wr W0.heap.size A m c P ∧ Hid (m = q) ∧ Hid (List.Perm P (List.range q)) ∧ Hid (P.Pairwise (leI (es.map Ent.p))) ∧ Ext W0 wr) (fun _ i _ _ => em - (intOf i).toNat)
  case atStart => exact ⟨0, none, 0, 0, [], Nat.zero_le _, rfl, rfl, OsC.nil_ natF_len natF_cell, Lib.hid rfl, Lib.hid (List.Perm.refl _), Lib.hid List.Pairwise.nil, Ext.refl _⟩
  case round =>
    obtain ⟨q, A, m, c, P, hq, rfl, rfl, ho, HM, HPM, HPW, hEo⟩ := hrel
    obtain ⟨wo, rfl⟩ : ∃ wo : World, wo = wr := ⟨_, rfl⟩
    have hE0o := hE0.trans hEo
    have hm1 : m ≤ 1000 := by have := HM.out; omega
    have hcap := ho.cap
    by_cases hlt : q < em
    · have hi1 : (q : Int) < (em : Int) := by omega
      have hqe : q < es.length := by rw [← HL.out]; exact hlt
      go_wp2
      go_loopw [5] (fun i wr => ∃ k : Nat, k ≤ m ∧ i = .int .i64 k ∧ Ext wo wr ∧ Hid (∀ j (_ : j < k) (h : j < P.length), bO (idAt (es.map Ent.p) P[j]) (idAt (es.map Ent.p) q) = true)) (fun i _ => m - (intOf i).toNat)
      case atStart => exact ⟨0, Nat.zero_le _, rfl, Ext.refl _, fun j hj _ => absurd hj (by omega)⟩
      case round =>
        obtain ⟨k, hk, rfl, hE2, HC⟩ := hrel
        have hEor := hEo.trans hE2
        have hE0r := hE0.trans hEor
        have hsP := (ho.ext hE2).sl
        have HPL : Hid (m = P.length) := ho.len
        by_cases hlt2 : k < m
        · have hi2 : (k : Int) < (m : Int) := by omega
          have hkP : k < P.length := by rw [← HPL.out]; exact hlt2
          obtain ⟨b1, off1, e1, hbl1, hcs1⟩ := hsP.at_ hlt2 (by omega)
          obtain ⟨p, hp⟩ : ∃ p, p = P[k] := ⟨_, rfl⟩
          have hpq : p < q := by rw [hp]; exact List.mem_range.1 (HPM.out.mem_iff.1 (List.getElem_mem _))
          have y0 := hcs1 k hkP 0 (by omega)
          simp only [← hp, natF, List.getElem_cons_zero, Nat.mul_one, Nat.add_zero] at y0
          have Y0 := latersU y0
          have hpe : p < es.length := by omega
          have hpem : p < em := by omega
          obtain ⟨b2, off2, e2, hbl2, hcs2⟩ := (ke.sl.ext hE0r).at_ hlt (by omega)
          obtain ⟨xq, hxq⟩ : ∃ z, z = es[q] := ⟨_, rfl⟩
          obtain ⟨xp, hxp⟩ : ∃ z, z = es[p] := ⟨_, rfl⟩
          have u0 := hcs2 q hqe 0 (by omega)
          have v0 := hcs2 p hpe 0 (by omega)
          simp only [← hxq, ← hxp, entC, List.getElem_cons_zero, Nat.add_zero] at u0 v0
          have U0 := latersU u0
          have V0 := latersU v0
          have X3u := fun (u : ExtOf wr) => X3 u.val (hEor.trans u.ext)
          dsimp only at e2
          have hpi : (p : Int) < (em : Int) := by omega
          have HIDQ : Hid (idAt (es.map Ent.p) q = xq.p.id) := by show _ = _; rw [idAt_lt (by rw [List.length_map]; exact hqe), List.getElem_map, ← hxq]
          have HIDP : Hid (idAt (es.map Ent.p) P[k] = xp.p.id) := by show _ = _; rw [← hp, idAt_lt (by rw [List.length_map]; exact hpe), List.getElem_map, ← hxp]
          subst e1
          rw [e2] at X3u
          clear hcs1 hcs2 hp hxq hxp e2 y0 u0 v0
          cases hb : Op.bytesLess xp.p.id.toList xq.p.id.toList with
          | true =>
            have HN : Hid (∀ j (_ : j < k + 1) (h : j < P.length), bO (idAt (es.map Ent.p) P[j]) (idAt (es.map Ent.p) q) = true) := fun j hj h => by
              rcases Nat.lt_or_ge j k with h2 | h2
              · exact HC.out j h2 h
              · obtain rfl : j = k := by omega
                rw [HIDP.out, HIDQ.out]; exact hb
            go_wp2
            refine wp_region_ext_lit (by kernel_rfl) (by kernel_rfl) ?_
            try dsimp only [List.append]
            repeat (go_big_quiet_step (fail))
            refine wpQuiet_nil ?_
            rintro w5 ⟨⟨_, h5⟩, rfl⟩
            try dsimp only
            clear hb
            go_wp2
            go_roundw
            case rel => exact ⟨k + 1, by omega, by go_num, hE2.trans h5, HN⟩
            case measure => simp [intOf]; omega
          | false =>
            have HAT : Hid (∀ h : k < P.length, bO (idAt (es.map Ent.p) P[k]) (idAt (es.map Ent.p) q) = false) := fun h => by rw [HIDP.out, HIDQ.out]; exact hb
            go_wp2
            refine wp_region_ext_lit (by kernel_rfl) (by kernel_rfl) ?_
            try dsimp only [List.append]
            repeat (go_big_quiet_step (fail))
            refine wpQuiet_nil ?_
            rintro w5 ⟨⟨_, h5⟩, rfl⟩
            try dsimp only
            clear hb
            have hE2' := hE2.trans h5
            clear hsP hEor hE0r Y0 U0 V0 X3u hE2
            obtain ⟨wr, rfl⟩ : ∃ W : World, W = w5 := ⟨_, rfl⟩
            have hE2 := hE2'
            have hEor := hEo.trans hE2
            have hsP := (ho.ext hE2).sl
            have HIS : Hid (List.Perm (P.take k ++ [q] ++ P.drop k) (List.range (q + 1)) ∧ (P.take k ++ [q] ++ P.drop k).Pairwise (leI (es.map Ent.p))) := ins_sorted HPM.out HPW.out HC.out HAT.out
            obtain ⟨P2, hP2⟩ : ∃ P2, P2 = P.take k ++ [q] ++ P.drop k := ⟨_, rfl⟩
            have HP2 := Lib.hid hP2
            rw [← hP2] at HIS
            clear hP2 HC HAT
            have hsl := hsP.take_ (i := k) (by omega)
            have hsr := hsP.cut (i := k) (by omega) hcap
            obtain ⟨hci1, hci2, -⟩ := (cut_runC einfo_int (A := some ⟨b1, off1, none⟩) (m := m) (c := c))
            have q3 : ∀ W, (Instr.sliceAt 63 (.slice (some ⟨b1, off1, none⟩) m c) none (some (.int .i64 (k : Int))) none).run Tryz.prog W = .ok (.slice (some ⟨b1, off1, none⟩) k c) W := fun W => (hci2 W .i64 k (by omega)).1
            have q4 : ∀ W, (Instr.slice 63 (.slice (some ⟨b1, off1, none⟩) m c) none (some (.int .i64 (k : Int))) none).run Tryz.prog W = .ok (.slice (some ⟨b1, off1, none⟩) k c) W := fun W => (hci2 W .i64 k (by omega)).2
            have q1 : ∀ W, (Instr.sliceAt 63 (.slice (some ⟨b1, off1, none⟩) m c) (some (.int .i64 (k : Int))) none none).run Tryz.prog W = .ok (.slice (cutA (some ⟨b1, off1, none⟩) c 1 k) (m - k) (c - k)) W := fun W => by have := (hci1 W .i64 k (by omega) hcap).1; simpa using this
            have q2 : ∀ W, (Instr.slice 63 (.slice (some ⟨b1, off1, none⟩) m c) (some (.int .i64 (k : Int))) none none).run Tryz.prog W = .ok (.slice (cutA (some ⟨b1, off1, none⟩) c 1 k) (m - k) (c - k)) W := fun W => by have := (hci1 W .i64 k (by omega) hcap).2; simpa using this
            clear hci1 hci2
            have i6 : (k : Int) ≤ (m : Int) := by omega
            have hoA : OsC natF 3 1 (wr.alloc (.cells #[] 3)).drew wr.heap.size (some ⟨wr.heap.size, 0, none⟩) 0 0 [] := (OsC.new0 (cs := natF) (e := 3) (k := 1) wr wr.heap.size (Nat.le_refl _) natF_len natF_cell).ext (Ext.refl _).drew
            have hnA : ∀ W : World, SlC natF 1 (W.alloc (Obj.cells #[.int .i64 (q : Int)] 3)) (some ⟨W.heap.size, 0, none⟩) 1 [q] := fun W => SlC.new_ (cs := natF) W [q] natF_len (by simp) _ rfl (0, 0) 1 rfl 3
            have hoB : OsC natF 3 1 ((wr.alloc (.cells #[] 3)).alloc (Obj.cells #[.int .i64 (q : Int)] 3)).drew wr.heap.size (some ⟨wr.heap.size, 0, none⟩) 0 0 [] := (OsC.new0 (cs := natF) (e := 3) (k := 1) wr wr.heap.size (Nat.le_refl _) natF_len natF_cell).ext ((Ext.refl _).alloc _).drew
            have hoC : OsC natF 3 1 ((wr.alloc (Obj.cells #[.int .i64 (q : Int)] 3)).alloc (.cells #[] 3)).drew wr.heap.size (some ⟨wr.heap.size + 1, 0, none⟩) 0 0 [] := by
              have h9 := (OsC.new0 (cs := natF) (e := 3) (k := 1) (wr.alloc (Obj.cells #[.int .i64 (q : Int)] 3)) wr.heap.size (by simp) natF_len natF_cell).ext (Ext.refl _).drew
              simpa using h9
            have hnB : SlC natF 1 ((wr.alloc (.cells #[] 3)).alloc (Obj.cells #[.int .i64 (q : Int)] 3)).drew (some ⟨wr.heap.size + 1, 0, none⟩) 1 [q] := by
              have h9 := (hnA (wr.alloc (.cells #[] 3))).ext (Ext.refl _).drew
              simpa using h9
            have hnC : SlC natF 1 ((wr.alloc (Obj.cells #[.int .i64 (q : Int)] 3)).alloc (.cells #[] 3)).drew (some ⟨wr.heap.size, 0, none⟩) 1 [q] := (hnA wr).ext ((Ext.refl _).alloc _).drew
            go_wp2
            first
            | (go_region_law (first
                | (refine step_appC einfo_int rfl _ _ rfl ho3 rfl (hsr.ext hE03) rfl (by have := ho3.len; simp at this; omega) hE03.size_le ?_; intro A4 m4 c4 w4 ho4 hg4 hat4)
                | (refine step_appC einfo_int rfl _ _ rfl ho2 rfl hn2 rfl (by have := ho2.len; simp at this; omega) hE02.size_le ?_; intro A3 m3 c3 w3 ho3 hg3 hat3; have hE03 := hE02.grown hg3 ho2.ge)
                | (refine step_appC einfo_int rfl _ _ rfl (ho2.ext ((Ext.refl w2).alloc _)) rfl (hnA w2) rfl (by have := ho2.len; simp at this; omega) (hE02.alloc _).size_le ?_; intro A3 m3 c3 w3 ho3 hg3 hat3; have hE03 := (hE02.alloc _).grown hg3 ho2.ge)
                | (refine step_appC einfo_int rfl _ _ rfl hoA rfl (hsl.ext ((Ext.refl wr).alloc _).drew) rfl (by omega) (by simp <;> omega) ?_; intro A2 m2 c2 w2 ho2 hg2 hat2; have hE02 : Ext wr w2 := ((Ext.refl wr).alloc _).drew.grown hg2 (fun j hj => by simp [ob] at hj; omega))
                | (refine step_appC einfo_int rfl _ _ rfl hoB rfl (hsl.ext (((Ext.refl wr).alloc _).alloc _).drew) rfl (by omega) (by simp <;> omega) ?_; intro A2 m2 c2 w2 ho2 hg2 hat2; have hE02 : Ext wr w2 := (((Ext.refl wr).alloc _).alloc _).drew.grown hg2 (fun j hj => by simp [ob] at hj; omega); have hn2 := hnB.kept hg2 (.inr (by simp [ob])))
                | (refine step_appC einfo_int rfl _ _ rfl hoC rfl (hsl.ext (((Ext.refl wr).alloc _).alloc _).drew) rfl (by omega) (by simp <;> omega) ?_; intro A2 m2 c2 w2 ho2 hg2 hat2; have hE02 : Ext wr w2 := (((Ext.refl wr).alloc _).alloc _).drew.grown hg2 (fun j hj => by simp [ob] at hj; omega); have hn2 := hnC.kept hg2 (.inr (by simp [ob])))
                | fail))
            | fail
            all_goals
              have hE04 := hE03.grown hg4 ho3.ge
              have hEW4 := hEor.trans hE04
              have ho4' : OsC natF 3 1 w4 W0.heap.size A4 m4 c4 P2 := by rw [HP2.out]; simpa using ho4.mono (Nat.le_trans hEo.size_le hE2.size_le)
              have HM4 : Hid (m4 = q + 1) := by show _ = _; rw [ho4'.len, HIS.out.1.length_eq, List.length_range]
              have HS1 := Lib.hid HIS.out.1
              have HS2 := Lib.hid HIS.out.2
              go_wp2
              go_roundw
              case rel => exact ⟨q + 1, A4, m4, c4, P2, by omega, by go_num, rfl, ho4', HM4, HS1, HS2, hEW4⟩
              case measure => simp [intOf]; omega
        · have hd1 : decide ((k : Int) < (m : Int)) = false := decide_eq_false (by omega)
          have hd2 : decide (k < m) = false := decide_eq_false (by omega)
          have HAT : Hid (∀ h : k < P.length, bO (idAt (es.map Ent.p) P[k]) (idAt (es.map Ent.p) q) = false) := fun h => absurd h (by rw [← HPL.out]; exact hlt2)
          go_wp2
          refine wp_region_ext_lit (by kernel_rfl) (by kernel_rfl) ?_
          try dsimp only [List.append]
          repeat (go_big_quiet_step (fail))
          refine wpQuiet_nil ?_
          rintro w5 ⟨⟨_, h5⟩, rfl⟩
          try dsimp only
          clear hd1 hd2
          have hE2' := hE2.trans h5
          clear hsP hEor hE0r hE2
          obtain ⟨wr, rfl⟩ : ∃ W : World, W = w5 := ⟨_, rfl⟩
          have hE2 := hE2'
          have hEor := hEo.trans hE2
          have hsP := (ho.ext hE2).sl
          have HIS : Hid (List.Perm (P.take k ++ [q] ++ P.drop k) (List.range (q + 1)) ∧ (P.take k ++ [q] ++ P.drop k).Pairwise (leI (es.map Ent.p))) := ins_sorted HPM.out HPW.out HC.out HAT.out
          obtain ⟨P2, hP2⟩ : ∃ P2, P2 = P.take k ++ [q] ++ P.drop k := ⟨_, rfl⟩
          have HP2 := Lib.hid hP2
          rw [← hP2] at HIS
          clear hP2 HC HAT
          have hsl := hsP.take_ (i := k) (by omega)
          have hsr := hsP.cut (i := k) (by omega) hcap
          obtain ⟨hci1, hci2, -⟩ := (cut_runC einfo_int (A := A) (m := m) (c := c))
          have q3 : ∀ W, (Instr.sliceAt 63 (.slice (A) m c) none (some (.int .i64 (k : Int))) none).run Tryz.prog W = .ok (.slice (A) k c) W := fun W => (hci2 W .i64 k (by omega)).1
          have q4 : ∀ W, (Instr.slice 63 (.slice (A) m c) none (some (.int .i64 (k : Int))) none).run Tryz.prog W = .ok (.slice (A) k c) W := fun W => (hci2 W .i64 k (by omega)).2
          have q1 : ∀ W, (Instr.sliceAt 63 (.slice (A) m c) (some (.int .i64 (k : Int))) none none).run Tryz.prog W = .ok (.slice (cutA (A) c 1 k) (m - k) (c - k)) W := fun W => by have := (hci1 W .i64 k (by omega) hcap).1; simpa using this
          have q2 : ∀ W, (Instr.slice 63 (.slice (A) m c) (some (.int .i64 (k : Int))) none none).run Tryz.prog W = .ok (.slice (cutA (A) c 1 k) (m - k) (c - k)) W := fun W => by have := (hci1 W .i64 k (by omega) hcap).2; simpa using this
          clear hci1 hci2
          have i6 : (k : Int) ≤ (m : Int) := by omega
          have hoA : OsC natF 3 1 (wr.alloc (.cells #[] 3)).drew wr.heap.size (some ⟨wr.heap.size, 0, none⟩) 0 0 [] := (OsC.new0 (cs := natF) (e := 3) (k := 1) wr wr.heap.size (Nat.le_refl _) natF_len natF_cell).ext (Ext.refl _).drew
          have hnA : ∀ W : World, SlC natF 1 (W.alloc (Obj.cells #[.int .i64 (q : Int)] 3)) (some ⟨W.heap.size, 0, none⟩) 1 [q] := fun W => SlC.new_ (cs := natF) W [q] natF_len (by simp) _ rfl (0, 0) 1 rfl 3
          have hoB : OsC natF 3 1 ((wr.alloc (.cells #[] 3)).alloc (Obj.cells #[.int .i64 (q : Int)] 3)).drew wr.heap.size (some ⟨wr.heap.size, 0, none⟩) 0 0 [] := (OsC.new0 (cs := natF) (e := 3) (k := 1) wr wr.heap.size (Nat.le_refl _) natF_len natF_cell).ext ((Ext.refl _).alloc _).drew
          have hoC : OsC natF 3 1 ((wr.alloc (Obj.cells #[.int .i64 (q : Int)] 3)).alloc (.cells #[] 3)).drew wr.heap.size (some ⟨wr.heap.size + 1, 0, none⟩) 0 0 [] := by
            have h9 := (OsC.new0 (cs := natF) (e := 3) (k := 1) (wr.alloc (Obj.cells #[.int .i64 (q : Int)] 3)) wr.heap.size (by simp) natF_len natF_cell).ext (Ext.refl _).drew
            simpa using h9
          have hnB : SlC natF 1 ((wr.alloc (.cells #[] 3)).alloc (Obj.cells #[.int .i64 (q : Int)] 3)).drew (some ⟨wr.heap.size + 1, 0, none⟩) 1 [q] := by
            have h9 := (hnA (wr.alloc (.cells #[] 3))).ext (Ext.refl _).drew
            simpa using h9
          have hnC : SlC natF 1 ((wr.alloc (Obj.cells #[.int .i64 (q : Int)] 3)).alloc (.cells #[] 3)).drew (some ⟨wr.heap.size, 0, none⟩) 1 [q] := (hnA wr).ext ((Ext.refl _).alloc _).drew
          go_wp2
          first
          | (go_region_law (first
              | (refine step_appC einfo_int rfl _ _ rfl ho3 rfl (hsr.ext hE03) rfl (by have := ho3.len; simp at this; omega) hE03.size_le ?_; intro A4 m4 c4 w4 ho4 hg4 hat4)
              | (refine step_appC einfo_int rfl _ _ rfl ho2 rfl hn2 rfl (by have := ho2.len; simp at this; omega) hE02.size_le ?_; intro A3 m3 c3 w3 ho3 hg3 hat3; have hE03 := hE02.grown hg3 ho2.ge)
              | (refine step_appC einfo_int rfl _ _ rfl (ho2.ext ((Ext.refl w2).alloc _)) rfl (hnA w2) rfl (by have := ho2.len; simp at this; omega) (hE02.alloc _).size_le ?_; intro A3 m3 c3 w3 ho3 hg3 hat3; have hE03 := (hE02.alloc _).grown hg3 ho2.ge)
              | (refine step_appC einfo_int rfl _ _ rfl hoA rfl (hsl.ext ((Ext.refl wr).alloc _).drew) rfl (by omega) (by simp <;> omega) ?_; intro A2 m2 c2 w2 ho2 hg2 hat2; have hE02 : Ext wr w2 := ((Ext.refl wr).alloc _).drew.grown hg2 (fun j hj => by simp [ob] at hj; omega))
              | (refine step_appC einfo_int rfl _ _ rfl hoB rfl (hsl.ext (((Ext.refl wr).alloc _).alloc _).drew) rfl (by omega) (by simp <;> omega) ?_; intro A2 m2 c2 w2 ho2 hg2 hat2; have hE02 : Ext wr w2 := (((Ext.refl wr).alloc _).alloc _).drew.grown hg2 (fun j hj => by simp [ob] at hj; omega); have hn2 := hnB.kept hg2 (.inr (by simp [ob])))
              | (refine step_appC einfo_int rfl _ _ rfl hoC rfl (hsl.ext (((Ext.refl wr).alloc _).alloc _).drew) rfl (by omega) (by simp <;> omega) ?_; intro A2 m2 c2 w2 ho2 hg2 hat2; have hE02 : Ext wr w2 := (((Ext.refl wr).alloc _).alloc _).drew.grown hg2 (fun j hj => by simp [ob] at hj; omega); have hn2 := hnC.kept hg2 (.inr (by simp [ob])))
              | fail))
          | fail
          all_goals
            have hE04 := hE03.grown hg4 ho3.ge
            have hEW4 := hEor.trans hE04
            have ho4' : OsC natF 3 1 w4 W0.heap.size A4 m4 c4 P2 := by rw [HP2.out]; simpa using ho4.mono (Nat.le_trans hEo.size_le hE2.size_le)
            have HM4 : Hid (m4 = q + 1) := by show _ = _; rw [ho4'.len, HIS.out.1.length_eq, List.length_range]
            have HS1 := Lib.hid HIS.out.1
            have HS2 := Lib.hid HIS.out.2
            go_wp2
            go_roundw
            case rel => exact ⟨q + 1, A4, m4, c4, P2, by omega, by go_num, rfl, ho4', HM4, HS1, HS2, hEW4⟩
            case measure => simp [intOf]; omega
    · have hi1 : ¬ (q : Int) < (em : Int) := by omega
      have HF : Hid (P = sortE (es.map Ent.p)) := by
        have hqm : q = em := by omega
        have h9 := HPM.out
        rw [hqm, HL.out] at h9
        exact sortE_uniq HD.out (by show List.Perm P (List.range (es.map Ent.p).length); rw [List.length_map]; exact h9) HPW.out
      go_wp2
      go_ret
      exact ⟨⟨A, m, ⟨c, rfl⟩, by show SlC natF 1 _ A m (sortE (es.map Ent.p)); rw [← HF.out]; exact ho.sl, fun k hk => Nat.le_trans hE0.size_le (ho.ge k hk)⟩, hE0o⟩
end
end Go.Proofs.YtngpajaghadhdaaGreatDoor
