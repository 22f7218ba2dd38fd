/- The program's extract: the iterator over the calls in a text. -/
import Derived.Test.YtgnchicipmomlaaGreatDoorPK34
import Derived.Test.YtgnchicipmomlaaGreatDoorPK35
import Derived.RangeFuncBox
import Derived.RangeFuncLeaves
import Derived.RangeFuncWrites
import Derived.TacticsInMore
import Derived.Test.YtgnchicipmomlaaGreatDoorPK27
import Derived.Test.YtgnchicipmomlaaGreatDoorPK20
namespace Go.Proofs.YtgnchicipmomlaaGreatDoor
open Go.RowKit Go.Maps
set_option maxRecDepth 100000
attribute [local go_sem] ext_refl_t ext_alloc_t ext_drew_t ext_drewN_t ext_alloc2_t ext_alloc3_t ext_alloc4_t ext_alloc5_t ext_alloc6_t ext_alloc7_t ext_alloc8_t ext_alloc1d_t ext_alloc2d_t ext_alloc3d_t ext_alloc4d_t
attribute [local go_sem] Oper.semAt_some
/-- A call that was found. -/
structure Occ where
  call : Int
  off : Nat
  id : ByteArray
  src : ByteArray
  com : ByteArray
def occV (x : Occ) : Value := .agg #[.int .i64 x.call, .int .i64 (x.off : Int), .string x.id, .string x.src, .string x.com]
def OccG (n : Nat) (x : Occ) : Prop := x.off ≤ n ∧ x.id.size ≤ 1000000 ∧ x.src.size ≤ 1000000 ∧ x.com.size ≤ 1000
/-- What a round keeps: all below B, and the boxes gt and gc. -/
structure KpO (B gt gc : Nat) (W W' : World) : Prop where
  below : Below B W W'
  bt : ∀ t cs, Blk W gt t cs → Blk W' gt t cs
  bc : ∀ t cs, Blk W gc t cs → Blk W' gc t cs
theorem KpO.trans {B gt gc : Nat} {W W1 W2 : World} (h : KpO B gt gc W W1) (k : KpO B gt gc W1 W2) : KpO B gt gc W W2 :=
  ⟨h.below.trans k.below, fun t cs e => k.bt t cs (h.bt t cs e), fun t cs e => k.bc t cs (h.bc t cs e)⟩
/-- The walk's state between two rounds. -/
structure OcS (w1 : World) (gt gc : Nat) (A : Option Addr) (m c : Nat) (C : Option Addr) (m2 c2 : Nat) (wr : World) : Prop where
  ext : Ext w1 wr
  bt : Blk wr gt 121 #[.slice A m c]
  bc : Blk wr gc 86 #[.slice C m2 c2]
section
variable {w1 wr w2 : World} {gt gc : Nat} {A C : Option Addr} {m c m2 c2 : Nat}
theorem OcS.extn (h : OcS w1 gt gc A m c C m2 c2 wr) (hE : Ext wr w2) : OcS w1 gt gc A m c C m2 c2 w2 := ⟨h.ext.trans hE, h.bt.below hE h.bt.lt, h.bc.below hE h.bc.lt⟩
theorem OcS.kp (h : OcS w1 gt gc A m c C m2 c2 wr) (hk : KpO w1.heap.size gt gc wr w2) : OcS w1 gt gc A m c C m2 c2 w2 := ⟨Below.trans h.ext hk.below, hk.bt _ _ h.bt, hk.bc _ _ h.bc⟩
end
/-- A found call in its box, in memory newer than w4. -/
structure FdS (w4 : World) (g9 : Nat) (cs : Array Value) (wr : World) : Prop where
  ext : Ext w4 wr
  ge : w4.heap.size ≤ g9
  blk : Blk wr g9 128 cs
section
variable {w4 wr w2 : World} {g9 : Nat} {cs : Array Value}
theorem FdS.extn (h : FdS w4 g9 cs wr) (hE : Ext wr w2) : FdS w4 g9 cs w2 := ⟨h.ext.trans hE, h.ge, h.blk.below hE h.blk.lt⟩
theorem FdS.set_ (h : FdS w4 g9 cs wr) (i : Nat) (u : Value) : FdS w4 g9 (cs.setIfInBounds i u) (wr.setCell ⟨g9, i, none⟩ u) := ⟨h.ext.set_ (p := ⟨g9, i, none⟩) h.ge u, h.ge, h.blk.set_ i u⟩
end
theorem info_fnd : (Tryz.prog.info? 128).map (·.size) = some 5 := by kernel_rfl
theorem RowsS.ext {w w' : World} {rows : List SlH} (h : RowsS w rows) (hE : Ext w w') : RowsS w' rows := fun r hr => by
  obtain ⟨L, h1, h2⟩ := h r hr
  exact ⟨L, h1.ext hE, h2⟩
section
variable {w w1 : World}
set_option maxHeartbeats 12800000 in
theorem occ1_in (n : Nat) (hn : 1 ≤ n) {h hc : SlH} {l : List Tok} {calls : List Cll} {gt gc nb : Nat} (hs : ToksW nb w1 h l) (hl : l.length ≤ 1000) (hnb : nb ≤ 1000) (hcs' : CllsW w1 hc calls) (q : Nat)
    (J Jx : List {x : Occ // OccG nb x} → World → Prop) (W : World) (hS : OcS w1 gt gc h.A h.m h.c hc.A hc.m hc.c W) (hJ : AbidesFrom W.heap.size J)
    (hY : ∀ pre x W1, J pre W1 → pre.length < 1000 → YieldAt Fence.wide (n - 1) Tryz.prog q #[occV x.1] W1 fun e W' =>
      (e = .returned (.bool true) ∧ J (pre ++ [x]) W' ∧ KpO w1.heap.size gt gc W1 W') ∨ (e = .returned (.bool false) ∧ Jx (pre ++ [x]) W')) (h0 : J [] W) :
    CallsIn Fence.wide n Tryz.prog 79 #[.func (.yield q) #[] #[], .pointer (some ⟨gt, 0, none⟩), .pointer (some ⟨gc, 0, none⟩)] W fun e W' => (∃ v, e = .returned v) ∧
      ((∃ xs, xs.length ≤ 1000 ∧ J xs W') ∨ (∃ pre, pre.length ≤ 1000 ∧ Jx pre W')) := by
  obtain ⟨A, m, c⟩ := h
  obtain ⟨C, m2, c2⟩ := hc
  have HL := Lib.hid hs.sl.len
  have HL2 := Lib.hid hcs'.sl.len
  have hle := hs.sl.le
  have hle2 := hcs'.sl.le
  have HTS : Hid (ToksS w1 ⟨A, m, c⟩ l) := ⟨HW.turn hs fun x hx hg => ⟨hg.1, by have := hg.2; omega⟩, hl⟩
  have HG := Lib.hid hs.good
  have HH := Lib.hid hs.sl
  have HHC := Lib.hid hcs'.sl
  dsimp only at HL HL2 hle hle2 HH HHC hS ⊢
  have hm1000 : m ≤ 1000 := by rw [HL.out]; exact hl
  have HJ : Hid (∀ s X Y, J s X → Ext X Y → J s Y) := fun s X Y hx hE => hJ s X Y none hx (hE.grownBy none) (fun r e => by cases e)
  have HY := Lib.hid hY
  have HS0 := Lib.hid hS
  clear hs hcs' hY hJ hl
  refine callsIn_wide.2 ?_
  have kt0 := hS.bt.cell 0
  simp at kt0
  clear hS
  go_enter Tryz.func79, Tryz.ntmps79
  go_wp2
  go_loopw [14] (fun i wr => ∃ (k : Nat) (pre : List {x : Occ // OccG nb x}), k ≤ m ∧ pre.length ≤ k ∧ i = .int .i64 k ∧ Hid (J pre wr) ∧ Hid (OcS w1 gt gc A m c C m2 c2 wr)) (fun i _ => m - (intOf i).toNat)
  case atStart => exact ⟨0, [], Nat.zero_le _, Nat.le_refl _, rfl, h0, HS0⟩
  case round =>
    obtain ⟨k, pre, hk, hpre, rfl, HJk, HS⟩ := hrel
    by_cases hlt : k < m
    ·
      obtain ⟨b, off, e0, hbl, hcs⟩ := (HH.out.ext HS.out.ext).at_ hlt (by omega)
      try dsimp only at e0
      have hlt1 : k < (l).length := by rw [← HL.out]; exact hlt
      have HTG := Lib.hid (HG.out _ (List.getElem_mem hlt1))
      obtain ⟨⟨kd, tx, an⟩, hyq⟩ : ∃ y, y = (l)[k] := ⟨_, rfl⟩
      have y0 := hcs k hlt1 0 (by omega)
      have y1 := hcs k hlt1 1 (by omega)
      have y2 := hcs k hlt1 2 (by omega)
      rw [← hyq] at HTG
      simp only [← hyq, tokC, List.getElem_cons_zero, List.getElem_cons_succ, Nat.add_zero, ← Nat.add_assoc] at y0 y1 y2
      clear hcs hyq
      subst e0
      have hi1 : (k : Int) < (m : Int) := by omega
      have hbk := Blk.new wr 161 #[.string kd, .string tx, .int .i64 (an : Int)]
      have hEx : Ext wr (wr.alloc (Obj.cells #[.string kd, .string tx, .int .i64 (an : Int)] 161)) := (Ext.refl _).alloc _
      have HS1 := Lib.hid (HS.out.extn hEx)
      have ct := HS1.out.bt.cell 0
      have cc := HS1.out.bc.cell 0
      simp at ct cc
      go_wp2_with (first
        | (go_at_call 80; refine Hid.out ?_))
      refine Hid.mk_ ((idxCall_any (HHC.out.ext HS1.out.ext) hbk).mono ?_)
      rintro e w2 ⟨⟨z, rfl, hz1, hz2⟩, hE2⟩
      have hEk2 := hEx.trans hE2
      have HS2 := Lib.hid (HS1.out.extn hE2)
      have hbk2 := hbk.below hE2 hbk.lt
      obtain ⟨g5, hg5⟩ : ∃ g5, g5 = wr.heap.size := ⟨_, rfl⟩
      rw [← hg5] at hbk2 ⊢
      clear hbk hg5 ct cc
      go_wp2
      go_loopw [7] (fun v wr2 => ∃ p : Nat, k + 1 ≤ p ∧ p ≤ m ∧ v = .int .i64 p ∧ Ext w2 wr2) (fun v _ => m - (intOf v).toNat)
      case atStart => exact ⟨k + 1, Nat.le_refl _, by omega, by go_num, Ext.refl _⟩
      case round =>
        obtain ⟨p, hkp, hpm, rfl, hE3⟩ := hrel
        have hEk3 := hEk2.trans hE3
        have HS3 := Lib.hid (HS2.out.extn hE3)
        have ct3 := HS3.out.bt.cell 0
        have cc3 := HS3.out.bc.cell 0
        simp at ct3 cc3
        by_cases hpl : p < m
        · obtain ⟨bp, offp, e0, hblp, hcsp⟩ := (HH.out.ext HS3.out.ext).at_ hpl (by omega)
          have hlt2 : p < l.length := by rw [← HL.out]; exact hpl
          simp only [Option.some.injEq, Addr.mk.injEq, and_true] at e0
          obtain ⟨rfl, rfl⟩ := e0
          obtain ⟨⟨kd2, tx2, an2⟩, hyq⟩ : ∃ y, y = l[p] := ⟨_, rfl⟩
          have z0 := hcsp p hlt2 0 (by omega)
          have z1 := hcsp p hlt2 1 (by omega)
          have z2 := hcsp p hlt2 2 (by omega)
          simp only [← hyq, tokC, List.getElem_cons_zero, List.getElem_cons_succ, Nat.add_zero, ← Nat.add_assoc] at z0 z1 z2
          clear hcsp hyq
          have hi2 : (p : Int) < (m : Int) := by omega
          have hi3 : ((p : Int) == (m : Int)) = false := by simp; omega
          go_wp2_with (first
            | (go_at_call 82; refine Hid.out ?_))
          refine Hid.mk_ ((blank_any ⟨kd2, tx2, an2⟩).mono ?_)
          rintro e w4 ⟨⟨r, rfl, -⟩, hE4⟩
          cases r with
          | true =>
            go_wp2
            all_goals first
              | (refine ⟨⟨p + 1, by omega, by omega, by go_num, hE3.trans hE4⟩, ?_⟩; first | (simp [intOf]; omega) | (simp [intOf]) | omega)
              | (go_roundw; (case rel => exact ⟨p + 1, by omega, by omega, by go_num, hE3.trans hE4⟩); (case measure => first | (simp [intOf]; omega) | (simp [intOf])))
          | false =>
            have Z0 := later hE4 z0
            have hEk := hEk3.trans hE4
            have HS4 := Lib.hid (HS3.out.extn hE4)
            have ct4 := HS4.out.bt.cell 0
            have cc4 := HS4.out.bc.cell 0
            simp at ct4 cc4
            clear z0 z1 z2 ct3 cc3
            by_cases hz0 : z < 0
            · go_wp2
              all_goals first
                | (refine ⟨⟨k + 1, pre, by omega, by omega, by go_num, HJ.out _ _ _ HJk (hEk.trans (Ext.refl _)), HS.out.extn (hEk.trans (Ext.refl _))⟩, ?_⟩; first | (simp [intOf]; omega) | (simp [intOf]) | omega)
                | (go_roundw; (case rel => exact ⟨k + 1, pre, by omega, by omega, by go_num, HJ.out _ _ _ HJk (hEk.trans (Ext.refl _)), HS.out.extn (hEk.trans (Ext.refl _))⟩); (case measure => first | (simp [intOf]; omega) | (simp [intOf])))
            · go_wp2_with (first
                | (go_at_call 83; refine Hid.out ?_))
              all_goals first
                | (refine ⟨⟨k + 1, pre, by omega, by omega, by go_num, HJ.out _ _ _ HJk (hEk.trans (Ext.refl _)), HS.out.extn (hEk.trans (Ext.refl _))⟩, ?_⟩; first | (simp [intOf]; omega) | (simp [intOf]) | omega)
                | skip
              refine Hid.mk_ ((arguments_any (h := ⟨some ⟨b, off, none⟩, m, c⟩) ⟨HTS.out.1.ext HS4.out.ext, HTS.out.2⟩ p hpl).mono ?_)
              rintro e w5 ⟨hE5, ⟨HB, nB, cB⟩, rfl, rows, hrs, hrg⟩
              have HRS := Lib.hid hrs
              have HRG := Lib.hid hrg
              have HS5 := Lib.hid (HS4.out.extn hE5)
              have hEk5 := hEk.trans hE5
              obtain ⟨zq, rfl⟩ : ∃ zq : Nat, z = zq := ⟨z.toNat, by omega⟩
              have hbk5 := hbk2.below (hE3.trans (hE4.trans hE5)) hbk2.lt
              clear hrs hrg ct4 cc4 Z0
              have hEd : Ext w5 w5.drew := (Ext.refl _).drew
              have hss : ∀ W', Ext w5 W' → W'.cell? ⟨g5, 2, none⟩ = some (.int .i64 (an : Int)) ∧ W'.cell? ⟨gt, 0, none⟩ = some (.slice (some ⟨b, off, none⟩) m c) := fun W' hk => ⟨(hbk5.below hk hbk5.lt).cell 2, (HS5.out.extn hk).bt.cell 0⟩
              have HSS := Lib.hid hss
              clear hss
              go_upto_region 9 with fail
              generalize ha0 : Act.mk _ _ = a0
              refine Code.wp_mono (Q := fun e a w => e = .normal ∧ ∃ (com : ByteArray) (g9 : Nat) (em : ByteArray), em.size ≤ 1000000 ∧ com.size ≤ 1000 ∧ FdS w5 g9 #[.int .i64 (zq : Int), .int .i64 (an : Int), .string em, .string em, .string com] w ∧ a = (((((((a0.put (some 56) (.int .i64 (zq : Int))).put (some 57) (.pointer (some ⟨g5, 2, none⟩))).put (some 58) (.int .i64 (an : Int))).put (some 59) (.slice (some ⟨b, off, none⟩) m c)).put (some 60) (.int .i64 (k : Int))).put (some 61) (.string com)).put (some 62) (.agg #[.int .i64 (zq : Int), .int .i64 (an : Int), .string em, .string em, .string com])).put (some 9) (.pointer (some ⟨g9, 0, none⟩))) ?_ ?_
              rotate_left
              · rw [← ha0]
                refine wp_region_held_drew (S := fun w' => Ext w5 w') (by kernel_rfl) hEd ?_
                intro hHeld
                refine wpAnyH_takeD (i := 0) (d := 56) (v := ?_) rfl rfl (by kernel_rfl) (by kernel_rfl) (by kernel_rfl) (fun _ _ _ h => Exit.noConfusion h.1) (Or.inl ⟨by rfl, ?_⟩) hHeld ?_
                rotate_left
                · rintro w hS4
                  obtain ⟨c0, c1⟩ := HSS.out w hS4
                  go_simp
                  try with_reducible rfl
                simp only [Act.put, List.setIfInBounds_toArray, List.set_cons_zero, List.set_cons_succ]
                refine wpAnyH_takeD (i := 1) (d := 57) (v := ?_) rfl rfl (by kernel_rfl) (by kernel_rfl) (by kernel_rfl) (fun _ _ _ h => Exit.noConfusion h.1) (Or.inl ⟨by rfl, ?_⟩) hHeld ?_
                rotate_left
                · rintro w hS4
                  obtain ⟨c0, c1⟩ := HSS.out w hS4
                  go_simp
                  try with_reducible rfl
                simp only [Act.put, List.setIfInBounds_toArray, List.set_cons_zero, List.set_cons_succ]
                refine wpAnyH_takeD (i := 2) (d := 58) (v := ?_) rfl rfl (by kernel_rfl) (by kernel_rfl) (by kernel_rfl) (fun _ _ _ h => Exit.noConfusion h.1) (Or.inl ⟨by rfl, ?_⟩) hHeld ?_
                rotate_left
                · rintro w hS4
                  obtain ⟨c0, c1⟩ := HSS.out w hS4
                  go_simp
                  try with_reducible rfl
                simp only [Act.put, List.setIfInBounds_toArray, List.set_cons_zero, List.set_cons_succ]
                refine wpAnyH_takeD (i := 3) (d := 59) (v := ?_) rfl rfl (by kernel_rfl) (by kernel_rfl) (by kernel_rfl) (fun _ _ _ h => Exit.noConfusion h.1) (Or.inl ⟨by rfl, ?_⟩) hHeld ?_
                rotate_left
                · rintro w hS4
                  obtain ⟨c0, c1⟩ := HSS.out w hS4
                  go_simp
                  try with_reducible rfl
                simp only [Act.put, List.setIfInBounds_toArray, List.set_cons_zero, List.set_cons_succ]
                refine wpAnyH_takeD (i := 4) (d := 60) (v := ?_) rfl rfl (by kernel_rfl) (by kernel_rfl) (by kernel_rfl) (fun _ _ _ h => Exit.noConfusion h.1) (Or.inl ⟨by rfl, ?_⟩) hHeld ?_
                rotate_left
                · rintro w hS4
                  obtain ⟨c0, c1⟩ := HSS.out w hS4
                  go_simp
                  try with_reducible rfl
                simp only [Act.put, List.setIfInBounds_toArray, List.set_cons_zero, List.set_cons_succ]
                refine wpAnyH_ready (rs := [5, 7]) (by kernel_rfl) (by simp) ?_
                refine AllReadyH.cons rfl (fun K hK => ?_) (AllReadyH.cons rfl (fun K hK => ?_) (AllReadyH.nil))
                · go_simp
                  go_at_call 84
                  refine (comment_any (h := ⟨some ⟨b, off, none⟩, m, c⟩) ⟨HTS.out.1.ext (HS5.out.ext.trans hEd), HTS.out.2⟩ k (show k ≤ m by omega)).mono ?_
                  rintro e v1 ⟨⟨com, rfl, hcom⟩, hEv⟩
                  have hEv1 := hEd.trans hEv
                  refine hK.out _ _ hEv1 (fun _ => ?_)
                  clear hK K hHeld
                  have hHeld : Ext w5 v1 := hEv1
                  refine wpAnyH_takeD (i := 6) (d := 62) (v := ?_) rfl rfl (by kernel_rfl) (by kernel_rfl) (by kernel_rfl) (fun _ _ _ h => Exit.noConfusion h.1) (Or.inl ⟨by rfl, ?_⟩) hHeld ?_
                  rotate_left
                  · rintro w hS4
                    obtain ⟨c0, c1⟩ := HSS.out w hS4
                    go_simp
                    try with_reducible rfl
                  simp only [Act.put, List.setIfInBounds_toArray, List.set_cons_zero, List.set_cons_succ]
                  refine wpAnyH_ready (rs := [7]) (by kernel_rfl) (by simp) ?_
                  refine AllReadyH.cons rfl (fun K hK => ?_) (AllReadyH.nil)
                  go_simp
                  refine hK.out _ _ (hEv1.alloc _) (fun _ => ?_)
                  clear hK K hHeld
                  have hby := Blk.new v1 128 #[.int .i64 0, .int .i64 0, .string ⟨#[]⟩, .string ⟨#[]⟩, .string ⟨#[]⟩]
                  have hge : w5.heap.size ≤ v1.heap.size := hEv1.size_le
                  have hSt := (hEv1.alloc (Obj.cells #[.int .i64 0, .int .i64 0, .string ⟨#[]⟩, .string ⟨#[]⟩, .string ⟨#[]⟩] 128)).grown (grown_setRow _ v1.heap.size #[.int .i64 (zq : Int), .int .i64 (an : Int), .string ⟨#[]⟩, .string ⟨#[]⟩, .string com]) (fun k hk => by injection hk with hk; rw [← hk]; exact hge)
                  refine wpAnyH_storeR (i := 8) (g := v1.heap.size) (cells := #[.int .i64 (zq : Int), .int .i64 (an : Int), .string ⟨#[]⟩, .string ⟨#[]⟩, .string com]) (by kernel_rfl) rfl rfl rfl rfl rfl rfl hby info_fnd rfl (by simp [Value.oneCell']) hSt ?_
                  refine wpAnyH_done (by kernel_rfl) ?_ _
                  exact ⟨rfl, com, v1.heap.size, ⟨#[]⟩, by decide, hcom, ⟨hSt, hge, setRow_heap' hby _⟩, by first | rfl | simp only [Act.put, List.setIfInBounds_toArray, List.set_cons_zero, List.set_cons_succ]⟩
                · go_simp
                  have hEa : Ext w5 (w5.drew.alloc (Obj.cells #[.int .i64 0, .int .i64 0, .string ⟨#[]⟩, .string ⟨#[]⟩, .string ⟨#[]⟩] 128)) := hEd.alloc _
                  refine hK.out _ _ hEa (fun _ => ?_)
                  clear hK K hHeld
                  refine wpAnyH_ready (rs := [5]) (by kernel_rfl) (by simp) ?_
                  refine AllReadyH.cons rfl (fun K hK => ?_) (AllReadyH.nil)
                  go_simp
                  go_at_call 84
                  refine (comment_any (h := ⟨some ⟨b, off, none⟩, m, c⟩) ⟨HTS.out.1.ext (HS5.out.ext.trans hEa), HTS.out.2⟩ k (show k ≤ m by omega)).mono ?_
                  rintro e v1 ⟨⟨com, rfl, hcom⟩, hEv⟩
                  have hEv1 := hEa.trans hEv
                  refine hK.out _ _ hEv1 (fun _ => ?_)
                  clear hK K
                  have hHeld : Ext w5 v1 := hEv1
                  refine wpAnyH_takeD (i := 6) (d := 62) (v := ?_) rfl rfl (by kernel_rfl) (by kernel_rfl) (by kernel_rfl) (fun _ _ _ h => Exit.noConfusion h.1) (Or.inl ⟨by rfl, ?_⟩) hHeld ?_
                  rotate_left
                  · rintro w hS4
                    obtain ⟨c0, c1⟩ := HSS.out w hS4
                    go_simp
                    try with_reducible rfl
                  simp only [Act.put, List.setIfInBounds_toArray, List.set_cons_zero, List.set_cons_succ]
                  have hby0 := Blk.new w5.drew 128 #[.int .i64 0, .int .i64 0, .string ⟨#[]⟩, .string ⟨#[]⟩, .string ⟨#[]⟩]
                  have hby := hby0.below hEv hby0.lt
                  have hSt := hEv1.grown (grown_setRow v1 w5.drew.heap.size #[.int .i64 (zq : Int), .int .i64 (an : Int), .string ⟨#[]⟩, .string ⟨#[]⟩, .string com]) (fun k hk => by injection hk with hk; rw [← hk]; exact Nat.le_refl _)
                  refine wpAnyH_storeR (i := 8) (g := w5.drew.heap.size) (cells := #[.int .i64 (zq : Int), .int .i64 (an : Int), .string ⟨#[]⟩, .string ⟨#[]⟩, .string com]) (by kernel_rfl) rfl rfl rfl rfl rfl rfl hby info_fnd rfl (by simp [Value.oneCell']) hSt ?_
                  refine wpAnyH_done (by kernel_rfl) ?_ _
                  exact ⟨rfl, com, w5.drew.heap.size, ⟨#[]⟩, by decide, hcom, ⟨hSt, Nat.le_refl _, setRow_heap' hby _⟩, by first | rfl | simp only [Act.put, List.setIfInBounds_toArray, List.set_cons_zero, List.set_cons_succ]⟩
              · rintro _ _ w9 ⟨rfl, com, g9, em, he0, hcom, hF, rfl⟩
                rw [← ha0]
                simp only [Act.put, List.setIfInBounds_toArray, List.set_cons_zero, List.set_cons_succ]
                clear ha0 HSS hEd hbk5 hbk2
                obtain ⟨bc, offc, e0, hblc, hcsc⟩ := (HHC.out.ext HS5.out.ext).at_ (i := zq) (by omega) (by omega)
                subst e0
                have hlt3 : zq < calls.length := by rw [← HL2.out]; omega
                obtain ⟨x, hx, -, q1, q2⟩ := cllAt hcsc hlt3
                obtain ⟨nm, id, sr⟩ := x
                dsimp only at q1 q2
                have Q1 := laters q1
                have Q2 := laters q2
                have ct := HS5.out.bt.cell 0
                have cc := HS5.out.bc.cell 0
                simp at ct cc
                have CT := laters ct
                have CC := laters cc
                have hi4 : (zq : Int) < (m2 : Int) := by omega
                have hE9 := hF.ext
                have HF := Lib.hid hF
                clear hcsc q1 q2 ct cc hx hF
                by_cases hid : 0 ≤ id
                ·
                  go_wp2_with (first
                    | (go_at_call 85; refine Hid.out ?_))
                  refine Hid.mk_ ((valueX_any (h := ⟨HB, nB, cB⟩) (HRS.out.ext (HF).out.ext) (RowsS.ext HRG.out (HF).out.ext) id hid).mono ?_)
                  rintro e w10 ⟨⟨t2, b10, rfl, ht2⟩, hEw10⟩
                  have HF10 := Lib.hid ((HF).out.extn hEw10)
                  have f10 := HF10.out.blk.frozen 2
                  have k10 := HF10.out.blk.cell 2
                  simp at k10
                  have hE10' := HF10.out.ext
                  go_upto_region 13 with fail
                  have HF11 : Hid (FdS w5 g9 #[.int .i64 (zq : Int), .int .i64 (an : Int), .string t2, .string em, .string com] ((w10).setCell ⟨g9, 2, none⟩ (.string t2))) := HF10.out.set_ 2 (.string t2)
                  obtain ⟨w11, hww11⟩ : ∃ w11, w11 = (w10).setCell ⟨g9, 2, none⟩ (.string t2) := ⟨_, rfl⟩
                  rw [← hww11] at HF11 ⊢
                  clear hww11 f10 k10 hE10' HF10
                  have hEw11 := (HF11).out.ext
                  have hid' : ¬ id < 0 := by omega
                  by_cases hsr : 0 ≤ sr
                  ·
                    go_wp2_with (first
                      | (go_at_call 85; refine Hid.out ?_))
                    refine Hid.mk_ ((valueX_any (h := ⟨HB, nB, cB⟩) (HRS.out.ext (HF11).out.ext) (RowsS.ext HRG.out (HF11).out.ext) sr hsr).mono ?_)
                    rintro e w12 ⟨⟨t3, b11, rfl, ht3⟩, hEw12⟩
                    have HF10 := Lib.hid ((HF11).out.extn hEw12)
                    have f10 := HF10.out.blk.frozen 3
                    have k10 := HF10.out.blk.cell 3
                    simp at k10
                    have hE10' := HF10.out.ext
                    go_upto_region 15 with fail
                    have HF13 : Hid (FdS w5 g9 #[.int .i64 (zq : Int), .int .i64 (an : Int), .string t2, .string t3, .string com] ((w12).setCell ⟨g9, 3, none⟩ (.string t3))) := HF10.out.set_ 3 (.string t3)
                    obtain ⟨w13, hww13⟩ : ∃ w13, w13 = (w12).setCell ⟨g9, 3, none⟩ (.string t3) := ⟨_, rfl⟩
                    rw [← hww13] at HF13 ⊢
                    clear hww13 f10 k10 hE10' HF10
                    have hEw13 := (HF13).out.ext
                    have hsr' : ¬ sr < 0 := by omega
                    have hEk := hEk5
                    cases b10 with
                    | false =>
                      go_wp2
                      all_goals first
                        | (refine ⟨⟨k + 1, pre, by omega, by omega, by go_num, HJ.out _ _ _ HJk (hEk.trans hEw13), HS.out.extn (hEk.trans hEw13)⟩, ?_⟩; first | (simp [intOf]; omega) | (simp [intOf]) | omega)
                        | (go_roundw; (case rel => exact ⟨k + 1, pre, by omega, by omega, by go_num, HJ.out _ _ _ HJk (hEk.trans hEw13), HS.out.extn (hEk.trans hEw13)⟩); (case measure => first | (simp [intOf]; omega) | (simp [intOf])))
                    | true =>
                      cases b11 with
                      | false =>
                        go_wp2
                        all_goals first
                          | (refine ⟨⟨k + 1, pre, by omega, by omega, by go_num, HJ.out _ _ _ HJk (hEk.trans hEw13), HS.out.extn (hEk.trans hEw13)⟩, ?_⟩; first | (simp [intOf]; omega) | (simp [intOf]) | omega)
                          | (go_roundw; (case rel => exact ⟨k + 1, pre, by omega, by omega, by go_num, HJ.out _ _ _ HJk (hEk.trans hEw13), HS.out.extn (hEk.trans hEw13)⟩); (case measure => first | (simp [intOf]; omega) | (simp [intOf])))
                      | true =>
                        go_upto_region 20 with fail
                        have k0 := (HF13).out.blk.cell 0
                        have k1 := (HF13).out.blk.cell 1
                        have k2 := (HF13).out.blk.cell 2
                        have k3 := (HF13).out.blk.cell 3
                        have k4 := (HF13).out.blk.cell 4
                        simp at k0 k1 k2 k3 k4
                        have HSW := Lib.hid (HS5.out.extn (HF13).out.ext)
                        obtain ⟨fn, tmps, assign, body, hy, hR⟩ := HY.out pre ⟨⟨(zq : Int), an, t2, t3, com⟩, ⟨by have := HTG.out.2; dsimp only at this ⊢; omega, ht2, ht3, hcom⟩⟩ w13 (HJ.out _ _ _ HJk (hEk5.trans (HF13).out.ext)) (by omega)
                        unfold occV at hy
                        dsimp only at hy
                        refine (wpIn_wide (n := n)).1 ?_
                        gi_wp2
                        refine hR.mono ?_
                        rintro e W3 (⟨rfl, hJ3, hk3⟩ | ⟨rfl, hJx3⟩)
                        · have HJ3 := Lib.hid hJ3
                          have HS3' := Lib.hid (HSW.out.kp hk3)
                          clear hJ3 hk3 hy
                          gi_wp2
                          go_wp2
                          all_goals first
                            | (refine ⟨⟨k + 1, _, by omega, ?_, by go_num, HJ3.out, HS3'.out⟩, ?_⟩; (rw [List.length_append]; simp; omega); first | (simp [intOf]; omega) | (simp [intOf]) | omega)
                            | (go_roundw; (case rel => refine ⟨k + 1, _, by omega, ?_, by go_num, HJ3.out, HS3'.out⟩; rw [List.length_append]; simp; omega); (case measure => first | (simp [intOf]; omega) | (simp [intOf])))
                        · gi_wp2
                          try go_wp2
                          refine bodyPost_ret (results_none rfl _ _ _) rfl ?_
                          refine ⟨⟨_, rfl⟩, .inr ⟨_, ?_, hJx3⟩⟩
                          rw [List.length_append]; simp; omega
                  · have hsr' : sr < 0 := by omega
                    have hEk := hEk5
                    cases b10 with
                    | false =>
                      go_wp2
                      all_goals first
                        | (refine ⟨⟨k + 1, pre, by omega, by omega, by go_num, HJ.out _ _ _ HJk (hEk.trans hEw11), HS.out.extn (hEk.trans hEw11)⟩, ?_⟩; first | (simp [intOf]; omega) | (simp [intOf]) | omega)
                        | (go_roundw; (case rel => exact ⟨k + 1, pre, by omega, by omega, by go_num, HJ.out _ _ _ HJk (hEk.trans hEw11), HS.out.extn (hEk.trans hEw11)⟩); (case measure => first | (simp [intOf]; omega) | (simp [intOf])))
                    | true =>
                      have c2 := (HF11).out.blk.cell 2
                      have c3 := (HF11).out.blk.cell 3
                      have f2 := (HF11).out.blk.frozen 3
                      simp at c2 c3
                      go_upto_region 20 with fail
                      have HF13 : Hid (FdS w5 g9 #[.int .i64 (zq : Int), .int .i64 (an : Int), .string t2, .string t2, .string com] ((w11).setCell ⟨g9, 3, none⟩ (.string t2))) := (HF11).out.set_ 3 (.string t2)
                      obtain ⟨w13, hww13⟩ : ∃ w13, w13 = (w11).setCell ⟨g9, 3, none⟩ (.string t2) := ⟨_, rfl⟩
                      rw [← hww13] at HF13 ⊢
                      clear hww13 c2 c3 f2
                      have hEw13 := (HF13).out.ext
                      have k0 := (HF13).out.blk.cell 0
                      have k1 := (HF13).out.blk.cell 1
                      have k2 := (HF13).out.blk.cell 2
                      have k3 := (HF13).out.blk.cell 3
                      have k4 := (HF13).out.blk.cell 4
                      simp at k0 k1 k2 k3 k4
                      have HSW := Lib.hid (HS5.out.extn (HF13).out.ext)
                      obtain ⟨fn, tmps, assign, body, hy, hR⟩ := HY.out pre ⟨⟨(zq : Int), an, t2, t2, com⟩, ⟨by have := HTG.out.2; dsimp only at this ⊢; omega, ht2, ht2, hcom⟩⟩ w13 (HJ.out _ _ _ HJk (hEk5.trans (HF13).out.ext)) (by omega)
                      unfold occV at hy
                      dsimp only at hy
                      refine (wpIn_wide (n := n)).1 ?_
                      gi_wp2
                      refine hR.mono ?_
                      rintro e W3 (⟨rfl, hJ3, hk3⟩ | ⟨rfl, hJx3⟩)
                      · have HJ3 := Lib.hid hJ3
                        have HS3' := Lib.hid (HSW.out.kp hk3)
                        clear hJ3 hk3 hy
                        gi_wp2
                        go_wp2
                        all_goals first
                          | (refine ⟨⟨k + 1, _, by omega, ?_, by go_num, HJ3.out, HS3'.out⟩, ?_⟩; (rw [List.length_append]; simp; omega); first | (simp [intOf]; omega) | (simp [intOf]) | omega)
                          | (go_roundw; (case rel => refine ⟨k + 1, _, by omega, ?_, by go_num, HJ3.out, HS3'.out⟩; rw [List.length_append]; simp; omega); (case measure => first | (simp [intOf]; omega) | (simp [intOf])))
                      · gi_wp2
                        try go_wp2
                        refine bodyPost_ret (results_none rfl _ _ _) rfl ?_
                        refine ⟨⟨_, rfl⟩, .inr ⟨_, ?_, hJx3⟩⟩
                        rw [List.length_append]; simp; omega
                · have hid' : id < 0 := by omega
                  by_cases hsr : 0 ≤ sr
                  ·
                    go_wp2_with (first
                      | (go_at_call 85; refine Hid.out ?_))
                    refine Hid.mk_ ((valueX_any (h := ⟨HB, nB, cB⟩) (HRS.out.ext (HF).out.ext) (RowsS.ext HRG.out (HF).out.ext) sr hsr).mono ?_)
                    rintro e w10 ⟨⟨t3, b11, rfl, ht3⟩, hEw10⟩
                    have HF10 := Lib.hid ((HF).out.extn hEw10)
                    have f10 := HF10.out.blk.frozen 3
                    have k10 := HF10.out.blk.cell 3
                    simp at k10
                    have hE10' := HF10.out.ext
                    go_upto_region 15 with fail
                    have HF11 : Hid (FdS w5 g9 #[.int .i64 (zq : Int), .int .i64 (an : Int), .string em, .string t3, .string com] ((w10).setCell ⟨g9, 3, none⟩ (.string t3))) := HF10.out.set_ 3 (.string t3)
                    obtain ⟨w11, hww11⟩ : ∃ w11, w11 = (w10).setCell ⟨g9, 3, none⟩ (.string t3) := ⟨_, rfl⟩
                    rw [← hww11] at HF11 ⊢
                    clear hww11 f10 k10 hE10' HF10
                    have hEw11 := (HF11).out.ext
                    have hsr' : ¬ sr < 0 := by omega
                    have hEk := hEk5
                    cases b11 with
                    | false =>
                      go_wp2
                      all_goals first
                        | (refine ⟨⟨k + 1, pre, by omega, by omega, by go_num, HJ.out _ _ _ HJk (hEk.trans hEw11), HS.out.extn (hEk.trans hEw11)⟩, ?_⟩; first | (simp [intOf]; omega) | (simp [intOf]) | omega)
                        | (go_roundw; (case rel => exact ⟨k + 1, pre, by omega, by omega, by go_num, HJ.out _ _ _ HJk (hEk.trans hEw11), HS.out.extn (hEk.trans hEw11)⟩); (case measure => first | (simp [intOf]; omega) | (simp [intOf])))
                    | true =>
                      have c2 := (HF11).out.blk.cell 2
                      have c3 := (HF11).out.blk.cell 3
                      have f2 := (HF11).out.blk.frozen 2
                      simp at c2 c3
                      go_upto_region 18 with fail
                      have HF13 : Hid (FdS w5 g9 #[.int .i64 (zq : Int), .int .i64 (an : Int), .string t3, .string t3, .string com] ((w11).setCell ⟨g9, 2, none⟩ (.string t3))) := (HF11).out.set_ 2 (.string t3)
                      obtain ⟨w13, hww13⟩ : ∃ w13, w13 = (w11).setCell ⟨g9, 2, none⟩ (.string t3) := ⟨_, rfl⟩
                      rw [← hww13] at HF13 ⊢
                      clear hww13 c2 c3 f2
                      have hEw13 := (HF13).out.ext
                      go_upto_region 20 with fail
                      have k0 := (HF13).out.blk.cell 0
                      have k1 := (HF13).out.blk.cell 1
                      have k2 := (HF13).out.blk.cell 2
                      have k3 := (HF13).out.blk.cell 3
                      have k4 := (HF13).out.blk.cell 4
                      simp at k0 k1 k2 k3 k4
                      have HSW := Lib.hid (HS5.out.extn (HF13).out.ext)
                      obtain ⟨fn, tmps, assign, body, hy, hR⟩ := HY.out pre ⟨⟨(zq : Int), an, t3, t3, com⟩, ⟨by have := HTG.out.2; dsimp only at this ⊢; omega, ht3, ht3, hcom⟩⟩ w13 (HJ.out _ _ _ HJk (hEk5.trans (HF13).out.ext)) (by omega)
                      unfold occV at hy
                      dsimp only at hy
                      refine (wpIn_wide (n := n)).1 ?_
                      gi_wp2
                      refine hR.mono ?_
                      rintro e W3 (⟨rfl, hJ3, hk3⟩ | ⟨rfl, hJx3⟩)
                      · have HJ3 := Lib.hid hJ3
                        have HS3' := Lib.hid (HSW.out.kp hk3)
                        clear hJ3 hk3 hy
                        gi_wp2
                        go_wp2
                        all_goals first
                          | (refine ⟨⟨k + 1, _, by omega, ?_, by go_num, HJ3.out, HS3'.out⟩, ?_⟩; (rw [List.length_append]; simp; omega); first | (simp [intOf]; omega) | (simp [intOf]) | omega)
                          | (go_roundw; (case rel => refine ⟨k + 1, _, by omega, ?_, by go_num, HJ3.out, HS3'.out⟩; rw [List.length_append]; simp; omega); (case measure => first | (simp [intOf]; omega) | (simp [intOf])))
                      · gi_wp2
                        try go_wp2
                        refine bodyPost_ret (results_none rfl _ _ _) rfl ?_
                        refine ⟨⟨_, rfl⟩, .inr ⟨_, ?_, hJx3⟩⟩
                        rw [List.length_append]; simp; omega
                  · have hsr' : sr < 0 := by omega
                    have c2 := (HF).out.blk.cell 2
                    have c3 := (HF).out.blk.cell 3
                    have f2 := (HF).out.blk.frozen 2
                    simp at c2 c3
                    go_upto_region 18 with fail
                    have HF11 : Hid (FdS w5 g9 #[.int .i64 (zq : Int), .int .i64 (an : Int), .string em, .string em, .string com] ((w9).setCell ⟨g9, 2, none⟩ (.string em))) := (HF).out.set_ 2 (.string em)
                    obtain ⟨w11, hww11⟩ : ∃ w11, w11 = (w9).setCell ⟨g9, 2, none⟩ (.string em) := ⟨_, rfl⟩
                    rw [← hww11] at HF11 ⊢
                    clear hww11 c2 c3 f2
                    have hEw11 := (HF11).out.ext
                    have c2 := (HF11).out.blk.cell 2
                    have c3 := (HF11).out.blk.cell 3
                    have f2 := (HF11).out.blk.frozen 3
                    simp at c2 c3
                    go_upto_region 20 with fail
                    have HF13 : Hid (FdS w5 g9 #[.int .i64 (zq : Int), .int .i64 (an : Int), .string em, .string em, .string com] ((w11).setCell ⟨g9, 3, none⟩ (.string em))) := (HF11).out.set_ 3 (.string em)
                    obtain ⟨w13, hww13⟩ : ∃ w13, w13 = (w11).setCell ⟨g9, 3, none⟩ (.string em) := ⟨_, rfl⟩
                    rw [← hww13] at HF13 ⊢
                    clear hww13 c2 c3 f2
                    have hEw13 := (HF13).out.ext
                    have k0 := (HF13).out.blk.cell 0
                    have k1 := (HF13).out.blk.cell 1
                    have k2 := (HF13).out.blk.cell 2
                    have k3 := (HF13).out.blk.cell 3
                    have k4 := (HF13).out.blk.cell 4
                    simp at k0 k1 k2 k3 k4
                    have HSW := Lib.hid (HS5.out.extn (HF13).out.ext)
                    obtain ⟨fn, tmps, assign, body, hy, hR⟩ := HY.out pre ⟨⟨(zq : Int), an, em, em, com⟩, ⟨by have := HTG.out.2; dsimp only at this ⊢; omega, he0, he0, hcom⟩⟩ w13 (HJ.out _ _ _ HJk (hEk5.trans (HF13).out.ext)) (by omega)
                    unfold occV at hy
                    dsimp only at hy
                    refine (wpIn_wide (n := n)).1 ?_
                    gi_wp2
                    refine hR.mono ?_
                    rintro e W3 (⟨rfl, hJ3, hk3⟩ | ⟨rfl, hJx3⟩)
                    · have HJ3 := Lib.hid hJ3
                      have HS3' := Lib.hid (HSW.out.kp hk3)
                      clear hJ3 hk3 hy
                      gi_wp2
                      go_wp2
                      all_goals first
                        | (refine ⟨⟨k + 1, _, by omega, ?_, by go_num, HJ3.out, HS3'.out⟩, ?_⟩; (rw [List.length_append]; simp; omega); first | (simp [intOf]; omega) | (simp [intOf]) | omega)
                        | (go_roundw; (case rel => refine ⟨k + 1, _, by omega, ?_, by go_num, HJ3.out, HS3'.out⟩; rw [List.length_append]; simp; omega); (case measure => first | (simp [intOf]; omega) | (simp [intOf])))
                    · gi_wp2
                      try go_wp2
                      refine bodyPost_ret (results_none rfl _ _ _) rfl ?_
                      refine ⟨⟨_, rfl⟩, .inr ⟨_, ?_, hJx3⟩⟩
                      rw [List.length_append]; simp; omega
        · have hpe : p = m := by omega
          subst hpe
          have hi2 : ¬ (p : Int) < (p : Int) := by omega
          have hi3 : ((p : Int) == (p : Int)) = true := by simp
          have hEk := hEk3
          go_wp2
          all_goals first
            | (refine ⟨⟨k + 1, pre, by omega, by omega, by go_num, HJ.out _ _ _ HJk (hEk.trans (Ext.refl _)), HS.out.extn (hEk.trans (Ext.refl _))⟩, ?_⟩; first | (simp [intOf]; omega) | (simp [intOf]) | omega)
            | (go_roundw; (case rel => exact ⟨k + 1, pre, by omega, by omega, by go_num, HJ.out _ _ _ HJk (hEk.trans (Ext.refl _)), HS.out.extn (hEk.trans (Ext.refl _))⟩); (case measure => first | (simp [intOf]; omega) | (simp [intOf])))
    · have hi1 : ¬ (k : Int) < (m : Int) := by omega
      go_wp2
      refine bodyPost_end (results_none rfl _ _ _) rfl ?_
      exact ⟨⟨_, rfl⟩, .inl ⟨pre, by omega, HJk⟩⟩
end
end Go.Proofs.YtgnchicipmomlaaGreatDoor

/- The program's extract: the entries that are being gathered. -/
namespace Go.Proofs.YtgnchicipmomlaaGreatDoor
open Go.RowKit Go.Maps
set_option maxRecDepth 100000
attribute [local go_sem] ext_refl_t ext_alloc_t ext_drew_t ext_drewN_t ext_alloc2_t ext_alloc3_t ext_alloc4_t ext_alloc5_t ext_alloc6_t ext_alloc7_t ext_alloc8_t ext_alloc1d_t ext_alloc2d_t ext_alloc3d_t ext_alloc4d_t
def refS : ByteArray := ⟨#[114, 101, 102]⟩
/-- An entry that was gathered, plain. -/
structure ExP (N V : Nat) (x : Ep) : Prop where
  id : x.id.size ≤ 1000000
  src : x.src.size ≤ 1000000
  tgt : x.tgt.size = 0
  fl : x.fl = []
  st : x.st = 0
  cl : x.com.length ≤ N
  cs : ∀ s ∈ x.com, s.size ≤ 1000
  fd : ∃ v, x.fd = [(refS, v)] ∧ v.size ≤ V
/-- The entries that are being gathered: rows of the call's own. -/
structure ExS (w1 wr : World) (N V : Nat) (A : Option Addr) (m c : Nat) (es : List Ent) : Prop where
  ext : Ext w1 wr
  own : OsC entC 39 7 wr w1.heap.size A m c es
  com : ∀ i (hi : i < es.length), OsC strF 9 1 wr w1.heap.size es[i].c.A es[i].c.m es[i].c.c es[i].p.com
  fld : ∀ i (hi : i < es.length), OsC fdC 56 2 wr w1.heap.size es[i].d.A es[i].d.m es[i].d.c es[i].p.fd
  nofl : ∀ x ∈ es, x.f = ⟨none, 0, 0⟩
  pl : ∀ x ∈ es, ExP N V x.p
  dc : ∀ i j (hi : i < es.length) (hj : j < es.length), i ≠ j → ∀ g, ob es[i].c.A = some g → ob es[j].c.A ≠ some g
  dd : ∀ i j (hi : i < es.length) (hj : j < es.length), i ≠ j → ∀ g, ob es[i].d.A = some g → ob es[j].d.A ≠ some g
  len : es.length ≤ N
section
variable {w1 wr w2 : World} {N V N' V' : Nat} {A A' : Option Addr} {m c m' c' : Nat} {es : List Ent}
theorem ExP.mono {x : Ep} (h : ExP N V x) (hN : N ≤ N') (hV : V ≤ V') : ExP N' V' x := by
  obtain ⟨v, h1, h2⟩ := h.fd
  exact ⟨h.id, h.src, h.tgt, h.fl, h.st, Nat.le_trans h.cl hN, h.cs, v, h1, Nat.le_trans h2 hV⟩
theorem ExS.mono (h : ExS w1 wr N V A m c es) (hN : N ≤ N') (hV : V ≤ V') : ExS w1 wr N' V' A m c es :=
  ⟨h.ext, h.own, h.com, h.fld, h.nofl, fun x hx => (h.pl x hx).mono hN hV, h.dc, h.dd, Nat.le_trans h.len hN⟩
theorem ExS.frt {T : TypeId → Prop} (h : ExS w1 wr N V A m c es) (hE : Ext w1 w2) (hf : FrT T wr w2) (h1 : ¬ T 39) (h2 : ¬ T 9) (h3 : ¬ T 56) : ExS w1 w2 N V A m c es :=
  ⟨hE, h.own.frt hf h1, fun i hi => (h.com i hi).frt hf h2, fun i hi => (h.fld i hi).frt hf h3, h.nofl, h.pl, h.dc, h.dd, h.len⟩
theorem ExS.extn (h : ExS w1 wr N V A m c es) (hE : Ext wr w2) : ExS w1 w2 N V A m c es := h.frt (T := fun _ => False) (h.ext.trans hE) (FrT.of_ext hE) (fun e => e) (fun e => e) (fun e => e)
theorem ExS.nil_ (hE : Ext w1 wr) : ExS w1 wr 0 0 none 0 0 [] :=
  ⟨hE, OsC.nil_ entC_len entC_cell, (fun i hi => absurd hi (Nat.not_lt_zero i)), (fun i hi => absurd hi (Nat.not_lt_zero i)), (fun x hx => by cases hx), (fun x hx => by cases hx), (fun i j hi => absurd hi (Nat.not_lt_zero i)), (fun i j hi => absurd hi (Nat.not_lt_zero i)), Nat.le_refl _⟩
theorem ExS.app {gf : Nat} {id src : ByteArray} (h : ExS w1 wr N V A m c es) (hid : id.size ≤ 1000000) (hsr : src.size ≤ 1000000)
    (hfd : OsC fdC 56 2 wr w1.heap.size (some ⟨gf, 0, none⟩) 1 1 [(refS, ⟨#[]⟩)]) (hnew : ∀ i (hi : i < es.length), ob es[i].d.A ≠ some gf)
    (ho : OsC entC 39 7 w2 w1.heap.size A' m' c' (es ++ [⟨⟨id, src, ⟨#[]⟩, [], [], 0, [(refS, ⟨#[]⟩)]⟩, ⟨none, 0, 0⟩, ⟨none, 0, 0⟩, ⟨some ⟨gf, 0, none⟩, 1, 1⟩⟩])) (hg : wr.grownBy w2 (ob A)) :
    ExS w1 w2 (N + 1) V A' m' c' (es ++ [⟨⟨id, src, ⟨#[]⟩, [], [], 0, [(refS, ⟨#[]⟩)]⟩, ⟨none, 0, 0⟩, ⟨none, 0, 0⟩, ⟨some ⟨gf, 0, none⟩, 1, 1⟩⟩]) := by
  have hf : FrT (fun t => t = 39) wr w2 := FrT.own h.own rfl hg
  have hlen := h.len
  refine ⟨h.ext.grown hg (fun j hj => h.own.ge j hj), ho, fun i hi => ?_, fun i hi => ?_, fun x hx => ?_, fun x hx => ?_, fun i j hi hj hij g => ?_, fun i j hi hj hij g => ?_, by rw [List.length_append]; simp; omega⟩
  · rw [List.getElem_append]
    split
    · exact (h.com i (by assumption)).frt hf (by decide)
    · simp only [List.getElem_singleton]
      exact OsC.nil_ strF_len strF_cell
  · rw [List.getElem_append]
    split
    · exact (h.fld i (by assumption)).frt hf (by decide)
    · simp only [List.getElem_singleton]
      exact hfd.frt hf (by decide)
  · rcases List.mem_append.1 hx with hx | hx
    · exact h.nofl x hx
    · rw [List.mem_singleton] at hx; rw [hx]
  · rcases List.mem_append.1 hx with hx | hx
    · exact (h.pl x hx).mono (by omega) (Nat.le_refl _)
    · rw [List.mem_singleton] at hx
      rw [hx]
      exact ⟨hid, hsr, rfl, rfl, rfl, Nat.zero_le _, fun s hs => (by cases hs), _, rfl, Nat.zero_le _⟩
  · rw [List.length_append] at hi hj
    simp only [List.length_singleton] at hi hj
    rw [List.getElem_append, List.getElem_append]
    split
    · split
      · exact h.dc i j (by assumption) (by assumption) hij g
      · simp only [List.getElem_singleton]
        intro _ e; cases e
    · simp only [List.getElem_singleton]
      intro e; cases e
  · rw [List.length_append] at hi hj
    simp only [List.length_singleton] at hi hj
    rw [List.getElem_append, List.getElem_append]
    split
    · split
      · exact h.dd i j (by assumption) (by assumption) hij g
      · simp only [List.getElem_singleton]
        intro e1 e2
        rw [show ob (some (⟨gf, 0, none⟩ : Addr)) = some gf from rfl] at e2
        injection e2 with e2
        exact hnew i (by assumption) (by rw [e1, e2])
    · split
      · simp only [List.getElem_singleton]
        intro e1 e2
        rw [show ob (some (⟨gf, 0, none⟩ : Addr)) = some gf from rfl] at e1
        injection e1 with e1
        exact hnew j (by assumption) (by rw [e2, e1])
      · omega
theorem ExS.comAdd {b k n' p' : Nat} {B' : Option Addr} {s : ByteArray} (h : ExS w1 wr N V A m c es) (hA : A = some ⟨b, 0, none⟩) (hk : k < es.length) (hs : s.size ≤ 1000)
    (ho : OsC strF 9 1 w2 w1.heap.size B' n' p' (es[k].p.com ++ [s])) (hg : wr.grownBy w2 (ob es[k].c.A)) (hN : NewOr wr.heap.size (ob es[k].c.A) (ob B')) :
    ExS w1 (w2.setCell ⟨b, k * 7 + 3, none⟩ (.slice B' n' p')) (N + 1) V A m c (es.set k ⟨{ es[k].p with com := es[k].p.com ++ [s] }, ⟨B', n', p'⟩, es[k].f, es[k].d⟩) := by
  subst hA
  have hf1 : FrT (fun t => t = 9) wr w2 := FrT.own (h.com k hk) rfl hg
  have hown2 := h.own.frt hf1 (by decide)
  obtain ⟨g', cur, e0, hbg, hbh, -⟩ := hown2.row (by rw [hown2.len]; omega)
  injection e0 with e0
  injection e0 with e0
  subst e0
  have hf2 : FrT (fun t => t = 39) w2 (w2.setCell ⟨b, k * 7 + 3, none⟩ (.slice B' n' p')) := FrT.set_ (T := fun t => t = 39) hbh rfl _ _
  have hcl := (h.pl _ (List.getElem_mem hk)).cl
  refine ⟨(h.ext.grown hg (fun j hj => (h.com k hk).ge j hj)).set_ (p := ⟨b, _, none⟩) hbg _, hown2.setAt hk (by omega) _ _ (by simp [entC]), fun i hi => ?_, fun i hi => ?_, fun x hx => ?_, fun x hx => ?_, fun i j hi hj hij g => ?_, fun i j hi hj hij g => ?_, by rw [List.length_set]; have := h.len; omega⟩
  · rw [List.length_set] at hi
    rw [List.getElem_set]
    split
    · exact ho.frt hf2 (by decide)
    · rename_i hne
      refine OsC.frt ((h.com i hi).kept hg ?_) hf2 (by decide)
      cases ha : ob es[i].c.A with
      | none => exact .inl rfl
      | some g => exact .inr fun e => h.dc i k hi hk (fun e2 => hne e2.symm) g ha e.symm
  · rw [List.length_set] at hi
    have h3 := ((h.fld i hi).frt hf1 (by decide)).frt hf2 (by decide)
    rw [List.getElem_set]
    split
    · rename_i e; subst e; exact h3
    · exact h3
  · rcases List.mem_or_eq_of_mem_set hx with hx | hx
    · exact h.nofl x hx
    · rw [hx]; exact h.nofl es[k] (List.getElem_mem hk)
  · rcases List.mem_or_eq_of_mem_set hx with hx | hx
    · exact (h.pl x hx).mono (by omega) (Nat.le_refl _)
    · rw [hx]
      have hp := h.pl _ (List.getElem_mem hk)
      exact ⟨hp.id, hp.src, hp.tgt, hp.fl, hp.st, by show (es[k].p.com ++ [s]).length ≤ _; rw [List.length_append]; simp; omega, fun t ht => by
        rcases List.mem_append.1 ht with ht | ht
        · exact hp.cs t ht
        · rw [List.mem_singleton] at ht; rw [ht]; exact hs, hp.fd⟩
  · rw [List.length_set] at hi hj
    have hlt : ∀ i (hi : i < es.length), i ≠ k → ∀ g, ob es[i].c.A = some g → ob B' ≠ some g := fun i hi hne g e1 e2 => by
      rcases hN g e2 with h1 | h1
      · have := (h.com i hi).lt g e1; omega
      · exact h.dc i k hi hk hne g e1 h1
    rw [List.getElem_set, List.getElem_set]
    split
    · rename_i e1
      split
      · omega
      · rename_i e2
        intro e3 e4
        exact hlt j hj (fun e => e2 e.symm) g e4 e3
    · rename_i e1
      split
      · intro e3; exact hlt i hi (fun e => e1 e.symm) g e3
      · exact h.dc i j hi hj hij g
  · rw [List.length_set] at hi hj
    rw [List.getElem_set, List.getElem_set]
    split
    · rename_i e1
      subst e1
      split
      · omega
      · exact h.dd k j hi hj hij g
    · split
      · rename_i e2
        subst e2
        exact h.dd i k hi hj hij g
      · exact h.dd i j hi hj hij g
theorem ExS.fldSet {gf k : Nat} {v : ByteArray} (h : ExS w1 wr N V A m c es) (hk : k < es.length) (hd : es[k].d.A = some ⟨gf, 0, none⟩) (hv : v.size ≤ V') (hV : V ≤ V') :
    ExS w1 (wr.setCell ⟨gf, 1, none⟩ (.string v)) N V' A m c (es.set k ⟨{ es[k].p with fd := [(refS, v)] }, es[k].c, es[k].f, es[k].d⟩) := by
  obtain ⟨v0, hv0, -⟩ := (h.pl _ (List.getElem_mem hk)).fd
  have hfk := h.fld k hk
  rw [hd, hv0] at hfk
  obtain ⟨g', cur, e0, hbg, hbh, -⟩ := hfk.row (by rw [hfk.len]; simp)
  injection e0 with e0
  injection e0 with e0
  subst e0
  have hf2 : FrT (fun t => t = 56) wr (wr.setCell ⟨gf, 1, none⟩ (.string v)) := FrT.set_ (T := fun t => t = 56) hbh rfl _ _
  have hset := hfk.setAt (i := 0) (j := 1) (by simp) (by omega) (refS, v) (.string v) (by simp [fdC])
  simp only [Nat.zero_mul, Nat.zero_add, List.set_cons_zero] at hset
  have hf1 : OsC entC 39 7 (wr.setCell ⟨gf, 1, none⟩ (.string v)) w1.heap.size A m c es := h.own.frt hf2 (by decide)
  have hset2 : OsC entC 39 7 (wr.setCell ⟨gf, 1, none⟩ (.string v)) w1.heap.size A m c (es.set k ⟨{ es[k].p with fd := [(refS, v)] }, es[k].c, es[k].f, es[k].d⟩) := by
    refine ⟨?_, hf1.one, hf1.cell, by rw [List.length_set]; exact hf1.len, hf1.le⟩
    have e : ((es.set k ⟨{ es[k].p with fd := [(refS, v)] }, es[k].c, es[k].f, es[k].d⟩).flatMap entC) = es.flatMap entC := by
      have h1 := flat_set entC_len es k 0 hk (by omega) ⟨{ es[k].p with fd := [(refS, v)] }, es[k].c, es[k].f, es[k].d⟩ (.string es[k].p.id) (by simp [entC])
      rw [← h1]
      have h2 := flat_set entC_len es k 0 hk (by omega) es[k] (.string es[k].p.id) (by simp [entC])
      rw [h2, List.set_getElem_self]
    rw [e]
    exact hf1.own
  refine ⟨h.ext.set_ (p := ⟨gf, _, none⟩) hbg _, hset2, fun i hi => ?_, fun i hi => ?_, fun x hx => ?_, fun x hx => ?_, fun i j hi hj hij g => ?_, fun i j hi hj hij g => ?_, by rw [List.length_set]; exact h.len⟩
  · rw [List.length_set] at hi
    have h3 := (h.com i hi).frt hf2 (by decide)
    rw [List.getElem_set]
    split
    · rename_i e; subst e; exact h3
    · exact h3
  · rw [List.length_set] at hi
    rw [List.getElem_set]
    split
    · dsimp only; rw [hd]; exact hset
    · rename_i hne
      refine (h.fld i hi).kept (grown_cell wr gf 1 _) ?_
      cases ha : ob es[i].d.A with
      | none => exact .inl rfl
      | some g => exact .inr fun e => h.dd i k hi hk (fun e2 => hne e2.symm) g ha (by rw [hd]; exact e.symm)
  · rcases List.mem_or_eq_of_mem_set hx with hx | hx
    · exact h.nofl x hx
    · rw [hx]; exact h.nofl es[k] (List.getElem_mem hk)
  · rcases List.mem_or_eq_of_mem_set hx with hx | hx
    · exact (h.pl x hx).mono (Nat.le_refl _) hV
    · rw [hx]
      have hp := h.pl _ (List.getElem_mem hk)
      exact ⟨hp.id, hp.src, hp.tgt, hp.fl, hp.st, hp.cl, hp.cs, v, rfl, hv⟩
  · rw [List.length_set] at hi hj
    rw [List.getElem_set, List.getElem_set]
    split
    · rename_i e1
      subst e1
      split
      · omega
      · exact h.dc k j hi hj hij g
    · split
      · rename_i e2
        subst e2
        exact h.dc i k hi hj hij g
      · exact h.dc i j hi hj hij g
  · rw [List.length_set] at hi hj
    rw [List.getElem_set, List.getElem_set]
    split
    · rename_i e1
      subst e1
      split
      · omega
      · exact h.dd k j hi hj hij g
    · split
      · rename_i e2
        subst e2
        exact h.dd i k hi hj hij g
      · exact h.dd i j hi hj hij g
theorem ExS.ents (h : ExS w1 wr N V A m c es) (hN : N ≤ 1000000) (hV : V ≤ 1000000000) : EntsW wr ⟨A, m, c⟩ es ∧ ∀ x ∈ es, x.p.src.size ≤ 1000000 := by
  have hm : m ≤ 1000000 := by have h1 := h.own.len; have h2 := h.len; omega
  refine ⟨⟨h.own.sl, h.own.cap, (show m * 128 ≤ 140737488351232 by omega), fun x hx => ?_⟩, fun x hx => (h.pl x hx).src⟩
  obtain ⟨i, hi, rfl⟩ := List.mem_iff_getElem.1 hx
  have hp := h.pl _ hx
  have hc := h.com i hi
  have hd := h.fld i hi
  obtain ⟨v, hv, hv2⟩ := hp.fd
  have hcl := hp.cl
  have h1 := hc.len
  have h2 := hd.len
  have hf := h.nofl _ hx
  refine ⟨⟨hc.sl, hc.cap, (show es[i].c.m * 16 ≤ 140737488351232 by omega), fun s hs => ?_⟩, ?_, ⟨hd.sl, hd.cap, ?_, fun f hf => ?_⟩, ?_, ?_, ?_, ?_⟩
  · have := hp.cs s hs; unfold GoodStr; omega
  · rw [hf, hp.fl]; exact HW.nil_ strF_len
  · rw [hv] at h2; simp at h2; omega
  · rw [hv, List.mem_singleton] at hf; rw [hf]; exact ⟨by unfold GoodStr; exact (by decide : refS.size ≤ 140737488351232), by unfold GoodStr; show v.size ≤ _; omega⟩
  · have := hp.id; unfold GoodStr; omega
  · have := hp.src; unfold GoodStr; omega
  · have := hp.tgt; unfold GoodStr; omega
  · rw [hp.st]; omega
end
end Go.Proofs.YtgnchicipmomlaaGreatDoor

/- The program's extract: Extract. -/
namespace Go.Proofs.YtgnchicipmomlaaGreatDoor
open Go.RowKit Go.Maps
set_option maxRecDepth 100000
attribute [local go_sem] ext_refl_t ext_alloc_t ext_drew_t ext_drewN_t ext_alloc2_t ext_alloc3_t ext_alloc4_t ext_alloc5_t ext_alloc6_t ext_alloc7_t ext_alloc8_t ext_alloc1d_t ext_alloc2d_t ext_alloc3d_t ext_alloc4d_t
section
variable {w : World}
theorem countX_any (s : ByteArray) (c : UInt8) :
    Calls Tryz.prog 51 #[.string s, .string ⟨#[c]⟩] w fun e w' => e = .returned (.int .i64 ((Lib.countByte s.data.toList c : Nat) : Int)) ∧ Ext w w' := by
  have h := Any.strings_Count_one Tryz.laysCnt s c w
  change Calls Tryz.prog 51 _ _ _ at h
  exact h.mono fun e w' ⟨he, hw⟩ => ⟨he, by rw [hw]; exact Ext.refl _⟩
theorem itoaX_any (n : Int) (h0 : -9223372036854775808 ≤ n) (h1 : n ≤ 9223372036854775807) (hT : PTt w) :
    Calls Tryz.prog 50 #[.int .i64 n] w fun e w' => e = .returned (.string ⟨(Lib.itoa n).toArray⟩) ∧ Ext w w' := by
  have h := Any.strconv_Itoa Tryz.laysItoa n h0 h1 w hT
  change Calls Tryz.prog 50 _ _ _ at h
  refine h.mono ?_
  rintro e w' ⟨rfl, k, os, rfl⟩
  exact ⟨rfl, rfl, rfl, rfl, by simp, fun j hj => by rw [Go.Sort.heap_grow_old _ _ (by simpa using hj)]; rfl⟩
theorem occs_any {h hc : SlH} :
    Calls Tryz.prog 49 #[.slice h.A h.m h.c, .slice hc.A hc.m hc.c] w fun e w' => e = .returned (.func (.func 79) #[] #[.pointer (some ⟨w.heap.size, 0, none⟩), .pointer (some ⟨w.heap.size + 1, 0, none⟩)]) ∧ w' = (w.alloc (.cells #[.slice h.A h.m h.c] 121)).alloc (.cells #[.slice hc.A hc.m hc.c] 86) := by
  go_enter Tryz.func49, Tryz.ntmps49
  go_wp2
  go_ret
  exact ⟨by simp, rfl⟩
theorem loadVar_one {P : Program} {ty : TypeId} {d : TypeDesc} (w : World) (g : Nat) (v : Value) (hu : P.underlying ty = some d) (hd : (match d with | .struct _ | .array _ _ => true | _ => false) = false) (hc : w.cell? ⟨g, 0, none⟩ = some v) :
    (loadVar ty ⟨g, 0, none⟩).run P w = .ok v w := by
  have hagg : (isAgg ty).run P w = .ok false w := by
    unfold isAgg
    rw [Sem.run_bind, run_underlying hu w]
    cases d <;> simp_all
  simp [loadVar, Sem.run_bind, hagg, Result.andThen, load, Sem.run, hc]
theorem results_cells3 {fn : Func} {p q u : Tmp} {ty tz tu : TypeId} (h : fn.results = #[.cell p ty, .cell q tz, .cell u tu]) (tmps : Array Value) (P : Program) (w : World) :
    (results fn tmps).run P w =
      ((asAddr (tmps.getD p undef)).run P w).andThen fun a w₁ => ((loadVar ty a).run P w₁).andThen fun y w₂ => ((asAddr (tmps.getD q undef)).run P w₂).andThen fun a w₃ => ((loadVar tz a).run P w₃).andThen fun z w₄ =>
        ((asAddr (tmps.getD u undef)).run P w₄).andThen fun a w₅ => ((loadVar tu a).run P w₅).andThen fun x w₆ => .ok (.tuple #[y, z, x]) w₆ := by
  simp only [results, h]
  simp [Sem.run_bind, Result.andThen]
/-- The three results, in their boxes. -/
structure Rs3 (w : World) (g6 g7 g8 : Nat) (v6 x y v8 : Value) : Prop where
  b6 : Blk w g6 30 #[v6]
  b7 : Blk w g7 91 #[x, y]
  b8 : Blk w g8 35 #[v8]
theorem Rs3.res {w : World} {g6 g7 g8 : Nat} {v6 x y v8 : Value} (h : Rs3 w g6 g7 g8 v6 x y v8) (tmps : Array Value) (h6 : tmps.getD 6 undef = .pointer (some ⟨g6, 0, none⟩)) (h7 : tmps.getD 7 undef = .pointer (some ⟨g7, 0, none⟩)) (h8 : tmps.getD 8 undef = .pointer (some ⟨g8, 0, none⟩)) :
    (results Tryz.f26 tmps).run Tryz.prog w = .ok (.tuple #[v6, .agg #[x, y], v8]) w := by
  have h1 := loadVar_one (P := Tryz.prog) (ty := 30) w g6 v6 Tryz.underlying30 rfl (h.b6.cell 0)
  have h2 := run_loadVar_row (P := Tryz.prog) w g7 _ 91 #[x, y] (0, 0) _ h.b7 Tryz.underlying91 rfl (by kernel_rfl)
  have h3 := loadVar_one (P := Tryz.prog) (ty := 35) w g8 v8 Tryz.underlying35 rfl (h.b8.cell 0)
  rw [results_cells3 rfl, h6, h7, h8]
  simp [asAddr, h1, h2, h3, Result.andThen]
theorem Rs3.ext {w w' : World} {g6 g7 g8 : Nat} {v6 x y v8 : Value} (h : Rs3 w g6 g7 g8 v6 x y v8) (hE : Ext w w') : Rs3 w' g6 g7 g8 v6 x y v8 := ⟨h.b6.below hE h.b6.lt, h.b7.below hE h.b7.lt, h.b8.below hE h.b8.lt⟩
theorem Rs3.ne {w : World} {g6 g7 g8 : Nat} {v6 x y v8 : Value} (h : Rs3 w g6 g7 g8 v6 x y v8) : g6 ≠ g7 ∧ g6 ≠ g8 ∧ g7 ≠ g8 := ⟨Blk.ne_ h.b6 h.b7 (by decide), Blk.ne_ h.b6 h.b8 (by decide), Blk.ne_ h.b7 h.b8 (by decide)⟩
/-- What the stores need to know. -/
theorem Rs3.facts {w : World} {g6 g7 g8 : Nat} {v6 x y v8 : Value} (h : Rs3 w g6 g7 g8 v6 x y v8) :
    w.cell? ⟨g6, 0, none⟩ = some v6 ∧ w.frozen? ⟨g6, 0, none⟩ = false ∧ w.frozen? ⟨g7, 0, none⟩ = false ∧ w.frozen? ⟨g7, 1, none⟩ = false ∧ w.frozen? ⟨g8, 0, none⟩ = false ∧
    (∀ a, (w.setCell ⟨g6, 0, none⟩ a).cell? ⟨g7, 0, none⟩ = some x) ∧ (∀ a b, ((w.setCell ⟨g6, 0, none⟩ a).setCell ⟨g7, 0, none⟩ b).cell? ⟨g7, 1, none⟩ = some y) ∧
    (∀ a b c, (((w.setCell ⟨g6, 0, none⟩ a).setCell ⟨g7, 0, none⟩ b).setCell ⟨g7, 1, none⟩ c).cell? ⟨g8, 0, none⟩ = some v8) := by
  obtain ⟨n1, n2, n3⟩ := h.ne
  have e7 : ∀ a, Blk (w.setCell ⟨g6, 0, none⟩ a) g7 91 #[x, y] := fun a => h.b7.far (p := ⟨g6, 0, none⟩) (fun e => n1 e.symm) a
  have e7b : ∀ a b, Blk ((w.setCell ⟨g6, 0, none⟩ a).setCell ⟨g7, 0, none⟩ b) g7 91 #[b, y] := fun a b => (e7 a).set_ 0 b
  have e8 : ∀ a b c, Blk (((w.setCell ⟨g6, 0, none⟩ a).setCell ⟨g7, 0, none⟩ b).setCell ⟨g7, 1, none⟩ c) g8 35 #[v8] := fun a b c =>
    ((h.b8.far (p := ⟨g6, 0, none⟩) (fun e => n2 e.symm) a).far (p := ⟨g7, 0, none⟩) (fun e => n3 e.symm) b).far (p := ⟨g7, 1, none⟩) (fun e => n3 e.symm) c
  exact ⟨h.b6.cell 0, h.b6.frozen 0, h.b7.frozen 0, h.b7.frozen 1, h.b8.frozen 0, fun a => (e7 a).cell 0, fun a b => (e7b a b).cell 1, fun a b c => (e8 a b c).cell 0⟩
def setR3 (w : World) (g6 g7 g8 : Nat) (v6 x y v8 : Value) : World := (((w.setCell ⟨g6, 0, none⟩ v6).setCell ⟨g7, 0, none⟩ x).setCell ⟨g7, 1, none⟩ y).setCell ⟨g8, 0, none⟩ v8
theorem Rs3.set_ {w : World} {g6 g7 g8 : Nat} {v6 x y v8 : Value} (h : Rs3 w g6 g7 g8 v6 x y v8) (a b c d : Value) : Rs3 (setR3 w g6 g7 g8 a b c d) g6 g7 g8 a b c d := by
  obtain ⟨n1, n2, n3⟩ := h.ne
  refine ⟨((((h.b6.set_ 0 a).far (p := ⟨g7, 0, none⟩) n1 b).far (p := ⟨g7, 1, none⟩) n1 c).far (p := ⟨g8, 0, none⟩) n2 d), ?_, ?_⟩
  · have e1 := h.b7.far (p := ⟨g6, 0, none⟩) (fun e => n1 e.symm) a
    have e2 : Blk ((w.setCell ⟨g6, 0, none⟩ a).setCell ⟨g7, 0, none⟩ b) g7 91 #[b, y] := e1.set_ 0 b
    have e3 : Blk (((w.setCell ⟨g6, 0, none⟩ a).setCell ⟨g7, 0, none⟩ b).setCell ⟨g7, 1, none⟩ c) g7 91 #[b, c] := e2.set_ 1 c
    exact e3.far (p := ⟨g8, 0, none⟩) n3 d
  · have e1 := ((h.b8.far (p := ⟨g6, 0, none⟩) (fun e => n2 e.symm) a).far (p := ⟨g7, 0, none⟩) (fun e => n3 e.symm) b).far (p := ⟨g7, 1, none⟩) (fun e => n3 e.symm) c
    exact e1.set_ 0 d
theorem setR3_ext {w0 w : World} {g6 g7 g8 : Nat} (hE : Ext w0 w) (h6 : w0.heap.size ≤ g6) (h7 : w0.heap.size ≤ g7) (h8 : w0.heap.size ≤ g8) (a b c d : Value) : Ext w0 (setR3 w g6 g7 g8 a b c d) :=
  (((hE.set_ (p := ⟨g6, 0, none⟩) h6 a).set_ (p := ⟨g7, 0, none⟩) h7 b).set_ (p := ⟨g7, 1, none⟩) h7 c).set_ (p := ⟨g8, 0, none⟩) h8 d
theorem setR3_frt {w : World} {g6 g7 g8 : Nat} {v6 x y v8 : Value} (h : Rs3 w g6 g7 g8 v6 x y v8) (a b c d : Value) : FrT (fun t => t = 30 ∨ t = 91 ∨ t = 35) w (setR3 w g6 g7 g8 a b c d) := by
  intro k t cs hb hn
  have k6 : k ≠ g6 := Blk.ne_ hb h.b6 (fun e => hn (.inl e))
  have k7 : k ≠ g7 := Blk.ne_ hb h.b7 (fun e => hn (.inr (.inl e)))
  have k8 : k ≠ g8 := Blk.ne_ hb h.b8 (fun e => hn (.inr (.inr e)))
  exact (((hb.far (p := ⟨g6, 0, none⟩) k6 a).far (p := ⟨g7, 0, none⟩) k7 b).far (p := ⟨g7, 1, none⟩) k7 c).far (p := ⟨g8, 0, none⟩) k8 d
/-- What Extract gives. -/
def ExR (w w' : World) (e : Ending) : Prop :=
  Ext w w' ∧ ∃ (h : SlH) (x1 x2 er : Int), e = .returned (.tuple #[.slice h.A h.m h.c, .agg #[.int .i64 x1, .int .i64 x2], .int .i64 er]) ∧ (er = 0 → ∃ es, EntsW w' h es ∧ ∀ x ∈ es, x.p.src.size ≤ 1000000)
end
end Go.Proofs.YtgnchicipmomlaaGreatDoor
