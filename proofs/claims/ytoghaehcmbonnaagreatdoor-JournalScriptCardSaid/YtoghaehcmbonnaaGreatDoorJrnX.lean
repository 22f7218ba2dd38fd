/- journal.Open. -/
import Derived.Test.YtoghaehcmbonnaaGreatDoorJrnW
import Derived.Test.YtoghaehcmbonnaaGreatDoorJrnO
import Derived.OwnWalk
namespace Go.Proofs.YtoghaehcmbonnaaGreatDoor
open Go.RowKit
set_option maxRecDepth 100000
attribute [local go_sem] ext_refl_t ext_alloc_t ext_drew_t ext_drewN_t ext_alloc2_t ext_alloc3_t ext_alloc4_t ext_alloc5_t ext_alloc6_t ext_alloc7_t ext_alloc8_t ext_alloc1d_t ext_alloc2d_t ext_alloc3d_t ext_alloc4d_t
section
variable {w : World}
set_option maxHeartbeats 1600000 in
theorem jbytesEq_any {A B : Option Addr} {m n : Nat} (c d : Nat) {l k : List UInt8} (ha : SlB w A m l) (hb : SlB w B n k) :
    Calls Tryz.prog 35 #[.slice A m c, .slice B n d] w fun e w' => e = .returned (.bool (decide (l = k))) ∧ Ext w w' := by
  have hcv := conv_str ha c
  have hcw := conv_str hb d
  obtain ⟨s, hs⟩ : ∃ s, s = str l := ⟨_, rfl⟩
  obtain ⟨t, ht⟩ : ∃ t, t = str k := ⟨_, rfl⟩
  rw [← hs] at hcv
  rw [← ht] at hcw
  have HE : Hid ((s.toList == t.toList) = decide (l = k)) := by
    show _ = _
    rw [ByteArray.toList_eq, ByteArray.toList_eq, hs, ht]
    show (bys (str l) == bys (str k)) = _
    rw [bys_str, bys_str]
    by_cases h : l = k
    · simp [h]
    · rw [beq_eq_false_iff_ne.2 h, decide_eq_false h]
  clear hs ht ha hb
  rw [← HE.out]
  go_enter Tryz.func35, Tryz.ntmps35
  go_wp2
  go_ret
  exact ⟨rfl, Ext.refl w⟩
set_option maxHeartbeats 1600000 in
theorem hasPre_any {A B : Option Addr} {m n : Nat} (c d : Nat) {l k : List UInt8} (ha : SlB w A m l) (hmc : m ≤ c) (hb : SlB w B n k) :
    Calls Tryz.prog 21 #[.slice A m c, .slice B n d] w fun e w' => e = .returned (.bool (decide (l.take n = k))) ∧ Ext w w' := by
  have HL := Lib.hid ha.len
  have HK := Lib.hid hb.len
  by_cases hn : n ≤ m
  · have h1 : (n : Int) ≤ (m : Int) := by omega
    obtain ⟨A1, _, _, u1, hs1, _⟩ := cut_run ha (i := 0) (j := n) (by omega) hn hmc
    have q1 := fun W => u1 W .i64 (n : Int) rfl rfl
    rw [Nat.sub_zero, List.drop_zero] at hs1
    simp only [Nat.sub_zero] at q1
    clear u1
    go_enter Tryz.func21, Tryz.ntmps21
    go_wp2_with (first
      | (go_at_call 35; refine Hid.out ?_))
    refine Hid.mk_ ((jbytesEq_any c d hs1 hb).mono ?_)
    rintro e w1 ⟨rfl, hE1⟩
    go_wp2
    go_ret
    exact ⟨rfl, hE1⟩
  · have h1 : ¬ (n : Int) ≤ (m : Int) := by omega
    have HF : Hid (decide (l.take n = k) = false) := decide_eq_false (fun e => by
      have h2 := congrArg List.length e
      rw [List.length_take, ← HL.out, ← HK.out] at h2
      omega)
    go_enter Tryz.func21, Tryz.ntmps21
    go_wp2
    go_ret
    exact ⟨by rw [HF.out]; rfl, Ext.refl _⟩
/-- What Open gives. -/
def OpR (l : List UInt8) (L : List Ev) (used code : Int) : Prop := (FinJ l L code ∧ used = ((runJ L).bs.length : Int)) ∨ (l.take 5 ≠ magicL ∧ L = [] ∧ code = 4 ∧ used = 0)
theorem OpR.uniq {l : List UInt8} {L L' : List Ev} {u u' c c' : Int} (h : OpR l L u c) (h' : OpR l L' u' c') : L = L' ∧ u = u' ∧ c = c' := by
  rcases h with ⟨h1, h2⟩ | ⟨h1, h2, h3, h4⟩
  · rcases h' with ⟨k1, k2⟩ | ⟨k1, k2, k3, k4⟩
    · obtain ⟨rfl, rfl⟩ := h1.uniq k1
      exact ⟨rfl, by rw [h2, k2], rfl⟩
    · exact absurd h1.1.1 k1
  · rcases h' with ⟨k1, k2⟩ | ⟨k1, k2, k3, k4⟩
    · exact absurd k1.1.1 h1
    · exact ⟨by rw [h2, k2], by rw [h4, k4], by rw [h3, k3]⟩
theorem buflen_any {j : Nat} {S : Nat → Prop} {L : List Ev} {es : List Int} {k : Nat} {ks : List Nat} {bs : List UInt8} (hJ : Jr w j S L es k ks bs) :
    Calls Tryz.prog 23 #[.pointer (some ⟨j, 1, none⟩)] w fun e w' => e = .returned (.int .i64 (bs.length : Int)) ∧ Ext w w' := by
  obtain ⟨Ae, me, ce, An, mn, cn, Ak, mk, ck, G, h⟩ := hJ
  have h1 := Any.Buffer_Len_at Tryz.laysBLen 63 _ 0 j 1 _ w h.buf.isb
  rw [List.length_map] at h1
  refine h1.mono ?_
  rintro e w' ⟨rfl, q, rfl⟩
  exact ⟨rfl, (Ext.refl w).drewN q⟩
def msr (v : Value) : Nat := match v with | .slice _ n _ => n | _ => 0
set_option maxHeartbeats 6400000 in
theorem jopen_any {A : Option Addr} {m : Nat} (c : Nat) {l : List UInt8} (hs : SlB w A m l) (hmc : m ≤ c) (hm : m ≤ 1000000) (hT : PT w) (hN : NS w) :
    Calls Tryz.prog 8 #[.slice A m c] w fun e w' => (∃ (j : Nat) (L : List Ev) (used code : Int), e = .returned (.tuple #[.pointer (some ⟨j, 0, none⟩), .int .i64 used, .int .i64 code]) ∧ OpR l L used code ∧ Jr w' j (fun g => w.heap.size ≤ g) L (runJ L).es (runJ L).k (runJ L).ks (runJ L).bs) ∧ Ext w w' := by
  have HL := Lib.hid hs.len
  go_enter Tryz.func8, Tryz.ntmps8
  go_wp2_with (first
    | (go_at_call 20; refine Hid.out ?_))
  refine Hid.mk_ ((jnew_any).mono ?_)
  rintro e w1 ⟨rfl, hJ1, hE1⟩
  obtain ⟨j, hj⟩ : ∃ j, j = w.heap.size := ⟨_, rfl⟩
  have hJ1' : Jr w1 j (fun g => w.heap.size ≤ g) [] (runJ []).es (runJ []).k (runJ []).ks (runJ []).bs := by rw [hj]; exact hJ1
  rw [← hj]
  clear hj hJ1
  have hcv := magicJ_conv w1
  obtain ⟨W2, hW2⟩ : ∃ W2, W2 = w1.alloc (Obj.cells #[.int .u8 67, .int .u8 81, .int .u8 74, .int .u8 49, .int .u8 10] 5 (5, 6)) := ⟨_, rfl⟩
  obtain ⟨gm, hgm⟩ : ∃ gm, gm = w1.heap.size := ⟨_, rfl⟩
  have hE12 : Ext w1 W2 := by rw [hW2]; exact (Ext.refl _).alloc _
  have hsm : SlB W2 (some ⟨gm, 0, none⟩) 5 magicL := by rw [hW2, hgm]; exact magicJ_sl w1 (5, 6)
  have hE02 := hE1.trans hE12
  have hpre := hasPre_any (A := A) (m := m) c 5 (hs.ext hE02) hmc hsm
  go_wp2_with (first
    | (go_at_call 21; refine Hid.out ?_))
  rw [← hW2, ← hgm]
  refine Hid.mk_ (hpre.mono ?_)
  rintro e w3 ⟨rfl, hE3⟩
  have hE03 := hE02.trans hE3
  have hJ3 := hJ1'.ext (hE12.trans hE3)
  clear hcv hW2 hgm hsm hpre hJ1'
  by_cases hp : l.take 5 = magicL
  case neg =>
    rw [decide_eq_false hp]
    have HJ3 := Lib.hid hJ3
    have HP : Hid (l.take 5 ≠ magicL) := hp
    clear hJ3 hp
    go_wp2
    go_ret3
    exact ⟨⟨j, [], 0, 4, rfl, .inr ⟨HP.out, rfl, rfl, rfl⟩, HJ3.out⟩, hE03⟩
  rw [decide_eq_true hp]
  have hm5 : 5 ≤ m := by
    have h1 := congrArg List.length hp
    rw [List.length_take, ← HL.out] at h1
    have h2 : magicL.length = 5 := rfl
    omega
  obtain ⟨bq, off, hAq, hbl, _⟩ := hs.at_ (show 0 < m by omega)
  have HOB : Hid (∀ g, ob A = some g → g < w.heap.size) := fun g hg => by rw [hAq] at hg; injection hg with hg; rw [← hg]; exact hbl
  obtain ⟨A5, _, u5, _, hs5, hob5⟩ := cut_run hs (i := 5) (j := m) hm5 (Nat.le_refl _) hmc
  have q5 := fun W => u5 W .i64 5 rfl rfl
  rw [List.take_of_length_le (by rw [HL.out]; exact Nat.le_refl _)] at hs5
  obtain ⟨m5, hm5d⟩ : ∃ m5, m5 = m - 5 := ⟨_, rfl⟩
  obtain ⟨c5, hc5d⟩ : ∃ c5, c5 = c - 5 := ⟨_, rfl⟩
  rw [← hm5d] at hs5 q5
  rw [← hc5d] at q5
  have hmc5 : m5 ≤ c5 := by omega
  have hi5 : (5 : Int) ≤ (m : Int) := by omega
  have HS5 : Hid (SlB w3 A5 m5 (l.drop (runJ []).bs.length)) := hs5.ext hE03
  have HJ3 := Lib.hid hJ3
  have HR3 : Hid (RecJ l []) := RecJ.nil_ hp
  have HOB5 : Hid (ob A5 = none ∨ ob A5 = ob A) := hob5
  have HE03 := Lib.hid hE03
  clear hp hAq hbl hs5 u5 hob5 hm5d hc5d hJ3 hE3 hE12 hE02 hE03
  go_wp2
  go_loopw [6] (fun v wr => ∃ (L : List Ev) (Ar : Option Addr) (mr cr : Nat), v = .slice Ar mr cr ∧ mr ≤ cr ∧ mr ≤ m ∧ Hid (Jr wr j (fun g => w.heap.size ≤ g) L (runJ L).es (runJ L).k (runJ L).ks (runJ L).bs) ∧ Hid (SlB wr Ar mr (l.drop (runJ L).bs.length)) ∧ Hid (RecJ l L) ∧ Hid (ob Ar = none ∨ ob Ar = ob A) ∧ Hid (Ext w wr)) (fun v _ => msr v)
  case atStart => exact ⟨[], A5, m5, c5, rfl, hmc5, by have := HS5.out.len; rw [List.length_drop, ← HL.out] at this; omega, HJ3.out, HS5.out, HR3.out, HOB5.out, HE03.out⟩
  case round =>
    obtain ⟨L, Ar, mr, cr, rfl, hmcr, hmr, HJ, HS, HR, HOBR, HE⟩ := hrel
    obtain ⟨hbs1, hbs2⟩ := HR.out.bs
    obtain ⟨hk, hes, hks, hbl⟩ := runJ_st L
    have hlr := HS.out.len
    rw [List.length_drop, ← HL.out] at hlr
    rw [← HL.out] at hbs2
    have HB1 := Lib.hid hbs1
    clear hbs1
    by_cases h0 : 0 < mr
    · have hi1 : (0 : Int) < (mr : Int) := by omega
      have hfr := frame_any HJ.out hk cr HS.out hmcr (by omega) (hT.ext HE.out) (hN.ext HE.out)
      have HK := Lib.hid hk
      have HES := Lib.hid hes
      have HKS := Lib.hid hks
      have HBL := Lib.hid hbl
      have HLR := Lib.hid hlr
      clear hk hes hks hbl hlr
      go_wp2_with (first
        | (go_at_call 22; refine Hid.out ?_))
      refine Hid.mk_ ((hfr).mono ?_)
      rintro e w4 ⟨hR4, hE4⟩
      have hE04 := HE.out.trans hE4
      clear hfr
      rcases hR4 with ⟨code, hc0, hcn, ⟨y0, y1, y2, y3, y4, y5, y6, y7⟩, A2, m2, c2, A3, m3, c3, rfl⟩ | ⟨⟨y0, y1, y2, y3, y4, y5, y6, y7⟩, n, A2, m2, c2, A3, m3, c3, hnx, rfl, hs2, hs3, hmc3, hob3⟩
      · have HC : Hid (FinJ l L code) := ⟨HR.out, .inr ⟨by have := HLR.out; have := HL.out; omega, hcn, hc0⟩⟩
        unfold evV
        have hE45 : Ext w4 (w4.alloc (Obj.cells #[.int .i64 y0, .string y1, .string y2, .string y3, .string y4, .int .i64 y5, .int .i64 y6, .int .i64 y7] 46)) := (Ext.refl _).alloc _
        have hJ5 := HJ.out.ext (hE4.trans hE45)
        have HC0 : Hid (code ≠ 0) := hc0
        clear hcn
        go_wp2_with (first
          | (go_at_call 23; refine Hid.out ?_))
        refine Hid.mk_ ((buflen_any hJ5).mono ?_)
        rintro e w6 ⟨rfl, hE6⟩
        have HJ6 := Lib.hid (hJ5.ext hE6)
        have hE06 := (hE04.trans hE45).trans hE6
        clear hJ5
        go_wp2
        go_ret3
        exact ⟨⟨j, L, _, code, rfl, .inl ⟨HC.out, rfl⟩, HJ6.out⟩, hE06⟩
      · obtain ⟨hok, hn26, hnl, _⟩ := nextJ_ok hnx
        have HX : Hid (RecJ l (L ++ [⟨y0, y1, y2, y3, y4, y5, y6, y7⟩])) := HR.out.snoc hnx
        have hm2 : m2 = (encE ⟨y0, y1, y2, y3, y4, y5, y6, y7⟩).length := hs2.len
        have hle3 := hok.2
        rw [List.length_drop] at hnl
        have hbl2 := runJ_bslen L ⟨y0, y1, y2, y3, y4, y5, y6, y7⟩
        have hd3 : (l.drop (runJ L).bs.length).drop n = l.drop (runJ (L ++ [⟨y0, y1, y2, y3, y4, y5, y6, y7⟩])).bs.length := by rw [List.drop_drop, hbl2, hn26]
        rw [hd3] at hs3
        have hlen3 := hs3.len
        rw [List.length_drop, hbl2, ← HL.out] at hlen3
        rw [← HL.out] at hnl
        have hLl : L.length ≤ 1000000 := by have := HBL.out; omega
        have hm3m : m3 ≤ m := by omega
        have hm3r : m3 < mr := by have := HLR.out; omega
        unfold evV
        have hE45 : Ext w4 (w4.alloc (Obj.cells #[.int .i64 y0, .string y1, .string y2, .string y3, .string y4, .int .i64 y5, .int .i64 y6, .int .i64 y7] 46)) := (Ext.refl _).alloc _
        have hadd := jadd_any c2 ⟨y0, y1, y2, y3, y4, y5, y6, y7⟩ (HJ.out.ext (hE4.trans hE45)) HK.out (hs2.ext hE45) (by omega) (by have := HBL.out; omega) (by omega) hLl (by rw [HES.out]; exact hLl) (by rw [HKS.out]; exact hLl) (hT.ext (hE04.trans hE45))
        unfold evV at hadd
        dsimp only at hadd
        have HM2 := Lib.hid hm2
        have HS3 := Lib.hid (hs3.ext hE45)
        have HE05 := Lib.hid (hE04.trans hE45)
        have HO3 : Hid (ob A3 = none ∨ ob A3 = ob A) := by
          show _ ∨ _
          rcases hob3 with h | h
          · exact .inl h
          · rw [h]; exact HOBR.out
        clear hnx hok hn26 hnl hm2 hle3 hbl2 hd3 hs3 hlen3 hLl hs2 hE45 hob3
        go_wp2_with (first
          | (go_at_call 24; refine Hid.out ?_))
        refine Hid.mk_ ((hadd).mono ?_)
        rintro e w6 ⟨rfl, hJ6, hK6⟩
        have hsz : w.heap.size ≤ (w4.alloc (Obj.cells #[.int .i64 y0, .string y1, .string y2, .string y3, .string y4, .int .i64 y5, .int .i64 y6, .int .i64 y7] 46)).heap.size := HE05.out.size_le
        have HJ6 : Hid (Jr w6 j (fun g => w.heap.size ≤ g) (L ++ [⟨y0, y1, y2, y3, y4, y5, y6, y7⟩]) (runJ (L ++ [⟨y0, y1, y2, y3, y4, y5, y6, y7⟩])).es (runJ (L ++ [⟨y0, y1, y2, y3, y4, y5, y6, y7⟩])).k (runJ (L ++ [⟨y0, y1, y2, y3, y4, y5, y6, y7⟩])).ks (runJ (L ++ [⟨y0, y1, y2, y3, y4, y5, y6, y7⟩])).bs) := by
          show Jr _ _ _ _ _ _ _ _
          rw [runJ_snoc]
          rw [HM2.out] at hJ6
          exact hJ6.mono fun g hg => hg.elim (fun h => h) fun h => Nat.le_trans hsz h
        have HS6 : Hid (SlB w6 A3 m3 (l.drop (runJ (L ++ [⟨y0, y1, y2, y3, y4, y5, y6, y7⟩])).bs.length)) := hK6.slb HS3.out fun g hg e => by
          rcases HO3.out with h | h
          · rw [h] at hg; cases hg
          · rw [h] at hg; have h1 := HOB.out g hg; have h2 : w.heap.size ≤ g := e; omega
        have HE6 : Hid (Ext w w6) := Below.trans HE05.out (hK6.toBelow hsz (fun _ h => h))
        clear hJ6 hK6 hadd
        go_wp2
        go_roundw
        case rel =>
          first
          | exact ⟨_, A3, m3, c3, rfl, hmc3, hm3m, HJ6.out, HS6.out, HX.out, HO3.out, HE6.out⟩
          | (repeat apply Exists.intro
             refine ⟨?rl, ?fr⟩
             case fr => exact rfl
             case rl => exact ⟨_, A3, m3, c3, rfl, hmc3, hm3m, HJ6.out, HS6.out, HX.out, HO3.out, HE6.out⟩)
        case measure => simp [msr]; omega
    · have hi1 : ¬ (0 : Int) < (mr : Int) := by omega
      have HF : Hid (FinJ l L 0) := ⟨HR.out, .inl ⟨by rw [← HL.out]; omega, rfl⟩⟩
      clear hk hes hks hbl hlr
      go_wp2_with (first
        | (go_at_call 23; refine Hid.out ?_))
      refine Hid.mk_ ((buflen_any HJ.out).mono ?_)
      rintro e w6 ⟨rfl, hE6⟩
      have HJ6 := Lib.hid (HJ.out.ext hE6)
      have hE06 := HE.out.trans hE6
      go_wp2
      go_ret3
      exact ⟨⟨j, L, _, 0, rfl, .inl ⟨HF.out, rfl⟩, HJ6.out⟩, hE06⟩
end
end Go.Proofs.YtoghaehcmbonnaaGreatDoor
