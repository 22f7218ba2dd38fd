/- The program's effective locales: merged. -/
import Derived.Test.YtdgppdiickmofaaGreatDoorPQ30
import Derived.Test.YtdgppdiickmofaaGreatDoorPQ31
namespace Go.Proofs.YtdgppdiickmofaaGreatDoor
open Go.RowKit
set_option maxRecDepth 100000
attribute [local go_sem] ext_refl_t ext_alloc_t ext_drew_t ext_drewN_t ext_alloc2_t ext_alloc3_t ext_alloc4_t ext_alloc5_t ext_alloc6_t ext_alloc7_t ext_alloc8_t ext_alloc1d_t ext_alloc2d_t ext_alloc3d_t ext_alloc4d_t
attribute [local go_sem] yielded_undef
/-- What merged holds between two rounds: the row of what is found, the map of the keys, the boxes of its functions. -/
structure MgS {α κ : Type} (cs : α → List Value) (T : TypeId) (k : Nat) (KT CT : TypeId) (kf cf : Nat) (key : α → κ) (M : World → Nat → Nat → List κ → Prop) (w wr : World) (gk gc bm : Nat) (out : List α) (A : Option Addr) (m c : Nat) : Prop where
  ext : Ext w wr
  os : OsC cs T k wr w.heap.size A m c out
  sm : M wr bm m (out.map key)
  bk : Blk wr gk KT #[.func (.func kf) #[] #[]]
  bc : Blk wr gc CT #[.func (.func cf) #[] #[]]
  ge : w.heap.size ≤ bm
  ne : gk ≠ bm ∧ gc ≠ bm ∧ ob A ≠ some bm
  lt : bm < wr.heap.size
section
variable {α κ : Type} {cs : α → List Value} {T : TypeId} {k : Nat} {KT CT : TypeId} {kf cf : Nat} {key : α → κ} {M : World → Nat → Nat → List κ → Prop} {w wr w2 w3 w4 : World} {gk gc bm : Nat} {out : List α} {A : Option Addr} {m c : Nat}
theorem MgS.ext_ (h : MgS cs T k KT CT kf cf key M w wr gk gc bm out A m c) (hE : Ext wr w2) (hM : ∀ {W W' : World} {b n : Nat} {S : List κ} {r : Option Nat}, M W b n S → W.grownBy W' r → some b ≠ r → M W' b n S) : MgS cs T k KT CT kf cf key M w w2 gk gc bm out A m c :=
  ⟨h.ext.trans hE, h.os.ext hE, hM h.sm (hE.grownBy none) (by simp), h.bk.below hE h.bk.lt, h.bc.below hE h.bc.lt, h.ge, h.ne, Nat.lt_of_lt_of_le h.lt hE.size_le⟩
/-- One element more: its key is stored, an allocation, it is appended. -/
theorem MgS.more (h : MgS cs T k KT CT kf cf key M w wr gk gc bm out A m c) (hM : ∀ {W W' : World} {b n : Nat} {S : List κ} {r : Option Nat}, M W b n S → W.grownBy W' r → some b ≠ r → M W' b n S) {x : α} (hs : M w2 bm (m + 1) (out.map key ++ [key x])) (hg : wr.grownBy w2 (some bm)) (hE : Ext w2 w3) {A' : Option Addr} {m' c' : Nat}
    (ho : OsC cs T k w4 w.heap.size A' m' c' (out ++ [x])) (hg4 : w3.grownBy w4 (ob A)) (hn : NewOr w3.heap.size (ob A) (ob A')) (hKT : KT ≠ T) (hCT : CT ≠ T) : MgS cs T k KT CT kf cf key M w w4 gk gc bm (out ++ [x]) A' m' c' := by
  have ho3 := (h.os.kept hg (by rcases hA : ob A with _ | g; exact .inl rfl; exact .inr (by rw [← hA]; exact h.ne.2.2))).ext hE
  have hE2 : Ext w w2 := h.ext.grown hg (fun j hj => by injection hj with hj; rw [← hj]; exact h.ge)
  have hb2 : Blk w3 gk KT #[.func (.func kf) #[] #[]] := by
    have h1 : Blk w2 gk KT #[.func (.func kf) #[] #[]] := h.bk.grown hg (by simpa using h.ne.1)
    exact h1.below hE h1.lt
  have hb3 : Blk w3 gc CT #[.func (.func cf) #[] #[]] := by
    have h1 : Blk w2 gc CT #[.func (.func cf) #[] #[]] := h.bc.grown hg (by simpa using h.ne.2.1)
    exact h1.below hE h1.lt
  have hm : m' = m + 1 := by
    have h1 := ho.len
    have h2 := h.os.len
    rw [List.length_append] at h1
    simp only [List.length_singleton] at h1
    omega
  have hlt3 : bm < w3.heap.size := Nat.lt_of_lt_of_le h.lt (Nat.le_trans hg.size hE.size_le)
  subst hm
  refine ⟨(hE2.trans hE).grown hg4 (fun j hj => ho3.ge j hj), ho, ?_, ?_, ?_, h.ge, ⟨h.ne.1, h.ne.2.1, ?_⟩, Nat.lt_of_lt_of_le hlt3 hg4.size⟩
  · rw [List.map_append, List.map_singleton]
    exact hM (hM hs (hE.grownBy none) (by simp)) hg4 (fun e => h.ne.2.2 e.symm)
  · refine hb2.grown hg4 fun e => ?_
    obtain ⟨ys, hy⟩ := ho3.blk_ e.symm
    exact Blk.ne_ hb2 hy hKT rfl
  · refine hb3.grown hg4 fun e => ?_
    obtain ⟨ys, hy⟩ := ho3.blk_ e.symm
    exact Blk.ne_ hb3 hy hCT rfl
  · intro e
    rcases hn bm e with h1 | h1
    · omega
    · exact h.ne.2.2 h1
end
end Go.Proofs.YtdgppdiickmofaaGreatDoor

/- The program's effective locales: merged. -/
namespace Go.Proofs.YtdgppdiickmofaaGreatDoor
open Go.RowKit
set_option maxRecDepth 100000
attribute [local go_sem] ext_refl_t ext_alloc_t ext_drew_t ext_drewN_t ext_alloc2_t ext_alloc3_t ext_alloc4_t ext_alloc5_t ext_alloc6_t ext_alloc7_t ext_alloc8_t ext_alloc1d_t ext_alloc2d_t ext_alloc3d_t ext_alloc4d_t
attribute [local go_sem] yielded_undef
section
variable {w : World}
set_option maxHeartbeats 12800000 in
theorem mergedL_any {A : Option Addr} {m c : Nat} {L : List (SlH × List LpP)} (hs : SlC shC 1 w A m (L.map Prod.fst)) (hl : L.length ≤ 12) (hc : ∀ x ∈ L, HW lpC 5 80 GdL w x.1 x.2 ∧ x.2.length ≤ 120) :
    Calls Tryz.prog 26 #[.slice A m c, .func (.func 29) #[] #[], .func (.func 30) #[] #[]] w fun e w' => (∃ (h : SlH) (r : List LpP), e = .returned (.slice h.A h.m h.c) ∧ (∀ j, ob h.A = some j → w.heap.size ≤ j) ∧ HW lpC 5 80 GdL w' h r ∧ MgP LpP.st cmpL (L.map Prod.snd).flatten r) ∧ Ext w w' := by
  have HL : Hid (m = L.length) := by have := hs.len; rw [List.length_map] at this; exact this
  have hm12 : m ≤ 12 := by have := HL.out; omega
  have HS := Lib.hid hs
  have HC := Lib.hid hc
  clear hs hl hc
  have HKX : Hid (∀ W (y : LpP), Calls Tryz.prog 29 #[.agg #[.string (str y.st), .string (str y.tw), .string (str y.sa), .string (str y.mi), .string (str y.en)]] W fun e w' => e = .returned (.string (str y.st)) ∧ Ext W w') := fun W y => key6X y
  obtain ⟨W1, hW1⟩ : ∃ W1, W1 = ((w.alloc (.cells #[.func (.func 29) #[] #[]] 75)).alloc (.cells #[.func (.func 30) #[] #[]] 76)).alloc (.map #[] 0) := ⟨_, rfl⟩
  obtain ⟨bm, hbm⟩ : ∃ b, b = w.heap.size + 1 + 1 := ⟨_, rfl⟩
  obtain ⟨gc, hgc⟩ : ∃ b, b = w.heap.size + 1 := ⟨_, rfl⟩
  obtain ⟨gk, hgk⟩ : ∃ b, b = w.heap.size := ⟨_, rfl⟩
  have hS0 : Hid (MgS lpC 71 5 75 76 29 30 LpP.st SM w W1 gk gc bm [] none 0 0) := by
    have h0 : Ext w ((w.alloc (.cells #[.func (.func 29) #[] #[]] 75)).alloc (.cells #[.func (.func 30) #[] #[]] 76)) := ((Ext.refl w).alloc _).alloc _
    have hb1 := (Blk.new w 75 #[.func (.func 29) #[] #[]]).alloc (.cells #[.func (.func 30) #[] #[]] 76)
    have hb2 := blk_new1 w (.cells #[.func (.func 29) #[] #[]] 75) 76 #[.func (.func 30) #[] #[]]
    have e2 : ((w.alloc (.cells #[.func (.func 29) #[] #[]] 75)).alloc (.cells #[.func (.func 30) #[] #[]] 76)).heap.size = w.heap.size + 1 + 1 := by simp
    have hsm := SM.made ((w.alloc (.cells #[.func (.func 29) #[] #[]] 75)).alloc (.cells #[.func (.func 30) #[] #[]] 76))
    rw [e2] at hsm
    show MgS _ _ _ _ _ _ _ _ _ _ _ _ _ _ _ _ _ _
    rw [hW1, hbm, hgc, hgk]
    exact ⟨h0.alloc _, OsC.nil_ lpC_len lpC_cell, hsm, hb1.alloc _, hb2.alloc _, by omega, ⟨by omega, by omega, by simp [ob]⟩, hsm.lt⟩
  have HW1 := Lib.hid hW1
  have HBM := Lib.hid hbm
  have HGC := Lib.hid hgc
  have HGK := Lib.hid hgk
  clear hW1 hbm hgc hgk
  have hmm := @run_makeMap Tryz.prog
  go_enter Tryz.func26, Tryz.ntmps26
  go_upto_region 3 with fail
  rw [← HW1.out, ← HBM.out, ← HGC.out, ← HGK.out]
  clear hmm
  go_wp2
  go_loopw [7, 10, 12, 16] (fun s7 _ _ i wr => ∃ (q : Nat) (A' : Option Addr) (m' c' : Nat), q ≤ m ∧ i = .int .i64 q ∧ s7 = .slice A' m' c' ∧ Hid (MgS lpC 71 5 75 76 29 30 LpP.st SM w wr gk gc bm (firstsP LpP.st ((L.take q).map Prod.snd).flatten) A' m' c')) (fun _ _ _ i _ => m - (intOf i).toNat)
  case atStart => exact ⟨0, none, 0, 0, Nat.zero_le _, rfl, rfl, hS0⟩
  case round =>
    obtain ⟨q, A', m', c', hq, rfl, rfl, HM⟩ := hrel
    by_cases hlt : q < m
    · obtain ⟨b, off, e0, hbl, hcs⟩ := (HS.out.ext HM.out.ext).at_ hlt (by omega)
      subst e0
      have hil : q < L.length := by rw [← HL.out]; exact hlt
      have x0 := hcs q (by rw [List.length_map]; exact hil) 0 (by omega)
      obtain ⟨⟨⟨TA, tm, tc⟩, l⟩, hyq⟩ : ∃ y, y = L[q] := ⟨_, rfl⟩
      simp only [List.getElem_map, ← hyq, shC, List.getElem_cons_zero, Nat.add_zero, Nat.mul_one] at x0
      have hcc := HC.out _ (List.getElem_mem hil)
      rw [← hyq] at hcc
      dsimp only at hcc
      have HCC := Lib.hid hcc
      have HTL : Hid (tm = l.length) := hcc.1.sl.len
      have htle : tm ≤ 120 := by have := hcc.2; have := HTL.out; omega
      have HFD : Hid (((L.take (q + 1)).map Prod.snd).flatten = ((L.take q).map Prod.snd).flatten ++ l) := by
        show _ = _
        rw [List.take_succ_eq_append_getElem hil, List.map_append, List.flatten_append, ← hyq]
        simp
      have HFB : Hid (((L.take q).map Prod.snd).flatten.length ≤ 120 * q) := by
        show _ ≤ _
        rw [List.length_flatten]
        refine Nat.le_trans (sum_le_of_all _ 120 fun n hn => ?_) ?_
        · obtain ⟨y, hy, rfl⟩ := List.mem_map.1 hn
          obtain ⟨z, hz, rfl⟩ := List.mem_map.1 hy
          exact (HC.out z (List.mem_of_mem_take hz)).2
        · rw [List.length_map, List.length_map, List.length_take]
          exact Nat.mul_le_mul_left _ (Nat.min_le_left _ _)
      obtain ⟨pre, hpre⟩ : ∃ p, p = ((L.take q).map Prod.snd).flatten := ⟨_, rfl⟩
      rw [← hpre] at HFD HFB HM
      have hi1 : (q : Int) < (m : Int) := by omega
      clear hcs hbl hyq hcc hpre
      go_wp2
      clear x0
      obtain ⟨w3, hw3⟩ : ∃ w3 : World, w3 = wr := ⟨_, rfl⟩
      rw [← hw3] at HM ⊢
      clear hw3
      go_loopw [7, 12, 22] (fun s7 _ i wr => ∃ (p : Nat) (A1 : Option Addr) (m1 c1 : Nat), p ≤ tm ∧ i = .int .i64 p ∧ s7 = .slice A1 m1 c1 ∧ Hid (MgS lpC 71 5 75 76 29 30 LpP.st SM w wr gk gc bm (firstsP LpP.st (pre ++ l.take p)) A1 m1 c1)) (fun _ _ i _ => tm - (intOf i).toNat)
      case atStart => exact ⟨0, A', m', c', Nat.zero_le _, rfl, rfl, by rw [List.take_zero, List.append_nil]; exact HM⟩
      case round =>
        obtain ⟨p, A1, m1, c1, hp, rfl, rfl, HN⟩ := hrel
        by_cases hlt2 : p < tm
        · obtain ⟨b2, off2, e0, hbl, hcs⟩ := (HCC.out.1.sl.ext HN.out.ext).at_ hlt2 (by omega)
          dsimp only at e0
          subst e0
          have hil2 : p < l.length := by rw [← HTL.out]; exact hlt2
          obtain ⟨y, hyq⟩ : ∃ y, y = l[p] := ⟨_, rfl⟩
          have y0 := hcs p hil2 0 (by omega)
          have y1 := hcs p hil2 1 (by omega)
          have y2 := hcs p hil2 2 (by omega)
          have y3 := hcs p hil2 3 (by omega)
          have y4 := hcs p hil2 4 (by omega)
          simp only [← hyq, lpC, List.getElem_cons_zero, List.getElem_cons_succ, Nat.add_zero, ← Nat.add_assoc] at y0 y1 y2 y3 y4
          have HGD : Hid (GdL y) := HCC.out.1.good y (by rw [hyq]; exact List.getElem_mem hil2)
          have HFE : Hid (firstsP LpP.st (pre ++ l.take (p + 1)) = addP LpP.st (firstsP LpP.st (pre ++ l.take p)) y) := by
            show _ = _
            rw [List.take_succ_eq_append_getElem hil2, ← hyq, ← List.append_assoc, firstsP_snoc]
          have HFL : Hid (m1 ≤ 120 * q + p) := by
            show _ ≤ _
            rw [HN.out.os.len]
            refine Nat.le_trans (firstsP_len _ _) ?_
            rw [List.length_append, List.length_take]
            have := HFB.out
            omega
          obtain ⟨fo, hfo⟩ : ∃ f, f = firstsP LpP.st (pre ++ l.take p) := ⟨_, rfl⟩
          rw [← hfo] at HFE HN
          have hi2 : (p : Int) < (tm : Int) := by omega
          obtain ⟨W6, hW6⟩ : ∃ W6, W6 = wr.alloc (.cells #[.string (str y.st), .string (str y.tw), .string (str y.sa), .string (str y.mi), .string (str y.en)] 71) := ⟨_, rfl⟩
          obtain ⟨g6, hg6⟩ : ∃ g, g = wr.heap.size := ⟨_, rfl⟩
          have hE6 : Ext wr W6 := by rw [hW6]; exact (Ext.refl wr).alloc _
          have HB6 : Hid (Blk W6 g6 71 #[.string (str y.st), .string (str y.tw), .string (str y.sa), .string (str y.mi), .string (str y.en)]) := by show Blk _ _ _ _; rw [hW6, hg6]; exact Blk.new wr 71 _
          have HW6 := Lib.hid hW6
          have HG6 := Lib.hid hg6
          have HE6 := Lib.hid hE6
          have HGB : Hid (g6 ≠ bm) := by show _ ≠ _; rw [hg6]; have := HN.out.lt; omega
          have HN6 : Hid (MgS lpC 71 5 75 76 29 30 LpP.st SM w W6 gk gc bm fo A1 m1 c1) := HN.out.ext_ hE6 SM.kept
          clear hcs hbl hyq hW6 hg6 hE6 hfo
          go_upto_region 9 with fail
          rw [← HW6.out, ← HG6.out]
          clear y0 y1 y2 y3 y4
          have y0 := show W6.cell? ⟨g6, 0, none⟩ = some (.string (str y.st)) from HB6.out.cell 0
          have y1 := show W6.cell? ⟨g6, 1, none⟩ = some (.string (str y.tw)) from HB6.out.cell 1
          have y2 := show W6.cell? ⟨g6, 2, none⟩ = some (.string (str y.sa)) from HB6.out.cell 2
          have y3 := show W6.cell? ⟨g6, 3, none⟩ = some (.string (str y.mi)) from HB6.out.cell 3
          have y4 := show W6.cell? ⟨g6, 4, none⟩ = some (.string (str y.en)) from HB6.out.cell 4
          have zk := show W6.cell? ⟨gk, 0, none⟩ = some (.func (.func 29) #[] #[]) from HN6.out.bk.cell 0
          go_wp2_with (first
            | (go_at_call 29; refine Hid.out ?_))
          refine Hid.mk_ ((HKX.out _ y).mono ?_)
          rintro e w7 ⟨rfl, hE7⟩
          have HE7 := Lib.hid hE7
          have HN7 : Hid (MgS lpC 71 5 75 76 29 30 LpP.st SM w w7 gk gc bm fo A1 m1 c1) := HN6.out.ext_ hE7 SM.kept
          have hlk := HN7.out.sm.look y.st (Nat.le_trans HGD.out (by simp [maxLen]))
          clear y0 y1 y2 y3 y4 zk hE7
          obtain ⟨bq, hbq⟩ : ∃ b, b = decide (LpP.st y ∈ fo.map LpP.st) := ⟨_, rfl⟩
          have HBQ := Lib.hid hbq
          rw [← hbq] at hlk
          clear hbq
          cases bq with
          | true =>
            have HFN : Hid (firstsP LpP.st (pre ++ l.take (p + 1)) = fo) := by show _ = _; rw [HFE.out]; exact addP_yes (of_decide_eq_true HBQ.out.symm)
            go_wp2
            go_roundw
            case rel => exact ⟨p + 1, A1, m1, c1, by omega, by go_num, rfl, by rw [HFN.out]; exact HN7⟩
            case measure => simp [intOf]; omega
          | false =>
            have HFN : Hid (firstsP LpP.st (pre ++ l.take (p + 1)) = fo ++ [y]) := by show _ = _; rw [HFE.out]; exact addP_no (of_decide_eq_false HBQ.out.symm)
            have HB7 : Hid (Blk w7 g6 71 #[.string (str y.st), .string (str y.tw), .string (str y.sa), .string (str y.mi), .string (str y.en)]) := HB6.out.below HE7.out HB6.out.lt
            have y0 := show w7.cell? ⟨g6, 0, none⟩ = some (.string (str y.st)) from HB7.out.cell 0
            have y1 := show w7.cell? ⟨g6, 1, none⟩ = some (.string (str y.tw)) from HB7.out.cell 1
            have y2 := show w7.cell? ⟨g6, 2, none⟩ = some (.string (str y.sa)) from HB7.out.cell 2
            have y3 := show w7.cell? ⟨g6, 3, none⟩ = some (.string (str y.mi)) from HB7.out.cell 3
            have y4 := show w7.cell? ⟨g6, 4, none⟩ = some (.string (str y.en)) from HB7.out.cell 4
            have zk := show w7.cell? ⟨gk, 0, none⟩ = some (.func (.func 29) #[] #[]) from HN7.out.bk.cell 0
            go_wp2_with (first
              | (go_at_call 29; refine Hid.out ?_))
            refine Hid.mk_ ((HKX.out _ y).mono ?_)
            rintro e w8 ⟨rfl, hE8⟩
            have HN8 : Hid (MgS lpC 71 5 75 76 29 30 LpP.st SM w w8 gk gc bm fo A1 m1 c1) := HN7.out.ext_ hE8 SM.kept
            have hnl : m1 < maxLen := by have := HFL.out; simp [maxLen]; omega
            obtain ⟨w9, hrun, hS9, hg9⟩ := HN8.out.sm.store hnl y.st (Nat.le_trans HGD.out (by simp [maxLen]))
            have HB9 : Hid (Blk w9 g6 71 #[.string (str y.st), .string (str y.tw), .string (str y.sa), .string (str y.mi), .string (str y.en)]) := (HB7.out.below hE8 HB7.out.lt).grown hg9 (by simpa using HGB.out)
            have HS9 := Lib.hid hS9
            have HG9 := Lib.hid hg9
            have hnew : SlC lpC 5 (w9.alloc (.cells #[.string (str y.st), .string (str y.tw), .string (str y.sa), .string (str y.mi), .string (str y.en)] 71)) (some ⟨w9.heap.size, 0, none⟩) 1 [y] := SlC.new_ (cs := lpC) w9 [y] lpC_len (by simp) _ rfl (0, 0) _ rfl _
            have HNEW := Lib.hid hnew
            have HEA := Lib.hid ((Ext.refl w9).alloc (.cells #[.string (str y.st), .string (str y.tw), .string (str y.sa), .string (str y.mi), .string (str y.en)] 71))
            have HO9 := Lib.hid ((HN8.out.os.kept hg9 (by rcases hA : ob A1 with _ | g; exact .inl rfl; exact .inr (by rw [← hA]; exact HN8.out.ne.2.2))).ext HEA.out)
            have hbase : w.heap.size ≤ (w9.alloc (.cells #[.string (str y.st), .string (str y.tw), .string (str y.sa), .string (str y.mi), .string (str y.en)] 71)).heap.size := Nat.le_trans HN8.out.ext.size_le (Nat.le_trans hg9.size HEA.out.size_le)
            clear hnew y0 y1 y2 y3 y4 zk hlk hE8 hS9 hg9 hnl
            have HBX := HB9
            have y0 := show w9.cell? ⟨g6, 0, none⟩ = some (.string (str y.st)) from HBX.out.cell 0
            have y1 := show w9.cell? ⟨g6, 1, none⟩ = some (.string (str y.tw)) from HBX.out.cell 1
            have y2 := show w9.cell? ⟨g6, 2, none⟩ = some (.string (str y.sa)) from HBX.out.cell 2
            have y3 := show w9.cell? ⟨g6, 3, none⟩ = some (.string (str y.mi)) from HBX.out.cell 3
            have y4 := show w9.cell? ⟨g6, 4, none⟩ = some (.string (str y.en)) from HBX.out.cell 4
            go_wp2_with (first
              | (at_builtin; refine Hid.out ?_))
            refine Hid.mk_ ?_
            refine appC einfo_lp rfl _ _ rfl HO9.out rfl HNEW.out rfl (by have := HFL.out; omega) hbase ?_
            intro Aa ma ca wa hoa hga hna
            have HNA : Hid (MgS lpC 71 5 75 76 29 30 LpP.st SM w wa gk gc bm (firstsP LpP.st (pre ++ l.take (p + 1))) Aa ma ca) := by
              rw [HFN.out]
              exact HN8.out.more SM.kept HS9.out HG9.out HEA.out hoa hga hna (by decide) (by decide)
            clear hoa hga hna hbase y0 y1 y2 y3 y4 hrun
            go_wp2
            go_roundw
            case rel => exact ⟨p + 1, Aa, ma, ca, by omega, by go_num, rfl, HNA⟩
            case measure => simp [intOf]; omega
        · have hi2 : ¬ (p : Int) < (tm : Int) := by omega
          have HFN : Hid (firstsP LpP.st (pre ++ l.take p) = firstsP LpP.st ((L.take (q + 1)).map Prod.snd).flatten) := by show _ = _; rw [HFD.out, List.take_of_length_le (by have := HTL.out; omega)]
          rw [HFN.out] at HN
          go_wp2
          go_roundw
          case rel => exact ⟨q + 1, A1, m1, c1, by omega, by go_num, rfl, HN⟩
          case measure => simp [intOf]; omega
    · have hi1 : ¬ (q : Int) < (m : Int) := by omega
      have HFN : Hid (((L.take q).map Prod.snd).flatten = (L.map Prod.snd).flatten) := by show _ = _; rw [List.take_of_length_le (by have := HL.out; omega)]
      rw [HFN.out] at HM
      have HSRT := Lib.hid (sortLP_any HM.out.os (HM.out.bc.cell 0) (HM.out.bk.cell 0) (fun e => by obtain ⟨ys, hy⟩ := HM.out.os.blk_ e; exact Blk.ne_ HM.out.bc hy (by decide) rfl) (fun e => by obtain ⟨ys, hy⟩ := HM.out.os.blk_ e; exact Blk.ne_ HM.out.bk hy (by decide) rfl))
      go_wp2_with (first
        | (go_at_call 57; refine Hid.out ?_))
      refine Hid.mk_ ((HSRT.out).mono ?_)
      rintro e w5 ⟨rfl, ⟨r, hr, hp, hw⟩, hg⟩
      have HR := Lib.hid hr
      have HP := Lib.hid hp
      have HWW := Lib.hid hw
      have HEE : Hid (Ext w w5) := HM.out.ext.grown hg (fun j hj => HM.out.os.ge j hj)
      clear hr hp hw hg
      go_wp2
      go_ret
      refine ⟨⟨⟨A', m', c'⟩, r, rfl, fun j hj => HM.out.os.ge j hj, ⟨HR.out, HM.out.os.cap, ?_, fun x hx => ?_⟩, HP.out, HWW.out⟩, HEE.out⟩
      · show m' * _ ≤ _
        have h1 := HM.out.os.len
        have h2 := firstsP_len LpP.st (L.map Prod.snd).flatten
        have h3 : (L.map Prod.snd).flatten.length ≤ 120 * L.length := by
          rw [List.length_flatten]
          refine Nat.le_trans (sum_le_of_all _ 120 fun n hn => ?_) ?_
          · obtain ⟨y, hy, rfl⟩ := List.mem_map.1 hn
            obtain ⟨z, hz, rfl⟩ := List.mem_map.1 hy
            exact (HC.out z hz).2
          · rw [List.length_map, List.length_map]
            exact Nat.le_refl _
        have h4 := HL.out
        omega
      · have h1 := firstsP_mem LpP.st (HP.out.mem_iff.1 hx)
        obtain ⟨y, hy, hxy⟩ := List.mem_flatten.1 h1
        obtain ⟨z, hz, rfl⟩ := List.mem_map.1 hy
        exact (HC.out z hz).1.good x hxy
end
end Go.Proofs.YtdgppdiickmofaaGreatDoor

/- The program's effective locales: merged. -/
namespace Go.Proofs.YtdgppdiickmofaaGreatDoor
open Go.RowKit
set_option maxRecDepth 100000
attribute [local go_sem] ext_refl_t ext_alloc_t ext_drew_t ext_drewN_t ext_alloc2_t ext_alloc3_t ext_alloc4_t ext_alloc5_t ext_alloc6_t ext_alloc7_t ext_alloc8_t ext_alloc1d_t ext_alloc2d_t ext_alloc3d_t ext_alloc4d_t
attribute [local go_sem] yielded_undef
section
variable {w : World}
set_option maxHeartbeats 12800000 in
theorem mergedU_any {A : Option Addr} {m c : Nat} {L : List (SlH × List UpP)} (hs : SlC shC 1 w A m (L.map Prod.fst)) (hl : L.length ≤ 12) (hc : ∀ x ∈ L, HW upC 3 48 GdU w x.1 x.2 ∧ x.2.length ≤ 120) :
    Calls Tryz.prog 31 #[.slice A m c, .func (.func 34) #[] #[], .func (.func 35) #[] #[]] w fun e w' => (∃ (h : SlH) (r : List UpP), e = .returned (.slice h.A h.m h.c) ∧ (∀ j, ob h.A = some j → w.heap.size ≤ j) ∧ HW upC 3 48 GdU w' h r ∧ MgP upK cmpQ (L.map Prod.snd).flatten r) ∧ Ext w w' := by
  have HL : Hid (m = L.length) := by have := hs.len; rw [List.length_map] at this; exact this
  have hm12 : m ≤ 12 := by have := HL.out; omega
  have HS := Lib.hid hs
  have HC := Lib.hid hc
  clear hs hl hc
  have HKX : Hid (∀ W (y : UpP), Calls Tryz.prog 34 #[.agg #[.string (str y.un), .string (str y.cl), .string (str y.pa)]] W fun e w' => e = .returned (prV (upK y)) ∧ Ext W w') := fun W y => key8X y
  obtain ⟨W1, hW1⟩ : ∃ W1, W1 = ((w.alloc (.cells #[.func (.func 34) #[] #[]] 84)).alloc (.cells #[.func (.func 35) #[] #[]] 86)).alloc (.map #[] 0) := ⟨_, rfl⟩
  obtain ⟨bm, hbm⟩ : ∃ b, b = w.heap.size + 1 + 1 := ⟨_, rfl⟩
  obtain ⟨gc, hgc⟩ : ∃ b, b = w.heap.size + 1 := ⟨_, rfl⟩
  obtain ⟨gk, hgk⟩ : ∃ b, b = w.heap.size := ⟨_, rfl⟩
  have hS0 : Hid (MgS upC 79 3 84 86 34 35 upK SPU w W1 gk gc bm [] none 0 0) := by
    have h0 : Ext w ((w.alloc (.cells #[.func (.func 34) #[] #[]] 84)).alloc (.cells #[.func (.func 35) #[] #[]] 86)) := ((Ext.refl w).alloc _).alloc _
    have hb1 := (Blk.new w 84 #[.func (.func 34) #[] #[]]).alloc (.cells #[.func (.func 35) #[] #[]] 86)
    have hb2 := blk_new1 w (.cells #[.func (.func 34) #[] #[]] 84) 86 #[.func (.func 35) #[] #[]]
    have e2 : ((w.alloc (.cells #[.func (.func 34) #[] #[]] 84)).alloc (.cells #[.func (.func 35) #[] #[]] 86)).heap.size = w.heap.size + 1 + 1 := by simp
    have hsm := SPU.made ((w.alloc (.cells #[.func (.func 34) #[] #[]] 84)).alloc (.cells #[.func (.func 35) #[] #[]] 86))
    rw [e2] at hsm
    show MgS _ _ _ _ _ _ _ _ _ _ _ _ _ _ _ _ _ _
    rw [hW1, hbm, hgc, hgk]
    exact ⟨h0.alloc _, OsC.nil_ upC_len upC_cell, hsm, hb1.alloc _, hb2.alloc _, by omega, ⟨by omega, by omega, by simp [ob]⟩, hsm.lt⟩
  have HW1 := Lib.hid hW1
  have HBM := Lib.hid hbm
  have HGC := Lib.hid hgc
  have HGK := Lib.hid hgk
  clear hW1 hbm hgc hgk
  have hmm := @run_makeMap Tryz.prog
  go_enter Tryz.func31, Tryz.ntmps31
  go_upto_region 3 with fail
  rw [← HW1.out, ← HBM.out, ← HGC.out, ← HGK.out]
  clear hmm
  go_wp2
  go_loopw [7, 10, 12, 16] (fun s7 _ _ i wr => ∃ (q : Nat) (A' : Option Addr) (m' c' : Nat), q ≤ m ∧ i = .int .i64 q ∧ s7 = .slice A' m' c' ∧ Hid (MgS upC 79 3 84 86 34 35 upK SPU w wr gk gc bm (firstsP upK ((L.take q).map Prod.snd).flatten) A' m' c')) (fun _ _ _ i _ => m - (intOf i).toNat)
  case atStart => exact ⟨0, none, 0, 0, Nat.zero_le _, rfl, rfl, hS0⟩
  case round =>
    obtain ⟨q, A', m', c', hq, rfl, rfl, HM⟩ := hrel
    by_cases hlt : q < m
    · obtain ⟨b, off, e0, hbl, hcs⟩ := (HS.out.ext HM.out.ext).at_ hlt (by omega)
      subst e0
      have hil : q < L.length := by rw [← HL.out]; exact hlt
      have x0 := hcs q (by rw [List.length_map]; exact hil) 0 (by omega)
      obtain ⟨⟨⟨TA, tm, tc⟩, l⟩, hyq⟩ : ∃ y, y = L[q] := ⟨_, rfl⟩
      simp only [List.getElem_map, ← hyq, shC, List.getElem_cons_zero, Nat.add_zero, Nat.mul_one] at x0
      have hcc := HC.out _ (List.getElem_mem hil)
      rw [← hyq] at hcc
      dsimp only at hcc
      have HCC := Lib.hid hcc
      have HTL : Hid (tm = l.length) := hcc.1.sl.len
      have htle : tm ≤ 120 := by have := hcc.2; have := HTL.out; omega
      have HFD : Hid (((L.take (q + 1)).map Prod.snd).flatten = ((L.take q).map Prod.snd).flatten ++ l) := by
        show _ = _
        rw [List.take_succ_eq_append_getElem hil, List.map_append, List.flatten_append, ← hyq]
        simp
      have HFB : Hid (((L.take q).map Prod.snd).flatten.length ≤ 120 * q) := by
        show _ ≤ _
        rw [List.length_flatten]
        refine Nat.le_trans (sum_le_of_all _ 120 fun n hn => ?_) ?_
        · obtain ⟨y, hy, rfl⟩ := List.mem_map.1 hn
          obtain ⟨z, hz, rfl⟩ := List.mem_map.1 hy
          exact (HC.out z (List.mem_of_mem_take hz)).2
        · rw [List.length_map, List.length_map, List.length_take]
          exact Nat.mul_le_mul_left _ (Nat.min_le_left _ _)
      obtain ⟨pre, hpre⟩ : ∃ p, p = ((L.take q).map Prod.snd).flatten := ⟨_, rfl⟩
      rw [← hpre] at HFD HFB HM
      have hi1 : (q : Int) < (m : Int) := by omega
      clear hcs hbl hyq hcc hpre
      go_wp2
      clear x0
      obtain ⟨w3, hw3⟩ : ∃ w3 : World, w3 = wr := ⟨_, rfl⟩
      rw [← hw3] at HM ⊢
      clear hw3
      go_loopw [7, 12, 22] (fun s7 _ i wr => ∃ (p : Nat) (A1 : Option Addr) (m1 c1 : Nat), p ≤ tm ∧ i = .int .i64 p ∧ s7 = .slice A1 m1 c1 ∧ Hid (MgS upC 79 3 84 86 34 35 upK SPU w wr gk gc bm (firstsP upK (pre ++ l.take p)) A1 m1 c1)) (fun _ _ i _ => tm - (intOf i).toNat)
      case atStart => exact ⟨0, A', m', c', Nat.zero_le _, rfl, rfl, by rw [List.take_zero, List.append_nil]; exact HM⟩
      case round =>
        obtain ⟨p, A1, m1, c1, hp, rfl, rfl, HN⟩ := hrel
        by_cases hlt2 : p < tm
        · obtain ⟨b2, off2, e0, hbl, hcs⟩ := (HCC.out.1.sl.ext HN.out.ext).at_ hlt2 (by omega)
          dsimp only at e0
          subst e0
          have hil2 : p < l.length := by rw [← HTL.out]; exact hlt2
          obtain ⟨y, hyq⟩ : ∃ y, y = l[p] := ⟨_, rfl⟩
          have y0 := hcs p hil2 0 (by omega)
          have y1 := hcs p hil2 1 (by omega)
          have y2 := hcs p hil2 2 (by omega)
          simp only [← hyq, upC, List.getElem_cons_zero, List.getElem_cons_succ, Nat.add_zero, ← Nat.add_assoc] at y0 y1 y2
          have HGD : Hid (GdU y) := HCC.out.1.good y (by rw [hyq]; exact List.getElem_mem hil2)
          have HFE : Hid (firstsP upK (pre ++ l.take (p + 1)) = addP upK (firstsP upK (pre ++ l.take p)) y) := by
            show _ = _
            rw [List.take_succ_eq_append_getElem hil2, ← hyq, ← List.append_assoc, firstsP_snoc]
          have HFL : Hid (m1 ≤ 120 * q + p) := by
            show _ ≤ _
            rw [HN.out.os.len]
            refine Nat.le_trans (firstsP_len _ _) ?_
            rw [List.length_append, List.length_take]
            have := HFB.out
            omega
          obtain ⟨fo, hfo⟩ : ∃ f, f = firstsP upK (pre ++ l.take p) := ⟨_, rfl⟩
          rw [← hfo] at HFE HN
          have hi2 : (p : Int) < (tm : Int) := by omega
          obtain ⟨W6, hW6⟩ : ∃ W6, W6 = wr.alloc (.cells #[.string (str y.un), .string (str y.cl), .string (str y.pa)] 79) := ⟨_, rfl⟩
          obtain ⟨g6, hg6⟩ : ∃ g, g = wr.heap.size := ⟨_, rfl⟩
          have hE6 : Ext wr W6 := by rw [hW6]; exact (Ext.refl wr).alloc _
          have HB6 : Hid (Blk W6 g6 79 #[.string (str y.un), .string (str y.cl), .string (str y.pa)]) := by show Blk _ _ _ _; rw [hW6, hg6]; exact Blk.new wr 79 _
          have HW6 := Lib.hid hW6
          have HG6 := Lib.hid hg6
          have HE6 := Lib.hid hE6
          have HGB : Hid (g6 ≠ bm) := by show _ ≠ _; rw [hg6]; have := HN.out.lt; omega
          have HN6 : Hid (MgS upC 79 3 84 86 34 35 upK SPU w W6 gk gc bm fo A1 m1 c1) := HN.out.ext_ hE6 SPU.kept
          clear hcs hbl hyq hW6 hg6 hE6 hfo
          go_upto_region 9 with fail
          rw [← HW6.out, ← HG6.out]
          clear y0 y1 y2
          have y0 := show W6.cell? ⟨g6, 0, none⟩ = some (.string (str y.un)) from HB6.out.cell 0
          have y1 := show W6.cell? ⟨g6, 1, none⟩ = some (.string (str y.cl)) from HB6.out.cell 1
          have y2 := show W6.cell? ⟨g6, 2, none⟩ = some (.string (str y.pa)) from HB6.out.cell 2
          have zk := show W6.cell? ⟨gk, 0, none⟩ = some (.func (.func 34) #[] #[]) from HN6.out.bk.cell 0
          go_wp2_with (first
            | (go_at_call 34; refine Hid.out ?_))
          refine Hid.mk_ ((HKX.out _ y).mono ?_)
          rintro e w7 ⟨rfl, hE7⟩
          have HE7 := Lib.hid hE7
          have HN7 : Hid (MgS upC 79 3 84 86 34 35 upK SPU w w7 gk gc bm fo A1 m1 c1) := HN6.out.ext_ hE7 SPU.kept
          have hlk := HN7.out.sm.look (upK y) (Nat.le_trans HGD.out.1 (by simp [maxLen])) (Nat.le_trans HGD.out.2 (by simp [maxLen]))
          clear y0 y1 y2 zk hE7
          obtain ⟨bq, hbq⟩ : ∃ b, b = decide (upK y ∈ fo.map upK) := ⟨_, rfl⟩
          have HBQ := Lib.hid hbq
          rw [← hbq] at hlk
          clear hbq
          cases bq with
          | true =>
            have HFN : Hid (firstsP upK (pre ++ l.take (p + 1)) = fo) := by show _ = _; rw [HFE.out]; exact addP_yes (of_decide_eq_true HBQ.out.symm)
            go_wp2
            go_roundw
            case rel => exact ⟨p + 1, A1, m1, c1, by omega, by go_num, rfl, by rw [HFN.out]; exact HN7⟩
            case measure => simp [intOf]; omega
          | false =>
            have HFN : Hid (firstsP upK (pre ++ l.take (p + 1)) = fo ++ [y]) := by show _ = _; rw [HFE.out]; exact addP_no (of_decide_eq_false HBQ.out.symm)
            have HB7 : Hid (Blk w7 g6 79 #[.string (str y.un), .string (str y.cl), .string (str y.pa)]) := HB6.out.below HE7.out HB6.out.lt
            have y0 := show w7.cell? ⟨g6, 0, none⟩ = some (.string (str y.un)) from HB7.out.cell 0
            have y1 := show w7.cell? ⟨g6, 1, none⟩ = some (.string (str y.cl)) from HB7.out.cell 1
            have y2 := show w7.cell? ⟨g6, 2, none⟩ = some (.string (str y.pa)) from HB7.out.cell 2
            have zk := show w7.cell? ⟨gk, 0, none⟩ = some (.func (.func 34) #[] #[]) from HN7.out.bk.cell 0
            go_wp2_with (first
              | (go_at_call 34; refine Hid.out ?_))
            refine Hid.mk_ ((HKX.out _ y).mono ?_)
            rintro e w8 ⟨rfl, hE8⟩
            have HN8 : Hid (MgS upC 79 3 84 86 34 35 upK SPU w w8 gk gc bm fo A1 m1 c1) := HN7.out.ext_ hE8 SPU.kept
            have hnl : m1 < maxLen := by have := HFL.out; simp [maxLen]; omega
            obtain ⟨w9, hrun, hS9, hg9⟩ := HN8.out.sm.store hnl (upK y) (Nat.le_trans HGD.out.1 (by simp [maxLen])) (Nat.le_trans HGD.out.2 (by simp [maxLen]))
            have HB9 : Hid (Blk w9 g6 79 #[.string (str y.un), .string (str y.cl), .string (str y.pa)]) := (HB7.out.below hE8 HB7.out.lt).grown hg9 (by simpa using HGB.out)
            have HS9 := Lib.hid hS9
            have HG9 := Lib.hid hg9
            have hnew : SlC upC 3 (w9.alloc (.cells #[.string (str y.un), .string (str y.cl), .string (str y.pa)] 79)) (some ⟨w9.heap.size, 0, none⟩) 1 [y] := SlC.new_ (cs := upC) w9 [y] upC_len (by simp) _ rfl (0, 0) _ rfl _
            have HNEW := Lib.hid hnew
            have HEA := Lib.hid ((Ext.refl w9).alloc (.cells #[.string (str y.un), .string (str y.cl), .string (str y.pa)] 79))
            have HO9 := Lib.hid ((HN8.out.os.kept hg9 (by rcases hA : ob A1 with _ | g; exact .inl rfl; exact .inr (by rw [← hA]; exact HN8.out.ne.2.2))).ext HEA.out)
            have hbase : w.heap.size ≤ (w9.alloc (.cells #[.string (str y.un), .string (str y.cl), .string (str y.pa)] 79)).heap.size := Nat.le_trans HN8.out.ext.size_le (Nat.le_trans hg9.size HEA.out.size_le)
            clear hnew y0 y1 y2 zk hlk hE8 hS9 hg9 hnl
            have HBX := HB9
            have y0 := show w9.cell? ⟨g6, 0, none⟩ = some (.string (str y.un)) from HBX.out.cell 0
            have y1 := show w9.cell? ⟨g6, 1, none⟩ = some (.string (str y.cl)) from HBX.out.cell 1
            have y2 := show w9.cell? ⟨g6, 2, none⟩ = some (.string (str y.pa)) from HBX.out.cell 2
            go_wp2_with (first
              | (at_builtin; refine Hid.out ?_))
            refine Hid.mk_ ?_
            refine appC einfo_up rfl _ _ rfl HO9.out rfl HNEW.out rfl (by have := HFL.out; omega) hbase ?_
            intro Aa ma ca wa hoa hga hna
            have HNA : Hid (MgS upC 79 3 84 86 34 35 upK SPU w wa gk gc bm (firstsP upK (pre ++ l.take (p + 1))) Aa ma ca) := by
              rw [HFN.out]
              exact HN8.out.more SPU.kept HS9.out HG9.out HEA.out hoa hga hna (by decide) (by decide)
            clear hoa hga hna hbase y0 y1 y2 hrun
            go_wp2
            go_roundw
            case rel => exact ⟨p + 1, Aa, ma, ca, by omega, by go_num, rfl, HNA⟩
            case measure => simp [intOf]; omega
        · have hi2 : ¬ (p : Int) < (tm : Int) := by omega
          have HFN : Hid (firstsP upK (pre ++ l.take p) = firstsP upK ((L.take (q + 1)).map Prod.snd).flatten) := by show _ = _; rw [HFD.out, List.take_of_length_le (by have := HTL.out; omega)]
          rw [HFN.out] at HN
          go_wp2
          go_roundw
          case rel => exact ⟨q + 1, A1, m1, c1, by omega, by go_num, rfl, HN⟩
          case measure => simp [intOf]; omega
    · have hi1 : ¬ (q : Int) < (m : Int) := by omega
      have HFN : Hid (((L.take q).map Prod.snd).flatten = (L.map Prod.snd).flatten) := by show _ = _; rw [List.take_of_length_le (by have := HL.out; omega)]
      rw [HFN.out] at HM
      have HSRT := Lib.hid (sortUP_any HM.out.os (HM.out.bc.cell 0) (HM.out.bk.cell 0) (fun e => by obtain ⟨ys, hy⟩ := HM.out.os.blk_ e; exact Blk.ne_ HM.out.bc hy (by decide) rfl) (fun e => by obtain ⟨ys, hy⟩ := HM.out.os.blk_ e; exact Blk.ne_ HM.out.bk hy (by decide) rfl))
      go_wp2_with (first
        | (go_at_call 60; refine Hid.out ?_))
      refine Hid.mk_ ((HSRT.out).mono ?_)
      rintro e w5 ⟨rfl, ⟨r, hr, hp, hw⟩, hg⟩
      have HR := Lib.hid hr
      have HP := Lib.hid hp
      have HWW := Lib.hid hw
      have HEE : Hid (Ext w w5) := HM.out.ext.grown hg (fun j hj => HM.out.os.ge j hj)
      clear hr hp hw hg
      go_wp2
      go_ret
      refine ⟨⟨⟨A', m', c'⟩, r, rfl, fun j hj => HM.out.os.ge j hj, ⟨HR.out, HM.out.os.cap, ?_, fun x hx => ?_⟩, HP.out, HWW.out⟩, HEE.out⟩
      · show m' * _ ≤ _
        have h1 := HM.out.os.len
        have h2 := firstsP_len upK (L.map Prod.snd).flatten
        have h3 : (L.map Prod.snd).flatten.length ≤ 120 * L.length := by
          rw [List.length_flatten]
          refine Nat.le_trans (sum_le_of_all _ 120 fun n hn => ?_) ?_
          · obtain ⟨y, hy, rfl⟩ := List.mem_map.1 hn
            obtain ⟨z, hz, rfl⟩ := List.mem_map.1 hy
            exact (HC.out z hz).2
          · rw [List.length_map, List.length_map]
            exact Nat.le_refl _
        have h4 := HL.out
        omega
      · have h1 := firstsP_mem upK (HP.out.mem_iff.1 hx)
        obtain ⟨y, hy, hxy⟩ := List.mem_flatten.1 h1
        obtain ⟨z, hz, rfl⟩ := List.mem_map.1 hy
        exact (HC.out z hz).1.good x hxy
end
end Go.Proofs.YtdgppdiickmofaaGreatDoor

/- The program's effective locales: merged. -/
namespace Go.Proofs.YtdgppdiickmofaaGreatDoor
open Go.RowKit
set_option maxRecDepth 100000
attribute [local go_sem] ext_refl_t ext_alloc_t ext_drew_t ext_drewN_t ext_alloc2_t ext_alloc3_t ext_alloc4_t ext_alloc5_t ext_alloc6_t ext_alloc7_t ext_alloc8_t ext_alloc1d_t ext_alloc2d_t ext_alloc3d_t ext_alloc4d_t
attribute [local go_sem] yielded_undef
section
variable {w : World}
set_option maxHeartbeats 12800000 in
theorem mergedD_any {A : Option Addr} {m c : Nat} {L : List (SlH × List DpP)} (hs : SlC shC 1 w A m (L.map Prod.fst)) (hl : L.length ≤ 12) (hc : ∀ x ∈ L, HW dpC 2 32 GdD w x.1 x.2 ∧ x.2.length ≤ 120) :
    Calls Tryz.prog 37 #[.slice A m c, .func (.func 40) #[] #[], .func (.func 30) #[] #[]] w fun e w' => (∃ (h : SlH) (r : List DpP), e = .returned (.slice h.A h.m h.c) ∧ (∀ j, ob h.A = some j → w.heap.size ≤ j) ∧ HW dpC 2 32 GdD w' h r ∧ MgP DpP.sk cmpL (L.map Prod.snd).flatten r) ∧ Ext w w' := by
  have HL : Hid (m = L.length) := by have := hs.len; rw [List.length_map] at this; exact this
  have hm12 : m ≤ 12 := by have := HL.out; omega
  have HS := Lib.hid hs
  have HC := Lib.hid hc
  clear hs hl hc
  have HKX : Hid (∀ W (y : DpP), Calls Tryz.prog 40 #[.agg #[.string (str y.sk), .string (str y.pa)]] W fun e w' => e = .returned (.string (str y.sk)) ∧ Ext W w') := fun W y => key11X y
  obtain ⟨W1, hW1⟩ : ∃ W1, W1 = ((w.alloc (.cells #[.func (.func 40) #[] #[]] 93)).alloc (.cells #[.func (.func 30) #[] #[]] 76)).alloc (.map #[] 0) := ⟨_, rfl⟩
  obtain ⟨bm, hbm⟩ : ∃ b, b = w.heap.size + 1 + 1 := ⟨_, rfl⟩
  obtain ⟨gc, hgc⟩ : ∃ b, b = w.heap.size + 1 := ⟨_, rfl⟩
  obtain ⟨gk, hgk⟩ : ∃ b, b = w.heap.size := ⟨_, rfl⟩
  have hS0 : Hid (MgS dpC 89 2 93 76 40 30 DpP.sk SM w W1 gk gc bm [] none 0 0) := by
    have h0 : Ext w ((w.alloc (.cells #[.func (.func 40) #[] #[]] 93)).alloc (.cells #[.func (.func 30) #[] #[]] 76)) := ((Ext.refl w).alloc _).alloc _
    have hb1 := (Blk.new w 93 #[.func (.func 40) #[] #[]]).alloc (.cells #[.func (.func 30) #[] #[]] 76)
    have hb2 := blk_new1 w (.cells #[.func (.func 40) #[] #[]] 93) 76 #[.func (.func 30) #[] #[]]
    have e2 : ((w.alloc (.cells #[.func (.func 40) #[] #[]] 93)).alloc (.cells #[.func (.func 30) #[] #[]] 76)).heap.size = w.heap.size + 1 + 1 := by simp
    have hsm := SM.made ((w.alloc (.cells #[.func (.func 40) #[] #[]] 93)).alloc (.cells #[.func (.func 30) #[] #[]] 76))
    rw [e2] at hsm
    show MgS _ _ _ _ _ _ _ _ _ _ _ _ _ _ _ _ _ _
    rw [hW1, hbm, hgc, hgk]
    exact ⟨h0.alloc _, OsC.nil_ dpC_len dpC_cell, hsm, hb1.alloc _, hb2.alloc _, by omega, ⟨by omega, by omega, by simp [ob]⟩, hsm.lt⟩
  have HW1 := Lib.hid hW1
  have HBM := Lib.hid hbm
  have HGC := Lib.hid hgc
  have HGK := Lib.hid hgk
  clear hW1 hbm hgc hgk
  have hmm := @run_makeMap Tryz.prog
  go_enter Tryz.func37, Tryz.ntmps37
  go_upto_region 3 with fail
  rw [← HW1.out, ← HBM.out, ← HGC.out, ← HGK.out]
  clear hmm
  go_wp2
  go_loopw [7, 10, 12, 16] (fun s7 _ _ i wr => ∃ (q : Nat) (A' : Option Addr) (m' c' : Nat), q ≤ m ∧ i = .int .i64 q ∧ s7 = .slice A' m' c' ∧ Hid (MgS dpC 89 2 93 76 40 30 DpP.sk SM w wr gk gc bm (firstsP DpP.sk ((L.take q).map Prod.snd).flatten) A' m' c')) (fun _ _ _ i _ => m - (intOf i).toNat)
  case atStart => exact ⟨0, none, 0, 0, Nat.zero_le _, rfl, rfl, hS0⟩
  case round =>
    obtain ⟨q, A', m', c', hq, rfl, rfl, HM⟩ := hrel
    by_cases hlt : q < m
    · obtain ⟨b, off, e0, hbl, hcs⟩ := (HS.out.ext HM.out.ext).at_ hlt (by omega)
      subst e0
      have hil : q < L.length := by rw [← HL.out]; exact hlt
      have x0 := hcs q (by rw [List.length_map]; exact hil) 0 (by omega)
      obtain ⟨⟨⟨TA, tm, tc⟩, l⟩, hyq⟩ : ∃ y, y = L[q] := ⟨_, rfl⟩
      simp only [List.getElem_map, ← hyq, shC, List.getElem_cons_zero, Nat.add_zero, Nat.mul_one] at x0
      have hcc := HC.out _ (List.getElem_mem hil)
      rw [← hyq] at hcc
      dsimp only at hcc
      have HCC := Lib.hid hcc
      have HTL : Hid (tm = l.length) := hcc.1.sl.len
      have htle : tm ≤ 120 := by have := hcc.2; have := HTL.out; omega
      have HFD : Hid (((L.take (q + 1)).map Prod.snd).flatten = ((L.take q).map Prod.snd).flatten ++ l) := by
        show _ = _
        rw [List.take_succ_eq_append_getElem hil, List.map_append, List.flatten_append, ← hyq]
        simp
      have HFB : Hid (((L.take q).map Prod.snd).flatten.length ≤ 120 * q) := by
        show _ ≤ _
        rw [List.length_flatten]
        refine Nat.le_trans (sum_le_of_all _ 120 fun n hn => ?_) ?_
        · obtain ⟨y, hy, rfl⟩ := List.mem_map.1 hn
          obtain ⟨z, hz, rfl⟩ := List.mem_map.1 hy
          exact (HC.out z (List.mem_of_mem_take hz)).2
        · rw [List.length_map, List.length_map, List.length_take]
          exact Nat.mul_le_mul_left _ (Nat.min_le_left _ _)
      obtain ⟨pre, hpre⟩ : ∃ p, p = ((L.take q).map Prod.snd).flatten := ⟨_, rfl⟩
      rw [← hpre] at HFD HFB HM
      have hi1 : (q : Int) < (m : Int) := by omega
      clear hcs hbl hyq hcc hpre
      go_wp2
      clear x0
      obtain ⟨w3, hw3⟩ : ∃ w3 : World, w3 = wr := ⟨_, rfl⟩
      rw [← hw3] at HM ⊢
      clear hw3
      go_loopw [7, 12, 22] (fun s7 _ i wr => ∃ (p : Nat) (A1 : Option Addr) (m1 c1 : Nat), p ≤ tm ∧ i = .int .i64 p ∧ s7 = .slice A1 m1 c1 ∧ Hid (MgS dpC 89 2 93 76 40 30 DpP.sk SM w wr gk gc bm (firstsP DpP.sk (pre ++ l.take p)) A1 m1 c1)) (fun _ _ i _ => tm - (intOf i).toNat)
      case atStart => exact ⟨0, A', m', c', Nat.zero_le _, rfl, rfl, by rw [List.take_zero, List.append_nil]; exact HM⟩
      case round =>
        obtain ⟨p, A1, m1, c1, hp, rfl, rfl, HN⟩ := hrel
        by_cases hlt2 : p < tm
        · obtain ⟨b2, off2, e0, hbl, hcs⟩ := (HCC.out.1.sl.ext HN.out.ext).at_ hlt2 (by omega)
          dsimp only at e0
          subst e0
          have hil2 : p < l.length := by rw [← HTL.out]; exact hlt2
          obtain ⟨y, hyq⟩ : ∃ y, y = l[p] := ⟨_, rfl⟩
          have y0 := hcs p hil2 0 (by omega)
          have y1 := hcs p hil2 1 (by omega)
          simp only [← hyq, dpC, List.getElem_cons_zero, List.getElem_cons_succ, Nat.add_zero, ← Nat.add_assoc] at y0 y1
          have HGD : Hid (GdD y) := HCC.out.1.good y (by rw [hyq]; exact List.getElem_mem hil2)
          have HFE : Hid (firstsP DpP.sk (pre ++ l.take (p + 1)) = addP DpP.sk (firstsP DpP.sk (pre ++ l.take p)) y) := by
            show _ = _
            rw [List.take_succ_eq_append_getElem hil2, ← hyq, ← List.append_assoc, firstsP_snoc]
          have HFL : Hid (m1 ≤ 120 * q + p) := by
            show _ ≤ _
            rw [HN.out.os.len]
            refine Nat.le_trans (firstsP_len _ _) ?_
            rw [List.length_append, List.length_take]
            have := HFB.out
            omega
          obtain ⟨fo, hfo⟩ : ∃ f, f = firstsP DpP.sk (pre ++ l.take p) := ⟨_, rfl⟩
          rw [← hfo] at HFE HN
          have hi2 : (p : Int) < (tm : Int) := by omega
          obtain ⟨W6, hW6⟩ : ∃ W6, W6 = wr.alloc (.cells #[.string (str y.sk), .string (str y.pa)] 89) := ⟨_, rfl⟩
          obtain ⟨g6, hg6⟩ : ∃ g, g = wr.heap.size := ⟨_, rfl⟩
          have hE6 : Ext wr W6 := by rw [hW6]; exact (Ext.refl wr).alloc _
          have HB6 : Hid (Blk W6 g6 89 #[.string (str y.sk), .string (str y.pa)]) := by show Blk _ _ _ _; rw [hW6, hg6]; exact Blk.new wr 89 _
          have HW6 := Lib.hid hW6
          have HG6 := Lib.hid hg6
          have HE6 := Lib.hid hE6
          have HGB : Hid (g6 ≠ bm) := by show _ ≠ _; rw [hg6]; have := HN.out.lt; omega
          have HN6 : Hid (MgS dpC 89 2 93 76 40 30 DpP.sk SM w W6 gk gc bm fo A1 m1 c1) := HN.out.ext_ hE6 SM.kept
          clear hcs hbl hyq hW6 hg6 hE6 hfo
          go_upto_region 9 with fail
          rw [← HW6.out, ← HG6.out]
          clear y0 y1
          have y0 := show W6.cell? ⟨g6, 0, none⟩ = some (.string (str y.sk)) from HB6.out.cell 0
          have y1 := show W6.cell? ⟨g6, 1, none⟩ = some (.string (str y.pa)) from HB6.out.cell 1
          have zk := show W6.cell? ⟨gk, 0, none⟩ = some (.func (.func 40) #[] #[]) from HN6.out.bk.cell 0
          go_wp2_with (first
            | (go_at_call 40; refine Hid.out ?_))
          refine Hid.mk_ ((HKX.out _ y).mono ?_)
          rintro e w7 ⟨rfl, hE7⟩
          have HE7 := Lib.hid hE7
          have HN7 : Hid (MgS dpC 89 2 93 76 40 30 DpP.sk SM w w7 gk gc bm fo A1 m1 c1) := HN6.out.ext_ hE7 SM.kept
          have hlk := HN7.out.sm.look y.sk (Nat.le_trans HGD.out (by simp [maxLen]))
          clear y0 y1 zk hE7
          obtain ⟨bq, hbq⟩ : ∃ b, b = decide (DpP.sk y ∈ fo.map DpP.sk) := ⟨_, rfl⟩
          have HBQ := Lib.hid hbq
          rw [← hbq] at hlk
          clear hbq
          cases bq with
          | true =>
            have HFN : Hid (firstsP DpP.sk (pre ++ l.take (p + 1)) = fo) := by show _ = _; rw [HFE.out]; exact addP_yes (of_decide_eq_true HBQ.out.symm)
            go_wp2
            go_roundw
            case rel => exact ⟨p + 1, A1, m1, c1, by omega, by go_num, rfl, by rw [HFN.out]; exact HN7⟩
            case measure => simp [intOf]; omega
          | false =>
            have HFN : Hid (firstsP DpP.sk (pre ++ l.take (p + 1)) = fo ++ [y]) := by show _ = _; rw [HFE.out]; exact addP_no (of_decide_eq_false HBQ.out.symm)
            have HB7 : Hid (Blk w7 g6 89 #[.string (str y.sk), .string (str y.pa)]) := HB6.out.below HE7.out HB6.out.lt
            have y0 := show w7.cell? ⟨g6, 0, none⟩ = some (.string (str y.sk)) from HB7.out.cell 0
            have y1 := show w7.cell? ⟨g6, 1, none⟩ = some (.string (str y.pa)) from HB7.out.cell 1
            have zk := show w7.cell? ⟨gk, 0, none⟩ = some (.func (.func 40) #[] #[]) from HN7.out.bk.cell 0
            go_wp2_with (first
              | (go_at_call 40; refine Hid.out ?_))
            refine Hid.mk_ ((HKX.out _ y).mono ?_)
            rintro e w8 ⟨rfl, hE8⟩
            have HN8 : Hid (MgS dpC 89 2 93 76 40 30 DpP.sk SM w w8 gk gc bm fo A1 m1 c1) := HN7.out.ext_ hE8 SM.kept
            have hnl : m1 < maxLen := by have := HFL.out; simp [maxLen]; omega
            obtain ⟨w9, hrun, hS9, hg9⟩ := HN8.out.sm.store hnl y.sk (Nat.le_trans HGD.out (by simp [maxLen]))
            have HB9 : Hid (Blk w9 g6 89 #[.string (str y.sk), .string (str y.pa)]) := (HB7.out.below hE8 HB7.out.lt).grown hg9 (by simpa using HGB.out)
            have HS9 := Lib.hid hS9
            have HG9 := Lib.hid hg9
            have hnew : SlC dpC 2 (w9.alloc (.cells #[.string (str y.sk), .string (str y.pa)] 89)) (some ⟨w9.heap.size, 0, none⟩) 1 [y] := SlC.new_ (cs := dpC) w9 [y] dpC_len (by simp) _ rfl (0, 0) _ rfl _
            have HNEW := Lib.hid hnew
            have HEA := Lib.hid ((Ext.refl w9).alloc (.cells #[.string (str y.sk), .string (str y.pa)] 89))
            have HO9 := Lib.hid ((HN8.out.os.kept hg9 (by rcases hA : ob A1 with _ | g; exact .inl rfl; exact .inr (by rw [← hA]; exact HN8.out.ne.2.2))).ext HEA.out)
            have hbase : w.heap.size ≤ (w9.alloc (.cells #[.string (str y.sk), .string (str y.pa)] 89)).heap.size := Nat.le_trans HN8.out.ext.size_le (Nat.le_trans hg9.size HEA.out.size_le)
            clear hnew y0 y1 zk hlk hE8 hS9 hg9 hnl
            have HBX := HB9
            have y0 := show w9.cell? ⟨g6, 0, none⟩ = some (.string (str y.sk)) from HBX.out.cell 0
            have y1 := show w9.cell? ⟨g6, 1, none⟩ = some (.string (str y.pa)) from HBX.out.cell 1
            go_wp2_with (first
              | (at_builtin; refine Hid.out ?_))
            refine Hid.mk_ ?_
            refine appC einfo_dp rfl _ _ rfl HO9.out rfl HNEW.out rfl (by have := HFL.out; omega) hbase ?_
            intro Aa ma ca wa hoa hga hna
            have HNA : Hid (MgS dpC 89 2 93 76 40 30 DpP.sk SM w wa gk gc bm (firstsP DpP.sk (pre ++ l.take (p + 1))) Aa ma ca) := by
              rw [HFN.out]
              exact HN8.out.more SM.kept HS9.out HG9.out HEA.out hoa hga hna (by decide) (by decide)
            clear hoa hga hna hbase y0 y1 hrun
            go_wp2
            go_roundw
            case rel => exact ⟨p + 1, Aa, ma, ca, by omega, by go_num, rfl, HNA⟩
            case measure => simp [intOf]; omega
        · have hi2 : ¬ (p : Int) < (tm : Int) := by omega
          have HFN : Hid (firstsP DpP.sk (pre ++ l.take p) = firstsP DpP.sk ((L.take (q + 1)).map Prod.snd).flatten) := by show _ = _; rw [HFD.out, List.take_of_length_le (by have := HTL.out; omega)]
          rw [HFN.out] at HN
          go_wp2
          go_roundw
          case rel => exact ⟨q + 1, A1, m1, c1, by omega, by go_num, rfl, HN⟩
          case measure => simp [intOf]; omega
    · have hi1 : ¬ (q : Int) < (m : Int) := by omega
      have HFN : Hid (((L.take q).map Prod.snd).flatten = (L.map Prod.snd).flatten) := by show _ = _; rw [List.take_of_length_le (by have := HL.out; omega)]
      rw [HFN.out] at HM
      have HSRT := Lib.hid (sortDP_any HM.out.os (HM.out.bc.cell 0) (HM.out.bk.cell 0) (fun e => by obtain ⟨ys, hy⟩ := HM.out.os.blk_ e; exact Blk.ne_ HM.out.bc hy (by decide) rfl) (fun e => by obtain ⟨ys, hy⟩ := HM.out.os.blk_ e; exact Blk.ne_ HM.out.bk hy (by decide) rfl))
      go_wp2_with (first
        | (go_at_call 62; refine Hid.out ?_))
      refine Hid.mk_ ((HSRT.out).mono ?_)
      rintro e w5 ⟨rfl, ⟨r, hr, hp, hw⟩, hg⟩
      have HR := Lib.hid hr
      have HP := Lib.hid hp
      have HWW := Lib.hid hw
      have HEE : Hid (Ext w w5) := HM.out.ext.grown hg (fun j hj => HM.out.os.ge j hj)
      clear hr hp hw hg
      go_wp2
      go_ret
      refine ⟨⟨⟨A', m', c'⟩, r, rfl, fun j hj => HM.out.os.ge j hj, ⟨HR.out, HM.out.os.cap, ?_, fun x hx => ?_⟩, HP.out, HWW.out⟩, HEE.out⟩
      · show m' * _ ≤ _
        have h1 := HM.out.os.len
        have h2 := firstsP_len DpP.sk (L.map Prod.snd).flatten
        have h3 : (L.map Prod.snd).flatten.length ≤ 120 * L.length := by
          rw [List.length_flatten]
          refine Nat.le_trans (sum_le_of_all _ 120 fun n hn => ?_) ?_
          · obtain ⟨y, hy, rfl⟩ := List.mem_map.1 hn
            obtain ⟨z, hz, rfl⟩ := List.mem_map.1 hy
            exact (HC.out z hz).2
          · rw [List.length_map, List.length_map]
            exact Nat.le_refl _
        have h4 := HL.out
        omega
      · have h1 := firstsP_mem DpP.sk (HP.out.mem_iff.1 hx)
        obtain ⟨y, hy, hxy⟩ := List.mem_flatten.1 h1
        obtain ⟨z, hz, rfl⟩ := List.mem_map.1 hy
        exact (HC.out z hz).1.good x hxy
end
end Go.Proofs.YtdgppdiickmofaaGreatDoor
