/- The program's chains: Of, Negotiate. -/
import Derived.Test.YtdgppdiickmofaaGreatDoorPQ45
namespace Go.Proofs.YtdgppdiickmofaaGreatDoor
open Go.RowKit
set_option maxRecDepth 100000
attribute [local go_sem] ext_refl_t ext_alloc_t ext_drew_t ext_drewN_t ext_alloc2_t ext_alloc3_t ext_alloc4_t ext_alloc5_t ext_alloc6_t ext_alloc7_t ext_alloc8_t ext_alloc1d_t ext_alloc2d_t ext_alloc3d_t ext_alloc4d_t
attribute [local go_sem] yielded_undef
def offP (l : TabL) (c : List Nat) : List (List UInt8) := c.map fun i => (l[i]?.getD ([], [])).1
theorem offP_step (ls : List LcH) (c : List Nat) {q : Nat} (hq : q < c.length) (hi : c[q] < ls.length) : offP (tabL ls) (c.take (q + 1)) = offP (tabL ls) (c.take q) ++ [ls[c[q]].tag] := by
  unfold offP
  rw [List.take_succ_eq_append_getElem hq, List.map_append, List.map_singleton]
  have h : (tabL ls)[c[q]]? = some (ls[c[q]].tag, ls[c[q]].par) := by unfold tabL; rw [List.getElem?_map, List.getElem?_eq_getElem hi]; rfl
  rw [h]
  rfl
theorem walkC_nodup {l : TabL} : ∀ (k : Nat) (o : Option Nat) (out : List Nat), out.Nodup → (walkC l k o out).1.Nodup
  | 0, _, _, _ => List.nodup_nil
  | _ + 1, none, _, _ => List.nodup_nil
  | k + 1, some i, out, h => by
    rw [walkC]
    split
    · exact List.nodup_nil
    · rename_i hi
      have h2 : (out ++ [i]).Nodup := List.nodup_append.2 ⟨h, by simp, fun a ha b hb => by rw [List.mem_singleton] at hb; subst hb; exact fun e => hi (e ▸ ha)⟩
      split
      · exact h2
      · exact walkC_nodup k _ _ h2
theorem chainP_nodup (l : TabL) (al : List AlP) (s : List UInt8) : (chainP l al s).1.Nodup := by
  unfold chainP
  split
  · split
    · exact walkC_nodup _ _ _ List.nodup_nil
    · exact List.nodup_nil
  · exact List.nodup_nil
theorem chainP_len (l : TabL) (al : List AlP) (s : List UInt8) : (chainP l al s).1.length ≤ l.length := nodup_bound (chainP_nodup l al s) fun _ hx => chain_lt _ hx
/-- What Of returns. -/
def OfPost (t : TabH) (s : List UInt8) (e : Ending) (w' : World) : Prop := ∃ h : SlH, e = .returned (.tuple #[.slice h.A h.m h.c, .int .i64 (chainP (tabL t.ls) t.al s).2]) ∧ ((chainP (tabL t.ls) t.al s).2 = 0 → SlC strF 1 w' h.A h.m ((offP (tabL t.ls) (chainP (tabL t.ls) t.al s).1).map str))
section
variable {w : World}
set_option maxHeartbeats 6400000 in
theorem of_any {t : TabH} (ht : TabW w t) {s : List UInt8} (hs : s.length ≤ 1000) (hM : MX w) :
    Calls Tryz.prog 4 #[tbV t, .string (str s)] w fun e w' => OfPost t s e w' ∧ Ext w w' := by
  have HCH : Hid (∀ W, Ext w W → Calls Tryz.prog 13 #[tbV t, .string (str s)] W fun e w' => ChPost t s e w' ∧ Ext W w') := fun W hE => chain_any (ht.ext hE) hs (hM.ext hE)
  have HLT : Hid (∀ x ∈ (chainP (tabL t.ls) t.al s).1, x < t.ls.length) := fun x hx => by have := chain_lt x hx; rwa [tabL_len] at this
  have HLN : Hid ((chainP (tabL t.ls) t.al s).1.length ≤ t.ls.length) := by have h := chainP_len (tabL t.ls) t.al s; rwa [tabL_len] at h
  unfold OfPost
  unfold ChPost at HCH
  obtain ⟨cl, hcl⟩ : ∃ x, x = (chainP (tabL t.ls) t.al s).1 := ⟨_, rfl⟩
  obtain ⟨er, her⟩ : ∃ x, x = (chainP (tabL t.ls) t.al s).2 := ⟨_, rfl⟩
  rw [← hcl] at HCH HLT HLN ⊢
  rw [← her] at HCH ⊢
  clear hcl her hM hs
  obtain ⟨ls, al, nr, ⟨A1, m1, c1⟩, ⟨A2, m2, c2⟩, ⟨A3, m3, c3⟩⟩ := t
  have HT := Lib.hid ht
  unfold tbV
  dsimp only at HT ⊢
  clear ht
  obtain ⟨W0, hW0⟩ : ∃ W0, W0 = w.alloc (Obj.cells #[.slice A1 m1 c1, .slice A2 m2 c2, .slice A3 m3 c3] 26) := ⟨_, rfl⟩
  have hE0 : Ext w W0 := by rw [hW0]; exact (Ext.refl w).alloc _
  have hb0 : Blk W0 w.heap.size 26 #[.slice A1 m1 c1, .slice A2 m2 c2, .slice A3 m3 c3] := by rw [hW0]; exact Blk.new w _ _
  obtain ⟨x, hx⟩ : ∃ x, x = str s := ⟨_, rfl⟩
  rw [← hx] at HCH ⊢
  clear hx
  dsimp only at HLT HLN
  go_enter Tryz.func4, Tryz.ntmps4
  go_upto_region 1 with fail
  rw [← hW0]
  obtain ⟨g0, hg0⟩ : ∃ g, g = w.heap.size := ⟨_, rfl⟩
  rw [← hg0] at hb0 ⊢
  have HB0 := Lib.hid hb0
  have HE0 := Lib.hid hE0
  have HG0 : Hid (w.heap.size ≤ g0) := by show _ ≤ _; omega
  have k0 := laters (show W0.cell? ⟨g0, 0, none⟩ = some (.slice A1 m1 c1) from HB0.out.cell 0)
  have k1 := laters (show W0.cell? ⟨g0, 1, none⟩ = some (.slice A2 m2 c2) from HB0.out.cell 1)
  have k2 := laters (show W0.cell? ⟨g0, 2, none⟩ = some (.slice A3 m3 c3) from HB0.out.cell 2)
  have hEr := Ext.refl W0
  clear hb0 hW0 hg0 hE0
  go_wp2_with (first
    | (go_at_call 13; refine Hid.out ?_))
  refine Hid.mk_ ((HCH.out _ HE0.out).mono ?_)
  rintro e w1 ⟨⟨⟨A2', m2', c2'⟩, rfl, hsl⟩, hE1⟩
  dsimp only at hsl ⊢
  have HSL := Lib.hid hsl
  have HL : Hid (m2' = cl.length) := hsl.len
  have hle := hsl.le
  clear hsl
  by_cases h0 : er = 0
  · have e1 : (er != 0) = false := by rw [h0]; rfl
    have H0 := Lib.hid h0
    clear h0
    go_wp2
    go_loopw [8, 10, 22] (fun s8 _ i wr => ∃ (q : Nat) (A : Option Addr) (m c : Nat), q ≤ m2' ∧ i = .int .i64 q ∧ s8 = .slice A m c ∧ m = q ∧ Hid (Ext W0 wr) ∧ Hid (Ext w1 wr) ∧ Hid (OsC strF 9 1 wr w1.heap.size A m c ((offP (tabL ls) (cl.take q)).map str))) (fun _ _ i _ => m2' - (intOf i).toNat)
    case atStart => exact ⟨0, none, 0, 0, Nat.zero_le _, rfl, rfl, rfl, hE1, Ext.refl _, OsC.nil_ strF_len strF_cell⟩
    case round =>
      obtain ⟨q, A, m, c, hq, rfl, rfl, hmq, HE, HEE, HO⟩ := hrel
      by_cases hlt : q < m2'
      · obtain ⟨b, off, e0, hbl, hcs⟩ := ni_cells (HSL.out.ext HEE.out) (by omega)
        subst e0
        have hlt1 : q < cl.length := by rw [← HL.out]; exact hlt
        have x0 := hcs q hlt1
        have hil := HLT.out _ (List.getElem_mem hlt1)
        obtain ⟨i, hiq⟩ : ∃ i, i = cl[q] := ⟨_, rfl⟩
        rw [← hiq] at x0 hil
        have HLL : Hid (m1 = ls.length) := HT.out.ls.sl.len
        have him : i < m1 := by rw [HLL.out]; exact hil
        obtain ⟨b1, off1, e0, hbl1, hcs1⟩ := (HT.out.ls.sl.ext (HE0.out.trans HE.out)).at_ him (by omega)
        dsimp only at e0
        subst e0
        have y0 := hcs1 i hil 0 (by omega)
        simp only [lcC, List.getElem_cons_zero, Nat.add_zero] at y0
        obtain ⟨z, hz⟩ : ∃ z, z = str ls[i].tag := ⟨_, rfl⟩
        rw [← hz] at y0
        have HST : Hid ((offP (tabL ls) (cl.take (q + 1))).map str = (offP (tabL ls) (cl.take q)).map str ++ [z]) := by
          show _ = _
          subst hiq
          rw [offP_step ls cl hlt1 hil, List.map_append, hz]
          rfl
        have hi1 : (q : Int) < (m2' : Int) := by omega
        have hi2 : (i : Int) < (m1 : Int) := by omega
        have hEw := HE.out
        have hnew : SlC strF 1 (wr.alloc (.cells #[.string z] 9)) (some ⟨wr.heap.size, 0, none⟩) 1 [z] := SlC.new_ (cs := strF) wr [z] (fun _ => rfl) (by simp) _ rfl (0, 0) _ rfl _
        have HNEW := Lib.hid hnew
        have HMQ := Lib.hid hmq
        have HOX := Lib.hid (HO.out.ext ((Ext.refl wr).alloc (.cells #[.string z] 9)))
        have hbase : w1.heap.size ≤ (wr.alloc (.cells #[.string z] 9)).heap.size := (HEE.out.alloc _).size_le
        have hm9 : (m + 1) * 16 ≤ 140737488355328 := by
          have h1 := HLN.out
          have h2 := HT.out.l12
          have h3 := HL.out
          dsimp only at h2
          omega
        clear hcs hcs1 hz hiq hnew hbl hbl1
        go_wp2_with (first
          | (at_builtin; refine Hid.out ?_))
        refine Hid.mk_ ?_
        refine appC einfo_ss rfl _ _ rfl HOX.out rfl HNEW.out rfl hm9 hbase ?_
        intro A8 m8 c8 w8 ho8 hg8 hn8
        have HE8 : Hid (Ext W0 w8) := (HE.out.alloc _).grown hg8 (fun j hj => Nat.le_trans hE1.size (HOX.out.ge j hj))
        have HEE8 : Hid (Ext w1 w8) := (HEE.out.alloc _).grown hg8 (fun j hj => HOX.out.ge j hj)
        have HO8 : Hid (OsC strF 9 1 w8 w1.heap.size A8 m8 c8 ((offP (tabL ls) (cl.take (q + 1))).map str)) := by rw [HST.out]; exact ho8
        have HM8 : Hid (m8 = q + 1) := by show _ = _; have h1 := ho8.len; rw [List.length_append, ← HO.out.len] at h1; simp only [List.length_singleton] at h1; omega
        clear ho8 hg8 hn8
        go_wp2
        go_roundw
        case rel => exact ⟨q + 1, A8, m8, c8, by omega, by go_num, rfl, HM8.out, HE8, HEE8, HO8⟩
        case measure => simp [intOf]; omega
      · have hi1 : ¬ (q : Int) < (m2' : Int) := by omega
        have HFF : Hid (cl.take q = cl) := List.take_of_length_le (by have := HL.out; omega)
        go_wp2
        go_ret2
        subst hmq
        exact ⟨⟨⟨A, m, c⟩, by rw [H0.out]; rfl, fun _ => by have h := HO.out.sl; rwa [HFF.out] at h⟩, HE0.out.trans HE.out⟩
  · have e1 : (er != 0) = true := by simp [h0]
    have H0 := Lib.hid h0
    clear h0
    go_wp2
    go_ret2
    exact ⟨⟨⟨none, 0, 0⟩, rfl, fun h => absurd h H0.out⟩, HE0.out.trans hE1⟩
end
end Go.Proofs.YtdgppdiickmofaaGreatDoor

/- The program's chains: Negotiate. -/
namespace Go.Proofs.YtdgppdiickmofaaGreatDoor
open Go.RowKit
set_option maxRecDepth 100000
attribute [local go_sem] ext_refl_t ext_alloc_t ext_drew_t ext_drewN_t ext_alloc2_t ext_alloc3_t ext_alloc4_t ext_alloc5_t ext_alloc6_t ext_alloc7_t ext_alloc8_t ext_alloc1d_t ext_alloc2d_t ext_alloc3d_t ext_alloc4d_t
attribute [local go_sem] yielded_undef
section
variable {w : World}
/-- What Negotiate returns, for one string, where the table is usable and the string canonical. -/
def NegPost (t : TabH) (s : List UInt8) (e : Ending) : Prop := ∃ (b : List UInt8) (er : Int), e = .returned (.tuple #[.string (str b), .int .i64 er]) ∧
  (er ≠ 0 → er = 1 ∧ valN t.nr = false) ∧ (er = 0 → valN t.nr = true ∧ (b = undL ∨ ((∃ x ∈ t.ls, b = x.tag) ∧ (parseT b).2 = 0 ∧ (parseT (canonR t.al s).1).2 = 0 ∧ distT t.nr (parseT (canonR t.al s).1).1 (parseT b).1 ≤ 60)))
set_option maxHeartbeats 12800000 in
theorem neg_any {t : TabH} (ht : TabW w t) {s : List UInt8} (hs : s.length ≤ 1000) (hM : MX w) (hu : usabP (tabL t.ls) t.al = true) (hc : (canonR t.al s).2 = 0) {A0 : Option Addr} (c0 : Nat) (hrq : SlC strF 1 w A0 1 ([s].map str)) :
    Calls Tryz.prog 10 #[tbV t, .slice A0 1 c0] w fun e w' => NegPost t s e ∧ Ext w w' := by
  have HUS : Hid (∀ W, Ext w W → Calls Tryz.prog 44 #[tbV t] W fun e w' => e = .returned (.bool true) ∧ Ext W w') := fun W hE => by rw [← hu]; exact usable_any (ht.ext hE) (hM.ext hE)
  have HVL : Hid (∀ W, Ext w W → Calls Tryz.prog 11 #[.slice t.hn.A t.hn.m t.hn.c] W fun e w' => e = .returned (.bool (valN t.nr)) ∧ Ext W w') := fun W hE => mvalid_any (ht.nr.ext hE) ht.n30
  have HCA : Hid (∀ W, Ext w W → Calls Tryz.prog 8 #[.slice t.ha.A t.ha.m t.ha.c, .string (str s)] W fun e w' => e = .returned (.tuple #[.string (str (canonR t.al s).1), .int .i64 0]) ∧ Ext W w') := fun W hE => by rw [← hc]; exact acanon_any (ht.al.ext hE) ht.a12 hs (hM.ext hE)
  have HCL := Lib.hid (canon_len hc)
  have HU0 : Hid (0 < t.ls.length) := by
    have h := (usab_parts hu).1
    rwa [tabL_len] at h
  have HM := Lib.hid hM
  have HRQ := Lib.hid hrq
  unfold NegPost
  obtain ⟨cn, hcn⟩ : ∃ x, x = (canonR t.al s).1 := ⟨_, rfl⟩
  rw [← hcn] at HCA HCL ⊢
  clear hcn hM hs hu hc hrq
  obtain ⟨ls, al, nr, ⟨A1, m1, c1⟩, ⟨A2, m2, c2⟩, ⟨A3, m3, c3⟩⟩ := t
  have HT := Lib.hid ht
  unfold tbV
  dsimp only at HT ⊢
  clear ht
  obtain ⟨W0, hW0⟩ : ∃ W0, W0 = w.alloc (Obj.cells #[.slice A1 m1 c1, .slice A2 m2 c2, .slice A3 m3 c3] 26) := ⟨_, rfl⟩
  have hE0 : Ext w W0 := by rw [hW0]; exact (Ext.refl w).alloc _
  have hb0 : Blk W0 w.heap.size 26 #[.slice A1 m1 c1, .slice A2 m2 c2, .slice A3 m3 c3] := by rw [hW0]; exact Blk.new w _ _
  dsimp only at HUS HVL HCA HU0
  obtain ⟨bv, hbv⟩ : ∃ b, b = valN nr := ⟨_, rfl⟩
  rw [← hbv] at HVL ⊢
  have HBV := Lib.hid hbv.symm
  clear hbv
  obtain ⟨x, hx⟩ : ∃ x, x = str s := ⟨_, rfl⟩
  rw [← hx] at HCA
  have HX := Lib.hid hx
  obtain ⟨cx, hcx⟩ : ∃ x, x = str cn := ⟨_, rfl⟩
  rw [← hcx] at HCA
  have HCX := Lib.hid hcx
  clear hx hcx
  go_enter Tryz.func10, Tryz.ntmps10
  go_upto_region 1 with fail
  rw [← hW0]
  obtain ⟨g0, hg0⟩ : ∃ g, g = w.heap.size := ⟨_, rfl⟩
  rw [← hg0] at hb0 ⊢
  have HB0 := Lib.hid hb0
  have HE0 := Lib.hid hE0
  have HG0 : Hid (w.heap.size ≤ g0) := by show _ ≤ _; omega
  have k0 := laters (show W0.cell? ⟨g0, 0, none⟩ = some (.slice A1 m1 c1) from HB0.out.cell 0)
  have k1 := laters (show W0.cell? ⟨g0, 1, none⟩ = some (.slice A2 m2 c2) from HB0.out.cell 1)
  have k2 := laters (show W0.cell? ⟨g0, 2, none⟩ = some (.slice A3 m3 c3) from HB0.out.cell 2)
  have hEr := Ext.refl W0
  clear hb0 hW0 hg0 hE0
  go_wp2_with (first
    | (go_at_call 44; refine Hid.out ?_))
  refine Hid.mk_ ((HUS.out _ HE0.out).mono ?_)
  rintro e w1 ⟨rfl, hE1⟩
  go_wp2_with (first
    | (go_at_call 11; refine Hid.out ?_))
  refine Hid.mk_ ((HVL.out _ (HE0.out.trans hE1)).mono ?_)
  rintro e w2 ⟨rfl, hE2⟩
  have hE02 := hE1.trans hE2
  cases bv with
  | false =>
    go_wp2
    go_ret2
    exact ⟨⟨[], 1, rfl, fun _ => by first | exact ⟨rfl, rfl⟩ | rfl | exact ⟨rfl, trivial⟩, fun h => absurd h (by decide)⟩, HE0.out.trans hE02⟩
  | true =>
    have HEw2 := Lib.hid (HE0.out.trans hE02)
    go_wp2
    go_loopw [6, 9, 10, 11, 27] (fun s6 _ _ _ i wr => ∃ (q : Nat) (A : Option Addr) (m c : Nat), q ≤ 1 ∧ i = .int .i64 q ∧ s6 = .slice A m c ∧ m = q ∧ Hid (Ext W0 wr) ∧ Hid (Ext w2 wr) ∧ Hid (OsC strF 9 1 wr w2.heap.size A m c (([cn].take q).map str))) (fun _ _ _ _ i _ => 1 - (intOf i).toNat)
    case atStart => exact ⟨0, none, 0, 0, Nat.zero_le _, rfl, rfl, rfl, hE02, Ext.refl _, OsC.nil_ strF_len strF_cell⟩
    case round =>
      obtain ⟨q, A, m, c, hq, rfl, rfl, hmq, HE, HEE, HO⟩ := hrel
      have HMQ := Lib.hid hmq
      clear hmq
      by_cases hlt : q < 1
      · obtain rfl : q = 0 := by omega
        obtain ⟨b, off, e0, hbl, hcs⟩ := strs_cells (HRQ.out.ext (HE0.out.trans HE.out)) (by omega)
        subst e0
        have x0 := hcs 0 x (by rw [HX.out]; rfl)
        rw [Nat.add_zero] at x0
        have hEw := HE.out
        have hm0 : m = 0 := HMQ.out
        subst hm0
        clear hcs hbl
        go_wp2_with (first
          | (go_at_call 8; refine Hid.out ?_))
        refine Hid.mk_ ((HCA.out _ (HE0.out.trans hEw)).mono ?_)
        rintro e w3 ⟨rfl, hE3⟩
        have hnew : SlC strF 1 (w3.alloc (.cells #[.string cx] 9)) (some ⟨w3.heap.size, 0, none⟩) 1 [cx] := SlC.new_ (cs := strF) w3 [cx] (fun _ => rfl) (by simp) _ rfl (0, 0) _ rfl _
        have HNEW := Lib.hid hnew
        have hE4 : Ext wr (w3.alloc (.cells #[.string cx] 9)) := hE3.alloc _
        have HOX := Lib.hid (HO.out.ext hE4)
        have hbase := (HEE.out.trans hE4).size_le
        have HE4 := Lib.hid (hEw.trans hE4)
        have HEE4 := Lib.hid (HEE.out.trans hE4)
        have HE2S := Lib.hid hE02.size
        clear hnew hE4
        go_wp2_with (first
          | (at_builtin; refine Hid.out ?_))
        refine Hid.mk_ ?_
        refine appC einfo_ss rfl _ _ rfl HOX.out rfl HNEW.out rfl (by omega) hbase ?_
        intro A8 m8 c8 w8 ho8 hg8 hn8
        have HE8 : Hid (Ext W0 w8) := HE4.out.grown hg8 (fun j hj => Nat.le_trans HE2S.out (HOX.out.ge j hj))
        have HEE8 : Hid (Ext w2 w8) := HEE4.out.grown hg8 (fun j hj => HOX.out.ge j hj)
        have HO8 : Hid (OsC strF 9 1 w8 w2.heap.size A8 m8 c8 (([cn].take (0 + 1)).map str)) := by
          show OsC _ _ _ _ _ _ _ _ [str cn]
          rw [← HCX.out]
          exact ho8
        have HM8 : Hid (m8 = 0 + 1) := ho8.len
        clear ho8 hg8 hn8 hbase hE3
        go_wp2
        go_roundw
        case rel => exact ⟨0 + 1, A8, m8, c8, by omega, by go_num, rfl, HM8.out, HE8, HEE8, HO8⟩
        case measure => simp [intOf]
      · obtain rfl : q = 1 := by omega
        have hm1 : m = 1 := HMQ.out
        subst hm1
        have HS1 : Hid (SlC strF 1 wr A 1 ([cn].map str)) := HO.out.sl
        have hEw := HE.out
        have HL : Hid (m1 = ls.length) := HT.out.ls.sl.len
        have hm12 : m1 ≤ 12 := by have := HL.out; have := HT.out.l12; dsimp only at *; omega
        obtain ⟨w5, hw5⟩ : ∃ x : World, x = wr := ⟨_, rfl⟩
        rw [← hw5] at HE HEE HO HS1 hEw ⊢
        have HW5 := Lib.hid hw5
        clear hw5 hlt hq
        go_wp2
        go_loopw [7, 13, 49] (fun s7 _ i wr => ∃ (q : Nat) (A' : Option Addr) (m c : Nat), q ≤ m1 ∧ i = .int .i64 q ∧ s7 = .slice A' m c ∧ m = q ∧ Hid (Ext W0 wr) ∧ Hid (Ext w5 wr) ∧ Hid (OsC strF 9 1 wr w5.heap.size A' m c (((ls.take q).map LcH.tag).map str))) (fun _ _ i _ => m1 - (intOf i).toNat)
        case atStart => exact ⟨0, none, 0, 0, Nat.zero_le _, rfl, rfl, rfl, hEw, Ext.refl _, OsC.nil_ strF_len strF_cell⟩
        case round =>
          obtain ⟨q, A', m, c', hq, rfl, rfl, hmq, HE2, HEE2, HO2⟩ := hrel
          have HMQ := Lib.hid hmq
          clear hmq
          by_cases hlt : q < m1
          · have hil : q < ls.length := by rw [← HL.out]; exact hlt
            obtain ⟨b, off, e0, hbl, hcs⟩ := (HT.out.ls.sl.ext (HE0.out.trans HE2.out)).at_ hlt (by omega)
            dsimp only at e0
            subst e0
            obtain ⟨y, hyq⟩ : ∃ y, y = ls[q] := ⟨_, rfl⟩
            have y0 := hcs q hil 0 (by omega)
            have y1 := hcs q hil 1 (by omega)
            have y2 := hcs q hil 2 (by omega)
            have y3 := hcs q hil 3 (by omega)
            have y4 := hcs q hil 4 (by omega)
            have y5 := hcs q hil 5 (by omega)
            have y6 := hcs q hil 6 (by omega)
            have y7 := hcs q hil 7 (by omega)
            have y8 := hcs q hil 8 (by omega)
            have y9 := hcs q hil 9 (by omega)
            have y10 := hcs q hil 10 (by omega)
            have y11 := hcs q hil 11 (by omega)
            have y12 := hcs q hil 12 (by omega)
            have y13 := hcs q hil 13 (by omega)
            have y14 := hcs q hil 14 (by omega)
            have y15 := hcs q hil 15 (by omega)
            simp only [← hyq, lcC, List.getElem_cons_zero, List.getElem_cons_succ, Nat.add_zero, ← Nat.add_assoc] at y0 y1 y2 y3 y4 y5 y6 y7 y8 y9 y10 y11 y12 y13 y14 y15
            obtain ⟨z, hz⟩ : ∃ z, z = str y.tag := ⟨_, rfl⟩
            rw [← hz] at y0
            have HST : Hid (((ls.take (q + 1)).map LcH.tag).map str = ((ls.take q).map LcH.tag).map str ++ [z]) := by
              show _ = _
              rw [List.take_succ_eq_append_getElem hil, List.map_append, List.map_append, hz, hyq]
              rfl
            have hi1 : (q : Int) < (m1 : Int) := by omega
            have hEw2 := HE2.out
            obtain ⟨W6, hW6⟩ : ∃ W6, W6 = wr.alloc (.cells #[.string z, .string (str y.par), .string (str y.dir), .slice y.card.A y.card.m y.card.c, .slice y.ord.A y.ord.m y.ord.c, .string (str y.dec), .string (str y.grp), .string (str y.min), .string (str y.pct), .int .i64 y.p1, .int .i64 y.p2, .slice y.lst.A y.lst.m y.lst.c, .slice y.unt.A y.unt.m y.unt.c, .slice y.dat.A y.dat.m y.dat.c, .slice y.mon.A y.mon.m y.mon.c, .slice y.day.A y.day.m y.day.c] 38) := ⟨_, rfl⟩
            obtain ⟨g6, hg6⟩ : ∃ g, g = wr.heap.size := ⟨_, rfl⟩
            have hE6 : Ext wr W6 := by rw [hW6]; exact (Ext.refl wr).alloc _
            have hc6 : W6.cell? ⟨g6, 0, none⟩ = some (.string z) := by rw [hW6, hg6]; exact (Blk.new wr 38 _).cell 0
            have HW6 := Lib.hid hW6
            have HG6 := Lib.hid hg6
            have HC6 := Lib.hid hc6
            have HE6 := Lib.hid hE6
            clear hcs hbl hyq hz hW6 hg6 hc6 hE6
            go_upto_region 15 with fail
            rw [← HW6.out, ← HG6.out]
            clear y0 y1 y2 y3 y4 y5 y6 y7 y8 y9 y10 y11 y12 y13 y14 y15
            have z0 := HC6.out
            have hnew : SlC strF 1 (W6.alloc (.cells #[.string z] 9)) (some ⟨W6.heap.size, 0, none⟩) 1 [z] := SlC.new_ (cs := strF) W6 [z] (fun _ => rfl) (by simp) _ rfl (0, 0) _ rfl _
            have HNEW := Lib.hid hnew
            have HE7 := Lib.hid (HE6.out.alloc (.cells #[.string z] 9))
            have HOX := Lib.hid (HO2.out.ext HE7.out)
            have hbase := (HEE2.out.trans HE7.out).size_le
            have HES := Lib.hid hEw.size
            clear hnew
            go_wp2_with (first
              | (at_builtin; refine Hid.out ?_))
            refine Hid.mk_ ?_
            refine appC einfo_ss rfl _ _ rfl HOX.out rfl HNEW.out rfl (by have := HMQ.out; omega) hbase ?_
            intro A8 m8 c8 w8 ho8 hg8 hn8
            have HE8 : Hid (Ext W0 w8) := (HE2.out.trans HE7.out).grown hg8 (fun j hj => Nat.le_trans HES.out (HOX.out.ge j hj))
            have HEE8 : Hid (Ext w5 w8) := (HEE2.out.trans HE7.out).grown hg8 (fun j hj => HOX.out.ge j hj)
            have HO8 : Hid (OsC strF 9 1 w8 w5.heap.size A8 m8 c8 (((ls.take (q + 1)).map LcH.tag).map str)) := by rw [HST.out]; exact ho8
            have HM8 : Hid (m8 = q + 1) := by show _ = _; have h1 := ho8.len; rw [List.length_append, ← HO2.out.len] at h1; simp only [List.length_singleton] at h1; have := HMQ.out; omega
            clear ho8 hg8 hn8 z0 hbase
            go_wp2
            go_roundw
            case rel => exact ⟨q + 1, A8, m8, c8, by omega, by go_num, rfl, HM8.out, HE8, HEE8, HO8⟩
            case measure => simp [intOf]; omega
          · have hi1 : ¬ (q : Int) < (m1 : Int) := by omega
            have HSP : Hid (SlC strF 1 wr A' m ((ls.map LcH.tag).map str)) := by
              have h := HO2.out.sl
              rwa [List.take_of_length_le (by have := HL.out; omega)] at h
            have HBE := Lib.hid (best_any (cr := c) (cs := c') (HT.out.nr.ext (HE0.out.trans HE2.out)) HT.out.n30 HBV.out (HS1.out.ext HEE2.out) HSP.out (by rw [List.length_map]; exact HU0.out) (by rw [List.length_map]; exact HT.out.l12) HCL.out
              (fun s hs => by obtain ⟨y, hy, rfl⟩ := List.mem_map.1 hs; have := (HT.out.ls.good y hy).1; omega) (HM.out.ext (HE0.out.trans HE2.out)))
            dsimp only at HBE
            have hEw2 := HE2.out
            go_wp2_with (first
              | (go_at_call 45; refine Hid.out ?_))
            refine Hid.mk_ ((HBE.out).mono ?_)
            rintro e w7 ⟨⟨z, er, rfl, hpost⟩, hE7⟩
            have HPO := Lib.hid hpost
            clear hpost
            by_cases h0 : er = 0
            · obtain ⟨i, rfl, hi, hd1, hd2, hd3⟩ := HPO.out h0
              have e1 : (er != 0) = false := by rw [h0]; rfl
              have hi2 : i < m := by have h1 := HSP.out.len; rw [List.length_map, List.length_map] at h1; rw [List.length_map] at hi; omega
              have hi3 : (i : Int) < (m : Int) := by omega
              obtain ⟨b9, off9, e0, hbl9, hcs9⟩ := strs_cells (HSP.out.ext hE7) (by omega)
              subst e0
              have z0 := hcs9 i (str (ls.map LcH.tag)[i]) (by rw [List.getElem?_map, List.getElem?_eq_getElem hi]; rfl)
              have hfin : (∃ x ∈ ls, (ls.map LcH.tag)[i] = x.tag) ∧ (parseT (ls.map LcH.tag)[i]).2 = 0 ∧ (parseT cn).2 = 0 ∧ distT nr (parseT cn).1 (parseT (ls.map LcH.tag)[i]).1 ≤ 60 :=
                ⟨⟨ls[i]'(by simpa using hi), List.getElem_mem _, by simp⟩, hd2, hd3, hd1⟩
              have HFIN := Lib.hid hfin
              obtain ⟨bt, hbt⟩ : ∃ b, b = (ls.map LcH.tag)[i] := ⟨_, rfl⟩
              rw [← hbt] at HFIN z0
              obtain ⟨sb, hsb⟩ : ∃ b, b = str bt := ⟨_, rfl⟩
              rw [← hsb] at z0
              have HSB := Lib.hid hsb
              clear hfin hbt hsb hcs9 hbl9 hd1 hd2 hd3 h0
              go_wp2
              go_ret2
              exact ⟨⟨bt, 0, by first | (rw [← HSB.out]; done) | (rw [← HSB.out]; rfl), rfl, fun _ => by first | exact ⟨rfl, .inr HFIN.out⟩ | exact .inr HFIN.out | exact ⟨trivial, .inr HFIN.out⟩⟩, (HE0.out.trans HE2.out).trans hE7⟩
            · have e1 : (er != 0) = true := by simp [h0]
              clear h0
              go_wp2
              go_ret2
              exact ⟨⟨undL, 0, rfl, rfl, fun _ => by first | exact ⟨rfl, .inl rfl⟩ | exact .inl rfl | exact ⟨trivial, .inl rfl⟩⟩, (HE0.out.trans HE2.out).trans hE7⟩
end
end Go.Proofs.YtdgppdiickmofaaGreatDoor
