/- The program's effective locales: each. -/
import Derived.Test.YtdgppdiickmofaaGreatDoorPQ27
namespace Go.Proofs.YtdgppdiickmofaaGreatDoor
open Go.RowKit
set_option maxRecDepth 100000
attribute [local go_sem] ext_refl_t ext_alloc_t ext_drew_t ext_drewN_t ext_alloc2_t ext_alloc3_t ext_alloc4_t ext_alloc5_t ext_alloc6_t ext_alloc7_t ext_alloc8_t ext_alloc1d_t ext_alloc2d_t ext_alloc3d_t ext_alloc4d_t
attribute [local go_sem] yielded_undef
section
variable {w : World}
set_option maxHeartbeats 3200000 in
theorem each1_any {A : Option Addr} {m c : Nat} {ls : List LcH} (hs : SlC lcC 16 w A m ls) (hl : ls.length ≤ 12) :
    Calls Tryz.prog 19 #[.slice A m c, .func (.func 20) #[] #[]] w fun e w' => (∃ h : SlH, e = .returned (.slice h.A h.m h.c) ∧ OsC shC 31 1 w' w.heap.size h.A h.m h.c (ls.map LcH.card)) ∧ Ext w w' := by
  have HL : Hid (m = ls.length) := hs.len
  have hm12 : m ≤ 12 := by have := HL.out; omega
  have HS := Lib.hid hs
  clear hs hl
  go_enter Tryz.func19, Tryz.ntmps19
  go_wp2
  go_loopw [5, 7, 10] (fun s5 _ i wr => ∃ (q : Nat) (A' : Option Addr) (m' c' : Nat), q ≤ m ∧ i = .int .i64 q ∧ s5 = .slice A' m' c' ∧ Hid (m' = q) ∧ Hid (Ext w wr) ∧ Hid (OsC shC 31 1 wr w.heap.size A' m' c' ((ls.take q).map LcH.card))) (fun _ _ i _ => m - (intOf i).toNat)
  case atStart => exact ⟨0, none, 0, 0, Nat.zero_le _, rfl, rfl, rfl, Ext.refl _, OsC.nil_ shC_len shC_cell⟩
  case round =>
    obtain ⟨q, A', m', c', hq, rfl, rfl, HMQ, HE, HO⟩ := hrel
    by_cases hlt : q < m
    · obtain ⟨b, off, e0, hbl, hcs⟩ := (HS.out.ext HE.out).at_ hlt (by omega)
      subst e0
      have hil : q < ls.length := by rw [← HL.out]; exact hlt
      obtain ⟨y, hyq⟩ : ∃ y, y = ls[q] := ⟨_, rfl⟩
      have y0 := hcs q hil 0 (by omega)
      have y1 := hcs q hil 1 (by omega)
      have y2 := hcs q hil 2 (by omega)
      have y3 := hcs q hil 3 (by omega)
      have y4 := hcs q hil 4 (by omega)
      have y5 := hcs q hil 5 (by omega)
      have y6 := hcs q hil 6 (by omega)
      have y7 := hcs q hil 7 (by omega)
      have y8 := hcs q hil 8 (by omega)
      have y9 := hcs q hil 9 (by omega)
      have y10 := hcs q hil 10 (by omega)
      have y11 := hcs q hil 11 (by omega)
      have y12 := hcs q hil 12 (by omega)
      have y13 := hcs q hil 13 (by omega)
      have y14 := hcs q hil 14 (by omega)
      have y15 := hcs q hil 15 (by omega)
      simp only [← hyq, lcC, List.getElem_cons_zero, List.getElem_cons_succ, Nat.add_zero, ← Nat.add_assoc] at y0 y1 y2 y3 y4 y5 y6 y7 y8 y9 y10 y11 y12 y13 y14 y15
      have HST : Hid ((ls.take (q + 1)).map LcH.card = (ls.take q).map LcH.card ++ [y.card]) := by
        show _ = _
        rw [List.take_succ_eq_append_getElem hil, List.map_append, hyq]
        rfl
      have hi1 : (q : Int) < (m : Int) := by omega
      obtain ⟨W6, hW6⟩ : ∃ W6, W6 = wr.alloc (.cells #[.string (str y.tag), .string (str y.par), .string (str y.dir), .slice y.card.A y.card.m y.card.c, .slice y.ord.A y.ord.m y.ord.c, .string (str y.dec), .string (str y.grp), .string (str y.min), .string (str y.pct), .int .i64 y.p1, .int .i64 y.p2, .slice y.lst.A y.lst.m y.lst.c, .slice y.unt.A y.unt.m y.unt.c, .slice y.dat.A y.dat.m y.dat.c, .slice y.mon.A y.mon.m y.mon.c, .slice y.day.A y.day.m y.day.c] 38) := ⟨_, rfl⟩
      obtain ⟨g6, hg6⟩ : ∃ g, g = wr.heap.size := ⟨_, rfl⟩
      have hE6 : Ext wr W6 := by rw [hW6]; exact (Ext.refl wr).alloc _
      have HB6 : Hid (Blk W6 g6 38 #[.string (str y.tag), .string (str y.par), .string (str y.dir), .slice y.card.A y.card.m y.card.c, .slice y.ord.A y.ord.m y.ord.c, .string (str y.dec), .string (str y.grp), .string (str y.min), .string (str y.pct), .int .i64 y.p1, .int .i64 y.p2, .slice y.lst.A y.lst.m y.lst.c, .slice y.unt.A y.unt.m y.unt.c, .slice y.dat.A y.dat.m y.dat.c, .slice y.mon.A y.mon.m y.mon.c, .slice y.day.A y.day.m y.day.c]) := by show Blk _ _ _ _; rw [hW6, hg6]; exact Blk.new wr 38 _
      have HW6 := Lib.hid hW6
      have HG6 := Lib.hid hg6
      have HE6 := Lib.hid hE6
      clear hcs hbl hyq hW6 hg6 hE6
      go_upto_region 5 with fail
      rw [← HW6.out, ← HG6.out]
      clear y0 y1 y2 y3 y4 y5 y6 y7 y8 y9 y10 y11 y12 y13 y14 y15
      have y0 := (HB6).out.cell 0
      have y1 := (HB6).out.cell 1
      have y2 := (HB6).out.cell 2
      have y3 := (HB6).out.cell 3
      have y4 := (HB6).out.cell 4
      have y5 := (HB6).out.cell 5
      have y6 := (HB6).out.cell 6
      have y7 := (HB6).out.cell 7
      have y8 := (HB6).out.cell 8
      have y9 := (HB6).out.cell 9
      have y10 := (HB6).out.cell 10
      have y11 := (HB6).out.cell 11
      have y12 := (HB6).out.cell 12
      have y13 := (HB6).out.cell 13
      have y14 := (HB6).out.cell 14
      have y15 := (HB6).out.cell 15
      simp only [List.getElem?_toArray, List.getElem?_cons_zero, List.getElem?_cons_succ] at y0 y1 y2 y3 y4 y5 y6 y7 y8 y9 y10 y11 y12 y13 y14 y15
      go_wp2_with (first
        | (go_at_call 20; refine Hid.out ?_))
      refine Hid.mk_ ((clo1_any y).mono ?_)
      rintro e w7 ⟨rfl, hE7⟩
      have hnew : SlC shC 1 (w7.alloc (.cells #[.slice y.card.A y.card.m y.card.c] 31)) (some ⟨w7.heap.size, 0, none⟩) 1 [y.card] := SlC.new_ (cs := shC) w7 [y.card] shC_len (by simp) _ rfl (0, 0) _ rfl _
      have HNEW := Lib.hid hnew
      have HE8 := Lib.hid ((HE6.out.trans hE7).alloc (.cells #[.slice y.card.A y.card.m y.card.c] 31))
      have HOX := Lib.hid (HO.out.ext HE8.out)
      have hbase := (HE.out.trans HE8.out).size_le
      clear hnew y0 y1 y2 y3 y4 y5 y6 y7 y8 y9 y10 y11 y12 y13 y14 y15
      go_wp2_with (first
        | (at_builtin; refine Hid.out ?_))
      refine Hid.mk_ ?_
      refine appC einfo_rlst rfl _ _ rfl HOX.out rfl HNEW.out rfl (by have := HMQ.out; omega) hbase ?_
      intro A8 m8 c8 w8 ho8 hg8 hn8
      have HE9 : Hid (Ext w w8) := (HE.out.trans HE8.out).grown hg8 (fun j hj => HOX.out.ge j hj)
      have HO8 : Hid (OsC shC 31 1 w8 w.heap.size A8 m8 c8 ((ls.take (q + 1)).map LcH.card)) := by rw [HST.out]; exact ho8
      have HM8 : Hid (m8 = q + 1) := by show _ = _; have h1 := ho8.len; rw [List.length_append, ← HO.out.len] at h1; simp only [List.length_singleton] at h1; have := HMQ.out; omega
      clear ho8 hg8 hn8 hbase hE7
      go_wp2
      go_roundw
      case rel => exact ⟨q + 1, A8, m8, c8, by omega, by go_num, rfl, HM8, HE9, HO8⟩
      case measure => simp [intOf]; omega
    · have hi1 : ¬ (q : Int) < (m : Int) := by omega
      have HFF : Hid (ls.take q = ls) := List.take_of_length_le (by have := HL.out; omega)
      go_wp2
      go_ret
      exact ⟨⟨⟨A', m', c'⟩, rfl, by have h := HO.out; rwa [HFF.out] at h⟩, HE.out⟩
set_option maxHeartbeats 3200000 in
theorem each2_any {A : Option Addr} {m c : Nat} {ls : List LcH} (hs : SlC lcC 16 w A m ls) (hl : ls.length ≤ 12) :
    Calls Tryz.prog 19 #[.slice A m c, .func (.func 21) #[] #[]] w fun e w' => (∃ h : SlH, e = .returned (.slice h.A h.m h.c) ∧ OsC shC 31 1 w' w.heap.size h.A h.m h.c (ls.map LcH.ord)) ∧ Ext w w' := by
  have HL : Hid (m = ls.length) := hs.len
  have hm12 : m ≤ 12 := by have := HL.out; omega
  have HS := Lib.hid hs
  clear hs hl
  go_enter Tryz.func19, Tryz.ntmps19
  go_wp2
  go_loopw [5, 7, 10] (fun s5 _ i wr => ∃ (q : Nat) (A' : Option Addr) (m' c' : Nat), q ≤ m ∧ i = .int .i64 q ∧ s5 = .slice A' m' c' ∧ Hid (m' = q) ∧ Hid (Ext w wr) ∧ Hid (OsC shC 31 1 wr w.heap.size A' m' c' ((ls.take q).map LcH.ord))) (fun _ _ i _ => m - (intOf i).toNat)
  case atStart => exact ⟨0, none, 0, 0, Nat.zero_le _, rfl, rfl, rfl, Ext.refl _, OsC.nil_ shC_len shC_cell⟩
  case round =>
    obtain ⟨q, A', m', c', hq, rfl, rfl, HMQ, HE, HO⟩ := hrel
    by_cases hlt : q < m
    · obtain ⟨b, off, e0, hbl, hcs⟩ := (HS.out.ext HE.out).at_ hlt (by omega)
      subst e0
      have hil : q < ls.length := by rw [← HL.out]; exact hlt
      obtain ⟨y, hyq⟩ : ∃ y, y = ls[q] := ⟨_, rfl⟩
      have y0 := hcs q hil 0 (by omega)
      have y1 := hcs q hil 1 (by omega)
      have y2 := hcs q hil 2 (by omega)
      have y3 := hcs q hil 3 (by omega)
      have y4 := hcs q hil 4 (by omega)
      have y5 := hcs q hil 5 (by omega)
      have y6 := hcs q hil 6 (by omega)
      have y7 := hcs q hil 7 (by omega)
      have y8 := hcs q hil 8 (by omega)
      have y9 := hcs q hil 9 (by omega)
      have y10 := hcs q hil 10 (by omega)
      have y11 := hcs q hil 11 (by omega)
      have y12 := hcs q hil 12 (by omega)
      have y13 := hcs q hil 13 (by omega)
      have y14 := hcs q hil 14 (by omega)
      have y15 := hcs q hil 15 (by omega)
      simp only [← hyq, lcC, List.getElem_cons_zero, List.getElem_cons_succ, Nat.add_zero, ← Nat.add_assoc] at y0 y1 y2 y3 y4 y5 y6 y7 y8 y9 y10 y11 y12 y13 y14 y15
      have HST : Hid ((ls.take (q + 1)).map LcH.ord = (ls.take q).map LcH.ord ++ [y.ord]) := by
        show _ = _
        rw [List.take_succ_eq_append_getElem hil, List.map_append, hyq]
        rfl
      have hi1 : (q : Int) < (m : Int) := by omega
      obtain ⟨W6, hW6⟩ : ∃ W6, W6 = wr.alloc (.cells #[.string (str y.tag), .string (str y.par), .string (str y.dir), .slice y.card.A y.card.m y.card.c, .slice y.ord.A y.ord.m y.ord.c, .string (str y.dec), .string (str y.grp), .string (str y.min), .string (str y.pct), .int .i64 y.p1, .int .i64 y.p2, .slice y.lst.A y.lst.m y.lst.c, .slice y.unt.A y.unt.m y.unt.c, .slice y.dat.A y.dat.m y.dat.c, .slice y.mon.A y.mon.m y.mon.c, .slice y.day.A y.day.m y.day.c] 38) := ⟨_, rfl⟩
      obtain ⟨g6, hg6⟩ : ∃ g, g = wr.heap.size := ⟨_, rfl⟩
      have hE6 : Ext wr W6 := by rw [hW6]; exact (Ext.refl wr).alloc _
      have HB6 : Hid (Blk W6 g6 38 #[.string (str y.tag), .string (str y.par), .string (str y.dir), .slice y.card.A y.card.m y.card.c, .slice y.ord.A y.ord.m y.ord.c, .string (str y.dec), .string (str y.grp), .string (str y.min), .string (str y.pct), .int .i64 y.p1, .int .i64 y.p2, .slice y.lst.A y.lst.m y.lst.c, .slice y.unt.A y.unt.m y.unt.c, .slice y.dat.A y.dat.m y.dat.c, .slice y.mon.A y.mon.m y.mon.c, .slice y.day.A y.day.m y.day.c]) := by show Blk _ _ _ _; rw [hW6, hg6]; exact Blk.new wr 38 _
      have HW6 := Lib.hid hW6
      have HG6 := Lib.hid hg6
      have HE6 := Lib.hid hE6
      clear hcs hbl hyq hW6 hg6 hE6
      go_upto_region 5 with fail
      rw [← HW6.out, ← HG6.out]
      clear y0 y1 y2 y3 y4 y5 y6 y7 y8 y9 y10 y11 y12 y13 y14 y15
      have y0 := (HB6).out.cell 0
      have y1 := (HB6).out.cell 1
      have y2 := (HB6).out.cell 2
      have y3 := (HB6).out.cell 3
      have y4 := (HB6).out.cell 4
      have y5 := (HB6).out.cell 5
      have y6 := (HB6).out.cell 6
      have y7 := (HB6).out.cell 7
      have y8 := (HB6).out.cell 8
      have y9 := (HB6).out.cell 9
      have y10 := (HB6).out.cell 10
      have y11 := (HB6).out.cell 11
      have y12 := (HB6).out.cell 12
      have y13 := (HB6).out.cell 13
      have y14 := (HB6).out.cell 14
      have y15 := (HB6).out.cell 15
      simp only [List.getElem?_toArray, List.getElem?_cons_zero, List.getElem?_cons_succ] at y0 y1 y2 y3 y4 y5 y6 y7 y8 y9 y10 y11 y12 y13 y14 y15
      go_wp2_with (first
        | (go_at_call 21; refine Hid.out ?_))
      refine Hid.mk_ ((clo2_any y).mono ?_)
      rintro e w7 ⟨rfl, hE7⟩
      have hnew : SlC shC 1 (w7.alloc (.cells #[.slice y.ord.A y.ord.m y.ord.c] 31)) (some ⟨w7.heap.size, 0, none⟩) 1 [y.ord] := SlC.new_ (cs := shC) w7 [y.ord] shC_len (by simp) _ rfl (0, 0) _ rfl _
      have HNEW := Lib.hid hnew
      have HE8 := Lib.hid ((HE6.out.trans hE7).alloc (.cells #[.slice y.ord.A y.ord.m y.ord.c] 31))
      have HOX := Lib.hid (HO.out.ext HE8.out)
      have hbase := (HE.out.trans HE8.out).size_le
      clear hnew y0 y1 y2 y3 y4 y5 y6 y7 y8 y9 y10 y11 y12 y13 y14 y15
      go_wp2_with (first
        | (at_builtin; refine Hid.out ?_))
      refine Hid.mk_ ?_
      refine appC einfo_rlst rfl _ _ rfl HOX.out rfl HNEW.out rfl (by have := HMQ.out; omega) hbase ?_
      intro A8 m8 c8 w8 ho8 hg8 hn8
      have HE9 : Hid (Ext w w8) := (HE.out.trans HE8.out).grown hg8 (fun j hj => HOX.out.ge j hj)
      have HO8 : Hid (OsC shC 31 1 w8 w.heap.size A8 m8 c8 ((ls.take (q + 1)).map LcH.ord)) := by rw [HST.out]; exact ho8
      have HM8 : Hid (m8 = q + 1) := by show _ = _; have h1 := ho8.len; rw [List.length_append, ← HO.out.len] at h1; simp only [List.length_singleton] at h1; have := HMQ.out; omega
      clear ho8 hg8 hn8 hbase hE7
      go_wp2
      go_roundw
      case rel => exact ⟨q + 1, A8, m8, c8, by omega, by go_num, rfl, HM8, HE9, HO8⟩
      case measure => simp [intOf]; omega
    · have hi1 : ¬ (q : Int) < (m : Int) := by omega
      have HFF : Hid (ls.take q = ls) := List.take_of_length_le (by have := HL.out; omega)
      go_wp2
      go_ret
      exact ⟨⟨⟨A', m', c'⟩, rfl, by have h := HO.out; rwa [HFF.out] at h⟩, HE.out⟩
end
end Go.Proofs.YtdgppdiickmofaaGreatDoor
