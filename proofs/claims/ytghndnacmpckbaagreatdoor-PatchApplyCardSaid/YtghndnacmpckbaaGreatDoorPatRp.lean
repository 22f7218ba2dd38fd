/- The reference's contents in memory; proper and Run. -/
import Derived.Test.YtghndnacmpckbaaGreatDoorPatL
import Derived.Test.YtghndnacmpckbaaGreatDoorParseR
import Derived.Test.YtghndnacmpckbaaGreatDoorRead
namespace Go.Proofs.YtghndnacmpckbaaGreatDoor
open Go.RowKit
set_option maxRecDepth 100000
attribute [local go_sem] ext_refl_t ext_alloc_t ext_drew_t ext_drewN_t ext_alloc2_t ext_alloc3_t ext_alloc4_t ext_alloc5_t ext_alloc6_t ext_alloc7_t ext_alloc8_t ext_alloc1d_t ext_alloc2d_t ext_alloc3d_t ext_alloc4d_t
/-- An operation of the reference: what it means, and what its fields hold besides. -/
structure ROp where
  p : POp
  o : Int
  n : Int
  h : SlH
def ropC (x : ROp) : List Value := match x.p with
  | .cp o n => [.bool false, .int .i64 o, .int .i64 n, .slice x.h.A x.h.m x.h.c]
  | .ins _ => [.bool true, .int .i64 x.o, .int .i64 x.n, .slice x.h.A x.h.m x.h.c]
theorem ropC_len (x : ROp) : (ropC x).length = 4 := by unfold ropC; cases x.p <;> rfl
theorem ropC_cell (x : ROp) : ∀ u ∈ ropC x, u.oneCell' = true := by
  unfold ropC
  cases x.p <;> (intro u hu; simp only [List.mem_cons, List.not_mem_nil, or_false] at hu; rcases hu with rfl | rfl | rfl | rfl <;> rfl)
def ropW (w : World) (x : ROp) : Prop := match x.p with
  | .cp _ _ => True
  | .ins s => SlB w x.h.A x.h.m s
theorem ropW.ext {w w' : World} {x : ROp} (h : ropW w x) (hE : Ext w w') : ropW w' x := by
  unfold ropW at h ⊢
  cases hp : x.p with
  | cp o n => trivial
  | ins s => rw [hp] at h; exact SlB.ext h hE
def RetP (p : Prop) (e : Ending) : Prop := ∃ b : Bool, e = .returned (.bool b) ∧ (b = true ↔ p)
theorem RetP.no {p : Prop} (h : ¬ p) : RetP p (.returned (.bool false)) := ⟨false, rfl, by simp [h]⟩
theorem map_take {L : List ROp} {q : Nat} (hq : q < L.length) : (L.map ROp.p).take (q + 1) = (L.map ROp.p).take q ++ [L[q].p] := by
  rw [List.take_succ_eq_append_getElem (by simpa using hq)]
  simp
def PrC (old new : Int) (os ns : List UInt8) (l : List POp) : Prop := ∃ a b, ProperC ⟨old, os, new, ns, l⟩ a b
section
variable {w : World}
set_option maxHeartbeats 12800000 in
theorem rproper_any {A : Option Addr} {m : Nat} (c : Nat) {old new : Int} {os ns : List UInt8} {L : List ROp} (hs : SlC ropC 4 w A m L) (hw : ∀ x ∈ L, ropW w x) (ho : os.length ≤ 1000000) (hn : ns.length ≤ 1000000) :
    Calls Tryz.prog 42 #[.agg #[.int .i64 old, .int .i64 new, .string (str os), .string (str ns), .slice A m c]] w fun e w' => RetP (PrC old new os ns (L.map ROp.p)) e ∧ Ext w w' := by
  have HL := Lib.hid hs.len
  have hE1 : Ext w (w.alloc (Obj.cells #[.int .i64 old, .int .i64 new, .string (str os), .string (str ns), .slice A m c] 25)) := (Ext.refl w).alloc _
  have hbk := Blk.new w 25 #[.int .i64 old, .int .i64 new, .string (str os), .string (str ns), .slice A m c]
  obtain ⟨g, hg⟩ : ∃ g, g = w.heap.size := ⟨_, rfl⟩
  rw [← hg] at hbk
  go_enter Tryz.func42, Tryz.ntmps42
  have p2 : (w.alloc (Obj.cells #[.int .i64 old, .int .i64 new, .string (str os), .string (str ns), .slice A m c] 25)).cell? ⟨w.heap.size, 2, none⟩ = some (.string (str os)) := by rw [← hg]; exact hbk.cell 2
  go_wp2_with (first
    | (go_at_call 56; refine Hid.out ?_))
  refine Hid.mk_ ((refParse_any (str os) (by rw [str_size]; exact ho)).mono ?_)
  rintro e w1 ⟨a1, ca, rfl, hpa, hE2⟩
  rw [← hg]
  clear hg p2
  have hb1 := hbk.below hE2 hbk.lt
  have p3 : w1.cell? ⟨g, 3, none⟩ = some (.string (str ns)) := hb1.cell 3
  go_wp2_with (first
    | (go_at_call 56; refine Hid.out ?_))
  refine Hid.mk_ ((refParse_any (str ns) (by rw [str_size]; exact hn)).mono ?_)
  rintro e w2 ⟨b1, cb, rfl, hpb, hE3⟩
  have hE02 := (hE1.trans hE2).trans hE3
  have hb2 := hb1.below hE3 hb1.lt
  have k0 : w2.cell? ⟨g, 0, none⟩ = some (.int .i64 old) := hb2.cell 0
  have k1 : w2.cell? ⟨g, 1, none⟩ = some (.int .i64 new) := hb2.cell 1
  have k4 : w2.cell? ⟨g, 4, none⟩ = some (.slice A m c) := hb2.cell 4
  have HPA := Lib.hid hpa
  have HPB := Lib.hid hpb
  have HB2 := Lib.hid hb2
  clear hpa hpb hbk hb1 hE1 hE2 hE3 p3 ho hn hb2
  by_cases hb_1 : old < 0
  · have hd_1 : decide (old < 0) = true := decide_eq_true hb_1
    have HB : Hid (¬ PrC old new os ns (L.map ROp.p)) := fun ⟨_, _, h⟩ => by have := h.old.1; dsimp only at this; omega
    go_wp2
    go_ret
    exact ⟨RetP.no HB.out, hE02⟩
  have hd_1 : decide (old < 0) = false := decide_eq_false hb_1
  by_cases hb_2 : 1000000 < old
  · have hd_2 : decide (1000000 < old) = true := decide_eq_true hb_2
    have HB : Hid (¬ PrC old new os ns (L.map ROp.p)) := fun ⟨_, _, h⟩ => by have := h.old.2; dsimp only at this; omega
    go_wp2
    go_ret
    exact ⟨RetP.no HB.out, hE02⟩
  have hd_2 : decide (1000000 < old) = false := decide_eq_false hb_2
  by_cases hb_3 : new < 0
  · have hd_3 : decide (new < 0) = true := decide_eq_true hb_3
    have HB : Hid (¬ PrC old new os ns (L.map ROp.p)) := fun ⟨_, _, h⟩ => by have := h.new.1; dsimp only at this; omega
    go_wp2
    go_ret
    exact ⟨RetP.no HB.out, hE02⟩
  have hd_3 : decide (new < 0) = false := decide_eq_false hb_3
  by_cases hb_4 : 1000000 < new
  · have hd_4 : decide (1000000 < new) = true := decide_eq_true hb_4
    have HB : Hid (¬ PrC old new os ns (L.map ROp.p)) := fun ⟨_, _, h⟩ => by have := h.new.2; dsimp only at this; omega
    go_wp2
    go_ret
    exact ⟨RetP.no HB.out, hE02⟩
  have hd_4 : decide (1000000 < new) = false := decide_eq_false hb_4
  rcases HPA.out.code with rfl | ⟨rfl, rfl⟩
  case inr =>
    have HB : Hid (¬ PrC old new os ns (L.map ROp.p)) := fun ⟨_, _, h⟩ => HPA.out.no (by decide) h.lt.1 h.os
    go_wp2
    go_ret
    exact ⟨RetP.no HB.out, hE02⟩
  case inl =>
  rcases HPB.out.code with rfl | ⟨rfl, rfl⟩
  case inr =>
    have HB : Hid (¬ PrC old new os ns (L.map ROp.p)) := fun ⟨_, _, h⟩ => HPB.out.no (by decide) h.lt.2 h.ns
    go_wp2
    go_ret
    exact ⟨RetP.no HB.out, hE02⟩
  case inl =>
  by_cases hb_5 : (100000 : Int) < (m : Int)
  · have hd_5 : decide ((100000 : Int) < (m : Int)) = true := decide_eq_true hb_5
    have HB : Hid (¬ PrC old new os ns (L.map ROp.p)) := fun ⟨_, _, h⟩ => by have := h.few; dsimp only at this; rw [List.length_map, ← HL.out] at this; omega
    go_wp2
    go_ret
    exact ⟨RetP.no HB.out, hE02⟩
  have hd_5 : decide ((100000 : Int) < (m : Int)) = false := decide_eq_false hb_5
  have HE2 := Lib.hid hE02
  have HS := Lib.hid (hs.ext hE02)
  clear hE02
  go_wp2
  go_loopw [7, 8, 9, 10] (fun lf i _ _ wr => ∃ (q : Nat) (wl : Int), q ≤ m ∧ lf = .int .i64 wl ∧ i = .int .i64 q ∧ 0 ≤ wl ∧ wl ≤ 1000000 ∧ Hid (sumO ((L.map ROp.p).take q) + wl = new) ∧ Hid (∀ y ∈ (L.map ROp.p).take q, OpOk old y) ∧ Hid (Ext w2 wr)) (fun _ i _ _ _ => m - (intOf i).toNat)
  case atStart => exact ⟨0, new, Nat.zero_le _, rfl, rfl, by omega, by omega, by show sumO [] + new = new; simp [sumO], fun y hy => by simp at hy, Ext.refl _⟩
  case round =>
    obtain ⟨q, wl, hq, rfl, rfl, hwl, hwl6, HSUM, HALL, HE⟩ := hrel
    have hbr := HB2.out.below HE.out HB2.out.lt
    have e0 : wr.cell? ⟨g, 0, none⟩ = some (.int .i64 old) := hbr.cell 0
    have e4 : wr.cell? ⟨g, 4, none⟩ = some (.slice A m c) := hbr.cell 4
    have y0 := laters e0
    clear k0 k1 k4 hbr e0
    by_cases hlt : q < m
    · obtain ⟨bq, off, eA, hbl, hcs⟩ := (HS.out.ext HE.out).at_ hlt (by omega)
      subst eA
      have hlt1 : q < L.length := by rw [← HL.out]; exact hlt
      obtain ⟨x, hx⟩ : ∃ x, x = L[q] := ⟨_, rfl⟩
      have HMT : Hid ((L.map ROp.p).take (q + 1) = (L.map ROp.p).take q ++ [x.p]) := by show _ = _; rw [map_take hlt1, hx]
      have HNO : Hid (¬ OpOk old x.p → ¬ PrC old new os ns (L.map ROp.p)) := fun hb ⟨_, _, h⟩ => hb (h.each _ (by rw [hx]; exact List.mem_map.2 ⟨_, List.getElem_mem hlt1, rfl⟩))
      have HNL : Hid (wl < oLen x.p → ¬ PrC old new os ns (L.map ROp.p)) := fun hb ⟨_, _, h⟩ => by
        have h1 := sumO_take h.each (q + 1)
        dsimp only at h1
        rw [HMT.out, sumO_app] at h1
        have h2 := h.sum
        dsimp only at h2
        have h3 : sumO [x.p] = oLen x.p := by simp [sumO]
        have h4 := HSUM.out
        omega
      have hwx : ropW wr x := by rw [hx]; exact (hw _ (List.getElem_mem hlt1)).ext (HE2.out.trans HE.out)
      have x0 : wr.cell? ⟨bq, off + (q * 4 + 0), none⟩ = (ropC L[q])[0]? := (hcs q hlt1 0 (by omega)).trans (List.getElem?_eq_getElem _).symm
      have x1 : wr.cell? ⟨bq, off + (q * 4 + 1), none⟩ = (ropC L[q])[1]? := (hcs q hlt1 1 (by omega)).trans (List.getElem?_eq_getElem _).symm
      have x2 : wr.cell? ⟨bq, off + (q * 4 + 2), none⟩ = (ropC L[q])[2]? := (hcs q hlt1 2 (by omega)).trans (List.getElem?_eq_getElem _).symm
      have x3 : wr.cell? ⟨bq, off + (q * 4 + 3), none⟩ = (ropC L[q])[3]? := (hcs q hlt1 3 (by omega)).trans (List.getElem?_eq_getElem _).symm
      rw [← hx] at x0 x1 x2 x3
      have hi1 : (q : Int) < (m : Int) := by omega
      clear hcs hx
      obtain ⟨px, xo, xn, ⟨Ah, mh, ch⟩⟩ := x
      dsimp only at HMT HNO HNL
      have HEA : Hid (∀ o : Obj, Ext w (wr.alloc o)) := fun o => (HE2.out.trans HE.out).alloc o
      have HEB : Hid (∀ o : Obj, Ext w2 (wr.alloc o)) := fun o => HE.out.alloc o
      cases px with
      | cp o n =>
        simp only [ropC, List.getElem?_cons_zero, List.getElem?_cons_succ, Nat.add_zero, ← Nat.add_assoc] at x0 x1 x2 x3
        have hl : oLen (POp.cp o n) = n := rfl
        rw [hl] at HNL
        clear hl hwx
        by_cases hb_a : o < 0
        · have hd_a : decide (o < 0) = true := decide_eq_true hb_a
          have HB : Hid (¬ PrC old new os ns (L.map ROp.p)) := HNO.out (fun h => by have h9 : 0 ≤ o ∧ 1 ≤ n ∧ o + n ≤ old := h; omega)
          go_wp2
          go_ret
          exact ⟨RetP.no HB.out, HEA.out _⟩
        have hd_a : decide (o < 0) = false := decide_eq_false hb_a
        by_cases hb_b : old < o
        · have hd_b : decide (old < o) = true := decide_eq_true hb_b
          have HB : Hid (¬ PrC old new os ns (L.map ROp.p)) := HNO.out (fun h => by have h9 : 0 ≤ o ∧ 1 ≤ n ∧ o + n ≤ old := h; omega)
          go_wp2
          go_ret
          exact ⟨RetP.no HB.out, HEA.out _⟩
        have hd_b : decide (old < o) = false := decide_eq_false hb_b
        by_cases hb_c : old - o < n
        · have hd_c : decide (old - o < n) = true := decide_eq_true hb_c
          have HB : Hid (¬ PrC old new os ns (L.map ROp.p)) := HNO.out (fun h => by have h9 : 0 ≤ o ∧ 1 ≤ n ∧ o + n ≤ old := h; omega)
          go_wp2
          go_ret
          exact ⟨RetP.no HB.out, HEA.out _⟩
        have hd_c : decide (old - o < n) = false := decide_eq_false hb_c
        by_cases hb_d : n < 1
        · have hd_d : decide (n < 1) = true := decide_eq_true hb_d
          have HB : Hid (¬ PrC old new os ns (L.map ROp.p)) := HNO.out (fun h => by have h9 : 0 ≤ o ∧ 1 ≤ n ∧ o + n ≤ old := h; omega)
          go_wp2
          go_ret
          exact ⟨RetP.no HB.out, HEA.out _⟩
        have hd_d : decide (n < 1) = false := decide_eq_false hb_d
        by_cases hb_e : wl < n
        · have hd_e : decide (wl < n) = true := decide_eq_true hb_e
          have HB : Hid (¬ PrC old new os ns (L.map ROp.p)) := HNL.out hb_e
          go_wp2
          go_ret
          exact ⟨RetP.no HB.out, HEA.out _⟩
        have hd_e : decide (wl < n) = false := decide_eq_false hb_e
        have HALL2 : Hid (∀ y ∈ (L.map ROp.p).take (q + 1), OpOk old y) := by
          show ∀ y ∈ _, _
          rw [HMT.out]
          intro y hy
          rcases List.mem_append.1 hy with hy | hy
          · exact HALL.out y hy
          · rw [List.mem_singleton.1 hy]; show 0 ≤ o ∧ 1 ≤ n ∧ o + n ≤ old; omega
        have HSUM2 : Hid (sumO ((L.map ROp.p).take (q + 1)) + (wl - n) = new) := by
          show _ = _
          rw [HMT.out, sumO_app]
          have h3 : sumO [POp.cp o n] = n := by simp [sumO, oLen]
          have h4 := HSUM.out
          omega
        clear HMT HNO HNL HALL HSUM
        go_wp2
        go_roundw
        case rel => exact ⟨q + 1, wl - n, by omega, rfl, by go_num, by omega, by omega, HSUM2, HALL2, HEB.out _⟩
        case measure => simp [intOf]; omega
      | ins s =>
        simp only [ropC, List.getElem?_cons_zero, List.getElem?_cons_succ, Nat.add_zero, ← Nat.add_assoc] at x0 x1 x2 x3
        have hml : mh = s.length := SlB.len (w := wr) (A := Ah) hwx
        have HML := Lib.hid hml
        clear hwx hml
        by_cases hb_d : (mh : Int) < 1
        · have hd_d : decide ((mh : Int) < 1) = true := decide_eq_true hb_d
          have HB : Hid (¬ PrC old new os ns (L.map ROp.p)) := HNO.out (fun h => by have h9 : 1 ≤ s.length := h; have := HML.out; omega)
          go_wp2
          go_ret
          exact ⟨RetP.no HB.out, HEA.out _⟩
        have hd_d : decide ((mh : Int) < 1) = false := decide_eq_false hb_d
        by_cases hb_e : wl < (mh : Int)
        · have hd_e : decide (wl < (mh : Int)) = true := decide_eq_true hb_e
          have HB : Hid (¬ PrC old new os ns (L.map ROp.p)) := HNL.out (by show wl < (s.length : Int); have := HML.out; omega)
          go_wp2
          go_ret
          exact ⟨RetP.no HB.out, HEA.out _⟩
        have hd_e : decide (wl < (mh : Int)) = false := decide_eq_false hb_e
        have HALL2 : Hid (∀ y ∈ (L.map ROp.p).take (q + 1), OpOk old y) := by
          show ∀ y ∈ _, _
          rw [HMT.out]
          intro y hy
          rcases List.mem_append.1 hy with hy | hy
          · exact HALL.out y hy
          · rw [List.mem_singleton.1 hy]; show 1 ≤ s.length; have := HML.out; omega
        have HSUM2 : Hid (sumO ((L.map ROp.p).take (q + 1)) + (wl - (mh : Int)) = new) := by
          show _ = _
          rw [HMT.out, sumO_app]
          have h3 : sumO [POp.ins s] = (mh : Int) := by simp [sumO, oLen, HML.out]
          have h4 := HSUM.out
          omega
        clear HMT HNO HNL HALL HSUM
        go_wp2
        go_roundw
        case rel => exact ⟨q + 1, wl - (mh : Int), by omega, rfl, by go_num, by omega, by omega, HSUM2, HALL2, HEB.out _⟩
        case measure => simp [intOf]; omega
    · have hi1 : ¬ (q : Int) < (m : Int) := by omega
      have htq : (L.map ROp.p).take q = L.map ROp.p := List.take_of_length_le (by rw [List.length_map, ← HL.out]; omega)
      rw [htq] at HSUM HALL
      have HR : Hid (wl = 0 ↔ PrC old new os ns (L.map ROp.p)) := by
        constructor
        · intro h
          have h4 := HSUM.out
          refine ⟨a1, b1, ⟨by omega, by omega⟩, ⟨by omega, by omega⟩, ⟨HPA.out.ok.1, HPB.out.ok.1⟩, HPA.out.ok.2, HPB.out.ok.2, ?_, HALL.out, ?_⟩
          · show (L.map ROp.p).length ≤ 100000
            rw [List.length_map, ← HL.out]
            omega
          · show sumO (L.map ROp.p) = new
            omega
        · rintro ⟨_, _, h⟩
          have h4 := HSUM.out
          have h5 := h.sum
          dsimp only at h5
          omega
      clear htq HSUM HALL
      go_wp2
      go_ret
      exact ⟨⟨decide (wl = 0), by first | rfl | simp, by rw [decide_eq_true_iff]; exact HR.out⟩, HE2.out.trans HE.out⟩
set_option maxHeartbeats 6400000 in
theorem rrun_any {A B : Option Addr} {m k : Nat} (c d : Nat) {x : List UInt8} {L : List ROp} (ha : SlB w A m x) (hmc : m ≤ c) (hm : m ≤ 1000000) (hs : SlC ropC 4 w B k L) (hw : ∀ y ∈ L, ropW w y) (hok : ∀ y ∈ L.map ROp.p, OpOk x.length y) (hsum : sumO (L.map ROp.p) ≤ 1000000) :
    Calls Tryz.prog 22 #[.slice A m c, .slice B k d] w fun e w' => (∃ A' m' c', e = .returned (.slice A' m' c') ∧ OsB w' w.heap.size A' m' c' ((L.map ROp.p).flatMap (runO x))) ∧ Ext w w' := by
  have HL := Lib.hid hs.len
  have HX := Lib.hid ha.len
  have hml6 := hs.le
  go_enter Tryz.func22, Tryz.ntmps22
  go_wp2
  go_loopw [5, 6] (fun o i wr => ∃ (q : Nat) (Ao : Option Addr) (mo co : Nat), q ≤ k ∧ o = .slice Ao mo co ∧ i = .int .i64 q ∧ Hid (OsB wr w.heap.size Ao mo co (((L.map ROp.p).take q).flatMap (runO x))) ∧ Hid (Ext w wr)) (fun _ i _ => k - (intOf i).toNat)
  case atStart => exact ⟨0, none, 0, 0, Nat.zero_le _, rfl, rfl, OsB.nil_, Ext.refl _⟩
  case round =>
    obtain ⟨q, Ao, mo, co, hq, rfl, rfl, HO, HE⟩ := hrel
    have hmo : mo ≤ 1000000 := by
      have h1 := run_lenO (x := x) rfl (fun y hy => hok y (List.mem_of_mem_take (i := q) hy))
      have h2 := sumO_take hok q
      have h3 := HO.out.len
      omega
    by_cases hlt : q < k
    · obtain ⟨bq, off, eA, hbl, hcs⟩ := (hs.ext HE.out).at_ hlt (by omega)
      subst eA
      have hlt1 : q < L.length := by rw [← HL.out]; exact hlt
      obtain ⟨y, hy⟩ : ∃ y, y = L[q] := ⟨_, rfl⟩
      have hyo : OpOk x.length y.p := by rw [hy]; exact hok _ (List.mem_map.2 ⟨_, List.getElem_mem hlt1, rfl⟩)
      have hyl : oLen y.p ≤ 1000000 := by
        have h1 := sumO_mem hok (x := y.p) (by rw [hy]; exact List.mem_map.2 ⟨_, List.getElem_mem hlt1, rfl⟩)
        omega
      have hwy : ropW wr y := by rw [hy]; exact (hw _ (List.getElem_mem hlt1)).ext HE.out
      have HRT : Hid (((L.map ROp.p).take (q + 1)).flatMap (runO x) = ((L.map ROp.p).take q).flatMap (runO x) ++ runO x y.p) := by
        show _ = _
        rw [map_take hlt1, ← hy, List.flatMap_append]
        simp
      have x0 : wr.cell? ⟨bq, off + (q * 4 + 0), none⟩ = (ropC L[q])[0]? := (hcs q hlt1 0 (by omega)).trans (List.getElem?_eq_getElem _).symm
      have x1 : wr.cell? ⟨bq, off + (q * 4 + 1), none⟩ = (ropC L[q])[1]? := (hcs q hlt1 1 (by omega)).trans (List.getElem?_eq_getElem _).symm
      have x2 : wr.cell? ⟨bq, off + (q * 4 + 2), none⟩ = (ropC L[q])[2]? := (hcs q hlt1 2 (by omega)).trans (List.getElem?_eq_getElem _).symm
      have x3 : wr.cell? ⟨bq, off + (q * 4 + 3), none⟩ = (ropC L[q])[3]? := (hcs q hlt1 3 (by omega)).trans (List.getElem?_eq_getElem _).symm
      rw [← hy] at x0 x1 x2 x3
      have hi1 : (q : Int) < (k : Int) := by omega
      clear hcs hy
      obtain ⟨px, xo, xn, ⟨Ah, mh, ch⟩⟩ := y
      dsimp only at HRT hyo hyl hwy
      have hsz := HE.out.size_le
      cases px with
      | ins s =>
        simp only [ropC, List.getElem?_cons_zero, List.getElem?_cons_succ, Nat.add_zero, ← Nat.add_assoc] at x0 x1 x2 x3
        have hbs : SlB wr Ah mh s := hwy
        have hml : mh ≤ 1000000 := by rw [hbs.len]; have h9 : (s.length : Int) ≤ 1000000 := hyl; omega
        clear hwy hyo hyl
        go_wp2_with (first
          | (at_builtin; refine Hid.out ?_))
        refine Hid.mk_ ?_
        refine appB rfl _ _ rfl HO.out rfl hbs rfl (by omega) hsz ?_
        intro A7 m7 c7 w7 ho7 hg7 hN7
        have HO7 : Hid (OsB w7 w.heap.size A7 m7 c7 (((L.map ROp.p).take (q + 1)).flatMap (runO x))) := by
          show OsB _ _ _ _ _ _
          rw [HRT.out]
          exact ho7
        have HE7 : Hid (Ext w w7) := HE.out.grown hg7 (fun j hj => HO.out.ge j hj)
        clear ho7 hg7 hN7 hbs
        go_wp2
        go_roundw
        case rel => exact ⟨q + 1, A7, m7, c7, by omega, rfl, by go_num, HO7, HE7⟩
        case measure => simp [intOf]; omega
      | cp o n =>
        have ho1 : 0 ≤ o ∧ 1 ≤ n ∧ o + n ≤ (x.length : Int) := hyo
        simp only [ropC, List.getElem?_cons_zero, List.getElem?_cons_succ, Nat.add_zero, ← Nat.add_assoc] at x0 x1 x2 x3
        have hlo := HX.out
        obtain ⟨i, hi⟩ : ∃ i : Nat, o = i := ⟨o.toNat, by omega⟩
        obtain ⟨j, hj⟩ : ∃ j : Nat, o + n = j := ⟨(o + n).toNat, by omega⟩
        obtain ⟨A2, hx1, hx2, hx3, hsm, hobm⟩ := cut_run (ha.ext HE.out) (i := i) (j := j) (by omega) (by omega) hmc
        have q1 : ∀ W, (Instr.sliceAt 22 (.slice A m c) (some (.int .i64 o)) (some (.int .i64 (o + n))) none).run Tryz.prog W = .ok (.slice A2 (j - i) (c - i)) W := fun W => (hx1 W .i64 .i64 _ _ hi hj).1
        have q2 : ∀ W, (Instr.slice 22 (.slice A m c) (some (.int .i64 o)) (some (.int .i64 (o + n))) none).run Tryz.prog W = .ok (.slice A2 (j - i) (c - i)) W := fun W => (hx1 W .i64 .i64 _ _ hi hj).2
        have hcb : j - i ≤ 1000000 := by omega
        have hb1 : 0 ≤ o ∧ 1 ≤ n ∧ o + n ≤ 1000000 := by omega
        obtain ⟨hb1, hb2, hb3⟩ := hb1
        have hb4 : 0 ≤ o + n := by omega
        have HRN : Hid ((x.take j).drop i = runO x (.cp o n)) := by
          show (x.take j).drop i = (x.drop o.toNat).take n.toNat
          rw [List.drop_take, show o.toNat = i by omega, show n.toNat = j - i by omega]
        have X0 := latersU x0
        have X1 := latersU x1
        have X2 := latersU x2
        clear hx1 hx2 hx3 hi hj hyo hyl hwy ho1 hlo
        go_wp2_with fail
        go_upto_region 7 with fail
        refine wp_region_ext_tail 19 (by kernel_rfl) (by kernel_rfl) ?_
        simp only [List.take_succ_cons, List.take_zero, List.drop_succ_cons, List.drop_zero]
        repeat (go_big_quiet_step (fail))
        refine wpQuiet_nil ?_
        rintro w5 ⟨⟨_, h5⟩, rfl⟩
        try dsimp only
        refine appB rfl _ _ rfl (HO.out.ext h5) rfl (hsm.ext h5) rfl (by omega) (Nat.le_trans hsz h5.size_le) ?_
        intro A7 m7 c7 w7 ho7 hg7 hN7
        have HO7 : Hid (OsB w7 w.heap.size A7 m7 c7 (((L.map ROp.p).take (q + 1)).flatMap (runO x))) := by
          show OsB _ _ _ _ _ _
          rw [HRT.out, ← HRN.out]
          exact ho7
        have HE7 : Hid (Ext w w7) := (HE.out.trans h5).grown hg7 (fun j hj => HO.out.ge j hj)
        clear ho7 hg7 hN7 hsm X0 X1 X2 h5
        go_wp2
        go_roundw
        case rel => exact ⟨q + 1, A7, m7, c7, by omega, rfl, by go_num, HO7, HE7⟩
        case measure => simp [intOf]; omega
    · have hi1 : ¬ (q : Int) < (k : Int) := by omega
      have hqe : (L.map ROp.p).take q = L.map ROp.p := List.take_of_length_le (by rw [List.length_map, ← HL.out]; omega)
      rw [hqe] at HO
      clear hqe
      go_wp2
      go_ret
      exact ⟨⟨Ao, mo, co, rfl, HO.out⟩, HE.out⟩
end
end Go.Proofs.YtghndnacmpckbaaGreatDoor
