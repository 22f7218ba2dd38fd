/- The program's scripts: the classes of a pattern; a pattern at a place. -/
import Derived.Test.YtgnchicipmomlaaGreatDoorPK31
namespace Go.Proofs.YtgnchicipmomlaaGreatDoor
open Go.RowKit
set_option maxRecDepth 100000
attribute [local go_sem] ext_refl_t ext_alloc_t ext_drew_t ext_drewN_t ext_alloc2_t ext_alloc3_t ext_alloc4_t ext_alloc5_t ext_alloc6_t ext_alloc7_t ext_alloc8_t ext_alloc1d_t ext_alloc2d_t ext_alloc3d_t ext_alloc4d_t
/-- A pointer to a row of bools, or none. -/
def ptrC (p : Option Nat) : List Value := [.pointer (p.map fun g => ⟨g, 0, none⟩)]
theorem ptrC_len (p : Option Nat) : (ptrC p).length = 1 := rfl
theorem ptrC_cell (p : Option Nat) : ∀ u ∈ ptrC p, u.oneCell' = true := fun u hu => by
  simp [ptrC] at hu
  rw [hu]; rfl
theorem OsC.newL {α : Type} {cs : α → List Value} {e : TypeId} {k : Nat} (w : World) (base : Nat) (hbase : base ≤ w.heap.size) (l : List α) (h1 : ∀ x, (cs x).length = k) (h2 : ∀ x, ∀ u ∈ cs x, u.oneCell' = true) (hb : l.length ≤ 1000000) (xs : Array Value) (hxs : xs = (l.flatMap cs).toArray) (n : Nat) (hn : n = l.length) :
    OsC cs e k (w.alloc (.cells xs e)) base (some ⟨w.heap.size, 0, none⟩) n n l := by
  subst hxs hn
  have hl : (l.flatMap cs).length = l.length * k := flat_len h1 l
  refine OsC.of_row rfl hbase (heap_alloc_new w _) (Nat.le_refl _) (by unfold maxLen; omega) (by rw [List.size_toArray]; exact hl) ?_ h1 h2 rfl (by omega)
  show ((l.flatMap cs).toArray.toList).take _ = _
  rw [List.toList_toArray, ← hl, List.take_length]
theorem info_ptr : (Tryz.prog.info? 218).map (fun i => (i.zero, i.size, i.bytes)) = some (some (.pointer none), 1, 8) := by kernel_rfl
theorem make_ptrs (N : Nat) (hN : N ≤ 1000) : ∃ M : Array Value, M = ((List.replicate N (none : Option Nat)).flatMap ptrC).toArray ∧ ∀ (W : World), (Instr.makeSlice 197 (.int .i64 (N : Int)) (.int .i64 (N : Int))).run Tryz.prog W = .ok (.slice (some ⟨W.heap.size, 0, none⟩) N N) (W.alloc (.cells M 218)) := by
  obtain ⟨i0, hi, hz0, hz1, hz2⟩ := info_parts info_ptr
  refine ⟨madeCells (Value.pointer none).cells ((N : Int).toNat * i0.size), ?_, fun W => ?_⟩
  · have h1 := congrArg List.toArray (toList_madeCells_one (Value.pointer none) N)
    rw [Array.toArray_toList] at h1
    rw [hz1, Int.toNat_natCast, Nat.mul_one]
    show madeCells #[Value.pointer none] N = _
    rw [h1]
    congr 1
    clear h1
    induction N with
    | zero => rfl
    | succ n ih => rw [List.replicate_succ, List.replicate_succ, List.flatMap_cons, ← ih (by omega)]; rfl
  · have h := run_makeSlice (P := Tryz.prog) W 197 218 i0 (.pointer none) Tryz.underlying197 hi hz0 .i64 .i64 (N : Int) (N : Int) (by omega) (by omega) (by rw [hz1]; omega) (by rw [hz2]; omega) (by omega)
    simpa using h
/-- The classes of items: a row for each class. -/
def ClsOk (w : World) (items : List Itm) (ps : List (Option Nat)) : Prop := ps.length = items.length ∧ ∀ i (h : i < items.length) (h' : i < ps.length), items[i].text.size = 0 → ∃ g, ps[i] = some g ∧ BitsAt w g
/-- What classes gives. -/
def ClsR (w w' : World) (items : List Itm) (e : Ending) : Prop := ∃ (A : Option Addr) (m c : Nat) (ps : List (Option Nat)), e = .returned (.slice A m c) ∧ Ext w w' ∧ OsC ptrC 218 1 w' w.heap.size A m c ps ∧ ClsOk w' items ps
section
variable {w : World}
set_option maxHeartbeats 6400000 in
theorem classes_any {h : SlH} {items : List Itm} (hs : ItmsW w h items) (hm21 : items.length ≤ 21) :
    Calls Tryz.prog 110 #[.slice h.A h.m h.c] w fun e w' => ClsR w w' items e := by
  obtain ⟨A, m, c⟩ := h
  have HL := Lib.hid hs.sl.len
  have hle := hs.sl.le
  have hbd := hs.bd
  have HG := Lib.hid hs.good
  have hs := hs.sl
  dsimp only at HL hle hbd hs ⊢
  go_enter Tryz.func110, Tryz.ntmps110
  have hm21 : m ≤ 21 := by rw [HL.out]; exact hm21
  obtain ⟨M, hM, hmk⟩ := make_ptrs m (by omega)
  have hmk1 := hmk w
  have ho := OsC.newL (e := 218) w w.heap.size (Nat.le_refl _) (List.replicate m (none : Option Nat)) ptrC_len ptrC_cell (by rw [List.length_replicate]; omega) M hM m (by rw [List.length_replicate])
  have hE0 : Ext w (w.alloc (.cells M 218)) := (Ext.refl w).alloc _
  clear hM hmk
  go_upto_region 2 with fail
  obtain ⟨W0, hW0⟩ : ∃ W0, W0 = w.alloc (.cells M 218) := ⟨_, rfl⟩
  rw [← hW0] at ho hE0 ⊢
  obtain ⟨g, hg⟩ : ∃ g, g = w.heap.size := ⟨_, rfl⟩
  rw [← hg] at ho ⊢
  have hgw : w.heap.size ≤ g := by omega
  clear hW0 hmk1 hg
  go_wp2
  go_loopw [11] (fun i wr => ∃ (q : Nat) (ps : List (Option Nat)), q ≤ m ∧ i = .int .i64 q ∧ Hid (Ext w wr) ∧ Hid (OsC ptrC 218 1 wr g (some ⟨g, 0, none⟩) m m ps) ∧ Hid (∀ i (_ : i < q) (h : i < items.length) (h' : i < ps.length), items[i].text.size = 0 → ∃ k, ps[i] = some k ∧ BitsAt wr k)) (fun i _ => m - (intOf i).toNat)
  case atStart => exact ⟨0, _, Nat.zero_le _, rfl, hE0, ho, fun i hi => absurd hi (by omega)⟩
  case round =>
    obtain ⟨q, ps, hq, rfl, HE, HO, HC⟩ := hrel
    by_cases hlt : q < m
    ·
      obtain ⟨b, off, e0, hbl, hcs⟩ := (hs.ext HE.out).at_ hlt (by omega)
      try dsimp only at e0
      subst e0
      have hlt1 : q < (items).length := by rw [← HL.out]; exact hlt
      have HM : Hid ((items)[q] ∈ items) := List.getElem_mem hlt1
      obtain ⟨y, hyq⟩ : ∃ y, y = (items)[q] := ⟨_, rfl⟩
      have y0 := hcs q hlt1 0 (by omega)
      have y1 := hcs q hlt1 1 (by omega)
      have y2 := hcs q hlt1 2 (by omega)
      have y3 := hcs q hlt1 3 (by omega)
      have y4 := hcs q hlt1 4 (by omega)
      simp only [← hyq, itmC, List.getElem_cons_zero, List.getElem_cons_succ, Nat.add_zero, ← Nat.add_assoc] at y0 y1 y2 y3 y4
      have hi1 : (q : Int) < (m : Int) := by omega
      rw [← hyq] at HM
      have HY := Lib.hid hyq
      clear hcs hyq
      have hbi := Blk.new wr 152 #[.string y.text, .slice y.h.A y.h.m y.h.c, .bool y.no, .int .i64 y.least, .int .i64 y.most]
      have hEx : Ext wr (wr.alloc (Obj.cells #[.string y.text, .slice y.h.A y.h.m y.h.c, .bool y.no, .int .i64 y.least, .int .i64 y.most] 152)) := (Ext.refl _).alloc _
      have hE2 := HE.out.trans hEx
      have hO2 := HO.out.ext hEx
      by_cases ht : y.text.size = 0
      · have hte := tl_empty ht
        clear ht
        go_wp2_with (first
          | (go_at_call 134; refine Hid.out ?_))
        refine Hid.mk_ ((class_any (x := y) ((HG.out _ HM.out).ext hE2)).mono ?_)
        rintro e w4 ⟨k, rfl, hE4, hB4, hk4⟩
        have hE5 := hE2.trans hE4
        have hO5 := hO2.ext hE4
        obtain ⟨xs, hbk⟩ := hO5.blk_ (show ob (some ⟨g, 0, none⟩ : Option Addr) = some g from rfl)
        have hpl := hO5.len
        have hqp : q < ps.length := by omega
        obtain ⟨b', off', hA', -, hcs'⟩ := hO5.sl.at_ (i := q) hlt (by omega)
        simp only [Option.some.injEq, Addr.mk.injEq, and_true] at hA'
        obtain ⟨rfl, rfl⟩ := hA'
        have c0 := hcs' q hqp 0 (by omega)
        simp only [ptrC, List.getElem_cons_zero, Nat.mul_one, Nat.add_zero, Nat.zero_add] at c0
        have f0 := hbk.frozen q
        have hset := hO5.setAt (i := q) (j := 0) hqp (by omega) (some k) (.pointer (some ⟨k, 0, none⟩)) (by simp [ptrC])
        simp only [Nat.mul_one, Nat.add_zero] at hset
        have hE9 : Ext w (w4.setCell ⟨g, q, none⟩ (.pointer (some ⟨k, 0, none⟩))) := hE5.set_ (p := ⟨g, q, none⟩) hgw _
        have hfar : ∀ z, BitsAt w4 z → BitsAt (w4.setCell ⟨g, q, none⟩ (.pointer (some ⟨k, 0, none⟩))) z := fun z ⟨cs, hz, h1, h2⟩ => ⟨cs, Blk.far hz (p := ⟨g, q, none⟩) (Blk.ne_ hz hbk (by decide)) _, h1, h2⟩
        have HC2 : Hid (∀ i (_ : i < q + 1) (h : i < items.length) (h' : i < (ps.set q (some k)).length), items[i].text.size = 0 → ∃ k', (ps.set q (some k))[i] = some k' ∧ BitsAt (w4.setCell ⟨g, q, none⟩ (.pointer (some ⟨k, 0, none⟩))) k') := fun i hi h h' h0 => by
          rcases Nat.lt_or_ge i q with h2 | h2
          · obtain ⟨k', e, hb⟩ := HC.out i h2 h (by simpa using h') h0
            exact ⟨k', by rw [List.getElem_set_ne (by omega)]; exact e, hfar _ ((hb.ext hEx).ext hE4)⟩
          · obtain rfl : i = q := by omega
            exact ⟨k, by rw [List.getElem_set_self], hfar _ hB4⟩
        have HE9 := Lib.hid hE9
        have HSET := Lib.hid hset
        generalize ps[q] = pq at c0
        clear hE9 hset hfar hcs' hO5 hE5 hE2 hO2 hbk
        clear hpl
        go_wp2
        all_goals first
          | (go_ret; exact ⟨rfl, hb2, hE, hf1⟩)
          | (refine ⟨⟨q + 1, _, by omega, by go_num, HE9, HSET, HC2⟩, ?_⟩; first | (simp [intOf]; omega) | (simp [intOf]) | omega)
          | (go_roundw; (case rel => exact ⟨q + 1, _, by omega, by go_num, HE9, HSET, HC2⟩); (case measure => first | (simp [intOf]; omega) | (simp [intOf])))
      · have hte := tl_full ht
        have HC2 : Hid (∀ i (_ : i < q + 1) (h : i < items.length) (h' : i < ps.length), items[i].text.size = 0 → ∃ k, ps[i] = some k ∧ BitsAt (wr.alloc (Obj.cells #[.string y.text, .slice y.h.A y.h.m y.h.c, .bool y.no, .int .i64 y.least, .int .i64 y.most] 152)) k) := fun i hi h h' h0 => by
          rcases Nat.lt_or_ge i q with h2 | h2
          · obtain ⟨k, e, hb⟩ := HC.out i h2 h h' h0
            exact ⟨k, e, hb.ext hEx⟩
          · obtain rfl : i = q := by omega
            rw [← HY.out] at h0
            exact absurd h0 ht
        have HE2 := Lib.hid hE2
        have HO2 := Lib.hid hO2
        clear ht hE2 hO2
        go_wp2
        all_goals first
          | (go_ret; exact ⟨rfl, hb2, hE, hf1⟩)
          | (refine ⟨⟨q + 1, ps, by omega, by go_num, HE2, HO2, HC2⟩, ?_⟩; first | (simp [intOf]; omega) | (simp [intOf]) | omega)
          | (go_roundw; (case rel => exact ⟨q + 1, ps, by omega, by go_num, HE2, HO2, HC2⟩); (case measure => first | (simp [intOf]; omega) | (simp [intOf])))
    · have hi1 : ¬ (q : Int) < (m : Int) := by omega
      go_wp2
      go_ret
      exact ⟨_, m, m, ps, rfl, HE.out, HO.out.mono hgw, by rw [← HO.out.len, ← HL.out], fun i h h' h0 => HC.out i (by have := HL.out; omega) h h' h0⟩

set_option maxHeartbeats 6400000 in
theorem match_any {h : SlH} {items : List Itm} (hs : ItmsW w h items) {A2 : Option Addr} {m2 c2 : Nat} {ps : List (Option Nat)} (hp : SlC ptrC 1 w A2 m2 ps) (hcl : ClsOk w items ps) (s : ByteArray) (hz : s.size ≤ 140737488351232) :
    Calls Tryz.prog 111 #[.slice h.A h.m h.c, .slice A2 m2 c2, .string s] w fun e w' => TakR s.size e ∧ Ext w w' := by
  obtain ⟨A, m, c⟩ := h
  have HL := Lib.hid hs.sl.len
  have hle := hs.sl.le
  have HG := Lib.hid hs.good
  have hs := hs.sl
  dsimp only at HL hle hs ⊢
  have HCL := Lib.hid hcl
  have hm2 : m2 = m := by rw [hp.len, hcl.1, ← HL.out]
  subst hm2
  clear hcl
  go_enter Tryz.func111, Tryz.ntmps111
  go_wp2
  go_loopw [8, 15] (fun nn i wr => ∃ (n q : Nat), q ≤ m2 ∧ n ≤ s.size ∧ nn = .int .i64 n ∧ i = .int .i64 q ∧ Ext w wr) (fun _ i _ => m2 - (intOf i).toNat)
  case atStart => exact ⟨0, 0, Nat.zero_le _, Nat.zero_le _, rfl, rfl, Ext.refl _⟩
  case round =>
    obtain ⟨n, q, hq, hn, rfl, rfl, hE⟩ := hrel
    obtain ⟨m, rfl⟩ : ∃ m, m = m2 := ⟨_, rfl⟩
    by_cases hlt : q < m
    ·
      obtain ⟨b, off, e0, hbl, hcs⟩ := (hs.ext hE).at_ hlt (by omega)
      try dsimp only at e0
      subst e0
      have hlt1 : q < (items).length := by rw [← HL.out]; exact hlt
      have HM : Hid ((items)[q] ∈ items) := List.getElem_mem hlt1
      obtain ⟨y, hyq⟩ : ∃ y, y = (items)[q] := ⟨_, rfl⟩
      have y0 := hcs q hlt1 0 (by omega)
      have y1 := hcs q hlt1 1 (by omega)
      have y2 := hcs q hlt1 2 (by omega)
      have y3 := hcs q hlt1 3 (by omega)
      have y4 := hcs q hlt1 4 (by omega)
      simp only [← hyq, itmC, List.getElem_cons_zero, List.getElem_cons_succ, Nat.add_zero, ← Nat.add_assoc] at y0 y1 y2 y3 y4
      have hi1 : (q : Int) < (m : Int) := by omega
      rw [← hyq] at HM
      have HY := Lib.hid hyq
      clear hcs hyq
      have hqp : q < ps.length := by rw [HCL.out.1]; exact hlt1
      obtain ⟨b2, off2, e0, -, hcs2⟩ := (hp.ext hE).at_ (i := q) hlt (by omega)
      subst e0
      have c0 := hcs2 q hqp 0 (by omega)
      simp only [ptrC, List.getElem_cons_zero, Nat.mul_one, Nat.add_zero] at c0
      have HPQ : Hid (y.text.size = 0 → ∃ g, (ps[q]).map (fun g => (⟨g, 0, none⟩ : Addr)) = some ⟨g, 0, none⟩ ∧ BitsAt w g) := fun h0 => by
        rw [HY.out] at h0
        obtain ⟨g, e, hb⟩ := HCL.out.2 q hlt1 hqp h0
        exact ⟨g, by rw [e]; rfl, hb⟩
      generalize (ps[q]).map (fun g => (⟨g, 0, none⟩ : Addr)) = pq at c0 HPQ
      have hbi := Blk.new wr 152 #[.string y.text, .slice y.h.A y.h.m y.h.c, .bool y.no, .int .i64 y.least, .int .i64 y.most]
      have hEx : Ext wr (wr.alloc (Obj.cells #[.string y.text, .slice y.h.A y.h.m y.h.c, .bool y.no, .int .i64 y.least, .int .i64 y.most] 152)) := (Ext.refl _).alloc _
      obtain ⟨W2, hW2⟩ : ∃ W2, W2 = wr.alloc (Obj.cells #[.string y.text, .slice y.h.A y.h.m y.h.c, .bool y.no, .int .i64 y.least, .int .i64 y.most] 152) := ⟨_, rfl⟩
      go_upto_region 5 with fail
      rw [← hW2] at hbi hEx ⊢
      obtain ⟨gi, hgi⟩ : ∃ gi, gi = wr.heap.size := ⟨_, rfl⟩
      rw [← hgi] at hbi ⊢
      have I0 := laters (hbi.cell 0)
      have I1 := laters (hbi.cell 1)
      have I2 := laters (hbi.cell 2)
      have I3 := laters (hbi.cell 3)
      have I4 := laters (hbi.cell 4)
      simp at I0 I1 I2 I3 I4
      have hE2 := hE.trans hEx
      have P0 := laters (later hEx c0)
      have hEd : Ext W2 W2.drew := (Ext.refl W2).drew
      have hE3 := hE2.trans hEd
      have hn1 : (n : Int) ≤ (s.size : Int) := by omega
      have hse : (s.extract n s.size).size = s.size - n := by rw [ByteArray.size_extract]; omega
      have HSE := Lib.hid hse
      have HTK := Lib.hid (take_any ((HG.out y HM.out).ext hE3) pq (fun h0 => by obtain ⟨g, e, hb⟩ := HPQ.out h0; exact ⟨g, e, hb.ext hE3⟩) (s.extract n s.size) (by omega))
      clear hW2 hgi hse hbi
      go_region_law
        (first
          | (go_simp
             go_at_call 135
             (refine (HTK.out).mono ?_)
             rintro e v1 ⟨⟨k, ok, rfl, hk⟩, hEv⟩
             have hEv1 := hEd.trans hEv)
          | fail)
      all_goals
        have hkn : n + k ≤ s.size := by have := HSE.out; omega
        have hE9 := hE2.trans hEv1
        clear hk
        cases ok with
        | true =>
          go_wp2
          all_goals first
            | (go_ret; exact ⟨rfl, hb2, hE, hf1⟩)
            | (refine ⟨⟨n + k, q + 1, by omega, by omega, by go_num, by go_num, hE9⟩, ?_⟩; first | (simp [intOf]; omega) | (simp [intOf]) | omega)
            | (go_roundw; (case rel => exact ⟨n + k, q + 1, by omega, by omega, by go_num, by go_num, hE9⟩); (case measure => first | (simp [intOf]; omega) | (simp [intOf])))
        | false =>
          go_wp2
          go_ret2
          exact ⟨⟨0, _, rfl, Nat.zero_le _⟩, hE9⟩
    · have hi1 : ¬ (q : Int) < (m : Int) := by omega
      go_wp2
      go_ret2
      exact ⟨⟨n, _, rfl, hn⟩, hE⟩
end
end Go.Proofs.YtgnchicipmomlaaGreatDoor

/- The program's scripts: the lexer. -/
namespace Go.Proofs.YtgnchicipmomlaaGreatDoor
open Go.RowKit Go.Maps
set_option maxRecDepth 100000
attribute [local go_sem] ext_refl_t ext_alloc_t ext_drew_t ext_drewN_t ext_alloc2_t ext_alloc3_t ext_alloc4_t ext_alloc5_t ext_alloc6_t ext_alloc7_t ext_alloc8_t ext_alloc1d_t ext_alloc2d_t ext_alloc3d_t ext_alloc4d_t
/-- Rows whose type is not in T are as they were. -/
def FrT (T : TypeId → Prop) (w w' : World) : Prop := ∀ k t cs, Blk w k t cs → ¬ T t → Blk w' k t cs
theorem FrT.of_ext {T : TypeId → Prop} {w w' : World} (h : Ext w w') : FrT T w w' := fun _ _ _ hb _ => Blk.below hb h hb.lt
theorem FrT.trans {T : TypeId → Prop} {w w1 w2 : World} (h : FrT T w w1) (k : FrT T w1 w2) : FrT T w w2 := fun j t cs hb hT => k j t cs (h j t cs hb hT) hT
theorem FrT.set_ {T : TypeId → Prop} {w : World} {g : Nat} {t : TypeId} {cs : Array Value} (hb : Blk w g t cs) (hT : T t) (i : Nat) (u : Value) : FrT T w (w.setCell ⟨g, i, none⟩ u) := fun k t' cs' h hn => Blk.far h (p := ⟨g, i, none⟩) (by
  intro e
  have e2 : k = g := e
  subst e2
  have h1 := h.symm.trans hb
  injection h1 with h1
  injection h1 with _ h3
  exact hn (h3 ▸ hT)) u
theorem FrT.own {T : TypeId → Prop} {α : Type} {cs : α → List Value} {e : TypeId} {k : Nat} {w w' : World} {base : Nat} {A : Option Addr} {m c : Nat} {l : List α} (ho : OsC cs e k w base A m c l) (hT : T e) (hg : w.grownBy w' (ob A)) : FrT T w w' := fun j t xs h hn => Blk.grown h hg (fun e2 => by
  have h1 := own_blk_ne ho.own h (fun e3 => hn (e3 ▸ hT))
  rw [ob_own] at h1
  exact h1 e2.symm)
theorem OsC.frt {T : TypeId → Prop} {α : Type} {cs : α → List Value} {e : TypeId} {k : Nat} {w w' : World} {base : Nat} {A : Option Addr} {m c : Nat} {l : List α} (h : OsC cs e k w base A m c l) (hf : FrT T w w') (he : ¬ T e) : OsC cs e k w' base A m c l := by
  refine ⟨⟨h.own.1, ?_⟩, h.one, h.cell, h.len, h.le⟩
  rcases h.own.2 with hn | ⟨g, cap, cur, hv, hg, hh, r⟩
  · exact .inl hn
  · exact .inr ⟨g, cap, cur, hv, hg, hf g e cur hh he, r⟩
theorem BitsAt.frt {T : TypeId → Prop} {w w' : World} {g : Nat} (h : BitsAt w g) (hf : FrT T w w') (he : ¬ T 214) : BitsAt w' g := by
  obtain ⟨cs, hb, h1, h2⟩ := h
  exact ⟨cs, hf g _ cs hb he, h1, h2⟩
theorem ClsOk.ext {w w' : World} {items : List Itm} {ps : List (Option Nat)} (h : ClsOk w items ps) (hE : Ext w w') : ClsOk w' items ps := ⟨h.1, fun i h1 h2 h0 => by
  obtain ⟨g, e, hb⟩ := h.2 i h1 h2 h0
  exact ⟨g, e, hb.ext hE⟩⟩
theorem ClsOk.frt {T : TypeId → Prop} {w w' : World} {items : List Itm} {ps : List (Option Nat)} (h : ClsOk w items ps) (hf : FrT T w w') (he : ¬ T 214) : ClsOk w' items ps := ⟨h.1, fun i h1 h2 h0 => by
  obtain ⟨g, e, hb⟩ := h.2 i h1 h2 h0
  exact ⟨g, e, hb.frt hf he⟩⟩
def shC (h : SlH) : List Value := [.slice h.A h.m h.c]
theorem shC_len (h : SlH) : (shC h).length = 1 := rfl
theorem shC_cell (h : SlH) : ∀ u ∈ shC h, u.oneCell' = true := fun u hu => by
  simp [shC] at hu
  rw [hu]; rfl
theorem einfo_r2 : EInfo 196 197 1 24 := EInfo.mk_ (z := .slice none 0 0) Tryz.underlying196 (by kernel_rfl) rfl (by omega) (by omega)
theorem einfo_r3 : EInfo 193 196 1 24 := EInfo.mk_ (z := .slice none 0 0) Tryz.underlying193 (by kernel_rfl) rfl (by omega) (by omega)
/-- The classes of a rule, of a state's rules. -/
def ClsT (w : World) (items : List Itm) (h : SlH) : Prop := ∃ (ps : List (Option Nat)) (b : Nat), OsC ptrC 218 1 w b h.A h.m h.c ps ∧ ClsOk w items ps
def RowT (w : World) (rules : List Rul) (h : SlH) : Prop := ∃ (rows : List SlH) (b : Nat), OsC shC 197 1 w b h.A h.m h.c rows ∧ rows.length = rules.length ∧ ∀ j (h1 : j < rules.length) (h2 : j < rows.length), ClsT w rules[j].items rows[j]
theorem ClsT.ext {w w' : World} {items : List Itm} {h : SlH} (hc : ClsT w items h) (hE : Ext w w') : ClsT w' items h := by
  obtain ⟨ps, b, h1, h2⟩ := hc
  exact ⟨ps, b, h1.ext hE, h2.ext hE⟩
theorem RowT.ext {w w' : World} {rules : List Rul} {h : SlH} (hc : RowT w rules h) (hE : Ext w w') : RowT w' rules h := by
  obtain ⟨rows, b, h1, h2, h3⟩ := hc
  exact ⟨rows, b, h1.ext hE, h2, fun j e1 e2 => (h3 j e1 e2).ext hE⟩
theorem ClsT.frt {T : TypeId → Prop} {w w' : World} {items : List Itm} {h : SlH} (hc : ClsT w items h) (hf : FrT T w w') (h1 : ¬ T 214) (h2 : ¬ T 218) : ClsT w' items h := by
  obtain ⟨ps, b, e1, e2⟩ := hc
  exact ⟨ps, b, e1.frt hf h2, e2.frt hf h1⟩
theorem RowT.frt {T : TypeId → Prop} {w w' : World} {rules : List Rul} {h : SlH} (hc : RowT w rules h) (hf : FrT T w w') (h1 : ¬ T 214) (h2 : ¬ T 218) (h3 : ¬ T 197) : RowT w' rules h := by
  obtain ⟨rows, b, e1, e2, e3⟩ := hc
  exact ⟨rows, b, e1.frt hf h3, e2, fun j i1 i2 => (e3 j i1 i2).frt hf h1 h2⟩
/-- A map of strings to numbers below n. -/
def IMN (w : World) (bm k n : Nat) : Prop := ∃ F, IM w bm k F ∧ ∀ s v, F s = some v → v < n
section
variable {w w' : World} {bm k n : Nat}
theorem IMN.ext (h : IMN w bm k n) (hE : Ext w w') : IMN w' bm k n := by obtain ⟨F, h1, h2⟩ := h; exact ⟨F, h1.ext hE, h2⟩
theorem IMN.kept {r : Option Nat} (h : IMN w bm k n) (hg : w.grownBy w' r) (hr : some bm ≠ r) : IMN w' bm k n := by obtain ⟨F, h1, h2⟩ := h; exact ⟨F, h1.kept hg hr, h2⟩
theorem IMN.made (w : World) (n : Nat) : IMN (w.alloc (.map #[] 0)) w.heap.size 0 n := ⟨_, IM.made w, fun s v e => by cases e⟩
theorem IMN.store (h : IMN w bm k n) (hk : k ≤ 1000000000) (s : ByteArray) (hs : s.size ≤ 140737488351232) (x : Nat) (hx : x < n) (hx2 : x ≤ 1000000000) :
    ∃ w', (Instr.mapUpdate 49 (.map (some bm)) (.string s) (.int .i64 (x : Int))).run Tryz.prog w = .ok () w' ∧ IMN w' bm (k + 1) n ∧ w.grownBy w' (some bm) := by
  obtain ⟨F, h1, h2⟩ := h
  obtain ⟨w', e1, e2, e3⟩ := h1.store (by unfold maxLen; omega) s (by unfold maxLen; omega) x (by omega)
  refine ⟨w', e1, ⟨_, e2, fun t v e => ?_⟩, e3⟩
  unfold updI at e
  by_cases ht : t = s
  · rw [if_pos ht] at e
    injection e with e
    omega
  · rw [if_neg ht] at e
    exact h2 t v e
theorem IMN.ne_blk {g : Nat} {t : TypeId} {cs : Array Value} (h : IMN w bm k n) (hb : Blk w g t cs) : g ≠ bm := by
  obtain ⟨F, ⟨D, ⟨es, clock, h1, h2⟩, hv⟩, _⟩ := h
  intro e
  unfold Blk at hb
  rw [e, h1] at hb
  cases hb
end
theorem FrT.map {T : TypeId → Prop} {w w' : World} {bm k n : Nat} (h : IMN w bm k n) (hg : w.grownBy w' (some bm)) : FrT T w w' := fun _ _ _ hb _ => Blk.grown hb hg (fun e => h.ne_blk hb (by injection e))
/-- The lexer of a script. -/
def LexOk (w : World) (b : Nat) (h : SlH) (l : List Sta) : Prop := ∃ (HB : SlH) (rows : List SlH) (bm k base : Nat), Blk w b 195 #[.slice h.A h.m h.c, .slice HB.A HB.m HB.c, .map (some bm)] ∧ OsC shC 196 1 w base HB.A HB.m HB.c rows ∧ rows.length = l.length ∧ (∀ i (h1 : i < l.length) (h2 : i < rows.length), RowT w l[i].rules rows[i]) ∧ IMN w bm k l.length
theorem LexOk.ext {w w' : World} {b : Nat} {h : SlH} {l : List Sta} (hl : LexOk w b h l) (hE : Ext w w') : LexOk w' b h l := by
  obtain ⟨HB, rows, bm, k, base, h1, h2, h3, h4, h5⟩ := hl
  exact ⟨HB, rows, bm, k, base, h1.below hE h1.lt, h2.ext hE, h3, fun i e1 e2 => (h4 i e1 e2).ext hE, h5.ext hE⟩
def LexR (w w' : World) (h : SlH) (l : List Sta) (e : Ending) : Prop := ∃ b, e = .returned (.pointer (some ⟨b, 0, none⟩)) ∧ Ext w w' ∧ LexOk w' b h l
/-- A lexer that is being made, for the first q states. -/
structure LxS (w wr : World) (gl bm : Nat) (h : SlH) (l : List Sta) (q kq : Nat) (A : Option Addr) (m c : Nat) (rows : List SlH) : Prop where
  ext : Ext w wr
  blk : Blk wr gl 195 #[.slice h.A h.m h.c, .slice A m c, .map (some bm)]
  own : OsC shC 196 1 wr w.heap.size A m c rows
  len : rows.length = q
  row : ∀ i (h1 : i < l.length) (h2 : i < rows.length), RowT wr l[i].rules rows[i]
  map : IMN wr bm kq l.length
  gl_ : w.heap.size ≤ gl
  bm_ : w.heap.size ≤ bm
theorem LxS.extn {w wr w2 : World} {gl bm q kq m c : Nat} {h : SlH} {l : List Sta} {A : Option Addr} {rows : List SlH} (hx : LxS w wr gl bm h l q kq A m c rows) (hE : Ext wr w2) : LxS w w2 gl bm h l q kq A m c rows :=
  ⟨hx.ext.trans hE, hx.blk.below hE hx.blk.lt, hx.own.ext hE, hx.len, fun i e1 e2 => (hx.row i e1 e2).ext hE, hx.map.ext hE, hx.gl_, hx.bm_⟩
section
variable {w : World}
set_option maxHeartbeats 6400000 in
theorem lexerOf_any {h : SlH} {l : List Sta} (hs : ScrW w h l) (hT : ∀ x ∈ l, LgT x) (h20 : l.length ≤ 20) (h40 : ∀ x ∈ l, x.rules.length ≤ 40) :
    Calls Tryz.prog 77 #[.slice h.A h.m h.c] w fun e w' => LexR w w' h l e := by
  obtain ⟨A, m, c⟩ := h
  have HL := Lib.hid hs.sl.len
  have hle := hs.sl.le
  have HG := Lib.hid hs.good
  have HT := Lib.hid hT
  have H40 := Lib.hid h40
  have hs := hs.sl
  dsimp only at HL hle hs ⊢
  have hm20 : m ≤ 20 := by rw [HL.out]; exact h20
  clear hT h40 h20
  have hmm := @run_makeMap Tryz.prog
  go_enter Tryz.func77, Tryz.ntmps77
  go_upto_region 2 with fail
  have hmap := (IMN.made w l.length).ext ((Ext.refl _).alloc (Obj.cells #[.slice A m c, .slice none 0 0, .map (some w.heap.size)] 195))
  have hbl := Blk.new (w.alloc (Obj.map #[] 0)) 195 #[.slice A m c, .slice none 0 0, .map (some w.heap.size)]
  have hE0 : Ext w ((w.alloc (Obj.map #[] 0)).alloc (Obj.cells #[.slice A m c, .slice none 0 0, .map (some w.heap.size)] 195)) := ((Ext.refl w).alloc _).alloc _
  have hsz : (w.alloc (Obj.map #[] 0)).heap.size = w.heap.size + 1 := by simp
  rw [hsz] at hbl
  obtain ⟨W0, hW0⟩ : ∃ W0, W0 = (w.alloc (Obj.map #[] 0)).alloc (Obj.cells #[.slice A m c, .slice none 0 0, .map (some w.heap.size)] 195) := ⟨_, rfl⟩
  rw [← hW0] at hmap hbl hE0 ⊢
  obtain ⟨gl, hgl⟩ : ∃ gl, gl = w.heap.size + 1 := ⟨_, rfl⟩
  rw [← hgl] at hbl ⊢
  obtain ⟨bm, hbm⟩ : ∃ bm, bm = w.heap.size := ⟨_, rfl⟩
  rw [← hbm] at hmap hbl ⊢
  have HX0 : Hid (LxS w W0 gl bm ⟨A, m, c⟩ l 0 0 none 0 0 []) := ⟨hE0, hbl, OsC.nil_ shC_len shC_cell, rfl, fun i _ h2 => absurd h2 (by simp), hmap, by omega, by omega⟩
  clear hmm hmap hbl hE0 hsz hW0 hgl hbm
  go_wp2
  go_loopw [15] (fun i wr => ∃ (q : Nat) (A1 : Option Addr) (m1 c1 : Nat) (rows : List SlH), q ≤ m ∧ m1 ≤ 20 ∧ i = .int .i64 q ∧ Hid (LxS w wr gl bm ⟨A, m, c⟩ l q q A1 m1 c1 rows)) (fun i _ => m - (intOf i).toNat)
  case atStart => exact ⟨0, none, 0, 0, [], Nat.zero_le _, Nat.zero_le _, rfl, HX0⟩
  case round =>
    obtain ⟨q, A1, m1, c1, rows, hq, hm1, rfl, HX⟩ := hrel
    by_cases hlt : q < m
    ·
      obtain ⟨b, off, e0, hbl, hcs⟩ := (hs.ext HX.out.ext).at_ hlt (by omega)
      try dsimp only at e0
      subst e0
      have hlt1 : q < (l).length := by rw [← HL.out]; exact hlt
      have HM : Hid ((l)[q] ∈ l) := List.getElem_mem hlt1
      obtain ⟨⟨nm, rules, ⟨B, n, d⟩⟩, hyq⟩ : ∃ y, y = (l)[q] := ⟨_, rfl⟩
      have x0 := hcs q hlt1 0 (by omega)
      have x1 := hcs q hlt1 1 (by omega)
      simp only [← hyq, staC, List.getElem_cons_zero, List.getElem_cons_succ, Nat.add_zero, ← Nat.add_assoc] at x0 x1
      have hi1 : (q : Int) < (m : Int) := by omega
      rw [← hyq] at HM
      have HY := Lib.hid hyq
      clear hcs hyq
      have hw : RulsW w ⟨B, n, d⟩ rules := (HG.out _ HM.out).r
      obtain ⟨hn16, hR⟩ := HT.out _ HM.out
      have hr40 := H40.out _ HM.out
      dsimp only at hn16 hR hr40
      have HG2 := Lib.hid hw.good
      have HR := Lib.hid hR
      have hw := hw.sl
      have HL2 := Lib.hid hw.len
      have hle2 := hw.le
      dsimp only at HL2 hle2
      have hn40 : n ≤ 40 := by rw [HL2.out]; exact hr40
      have hbi := Blk.new wr 115 #[.string nm, .slice B n d]
      have hEx : Ext wr (wr.alloc (Obj.cells #[.string nm, .slice B n d] 115)) := (Ext.refl _).alloc _
      obtain ⟨W2, hW2⟩ : ∃ W2, W2 = wr.alloc (Obj.cells #[.string nm, .slice B n d] 115) := ⟨_, rfl⟩
      go_upto_region 5 with fail
      rw [← hW2] at hbi hEx ⊢
      obtain ⟨gi, hgi⟩ : ∃ gi, gi = wr.heap.size := ⟨_, rfl⟩
      rw [← hgi] at hbi ⊢
      clear hW2 hgi
      have hX2 := HX.out.extn (hEx.trans (Ext.refl W2).drew)
      have k2 := hX2.blk.cell 2
      have i0 : W2.drew.cell? ⟨gi, 0, none⟩ = some (.string nm) := hbi.cell 0
      simp at k2
      obtain ⟨w5, hst, hM5, hg5⟩ := hX2.map.store (by omega) nm (by omega) q (by rw [← HL.out]; exact hlt) (by omega)
      have hbi5 : Blk w5 gi 115 #[.string nm, .slice B n d] := Blk.grown (hbi.below (Ext.refl W2).drew hbi.lt) hg5 (fun e => hX2.map.ne_blk (hbi.below (Ext.refl W2).drew hbi.lt) (by injection e))
      have j1 := hbi5.cell 1
      simp at j1
      have hf5 : FrT (fun _ => False) W2.drew w5 := FrT.map hX2.map hg5
      have HX5 : Hid (LxS w w5 gl bm ⟨some ⟨b, off, none⟩, m, c⟩ l q (q + 1) A1 m1 c1 rows) := ⟨hX2.ext.grown hg5 (fun k hk => by injection hk with hk; rw [← hk]; exact hX2.bm_), hf5 _ _ _ hX2.blk (fun e => e), hX2.own.frt hf5 (fun e => e), hX2.len, fun i e1 e2 => (hX2.row i e1 e2).frt hf5 (fun e => e) (fun e => e) (fun e => e), hM5, hX2.gl_, hX2.bm_⟩
      go_region
      clear hst hg5 hf5 hbi5 hX2 k2 i0 hbi hEx hM5 HX
      go_wp2
      go_loopw [6, 30] (fun v i wr => ∃ (k : Nat) (A2 : Option Addr) (m2 c2 : Nat) (rs : List SlH), k ≤ n ∧ m2 ≤ 40 ∧ i = .int .i64 k ∧ v = .slice A2 m2 c2 ∧ Hid (Ext w5 wr) ∧ Hid (OsC shC 197 1 wr w5.heap.size A2 m2 c2 rs) ∧ Hid (rs.length = k) ∧ Hid (∀ j (h1 : j < rules.length) (h2 : j < rs.length), ClsT wr rules[j].items rs[j])) (fun _ i _ => n - (intOf i).toNat)
      case atStart => exact ⟨0, none, 0, 0, [], Nat.zero_le _, Nat.zero_le _, rfl, rfl, Ext.refl _, OsC.nil_ shC_len shC_cell, rfl, fun j _ h2 => absurd h2 (by simp)⟩
      case round =>
        obtain ⟨k, A2, m2, c2, rs, hk, hm2, rfl, rfl, HE, HO, HRL, HC⟩ := hrel
        by_cases hltk : k < n
        ·
          obtain ⟨b2, off2, e0, hbl2, hcs2⟩ := (hw.ext (HX5.out.ext.trans HE.out)).at_ hltk (by omega)
          try dsimp only at e0
          subst e0
          have hlt2 : k < (rules).length := by rw [← (HL2).out]; exact hltk
          have HM2 : Hid ((rules)[k] ∈ rules) := List.getElem_mem hlt2
          obtain ⟨y, hyq⟩ : ∃ y, y = (rules)[k] := ⟨_, rfl⟩
          have y0 := hcs2 k hlt2 0 (by omega)
          have y1 := hcs2 k hlt2 1 (by omega)
          have y2 := hcs2 k hlt2 2 (by omega)
          simp only [← hyq, rulC, List.getElem_cons_zero, List.getElem_cons_succ, Nat.add_zero, ← Nat.add_assoc] at y0 y1 y2
          have hi2 : (k : Int) < (n : Int) := by omega
          rw [← hyq] at HM2
          have HY2 := Lib.hid hyq
          clear hcs2 hyq
          have hbk := Blk.new wr 110 #[.string y.kind, .slice y.h.A y.h.m y.h.c, .string y.next]
          have hEk : Ext wr (wr.alloc (Obj.cells #[.string y.kind, .slice y.h.A y.h.m y.h.c, .string y.next] 110)) := (Ext.refl _).alloc _
          have hEw := (HX5.out.ext.trans HE.out).trans hEk
          go_wp2_with (first
            | (go_at_call 110; refine Hid.out ?_))
          refine Hid.mk_ ((classes_any (h := y.h) (items := y.items) (RulW.ext (HG2.out y HM2.out) hEw).i (HR.out y HM2.out).2.2.1).mono ?_)
          rintro e w7 ⟨A3, m3, c3, ps, rfl, hE7, ho7, hcl7⟩
          have hEa : Ext w7 (w7.alloc (Obj.cells #[.slice A3 m3 c3] 197)) := (Ext.refl _).alloc _
          have hnew := SlC.new_ (cs := shC) w7 [(⟨A3, m3, c3⟩ : SlH)] shC_len (by simp) #[.slice A3 m3 c3] rfl (0, 0) 1 rfl 197
          have hEb := (hEk.trans hE7).trans hEa
          have hO8 := HO.out.ext hEb
          have hs5 := (HE.out.trans hEb).size_le
          go_wp2_with (first
            | (at_builtin; refine Hid.out ?_))
          refine Hid.mk_ ?_
          refine appC einfo_r2 rfl _ _ rfl hO8 rfl hnew rfl (by omega) hs5 ?_
          intro A8 m8 c8 w8 ho8 hg8 hn8
          have hf8 : FrT (fun t => t = 197) _ w8 := FrT.own hO8 rfl hg8
          have HM8 : Hid (m8 ≤ 40) := by show m8 ≤ 40; rw [ho8.len, List.length_append, HRL.out]; simp; omega
          have HRL8 : Hid ((rs ++ [(⟨A3, m3, c3⟩ : SlH)]).length = k + 1) := by show _ = _; rw [List.length_append, HRL.out]; rfl
          have HO8 := Lib.hid ho8
          have HE8 : Hid (Ext w5 w8) := (HE.out.trans hEb).grown hg8 (fun j hj => HO.out.ge j hj)
          have HC8 : Hid (∀ j (h1 : j < rules.length) (h2 : j < (rs ++ [(⟨A3, m3, c3⟩ : SlH)]).length), ClsT w8 rules[j].items (rs ++ [(⟨A3, m3, c3⟩ : SlH)])[j]) := fun j h1 h2 => by
            by_cases hj : j < rs.length
            · rw [List.getElem_append_left hj]
              exact ((HC.out j h1 hj).ext hEb).frt hf8 (by decide) (by decide)
            · have hjk : j = k := by rw [List.length_append, HRL.out] at h2; simp at h2; rw [HRL.out] at hj; omega
              subst hjk
              rw [List.getElem_append_right (by omega)]
              simp only [HRL.out, Nat.sub_self, List.getElem_cons_zero]
              rw [← HY2.out]
              exact ClsT.frt ⟨ps, _, ho7.ext hEa, hcl7.ext hEa⟩ hf8 (by decide) (by decide)
          clear ho8 hg8 hn8 hf8 hO8 hnew hEa hEb hs5 ho7 hcl7 hE7 hEw hEk hbk
          go_wp2
          all_goals first
            | (go_ret; exact ⟨rfl, hb2, hE, hf1⟩)
            | (refine ⟨⟨k + 1, A8, m8, c8, _, by omega, HM8.out, by go_num, rfl, HE8, HO8, HRL8, HC8⟩, ?_⟩; first | (simp [intOf]; omega) | (simp [intOf]) | omega)
            | (go_roundw; (case rel => exact ⟨k + 1, A8, m8, c8, _, by omega, HM8.out, by go_num, rfl, HE8, HO8, HRL8, HC8⟩); (case measure => first | (simp [intOf]; omega) | (simp [intOf])))
        · have hi2 : ¬ (k : Int) < (n : Int) := by omega
          have hX6 := HX5.out.extn HE.out
          have l1 := hX6.blk.cell 1
          have f1 := hX6.blk.frozen 1
          simp at l1
          have hEa : Ext wr (wr.alloc (Obj.cells #[.slice A2 m2 c2] 196)) := (Ext.refl _).alloc _
          have hnew := SlC.new_ (cs := shC) wr [(⟨A2, m2, c2⟩ : SlH)] shC_len (by simp) #[.slice A2 m2 c2] rfl (0, 0) 1 rfl 196
          have hX7 := hX6.extn hEa
          have hrow : RowT (wr.alloc (Obj.cells #[.slice A2 m2 c2] 196)) rules ⟨A2, m2, c2⟩ := RowT.ext ⟨rs, _, HO.out, by rw [HRL.out, ← HL2.out]; omega, HC.out⟩ hEa
          have hs7 := hX7.ext.size_le
          go_wp2_with (first
            | (at_builtin; refine Hid.out ?_))
          refine Hid.mk_ ?_
          refine appC einfo_r3 rfl _ _ rfl hX7.own rfl hnew rfl (by omega) hs7 ?_
          intro A8 m8 c8 w8 ho8 hg8 hn8
          have hf8 : FrT (fun t => t = 196) _ w8 := FrT.own hX7.own rfl hg8
          have hb8 := hf8 _ _ _ hX7.blk (by decide)
          have l8 := hb8.cell 1
          have q8 := hb8.frozen 1
          simp at l8
          have HM8 : Hid (m8 ≤ 20) := by show m8 ≤ 20; rw [ho8.len, List.length_append, hX7.len]; simp; omega
          have hf9 : FrT (fun t => t = 195) w8 (w8.setCell ⟨gl, 1, none⟩ (.slice A8 m8 c8)) := FrT.set_ (T := fun t => t = 195) hb8 rfl 1 _
          have hnb : some bm ≠ ob A1 := fun e => by
            obtain ⟨xs, hx⟩ := hX7.own.blk_ e.symm
            exact hX7.map.ne_blk hx rfl
          have hm8 := hX7.map.kept hg8 hnb
          have HX9 : Hid (LxS w (w8.setCell ⟨gl, 1, none⟩ (.slice A8 m8 c8)) gl bm ⟨some ⟨b, off, none⟩, m, c⟩ l (q + 1) (q + 1) A8 m8 c8 (rows ++ [(⟨A2, m2, c2⟩ : SlH)])) := by
            refine ⟨(hX7.ext.grown hg8 (fun j hj => hX7.own.ge j hj)).set_ (p := ⟨gl, 1, none⟩) hX7.gl_ _, ?_, ho8.frt hf9 (by decide), by rw [List.length_append, hX7.len]; rfl, fun i h1 h2 => ?_, hm8.kept (grown_setB w8 ⟨gl, 1, none⟩ _) (fun e => hm8.ne_blk hb8 (by injection e with e; exact e.symm)), hX7.gl_, hX7.bm_⟩
            · have := hb8.set_ 1 (.slice A8 m8 c8)
              simpa using this
            · by_cases hj : i < rows.length
              · rw [List.getElem_append_left hj]
                exact ((hX7.row i h1 hj).frt hf8 (by decide) (by decide) (by decide)).frt hf9 (by decide) (by decide) (by decide)
              · have hjk : i = q := by rw [List.length_append, hX7.len] at h2; simp at h2; rw [hX7.len] at hj; omega
                subst hjk
                rw [List.getElem_append_right (by omega)]
                simp only [hX7.len, Nat.sub_self, List.getElem_cons_zero]
                rw [← HY.out]
                exact (hrow.frt hf8 (by decide) (by decide) (by decide)).frt hf9 (by decide) (by decide) (by decide)
          clear ho8 hg8 hn8 hf8 hf9 hb8 hm8 hnb hX7 hX6 hrow hnew hEa
          go_wp2
          all_goals first
            | (go_ret; exact ⟨rfl, hb2, hE, hf1⟩)
            | (refine ⟨⟨q + 1, A8, m8, c8, _, by omega, HM8.out, by go_num, HX9⟩, ?_⟩; first | (simp [intOf]; omega) | (simp [intOf]) | omega)
            | (go_roundw; (case rel => exact ⟨q + 1, A8, m8, c8, _, by omega, HM8.out, by go_num, HX9⟩); (case measure => first | (simp [intOf]; omega) | (simp [intOf])))
    · have hi1 : ¬ (q : Int) < (m : Int) := by omega
      go_wp2
      go_ret
      refine ⟨gl, rfl, HX.out.ext, ⟨A1, m1, c1⟩, rows, bm, q, _, HX.out.blk, HX.out.own, ?_, HX.out.row, HX.out.map⟩
      rw [HX.out.len, ← HL.out]; omega
end
end Go.Proofs.YtgnchicipmomlaaGreatDoor

/- The program's scripts: a step, the tokens. -/
namespace Go.Proofs.YtgnchicipmomlaaGreatDoor
open Go.RowKit Go.Maps
set_option maxRecDepth 100000
attribute [local go_sem] ext_refl_t ext_alloc_t ext_drew_t ext_drewN_t ext_alloc2_t ext_alloc3_t ext_alloc4_t ext_alloc5_t ext_alloc6_t ext_alloc7_t ext_alloc8_t ext_alloc1d_t ext_alloc2d_t ext_alloc3d_t ext_alloc4d_t
/-- A token. -/
structure Tok where
  kind : ByteArray
  text : ByteArray
  at_ : Nat
def tokC (t : Tok) : List Value := [.string t.kind, .string t.text, .int .i64 (t.at_ : Int)]
def tokV (t : Tok) : Value := .agg #[.string t.kind, .string t.text, .int .i64 (t.at_ : Int)]
theorem tokC_len (t : Tok) : (tokC t).length = 3 := rfl
theorem tokC_cell (t : Tok) : ∀ u ∈ tokC t, u.oneCell' = true := fun u hu => by
  simp [tokC] at hu
  rcases hu with rfl | rfl | rfl <;> rfl
/-- A token of a text of n bytes. -/
def TokG (n : Nat) (t : Tok) : Prop := t.kind.size ≤ 4000000 ∧ t.at_ + t.text.size ≤ n
theorem info_tok3 : (Tryz.prog.info? 161).map (·.size) = some 3 := by kernel_rfl
theorem results_cell3s {fn : Func} {p u v : Tmp} {ty : TypeId} (h : fn.results = #[.cell p ty, .tmp u, .tmp v]) (tmps : Array Value) (P : Program) (w : World) :
    (results fn tmps).run P w =
      ((asAddr (tmps.getD p undef)).run P w).andThen fun a w₁ => ((loadVar ty a).run P w₁).andThen fun y w₂ => .ok (.tuple #[y, tmps.getD u undef, tmps.getD v undef]) w₂ := by
  simp only [results, h]
  simp [Sem.run_bind, Result.andThen]
theorem results_cell_row3s {P : Program} {fn : Func} {p u v : Tmp} {ty : TypeId} (h : fn.results = #[.cell p ty, .tmp u, .tmp v]) (tmps : Array Value) (w : World) (g : Nat) (t : TypeId) (cs : Array Value) (fr : Nat × Nat) (d : TypeDesc)
    (hp : tmps.getD p undef = .pointer (some ⟨g, 0, none⟩)) (hg : w.heap[g]? = some (.cells cs t fr))
    (hu : P.underlying ty = some d) (hd : (match d with | .struct _ | .array _ _ => true | _ => false) = true) (hi : (P.info? ty).map (·.size) = some cs.size) :
    (results fn tmps).run P w = .ok (.tuple #[.agg cs, tmps.getD u undef, tmps.getD v undef]) w := by
  rw [results_cell3s h, hp]
  simp [asAddr, run_loadVar_row w g t ty cs fr d hg hu hd hi, Result.andThen]
/-- What step gives. -/
def StpR (w w' : World) (n at_ k : Nat) (e : Ending) : Prop := ∃ (t : Tok) (nx : Nat) (ok : Bool), e = .returned (.tuple #[tokV t, .int .i64 (nx : Int), .bool ok]) ∧ Ext w w' ∧ (ok = true → TokG n t ∧ 0 < t.text.size ∧ t.at_ = at_ ∧ nx < k)
theorem IMN.lookE {w : World} {bm k n : Nat} (h : IMN w bm k n) (hn : 0 < n) (s : ByteArray) (hs : s.size ≤ 140737488351232) : ∃ v : Nat, v < n ∧ ∀ W, Ext w W → (Instr.lookup 49 (.map (some bm)) (.string s) false).run Tryz.prog W = .ok (.int .i64 (v : Int)) W := by
  obtain ⟨F, h1, h2⟩ := h
  refine ⟨(F s).getD 0, ?_, fun W hE => ?_⟩
  · cases hF : F s with
    | none => exact hn
    | some x => exact h2 s x hF
  · obtain ⟨D, ho, hv⟩ := h1.ext hE
    obtain ⟨v, ps, hrun, hR⟩ := ho.lookup keyedS Tryz.underlying49 (zero_i W) (plainElem_int Tryz.underlying3 (a := 0) (by decide)) (keyS s (by unfold maxLen; omega))
    obtain ⟨_, h3⟩ := hv s (by unfold maxLen; omega)
    rw [h3] at hR
    have e : v = .int .i64 (((F s).getD 0 : Nat) : Int) := by
      unfold plainElem at hR
      rw [Tryz.underlying3] at hR
      cases v <;> simp at hR
      rw [hR.1.1, hR.2.1]
    rw [hrun, e]
section
variable {w : World}
set_option maxHeartbeats 6400000 in
theorem step_any {h : SlH} {l : List Sta} (hs : ScrW w h l) (hT : ∀ x ∈ l, LgT x) {b : Nat} (hl : LexOk w b h l) {q : Nat} (hq : q < l.length) (s : ByteArray) (hz : s.size ≤ 140737488351232) {p : Nat} (hp : p ≤ s.size) :
    Calls Tryz.prog 78 #[.pointer (some ⟨b, 0, none⟩), .int .i64 (q : Int), .string s, .int .i64 (p : Int)] w fun e w' => StpR w w' s.size p l.length e := by
  obtain ⟨A, m, c⟩ := h
  have HL := Lib.hid hs.sl.len
  have hle := hs.sl.le
  have HG := Lib.hid hs.good
  have HT := Lib.hid hT
  have HLX := Lib.hid hl
  have hs := hs.sl
  dsimp only at HL hle hs
  obtain ⟨⟨A1, m1, c1⟩, rows, bm, kq, base, hb1, hb2, hb3, hb4, hb5⟩ := hl
  have HB4 := Lib.hid hb4
  have HB5 := Lib.hid hb5
  have HB3 := Lib.hid hb3
  have HQ := Lib.hid hq
  have hlt : q < m := by rw [HL.out]; exact hq
  have hm1 : m1 = m := hb2.len.trans (hb3.trans HL.out.symm)
  dsimp only at hb1 hb2 hm1
  subst hm1
  have X0 := laters (hb1.cell 0)
  have X1 := laters (hb1.cell 1)
  have X2 := laters (hb1.cell 2)
  simp at X0 X1 X2
  have hsl2 := hb2.sl
  clear hT hb4 hb5 hb3 hb1 hb2
  obtain ⟨bl, hbl0⟩ : ∃ bl, bl = b := ⟨_, rfl⟩
  rw [← hbl0] at X0 X1 X2 ⊢
  clear hbl0 b HLX
  obtain ⟨m, rfl⟩ : ∃ m, m = m1 := ⟨_, rfl⟩
  obtain ⟨b, off, e0, hbl, hcs⟩ := (hs).at_ hlt (by omega)
  try dsimp only at e0
  subst e0
  have hlt1 : q < (l).length := by rw [← HL.out]; exact hlt
  have HM : Hid ((l)[q] ∈ l) := List.getElem_mem hlt1
  obtain ⟨⟨nm, rules, ⟨B, n, d⟩⟩, hyq⟩ : ∃ y, y = (l)[q] := ⟨_, rfl⟩
  have x0 := hcs q hlt1 0 (by omega)
  have x1 := hcs q hlt1 1 (by omega)
  simp only [← hyq, staC, List.getElem_cons_zero, List.getElem_cons_succ, Nat.add_zero, ← Nat.add_assoc] at x0 x1
  have hi1 : (q : Int) < (m : Int) := by omega
  rw [← hyq] at HM
  have HY := Lib.hid hyq
  clear hcs hyq
  have hqr : q < rows.length := by rw [HB3.out]; exact hlt1
  obtain ⟨b2, off2, e0, -, hcs2⟩ := hsl2.at_ (i := q) hlt (by omega)
  subst e0
  have r0 := hcs2 q hqr 0 (by omega)
  obtain ⟨⟨A3, m3, c3⟩, hrq⟩ : ∃ z, z = rows[q] := ⟨_, rfl⟩
  simp only [← hrq, shC, List.getElem_cons_zero, Nat.mul_one, Nat.add_zero] at r0
  obtain ⟨rs, bb, ho3, hl3, hc3⟩ : RowT w rules ⟨A3, m3, c3⟩ := by
    have h1 := HB4.out q hlt1 hqr
    rw [← HY.out, ← hrq] at h1
    exact h1
  have HC3 := Lib.hid hc3
  have HL3 := Lib.hid hl3
  have hsl3 := ho3.sl
  dsimp only at hsl3
  have hw : RulsW w ⟨B, n, d⟩ rules := (HG.out _ HM.out).r
  have HR : Hid (∀ r ∈ rules, LgR r) := (HT.out _ HM.out).2
  have HG2 := Lib.hid hw.good
  have hw := hw.sl
  have HL2 := Lib.hid hw.len
  have hle2 := hw.le
  dsimp only at HL2 hle2
  have hm3 : m3 = n := by
    have h1 := ho3.len
    dsimp only at h1
    rw [h1, hl3, ← HL2.out]
  subst hm3
  have S1 := laters x1
  have R0 := laters r0
  clear hcs2 hrq ho3 hc3 hl3 hqr x0 x1 r0
  have hE0 : Ext w (w.alloc (Obj.cells #[.string ⟨#[]⟩, .string ⟨#[]⟩, .int .i64 0] 161)) := (Ext.refl _).alloc _
  have hb8 := Blk.new w 161 #[.string ⟨#[]⟩, .string ⟨#[]⟩, .int .i64 0]
  go_enter Tryz.func78, Tryz.ntmps78
  go_upto_region 2 with fail
  obtain ⟨W0, hW0⟩ : ∃ W0, W0 = w.alloc (Obj.cells #[.string ⟨#[]⟩, .string ⟨#[]⟩, .int .i64 0] 161) := ⟨_, rfl⟩
  rw [← hW0] at hE0 hb8 ⊢
  obtain ⟨gt, hgt⟩ : ∃ gt, gt = w.heap.size := ⟨_, rfl⟩
  rw [← hgt] at hb8 ⊢
  have hgw : w.heap.size ≤ gt := by omega
  have HB8 := Lib.hid hb8
  clear hW0 hgt hb8
  go_loopw [1, 24] (fun v1 i wr => ∃ k : Nat, k ≤ m3 ∧ v1 = .int .i64 q ∧ i = .int .i64 k ∧ Ext W0 wr) (fun _ i _ => m3 - (intOf i).toNat)
  case atStart => exact ⟨0, Nat.zero_le _, rfl, rfl, Ext.refl _⟩
  case round =>
    obtain ⟨k, hk, rfl, rfl, hE⟩ := hrel
    have hEw := hE0.trans hE
    by_cases hltk : k < m3
    ·
      obtain ⟨b2, off2, e0, hbl2, hcs2⟩ := (hw.ext hEw).at_ hltk (by omega)
      try dsimp only at e0
      subst e0
      have hlt2 : k < (rules).length := by rw [← (HL2).out]; exact hltk
      have HM2 : Hid ((rules)[k] ∈ rules) := List.getElem_mem hlt2
      obtain ⟨y, hyq⟩ : ∃ y, y = (rules)[k] := ⟨_, rfl⟩
      have y0 := hcs2 k hlt2 0 (by omega)
      have y1 := hcs2 k hlt2 1 (by omega)
      have y2 := hcs2 k hlt2 2 (by omega)
      simp only [← hyq, rulC, List.getElem_cons_zero, List.getElem_cons_succ, Nat.add_zero, ← Nat.add_assoc] at y0 y1 y2
      have hi2 : (k : Int) < (m3 : Int) := by omega
      rw [← hyq] at HM2
      have HY2 := Lib.hid hyq
      clear hcs2 hyq
      have hks : k < rs.length := by rw [HL3.out]; exact hlt2
      obtain ⟨b4, off4, e0, -, hcs4⟩ := hsl3.at_ (i := k) hltk (by omega)
      subst e0
      have v0 := hcs4 k hks 0 (by omega)
      obtain ⟨⟨A5, m5, c5⟩, hrk⟩ : ∃ z, z = rs[k] := ⟨_, rfl⟩
      simp only [← hrk, shC, List.getElem_cons_zero, Nat.mul_one, Nat.add_zero] at v0
      obtain ⟨ps, bb5, ho5, hc5⟩ : ClsT w y.items ⟨A5, m5, c5⟩ := by
        have h1 := HC3.out k hlt2 hks
        rw [← HY2.out, ← hrk] at h1
        exact h1
      have V0 := laters v0
      have hbk := Blk.new wr 110 #[.string y.kind, .slice y.h.A y.h.m y.h.c, .string y.next]
      have hEk : Ext wr (wr.alloc (Obj.cells #[.string y.kind, .slice y.h.A y.h.m y.h.c, .string y.next] 110)) := (Ext.refl _).alloc _
      have hlg := HR.out y HM2.out
      have hkd := hlg.1
      have hnxs := hlg.2.1
      clear hcs4 hrk v0
      obtain ⟨W2, hW2⟩ : ∃ W2, W2 = wr.alloc (Obj.cells #[.string y.kind, .slice y.h.A y.h.m y.h.c, .string y.next] 110) := ⟨_, rfl⟩
      go_upto_region 4 with fail
      rw [← hW2] at hbk hEk ⊢
      obtain ⟨gk, hgk⟩ : ∃ gk, gk = wr.heap.size := ⟨_, rfl⟩
      rw [← hgk] at hbk ⊢
      clear hW2 hgk
      have K0 := laters (hbk.cell 0)
      have K1 := laters (hbk.cell 1)
      have K2 := laters (hbk.cell 2)
      simp at K0 K1 K2
      have hEd : Ext W2 W2.drew := (Ext.refl W2).drew
      have hEwd : Ext w W2.drew := (hEw.trans hEk).trans hEd
      have hp1 : (p : Int) ≤ (s.size : Int) := by omega
      have HMT := Lib.hid (match_any (h := y.h) (items := y.items) (RulW.ext (HG2.out y HM2.out) hEwd).i (c2 := c5) (ho5.sl.ext hEwd) (hc5.ext hEwd) (s.extract p s.size) (by rw [ByteArray.size_extract]; omega))
      dsimp only at HMT
      go_region_law
        (first
          | (go_simp
             go_at_call 111
             (refine (HMT.out).mono ?_)
             rintro e v1 ⟨⟨n1, ok, rfl, hn1⟩, hEv⟩
             have hEv1 := hEd.trans hEv)
          | fail)
      all_goals
        have hnn : p + n1 ≤ s.size := by rw [ByteArray.size_extract] at hn1; omega
        have hE5 := (hE.trans hEk).trans hEv1
        have k0 := K0 _ hEv1
        have k2 := K2 _ hEv1
        clear hn1
        cases ok with
        | false =>
          go_wp2
          all_goals first
            | (go_ret; exact ⟨rfl, hb2, hE, hf1⟩)
            | (refine ⟨⟨k + 1, by omega, rfl, by go_num, hE5⟩, ?_⟩; first | (simp [intOf]; omega) | (simp [intOf]) | omega)
            | (go_roundw; (case rel => exact ⟨k + 1, by omega, rfl, by go_num, hE5⟩); (case measure => first | (simp [intOf]; omega) | (simp [intOf])))
        | true =>
          by_cases hn0 : n1 = 0
          · subst hn0
            go_wp2
            all_goals first
              | (go_ret; exact ⟨rfl, hb2, hE, hf1⟩)
              | (refine ⟨⟨k + 1, by omega, rfl, by go_num, hE5⟩, ?_⟩; first | (simp [intOf]; omega) | (simp [intOf]) | omega)
              | (go_roundw; (case rel => exact ⟨k + 1, by omega, rfl, by go_num, hE5⟩); (case measure => first | (simp [intOf]; omega) | (simp [intOf])))
          · have c1 : ((n1 : Int) == 0) = false := by simp; omega
            have hn0p : 0 < n1 := by omega
            clear hn0
            by_cases hnx : y.next.size = 0
            · have hte := tl_empty hnx
              clear hnx
              have hq2 := HQ.out
              have hbt := (HB8.out.below hE5 HB8.out.lt).below (Ext.refl v1).drew (HB8.out.below hE5 HB8.out.lt).lt
              have c0' := hbt.cell 0
              have c1' := hbt.cell 1
              have c2' := hbt.cell 2
              have f0' := hbt.frozen 0
              have f1' := hbt.frozen 1
              have f2' := hbt.frozen 2
              have hbu := HB8.out.below hE5 HB8.out.lt
              have d0 := hbu.cell 0
              have d1 := hbu.cell 1
              have d2 := hbu.cell 2
              have g0 := hbu.frozen 0
              have g1 := hbu.frozen 1
              have g2 := hbu.frozen 2
              simp at d0 d1 d2
              clear hbu
              have z0 := later (Ext.refl v1).drew k0
              have hpn : (p : Int) ≤ (p : Int) + (n1 : Int) := by omega
              have hpn2 : (p : Int) + (n1 : Int) ≤ (s.size : Int) := by omega
              change (v1).drew.cell? ⟨gt, 0, none⟩ = some (.string ⟨#[]⟩) at c0'
              change (v1).drew.cell? ⟨gt, 1, none⟩ = some (.string ⟨#[]⟩) at c1'
              change (v1).drew.cell? ⟨gt, 2, none⟩ = some (.int .i64 0) at c2'
              have HBT := Lib.hid hbt
              have HEX := Lib.hid (hE0.trans hE5)
              clear hbt
              go_upto_region 8 with fail
              go_region
              all_goals
                go_wp2
                refine bodyPost_ret (results_cell_row3s rfl _ _ gt 161 #[.string y.kind, .string (s.extract p (p + n1)), .int .i64 (p : Int)] (0, 0) _ rfl (((HBT.out.set_ 0 _).set_ 1 _).set_ 2 _) Tryz.underlying161 rfl info_tok3) rfl ?_
                refine ⟨⟨y.kind, s.extract p (p + n1), p⟩, q, true, rfl, (((HEX.out.drew).set_ (p := ⟨gt, 0, none⟩) hgw _).set_ (p := ⟨gt, 1, none⟩) hgw _).set_ (p := ⟨gt, 2, none⟩) hgw _, fun _ => ⟨⟨hkd, ?_⟩, ?_, rfl, hq2⟩⟩
                · show p + (s.extract p (p + n1)).size ≤ s.size
                  rw [ByteArray.size_extract]; omega
                · show 0 < (s.extract p (p + n1)).size
                  rw [ByteArray.size_extract]; omega
            · have hte := tl_full hnx
              clear hnx
              obtain ⟨v, hv, HLK⟩ := HB5.out.lookE (by have := HQ.out; omega) y.next (by omega)
              have X2v := latersU (X2 _ (hE0.trans hE5))
              have K2v := latersU k2
              have HLv : ∀ u : ExtOf v1, (Instr.lookup 49 (.map (some bm)) (.string y.next) false).run Tryz.prog u.val = .ok (.int .i64 (v : Int)) u.val := fun u => HLK _ ((hE0.trans hE5).trans u.ext)
              go_upto_region 7 with fail
              refine wp_region_ext_lit (by kernel_rfl) (by kernel_rfl) ?_
              try dsimp only [List.append]
              repeat (go_big_quiet_step (fail))
              refine wpQuiet_nil ?_
              rintro w6 ⟨⟨_, h6⟩, rfl⟩
              try dsimp only
              have hE6 := hE5.trans h6
              have k0' := later h6 k0
              have hbt := (HB8.out.below hE6 HB8.out.lt).below (Ext.refl w6).drew (HB8.out.below hE6 HB8.out.lt).lt
              have c0' := hbt.cell 0
              have c1' := hbt.cell 1
              have c2' := hbt.cell 2
              have f0' := hbt.frozen 0
              have f1' := hbt.frozen 1
              have f2' := hbt.frozen 2
              have hbu := HB8.out.below hE6 HB8.out.lt
              have d0 := hbu.cell 0
              have d1 := hbu.cell 1
              have d2 := hbu.cell 2
              have g0 := hbu.frozen 0
              have g1 := hbu.frozen 1
              have g2 := hbu.frozen 2
              simp at d0 d1 d2
              clear hbu
              have z0 := later (Ext.refl w6).drew k0'
              have hpn : (p : Int) ≤ (p : Int) + (n1 : Int) := by omega
              have hpn2 : (p : Int) + (n1 : Int) ≤ (s.size : Int) := by omega
              change (w6).drew.cell? ⟨gt, 0, none⟩ = some (.string ⟨#[]⟩) at c0'
              change (w6).drew.cell? ⟨gt, 1, none⟩ = some (.string ⟨#[]⟩) at c1'
              change (w6).drew.cell? ⟨gt, 2, none⟩ = some (.int .i64 0) at c2'
              have HBT := Lib.hid hbt
              have HEX := Lib.hid (hE0.trans hE6)
              clear hbt
              go_upto_region 8 with fail
              go_region
              all_goals
                go_wp2
                refine bodyPost_ret (results_cell_row3s rfl _ _ gt 161 #[.string y.kind, .string (s.extract p (p + n1)), .int .i64 (p : Int)] (0, 0) _ rfl (((HBT.out.set_ 0 _).set_ 1 _).set_ 2 _) Tryz.underlying161 rfl info_tok3) rfl ?_
                refine ⟨⟨y.kind, s.extract p (p + n1), p⟩, v, true, rfl, (((HEX.out.drew).set_ (p := ⟨gt, 0, none⟩) hgw _).set_ (p := ⟨gt, 1, none⟩) hgw _).set_ (p := ⟨gt, 2, none⟩) hgw _, fun _ => ⟨⟨hkd, ?_⟩, ?_, rfl, hv⟩⟩
                · show p + (s.extract p (p + n1)).size ≤ s.size
                  rw [ByteArray.size_extract]; omega
                · show 0 < (s.extract p (p + n1)).size
                  rw [ByteArray.size_extract]; omega
    · have hi2 : ¬ (k : Int) < (m3 : Int) := by omega
      have hbt := HB8.out.below hE HB8.out.lt
      have c0 := hbt.cell 0
      have c1 := hbt.cell 1
      have c2 := hbt.cell 2
      have f0 := hbt.frozen 0
      have f1 := hbt.frozen 1
      have f2 := hbt.frozen 2
      simp at c0 c1 c2
      have HBT := Lib.hid hbt
      clear hbt
      go_wp2
      refine bodyPost_ret (results_cell_row3s rfl _ _ gt 161 #[.string ⟨#[]⟩, .string ⟨#[]⟩, .int .i64 0] (0, 0) _ rfl (((HBT.out.set_ 0 _).set_ 1 _).set_ 2 _) Tryz.underlying161 rfl info_tok3) rfl ?_
      exact ⟨⟨⟨#[]⟩, ⟨#[]⟩, 0⟩, 0, false, rfl, ((hEw.set_ (p := ⟨gt, 0, none⟩) hgw _).set_ (p := ⟨gt, 1, none⟩) hgw _).set_ (p := ⟨gt, 2, none⟩) hgw _, fun h => by cases h⟩
end
end Go.Proofs.YtgnchicipmomlaaGreatDoor
