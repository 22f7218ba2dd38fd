/- The reference's table of locks: find, Holder, without, List. -/
import Derived.Test.YthmeobjomidkoaaDoorLockEp
import Derived.Test.YthmeobjomidkoaaDoorLockOpen
namespace Go.Proofs.YthmeobjomidkoaaDoor
open Go.RowKit Go.Maps
set_option maxRecDepth 100000
attribute [local go_sem] ext_refl_t ext_alloc_t ext_drew_t ext_drewN_t ext_alloc2_t ext_alloc3_t ext_alloc4_t ext_alloc5_t ext_alloc6_t ext_alloc7_t ext_alloc8_t ext_alloc1d_t ext_alloc2d_t ext_alloc3d_t ext_alloc4d_t
theorem einfo_rl : EInfo 45 24 4 56 := EInfo.mk_ (z := lkV lk0) Tryd.underlying45 (by kernel_rfl) rfl (by omega) (by omega)
theorem info_rl : (Tryd.prog.info? 24).map (·.size) = some 4 := by kernel_rfl
theorem lkC_len4 (x : Lk) : (lkC x).length = 4 := rfl
/-- The list l is the table F, in the order of the keys. -/
structure Tab (F : LF) (l : List Lk) : Prop where
  srt : l.Pairwise fun x y => kL x y = true
  mem : ∀ x, x ∈ l ↔ F x.name x.id = some x
def keyB (a i : ByteArray) (x : Lk) : Bool := decide (x.name = a) && decide (x.id = i)
def heldB (now : Int) (x : Lk) : Bool := decide (now < x.til)
theorem keyB_iff {a i : ByteArray} {x : Lk} : keyB a i x = true ↔ x.name = a ∧ x.id = i := by unfold keyB; simp
/-- What find returns. -/
def FZ (l : List Lk) (a i : ByteArray) (z : Int) : Prop := (z = -1 ∧ ∀ x ∈ l, keyB a i x = false) ∨ ∃ k : Nat, z = k ∧ ∃ h : k < l.length, keyB a i l[k] = true
theorem take_false {l : List Lk} {P : Lk → Bool} {q : Nat} (h : ∀ x ∈ l.take q, P x = false) (hq : q < l.length) (hx : P l[q] = false) : ∀ x ∈ l.take (q + 1), P x = false := fun x hm => by
  rw [List.take_succ_eq_append_getElem hq] at hm
  rcases List.mem_append.1 hm with hm | hm
  · exact h x hm
  · rw [List.mem_singleton] at hm
    rw [hm]; exact hx
section
variable {w : World} {A : Option Addr} {m : Nat} {l : List Lk}
set_option maxHeartbeats 3200000 in
theorem rfind_lk (c : Nat) (hs : SlC lkC 4 w A m l) (a i : ByteArray) :
    Calls Tryd.prog 37 #[.slice A m c, .string a, .string i] w fun e w' => (∃ z, e = .returned (.int .i64 z) ∧ FZ l a i z) ∧ Ext w w' := by
  have HL := Lib.hid hs.len
  have hle := hs.le
  go_enter Tryd.func37, Tryd.ntmps37
  go_wp2
  go_loopw [7] (fun i' wr => ∃ q : Nat, q ≤ m ∧ i' = .int .i64 q ∧ Hid (∀ x ∈ l.take q, keyB a i x = false) ∧ Ext w wr) (fun i' _ => m - (intOf i').toNat)
  case atStart => exact ⟨0, Nat.zero_le _, rfl, fun x hx => by simp at hx, Ext.refl _⟩
  case round =>
    obtain ⟨q, hq, rfl, HQ, hE⟩ := hrel
    by_cases hlt : q < m
    · have hi1 : (q : Int) < (m : Int) := by omega
      have hql : q < l.length := by rw [← HL.out]; exact hlt
      obtain ⟨b, off, e0, hbl, hcs⟩ := (hs.ext hE).at_ hlt (by omega)
      have y0 := hcs q hql 0 (by omega)
      have y1 := hcs q hql 1 (by omega)
      obtain ⟨x, hx⟩ : ∃ x, x = l[q] := ⟨_, rfl⟩
      simp only [← hx, lkC, List.getElem_cons_zero, List.getElem_cons_succ, ← Nat.add_assoc, Nat.add_zero] at y0 y1
      have HX := Lib.hid hx
      have E0 := Lib.hid e0
      clear hcs hx
      by_cases hk : x.name = a ∧ x.id = i
      · have HF : Hid (FZ l a i q) := .inr ⟨q, rfl, hql, by rw [← HX.out]; exact keyB_iff.2 hk⟩
        have k1 : (x.name.toList == a.toList) = true := by rw [hk.1]; simp
        have k2 : (x.id.toList == i.toList) = true := by rw [hk.2]; simp
        clear hk
        go_wp2
        go_ret
        exact ⟨⟨_, rfl, HF.out⟩, hE⟩
      · have HQ2 : Hid (∀ x ∈ l.take (q + 1), keyB a i x = false) := take_false HQ.out hql (by
          rw [← HX.out]
          cases hkb : keyB a i x with
          | false => rfl
          | true => exact absurd (keyB_iff.1 hkb) hk)
        by_cases hk1 : x.name = a
        · have k1 : (x.name.toList == a.toList) = true := by rw [hk1]; simp
          have k2 : (x.id.toList == i.toList) = false := by rw [beq_eq_false_iff_ne]; exact fun e => hk ⟨hk1, toList_eq_iff.1 e⟩
          clear hk hk1
          go_wp2_with fail
          clear e0
          go_roundw
          case rel => exact ⟨q + 1, by omega, by go_num, HQ2, hE⟩
          case measure => simp [intOf]; omega
        · have k1 : (x.name.toList == a.toList) = false := by rw [beq_eq_false_iff_ne]; exact fun e => hk1 (toList_eq_iff.1 e)
          clear hk hk1
          go_wp2_with fail
          clear e0
          go_roundw
          case rel => exact ⟨q + 1, by omega, by go_num, HQ2, hE⟩
          case measure => simp [intOf]; omega
    · have hi1 : ¬ (q : Int) < (m : Int) := by omega
      have HF : Hid (FZ l a i (-1)) := .inl ⟨rfl, by
        have h9 := HQ.out
        rw [List.take_of_length_le (by rw [← HL.out]; omega)] at h9
        exact h9⟩
      go_wp2
      go_ret
      exact ⟨⟨_, rfl, HF.out⟩, hE⟩
set_option maxHeartbeats 800000 in
theorem rheld_lk (x : Lk) (now : Int) :
    Calls Tryd.prog 34 #[.agg #[.string x.name, .string x.id, .string x.who, .int .i64 x.til], .int .i64 now] w fun e w' => e = .returned (.bool (heldB now x)) ∧ Ext w w' := by
  obtain ⟨xa, xb, xc, xt⟩ := x
  dsimp only
  go_enter Tryd.func34, Tryd.ntmps34
  go_wp2
  go_ret
  exact ⟨rfl, (Ext.refl w).alloc _⟩
set_option maxHeartbeats 6400000 in
theorem rlist_lk (c : Nat) (hs : SlC lkC 4 w A m l) (hm : m ≤ 1000) (now : Int) :
    Calls Tryd.prog 19 #[.slice A m c, .int .i64 now] w fun e w' => (∃ A' m' c', e = .returned (.slice A' m' c') ∧ OsC lkC 24 4 w' w.heap.size A' m' c' (l.filter (heldB now))) ∧ Ext w w' := by
  have HL := Lib.hid hs.len
  go_enter Tryd.func19, Tryd.ntmps19
  go_wp2
  go_loopw [5, 6] (fun v i wr => ∃ (q : Nat) (A' : Option Addr) (m' c' : Nat) (L : List Lk), q ≤ m ∧ i = .int .i64 q ∧ v = .slice A' m' c' ∧ OsC lkC 24 4 wr w.heap.size A' m' c' L ∧ Hid (L = (l.take q).filter (heldB now)) ∧ Ext w wr) (fun _ i _ => m - (intOf i).toNat)
  case atStart => exact ⟨0, none, 0, 0, [], Nat.zero_le _, rfl, rfl, OsC.nil_ lkC_len4 lkC_cell, Lib.hid rfl, Ext.refl _⟩
  case round =>
    obtain ⟨q, A', m', c', L, hq, rfl, rfl, ho, HLL, hE⟩ := hrel
    by_cases hlt : q < m
    · have hi1 : (q : Int) < (m : Int) := by omega
      have hm' : m' ≤ 1000 := by
        have h1 := ho.len
        have h2 := List.length_filter_le (heldB now) (l.take q)
        rw [← HLL.out, List.length_take] at h2
        omega
      have hql : q < l.length := by rw [← HL.out]; exact hlt
      obtain ⟨b, off, e0, hbl, hcs⟩ := hs.at_ hlt (by omega)
      have y0 := hcs q hql 0 (by omega)
      have y1 := hcs q hql 1 (by omega)
      have y2 := hcs q hql 2 (by omega)
      have y3 := hcs q hql 3 (by omega)
      obtain ⟨x, hx⟩ : ∃ x, x = l[q] := ⟨_, rfl⟩
      simp only [← hx, lkC, List.getElem_cons_zero, List.getElem_cons_succ, ← Nat.add_assoc, Nat.add_zero] at y0 y1 y2 y3
      have X0 := laters y0
      have X1 := laters y1
      have X2 := laters y2
      have X3 := laters y3
      have HTK : Hid ((l.take (q + 1)).filter (heldB now) = (l.take q).filter (heldB now) ++ if heldB now x then [x] else []) := by
        show _ = _
        rw [List.take_succ_eq_append_getElem hql, List.filter_append, ← hx]
        cases hb : heldB now x <;> simp [hb]
      clear hcs hx y0 y1 y2 y3
      have E0 := Lib.hid e0
      go_wp2_with (first
        | (go_at_call 34; refine Hid.out ?_))
      clear e0
      refine Hid.mk_ ((rheld_lk x now).mono ?_)
      rintro e w2 ⟨rfl, hE2⟩
      have hE02 := hE.trans hE2
      cases hb : heldB now x with
      | false =>
        have HL2 : Hid (L = (l.take (q + 1)).filter (heldB now)) := by show _ = _; rw [HTK.out, hb, ← HLL.out]; simp
        have ho2 := ho.ext hE2
        clear hb
        go_wp2
        go_roundw
        case rel => exact ⟨q + 1, A', m', c', L, by omega, by go_num, rfl, ho2, HL2, hE02⟩
        case measure => simp [intOf]; omega
      | true =>
        have HL2 : Hid (L ++ [x] = (l.take (q + 1)).filter (heldB now)) := by show _ = _; rw [HTK.out, hb, ← HLL.out]; simp
        have hEa : Ext w2 (w2.alloc (Obj.cells #[.string x.name, .string x.id, .string x.who, .int .i64 x.til] 24)) := (Ext.refl _).alloc _
        have hnew : SlC lkC 4 (w2.alloc (Obj.cells #[.string x.name, .string x.id, .string x.who, .int .i64 x.til] 24)) (some ⟨w2.heap.size, 0, none⟩) 1 [x] := SlC.new_ (cs := lkC) w2 [x] lkC_len4 (by simp) _ rfl (0, 0) 1 rfl 24
        have hoa := (ho.ext hE2).ext hEa
        have hba := (hE02.trans hEa).size_le
        have e0 := E0.out
        clear hb
        go_wp2_with (first
          | (at_builtin; refine Hid.out ?_))
        clear e0
        rw [← E0.out]
        refine Hid.mk_ ?_
        refine appC einfo_rl rfl _ _ rfl hoa rfl hnew rfl (by omega) hba ?_
        intro A2 m2 c2 w3 ho3 hg3 hat3
        have hE3 := (hE02.trans hEa).grown hg3 ho.ge
        clear hnew hoa hba hg3 hat3
        go_wp2
        go_roundw
        case rel => exact ⟨q + 1, A2, m2, c2, L ++ [x], by omega, by go_num, rfl, ho3, HL2, hE3⟩
        case measure => simp [intOf]; omega
    · have hi1 : ¬ (q : Int) < (m : Int) := by omega
      have HLF : Hid (L = l.filter (heldB now)) := by
        show _ = _
        rw [HLL.out, List.take_of_length_le (by rw [← HL.out]; omega)]
      go_wp2
      go_ret
      exact ⟨⟨A', m', c', rfl, by rw [← HLF.out]; exact ho⟩, hE⟩
set_option maxHeartbeats 6400000 in
theorem rwith_lk (c : Nat) (hs : SlC lkC 4 w A m l) (hm : m ≤ 1000) (a i : ByteArray) :
    Calls Tryd.prog 33 #[.slice A m c, .string a, .string i] w fun e w' => (∃ A' m' c', e = .returned (.slice A' m' c') ∧ OsC lkC 24 4 w' w.heap.size A' m' c' (l.filter fun x => !keyB a i x)) ∧ Ext w w' := by
  have HL := Lib.hid hs.len
  go_enter Tryd.func33, Tryd.ntmps33
  go_wp2
  go_loopw [7, 8] (fun v i' wr => ∃ (q : Nat) (A' : Option Addr) (m' c' : Nat) (L : List Lk), q ≤ m ∧ i' = .int .i64 q ∧ v = .slice A' m' c' ∧ OsC lkC 24 4 wr w.heap.size A' m' c' L ∧ Hid (L = (l.take q).filter fun x => !keyB a i x) ∧ Ext w wr) (fun _ i' _ => m - (intOf i').toNat)
  case atStart => exact ⟨0, none, 0, 0, [], Nat.zero_le _, rfl, rfl, OsC.nil_ lkC_len4 lkC_cell, Lib.hid rfl, Ext.refl _⟩
  case round =>
    obtain ⟨q, A', m', c', L, hq, rfl, rfl, ho, HLL, hE⟩ := hrel
    by_cases hlt : q < m
    · have hi1 : (q : Int) < (m : Int) := by omega
      have hm' : m' ≤ 1000 := by
        have h1 := ho.len
        have h2 := List.length_filter_le (fun x => !keyB a i x) (l.take q)
        rw [← HLL.out, List.length_take] at h2
        omega
      have hql : q < l.length := by rw [← HL.out]; exact hlt
      obtain ⟨b, off, e0, hbl, hcs⟩ := (hs.ext hE).at_ hlt (by omega)
      have y0 := hcs q hql 0 (by omega)
      have y1 := hcs q hql 1 (by omega)
      have y2 := hcs q hql 2 (by omega)
      have y3 := hcs q hql 3 (by omega)
      obtain ⟨x, hx⟩ : ∃ x, x = l[q] := ⟨_, rfl⟩
      simp only [← hx, lkC, List.getElem_cons_zero, List.getElem_cons_succ, ← Nat.add_assoc, Nat.add_zero] at y0 y1 y2 y3
      have HTK : Hid (((l.take (q + 1)).filter fun x => !keyB a i x) = ((l.take q).filter fun x => !keyB a i x) ++ if keyB a i x then [] else [x]) := by
        show _ = _
        rw [List.take_succ_eq_append_getElem hql, List.filter_append, ← hx]
        cases hb : keyB a i x <;> simp [hb]
      clear hcs hx
      have E0 := Lib.hid e0
      by_cases hk1 : x.name = a
      · have k1 : (x.name.toList == a.toList) = true := by rw [hk1]; simp
        by_cases hk2 : x.id = i
        · have k2 : (x.id.toList == i.toList) = true := by rw [hk2]; simp
          have HL2 : Hid (L = (l.take (q + 1)).filter fun x => !keyB a i x) := by show _ = _; rw [HTK.out, keyB_iff.2 ⟨hk1, hk2⟩, ← HLL.out]; simp
          clear hk1 hk2
          go_wp2_with fail
          clear e0
          go_roundw
          case rel => exact ⟨q + 1, A', m', c', L, by omega, by go_num, rfl, ho, HL2, hE⟩
          case measure => simp [intOf]; omega
        · have k2 : (x.id.toList == i.toList) = false := by rw [beq_eq_false_iff_ne]; exact fun e => hk2 (toList_eq_iff.1 e)
          have hkf : keyB a i x = false := by cases h : keyB a i x with | false => rfl | true => exact absurd (keyB_iff.1 h).2 hk2
          have HL2 : Hid (L ++ [x] = (l.take (q + 1)).filter fun x => !keyB a i x) := by show _ = _; rw [HTK.out, hkf, ← HLL.out]; simp
          clear hk1 hk2 hkf
          have hEa : Ext wr (wr.alloc (Obj.cells #[.string x.name, .string x.id, .string x.who, .int .i64 x.til] 24)) := (Ext.refl _).alloc _
          have hnew : SlC lkC 4 (wr.alloc (Obj.cells #[.string x.name, .string x.id, .string x.who, .int .i64 x.til] 24)) (some ⟨wr.heap.size, 0, none⟩) 1 [x] := SlC.new_ (cs := lkC) wr [x] lkC_len4 (by simp) _ rfl (0, 0) 1 rfl 24
          have hoa := ho.ext hEa
          have hba := (hE.trans hEa).size_le
          go_wp2_with (first
            | (at_builtin; refine Hid.out ?_))
          clear e0
          refine Hid.mk_ ?_
          refine appC einfo_rl rfl _ _ rfl hoa rfl hnew rfl (by omega) hba ?_
          intro A2 m2 c2 w3 ho3 hg3 hat3
          have hE3 := (hE.trans hEa).grown hg3 ho.ge
          clear hnew hoa hba hg3 hat3
          go_wp2
          go_roundw
          case rel => exact ⟨q + 1, A2, m2, c2, L ++ [x], by omega, by go_num, rfl, ho3, HL2, hE3⟩
          case measure => simp [intOf]; omega
      · have k1 : (x.name.toList == a.toList) = false := by rw [beq_eq_false_iff_ne]; exact fun e => hk1 (toList_eq_iff.1 e)
        have hkf : keyB a i x = false := by cases h : keyB a i x with | false => rfl | true => exact absurd (keyB_iff.1 h).1 hk1
        have HL2 : Hid (L ++ [x] = (l.take (q + 1)).filter fun x => !keyB a i x) := by show _ = _; rw [HTK.out, hkf, ← HLL.out]; simp
        clear hk1 hkf
        have hEa : Ext wr (wr.alloc (Obj.cells #[.string x.name, .string x.id, .string x.who, .int .i64 x.til] 24)) := (Ext.refl _).alloc _
        have hnew : SlC lkC 4 (wr.alloc (Obj.cells #[.string x.name, .string x.id, .string x.who, .int .i64 x.til] 24)) (some ⟨wr.heap.size, 0, none⟩) 1 [x] := SlC.new_ (cs := lkC) wr [x] lkC_len4 (by simp) _ rfl (0, 0) 1 rfl 24
        have hoa := ho.ext hEa
        have hba := (hE.trans hEa).size_le
        go_wp2_with (first
          | (at_builtin; refine Hid.out ?_))
        clear e0
        refine Hid.mk_ ?_
        refine appC einfo_rl rfl _ _ rfl hoa rfl hnew rfl (by omega) hba ?_
        intro A2 m2 c2 w3 ho3 hg3 hat3
        have hE3 := (hE.trans hEa).grown hg3 ho.ge
        clear hnew hoa hba hg3 hat3
        go_wp2
        go_roundw
        case rel => exact ⟨q + 1, A2, m2, c2, L ++ [x], by omega, by go_num, rfl, ho3, HL2, hE3⟩
        case measure => simp [intOf]; omega
    · have hi1 : ¬ (q : Int) < (m : Int) := by omega
      have HLF : Hid (L = l.filter fun x => !keyB a i x) := by
        show _ = _
        rw [HLL.out, List.take_of_length_le (by rw [← HL.out]; omega)]
      go_wp2
      go_ret
      exact ⟨⟨A', m', c', rfl, by rw [← HLF.out]; exact ho⟩, hE⟩
end
end Go.Proofs.YthmeobjomidkoaaDoor
