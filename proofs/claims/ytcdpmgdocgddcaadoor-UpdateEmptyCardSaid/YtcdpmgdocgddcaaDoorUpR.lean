/- Counting in lists, and other small functions of the laws of chapter 47. -/
import Derived.Test.YtcdpmgdocgddcaaDoorUpX
namespace Go.Proofs.YtcdpmgdocgddcaaDoor
open Go.RowKit
set_option maxRecDepth 100000
/-- A slice as an element. -/
def slS (h : SlH) : List Value := [.slice h.A h.m h.c]
theorem slS_len (h : SlH) : (slS h).length = 1 := rfl
/-- How often lists have an ID. -/
def cntsB (ls : List (List ByteArray)) (s : ByteArray) : Nat := (ls.map fun l => cntB l s).sum
theorem cntsB_succ {ls : List (List ByteArray)} {s : ByteArray} {i : Nat} (h : i < ls.length) : cntsB (ls.take (i + 1)) s = cntsB (ls.take i) s + cntB ls[i] s := by
  unfold cntsB
  rw [List.take_succ_eq_append_getElem h, List.map_append, List.sum_append]
  simp
theorem cntB_take {l : List ByteArray} {s : ByteArray} {k : Nat} (h : k < l.length) : cntB (l.take (k + 1)) s = cntB (l.take k) s + if l[k] = s then 1 else 0 := by
  unfold cntB
  rw [List.take_succ_eq_append_getElem h, List.countP_append]
  congr 1
  by_cases e : l[k] = s
  · rw [if_pos e]; simp [e]
  · rw [if_neg e]; simp [e]
theorem cntB_le_len (l : List ByteArray) (s : ByteArray) : cntB l s ≤ l.length := List.countP_le_length
/-- Lists of strings in memory. -/
def LsW (w : World) (hs : List SlH) (ls : List (List ByteArray)) : Prop := ls.length = hs.length ∧ ∀ i (h1 : i < hs.length) (h2 : i < ls.length), SlC strF 1 w (hs[i]).A (hs[i]).m ls[i]
theorem cntsB_bd {w : World} {hs : List SlH} {ls : List (List ByteArray)} (h : LsW w hs ls) (s : ByteArray) (i : Nat) (hi : i ≤ ls.length) : cntsB (ls.take i) s ≤ i * 140737488355328 := by
  induction i with
  | zero => exact Nat.le_refl 0
  | succ i ih =>
    have h1 := h.2 i (by rw [← h.1]; omega) (by omega)
    have h2 := h1.len
    have h3 := h1.le
    have h4 := cntB_le_len ls[i] s
    rw [cntsB_succ (by omega)]
    have h5 := ih (by omega)
    omega
section
variable {w : World}
set_option maxHeartbeats 3200000 in
theorem count47_any (s : ByteArray) {A : Option Addr} {m : Nat} (c : Nat) {hs : List SlH} (hr : SlC slS 1 w A m hs) {ls : List (List ByteArray)} (hl : LsW w hs ls) (hm : m ≤ 10) :
    Calls Tryd.prog 15 #[.string s, .slice A m c] w fun e w' => e = .returned (.int .i64 (cntsB ls s)) ∧ w = w' := by
  have HL := Lib.hid hr.len
  have HLW := Lib.hid hl
  have hle := hr.le
  clear hl
  go_enter Tryd.func15, Tryd.ntmps15
  go_wp2
  go_loop [6, 5] (fun v n => ∃ i : Nat, i ≤ m ∧ v = .int .i64 i ∧ ∃ z : Nat, z ≤ 1407374883553280 ∧ n = .int .i64 z ∧ Hid (z = cntsB (ls.take i) s)) (fun v _ => m - (intOf v).toNat)
  case atStart => exact ⟨0, Nat.zero_le _, rfl, 0, by omega, rfl, rfl⟩
  case round =>
    obtain ⟨i, hi, rfl, z, hz, rfl, HZ⟩ := hrel
    by_cases hlt : i < m
    · obtain ⟨b, off, eA, _, hcs⟩ := hr.at_ hlt (by omega)
      have hil : i < hs.length := by rw [← HL.out]; exact hlt
      have hill : i < ls.length := by rw [HLW.out.1]; exact hil
      obtain ⟨⟨B, n, d⟩, hB⟩ : ∃ x, x = hs[i] := ⟨_, rfl⟩
      have x0 := hcs i hil 0 (by omega)
      simp only [← hB, slS, List.getElem_cons_zero, Nat.mul_one, Nat.add_zero] at x0
      obtain ⟨l, hl⟩ : ∃ l, l = ls[i] := ⟨_, rfl⟩
      have hsl : SlC strF 1 w B n l := by have h1 := HLW.out.2 i hil hill; rw [← hB, ← hl] at h1; exact h1
      have HNX : Hid (cntsB (ls.take (i + 1)) s = z + cntB l s) := by show _ = _; rw [cntsB_succ hill, ← HZ.out, ← hl]
      have HZB : Hid (z ≤ i * 140737488355328) := by
        show _ ≤ _
        rw [HZ.out]
        exact cntsB_bd HLW.out s i (by omega)
      have HSL := Lib.hid hsl
      have hnle := hsl.le
      have HLL := Lib.hid hsl.len
      have hi1 : (i : Int) < (m : Int) := by omega
      have hi9 : i ≤ 10 := by omega
      clear hcs hB hl hil hill hsl HZ
      subst eA
      go_wp2
      go_loop [7, 5] (fun v u => ∃ k : Nat, k ≤ n ∧ v = .int .i64 k ∧ ∃ y : Nat, y ≤ 1407374883553280 ∧ u = .int .i64 y ∧ Hid (y = z + cntB (l.take k) s)) (fun v _ => n - (intOf v).toNat)
      case atStart => exact ⟨0, Nat.zero_le _, rfl, z, hz, rfl, by show _ = _; rw [List.take_zero]; rfl⟩
      case round =>
        obtain ⟨k, hk, rfl, y, hy, rfl, HY⟩ := hrel
        by_cases hkt : k < n
        · obtain ⟨b2, off2, eB, _, hcs2⟩ := HSL.out.at_ hkt (by omega)
          have hkl : k < l.length := by rw [← HLL.out]; exact hkt
          obtain ⟨x, hx⟩ : ∃ x, x = l[k] := ⟨_, rfl⟩
          have q0 := hcs2 k hkl 0 (by omega)
          simp only [← hx, strF, List.getElem_cons_zero, Nat.mul_one, Nat.add_zero] at q0
          have HT := Lib.hid (cntB_take (s := s) hkl)
          have HX := Lib.hid hx
          have hk1 : (k : Int) < (n : Int) := by omega
          have hy1 : y + 1 ≤ 1407374883553280 := by
            have h1 := HY.out
            have h2 := cntB_le_len (l.take k) s
            rw [List.length_take] at h2
            have h3 := HZB.out
            have h4 := HLL.out
            have h5 : k < 140737488355328 := by omega
            have h6 : i * 140737488355328 ≤ 9 * 140737488355328 := Nat.mul_le_mul_right _ (by omega)
            omega
          clear hcs2 hx
          subst eB
          by_cases hxs : x = s
          · have e1 : (x.toList == s.toList) = true := by rw [hxs]; simp
            have HN : Hid (y + 1 = z + cntB (l.take (k + 1)) s) := by show _ = _; rw [HT.out, ← HX.out, if_pos hxs, HY.out]; omega
            clear hxs HY
            go_wp2
            go_round
            case rel => exact ⟨k + 1, by omega, by go_num, y + 1, hy1, by go_num, HN⟩
            case measure => simp [intOf]; omega
          · have e1 : (x.toList == s.toList) = false := by rw [beq_eq_false_iff_ne]; exact fun e => hxs (toList_iff.1 e)
            have HN : Hid (y = z + cntB (l.take (k + 1)) s) := by show _ = _; rw [HT.out, ← HX.out, if_neg hxs, HY.out, Nat.add_zero]
            clear hxs HY
            go_wp2
            go_round
            case rel => exact ⟨k + 1, by omega, by go_num, y, hy, rfl, HN⟩
            case measure => simp [intOf]; omega
        · have hk1 : ¬ (k : Int) < (n : Int) := by omega
          have HN : Hid (y = cntsB (ls.take (i + 1)) s) := by
            show _ = _
            rw [HNX.out, HY.out, List.take_of_length_le (by rw [← HLL.out]; omega)]
          clear HY
          go_wp2
          go_round
          case rel => exact ⟨i + 1, by omega, by go_num, y, hy, rfl, HN⟩
          case measure => simp [intOf]; omega
    · have hi1 : ¬ (i : Int) < (m : Int) := by omega
      have HN : Hid (z = cntsB ls s) := by
        show _ = _
        rw [HZ.out, List.take_of_length_le (by rw [HLW.out.1, ← HL.out]; omega)]
      clear HZ
      go_wp2
      go_ret
      exact ⟨by rw [HN.out]; rfl, rfl⟩
theorem fldV_some_of (o : Option ByteArray) : ∃ u : ByteArray, FldV o = .tuple #[.string u, .bool o.isSome] := by
  cases o with
  | none => exact ⟨⟨#[]⟩, rfl⟩
  | some u => exact ⟨u, rfl⟩
set_option maxHeartbeats 6400000 in
theorem taken_any {h : SlH} {es : List Ent} (hs : EntsW w h es) :
    Calls Tryd.prog 19 #[.slice h.A h.m h.c] w fun e w' => e = .returned (.bool (!(es.map Ent.p).all noTake)) ∧ Ext w w' := by
  obtain ⟨A, m, c⟩ := h
  dsimp only
  have HL := Lib.hid hs.sl.len
  have hle := hs.sl.le
  dsimp only at HL hle
  have HFC : Hid ((es.map Ent.p).all noTake = es.all fun y => noTake y.p) := by show _ = _; rw [List.all_map]; rfl
  obtain ⟨rr, hrr⟩ : ∃ rr, rr = (!(es.map Ent.p).all noTake) := ⟨_, rfl⟩
  rw [← hrr]
  have HRR := Lib.hid hrr
  clear hrr
  go_enter Tryd.func19, Tryd.ntmps19
  go_wp2
  go_loopw [3] (fun i wr => ∃ q : Nat, q ≤ m ∧ i = .int .i64 q ∧ Ext w wr ∧ Hid ((es.all fun y => noTake y.p) = (es.drop q).all fun y => noTake y.p)) (fun i _ => m - (intOf i).toNat)
  case atStart => exact ⟨0, Nat.zero_le _, rfl, Ext.refl _, Lib.hid (by rw [List.drop_zero])⟩
  case round =>
    obtain ⟨q, hq, rfl, hE, HC⟩ := hrel
    by_cases hlt : q < m
    · obtain ⟨b, off, e0, hbl, hcs⟩ := (hs.sl.ext hE).at_ hlt (by omega)
      dsimp only at e0
      subst e0
      have hlt1 : q < es.length := by rw [← HL.out]; exact hlt
      obtain ⟨y, hyq⟩ : ∃ y, y = es[q] := ⟨_, rfl⟩
      have y6 := hcs q hlt1 6 (by omega)
      simp only [← hyq, entC, List.getElem_cons_zero, List.getElem_cons_succ, ← Nat.add_assoc] at y6
      have hi1 : (q : Int) < (m : Int) := by omega
      have HYD : Hid (FdsW w y.d y.p.fd) := (hs.good y (by rw [hyq]; exact List.getElem_mem hlt1)).d
      have HN : Hid ((es.all fun y => noTake y.p) = (noTake y.p && (es.drop (q + 1)).all fun y => noTake y.p)) := by
        show _ = _
        rw [HC.out, List.drop_eq_getElem_cons hlt1, List.all_cons, ← hyq]
      have Y6 := laters y6
      clear hcs hyq
      obtain ⟨⟨yid, ysrc, ytgt, ycom, yfl, yst, yfd⟩, yhc, yhf, yhd⟩ := y
      dsimp only at y6 Y6 HYD HN
      go_wp2_with (first
        | (go_at_call 11; refine Hid.out ?_))
      refine Hid.mk_ ((rfield_any (c := yhd.c) (HYD.out.sl.ext hE) ⟨#[112, 114, 101, 118, 105, 111, 117, 115]⟩).mono ?_)
      rintro e w3 ⟨⟨o1, ho1, rfl⟩, hE3⟩
      have H1 : Hid (o1 = fld prevB yfd) := ho1.eq
      obtain ⟨u1, hu1⟩ := fldV_some_of o1
      rw [hu1]
      obtain ⟨t1, ht1⟩ : ∃ t1, t1 = o1.isSome := ⟨_, rfl⟩
      rw [← ht1]
      have HT1 := Lib.hid ht1
      clear ho1 hu1 y6 ht1
      go_wp2_with (first
        | (go_at_call 11; refine Hid.out ?_))
      refine Hid.mk_ ((rfield_any (c := yhd.c) (HYD.out.sl.ext (hE.trans hE3)) ⟨#[114, 101, 117, 115, 101, 100]⟩).mono ?_)
      rintro e w4 ⟨⟨o2, ho2, rfl⟩, hE4⟩
      have H2 : Hid (o2 = fld reusB yfd) := ho2.eq
      obtain ⟨u2, hu2⟩ := fldV_some_of o2
      rw [hu2]
      obtain ⟨t2, ht2⟩ : ∃ t2, t2 = o2.isSome := ⟨_, rfl⟩
      rw [← ht2]
      have HT2 := Lib.hid ht2
      clear ho2 hu2 ht2 Y6
      have hE04 := (hE.trans hE3).trans hE4
      have HNT : Hid (noTake ⟨yid, ysrc, ytgt, ycom, yfl, yst, yfd⟩ = (!t1 && !t2)) := by
        show _ = _
        unfold noTake
        dsimp only
        rw [← H1.out, ← H2.out, HT1.out, HT2.out]
        cases o1 <;> cases o2 <;> rfl
      cases t1 with
      | true =>
        have HF : Hid (rr = true) := by show _ = _; rw [HRR.out, HFC.out, HN.out, HNT.out]; rfl
        go_wp2
        go_ret
        exact ⟨by rw [HF.out]; rfl, hE04⟩
      | false =>
        cases t2 with
        | true =>
          have HF : Hid (rr = true) := by show _ = _; rw [HRR.out, HFC.out, HN.out, HNT.out]; rfl
          go_wp2
          go_ret
          exact ⟨by rw [HF.out]; rfl, hE04⟩
        | false =>
          have HN2 : Hid ((es.all fun y => noTake y.p) = (es.drop (q + 1)).all fun y => noTake y.p) := by show _ = _; rw [HN.out, HNT.out]; rfl
          go_wp2
          go_roundw
          case rel => exact ⟨q + 1, by omega, by go_num, hE04, HN2⟩
          case measure => simp [intOf]; omega
    · have hi1 : ¬ (q : Int) < (m : Int) := by omega
      have HF : Hid (rr = false) := by
        show _ = _
        rw [HRR.out, HFC.out, HC.out, List.drop_eq_nil_of_le (by have := HL.out; omega)]
        rfl
      go_wp2
      go_ret
      exact ⟨by rw [HF.out]; rfl, hE⟩
/-- A list of few short strings. -/
def fewS (l : List ByteArray) : Bool := (l.all fun s => decide (s.size ≤ 100)) && decide (l.length ≤ 30)
set_option maxHeartbeats 1600000 in
theorem few5_any {A : Option Addr} {m : Nat} (c : Nat) {l : List ByteArray} (hs : SlC strF 1 w A m l) :
    Calls Tryd.prog 21 #[.slice A m c] w fun e w' => e = .returned (.bool (fewS l)) ∧ w = w' := by
  have HL := Lib.hid hs.len
  have hle := hs.le
  go_enter Tryd.func21, Tryd.ntmps21
  go_wp2
  go_loop [3] (fun v => ∃ q : Nat, q ≤ m ∧ v = .int .i64 q ∧ Hid ((l.all fun s => decide (s.size ≤ 100)) = (l.drop q).all fun s => decide (s.size ≤ 100))) (fun v => m - (intOf v).toNat)
  case atStart => exact ⟨0, Nat.zero_le _, rfl, rfl⟩
  case round =>
    obtain ⟨q, hq, rfl, HC⟩ := hrel
    by_cases hlt : q < m
    · obtain ⟨b, off, rfl, _, hcs⟩ := hs.at_ hlt (by omega)
      have hql : q < l.length := by rw [← HL.out]; exact hlt
      obtain ⟨x, hx⟩ : ∃ x, x = l[q] := ⟨_, rfl⟩
      have x0 := hcs q hql 0 (by omega)
      simp only [← hx, strF, List.getElem_cons_zero, Nat.mul_one, Nat.add_zero] at x0
      have HN : Hid ((l.all fun s => decide (s.size ≤ 100)) = (decide (x.size ≤ 100) && (l.drop (q + 1)).all fun s => decide (s.size ≤ 100))) := by
        show _ = _
        rw [HC.out, List.drop_eq_getElem_cons hql, List.all_cons, ← hx]
      have hi1 : (q : Int) < (m : Int) := by omega
      clear hcs hx
      by_cases hxs : 100 < x.size
      · have e1 : (100 : Int) < (x.size : Int) := by omega
        have HF : Hid (fewS l = false) := by
          show _ = _
          unfold fewS
          rw [HN.out, decide_eq_false (show ¬ x.size ≤ 100 by omega)]
          rfl
        clear hxs
        go_wp2
        go_ret
        exact ⟨by rw [HF.out]; rfl, rfl⟩
      · have e1 : ¬ (100 : Int) < (x.size : Int) := by omega
        have HN2 : Hid ((l.all fun s => decide (s.size ≤ 100)) = (l.drop (q + 1)).all fun s => decide (s.size ≤ 100)) := by show _ = _; rw [HN.out, decide_eq_true (show x.size ≤ 100 by omega), Bool.true_and]
        clear hxs
        go_wp2
        go_round
        case rel => exact ⟨q + 1, by omega, by go_num, HN2⟩
        case measure => simp [intOf]; omega
    · have hi1 : ¬ (q : Int) < (m : Int) := by omega
      have HA : Hid ((l.all fun s => decide (s.size ≤ 100)) = true) := by
        show _ = _
        rw [HC.out, List.drop_eq_nil_of_le (by have := HL.out; omega)]
        rfl
      by_cases h30 : m ≤ 30
      · have e1 : (m : Int) ≤ 30 := by omega
        have HF : Hid (fewS l = true) := by show _ = _; unfold fewS; rw [HA.out, ← HL.out, decide_eq_true h30]; rfl
        go_wp2
        go_ret
        exact ⟨by rw [HF.out]; rfl, rfl⟩
      · have e1 : ¬ (m : Int) ≤ 30 := by omega
        have HF : Hid (fewS l = false) := by show _ = _; unfold fewS; rw [HA.out, ← HL.out, decide_eq_false h30]; rfl
        go_wp2
        go_ret
        exact ⟨by rw [HF.out]; rfl, rfl⟩
end
end Go.Proofs.YtcdpmgdocgddcaaDoor
