/- The reference's Decode, Encode, Valid. -/
import Derived.Test.YtikbjaopcminaaaDoorU8W
import Derived.Test.YtikbjaopcminaaaDoorOsc
namespace Go.Proofs.YtikbjaopcminaaaDoor
open Go.RowKit
set_option maxRecDepth 100000

/-- A number as a cell of a slice of ints. -/
def natF (n : Nat) : List Value := [.int .i64 (n : Int)]
theorem natF_len (n : Nat) : (natF n).length = 1 := rfl
theorem natF_cell : ∀ x : Nat, ∀ u ∈ natF x, u.oneCell' = true := by
  intro x u hu
  simp only [natF, List.mem_cons, List.not_mem_nil, or_false] at hu
  rcases hu with rfl
  rfl
theorem einfo_int : EInfo 81 3 1 8 := EInfo.mk_ (z := .int .i64 0) Tryd.underlying81 (by kernel_rfl) rfl (by omega) (by omega)
theorem str_app (a b : List UInt8) : str (a ++ b) = str a ++ str b := bys_inj (by
  rw [bys_str]
  show _ = bys (str a ++ str b)
  unfold bys
  rw [ByteArray.data_append]
  simp [str])
section
variable {w : World}
set_option maxHeartbeats 3200000 in
theorem decode_any (s : ByteArray) (hs : s.size ≤ 1000000) :
    Calls Tryd.prog 85 #[.string s] w fun e w' => (∃ A m c, e = .returned (.slice A m c) ∧ SlC natF 1 w' A m (decL (bys s)) ∧ m ≤ s.size) ∧ Ext w w' := by
  go_enter Tryd.func85, Tryd.ntmps85
  go_wp2
  go_loopw [0, 3] (fun v o wr => ∃ (t : ByteArray) (A : Option Addr) (m c : Nat) (l : List Nat), v = .string t ∧ o = .slice A m c ∧ OsC natF 3 1 wr w.heap.size A m c l ∧ m + t.size ≤ s.size ∧ Hid (l ++ decL (bys t) = decL (bys s)) ∧ Ext w wr) (fun v _ _ => match v with | .string t => t.size | _ => 0)
  case atStart => exact ⟨s, none, 0, 0, [], rfl, rfl, OsC.nil_ natF_len natF_cell, by omega, Lib.hid rfl, Ext.refl _⟩
  case round =>
    obtain ⟨t, A, m, c, l, rfl, rfl, ho, hm, HD, hE⟩ := hrel
    by_cases h0 : 0 < t.size
    · have h0i : (0 : Int) < (t.size : Int) := by omega
      obtain ⟨n, k, hnk⟩ : ∃ n k, Lib.decodeL (bys t) = (n, k) := ⟨_, _, rfl⟩
      have HNK := Lib.hid hnk
      have hw := Lib.decodeL_width (bys t)
      have hne : bys t ≠ [] := fun e => by have := bys_len t; rw [e] at this; simp at this; omega
      have hw2 := dec_le (bys t) hne
      have hk1 : 1 ≤ k ∧ k ≤ t.size := by
        rw [hnk] at hw hw2
        rw [bys_len] at hw2
        exact ⟨hw, hw2⟩
      have HV : Hid (nextV (bys t) = .tuple #[.int .i64 n, .int .i64 k]) := by show nextV (bys t) = _; unfold nextV; rw [hnk]
      have hst := decL_step (bys t) hne
      rw [hnk] at hst
      obtain ⟨x, hx⟩ : ∃ x, x = t.extract k t.size := ⟨_, rfl⟩
      have hx' : t.extract k t.size = x := hx.symm
      have hbx : bys x = (bys t).drop k := by rw [hx, bys_sub, List.take_of_length_le (by rw [bys_len]; exact Nat.le_refl _)]
      have hxs : x.size = t.size - k := by rw [← bys_len, hbx, List.length_drop, bys_len]
      have HS : Hid (decL (bys t) = n :: decL (bys x)) := by show decL (bys t) = _; rw [hst, hbx]
      have HXS := Lib.hid hxs
      clear hst hx hbx hw hw2 hnk hne hxs
      obtain ⟨hk1, hk2⟩ := hk1
      have hki : (k : Int) ≤ (t.size : Int) := by omega
      go_wp2_with (first
        | (go_at_call 97; refine Hid.out ?_))
      refine Hid.mk_ ((next_any t h0 (by omega)).mono ?_)
      rintro e w2 ⟨rfl, hE2⟩
      rw [HV.out]
      have hE02 := hE.trans hE2
      have ho2 := ho.ext hE2
      have hnew : SlC natF 1 (w2.alloc (Obj.cells #[Value.int IntKind.i64 (n : Int)] 3)) (some ⟨w2.heap.size, 0, none⟩) 1 [n] :=
        SlC.new_ (cs := natF) w2 [n] natF_len (by simp) _ rfl (0, 0) 1 rfl 3
      have hE1a : Ext w2 (w2.alloc (Obj.cells #[Value.int IntKind.i64 (n : Int)] 3)) := (Ext.refl _).alloc _
      go_wp2_with (first
        | (at_builtin; refine Hid.out ?_))
      refine Hid.mk_ ?_
      refine (appC einfo_int) rfl _ _ rfl (ho2.ext hE1a) rfl hnew rfl (by omega) (Nat.le_trans hE02.size_le hE1a.size_le) ?_
      intro A2 m2 c2 w3 ho3 hg3 hat3
      have hE3 : Ext w w3 := (hE02.trans hE1a).grown hg3 ho2.ge
      have hm2 : m2 = m + 1 := by rw [ho3.len, List.length_append, ← ho.len]; rfl
      have HM := Lib.hid hm2
      clear hm2
      go_wp2
      go_roundw
      case rel => exact ⟨x, A2, m2, c2, l ++ [n], rfl, rfl, ho3, by rw [HM.out, HXS.out]; omega, Lib.hid (by rw [← HD.out, HS.out]; simp), hE3⟩
      case measure => show x.size < t.size; rw [HXS.out]; omega
    · have h0i : ¬ (0 : Int) < (t.size : Int) := by omega
      have ht : bys t = [] := List.eq_nil_of_length_eq_zero (by rw [bys_len]; omega)
      have HL : Hid (l = decL (bys s)) := by
        have h1 := HD.out
        rw [ht, decL_nil, List.append_nil] at h1
        exact h1
      clear ht
      go_wp2
      go_ret
      exact ⟨⟨A, m, ⟨c, rfl⟩, by rw [← HL.out]; exact ho.sl, by omega⟩, hE⟩

set_option maxHeartbeats 3200000 in
theorem encode_any {A : Option Addr} {m : Nat} (c : Nat) {l : List Nat} (hs : SlC natF 1 w A m l) (hm : m ≤ 1000000) :
    Calls Tryd.prog 84 #[.slice A m c] w fun e w' => e = .returned (.string (str (encL l))) ∧ Ext w w' := by
  have HL := Lib.hid hs.len
  go_enter Tryd.func84, Tryd.ntmps84
  go_wp2
  go_loopw [3, 4] (fun v i wr => ∃ (t : ByteArray) (q : Nat), q ≤ m ∧ v = .string t ∧ i = .int .i64 q ∧ Hid (t = str (encL (l.take q))) ∧ t.size ≤ 4 * q ∧ Ext w wr) (fun _ i _ => m - (intOf i).toNat)
  case atStart => exact ⟨⟨#[]⟩, 0, Nat.zero_le _, rfl, rfl, Lib.hid (by rw [List.take_zero]; rfl), Nat.le_refl _, Ext.refl _⟩
  case round =>
    obtain ⟨t, q, hq, rfl, rfl, HT, hts, hE⟩ := hrel
    by_cases hlt : q < m
    · have hi1 : (q : Int) < (m : Int) := by omega
      obtain ⟨b, off, rfl, hbl, hcs⟩ := (hs.ext hE).at_ hlt (by omega)
      have hlt1 : q < l.length := by rw [← HL.out]; exact hlt
      obtain ⟨n, hn⟩ : ∃ n, n = l[q] := ⟨_, rfl⟩
      have x0 := hcs q hlt1 0 (by omega)
      simp only [← hn, natF, List.getElem_cons_zero, Nat.mul_one, Nat.add_zero] at x0
      have hst : encL (l.take (q + 1)) = encL (l.take q) ++ encOne n := by
        rw [List.take_succ_eq_append_getElem hlt1, encL_append, ← hn, encL, encL, List.append_nil]
      have HS : Hid (t ++ str (encOne n) = str (encL (l.take (q + 1)))) := by show _ = _; rw [hst, str_app, HT.out]
      have he4 : (str (encOne n)).size ≤ 4 := by
        rw [str_size]
        unfold encOne
        have h1 : ∀ k, (oneL k).length ≤ 4 := fun k => by unfold oneL; repeat' split
                                                          all_goals simp
        split
        · exact h1 _
        · exact h1 _
      have hsz : (t ++ str (encOne n)).size = t.size + (str (encOne n)).size := ByteArray.size_append
      have HSZ := Lib.hid hsz
      obtain ⟨y, hy⟩ : ∃ y, y = str (encOne n) := ⟨_, rfl⟩
      rw [← hy] at he4
      clear hcs hn hst hsz
      by_cases hp : PointN n
      · have HP := Lib.hid (decide_eq_true hp)
        have hn11 : n ≤ 1114111 := hp.1
        have HY : Hid (str (oneL n) = y) := by show _ = _; rw [hy]; unfold encOne; rw [if_pos hp]
        rw [← hy] at HS HSZ
        clear hy hp
        go_wp2_with (first
          | (go_at_call 95; refine Hid.out ?_))
        refine Hid.mk_ ((point_any n).mono ?_)
        rintro e w2 ⟨rfl, rfl⟩
        rw [HP.out]
        go_wp2_with (first
          | (go_at_call 96; refine Hid.out ?_))
        refine Hid.mk_ ((one_any n hn11).mono ?_)
        rintro e w3 ⟨rfl, hE3⟩
        rw [HY.out]
        go_wp2
        go_roundw
        case rel => exact ⟨t ++ y, q + 1, by omega, rfl, by go_num, HS, by rw [HSZ.out]; omega, hE.trans hE3⟩
        case measure => simp [intOf]; omega
      · have HP := Lib.hid (decide_eq_false hp)
        have HY : Hid (str (oneL 65533) = y) := by show _ = _; rw [hy]; unfold encOne; rw [if_neg hp]
        rw [← hy] at HS HSZ
        clear hy hp
        go_wp2_with (first
          | (go_at_call 95; refine Hid.out ?_))
        refine Hid.mk_ ((point_any n).mono ?_)
        rintro e w2 ⟨rfl, rfl⟩
        rw [HP.out]
        go_wp2_with (first
          | (go_at_call 96; refine Hid.out ?_))
        refine Hid.mk_ ((one_any 65533 (by omega)).mono ?_)
        rintro e w3 ⟨rfl, hE3⟩
        rw [HY.out]
        go_wp2
        go_roundw
        case rel => exact ⟨t ++ y, q + 1, by omega, rfl, by go_num, HS, by rw [HSZ.out]; omega, hE.trans hE3⟩
        case measure => simp [intOf]; omega
    · have hi1 : ¬ (q : Int) < (m : Int) := by omega
      have HF : Hid (t = str (encL l)) := by
        have h1 := HT.out
        rw [List.take_of_length_le (by rw [← HL.out]; omega)] at h1
        exact h1
      go_wp2
      go_ret
      exact ⟨by rw [HF.out]; first | done | rfl, hE⟩

set_option maxHeartbeats 1600000 in
theorem refValid_any (s : ByteArray) (hs : s.size ≤ 1000000) :
    Calls Tryd.prog 55 #[.string s] w fun e w' => e = .returned (.bool (Lib.validD (bys s))) ∧ Ext w w' := by
  go_enter Tryd.func55, Tryd.ntmps55
  go_wp2_with (first
    | (go_at_call 85; refine Hid.out ?_))
  refine Hid.mk_ ((decode_any s hs).mono ?_)
  rintro e w2 ⟨⟨A, m, c, rfl, hd, hm⟩, hE2⟩
  go_wp2_with (first
    | (go_at_call 84; refine Hid.out ?_))
  refine Hid.mk_ ((encode_any c hd (by omega)).mono ?_)
  rintro e w3 ⟨rfl, hE3⟩
  have hE := hE2.trans hE3
  obtain ⟨y, hy⟩ : ∃ y, y = str (encL (decL (bys s))) := ⟨_, rfl⟩
  rw [← hy]
  have hv := validD_enc (bys s)
  by_cases hq : encL (decL (bys s)) = bys s
  · have hbq : (y.toList == s.toList) = true := by rw [hy, hq, str_bys]; simp
    rw [decide_eq_true hq] at hv
    have HV := Lib.hid hv
    clear hv hq hy
    go_wp2
    go_ret
    exact ⟨by rw [HV.out]; first | done | rfl, hE⟩
  · have hbq : (y.toList == s.toList) = false := by
      rw [beq_eq_false_iff_ne]
      intro hh
      rw [ByteArray.toList_eq, ByteArray.toList_eq] at hh
      have h3 : bys y = bys s := hh
      rw [hy, bys_str] at h3
      exact hq h3
    rw [decide_eq_false hq] at hv
    have HV := Lib.hid hv
    clear hv hq hy
    go_wp2
    go_ret
    exact ⟨by rw [HV.out]; first | done | rfl, hE⟩
end

end Go.Proofs.YtikbjaopcminaaaDoor
