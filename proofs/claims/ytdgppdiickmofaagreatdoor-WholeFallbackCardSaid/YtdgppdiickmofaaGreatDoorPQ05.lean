/- The program's tags: bytes, strings. -/
import Derived.Test.YtdgppdiickmofaaGreatDoorPQ03
import Derived.Test.YtdgppdiickmofaaGreatDoorPQ01
import Derived.Test.YtdgppdiickmofaaGreatDoorPQ04
namespace Go.Proofs.YtdgppdiickmofaaGreatDoor
open Go.RowKit
set_option maxRecDepth 100000
section
variable {w : World}
set_option maxHeartbeats 800000 in
theorem small_any (b : UInt8) : Calls Tryz.prog 139 #[.int .u8 (b.toNat : Int)] w fun e w' => e = .returned (.bool (smB b)) ∧ w = w' := by
  obtain ⟨n, hn⟩ : ∃ n, n = b.toNat := ⟨_, rfl⟩
  unfold smB
  rw [← hn]
  have hn2 : n < 256 := by rw [hn]; exact UInt8.toNat_lt b
  clear hn
  by_cases h1 : 97 ≤ n
  · have h1i : (97 : Int) ≤ (n : Int) := by omega
    by_cases h2 : n ≤ 122
    · have h2i : (n : Int) ≤ 122 := by omega
      go_enter Tryz.func139, Tryz.ntmps139
      go_wp2
      go_ret
      exact ⟨by first | rfl | (rw [decide_eq_true h1, decide_eq_true h2]; rfl), rfl⟩
    · have h2i : ¬ (n : Int) ≤ 122 := by omega
      go_enter Tryz.func139, Tryz.ntmps139
      go_wp2
      go_ret
      exact ⟨by first | rfl | (rw [decide_eq_true h1, decide_eq_false h2]; rfl), rfl⟩
  · have h1i : ¬ (97 : Int) ≤ (n : Int) := by omega
    go_enter Tryz.func139, Tryz.ntmps139
    go_wp2
    go_ret
    exact ⟨by first | rfl | (rw [decide_eq_false h1]; rfl), rfl⟩
set_option maxHeartbeats 800000 in
theorem capital_any (b : UInt8) : Calls Tryz.prog 140 #[.int .u8 (b.toNat : Int)] w fun e w' => e = .returned (.bool (cpB b)) ∧ w = w' := by
  obtain ⟨n, hn⟩ : ∃ n, n = b.toNat := ⟨_, rfl⟩
  unfold cpB
  rw [← hn]
  have hn2 : n < 256 := by rw [hn]; exact UInt8.toNat_lt b
  clear hn
  by_cases h1 : 65 ≤ n
  · have h1i : (65 : Int) ≤ (n : Int) := by omega
    by_cases h2 : n ≤ 90
    · have h2i : (n : Int) ≤ 90 := by omega
      go_enter Tryz.func140, Tryz.ntmps140
      go_wp2
      go_ret
      exact ⟨by first | rfl | (rw [decide_eq_true h1, decide_eq_true h2]; rfl), rfl⟩
    · have h2i : ¬ (n : Int) ≤ 90 := by omega
      go_enter Tryz.func140, Tryz.ntmps140
      go_wp2
      go_ret
      exact ⟨by first | rfl | (rw [decide_eq_true h1, decide_eq_false h2]; rfl), rfl⟩
  · have h1i : ¬ (65 : Int) ≤ (n : Int) := by omega
    go_enter Tryz.func140, Tryz.ntmps140
    go_wp2
    go_ret
    exact ⟨by first | rfl | (rw [decide_eq_false h1]; rfl), rfl⟩
set_option maxHeartbeats 800000 in
theorem digit_any (b : UInt8) : Calls Tryz.prog 141 #[.int .u8 (b.toNat : Int)] w fun e w' => e = .returned (.bool (dgB b)) ∧ w = w' := by
  obtain ⟨n, hn⟩ : ∃ n, n = b.toNat := ⟨_, rfl⟩
  unfold dgB
  rw [← hn]
  have hn2 : n < 256 := by rw [hn]; exact UInt8.toNat_lt b
  clear hn
  by_cases h1 : 48 ≤ n
  · have h1i : (48 : Int) ≤ (n : Int) := by omega
    by_cases h2 : n ≤ 57
    · have h2i : (n : Int) ≤ 57 := by omega
      go_enter Tryz.func141, Tryz.ntmps141
      go_wp2
      go_ret
      exact ⟨by first | rfl | (rw [decide_eq_true h1, decide_eq_true h2]; rfl), rfl⟩
    · have h2i : ¬ (n : Int) ≤ 57 := by omega
      go_enter Tryz.func141, Tryz.ntmps141
      go_wp2
      go_ret
      exact ⟨by first | rfl | (rw [decide_eq_true h1, decide_eq_false h2]; rfl), rfl⟩
  · have h1i : ¬ (48 : Int) ≤ (n : Int) := by omega
    go_enter Tryz.func141, Tryz.ntmps141
    go_wp2
    go_ret
    exact ⟨by first | rfl | (rw [decide_eq_false h1]; rfl), rfl⟩
set_option maxHeartbeats 800000 in
theorem either_any (b : UInt8) : Calls Tryz.prog 142 #[.int .u8 (b.toNat : Int)] w fun e w' => e = .returned (.bool (eiB b)) ∧ w = w' := by
  obtain ⟨c1, h1⟩ : ∃ c, c = smB b := ⟨_, rfl⟩
  obtain ⟨c2, h2⟩ : ∃ c, c = dgB b := ⟨_, rfl⟩
  have HE : Hid (eiB b = (c1 || c2)) := by show _ = _; unfold eiB; rw [h1, h2]
  have k1 := small_any (w := w) b
  have k2 := digit_any (w := w) b
  rw [← h1] at k1
  rw [← h2] at k2
  have K1 := Lib.hid k1
  have K2 := Lib.hid k2
  rw [HE.out]
  clear h1 h2 k1 k2
  obtain ⟨n, hn⟩ : ∃ n, n = b.toNat := ⟨_, rfl⟩
  rw [← hn] at K1 K2 ⊢
  clear hn HE
  cases c1 with
  | true =>
    go_enter Tryz.func142, Tryz.ntmps142
    go_wp2_with (first
      | (go_at_call 139; refine Hid.out ?_))
    refine Hid.mk_ ((K1.out).mono ?_)
    rintro e w2 ⟨rfl, rfl⟩
    go_wp2
    go_ret
    exact ⟨rfl, rfl⟩
  | false =>
    go_enter Tryz.func142, Tryz.ntmps142
    go_wp2_with (first
      | (go_at_call 139; refine Hid.out ?_))
    refine Hid.mk_ ((K1.out).mono ?_)
    rintro e w2 ⟨rfl, rfl⟩
    go_wp2_with (first
      | (go_at_call 141; refine Hid.out ?_))
    refine Hid.mk_ ((K2.out).mono ?_)
    rintro e w2 ⟨rfl, rfl⟩
    go_wp2
    go_ret
    exact ⟨rfl, rfl⟩
set_option maxHeartbeats 1600000 in
theorem all_sm (s : ByteArray) (hs : s.size ≤ 140737488351232) : Calls Tryz.prog 138 #[.string s, .func (.func 139) #[] #[]] w fun e w' => e = .returned (.bool ((bys s).all smB)) ∧ w = w' := by
  have HL : Hid ((bys s).length = s.size) := bys_len s
  go_enter Tryz.func138, Tryz.ntmps138
  go_wp2
  go_loopw [8] (fun i wr => ∃ q : Nat, q ≤ s.size ∧ i = .int .i64 q ∧ Hid ((bys s).all smB = ((bys s).drop q).all smB) ∧ wr = w) (fun i _ => s.size - (intOf i).toNat)
  case atStart => exact ⟨0, Nat.zero_le _, rfl, Lib.hid (by rw [List.drop_zero]), rfl⟩
  case round =>
    obtain ⟨q, hq, rfl, HC, rfl⟩ := hrel
    by_cases hlt : q < s.size
    · have hi1 : (q : Int) < (s.size : Int) := by omega
      have hi2 : ¬ (q : Int) < 0 := by omega
      have hlt1 : q < (bys s).length := by rw [HL.out]; exact hlt
      obtain ⟨cb, hcb⟩ : ∃ c, c = smB (s[q]'hlt) := ⟨_, rfl⟩
      have HD : Hid (((bys s).drop q).all smB = (cb && ((bys s).drop (q + 1)).all smB)) := by
        show _ = _
        rw [List.drop_eq_getElem_cons hlt1, List.all_cons, hcb]
        rfl
      have K := small_any (w := wr) (s[q]'hlt)
      rw [← hcb] at K
      have KH := Lib.hid K
      clear K hcb
      cases cb with
      | true =>
        go_wp2_with (first
          | (go_at_call 139; refine Hid.out ?_))
        refine Hid.mk_ ((KH.out).mono ?_)
        rintro e w2 ⟨rfl, rfl⟩
        go_wp2
        go_roundw
        case rel => exact ⟨q + 1, by omega, by rw [Int.natCast_succ], Lib.hid (by rw [HC.out, HD.out, Bool.true_and]), by first | trivial | rfl⟩
        case measure => first | omega | (simp [intOf]; omega)
      | false =>
        go_wp2_with (first
          | (go_at_call 139; refine Hid.out ?_))
        refine Hid.mk_ ((KH.out).mono ?_)
        rintro e w2 ⟨rfl, rfl⟩
        go_wp2
        go_ret
        exact ⟨by rw [HC.out, HD.out, Bool.false_and]; rfl, rfl⟩
    · have hi1 : ¬ (q : Int) < (s.size : Int) := by omega
      have HR : Hid ((bys s).all smB = true) := by
        show _ = _
        rw [HC.out, List.drop_eq_nil_of_le (by rw [HL.out]; omega)]
        rfl
      go_wp2
      go_ret
      exact ⟨by rw [HR.out]; rfl, rfl⟩
set_option maxHeartbeats 1600000 in
theorem all_cp (s : ByteArray) (hs : s.size ≤ 140737488351232) : Calls Tryz.prog 138 #[.string s, .func (.func 140) #[] #[]] w fun e w' => e = .returned (.bool ((bys s).all cpB)) ∧ w = w' := by
  have HL : Hid ((bys s).length = s.size) := bys_len s
  go_enter Tryz.func138, Tryz.ntmps138
  go_wp2
  go_loopw [8] (fun i wr => ∃ q : Nat, q ≤ s.size ∧ i = .int .i64 q ∧ Hid ((bys s).all cpB = ((bys s).drop q).all cpB) ∧ wr = w) (fun i _ => s.size - (intOf i).toNat)
  case atStart => exact ⟨0, Nat.zero_le _, rfl, Lib.hid (by rw [List.drop_zero]), rfl⟩
  case round =>
    obtain ⟨q, hq, rfl, HC, rfl⟩ := hrel
    by_cases hlt : q < s.size
    · have hi1 : (q : Int) < (s.size : Int) := by omega
      have hi2 : ¬ (q : Int) < 0 := by omega
      have hlt1 : q < (bys s).length := by rw [HL.out]; exact hlt
      obtain ⟨cb, hcb⟩ : ∃ c, c = cpB (s[q]'hlt) := ⟨_, rfl⟩
      have HD : Hid (((bys s).drop q).all cpB = (cb && ((bys s).drop (q + 1)).all cpB)) := by
        show _ = _
        rw [List.drop_eq_getElem_cons hlt1, List.all_cons, hcb]
        rfl
      have K := capital_any (w := wr) (s[q]'hlt)
      rw [← hcb] at K
      have KH := Lib.hid K
      clear K hcb
      cases cb with
      | true =>
        go_wp2_with (first
          | (go_at_call 140; refine Hid.out ?_))
        refine Hid.mk_ ((KH.out).mono ?_)
        rintro e w2 ⟨rfl, rfl⟩
        go_wp2
        go_roundw
        case rel => exact ⟨q + 1, by omega, by rw [Int.natCast_succ], Lib.hid (by rw [HC.out, HD.out, Bool.true_and]), by first | trivial | rfl⟩
        case measure => first | omega | (simp [intOf]; omega)
      | false =>
        go_wp2_with (first
          | (go_at_call 140; refine Hid.out ?_))
        refine Hid.mk_ ((KH.out).mono ?_)
        rintro e w2 ⟨rfl, rfl⟩
        go_wp2
        go_ret
        exact ⟨by rw [HC.out, HD.out, Bool.false_and]; rfl, rfl⟩
    · have hi1 : ¬ (q : Int) < (s.size : Int) := by omega
      have HR : Hid ((bys s).all cpB = true) := by
        show _ = _
        rw [HC.out, List.drop_eq_nil_of_le (by rw [HL.out]; omega)]
        rfl
      go_wp2
      go_ret
      exact ⟨by rw [HR.out]; rfl, rfl⟩
set_option maxHeartbeats 1600000 in
theorem all_dg (s : ByteArray) (hs : s.size ≤ 140737488351232) : Calls Tryz.prog 138 #[.string s, .func (.func 141) #[] #[]] w fun e w' => e = .returned (.bool ((bys s).all dgB)) ∧ w = w' := by
  have HL : Hid ((bys s).length = s.size) := bys_len s
  go_enter Tryz.func138, Tryz.ntmps138
  go_wp2
  go_loopw [8] (fun i wr => ∃ q : Nat, q ≤ s.size ∧ i = .int .i64 q ∧ Hid ((bys s).all dgB = ((bys s).drop q).all dgB) ∧ wr = w) (fun i _ => s.size - (intOf i).toNat)
  case atStart => exact ⟨0, Nat.zero_le _, rfl, Lib.hid (by rw [List.drop_zero]), rfl⟩
  case round =>
    obtain ⟨q, hq, rfl, HC, rfl⟩ := hrel
    by_cases hlt : q < s.size
    · have hi1 : (q : Int) < (s.size : Int) := by omega
      have hi2 : ¬ (q : Int) < 0 := by omega
      have hlt1 : q < (bys s).length := by rw [HL.out]; exact hlt
      obtain ⟨cb, hcb⟩ : ∃ c, c = dgB (s[q]'hlt) := ⟨_, rfl⟩
      have HD : Hid (((bys s).drop q).all dgB = (cb && ((bys s).drop (q + 1)).all dgB)) := by
        show _ = _
        rw [List.drop_eq_getElem_cons hlt1, List.all_cons, hcb]
        rfl
      have K := digit_any (w := wr) (s[q]'hlt)
      rw [← hcb] at K
      have KH := Lib.hid K
      clear K hcb
      cases cb with
      | true =>
        go_wp2_with (first
          | (go_at_call 141; refine Hid.out ?_))
        refine Hid.mk_ ((KH.out).mono ?_)
        rintro e w2 ⟨rfl, rfl⟩
        go_wp2
        go_roundw
        case rel => exact ⟨q + 1, by omega, by rw [Int.natCast_succ], Lib.hid (by rw [HC.out, HD.out, Bool.true_and]), by first | trivial | rfl⟩
        case measure => first | omega | (simp [intOf]; omega)
      | false =>
        go_wp2_with (first
          | (go_at_call 141; refine Hid.out ?_))
        refine Hid.mk_ ((KH.out).mono ?_)
        rintro e w2 ⟨rfl, rfl⟩
        go_wp2
        go_ret
        exact ⟨by rw [HC.out, HD.out, Bool.false_and]; rfl, rfl⟩
    · have hi1 : ¬ (q : Int) < (s.size : Int) := by omega
      have HR : Hid ((bys s).all dgB = true) := by
        show _ = _
        rw [HC.out, List.drop_eq_nil_of_le (by rw [HL.out]; omega)]
        rfl
      go_wp2
      go_ret
      exact ⟨by rw [HR.out]; rfl, rfl⟩
set_option maxHeartbeats 1600000 in
theorem all_ei (s : ByteArray) (hs : s.size ≤ 140737488351232) : Calls Tryz.prog 138 #[.string s, .func (.func 142) #[] #[]] w fun e w' => e = .returned (.bool ((bys s).all eiB)) ∧ w = w' := by
  have HL : Hid ((bys s).length = s.size) := bys_len s
  go_enter Tryz.func138, Tryz.ntmps138
  go_wp2
  go_loopw [8] (fun i wr => ∃ q : Nat, q ≤ s.size ∧ i = .int .i64 q ∧ Hid ((bys s).all eiB = ((bys s).drop q).all eiB) ∧ wr = w) (fun i _ => s.size - (intOf i).toNat)
  case atStart => exact ⟨0, Nat.zero_le _, rfl, Lib.hid (by rw [List.drop_zero]), rfl⟩
  case round =>
    obtain ⟨q, hq, rfl, HC, rfl⟩ := hrel
    by_cases hlt : q < s.size
    · have hi1 : (q : Int) < (s.size : Int) := by omega
      have hi2 : ¬ (q : Int) < 0 := by omega
      have hlt1 : q < (bys s).length := by rw [HL.out]; exact hlt
      obtain ⟨cb, hcb⟩ : ∃ c, c = eiB (s[q]'hlt) := ⟨_, rfl⟩
      have HD : Hid (((bys s).drop q).all eiB = (cb && ((bys s).drop (q + 1)).all eiB)) := by
        show _ = _
        rw [List.drop_eq_getElem_cons hlt1, List.all_cons, hcb]
        rfl
      have K := either_any (w := wr) (s[q]'hlt)
      rw [← hcb] at K
      have KH := Lib.hid K
      clear K hcb
      cases cb with
      | true =>
        go_wp2_with (first
          | (go_at_call 142; refine Hid.out ?_))
        refine Hid.mk_ ((KH.out).mono ?_)
        rintro e w2 ⟨rfl, rfl⟩
        go_wp2
        go_roundw
        case rel => exact ⟨q + 1, by omega, by rw [Int.natCast_succ], Lib.hid (by rw [HC.out, HD.out, Bool.true_and]), by first | trivial | rfl⟩
        case measure => first | omega | (simp [intOf]; omega)
      | false =>
        go_wp2_with (first
          | (go_at_call 142; refine Hid.out ?_))
        refine Hid.mk_ ((KH.out).mono ?_)
        rintro e w2 ⟨rfl, rfl⟩
        go_wp2
        go_ret
        exact ⟨by rw [HC.out, HD.out, Bool.false_and]; rfl, rfl⟩
    · have hi1 : ¬ (q : Int) < (s.size : Int) := by omega
      have HR : Hid ((bys s).all eiB = true) := by
        show _ = _
        rw [HC.out, List.drop_eq_nil_of_le (by rw [HL.out]; omega)]
        rfl
      go_wp2
      go_ret
      exact ⟨by rw [HR.out]; rfl, rfl⟩
set_option maxHeartbeats 1600000 in
theorem language_any (s : ByteArray) (hs : s.size ≤ 140737488351232) : Calls Tryz.prog 89 #[.string s] w fun e w' => e = .returned (.bool (langP (bys s))) ∧ w = w' := by
  have HL : Hid (langP (bys s) = ((decide (s.size = 2) || decide (s.size = 3)) && (bys s).all smB)) := by
    show _ = _
    unfold langP
    rw [bys_len]
  by_cases h2 : s.size = 2
  · have h2i : (s.size : Int) = 2 := by omega
    go_enter Tryz.func89, Tryz.ntmps89
    go_wp2_with (first
      | (go_at_call 138; refine Hid.out ?_))
    refine Hid.mk_ ((all_sm s hs).mono ?_)
    rintro e w2 ⟨rfl, rfl⟩
    go_wp2
    go_ret
    exact ⟨by rw [HL.out, decide_eq_true h2, Bool.true_or, Bool.true_and]; rfl, rfl⟩
  · have h2i : ¬ (s.size : Int) = 2 := by omega
    by_cases h3 : s.size = 3
    · have h3i : (s.size : Int) = 3 := by omega
      go_enter Tryz.func89, Tryz.ntmps89
      go_wp2_with (first
        | (go_at_call 138; refine Hid.out ?_))
      refine Hid.mk_ ((all_sm s hs).mono ?_)
      rintro e w2 ⟨rfl, rfl⟩
      go_wp2
      go_ret
      exact ⟨by rw [HL.out, decide_eq_true h3, Bool.or_true, Bool.true_and]; rfl, rfl⟩
    · have h3i : ¬ (s.size : Int) = 3 := by omega
      go_enter Tryz.func89, Tryz.ntmps89
      go_wp2
      go_ret
      exact ⟨by rw [HL.out, decide_eq_false h2, decide_eq_false h3, Bool.or_false, Bool.false_and]; rfl, rfl⟩
set_option maxHeartbeats 1600000 in
theorem region_any (s : ByteArray) (hs : s.size ≤ 140737488351232) : Calls Tryz.prog 93 #[.string s] w fun e w' => e = .returned (.bool (regP (bys s))) ∧ w = w' := by
  have HL : Hid (regP (bys s) = ((decide (s.size = 2) && (bys s).all cpB) || (decide (s.size = 3) && (bys s).all dgB))) := by
    show _ = _
    unfold regP
    rw [bys_len]
  by_cases h2 : s.size = 2
  · have h2i : (s.size : Int) = 2 := by omega
    have h3 : ¬ s.size = 3 := by omega
    have h3i : ¬ (s.size : Int) = 3 := by omega
    have HA := Lib.hid (all_cp (w := w) s hs)
    obtain ⟨ca, hca⟩ : ∃ c, c = (bys s).all cpB := ⟨_, rfl⟩
    have HC : Hid (regP (bys s) = ca) := by show _ = _; rw [HL.out, decide_eq_true h2, decide_eq_false h3, Bool.true_and, Bool.false_and, Bool.or_false, hca]
    rw [← hca] at HA
    clear hca
    cases ca with
    | true =>
      go_enter Tryz.func93, Tryz.ntmps93
      go_wp2_with (first
        | (go_at_call 138; refine Hid.out ?_))
      refine Hid.mk_ ((HA.out).mono ?_)
      rintro e w2 ⟨rfl, rfl⟩
      go_wp2
      go_ret
      exact ⟨by rw [HC.out]; rfl, rfl⟩
    | false =>
      go_enter Tryz.func93, Tryz.ntmps93
      go_wp2_with (first
        | (go_at_call 138; refine Hid.out ?_))
      refine Hid.mk_ ((HA.out).mono ?_)
      rintro e w2 ⟨rfl, rfl⟩
      go_wp2
      go_ret
      exact ⟨by rw [HC.out]; rfl, rfl⟩
  · have h2i : ¬ (s.size : Int) = 2 := by omega
    by_cases h3 : s.size = 3
    · have h3i : (s.size : Int) = 3 := by omega
      go_enter Tryz.func93, Tryz.ntmps93
      go_wp2_with (first
        | (go_at_call 138; refine Hid.out ?_))
      refine Hid.mk_ ((all_dg s hs).mono ?_)
      rintro e w2 ⟨rfl, rfl⟩
      go_wp2
      go_ret
      exact ⟨by rw [HL.out, decide_eq_true h3, decide_eq_false h2, Bool.false_and, Bool.false_or, Bool.true_and]; rfl, rfl⟩
    · have h3i : ¬ (s.size : Int) = 3 := by omega
      go_enter Tryz.func93, Tryz.ntmps93
      go_wp2
      go_ret
      exact ⟨by rw [HL.out, decide_eq_false h2, decide_eq_false h3, Bool.false_and, Bool.false_and]; rfl, rfl⟩
end
end Go.Proofs.YtdgppdiickmofaaGreatDoor
