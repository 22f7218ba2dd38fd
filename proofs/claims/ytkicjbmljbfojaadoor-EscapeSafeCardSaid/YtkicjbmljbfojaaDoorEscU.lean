/- End; digits of package escape. -/
import Derived.Test.YtkicjbmljbfojaaDoorEscE
namespace Go.Proofs.YtkicjbmljbfojaaDoor
open Go.RowKit
set_option maxRecDepth 100000

attribute [local go_sem] ext_refl_t ext_alloc_t ext_drew_t ext_drewN_t ext_alloc2_t ext_alloc3_t ext_alloc4_t ext_alloc5_t ext_alloc6_t ext_alloc7_t ext_alloc8_t ext_alloc1d_t ext_alloc2d_t ext_alloc3d_t ext_alloc4d_t
theorem bys_at (s : ByteArray) (k : Nat) (h : k < s.size) : (bys s)[k]'(by rw [bys_len]; exact h) = s[k]'h := rfl
theorem endGo_end (n : Nat) (d : UInt8) (b : Bool) (i : Nat) : endGo n d b i [] = -1 := by cases b <;> rfl
theorem endGo_hit {n : Nat} {d : UInt8} {i : Nat} {l : List UInt8} {k : Nat} (h : k < l.length) (hd : l[k] = d) : endGo n d false i (l.drop k) = i := by
  rw [List.drop_eq_getElem_cons h, endGo, if_pos hd]
theorem endGo_next {n : Nat} {d : UInt8} {i : Nat} {l : List UInt8} {k : Nat} (h : k < l.length) (hd : l[k] ≠ d) (hb : ¬ (n ≠ 4 ∧ l[k] = 92)) : endGo n d false i (l.drop k) = endGo n d false (i + 1) (l.drop (k + 1)) := by
  rw [List.drop_eq_getElem_cons h, endGo, if_neg hd, if_neg hb]
theorem endGo_skip {n : Nat} {d : UInt8} {i : Nat} {l : List UInt8} {k : Nat} (h : k < l.length) (hd : l[k] ≠ d) (hb : n ≠ 4 ∧ l[k] = 92) : endGo n d false i (l.drop k) = endGo n d false (i + 2) (l.drop (k + 2)) := by
  rw [List.drop_eq_getElem_cons h, endGo, if_neg hd, if_pos hb]
  by_cases h2 : k + 1 < l.length
  · rw [List.drop_eq_getElem_cons h2, endGo]
  · rw [List.drop_eq_nil_of_le (by omega), List.drop_eq_nil_of_le (by omega), endGo_end, endGo_end]
section
variable {w : World}
set_option maxHeartbeats 1600000 in
theorem end_any_no (n : Int) (s : ByteArray) (d : Nat) (hn : styleZ n = false) : Calls Tryd.prog 16 #[.int .i64 n, .string s, .int .u8 (d : Int)] w fun e w' => e = .returned (.int .i64 (endZ n (bys s) (by_ d))) ∧ w' = w := by
  have hs : endZ n (bys s) (by_ d) = -1 := by unfold endZ; rw [hn]; rfl
  rw [hs]
  clear hs
  have HN := Lib.hid hn
  clear hn
  go_enter Tryd.func16, Tryd.ntmps16
  go_wp2_with (first
    | (go_at_call 19; refine Hid.out ?_))
  refine Hid.mk_ ((style_any n).mono ?_)
  rintro e w1 ⟨rfl, rfl⟩
  rw [HN.out]
  go_wp2
  go_ret
  exact ⟨rfl, rfl⟩
set_option maxHeartbeats 1600000 in
theorem end_any_yes (n : Nat) (h1 : 1 ≤ n) (h4 : n ≤ 4) (s : ByteArray) (hsz : s.size ≤ 100000) (d : Nat) (hd : d < 256) : Calls Tryd.prog 16 #[.int .i64 (n : Int), .string s, .int .u8 (d : Int)] w fun e w' => e = .returned (.int .i64 (endGo n (by_ d) false 0 (bys s))) ∧ w' = w := by
  have hst : styleZ (n : Int) = true := decide_eq_true (by omega)
  have HS := Lib.hid hst
  have HBL := Lib.hid (bys_len s)
  have hdd : (by_ d).toNat = d := by unfold by_; rw [UInt8.toNat_ofNat', Nat.mod_eq_of_lt hd]
  have HD := Lib.hid hdd
  clear hst hdd
  go_enter Tryd.func16, Tryd.ntmps16
  go_wp2_with (first
    | (go_at_call 19; refine Hid.out ?_))
  refine Hid.mk_ ((style_any (n : Int)).mono ?_)
  rintro e w1 ⟨rfl, rfl⟩
  rw [HS.out]
  go_wp2
  go_loop [7] (fun i => ∃ k : Nat, k ≤ s.size + 1 ∧ i = .int .i64 k ∧ Hid (endGo n (by_ d) false 0 (bys s) = endGo n (by_ d) false k ((bys s).drop k))) (fun i => s.size + 2 - (intOf i).toNat)
  case atStart => exact ⟨0, Nat.zero_le _, rfl, Lib.hid (by rw [List.drop_zero])⟩
  case round =>
    obtain ⟨k, hk, rfl, H⟩ := hrel
    by_cases hlt : k < s.size
    · have hi1 : (k : Int) < (s.size : Int) := by omega
      have hlk : k < (bys s).length := by rw [HBL.out]; exact hlt
      have hbk := bys_at s k hlt
      obtain ⟨c, hc⟩ : ∃ c, c = s[k]'hlt := ⟨_, rfl⟩
      rw [← hc] at hbk
      have HC := Lib.hid hc
      by_cases he : c.toNat = d
      · have hq : (((s[k]'hlt).toNat : Int) == (d : Int)) = true := by rw [← hc, he]; exact beq_self_eq_true _
        have hcd : c = by_ d := UInt8.toNat_inj.1 (by rw [HD.out]; exact he)
        have HH := Lib.hid (H.out.trans (endGo_hit hlk (by rw [hbk]; exact hcd)))
        clear he hcd hbk hc
        go_wp2
        go_ret
        exact ⟨by rw [HH.out]; rfl, rfl⟩
      · have hq : (((s[k]'hlt).toNat : Int) == (d : Int)) = false := by rw [← hc, beq_eq_false_iff_ne]; omega
        have hne : (bys s)[k] ≠ by_ d := by
          rw [hbk]
          intro e
          exact he (by rw [e, HD.out])
        by_cases h92 : n ≠ 4 ∧ c = 92
        · have hq2 : ((n : Int) == 4) = false := by rw [beq_eq_false_iff_ne]; omega
          have hq3 : (((s[k]'hlt).toNat : Int) == 92) = true := by rw [← hc, h92.2]; rfl
          have hq4 : ((n : Int) != 4) = true := by rw [bne, hq2]; rfl
          have HH := Lib.hid (H.out.trans (endGo_skip hlk hne (by rw [hbk]; exact h92)))
          clear he h92 hne hbk hc
          go_wp2
          go_round
          case rel => exact ⟨k + 2, by omega, by go_num, HH⟩
          case measure => simp [intOf]; omega
        · have HH := Lib.hid (H.out.trans (endGo_next hlk hne (by rw [hbk]; exact h92)))
          have hq5 : ((n : Int) != 4) = false ∨ (((n : Int) != 4) = true ∧ (((s[k]'hlt).toNat : Int) == 92) = false) := by
            by_cases h : n = 4
            · left; rw [h]; rfl
            · right
              refine ⟨by rw [bne_iff_ne]; omega, ?_⟩
              rw [beq_eq_false_iff_ne]
              intro e
              refine h92 ⟨h, UInt8.toNat_inj.1 ?_⟩
              rw [hc]
              show (s[k]'hlt).toNat = 92
              omega
          clear he h92 hne hbk hc
          rcases hq5 with hq5 | ⟨hq5, hq6⟩
          all_goals
            go_wp2
            go_round
            case rel => exact ⟨k + 1, by omega, by go_num, HH⟩
            case measure => simp [intOf]; omega
    · have hi1 : ¬ (k : Int) < (s.size : Int) := by omega
      have HH : Hid (endGo n (by_ d) false 0 (bys s) = -1) := Lib.hid (by rw [H.out, List.drop_eq_nil_of_le (by rw [HBL.out]; omega), endGo_end])
      go_wp2
      go_ret
      exact ⟨by rw [HH.out]; rfl, rfl⟩
theorem end_any (n : Int) (s : ByteArray) (hsz : s.size ≤ 100000) (d : Nat) (hd : d < 256) : Calls Tryd.prog 16 #[.int .i64 n, .string s, .int .u8 (d : Int)] w fun e w' => e = .returned (.int .i64 (endZ n (bys s) (by_ d))) ∧ w' = w := by
  cases hn : styleZ n with
  | false => exact end_any_no n s d hn
  | true =>
    have h : 1 ≤ n ∧ n ≤ 4 := of_decide_eq_true hn
    obtain ⟨k, rfl⟩ : ∃ k : Nat, n = k := ⟨n.toNat, by omega⟩
    have h2 : endZ (k : Int) (bys s) (by_ d) = endGo k (by_ d) false 0 (bys s) := by unfold endZ; rw [hn]; rfl
    rw [h2]
    exact end_any_yes k (by omega) (by omega) s hsz d hd
end

end Go.Proofs.YtkicjbmljbfojaaDoor
