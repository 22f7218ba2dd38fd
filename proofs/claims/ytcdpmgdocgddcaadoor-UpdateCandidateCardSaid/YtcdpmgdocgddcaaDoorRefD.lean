/- The reference's words, distance and similarity: what they compute. -/
import Derived.Test.YtcdpmgdocgddcaaDoorUpX
namespace Go.Proofs.YtcdpmgdocgddcaaDoor
open Go.RowKit
set_option maxRecDepth 100000
attribute [local go_sem] ext_refl_t ext_alloc_t ext_drew_t ext_drewN_t ext_alloc2_t ext_alloc3_t ext_alloc4_t ext_alloc5_t ext_alloc6_t ext_alloc7_t ext_alloc8_t ext_alloc1d_t ext_alloc2d_t ext_alloc3d_t ext_alloc4d_t
/-- The kind of a byte. -/
def kindN (z : Nat) : Nat := if z = 32 ∨ z = 9 ∨ z = 10 then 0 else if (97 ≤ z ∧ z ≤ 122) ∨ (65 ≤ z ∧ z ≤ 90) ∨ (48 ≤ z ∧ z ≤ 57) ∨ 128 ≤ z then 1 else 2
theorem kindN_0 {z : Nat} {b : UInt8} (hz : z = b.toNat) (h : spB b = true) : kindN z = 0 := by
  rw [spB_of z b hz] at h
  unfold kindN
  rw [if_pos (of_decide_eq_true h)]
theorem kindN_1 {z : Nat} {b : UInt8} (hz : z = b.toNat) (h : spB b = false) (hp : ptB b = true) : kindN z = 1 := by
  rw [spB_of z b hz] at h
  rw [ptB_of z b hz] at hp
  unfold kindN
  rw [if_neg (of_decide_eq_false h), if_pos (of_decide_eq_true hp)]
theorem kindN_2 {z : Nat} {b : UInt8} (hz : z = b.toNat) (h : spB b = false) (hp : ptB b = false) : kindN z = 2 := by
  rw [spB_of z b hz] at h
  rw [ptB_of z b hz] at hp
  unfold kindN
  rw [if_neg (of_decide_eq_false h), if_neg (of_decide_eq_false hp)]
/-- A byte that is no part of a word. -/
theorem kindN_ne {z : Nat} {b : UInt8} (hz : z = b.toNat) (hp : ptB b = false) : ((kindN z : Int) == 1) = false ∧ kindN z ≤ 2 := by
  rw [ptB_of z b hz] at hp
  unfold kindN
  split
  · exact ⟨rfl, by omega⟩
  · rw [if_neg (of_decide_eq_false hp)]; exact ⟨rfl, by omega⟩
theorem kindN_yes {z : Nat} {b : UInt8} (hz : z = b.toNat) (hp : ptB b = true) : kindN z = 1 := by
  rw [ptB_of z b hz] at hp
  have h := of_decide_eq_true hp
  unfold kindN
  rw [if_neg (by omega), if_pos h]
section
variable {w : World}
set_option maxHeartbeats 6400000 in
theorem kind_any (z : Nat) (hlt : z < 256) : Calls Tryd.prog 65 #[.int .u8 (z : Int)] w fun e w' => e = .returned (.int .i64 (kindN z : Nat)) ∧ w = w' := by
  rcases (by omega : z ≤ 8 ∨ (9 ≤ z ∧ z ≤ 9) ∨ (10 ≤ z ∧ z ≤ 10) ∨ (11 ≤ z ∧ z ≤ 31) ∨ (32 ≤ z ∧ z ≤ 32) ∨ (33 ≤ z ∧ z ≤ 47) ∨ (48 ≤ z ∧ z ≤ 57) ∨ (58 ≤ z ∧ z ≤ 64) ∨ (65 ≤ z ∧ z ≤ 90) ∨ (91 ≤ z ∧ z ≤ 96) ∨ (97 ≤ z ∧ z ≤ 122) ∨ (123 ≤ z ∧ z ≤ 127) ∨ 128 ≤ z) with h | h | h | h | h | h | h | h | h | h | h | h | h
  · have i1 : (0 : Int) ≤ (z : Int) := by omega
    have i2 : (z : Int) ≤ 8 := by omega
    have e1 : ((z : Int) == 32) = decide (z = 32) := by rw [Bool.eq_iff_iff]; simp; omega
    have e2 : ((z : Int) == 9) = decide (z = 9) := by rw [Bool.eq_iff_iff]; simp; omega
    have e3 : ((z : Int) == 10) = decide (z = 10) := by rw [Bool.eq_iff_iff]; simp; omega
    first | rw [decide_eq_true (show z = 32 by omega)] at e1 | rw [decide_eq_false (show ¬ z = 32 by omega)] at e1
    first | rw [decide_eq_true (show z = 9 by omega)] at e2 | rw [decide_eq_false (show ¬ z = 9 by omega)] at e2
    first | rw [decide_eq_true (show z = 10 by omega)] at e3 | rw [decide_eq_false (show ¬ z = 10 by omega)] at e3
    have hk : kindN z = 2 := by
      unfold kindN
      split
      · omega
      · split <;> omega
    rw [hk]
    clear h hk
    go_enter Tryd.func65, Tryd.ntmps65
    go_wp2
    go_ret
    exact ⟨by simp <;> omega, rfl⟩
  · have i1 : (9 : Int) ≤ (z : Int) := by omega
    have i2 : (z : Int) ≤ 9 := by omega
    have e1 : ((z : Int) == 32) = decide (z = 32) := by rw [Bool.eq_iff_iff]; simp; omega
    have e2 : ((z : Int) == 9) = decide (z = 9) := by rw [Bool.eq_iff_iff]; simp; omega
    have e3 : ((z : Int) == 10) = decide (z = 10) := by rw [Bool.eq_iff_iff]; simp; omega
    first | rw [decide_eq_true (show z = 32 by omega)] at e1 | rw [decide_eq_false (show ¬ z = 32 by omega)] at e1
    first | rw [decide_eq_true (show z = 9 by omega)] at e2 | rw [decide_eq_false (show ¬ z = 9 by omega)] at e2
    first | rw [decide_eq_true (show z = 10 by omega)] at e3 | rw [decide_eq_false (show ¬ z = 10 by omega)] at e3
    have hk : kindN z = 0 := by
      unfold kindN
      split
      · omega
      · split <;> omega
    rw [hk]
    clear h hk
    go_enter Tryd.func65, Tryd.ntmps65
    go_wp2
    go_ret
    exact ⟨by simp <;> omega, rfl⟩
  · have i1 : (10 : Int) ≤ (z : Int) := by omega
    have i2 : (z : Int) ≤ 10 := by omega
    have e1 : ((z : Int) == 32) = decide (z = 32) := by rw [Bool.eq_iff_iff]; simp; omega
    have e2 : ((z : Int) == 9) = decide (z = 9) := by rw [Bool.eq_iff_iff]; simp; omega
    have e3 : ((z : Int) == 10) = decide (z = 10) := by rw [Bool.eq_iff_iff]; simp; omega
    first | rw [decide_eq_true (show z = 32 by omega)] at e1 | rw [decide_eq_false (show ¬ z = 32 by omega)] at e1
    first | rw [decide_eq_true (show z = 9 by omega)] at e2 | rw [decide_eq_false (show ¬ z = 9 by omega)] at e2
    first | rw [decide_eq_true (show z = 10 by omega)] at e3 | rw [decide_eq_false (show ¬ z = 10 by omega)] at e3
    have hk : kindN z = 0 := by
      unfold kindN
      split
      · omega
      · split <;> omega
    rw [hk]
    clear h hk
    go_enter Tryd.func65, Tryd.ntmps65
    go_wp2
    go_ret
    exact ⟨by simp <;> omega, rfl⟩
  · have i1 : (11 : Int) ≤ (z : Int) := by omega
    have i2 : (z : Int) ≤ 31 := by omega
    have e1 : ((z : Int) == 32) = decide (z = 32) := by rw [Bool.eq_iff_iff]; simp; omega
    have e2 : ((z : Int) == 9) = decide (z = 9) := by rw [Bool.eq_iff_iff]; simp; omega
    have e3 : ((z : Int) == 10) = decide (z = 10) := by rw [Bool.eq_iff_iff]; simp; omega
    first | rw [decide_eq_true (show z = 32 by omega)] at e1 | rw [decide_eq_false (show ¬ z = 32 by omega)] at e1
    first | rw [decide_eq_true (show z = 9 by omega)] at e2 | rw [decide_eq_false (show ¬ z = 9 by omega)] at e2
    first | rw [decide_eq_true (show z = 10 by omega)] at e3 | rw [decide_eq_false (show ¬ z = 10 by omega)] at e3
    have hk : kindN z = 2 := by
      unfold kindN
      split
      · omega
      · split <;> omega
    rw [hk]
    clear h hk
    go_enter Tryd.func65, Tryd.ntmps65
    go_wp2
    go_ret
    exact ⟨by simp <;> omega, rfl⟩
  · have i1 : (32 : Int) ≤ (z : Int) := by omega
    have i2 : (z : Int) ≤ 32 := by omega
    have e1 : ((z : Int) == 32) = decide (z = 32) := by rw [Bool.eq_iff_iff]; simp; omega
    have e2 : ((z : Int) == 9) = decide (z = 9) := by rw [Bool.eq_iff_iff]; simp; omega
    have e3 : ((z : Int) == 10) = decide (z = 10) := by rw [Bool.eq_iff_iff]; simp; omega
    first | rw [decide_eq_true (show z = 32 by omega)] at e1 | rw [decide_eq_false (show ¬ z = 32 by omega)] at e1
    first | rw [decide_eq_true (show z = 9 by omega)] at e2 | rw [decide_eq_false (show ¬ z = 9 by omega)] at e2
    first | rw [decide_eq_true (show z = 10 by omega)] at e3 | rw [decide_eq_false (show ¬ z = 10 by omega)] at e3
    have hk : kindN z = 0 := by
      unfold kindN
      split
      · omega
      · split <;> omega
    rw [hk]
    clear h hk
    go_enter Tryd.func65, Tryd.ntmps65
    go_wp2
    go_ret
    exact ⟨by simp <;> omega, rfl⟩
  · have i1 : (33 : Int) ≤ (z : Int) := by omega
    have i2 : (z : Int) ≤ 47 := by omega
    have e1 : ((z : Int) == 32) = decide (z = 32) := by rw [Bool.eq_iff_iff]; simp; omega
    have e2 : ((z : Int) == 9) = decide (z = 9) := by rw [Bool.eq_iff_iff]; simp; omega
    have e3 : ((z : Int) == 10) = decide (z = 10) := by rw [Bool.eq_iff_iff]; simp; omega
    first | rw [decide_eq_true (show z = 32 by omega)] at e1 | rw [decide_eq_false (show ¬ z = 32 by omega)] at e1
    first | rw [decide_eq_true (show z = 9 by omega)] at e2 | rw [decide_eq_false (show ¬ z = 9 by omega)] at e2
    first | rw [decide_eq_true (show z = 10 by omega)] at e3 | rw [decide_eq_false (show ¬ z = 10 by omega)] at e3
    have hk : kindN z = 2 := by
      unfold kindN
      split
      · omega
      · split <;> omega
    rw [hk]
    clear h hk
    go_enter Tryd.func65, Tryd.ntmps65
    go_wp2
    go_ret
    exact ⟨by simp <;> omega, rfl⟩
  · have i1 : (48 : Int) ≤ (z : Int) := by omega
    have i2 : (z : Int) ≤ 57 := by omega
    have e1 : ((z : Int) == 32) = decide (z = 32) := by rw [Bool.eq_iff_iff]; simp; omega
    have e2 : ((z : Int) == 9) = decide (z = 9) := by rw [Bool.eq_iff_iff]; simp; omega
    have e3 : ((z : Int) == 10) = decide (z = 10) := by rw [Bool.eq_iff_iff]; simp; omega
    first | rw [decide_eq_true (show z = 32 by omega)] at e1 | rw [decide_eq_false (show ¬ z = 32 by omega)] at e1
    first | rw [decide_eq_true (show z = 9 by omega)] at e2 | rw [decide_eq_false (show ¬ z = 9 by omega)] at e2
    first | rw [decide_eq_true (show z = 10 by omega)] at e3 | rw [decide_eq_false (show ¬ z = 10 by omega)] at e3
    have hk : kindN z = 1 := by
      unfold kindN
      split
      · omega
      · split <;> omega
    rw [hk]
    clear h hk
    go_enter Tryd.func65, Tryd.ntmps65
    go_wp2
    go_ret
    exact ⟨by simp <;> omega, rfl⟩
  · have i1 : (58 : Int) ≤ (z : Int) := by omega
    have i2 : (z : Int) ≤ 64 := by omega
    have e1 : ((z : Int) == 32) = decide (z = 32) := by rw [Bool.eq_iff_iff]; simp; omega
    have e2 : ((z : Int) == 9) = decide (z = 9) := by rw [Bool.eq_iff_iff]; simp; omega
    have e3 : ((z : Int) == 10) = decide (z = 10) := by rw [Bool.eq_iff_iff]; simp; omega
    first | rw [decide_eq_true (show z = 32 by omega)] at e1 | rw [decide_eq_false (show ¬ z = 32 by omega)] at e1
    first | rw [decide_eq_true (show z = 9 by omega)] at e2 | rw [decide_eq_false (show ¬ z = 9 by omega)] at e2
    first | rw [decide_eq_true (show z = 10 by omega)] at e3 | rw [decide_eq_false (show ¬ z = 10 by omega)] at e3
    have hk : kindN z = 2 := by
      unfold kindN
      split
      · omega
      · split <;> omega
    rw [hk]
    clear h hk
    go_enter Tryd.func65, Tryd.ntmps65
    go_wp2
    go_ret
    exact ⟨by simp <;> omega, rfl⟩
  · have i1 : (65 : Int) ≤ (z : Int) := by omega
    have i2 : (z : Int) ≤ 90 := by omega
    have e1 : ((z : Int) == 32) = decide (z = 32) := by rw [Bool.eq_iff_iff]; simp; omega
    have e2 : ((z : Int) == 9) = decide (z = 9) := by rw [Bool.eq_iff_iff]; simp; omega
    have e3 : ((z : Int) == 10) = decide (z = 10) := by rw [Bool.eq_iff_iff]; simp; omega
    first | rw [decide_eq_true (show z = 32 by omega)] at e1 | rw [decide_eq_false (show ¬ z = 32 by omega)] at e1
    first | rw [decide_eq_true (show z = 9 by omega)] at e2 | rw [decide_eq_false (show ¬ z = 9 by omega)] at e2
    first | rw [decide_eq_true (show z = 10 by omega)] at e3 | rw [decide_eq_false (show ¬ z = 10 by omega)] at e3
    have hk : kindN z = 1 := by
      unfold kindN
      split
      · omega
      · split <;> omega
    rw [hk]
    clear h hk
    go_enter Tryd.func65, Tryd.ntmps65
    go_wp2
    go_ret
    exact ⟨by simp <;> omega, rfl⟩
  · have i1 : (91 : Int) ≤ (z : Int) := by omega
    have i2 : (z : Int) ≤ 96 := by omega
    have e1 : ((z : Int) == 32) = decide (z = 32) := by rw [Bool.eq_iff_iff]; simp; omega
    have e2 : ((z : Int) == 9) = decide (z = 9) := by rw [Bool.eq_iff_iff]; simp; omega
    have e3 : ((z : Int) == 10) = decide (z = 10) := by rw [Bool.eq_iff_iff]; simp; omega
    first | rw [decide_eq_true (show z = 32 by omega)] at e1 | rw [decide_eq_false (show ¬ z = 32 by omega)] at e1
    first | rw [decide_eq_true (show z = 9 by omega)] at e2 | rw [decide_eq_false (show ¬ z = 9 by omega)] at e2
    first | rw [decide_eq_true (show z = 10 by omega)] at e3 | rw [decide_eq_false (show ¬ z = 10 by omega)] at e3
    have hk : kindN z = 2 := by
      unfold kindN
      split
      · omega
      · split <;> omega
    rw [hk]
    clear h hk
    go_enter Tryd.func65, Tryd.ntmps65
    go_wp2
    go_ret
    exact ⟨by simp <;> omega, rfl⟩
  · have i1 : (97 : Int) ≤ (z : Int) := by omega
    have i2 : (z : Int) ≤ 122 := by omega
    have e1 : ((z : Int) == 32) = decide (z = 32) := by rw [Bool.eq_iff_iff]; simp; omega
    have e2 : ((z : Int) == 9) = decide (z = 9) := by rw [Bool.eq_iff_iff]; simp; omega
    have e3 : ((z : Int) == 10) = decide (z = 10) := by rw [Bool.eq_iff_iff]; simp; omega
    first | rw [decide_eq_true (show z = 32 by omega)] at e1 | rw [decide_eq_false (show ¬ z = 32 by omega)] at e1
    first | rw [decide_eq_true (show z = 9 by omega)] at e2 | rw [decide_eq_false (show ¬ z = 9 by omega)] at e2
    first | rw [decide_eq_true (show z = 10 by omega)] at e3 | rw [decide_eq_false (show ¬ z = 10 by omega)] at e3
    have hk : kindN z = 1 := by
      unfold kindN
      split
      · omega
      · split <;> omega
    rw [hk]
    clear h hk
    go_enter Tryd.func65, Tryd.ntmps65
    go_wp2
    go_ret
    exact ⟨by simp <;> omega, rfl⟩
  · have i1 : (123 : Int) ≤ (z : Int) := by omega
    have i2 : (z : Int) ≤ 127 := by omega
    have e1 : ((z : Int) == 32) = decide (z = 32) := by rw [Bool.eq_iff_iff]; simp; omega
    have e2 : ((z : Int) == 9) = decide (z = 9) := by rw [Bool.eq_iff_iff]; simp; omega
    have e3 : ((z : Int) == 10) = decide (z = 10) := by rw [Bool.eq_iff_iff]; simp; omega
    first | rw [decide_eq_true (show z = 32 by omega)] at e1 | rw [decide_eq_false (show ¬ z = 32 by omega)] at e1
    first | rw [decide_eq_true (show z = 9 by omega)] at e2 | rw [decide_eq_false (show ¬ z = 9 by omega)] at e2
    first | rw [decide_eq_true (show z = 10 by omega)] at e3 | rw [decide_eq_false (show ¬ z = 10 by omega)] at e3
    have hk : kindN z = 2 := by
      unfold kindN
      split
      · omega
      · split <;> omega
    rw [hk]
    clear h hk
    go_enter Tryd.func65, Tryd.ntmps65
    go_wp2
    go_ret
    exact ⟨by simp <;> omega, rfl⟩
  · have i1 : (128 : Int) ≤ (z : Int) := by omega
    have i2 : (z : Int) ≤ 255 := by omega
    have e1 : ((z : Int) == 32) = decide (z = 32) := by rw [Bool.eq_iff_iff]; simp; omega
    have e2 : ((z : Int) == 9) = decide (z = 9) := by rw [Bool.eq_iff_iff]; simp; omega
    have e3 : ((z : Int) == 10) = decide (z = 10) := by rw [Bool.eq_iff_iff]; simp; omega
    first | rw [decide_eq_true (show z = 32 by omega)] at e1 | rw [decide_eq_false (show ¬ z = 32 by omega)] at e1
    first | rw [decide_eq_true (show z = 9 by omega)] at e2 | rw [decide_eq_false (show ¬ z = 9 by omega)] at e2
    first | rw [decide_eq_true (show z = 10 by omega)] at e3 | rw [decide_eq_false (show ¬ z = 10 by omega)] at e3
    have hk : kindN z = 1 := by
      unfold kindN
      split
      · omega
      · split <;> omega
    rw [hk]
    clear h hk
    go_enter Tryd.func65, Tryd.ntmps65
    go_wp2
    go_ret
    exact ⟨by simp <;> omega, rfl⟩
end
section
variable {w : World}
set_option maxHeartbeats 6400000 in
theorem rwords_any (s : ByteArray) (hs : s.size ≤ 1000000000000) : Calls Tryd.prog 42 #[.string s] w fun e w' => ∃ A m c, e = .returned (.slice A m c) ∧ OsC stC 9 1 w' w.heap.size A m c (wordsS s) ∧ Ext w w' := by
  obtain ⟨n, hn⟩ : ∃ n, n = s.size := ⟨_, rfl⟩
  have hbl := bys_len s
  rw [← hn] at hbl hs
  have HBL := Lib.hid hbl
  have HN := Lib.hid hn
  clear hbl hn
  go_enter Tryd.func42, Tryd.ntmps42
  go_wp2
  go_loopw [3, 4] (fun o i wr => ∃ (k : Nat) (A : Option Addr) (m c : Nat) (L : List ByteArray), k ≤ n ∧ m ≤ k ∧ i = .int .i64 k ∧ o = .slice A m c ∧ Hid (OsC stC 9 1 wr w.heap.size A m c L) ∧ Hid (wordsS s = L ++ (wordsL ((bys s).drop k)).map str) ∧ Hid (Ext w wr)) (fun _ i _ => n - (intOf i).toNat)
  case atStart => exact ⟨0, none, 0, 0, [], Nat.zero_le _, Nat.zero_le _, rfl, rfl, OsC.nil_ stC_len stC_one, rfl, Ext.refl _⟩
  case round =>
    obtain ⟨k, A, m, c, L, hk, hmk, rfl, rfl, HO, HW, HE⟩ := hrel
    by_cases hlt : k < n
    · have hks : k < s.size := by rw [← HN.out]; exact hlt
      have i1 : (k : Int) < (s.size : Int) := by omega
      obtain ⟨z, hz⟩ : ∃ z : Nat, s[k].toNat = z := ⟨_, rfl⟩
      have hkb : k < (bys s).length := by rw [HBL.out]; exact hlt
      have HZ : Hid (z = ((bys s)[k]).toNat) := hz.symm
      have hz256 : z < 256 := by rw [← hz]; exact UInt8.toNat_lt _
      have HDR : Hid ((bys s).drop k = (bys s)[k] :: (bys s).drop (k + 1)) := List.drop_eq_getElem_cons hkb
      have hkd := kind_any (w := wr) z hz256
      cases hsp : spB (bys s)[k] with
      | true =>
        have HW2 : Hid (wordsS s = L ++ (wordsL ((bys s).drop (k + 1))).map str) := by show _ = _; rw [HW.out, HDR.out, wordsL_sp hsp]
        rw [kindN_0 HZ.out hsp] at hkd
        clear hsp
        go_wp2
        go_loop [5] (fun i => i = .int .i64 ((k + 1 : Nat) : Int)) (fun _ => 0)
        case atStart => go_num
        case round =>
          subst hrel
          go_wp2_with (first
            | (go_at_call 65; refine Hid.out ?_))
          refine Hid.mk_ ((hkd).mono ?_)
          rintro e w2 ⟨rfl, rfl⟩
          go_wp2_with (first
            | (go_at_call 65; refine Hid.out ?_))
          refine Hid.mk_ ((hkd).mono ?_)
          rintro e w2 ⟨rfl, rfl⟩
          go_wp2
          go_roundw
          case rel => exact ⟨k + 1, A, m, c, L, by omega, by omega, by go_num, rfl, HO, HW2, HE⟩
          case measure => simp [intOf]; omega
      | false =>
        cases hp : ptB (bys s)[k] with
        | false =>
          obtain ⟨x, hx⟩ : ∃ x, s.extract k (k + 1) = x := ⟨_, rfl⟩
          have HX : Hid (x = str [(bys s)[k]]) := by
            show _ = _
            apply bys_inj
            rw [← hx, bys_extract, bys_str, List.take_succ_eq_append_getElem hkb, List.drop_append, List.length_take, Nat.min_eq_left (by omega)]
            simp
          have HW2 : Hid (wordsS s = (L ++ [x]) ++ (wordsL ((bys s).drop (k + 1))).map str) := by show _ = _; rw [HW.out, HDR.out, wordsL_one hsp hp, HX.out, List.append_assoc]; rfl
          rw [kindN_2 HZ.out hsp hp] at hkd
          clear hsp hp
          go_wp2
          go_loop [5] (fun i => i = .int .i64 ((k + 1 : Nat) : Int)) (fun _ => 0)
          case atStart => go_num
          case round =>
            subst hrel
            have i6 : k + 1 ≤ s.size := by omega
            have i7 : ((k + 1 : Nat) : Int) ≤ (s.size : Int) := by omega
            go_wp2_with (first
              | (go_at_call 65; refine Hid.out ?_))
            refine Hid.mk_ ((hkd).mono ?_)
            rintro e w2 ⟨rfl, rfl⟩
            go_wp2_with (first
              | (go_at_call 65; refine Hid.out ?_))
            refine Hid.mk_ ((hkd).mono ?_)
            rintro e w2 ⟨rfl, rfl⟩
            clear hkd hz
            have hE1 : Ext w (wr.alloc (Obj.cells #[.string x] 9)) := HE.out.alloc _
            have hsx : SlC stC 1 (wr.alloc (Obj.cells #[.string x] 9)) (some ⟨wr.heap.size, 0, none⟩) 1 [x] := SlC.new_ wr [x] stC_len (by simp) _ rfl (0, 0) 1 rfl _
            have ho1 := HO.out.ext ((Ext.refl wr).alloc (Obj.cells #[.string x] 9))
            go_wp2_with (first
              | (at_builtin; refine Hid.out ?_))
            refine Hid.mk_ ?_
            refine appC einfo_sw rfl _ _ rfl ho1 rfl hsx rfl (by omega) hE1.size_le ?_
            intro A7 m7 c7 w7 ho7 hg7 hN7
            have HE7 := Lib.hid (hE1.grown hg7 fun j hj => HO.out.ge j hj)
            have hm7 : m7 ≤ (k + 1) := by have h1 := ho7.len; have h2 := HO.out.len; rw [List.length_append, ← h2] at h1; simp at h1; omega
            have HO7 := Lib.hid ho7
            clear ho7 hg7 hN7 hsx ho1 hE1
            go_wp2
            go_roundw
            case rel => exact ⟨(k + 1), A7, m7, c7, L ++ [x], by omega, hm7, by go_num, rfl, HO7, HW2, HE7⟩
            case measure => simp [intOf]; omega
        | true =>
          rw [kindN_1 HZ.out hsp hp] at hkd
          have HS := Lib.hid hsp
          have HP := Lib.hid hp
          clear hsp hp
          go_wp2
          go_loop [5] (fun i => ∃ e : Nat, k < e ∧ e ≤ n ∧ i = .int .i64 e ∧ Hid (∀ j (hj : j < (bys s).length), k < j → j < e → ptB (bys s)[j] = true)) (fun i => n - (intOf i).toNat)
          case atStart => exact ⟨k + 1, by omega, by omega, by go_num, fun j _ h1 h2 => absurd h2 (by omega)⟩
          case round =>
            obtain ⟨e, hke, hen, rfl, HA⟩ := hrel
            have hfin : e ≤ n → (∀ h : e < (bys s).length, ptB (bys s)[e] = false) → Hid (wordsS s = (L ++ [s.extract k e]) ++ (wordsL ((bys s).drop e)).map str) := fun hen hstop => by
              have htw := tw_of (l := (bys s).drop (k + 1)) (n := e - (k + 1)) (fun j hj hjn => by rw [List.getElem_drop]; exact HA.out _ _ (by omega) (by omega)) (by rw [List.length_drop, HBL.out]; omega) (fun h => by
                have h9 : k + 1 + (e - (k + 1)) = e := by omega
                rw [List.getElem_drop]
                simp only [h9]
                exact hstop _)
              show _ = _
              have hxe : s.extract k e = str ((bys s)[k] :: ((bys s).drop (k + 1)).take (e - (k + 1))) := by
                apply bys_inj
                rw [bys_extract, bys_str, List.drop_take, HDR.out]
                have : e - k = (e - (k + 1)) + 1 := by omega
                rw [this, List.take_succ_cons]
              rw [HW.out, HDR.out, wordsL_pt HS.out HP.out, htw.1, htw.2, hxe, List.drop_drop, List.append_assoc]
              have : k + 1 + (e - (k + 1)) = e := by omega
              rw [this]
              rfl
            have i6 : e ≤ s.size := by rw [← HN.out]; exact hen
            have i7 : (e : Int) ≤ (s.size : Int) := by omega
            by_cases hen2 : e < n
            · have hes : e < s.size := by rw [← HN.out]; exact hen2
              have i5 : (e : Int) < (s.size : Int) := by omega
              obtain ⟨y, hy⟩ : ∃ y : Nat, s[e].toNat = y := ⟨_, rfl⟩
              have heb : e < (bys s).length := by rw [HBL.out]; exact hen2
              have HY : Hid (y = ((bys s)[e]).toNat) := hy.symm
              have hy256 : y < 256 := by rw [← hy]; exact UInt8.toNat_lt _
              have hky := kind_any (w := wr) y hy256
              cases hp : ptB (bys s)[e] with
              | true =>
                rw [kindN_yes HY.out hp] at hky
                have HA2 : Hid (∀ j (hj : j < (bys s).length), k < j → j < e + 1 → ptB (bys s)[j] = true) := fun j hj h1 h2 => by
                  rcases Nat.lt_or_ge j e with h3 | h3
                  · exact HA.out j hj h1 h3
                  · obtain rfl : j = e := by omega
                    exact hp
                clear hp hfin
                go_wp2_with (first
                  | (go_at_call 65; refine Hid.out ?_))
                refine Hid.mk_ ((hkd).mono ?_)
                rintro e' w2 ⟨rfl, rfl⟩
                go_wp2_with (first
                  | (go_at_call 65; refine Hid.out ?_))
                refine Hid.mk_ ((hky).mono ?_)
                rintro e' w2 ⟨rfl, rfl⟩
                clear hky
                go_wp2
                go_round
                case rel => exact ⟨e + 1, by omega, by omega, by go_num, HA2⟩
                case measure => simp [intOf]; omega
              | false =>
                have HW3 := hfin (by omega) fun _ => hp
                obtain ⟨v, hv⟩ : ∃ v, v = kindN y := ⟨_, rfl⟩
                have hv1 := (kindN_ne HY.out hp).1
                rw [← hv] at hv1 hky
                obtain ⟨x, hx⟩ : ∃ x, s.extract k e = x := ⟨_, rfl⟩
                rw [hx] at HW3
                have HW2 := HW3
                clear hp hfin HW3 hv
                go_wp2_with (first
                  | (go_at_call 65; refine Hid.out ?_))
                refine Hid.mk_ ((hkd).mono ?_)
                rintro e' w2 ⟨rfl, rfl⟩
                go_wp2_with (first
                  | (go_at_call 65; refine Hid.out ?_))
                refine Hid.mk_ ((hky).mono ?_)
                rintro e' w2 ⟨rfl, rfl⟩
                go_wp2_with (first
                  | (go_at_call 65; refine Hid.out ?_))
                refine Hid.mk_ ((hkd).mono ?_)
                rintro e' w2 ⟨rfl, rfl⟩
                clear hky hkd hy hz
                have hE1 : Ext w (wr.alloc (Obj.cells #[.string x] 9)) := HE.out.alloc _
                have hsx : SlC stC 1 (wr.alloc (Obj.cells #[.string x] 9)) (some ⟨wr.heap.size, 0, none⟩) 1 [x] := SlC.new_ wr [x] stC_len (by simp) _ rfl (0, 0) 1 rfl _
                have ho1 := HO.out.ext ((Ext.refl wr).alloc (Obj.cells #[.string x] 9))
                go_wp2_with (first
                  | (at_builtin; refine Hid.out ?_))
                refine Hid.mk_ ?_
                refine appC einfo_sw rfl _ _ rfl ho1 rfl hsx rfl (by omega) hE1.size_le ?_
                intro A7 m7 c7 w7 ho7 hg7 hN7
                have HE7 := Lib.hid (hE1.grown hg7 fun j hj => HO.out.ge j hj)
                have hm7 : m7 ≤ e := by have h1 := ho7.len; have h2 := HO.out.len; rw [List.length_append, ← h2] at h1; simp at h1; omega
                have HO7 := Lib.hid ho7
                clear ho7 hg7 hN7 hsx ho1 hE1
                go_wp2
                go_roundw
                case rel => exact ⟨e, A7, m7, c7, L ++ [x], by omega, hm7, by go_num, rfl, HO7, HW2, HE7⟩
                case measure => simp [intOf]; omega
            · have i5 : ¬ (e : Int) < (s.size : Int) := by have := HN.out; omega
              have HW3 := hfin hen fun h => absurd h (by rw [HBL.out]; exact hen2)
              obtain ⟨x, hx⟩ : ∃ x, s.extract k e = x := ⟨_, rfl⟩
              rw [hx] at HW3
              have HW2 := HW3
              clear hfin HW3
              go_wp2_with (first
                | (go_at_call 65; refine Hid.out ?_))
              refine Hid.mk_ ((hkd).mono ?_)
              rintro e' w2 ⟨rfl, rfl⟩
              go_wp2_with (first
                | (go_at_call 65; refine Hid.out ?_))
              refine Hid.mk_ ((hkd).mono ?_)
              rintro e' w2 ⟨rfl, rfl⟩
              clear hkd hz
              have hE1 : Ext w (wr.alloc (Obj.cells #[.string x] 9)) := HE.out.alloc _
              have hsx : SlC stC 1 (wr.alloc (Obj.cells #[.string x] 9)) (some ⟨wr.heap.size, 0, none⟩) 1 [x] := SlC.new_ wr [x] stC_len (by simp) _ rfl (0, 0) 1 rfl _
              have ho1 := HO.out.ext ((Ext.refl wr).alloc (Obj.cells #[.string x] 9))
              go_wp2_with (first
                | (at_builtin; refine Hid.out ?_))
              refine Hid.mk_ ?_
              refine appC einfo_sw rfl _ _ rfl ho1 rfl hsx rfl (by omega) hE1.size_le ?_
              intro A7 m7 c7 w7 ho7 hg7 hN7
              have HE7 := Lib.hid (hE1.grown hg7 fun j hj => HO.out.ge j hj)
              have hm7 : m7 ≤ e := by have h1 := ho7.len; have h2 := HO.out.len; rw [List.length_append, ← h2] at h1; simp at h1; omega
              have HO7 := Lib.hid ho7
              clear ho7 hg7 hN7 hsx ho1 hE1
              go_wp2
              go_roundw
              case rel => exact ⟨e, A7, m7, c7, L ++ [x], by omega, hm7, by go_num, rfl, HO7, HW2, HE7⟩
              case measure => simp [intOf]; omega
    · have i1 : ¬ (k : Int) < (s.size : Int) := by have := HN.out; omega
      have HWE : Hid (wordsS s = L) := by
        show _ = _
        rw [HW.out, List.drop_of_length_le (by rw [HBL.out]; omega)]
        exact List.append_nil _
      go_wp2
      go_ret
      exact ⟨A, m, c, rfl, by rw [HWE.out]; exact HO.out, HE.out⟩
end
end Go.Proofs.YtcdpmgdocgddcaaDoor
