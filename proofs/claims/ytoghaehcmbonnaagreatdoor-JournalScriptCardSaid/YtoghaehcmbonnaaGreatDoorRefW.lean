/- The reference's Int, String, Strings. -/
import Derived.Test.YtoghaehcmbonnaaGreatDoorPackW
namespace Go.Proofs.YtoghaehcmbonnaaGreatDoor
open Go.RowKit
set_option maxRecDepth 100000

theorem mod_u8 (a : Nat) : ((a : Int) % 256) = ((UInt8.ofNat a).toNat : Int) := by
  rw [UInt8.toNat_ofNat']; omega

set_option maxHeartbeats 400000 in
theorem refInt (n : Int) {w : World} (h1 : -9223372036854775808 ≤ n) (h2 : n ≤ 9223372036854775807) :
    Calls Tryz.prog 46 #[.int .i64 n] w fun e w' => ∃ A m c, e = .returned (.slice A m c) ∧ OsB w' w.heap.size A m c (encI n) ∧ Ext w w' := by
  by_cases hn : n < 0
  ·
    have hu := neg_u64 n h1 hn
    go_enter Tryz.func46, Tryz.ntmps46
    go_wp2
    go_loopw [4, 5] (fun u lv wr => ∃ (f a : Nat) (d : List UInt8) (A : Option Addr) (m c : Nat), u = .int .u64 a ∧ lv = .slice A m c ∧ a < 256 ^ f ∧ OsB wr w.heap.size A m c d ∧ Ext w wr ∧ (le256 f a).reverse ++ d = (le256 8 n.natAbs).reverse ∧ m + f ≤ 8) (fun u _ _ => (intOf u).toNat)
    case atStart => exact ⟨8, n.natAbs, [], none, 0, 0, rfl, rfl, by omega, OsB.nil_, Ext.refl _, by simp, by simp⟩
    case round =>
      obtain ⟨f, a, d, A, m, c, rfl, rfl, ha, ho, hE, hd, hf⟩ := hrel
      have HD := Lib.hid hd; clear hd
      by_cases h0 : 0 < a
      · have hsz := hE.size_le
        have ha64 : a ≤ 18446744073709551615 := by
          have := Nat.pow_le_pow_right (show 0 < 256 by omega) (show f ≤ 8 by omega)
          omega
        go_wp2_with (first
          | (at_builtin; refine appB rfl _ _ rfl (OsB.new1 wr w.heap.size hsz (UInt8.ofNat a) (mod_u8 a)) rfl (ho.sl.ext ((Ext.refl wr).alloc _)) rfl (by omega) (by simp; omega) ?_; intro A' m' c' w1 ho1 hg1 hat1))
        go_roundw
        case rel =>
          obtain ⟨f, rfl⟩ : ∃ f', f = f' + 1 := by
            rcases f with _ | f
            · simp at ha; omega
            · exact ⟨f, rfl⟩
          refine ⟨f, a / 256, [UInt8.ofNat a] ++ d, A', m', c', by go_num, rfl, by rw [Nat.pow_succ] at ha; omega, ho1, (hE.alloc _).grown hg1 (by intro k hk; simp [ob] at hk; omega), ?_, by have h1 := ho1.len; have h2 := ho.len; simp at h1; omega⟩
          rw [← HD.out, le256, if_neg (by omega)]
          simp
        case measure => simp [intOf]; omega
      · have h00 : a = 0 := by omega
        subst h00
        have hlen : m = (le256 8 n.natAbs).length := by
          have := congrArg List.length HD.out
          rw [le256_zero, List.reverse_nil, List.nil_append, List.length_reverse] at this
          exact ho.len.trans this
        have HL := Lib.hid hlen; clear hlen
        have hsz := hE.size_le
        have hb : ((16 : Int) + (m : Int)) % 256 = ((UInt8.ofNat (16 + m)).toNat : Int) := by rw [UInt8.toNat_ofNat']; omega
        have HB := Lib.hid hb; clear hb
        go_wp2_with (first
          | (at_builtin; refine Hid.out ?_))
        show wpList _ _ _ _ _ _
        refine appB rfl _ _ rfl (OsB.new1 wr w.heap.size hsz (UInt8.ofNat (16 + m)) ?_) rfl (ho.sl.ext ((Ext.refl wr).alloc _)) rfl (by omega) (by simp; omega) ?_
        · have := HB.out
          rw [UInt8.toNat_ofNat'] at this ⊢
          omega
        · intro A' m' c' w1 ho1 hg1 hat1
          go_wp2
          go_ret
          have e1 : [UInt8.ofNat (16 + m)] ++ d = encI n := by
            have h9 := HD.out
            rw [le256_zero, List.reverse_nil, List.nil_append] at h9
            simp [encI, encAbs, ← h9, if_pos hn, HL.out]
          rw [e1] at ho1
          exact ⟨A', m', c', rfl, ho1, (hE.alloc _).grown hg1 (by intro k hk; simp [ob] at hk; omega)⟩
  ·
    have hu := pos_u64 n h2 (by omega)
    go_enter Tryz.func46, Tryz.ntmps46
    go_wp2
    go_loopw [4, 5] (fun u lv wr => ∃ (f a : Nat) (d : List UInt8) (A : Option Addr) (m c : Nat), u = .int .u64 a ∧ lv = .slice A m c ∧ a < 256 ^ f ∧ OsB wr w.heap.size A m c d ∧ Ext w wr ∧ (le256 f a).reverse ++ d = (le256 8 n.natAbs).reverse ∧ m + f ≤ 8) (fun u _ _ => (intOf u).toNat)
    case atStart => exact ⟨8, n.natAbs, [], none, 0, 0, rfl, rfl, by omega, OsB.nil_, Ext.refl _, by simp, by simp⟩
    case round =>
      obtain ⟨f, a, d, A, m, c, rfl, rfl, ha, ho, hE, hd, hf⟩ := hrel
      have HD := Lib.hid hd; clear hd
      by_cases h0 : 0 < a
      · have hsz := hE.size_le
        have ha64 : a ≤ 18446744073709551615 := by
          have := Nat.pow_le_pow_right (show 0 < 256 by omega) (show f ≤ 8 by omega)
          omega
        go_wp2_with (first
          | (at_builtin; refine appB rfl _ _ rfl (OsB.new1 wr w.heap.size hsz (UInt8.ofNat a) (mod_u8 a)) rfl (ho.sl.ext ((Ext.refl wr).alloc _)) rfl (by omega) (by simp; omega) ?_; intro A' m' c' w1 ho1 hg1 hat1))
        go_roundw
        case rel =>
          obtain ⟨f, rfl⟩ : ∃ f', f = f' + 1 := by
            rcases f with _ | f
            · simp at ha; omega
            · exact ⟨f, rfl⟩
          refine ⟨f, a / 256, [UInt8.ofNat a] ++ d, A', m', c', by go_num, rfl, by rw [Nat.pow_succ] at ha; omega, ho1, (hE.alloc _).grown hg1 (by intro k hk; simp [ob] at hk; omega), ?_, by have h1 := ho1.len; have h2 := ho.len; simp at h1; omega⟩
          rw [← HD.out, le256, if_neg (by omega)]
          simp
        case measure => simp [intOf]; omega
      · have h00 : a = 0 := by omega
        subst h00
        have hlen : m = (le256 8 n.natAbs).length := by
          have := congrArg List.length HD.out
          rw [le256_zero, List.reverse_nil, List.nil_append, List.length_reverse] at this
          exact ho.len.trans this
        have HL := Lib.hid hlen; clear hlen
        have hsz := hE.size_le
        have hb : ((0 : Int) + (m : Int)) % 256 = ((UInt8.ofNat (0 + m)).toNat : Int) := by rw [UInt8.toNat_ofNat']; omega
        have HB := Lib.hid hb; clear hb
        go_wp2_with (first
          | (at_builtin; refine Hid.out ?_))
        show wpList _ _ _ _ _ _
        refine appB rfl _ _ rfl (OsB.new1 wr w.heap.size hsz (UInt8.ofNat (0 + m)) ?_) rfl (ho.sl.ext ((Ext.refl wr).alloc _)) rfl (by omega) (by simp; omega) ?_
        · have := HB.out
          rw [UInt8.toNat_ofNat'] at this ⊢
          omega
        · intro A' m' c' w1 ho1 hg1 hat1
          go_wp2
          go_ret
          have e1 : [UInt8.ofNat (0 + m)] ++ d = encI n := by
            have h9 := HD.out
            rw [le256_zero, List.reverse_nil, List.nil_append] at h9
            simp [encI, encAbs, ← h9, if_neg (show ¬ n < 0 by omega), HL.out]
          rw [e1] at ho1
          exact ⟨A', m', c', rfl, ho1, (hE.alloc _).grown hg1 (by intro k hk; simp [ob] at hk; omega)⟩

set_option maxHeartbeats 400000 in
theorem refStr (s : ByteArray) {w : World} (hl : s.size ≤ 140737488355000) :
    Calls Tryz.prog 47 #[.string s] w fun e w' => ∃ A' m' c', e = .returned (.slice A' m' c') ∧ OsB w' w.heap.size A' m' c' (encS (bys s)) ∧ Ext w w' := by
  go_enter Tryz.func47, Tryz.ntmps47
  go_wp2_with (first
    | (go_at_call 46; refine (refInt _ (by omega) (by omega)).mono ?_; rintro e w1 ⟨A1, m1, c1, rfl, ho1, hE1⟩)
    | (at_builtin; refine appS rfl _ _ rfl ho1 rfl s rfl (by have h3 := ho1.len; have h5 := encI_length_le (s.size : Int); omega) hE1.size_le ?_; intro A2 m2 c2 w2 ho2 hg2 hat2))
  go_ret
  refine ⟨A2, m2, c2, rfl, ?_, hE1.grown hg2 ho1.ge⟩
  rw [encS, bys_len]
  exact ho2

end Go.Proofs.YtoghaehcmbonnaaGreatDoor
