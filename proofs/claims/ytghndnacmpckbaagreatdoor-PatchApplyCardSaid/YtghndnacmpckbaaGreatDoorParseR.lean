/- The reference's Parse. -/
import Derived.Test.YtghndnacmpckbaaGreatDoorParseP
namespace Go.Proofs.YtghndnacmpckbaaGreatDoor
open Go.RowKit
set_option maxRecDepth 100000

theorem bysp_at {s : ByteArray} {q : Nat} (h : q < s.size) : (bys s)[q]'h = s[q] := rfl
theorem wrapA (v c : Nat) (h1 : 48 ≤ c) (h2 : c ≤ 57) : IntKind.u64.wrap (IntKind.u64.wrap (16 * (v : Int)) + ((c : Int) - 48)) = (((16 * v + (c - 48)) % 18446744073709551616 : Nat) : Int) := by
  simp only [IntKind.wrap, IntKind.signed, IntKind.bits, Bool.false_and, Bool.false_eq_true, if_false]
  omega
theorem wrapB (v c : Nat) (h1 : 97 ≤ c) (h2 : c ≤ 102) : IntKind.u64.wrap (IntKind.u64.wrap (IntKind.u64.wrap (16 * (v : Int)) + ((c : Int) - 97)) + 10) = (((16 * v + (c - 87)) % 18446744073709551616 : Nat) : Int) := by
  simp only [IntKind.wrap, IntKind.signed, IntKind.bits, Bool.false_and, Bool.false_eq_true, if_false]
  omega
theorem noWrap {s : ByteArray} {q v d : Nat} (h : RefAt s q v) (hd : d < 16) : q < 16 → (16 * v + d) % 18446744073709551616 = 16 * v + d := by
  intro hq
  obtain ⟨h1, _⟩ := h (by omega)
  have h2 : 16 ^ q ≤ 16 ^ 15 := Nat.pow_le_pow_right (by omega) (by omega)
  have h3 : (16 : Nat) ^ 15 = 1152921504606846976 := by decide
  exact Nat.mod_eq_of_lt (by omega)
section
variable {w : World}
set_option maxHeartbeats 1600000 in
theorem refParse_any (s : ByteArray) (hs : s.size ≤ 1000000) :
    Calls Tryz.prog 56 #[.string s] w fun e w' => ∃ a b : Nat, e = .returned (.tuple #[.int .u64 a, .int .i64 b]) ∧ ParseOk s (a, b) ∧ Ext w w' := by
  go_enter Tryz.func56, Tryz.ntmps56
  go_wp2
  go_loopw [4, 5] (fun u i wr => ∃ q v : Nat, q ≤ s.size ∧ v < 18446744073709551616 ∧ u = .int .u64 v ∧ i = .int .i64 q ∧ Hid (RefAt s q v) ∧ Ext w wr) (fun _ i _ => s.size - (intOf i).toNat)
  case atStart => exact ⟨0, 0, Nat.zero_le _, by omega, rfl, rfl, Lib.hid (RefAt.start s), Ext.refl _⟩
  case round =>
    obtain ⟨q, v, hq, hv, rfl, rfl, HR, hE⟩ := hrel
    by_cases hlt : q < s.size
    · have hi1 : (q : Int) < (s.size : Int) := by omega
      have hc256 : s[q].toNat < 256 := UInt8.toNat_lt _
      by_cases h48 : 48 ≤ s[q].toNat ∧ s[q].toNat ≤ 57
      · obtain ⟨ha, hb⟩ := h48
        have hai : (48 : Int) ≤ (s[q].toNat : Int) := by omega
        have hbi : (s[q].toNat : Int) ≤ 57 := by omega
        have HD := Lib.hid (show dig16 ((bys s)[q]'hlt).toNat = some (s[q].toNat - 48) by rw [bysp_at hlt]; unfold dig16; rw [if_pos ⟨ha, hb⟩])
        have HW := Lib.hid (wrapA v s[q].toNat ha hb)
        have HN := Lib.hid (noWrap (d := s[q].toNat - 48) HR.out (by omega))
        go_wp2
        go_roundw
        case rel => exact ⟨q + 1, _, by omega, Nat.mod_lt _ (by omega), by rw [HW.out], by go_num, Lib.hid (HR.out.step hlt HD.out _ HN.out), hE⟩
        case measure => simp [intOf]; omega
      · by_cases h97 : 97 ≤ s[q].toNat ∧ s[q].toNat ≤ 102
        · obtain ⟨ha, hb⟩ := h97
          have hai : (97 : Int) ≤ (s[q].toNat : Int) := by omega
          have hai2 : (48 : Int) ≤ (s[q].toNat : Int) := by omega
          have hbi2 : ¬ (s[q].toNat : Int) ≤ 57 := by omega
          have hbi : (s[q].toNat : Int) ≤ 102 := by omega
          have HD := Lib.hid (show dig16 ((bys s)[q]'hlt).toNat = some (s[q].toNat - 87) by rw [bysp_at hlt]; unfold dig16; rw [if_neg h48, if_pos ⟨ha, hb⟩])
          have HW := Lib.hid (wrapB v s[q].toNat ha hb)
          have HN := Lib.hid (noWrap (d := s[q].toNat - 87) HR.out (by omega))
          clear h48
          go_wp2
          go_roundw
          case rel => exact ⟨q + 1, _, by omega, Nat.mod_lt _ (by omega), by rw [HW.out], by go_num, Lib.hid (HR.out.step hlt HD.out _ HN.out), hE⟩
          case measure => simp [intOf]; omega
        · have HD := Lib.hid (parse_bad hlt (show dig16 ((bys s)[q]'hlt).toNat = none by rw [bysp_at hlt]; unfold dig16; rw [if_neg h48, if_neg h97]))
          by_cases g1 : 48 ≤ s[q].toNat
          · have g1i : (48 : Int) ≤ (s[q].toNat : Int) := by omega
            have g2i : ¬ (s[q].toNat : Int) ≤ 57 := by omega
            by_cases g3 : 97 ≤ s[q].toNat
            · have g3i : (97 : Int) ≤ (s[q].toNat : Int) := by omega
              have g4i : ¬ (s[q].toNat : Int) ≤ 102 := by omega
              clear h48 h97
              go_wp2
              go_ret2
              exact ⟨0, 3, rfl, HD.out, hE⟩
            · have g3i : ¬ (97 : Int) ≤ (s[q].toNat : Int) := by omega
              clear h48 h97
              go_wp2
              go_ret2
              exact ⟨0, 3, rfl, HD.out, hE⟩
          · have g1i : ¬ (48 : Int) ≤ (s[q].toNat : Int) := by omega
            have g3i : ¬ (97 : Int) ≤ (s[q].toNat : Int) := by omega
            clear h48 h97
            go_wp2
            go_ret2
            exact ⟨0, 3, rfl, HD.out, hE⟩
    · have hi1 : ¬ (q : Int) < (s.size : Int) := by omega
      have hqs : q = s.size := by omega
      by_cases h16 : s.size = 16
      · have HD := Lib.hid ((by rw [hqs, h16] at HR; exact HR.out.done h16) : ParseOk s (v, 0))
        have h16i : (s.size : Int) = 16 := by omega
        go_wp2
        go_ret2
        exact ⟨v, 0, rfl, HD.out, hE⟩
      · have HD := Lib.hid (parse_size h16)
        have h16i : ¬ (s.size : Int) = 16 := by omega
        have h16b : ((s.size : Int) != 16) = true := bne_iff_ne.2 h16i
        go_wp2
        go_ret2
        exact ⟨0, 3, rfl, HD.out, hE⟩
end
end Go.Proofs.YtghndnacmpckbaaGreatDoor
