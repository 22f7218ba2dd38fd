/- The reference's texts of digests; the document's example. -/
import Derived.Test.YtghndnacmpckbaaGreatDoorText
namespace Go.Proofs.YtghndnacmpckbaaGreatDoor
open Go.RowKit
set_option maxRecDepth 100000

theorem hexB16 (v : Nat) (hv : v < 16) (hb : v < ((⟨#[48, 49, 50, 51, 52, 53, 54, 55, 56, 57, 97, 98, 99, 100, 101, 102]⟩ : ByteArray)).size) : ((⟨#[48, 49, 50, 51, 52, 53, 54, 55, 56, 57, 97, 98, 99, 100, 101, 102]⟩ : ByteArray)[v]'hb).toNat = (hexD v).toNat := by
  have h : v = 0 ∨ v = 1 ∨ v = 2 ∨ v = 3 ∨ v = 4 ∨ v = 5 ∨ v = 6 ∨ v = 7 ∨ v = 8 ∨ v = 9 ∨ v = 10 ∨ v = 11 ∨ v = 12 ∨ v = 13 ∨ v = 14 ∨ v = 15 := by omega
  rcases h with rfl | rfl | rfl | rfl | rfl | rfl | rfl | rfl | rfl | rfl | rfl | rfl | rfl | rfl | rfl | rfl <;> rfl
theorem str_app3 (a b : List UInt8) : str a ++ str b = str (a ++ b) := by
  apply bys_inj
  simp [bys, str]
section
variable {w : World}
set_option maxHeartbeats 1600000 in
theorem ref3Text_any (n : Nat) (hn : n < 18446744073709551616) :
    Calls Tryz.prog 20 #[.int .u64 n] w fun e w' => e = .returned (.string (hexT n)) ∧ Ext w w' := by
  go_enter Tryz.func20, Tryz.ntmps20
  go_wp2
  go_loopw [0, 3, 4] (fun u s i wr => ∃ (q k : Nat) (t : ByteArray), q ≤ 16 ∧ k ≤ n ∧ i = .int .i64 q ∧ u = .int .u64 k ∧ k = n / 16 ^ q ∧ s = .string t ∧ t = str (lowH n q) ∧ Ext w wr) (fun _ _ i _ => 16 - (intOf i).toNat)
  case atStart => exact ⟨0, n, _, by omega, Nat.le_refl _, rfl, rfl, by simp, rfl, rfl, Ext.refl _⟩
  case round =>
    obtain ⟨q, k, t, hq, hkn, rfl, rfl, hk, rfl, ht, hE⟩ := hrel
    have HK := Lib.hid hk
    have HT := Lib.hid ht
    have hts : t.size ≤ 16 := by rw [ht, str_size, lowH_len]; exact hq
    clear hk ht
    by_cases hlt : q < 16
    · have hk16 : k % 16 < 16 := Nat.mod_lt _ (by omega)
      go_wp2
      rw [hexB16 (k % 16) hk16]
      have hs2 := SlB.new_ wr [hexD (k % 16)] (by simp) _ rfl (0, 0) 1 rfl 5
      have hE2 := hE.alloc (.cells (List.map bv [hexD (k % 16)]).toArray 5)
      have hconv := conv_str hs2 1
      have e0 : (List.map bv [hexD (k % 16)]).toArray = #[.int .u8 ((hexD (k % 16)).toNat : Int)] := rfl
      rw [e0] at hconv hE2
      rw [hconv]
      have hsz : (str [hexD (k % 16)]).size + t.size ≤ 9223372036854775807 := by rw [str_size]; simp; omega
      clear hconv hs2 e0
      go_wp2
      go_roundw
      case rel => exact ⟨q + 1, k / 16, _, by omega, by omega, by go_num, by go_num, by rw [HK.out, Nat.div_div_eq_div_mul, Nat.pow_succ], rfl, by rw [HT.out, str_app3, HK.out]; rfl, hE2⟩
      case measure => simp [intOf]; omega
    · have hfin : hexT n = t := by rw [HT.out]; unfold hexT; rw [show q = 16 by omega]
      have HF := Lib.hid hfin
      clear hfin
      go_wp2
      go_ret
      exact ⟨by rw [HF.out]; rfl, hE⟩

theorem awk_text : hexT 255 = ⟨#[48, 48, 48, 48, 48, 48, 48, 48, 48, 48, 48, 48, 48, 48, 102, 102]⟩ := by decide +kernel
end
end Go.Proofs.YtghndnacmpckbaaGreatDoor
