/- The reference's eight and key. -/
import Derived.Test.YtoghaehcmbonnaaGreatDoorJrnE
import Derived.Test.YtoghaehcmbonnaaGreatDoorRStrs
import Derived.Test.YtoghaehcmbonnaaGreatDoorDigP
namespace Go.Proofs.YtoghaehcmbonnaaGreatDoor
open Go.RowKit
set_option maxRecDepth 100000
attribute [local go_sem] ext_refl_t ext_alloc_t ext_drew_t ext_drewN_t ext_alloc2_t ext_alloc3_t ext_alloc4_t ext_alloc5_t ext_alloc6_t ext_alloc7_t ext_alloc8_t ext_alloc1d_t ext_alloc2d_t ext_alloc3d_t ext_alloc4d_t
theorem ofEight_lt (l : List UInt8) : ofEight l < 256 ^ l.length := by
  induction l with
  | nil => exact Nat.one_pos
  | cons b t ih =>
    have h := b.toNat_lt
    rw [ofEight, List.length_cons, Nat.pow_succ]
    omega
section
variable {w : World}
/- key of bytes that end in eight. -/
set_option maxHeartbeats 1600000 in
theorem rkey_any {A : Option Addr} {m : Nat} (c : Nat) {l : List UInt8} {n : Nat} (hs : SlB w A m l) (h8 : 8 ≤ l.length) (hm : m ≤ 100000000) (hl : l.drop (l.length - 8) = eightL n) (hn : n < 18446744073709551616) :
    Calls Tryz.prog 26 #[.slice A m c] w fun e w' => e = .returned (.int .u64 (n : Int)) ∧ Ext w w' := by
  have HL := Lib.hid hs.len
  have hm8 : 8 ≤ m := by rw [HL.out]; exact h8
  have HV : Hid (∀ i, i < 8 → ofEight (l.drop (m - i)) ≤ 72057594037927935) := fun i hi => by
    have h1 := ofEight_lt (l.drop (m - i))
    have h2 : (l.drop (m - i)).length = i := by rw [List.length_drop]; have := HL.out; omega
    rw [h2] at h1
    have h3 : 256 ^ i ≤ 256 ^ 7 := Nat.pow_le_pow_right (by omega) (by omega)
    have h4 : (256 : Nat) ^ 7 = 72057594037927936 := by decide
    omega
  have HD : Hid (ofEight (l.drop (m - 8)) = n) := by show _ = _; rw [HL.out, hl]; exact ofEight_eight hn
  have HST : Hid (∀ i (hi : i < 8), ofEight (l.drop (m - (i + 1))) = (l[m - (i + 1)]'(by have := HL.out; omega)).toNat + 256 * ofEight (l.drop (m - i))) := fun i hi => by
    have hlt : m - (i + 1) < l.length := by have := HL.out; omega
    rw [List.drop_eq_getElem_cons hlt, ofEight, show m - (i + 1) + 1 = m - i by omega]
  clear h8 hl
  go_enter Tryz.func26, Tryz.ntmps26
  go_wp2
  go_loopw [3, 4] (fun v i wr => ∃ q : Nat, q ≤ 8 ∧ i = .int .i64 ((m : Int) - 1 - q) ∧ v = .int .u64 (ofEight (l.drop (m - q)) : Nat) ∧ Ext w wr) (fun _ i _ => (intOf i + 1).toNat)
  case atStart => exact ⟨0, Nat.zero_le _, by simp, by rw [Nat.sub_zero, List.drop_eq_nil_of_le (by rw [HL.out]; exact Nat.le_refl _)]; rfl, Ext.refl _⟩
  case round =>
    obtain ⟨q, hq, rfl, rfl, hE⟩ := hrel
    by_cases hlt : q < 8
    · obtain ⟨p, hp⟩ : ∃ p : Nat, p + 1 + q = m := ⟨m - 1 - q, by omega⟩
      obtain ⟨bq, off, rfl, _, hc⟩ := (hs.ext hE).at_ (show 0 < m by omega)
      have hpl : p < l.length := by rw [← HL.out]; omega
      have h1 := hc p hpl
      have hpi : (m : Int) - 1 - (q : Int) = (p : Int) := by omega
      have hps : m - (q + 1) = p := by omega
      have h2 := HST.out q hlt
      obtain ⟨v, hv⟩ : ∃ v, v = ofEight (l.drop (m - q)) := ⟨_, rfl⟩
      have hvb : (v : Int) ≤ 72057594037927935 := by have := HV.out q hlt; rw [← hv] at this; omega
      obtain ⟨b, hb⟩ : ∃ b, b = l[p] := ⟨_, rfl⟩
      have h3 : ofEight (l.drop (m - (q + 1))) = b.toNat + 256 * v := by
        rw [h2, hv, hb]
        congr 2
        simp only [hps]
      have hb8 := b.toNat_lt
      rw [← hb] at h1
      rw [← hv, hpi]
      have hi1 : (m : Int) - 8 ≤ (p : Int) := by omega
      have hi2 : (p : Int) < (m : Int) := by omega
      have H3 : Hid ((ofEight (l.drop (m - (q + 1))) : Int) = 256 * (v : Int) + (b.toNat : Int)) := by show _ = _; rw [h3]; omega
      have HP1 : Hid ((m : Int) - 1 - ((q + 1 : Nat) : Int) = (p : Int) - 1) := by show _ = _; omega
      have hv0 : 0 ≤ (v : Int) := by omega
      clear hc h2 h3 hv hb hpi hps hpl hp
      go_wp2
      go_roundw
      case rel => exact ⟨q + 1, by omega, by rw [HP1.out], by rw [H3.out], hE⟩
      case measure => simp [intOf]
    · obtain rfl : q = 8 := by omega
      have hi1 : ¬ (m : Int) - 8 ≤ (m : Int) - 1 - (8 : Nat) := by omega
      have hi2 : ¬ (m : Int) - 8 ≤ (m : Int) - 1 - 8 := by omega
      rw [HD.out]
      go_wp2
      go_ret
      exact ⟨rfl, hE⟩
end
theorem padL_cons (i : Nat) : ∀ n, padL (i + 1) n = UInt8.ofNat (48 + n / 10 ^ i % 10) :: padL i n := by
  induction i with
  | zero => intro n; simp [padL]
  | succ i ih =>
    intro n
    rw [padL, ih (n / 10), padL, Nat.div_div_eq_div_mul, List.cons_append, Nat.pow_succ, Nat.mul_comm 10]
def ten : ByteArray := ⟨#[48, 49, 50, 51, 52, 53, 54, 55, 56, 57]⟩
theorem ten_at (d : Nat) (hd : d < 10) : (ten.extract d 10).extract 0 1 = str [UInt8.ofNat (48 + d)] := by
  have : d = 0 ∨ d = 1 ∨ d = 2 ∨ d = 3 ∨ d = 4 ∨ d = 5 ∨ d = 6 ∨ d = 7 ∨ d = 8 ∨ d = 9 := by omega
  rcases this with rfl | rfl | rfl | rfl | rfl | rfl | rfl | rfl | rfl | rfl <;> rfl
theorem str_consJ (b : UInt8) (l : List UInt8) : str [b] ++ str l = str (b :: l) := by
  have h : bys (str [b] ++ str l) = b :: l := by rw [bys_appJ, bys_str, bys_str]; rfl
  have h2 := congrArg str h
  rwa [str_bys] at h2
section
variable {w : World}
set_option maxHeartbeats 1600000 in
theorem reight_any (n : Nat) (hn : n < 100000000) :
    Calls Tryz.prog 48 #[.int .i64 (n : Int)] w fun e w' => e = .returned (.string (str (eight8 n))) ∧ Ext w w' := by
  have HN := Lib.hid hn
  clear hn
  go_enter Tryz.func48, Tryz.ntmps48
  go_wp2
  go_loopw [0, 3, 4] (fun a s i wr => ∃ (q v : Nat) (r : ByteArray), q ≤ 8 ∧ a = .int .i64 v ∧ i = .int .i64 q ∧ s = .string r ∧ Hid (v = n / 10 ^ q) ∧ Hid (r = str (padL q n)) ∧ v ≤ 100000000 ∧ r.size ≤ 8 ∧ Ext w wr) (fun _ _ i _ => 8 - (intOf i).toNat)
  case atStart => exact ⟨0, n, ⟨#[]⟩, Nat.zero_le _, rfl, rfl, rfl, by show n = n / 10 ^ 0; simp, rfl, by have := HN.out; omega, Nat.zero_le _, Ext.refl _⟩
  case round =>
    obtain ⟨q, v, r, hq, rfl, rfl, rfl, HV, HR, hv, hr, hE⟩ := hrel
    by_cases hlt : q < 8
    · obtain ⟨d, hd⟩ : ∃ d, d = v % 10 := ⟨_, rfl⟩
      have hd10 : d < 10 := by omega
      have r1 : ((v : Int).tmod 10) = (d : Int) := by rw [hd, Int.tmod_eq_emod_of_nonneg (by omega)]; rfl
      have r2 : ((v : Int) % 10) = (d : Int) := by rw [hd]; rfl
      obtain ⟨u, hu⟩ : ∃ u, u = v / 10 := ⟨_, rfl⟩
      have r3 : (v : Int).tdiv 10 = (u : Int) := by rw [hu]; exact (Int.ofNat_tdiv v 10).symm
      have hub : u ≤ 10000000 := by omega
      have HU := Lib.hid hu
      clear hu
      have hq0 : 0 ≤ (v : Int) := by omega
      have hq1 : (v : Int) ≤ 9223372036854775807 := by omega
      have HTEN := Lib.hid (ten_at d hd10)
      have hi1 : (q : Int) < 8 := by omega
      have HP : Hid (padL (q + 1) n = UInt8.ofNat (48 + d) :: padL q n) := by show _ = _; rw [padL_cons, ← HV.out, hd]
      have HV2 : Hid (u = n / 10 ^ (q + 1)) := by show _ = _; rw [HU.out, HV.out, Nat.div_div_eq_div_mul, Nat.pow_succ]
      have hd9 : (d : Int) ≤ 10 := by omega
      clear hd
      obtain ⟨t1, ht1⟩ : ∃ t1, t1 = ten.extract d 10 := ⟨_, rfl⟩
      have hz1 : t1.size = 10 - d := by rw [ht1, ByteArray.size_extract]; show min 10 10 - d = 10 - d; rfl
      have q1 : ∀ W, (Instr.slice 9 (.string ⟨#[48, 49, 50, 51, 52, 53, 54, 55, 56, 57]⟩) (some (.int .i64 (d : Int))) none none).run Tryz.prog W = .ok (.string t1) W := fun W => by
        have h := run_slice_string_l (P := Tryz.prog) W 9 ten Tryz.underlying9 .i64 (d : Int) (by omega) (by show (d : Int) ≤ (10 : Nat); omega)
        rw [Int.toNat_natCast] at h
        rw [ht1]
        exact h
      obtain ⟨t2, ht2⟩ : ∃ t2, t2 = t1.extract 0 1 := ⟨_, rfl⟩
      have q2 : ∀ W, (Instr.slice 9 (.string t1) none (some (.int .i64 1)) none).run Tryz.prog W = .ok (.string t2) W := fun W => by
        rw [ht2]
        exact run_slice_string_h (P := Tryz.prog) W 9 t1 Tryz.underlying9 .i64 1 (by omega) (by rw [hz1]; omega)
      have ht3 : t2 = str [UInt8.ofNat (48 + d)] := by rw [ht2, ht1]; exact HTEN.out
      have hz2 : t2.size = 1 := by rw [ht3, str_size]; rfl
      have hcat : t2.size + r.size ≤ 9223372036854775807 := by omega
      have hcat2 : ¬ 9223372036854775807 < t2.size + r.size := by omega
      have HR2 : Hid (t2 ++ r = str (padL (q + 1) n)) := by show _ = _; rw [HP.out, ht3, HR.out]; exact str_consJ _ _
      have hsz : (t2 ++ r).size ≤ 8 := by rw [HR2.out, str_size, padL_length]; omega
      have HSZ := Lib.hid hsz
      clear ht1 ht2 ht3 hz1 hz2 hsz
      go_wp2
      go_roundw
      case rel => exact ⟨q + 1, u, t2 ++ r, by omega, rfl, by go_num, rfl, HV2, HR2, by omega, HSZ.out, hE⟩
      case measure => simp [intOf]; omega
    · obtain rfl : q = 8 := by omega
      go_wp2
      go_ret
      exact ⟨by rw [HR.out]; rfl, hE⟩
end
end Go.Proofs.YtoghaehcmbonnaaGreatDoor
