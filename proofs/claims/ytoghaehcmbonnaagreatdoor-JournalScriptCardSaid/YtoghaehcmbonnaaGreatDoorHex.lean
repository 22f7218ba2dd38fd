/- Hexadecimal digits; strconv's formatBits at base 16. -/
import Derived.Test.YtoghaehcmbonnaaGreatDoorBytes
import Derived.Test.YtoghaehcmbonnaaGreatDoorMem
import Derived.Laws.BitsAllLaws
namespace Go.Proofs.YtoghaehcmbonnaaGreatDoor
open Go.RowKit
set_option maxRecDepth 100000

/-- The digit of a number below 16. -/
def hexD (v : Nat) : UInt8 := if v < 10 then UInt8.ofNat (48 + v) else UInt8.ofNat (87 + v)
/-- The last k hexadecimal digits of a number. -/
def lowH (n : Nat) : Nat → List UInt8
  | 0 => []
  | k + 1 => hexD (n / 16 ^ k % 16) :: lowH n k
theorem lowH_len (n k : Nat) : (lowH n k).length = k := by
  induction k with
  | zero => rfl
  | succ k ih => rw [lowH, List.length_cons, ih]
/-- One cell of Go's table of trailing zeros. -/
def TZ (w : World) : Prop := w.cell? ⟨6, 15, none⟩ = some (.int .u8 4)
theorem TZ.ext {w w' : World} (h : TZ w) (hE : Ext w w') : TZ w' := later hE h
section
variable {w : World}
set_option maxHeartbeats 400000 in
theorem tz16 (h : TZ w) : Calls Tryz.prog 121 #[.int .u64 16] w fun e w' => e = .returned (.int .i64 4) ∧ w' = w := by
  have b1 : bits BinOp.and IntKind.u64 16 (IntKind.u64.wrap (-16)) = 16 := by decide
  have b2 : IntKind.u64.wrap (16 * 285870213051353865) / 288230376151711744 = 15 := by decide
  unfold TZ at h
  go_enter Tryz.func121, Tryz.ntmps121
  go_wp2
  go_ret
  exact ⟨rfl, rfl⟩
theorem pow16 : Calls Tryz.prog 120 #[.int .i64 16] w fun e w' => e = .returned (.bool true) ∧ w' = w := by
  have b1 : bits BinOp.and IntKind.i64 16 15 = 0 := by decide
  go_enter Tryz.func120, Tryz.ntmps120
  go_wp2
  go_ret
  exact ⟨rfl, rfl⟩
theorem and15 (k : Nat) (hk : k < 18446744073709551616) : bits BinOp.and IntKind.u64 (k : Int) 15 = ((k % 16 : Nat) : Int) := by
  have h := u64_and_nat k 15 hk (by omega)
  have e : k &&& 15 = k % 16 := Nat.and_two_pow_sub_one_eq_mod k 4
  rw [e] at h
  exact h
theorem hexB (v : Nat) (hv : v < 16) (hb : v < ((⟨#[48, 49, 50, 51, 52, 53, 54, 55, 56, 57, 97, 98, 99, 100, 101, 102, 103, 104, 105, 106, 107, 108, 109, 110, 111, 112, 113, 114, 115, 116, 117, 118, 119, 120, 121, 122]⟩ : ByteArray)).size) : ((⟨#[48, 49, 50, 51, 52, 53, 54, 55, 56, 57, 97, 98, 99, 100, 101, 102, 103, 104, 105, 106, 107, 108, 109, 110, 111, 112, 113, 114, 115, 116, 117, 118, 119, 120, 121, 122]⟩ : ByteArray)[v]'hb).toNat = (hexD v).toNat := by
  have h : v = 0 ∨ v = 1 ∨ v = 2 ∨ v = 3 ∨ v = 4 ∨ v = 5 ∨ v = 6 ∨ v = 7 ∨ v = 8 ∨ v = 9 ∨ v = 10 ∨ v = 11 ∨ v = 12 ∨ v = 13 ∨ v = 14 ∨ v = 15 := by omega
  rcases h with rfl | rfl | rfl | rfl | rfl | rfl | rfl | rfl | rfl | rfl | rfl | rfl | rfl | rfl | rfl | rfl <;> rfl
theorem set_drop (cs : Array Value) (r : Nat) (v : Value) (hr : r < cs.size) : (cs.setIfInBounds r v).toList.drop r = v :: cs.toList.drop (r + 1) := by
  rw [Array.toList_setIfInBounds, List.drop_eq_getElem_cons (by simpa using hr), List.getElem_set_self, List.drop_set_of_lt (by omega)]
theorem q_le {n q : Nat} (hn : n < 18446744073709551616) (hq : q ≤ 15) (h : 16 ≤ n / 16 ^ q) : q + 1 ≤ 15 := by
  rcases Nat.lt_or_ge q 15 with h1 | h1
  · omega
  · obtain rfl : q = 15 := by omega
    have e : (16 : Nat) ^ 15 = 1152921504606846976 := by decide
    rw [e] at h
    omega
set_option maxHeartbeats 1600000 in
theorem formatBits_ex (n : Nat) (hn : n < 18446744073709551616) (hT : TZ w) :
    Calls Tryz.prog 112 #[.slice none 0 0, .int .u64 n, .int .i64 16, .bool false, .bool false] w fun e w' => ∃ q, e = .returned (.tuple #[.slice none 0 0, .string (str (lowH n (q + 1)))]) ∧ q ≤ 15 ∧ n / 16 ^ q < 16 ∧ Ext w w' ∧ Hid (0 < q → 16 ≤ n / 16 ^ (q - 1)) := by
  have hb := Blk.new w 165 Tryz.zeroCells165
  have hsz : Tryz.zeroCells165.size = 65 := by kernel_rfl
  have hE0 : Ext w (w.alloc (Obj.cells Tryz.zeroCells165 165)) := (Ext.refl w).alloc _
  have HSZ := Lib.hid hsz
  clear hsz
  go_enter Tryz.func112, Tryz.ntmps112
  go_wp2_with (first
    | (go_at_call 120; refine Hid.out ?_))
  refine Hid.mk_ ((pow16).mono ?_)
  rintro e w1 ⟨rfl, rfl⟩
  go_wp2_with (first
    | (go_at_call 121; refine Hid.out ?_))
  refine Hid.mk_ ((tz16 (hT.ext hE0)).mono ?_)
  rintro e w2 ⟨rfl, rfl⟩
  go_wp2
  obtain ⟨g, hg⟩ : ∃ g, g = w.heap.size := ⟨_, rfl⟩
  have hgw : w.heap.size ≤ g := by omega
  rw [← hg] at hb ⊢
  clear hg
  go_loopw [1, 13] (fun u i wr => ∃ (q p k : Nat) (cs : Array Value), q ≤ 15 ∧ p + q = 65 ∧ k ≤ n ∧ i = .int .i64 p ∧ u = .int .u64 k ∧ k = n / 16 ^ q ∧ Blk wr g 165 cs ∧ cs.size = 65 ∧ cs.toList.drop p = (lowH n q).map bv ∧ Ext w wr ∧ Hid (0 < q → 16 ≤ n / 16 ^ (q - 1))) (fun u _ _ => (intOf u).toNat)
  case atStart => exact ⟨0, 65, n, _, by omega, rfl, Nat.le_refl _, rfl, rfl, by simp, hb, HSZ.out, by rw [List.drop_eq_nil_of_le (by rw [Array.length_toList, HSZ.out]; omega)]; rfl, hE0, Lib.hid fun h => absurd h (by omega)⟩
  case round =>
    obtain ⟨q, p, k, cs, hq, hpq, hkn, rfl, rfl, hk, hB, hcs, hd, hE, HM⟩ := hrel
    have HK := Lib.hid hk
    have HCS := Lib.hid hcs
    have HD := Lib.hid hd
    have HPQ := Lib.hid hpq
    obtain ⟨r, rfl⟩ : ∃ r, p = r + 1 := ⟨p - 1, by omega⟩
    have hr : r < 65 := by omega
    have hc : wr.cell? ⟨g, r, none⟩ = some cs[r] := by rw [hB.cell r]; exact Array.getElem?_eq_getElem _
    obtain ⟨vr, hvr⟩ : ∃ vr, vr = cs[r] := ⟨_, rfl⟩
    rw [← hvr] at hc
    have hf := hB.frozen r
    clear hk hcs hd hpq hvr
    by_cases h16 : 16 ≤ k
    · have h16' : (16 : Int) ≤ (k : Int) := by omega
      have ha := and15 k (by omega)
      have hq1 := q_le hn hq (by rw [← HK.out]; exact h16)
      have HM2 : Hid (0 < q + 1 → 16 ≤ n / 16 ^ (q + 1 - 1)) := Lib.hid fun _ => by rw [Nat.add_sub_cancel, ← HK.out]; exact h16
      go_wp2
      go_roundw
      case rel =>
        refine ⟨q + 1, r, k / 16, cs.setIfInBounds r (.int .u8 ((hexD (k % 16)).toNat : Int)), hq1, by have := HPQ.out; omega, by omega, rfl, by go_num, by rw [HK.out, Nat.div_div_eq_div_mul, Nat.pow_succ], ?_, by rw [Array.size_setIfInBounds, HCS.out], ?_, hE.set_ hgw _, HM2⟩
        · rw [hexB _ (Nat.mod_lt _ (by omega))]
          exact hB.set_ r _
        · rw [set_drop _ _ _ (by rw [HCS.out]; exact hr), HD.out, lowH, ← HK.out]
          rfl
      case measure => simp [intOf]; omega
    · have h16' : ¬ (16 : Int) ≤ (k : Int) := by omega
      have hr' : (r : Int) ≤ 65 := by omega
      have hsl : ∀ W, (Instr.sliceAt 165 (.pointer (some ⟨g, 0, none⟩)) (some (.int .i64 (r : Int))) none none).run Tryz.prog W = .ok (.slice (some ⟨g, r, none⟩) (65 - r) (65 - r)) W := fun W => by
        have e1 : Tryz.prog.arrayLen 165 = 65 := by kernel_rfl
        have e2 : Tryz.prog.elem 165 = 5 := by kernel_rfl
        obtain ⟨i0, hi0, hz0, hz1, hz2⟩ := info_parts info_u8
        rw [run_sliceAt_array_l W _ _ (by kernel_rfl) _ _ (by omega) (by rw [e1]; omega), e1, e2]
        simp [sizeOf, typeInfo, hi0, hz1, slicedAt, show ¬ 65 = r by omega, Addr.add_lit]
      have hk16 : k < 16 := by omega
      go_wp2
      rw [hexB k hk16]
      have hB2 := hB.set_ r (.int .u8 ((hexD k).toNat : Int))
      have hE2 := hE.set_ hgw (p := ⟨g, r, none⟩) (.int .u8 ((hexD k).toNat : Int))
      obtain ⟨w2, hw2⟩ : ∃ w2, w2 = wr.setCell ⟨g, r, none⟩ (.int .u8 ((hexD k).toNat : Int)) := ⟨_, rfl⟩
      rw [← hw2] at hB2 hE2 ⊢
      have hd2 : (cs.setIfInBounds r (.int .u8 ((hexD k).toNat : Int))).toList.drop r = (lowH n (q + 1)).map bv := by
        rw [set_drop _ _ _ (by rw [HCS.out]; exact hr), HD.out, lowH, ← HK.out, Nat.mod_eq_of_lt hk16]
        rfl
      have hs2 : SlB w2 (some ⟨g, r, none⟩) (65 - r) (lowH n (q + 1)) := by
        have hq1 : 65 - r = q + 1 := by have := HPQ.out; omega
        refine ⟨⟨by rw [List.length_map, lowH_len, hq1, Nat.mul_one], fun _ => ⟨_, rfl, hB2.lt, fun j u hj => ?_⟩⟩, by rw [lowH_len, hq1], by omega⟩
        rw [Addr.add_lit, hB2.cell (r + j), ← Array.getElem?_toList, ← List.getElem?_drop, hd2]
        exact hj
      have hconv := conv_str hs2 (65 - r)
      have HQ := Lib.hid (show k < 16 from hk16)
      clear hw2 hd2 hsl hB2 hk16
      rw [hconv]
      go_wp2
      go_ret2
      exact ⟨q, rfl, hq, by rw [← HK.out]; exact HQ.out, hE2, HM⟩
theorem formatBits_any (n : Nat) (hn : n < 18446744073709551616) (hT : TZ w) :
    Calls Tryz.prog 112 #[.slice none 0 0, .int .u64 n, .int .i64 16, .bool false, .bool false] w fun e w' => ∃ q, e = .returned (.tuple #[.slice none 0 0, .string (str (lowH n (q + 1)))]) ∧ q ≤ 15 ∧ n / 16 ^ q < 16 ∧ Ext w w' :=
  (formatBits_ex n hn hT).mono fun _ _ ⟨q, h1, h2, h3, h4, _⟩ => ⟨q, h1, h2, h3, h4⟩
end
end Go.Proofs.YtoghaehcmbonnaaGreatDoor
