/- Digests: From, the eight bytes, sums, seals. -/
import Derived.Test.YtoghaehcmbonnaaGreatDoorDigP
import Derived.Test.YtoghaehcmbonnaaGreatDoorMem
import Derived.IntWalk
namespace Go.Proofs.YtoghaehcmbonnaaGreatDoor
open Go.RowKit
set_option maxRecDepth 100000

section
variable {w : World} {A : Option Addr} {m : Nat} {l : List UInt8}
set_option maxHeartbeats 1600000 in
theorem from_any (h c : Nat) (hh : h < 18446744073709551616) (hs : SlB w A m l) :
    Calls Tryz.prog 76 #[.int .u64 h, .slice A m c] w fun e w' => e = .returned (.int .u64 (dig h l)) ∧ w' = w := by
  have hle := hs.le
  have HL := Lib.hid hs.len
  go_enter Tryz.func76, Tryz.ntmps76
  go_wp2
  go_loop [0, 9] (fun v i => ∃ (q k : Nat), q ≤ m ∧ k < 18446744073709551616 ∧ i = .int .i64 q ∧ v = .int .u64 k ∧ k = dig h (l.take q)) (fun _ i => m - (intOf i).toNat)
  case atStart => exact ⟨0, h, Nat.zero_le _, hh, rfl, rfl, rfl⟩
  case round =>
    obtain ⟨q, k, hq, hk, rfl, rfl, hd⟩ := hrel
    have HD := Lib.hid hd
    clear hd
    by_cases hlt : q < m
    · obtain ⟨b, off, rfl, hbl, hc⟩ := hs.at_ hlt
      have hlt1 : q < l.length := by rw [← HL.out]; exact hlt
      have hcq := hc q hlt1
      have ht := dig_take (h := h) hlt1
      obtain ⟨x, hx⟩ : ∃ x, x = (l[q]).toNat := ⟨_, rfl⟩
      rw [← hx] at hcq ht
      have hx2 : x < 256 := by rw [hx]; exact (l[q]).toNat_lt
      have hi1 : (q : Int) < (m : Int) := by omega
      have HT := Lib.hid ht
      have HV := Lib.hid (step_val hk hx2)
      have hk2 := dstep_lt k x
      clear hc hx ht
      go_wp2
      go_round
      case rel => exact ⟨q + 1, dstep k x, by omega, hk2, by go_num, by rw [HV.out], by rw [HT.out, HD.out]⟩
      case measure => simp [intOf]; omega
    · have hfin : k = dig h l := by rw [HD.out, List.take_of_length_le (by rw [← HL.out]; omega)]
      have HF := Lib.hid hfin
      clear hfin
      go_wp2
      go_ret
      exact ⟨by rw [← HF.out]; rfl, rfl⟩
set_option maxHeartbeats 1600000 in
theorem refFrom_any (h c : Nat) (hh : h < 18446744073709551616) (hs : SlB w A m l) :
    Calls Tryz.prog 91 #[.int .u64 h, .slice A m c] w fun e w' => e = .returned (.int .u64 (dig h l)) ∧ w' = w := by
  have hle := hs.le
  have HL := Lib.hid hs.len
  go_enter Tryz.func91, Tryz.ntmps91
  go_wp2
  go_loop [0, 5] (fun v i => ∃ (q k : Nat), q ≤ m ∧ k < 18446744073709551616 ∧ i = .int .i64 q ∧ v = .int .u64 k ∧ k = dig h (l.take q)) (fun _ i => m - (intOf i).toNat)
  case atStart => exact ⟨0, h, Nat.zero_le _, hh, rfl, rfl, rfl⟩
  case round =>
    obtain ⟨q, k, hq, hk, rfl, rfl, hd⟩ := hrel
    have HD := Lib.hid hd
    clear hd
    by_cases hlt : q < m
    · obtain ⟨b, off, rfl, hbl, hc⟩ := hs.at_ hlt
      have hlt1 : q < l.length := by rw [← HL.out]; exact hlt
      have hcq := hc q hlt1
      have ht := dig_take (h := h) hlt1
      obtain ⟨x, hx⟩ : ∃ x, x = (l[q]).toNat := ⟨_, rfl⟩
      rw [← hx] at hcq ht
      have hx2 : x < 256 := by rw [hx]; exact (l[q]).toNat_lt
      have hi1 : (q : Int) < (m : Int) := by omega
      have HT := Lib.hid ht
      have HV := Lib.hid (step_val hk hx2)
      have hk2 := dstep_lt k x
      clear hc hx ht
      go_wp2
      go_round
      case rel => exact ⟨q + 1, dstep k x, by omega, hk2, by go_num, by rw [HV.out], by rw [HT.out, HD.out]⟩
      case measure => simp [intOf]; omega
    · have hfin : k = dig h l := by rw [HD.out, List.take_of_length_le (by rw [← HL.out]; omega)]
      have HF := Lib.hid hfin
      clear hfin
      go_wp2
      go_ret
      exact ⟨by rw [← HF.out]; rfl, rfl⟩

/-- A block of eight bytes, the first of which are a number's. -/
def Eights (w : World) (g q n : Nat) : Prop := ∃ cs : Array Value, Blk w g 5 cs ∧ cs.size = 8 ∧ ∀ j, j < q → cs[j]? = some (.int .u8 ((n / 256 ^ j % 256 : Nat) : Int))
theorem Eights.cell {w : World} {g q n : Nat} (h : Eights w g q n) (hq : q < 8) : ∃ v, w.cell? ⟨g, q, none⟩ = some v := by
  obtain ⟨cs, hb, hs, _⟩ := h
  exact ⟨cs[q], by rw [hb.cell q]; exact Array.getElem?_eq_getElem _⟩
theorem Eights.frozen {w : World} {g q n : Nat} (h : Eights w g q n) : w.frozen? ⟨g, q, none⟩ = false := by
  obtain ⟨cs, hb, _⟩ := h
  exact hb.frozen q
theorem Eights.step {w : World} {g q n : Nat} {v : Int} (h : Eights w g q n) (hq : q < 8) (hv : v = ((n / 256 ^ q % 256 : Nat) : Int)) : Eights (w.setCell ⟨g, q, none⟩ (.int .u8 v)) g (q + 1) n := by
  obtain ⟨cs, hb, hs, hc⟩ := h
  subst hv
  refine ⟨_, hb.set_ q _, by simpa using hs, fun j hj => ?_⟩
  by_cases e : j = q
  · subst e
    rw [Array.getElem?_setIfInBounds_self]
    rw [if_pos (by omega)]
  · rw [Array.getElem?_setIfInBounds_ne (fun h => e h.symm)]
    exact hc j (by omega)
theorem Eights.sl {w : World} {g n : Nat} (h : Eights w g 8 n) : SlB w (some ⟨g, 0, none⟩) 8 (eightL n) := by
  obtain ⟨cs, hb, hs, hc⟩ := h
  refine SlB.of_blk hb ?_ (eightL_len n).symm (by rw [eightL_len]; omega)
  apply List.ext_getElem?
  intro j
  by_cases hj : j < 8
  · rw [Array.getElem?_toList, hc j hj, eightL_bv n j hj]
  · rw [List.getElem?_eq_none (by rw [Array.length_toList]; omega), List.getElem?_eq_none (by rw [List.length_map, eightL_len]; omega)]
theorem Eights.start (w : World) (n : Nat) : Eights (w.alloc (.cells #[.int .u8 0, .int .u8 0, .int .u8 0, .int .u8 0, .int .u8 0, .int .u8 0, .int .u8 0, .int .u8 0] 5)) w.heap.size 0 n :=
  ⟨_, Blk.new w _ _, rfl, fun j hj => absurd hj (by omega)⟩

set_option maxHeartbeats 3200000 in
theorem eight_any (n : Nat) (hn : n < 18446744073709551616) {w : World} :
    Calls Tryz.prog 56 #[.int .u64 n] w fun e w' => ∃ A c, e = .returned (.slice A 8 c) ∧ SlB w' A 8 (eightL n) ∧ Ext w w' := by
  have hmk : ∀ w, (Instr.makeSlice 22 (.int .i64 8) (.int .i64 8)).run Tryz.prog w = .ok (.slice (some ⟨w.heap.size, 0, none⟩) 8 8) (w.alloc (.cells #[.int .u8 0, .int .u8 0, .int .u8 0, .int .u8 0, .int .u8 0, .int .u8 0, .int .u8 0, .int .u8 0] 5)) := fun _ => by kernel_rfl
  have hst := Eights.start w n
  have hE0 : Ext w (w.alloc (.cells #[.int .u8 0, .int .u8 0, .int .u8 0, .int .u8 0, .int .u8 0, .int .u8 0, .int .u8 0, .int .u8 0] 5)) := (Ext.refl w).alloc _
  go_enter Tryz.func56, Tryz.ntmps56
  go_wp2
  obtain ⟨g, hg⟩ : ∃ g, g = w.heap.size := ⟨_, rfl⟩
  rw [← hg] at hst ⊢
  have hgw : w.heap.size ≤ g := by omega
  clear hg hmk
  go_loopw [6] (fun i wr => ∃ q : Nat, q ≤ 8 ∧ i = .int .i64 q ∧ Eights wr g q n ∧ Ext w wr) (fun i _ => 8 - (intOf i).toNat)
  case atStart => exact ⟨0, Nat.zero_le _, rfl, hst, hE0⟩
  case round =>
    obtain ⟨q, hq, rfl, hB, hE⟩ := hrel
    by_cases hlt : q < 8
    · obtain ⟨v, hv⟩ := hB.cell hlt
      have hf := hB.frozen (q := q)
      have hst2 := fun x => hB.step (v := x) hlt
      have HST := Lib.hid hst2
      clear hst2
      have h8 : q = 0 ∨ q = 1 ∨ q = 2 ∨ q = 3 ∨ q = 4 ∨ q = 5 ∨ q = 6 ∨ q = 7 := by omega
      have HE := Lib.hid hE
      rcases h8 with rfl | rfl | rfl | rfl | rfl | rfl | rfl | rfl
      · go_wp2
        go_roundw
        case rel => exact ⟨1, by omega, rfl, HST.out _ (by simp), HE.out.set_ hgw _⟩
        case measure => simp [intOf]
      · go_wp2
        go_roundw
        case rel => exact ⟨2, by omega, rfl, HST.out _ (by simp), HE.out.set_ hgw _⟩
        case measure => simp [intOf]
      · go_wp2
        go_roundw
        case rel => exact ⟨3, by omega, rfl, HST.out _ (by simp), HE.out.set_ hgw _⟩
        case measure => simp [intOf]
      · go_wp2
        go_roundw
        case rel => exact ⟨4, by omega, rfl, HST.out _ (by simp), HE.out.set_ hgw _⟩
        case measure => simp [intOf]
      · go_wp2
        go_roundw
        case rel => exact ⟨5, by omega, rfl, HST.out _ (by simp), HE.out.set_ hgw _⟩
        case measure => simp [intOf]
      · go_wp2
        go_roundw
        case rel => exact ⟨6, by omega, rfl, HST.out _ (by simp), HE.out.set_ hgw _⟩
        case measure => simp [intOf]
      · go_wp2
        go_roundw
        case rel => exact ⟨7, by omega, rfl, HST.out _ (by simp), HE.out.set_ hgw _⟩
        case measure => simp [intOf]
      · go_wp2
        go_roundw
        case rel => exact ⟨8, by omega, rfl, HST.out _ (by simp; omega), HE.out.set_ hgw _⟩
        case measure => simp [intOf]
    · obtain rfl : q = 8 := by omega
      go_wp2
      go_ret
      exact ⟨some ⟨g, 0, none⟩, 8, rfl, hB.sl, hE⟩
end
end Go.Proofs.YtoghaehcmbonnaaGreatDoor
