/- The texts of digests. -/
import Derived.Test.YtghndnacmpckbaaGreatDoorHex
import Derived.Test.YtghndnacmpckbaaGreatDoorLayRep
import Derived.Test.YtghndnacmpckbaaGreatDoorDig2
namespace Go.Proofs.YtghndnacmpckbaaGreatDoor
open Go.RowKit Go.Shelf
set_option maxRecDepth 100000

theorem extraRep : Builder.Extra Tryz.prog Tryz.laysRepeat_ren where
  sizeBuilder := by kernel_rfl
  liesBuilder := by kernel_rfl
  t5 := by kernel_rfl
  a5 := fun _ => by kernel_rfl
  z5 := fun _ => by kernel_rfl
  v5 := fun _ => by kernel_rfl
  infoByte := by kernel_rfl
  cellsByte := by kernel_rfl
  sizeByte := by kernel_rfl
  neB5 := by decide
theorem repeatL_zero (c : Nat) : Lib.repeatL [48] c = List.replicate c 48 := by
  induction c with
  | zero => rfl
  | succ c ih => rw [Lib.repeatL, ih]; rfl
section
variable {w : World}
theorem repeat0 (c : Int) (k : Nat) (hc : c = k) (hk : k ≤ 16) :
    Calls Tryz.prog 58 #[.string ⟨#[48]⟩, .int .i64 c] w fun e w' => e = .returned (.string (str (List.replicate k 48))) ∧ Ext w w' := by
  subst hc
  have h := Any.strings_Repeat Tryz.laysRepeat extraRep ⟨#[48]⟩ k w (by omega) (by show 1 * k ≤ _; omega)
  change Calls Tryz.prog 58 _ _ _ at h
  refine h.mono fun e w' ⟨he, hb⟩ => ⟨?_, hb⟩
  rw [he]
  have e1 : (⟨#[48]⟩ : ByteArray).data.toList = [48] := rfl
  rw [e1, repeatL_zero]
  rfl
theorem iformatUint_any (n : Nat) (hn : n < 18446744073709551616) (hT : TZ w) :
    Calls Tryz.prog 63 #[.int .u64 n, .int .i64 16] w fun e w' => ∃ q, e = .returned (.string (str (lowH n (q + 1)))) ∧ q ≤ 15 ∧ n / 16 ^ q < 16 ∧ Ext w w' := by
  go_enter Tryz.func63, Tryz.ntmps63
  go_wp2_with (first
    | (go_at_call 79; refine Hid.out ?_))
  refine Hid.mk_ ((formatBits_any n hn hT).mono ?_)
  rintro e w1 ⟨q, rfl, hq, hq2, hE1⟩
  have HQ := Lib.hid hq2
  clear hq2
  go_wp2
  go_ret
  exact ⟨q, rfl, hq, HQ.out, hE1⟩
theorem formatUint_any (n : Nat) (hn : n < 18446744073709551616) (hT : TZ w) :
    Calls Tryz.prog 57 #[.int .u64 n, .int .i64 16] w fun e w' => ∃ q, e = .returned (.string (str (lowH n (q + 1)))) ∧ q ≤ 15 ∧ n / 16 ^ q < 16 ∧ Ext w w' := by
  go_enter Tryz.func57, Tryz.ntmps57
  go_wp2_with (first
    | (go_at_call 63; refine Hid.out ?_))
  refine Hid.mk_ ((iformatUint_any n hn hT).mono ?_)
  rintro e w1 ⟨q, rfl, hq, hq2, hE1⟩
  have HQ := Lib.hid hq2
  clear hq2
  go_wp2
  go_ret
  exact ⟨q, rfl, hq, HQ.out, hE1⟩
theorem lowH_pad {n q k : Nat} (h : n / 16 ^ q < 16) : lowH n (q + 1 + k) = List.replicate k 48 ++ lowH n (q + 1) := by
  induction k with
  | zero => rfl
  | succ k ih =>
    have e0 : n / 16 ^ (q + 1 + k) % 16 = 0 := by
      have h1 : n / 16 ^ (q + 1 + k) = 0 := by
        rw [Nat.pow_add, Nat.pow_succ, ← Nat.div_div_eq_div_mul, ← Nat.div_div_eq_div_mul]
        rw [Nat.div_eq_of_lt h, Nat.zero_div]
      rw [h1]
    rw [show q + 1 + (k + 1) = (q + 1 + k) + 1 by omega, lowH, e0, ih, List.replicate_succ]
    rfl
/-- The text of a digest. -/
def hexT (n : Nat) : ByteArray := str (lowH n 16)
set_option maxHeartbeats 800000 in
theorem dtext_any (n : Nat) (hn : n < 18446744073709551616) (hT : TZ w) :
    Calls Tryz.prog 43 #[.int .u64 n] w fun e w' => e = .returned (.string (hexT n)) ∧ Ext w w' := by
  go_enter Tryz.func43, Tryz.ntmps43
  go_wp2_with (first
    | (go_at_call 57; refine Hid.out ?_))
  refine Hid.mk_ ((formatUint_any n hn hT).mono ?_)
  rintro e w1 ⟨q, rfl, hq, hq2, hE1⟩
  have hsz : (str (lowH n (q + 1))).size = q + 1 := by rw [str_size, lowH_len]
  have hfin : str (List.replicate (15 - q) 48) ++ str (lowH n (q + 1)) = hexT n := by
    apply bys_inj
    unfold hexT
    rw [bys_str]
    have h := lowH_pad (k := 15 - q) hq2
    rw [show q + 1 + (15 - q) = 16 by omega] at h
    rw [h]
    simp [bys, str]
  have HQ := Lib.hid hq2
  have HSZ := Lib.hid hsz
  have HF := Lib.hid hfin
  obtain ⟨s, hs⟩ : ∃ s, s = str (lowH n (q + 1)) := ⟨_, rfl⟩
  rw [← hs] at HSZ HF ⊢
  have hs1 : 1 ≤ s.size := by rw [HSZ.out]; omega
  have hs2 : s.size ≤ 16 := by rw [HSZ.out]; omega
  clear hq2 hsz hfin hs
  go_wp2_with (first
    | (go_at_call 58; refine Hid.out ?_))
  refine Hid.mk_ ((repeat0 _ (15 - q) (by have := HSZ.out; omega) (by omega)).mono ?_)
  rintro e w2 ⟨rfl, hE2⟩
  have hp2 : (str (List.replicate (15 - q) 48)).size + s.size ≤ 9223372036854775807 := by rw [str_size, List.length_replicate]; omega
  go_wp2
  go_ret
  exact ⟨by rw [← HF.out]; rfl, hE1.trans hE2⟩
end
end Go.Proofs.YtghndnacmpckbaaGreatDoor
