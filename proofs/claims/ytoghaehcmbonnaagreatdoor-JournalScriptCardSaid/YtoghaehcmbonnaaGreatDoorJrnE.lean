/- journal.eight: eight decimal digits. -/
import Derived.Test.YtoghaehcmbonnaaGreatDoorJrnP
import Derived.Test.YtoghaehcmbonnaaGreatDoorHex
import Derived.Test.YtoghaehcmbonnaaGreatDoorLayIto
import Derived.Test.YtoghaehcmbonnaaGreatDoorMem
import Derived.Lib.SmallJoins
namespace Go.Proofs.YtoghaehcmbonnaaGreatDoor
open Go.RowKit Go.Shelf Go.Sort Go.Lib
set_option maxRecDepth 100000

/-- k decimal digits. -/
def padL : Nat → Nat → List UInt8
  | 0, _ => []
  | k + 1, n => padL k (n / 10) ++ [UInt8.ofNat (48 + n % 10)]
theorem padL_length (k : Nat) : ∀ n, (padL k n).length = k := by
  induction k with
  | zero => intro n; rfl
  | succ k ih => intro n; rw [padL, List.length_append, ih]; rfl
theorem padL_zero (k : Nat) : padL k 0 = List.replicate k 48 := by
  induction k with
  | zero => rfl
  | succ k ih => rw [padL, Nat.zero_div, ih, List.replicate_succ']; rfl
/-- Zeros ahead of the digits. -/
theorem pad_dec : ∀ (k n : Nat), n < 10 ^ (k + 1) → (decDigits n).length ≤ k + 1 ∧ List.replicate (k + 1 - (decDigits n).length) 48 ++ decDigits n = padL (k + 1) n
  | 0, n, h => by
    have h1 : n < 10 := by simpa using h
    rw [decDigits, dif_pos h1, padL, padL, Nat.mod_eq_of_lt h1]
    exact ⟨by simp, by simp⟩
  | k + 1, n, h => by
    by_cases h1 : n < 10
    · rw [decDigits, dif_pos h1, padL, Nat.div_eq_of_lt h1, padL_zero, Nat.mod_eq_of_lt h1]
      exact ⟨by simp, by simp⟩
    · have h2 : n / 10 < 10 ^ (k + 1) := by
        rw [Nat.pow_succ] at h
        omega
      obtain ⟨h3, h4⟩ := pad_dec k (n / 10) h2
      rw [decDigits, dif_neg h1, padL, ← h4]
      refine ⟨by simp; omega, ?_⟩
      rw [List.length_append, List.length_singleton, ← List.append_assoc]
      congr 3
      omega
/-- Eight digits. -/
def eight8 (n : Nat) : List UInt8 := padL 8 n
theorem eight8_length (n : Nat) : (eight8 n).length = 8 := padL_length 8 n
theorem bys_appJ (s t : ByteArray) : bys (s ++ t) = bys s ++ bys t := by simp [bys]
theorem ret_strJ {s t : ByteArray} (h : bys s = bys t) : Ending.returned (.string s) = Ending.returned (.string t) := by rw [bys_inj h]
/-- The powers of ten. -/
def PT (w : World) : Prop := Lib.TabIs Tryz.prog w "internal/strconv.uint64pow10" .u64 Lib.pow10Tab
theorem PT.ext {w w' : World} (h : PT w) (hE : Ext w w') : PT w' := Go.Joins.tab_stays (g := 3) (by kernel_rfl) h hE (Nat.le_refl _)
theorem extraRepJ : Builder.Extra Tryz.prog Tryz.laysRepeat_ren where
  sizeBuilder := by kernel_rfl
  liesBuilder := by kernel_rfl
  t5 := by kernel_rfl
  a5 := fun _ => by kernel_rfl
  z5 := fun _ => by kernel_rfl
  v5 := fun _ => by kernel_rfl
  infoByte := by kernel_rfl
  cellsByte := by kernel_rfl
  sizeByte := by kernel_rfl
  neB5 := by decide
theorem repeatJ_zero (c : Nat) : Lib.repeatL [48] c = List.replicate c 48 := by
  induction c with
  | zero => rfl
  | succ c ih => rw [repeatL, ih]; rfl
section
variable {w : World}
theorem repeatJ (c : Int) (k : Nat) (hc : c = k) (hk : k ≤ 16) :
    Calls Tryz.prog 63 #[.string ⟨#[48]⟩, .int .i64 c] w fun e w' => e = .returned (.string (str (List.replicate k 48))) ∧ Ext w w' := by
  subst hc
  have h := Any.strings_Repeat Tryz.laysRepeat extraRepJ ⟨#[48]⟩ k w (by omega) (by show 1 * k ≤ _; omega)
  change Calls Tryz.prog 63 _ _ _ at h
  refine h.mono fun e w' ⟨he, hb⟩ => ⟨?_, hb⟩
  rw [he]
  have e1 : (⟨#[48]⟩ : ByteArray).data.toList = [48] := rfl
  rw [e1, repeatJ_zero]
  rfl
theorem itoaJ (n : Nat) (hn : n < 100000000) (hT : PT w) : Calls Tryz.prog 62 #[.int .i64 (n : Int)] w fun e w' => e = .returned (.string (str (decDigits n))) ∧ Ext w w' := by
  have h := Any.strconv_Itoa Tryz.laysItoa (n : Int) (by omega) (by omega) w hT
  change Calls Tryz.prog 62 _ _ _ at h
  refine h.mono ?_
  rintro e w' ⟨he, k, os, rfl⟩
  refine ⟨?_, ?_⟩
  · rw [he]
    apply ret_strJ
    rw [bys_str]
    show (itoa (n : Int)).toArray.toList = _
    rw [itoa_nonneg]
  · exact ⟨rfl, rfl, rfl, by simp, fun j hj => by rw [heap_grow_old _ _ (by simpa using hj)]; rfl⟩
set_option maxHeartbeats 1600000 in
theorem jeight_any (n : Nat) (hn : n < 100000000) (hT : PT w) : Calls Tryz.prog 40 #[.int .i64 (n : Int)] w fun e w' => e = .returned (.string (str (eight8 n))) ∧ Ext w w' := by
  obtain ⟨hd1, hd2⟩ := pad_dec 7 n hn
  obtain ⟨k, hk⟩ : ∃ k, k = 8 - (decDigits n).length := ⟨_, rfl⟩
  have hsz : (str (decDigits n)).size = (decDigits n).length := str_size _
  have hfin : List.replicate k 48 ++ bys (str (decDigits n)) = eight8 n := by rw [bys_str, hk]; exact hd2
  obtain ⟨s, hs⟩ : ∃ s, s = str (decDigits n) := ⟨_, rfl⟩
  rw [← hs] at hsz hfin
  have hks : k + s.size = 8 := by rw [hsz, hk]; omega
  have HK := Lib.hid hks
  have HF := Lib.hid hfin
  have HS := Lib.hid hs
  have hs8 : s.size ≤ 8 := by omega
  clear hsz hfin hs hk hks hd1 hd2
  go_enter Tryz.func40, Tryz.ntmps40
  go_wp2_with (first
    | (go_at_call 62; refine Hid.out ?_))
  refine Hid.mk_ ((itoaJ n hn hT).mono ?_)
  rintro e w1 ⟨rfl, hE1⟩
  rw [← HS.out]
  go_wp2_with (first
    | (go_at_call 63; refine Hid.out ?_))
  refine Hid.mk_ ((repeatJ _ k (by have := HK.out; omega) (by have := HK.out; omega)).mono ?_)
  rintro e w2 ⟨rfl, hE2⟩
  have hp2 : (str (List.replicate k 48)).size + s.size ≤ 9223372036854775807 := by rw [str_size, List.length_replicate, HK.out]; omega
  go_wp2
  go_ret
  exact ⟨ret_strJ (by rw [bys_appJ, bys_str, HF.out, bys_str]), hE1.trans hE2⟩
end

end Go.Proofs.YtoghaehcmbonnaaGreatDoor
