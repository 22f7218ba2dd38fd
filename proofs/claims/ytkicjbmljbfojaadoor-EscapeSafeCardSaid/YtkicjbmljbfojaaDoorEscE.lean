/- Escape of package escape. -/
import Derived.Test.YtkicjbmljbfojaaDoorEscD
import Derived.Test.YtkicjbmljbfojaaDoorBld
namespace Go.Proofs.YtkicjbmljbfojaaDoor
open Go.RowKit
set_option maxRecDepth 100000

theorem Ext.of_below {w w' : World} (h : Below w.heap.size w w') : Ext w w' := h
theorem below_ext {B : Nat} {w w1 w2 : World} (h : Below B w w1) (hE : Ext w1 w2) (hB : B ≤ w1.heap.size) : Below B w w2 := h.trans (Below.mono hE hB)
theorem Ext.trans' {w w1 w2 : World} (h : Ext w w1) (k : Below w.heap.size w1 w2) : Ext w w2 := Below.trans h k
section
variable {w : World}
set_option maxHeartbeats 1600000 in
theorem escape_no (n : Int) (s : ByteArray) (hn : styleZ n = false) : Calls Tryd.prog 11 #[.int .i64 n, .string s] w fun e w' => e = .returned (.string (str (escZ n (bys s)))) ∧ Ext w w' := by
  have hs : escZ n (bys s) = [] := by unfold escZ; rw [hn]; rfl
  rw [hs]
  clear hs
  have HN := Lib.hid hn
  clear hn
  go_enter Tryd.func11, Tryd.ntmps11
  go_wp2_with (first
    | (go_at_call 19; refine Hid.out ?_))
  refine Hid.mk_ ((style_any n).mono ?_)
  rintro e w1 ⟨rfl, rfl⟩
  rw [HN.out]
  go_wp2
  go_ret
  exact ⟨rfl, Ext.refl _⟩
theorem oneL_len (n b : Nat) (f : Bool) : (oneL n b f).length ≤ 6 := by
  unfold oneL
  split
  · unfold entL decL
    repeat' split
    all_goals simp
  · unfold bsL hex2
    repeat' split
    all_goals simp
theorem escGo_len (n : Nat) : ∀ (l : List UInt8) (f : Bool), (escGo n f l).length ≤ 6 * l.length
  | [], _ => by simp [escGo]
  | c :: t, f => by
    have h1 := oneL_len n c.toNat f
    have h2 := escGo_len n t false
    rw [escGo, List.length_append, List.length_cons]
    omega
set_option maxHeartbeats 1600000 in
theorem escape_yes (n : Nat) (h1 : 1 ≤ n) (h4 : n ≤ 4) (s : ByteArray) (hsz : s.size ≤ 1000) (hT : T2 w) : Calls Tryd.prog 11 #[.int .i64 (n : Int), .string s] w fun e w' => e = .returned (.string (str (escL n (bys s)))) ∧ Ext w w' := by
  have hst : styleZ (n : Int) = true := decide_eq_true (by omega)
  have HS := Lib.hid hst
  clear hst
  go_enter Tryd.func11, Tryd.ntmps11
  go_wp2_with (first
    | (go_at_call 19; refine Hid.out ?_))
  refine Hid.mk_ ((style_any (n : Int)).mono ?_)
  rintro e w1 ⟨rfl, rfl⟩
  rw [HS.out]
  go_wp2
  go_loopw [12] (fun i wr => ∃ k : Nat, k ≤ s.size ∧ i = .int .i64 k ∧ Bld wr w1.heap.size w1.heap.size (escL n ((bys s).take k)) ∧ Ext w1 wr) (fun i _ => s.size - (intOf i).toNat)
  case atStart => exact ⟨0, Nat.zero_le _, rfl, Bld.new _, (Ext.refl _).alloc _⟩
  case round =>
    obtain ⟨k, hk, rfl, hB, hE⟩ := hrel
    by_cases hlt : k < s.size
    · have hi1 : (k : Int) < (s.size : Int) := by omega
      have htk := escL_take n (bys s) k (by rw [bys_len]; exact hlt)
      have hln := escGo_len n ((bys s).take k) true
      have hln2 : ((bys s).take k).length ≤ k := List.length_take_le _ _
      have hle1 : (escL n ((bys s).take k)).length ≤ 6000 := by show (escGo n true _).length ≤ _; omega
      have HTK := Lib.hid htk
      clear htk hln hln2
      by_cases hn4 : n = 4
      · have t4 : ((n : Int) == 4) = true := by rw [hn4]; rfl
        have HE : Hid (∀ b f, oneL n b f = entL b) := Lib.hid fun b f => by rw [hn4]; rfl
        clear hn4
        go_wp2_with (first
          | (go_at_call 21; refine Hid.out ?_))
        refine Hid.mk_ ((entity_any _ (UInt8.toNat_lt _) (hT.ext hE)).mono ?_)
        rintro e w2 ⟨rfl, hE2⟩
        have hB2 := hB.ext hE2
        have hE12 := hE.trans hE2
        go_wp2_with (first
          | (go_at_call 20; refine Hid.out ?_))
        refine Hid.mk_ ((wstr_any _ hB2 (by rw [str_size]; have := oneL_len n (s[k]'hlt).toNat (decide (k = 0)); rw [HE.out] at this; omega) hE12.size_le).mono ?_)
        rintro e w3 ⟨rfl, hB3, hE3⟩
        have hE13 := hE12.trans' hE3
        go_wp2
        go_roundw
        case rel => exact ⟨k + 1, by omega, by go_num, by rw [HTK.out]; rw [bys_str] at hB3; rw [HE.out]; exact hB3, hE13⟩
        case measure => simp [intOf]; omega
      · have t4 : ((n : Int) == 4) = false := by rw [beq_eq_false_iff_ne]; omega
        have HE : Hid (∀ b f, oneL n b f = bsL n b f) := Lib.hid fun b f => by unfold oneL; rw [if_neg hn4]
        have hn3 : n ≤ 3 := by omega
        have hk0 : ((k : Int) == 0) = decide (k = 0) := by
          by_cases h : k = 0
          · subst h; rfl
          · rw [decide_eq_false h, beq_eq_false_iff_ne]; omega
        clear hn4
        obtain ⟨f, hf⟩ : ∃ f, f = decide (k = 0) := ⟨_, rfl⟩
        rw [← hf] at hk0 HTK
        have HF := Lib.hid hf
        clear hf
        go_wp2_with (first
          | (go_at_call 22; refine Hid.out ?_))
        refine Hid.mk_ ((bsl_any n _ f h1 hn3 (UInt8.toNat_lt _) (hT.ext hE)).mono ?_)
        rintro e w2 ⟨rfl, hE2⟩
        have hB2 := hB.ext hE2
        have hE12 := hE.trans hE2
        go_wp2_with (first
          | (go_at_call 20; refine Hid.out ?_))
        refine Hid.mk_ ((wstr_any _ hB2 (by rw [str_size]; have := oneL_len n (s[k]'hlt).toNat f; rw [HE.out] at this; omega) hE12.size_le).mono ?_)
        rintro e w3 ⟨rfl, hB3, hE3⟩
        have hE13 := hE12.trans' hE3
        go_wp2
        go_roundw
        case rel => exact ⟨k + 1, by omega, by go_num, by rw [HTK.out]; rw [bys_str] at hB3; rw [HE.out]; exact hB3, hE13⟩
        case measure => simp [intOf]; omega
    · have hi1 : ¬ (k : Int) < (s.size : Int) := by omega
      have hfin : escL n ((bys s).take k) = escL n (bys s) := by rw [List.take_of_length_le (by rw [bys_len]; omega)]
      rw [hfin] at hB
      clear hfin
      go_wp2_with (first
        | (go_at_call 23; refine Hid.out ?_))
      refine Hid.mk_ ((bstr_any hB hE.size_le).mono ?_)
      rintro e w3 ⟨rfl, hE3⟩
      go_wp2
      go_ret
      exact ⟨rfl, hE.trans' hE3⟩
theorem escape_any (n : Int) (s : ByteArray) (hsz : s.size ≤ 1000) (hT : T2 w) : Calls Tryd.prog 11 #[.int .i64 n, .string s] w fun e w' => e = .returned (.string (str (escZ n (bys s)))) ∧ Ext w w' := by
  cases hn : styleZ n with
  | false => exact escape_no n s hn
  | true =>
    have h : 1 ≤ n ∧ n ≤ 4 := of_decide_eq_true hn
    obtain ⟨k, rfl⟩ : ∃ k : Nat, n = k := ⟨n.toNat, by omega⟩
    have h2 : escZ (k : Int) (bys s) = escL k (bys s) := by unfold escZ; rw [hn]; rfl
    rw [h2]
    exact escape_yes k (by omega) (by omega) s hsz hT
end

end Go.Proofs.YtkicjbmljbfojaaDoor
