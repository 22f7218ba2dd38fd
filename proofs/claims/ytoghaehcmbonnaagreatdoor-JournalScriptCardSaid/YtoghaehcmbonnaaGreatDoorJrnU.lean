/- journal.size: the number of a header. -/
import Derived.Test.YtoghaehcmbonnaaGreatDoorJrnQ
import Derived.Test.YtoghaehcmbonnaaGreatDoorLayAto
import Derived.Lib.AtoiErrMem
namespace Go.Proofs.YtoghaehcmbonnaaGreatDoor
open Go.RowKit
set_option maxRecDepth 100000
attribute [local go_sem] ext_refl_t ext_alloc_t ext_drew_t ext_drewN_t ext_alloc2_t ext_alloc3_t ext_alloc4_t ext_alloc5_t ext_alloc6_t ext_alloc7_t ext_alloc8_t ext_alloc1d_t ext_alloc2d_t ext_alloc3d_t ext_alloc4d_t
theorem decFrom_dig (l : List UInt8) : ∀ acc, (∀ b ∈ l, digB b = true) → Lib.decFrom acc l = some (l.foldl (fun n b => 10 * n + (b.toNat - 48)) acc) := by
  induction l with
  | nil => intro acc _; rfl
  | cons b t ih =>
    intro acc h
    have hb := h b (by simp)
    unfold digB at hb
    rw [decide_eq_true_iff] at hb
    unfold Lib.decFrom Lib.digitVal
    rw [if_pos hb]
    dsimp only
    rw [ih _ (fun x hx => h x (by simp [hx])), List.foldl_cons, Nat.mul_comm acc 10]
theorem atoi_eight {n : Nat} (h : n < 100000000) : Lib.atoi (eight8 n) = some (n : Int) := by
  have hn := eight8_num h
  have hl := eight8_length n
  show Lib.atoi (eight8 n) = _
  have hd : ∀ b ∈ eight8 n, digB b = true := padL_dig 8 n
  generalize eight8 n = l at *
  cases l with
  | nil => simp at hl
  | cons b t =>
    have hb := hd b (by simp)
    unfold digB at hb
    rw [decide_eq_true_iff] at hb
    have h1 : ¬ (b == 45) = true := by
      intro e
      rw [beq_iff_eq] at e
      subst e
      exact absurd hb (by decide)
    have h2 : ¬ (b == 43) = true := by
      intro e
      rw [beq_iff_eq] at e
      subst e
      exact absurd hb (by decide)
    unfold Lib.atoi
    dsimp only
    rw [if_neg h1, if_neg h2]
    unfold Lib.decNat
    rw [if_neg (by simp), decFrom_dig _ _ hd]
    show some _ = _
    unfold decNum at hn
    rw [hn]
/-- strconv.ErrSyntax is laid. -/
def NS (w : World) : Prop := ∃ ev, w.cell? ⟨1, 0, none⟩ = some ev ∧ (ev = .nilIface ∨ ∃ te pe, ev = .iface te pe)
theorem NS.ext {w w' : World} (h : NS w) (hE : Ext w w') : NS w' := by
  obtain ⟨e1, h1, k1⟩ := h
  exact ⟨e1, later hE h1, k1⟩
/-- What strconv.Atoi returns at short strings. -/
def AtoR (s : ByteArray) (e : Ending) : Prop := (∃ n : Int, Lib.atoi (bys s) = some n ∧ e = .returned (.tuple #[.int .i64 n, .nilIface])) ∨ (Lib.atoi (bys s) = none ∧ ∃ te pe, e = .returned (.tuple #[.int .i64 0, .iface te pe]))
theorem atoi_any {w : World} (s : ByteArray) (hs : s.size ≤ 18) (hN : NS w) : Calls Tryz.prog 55 #[.string s] w fun e w' => AtoR s e ∧ Ext w w' := by
  cases h : Lib.atoi (bys s) with
  | some n =>
    refine (Any.strconv_Atoi { Tryz.laysAtoi with } s n hs h w).mono ?_
    rintro e w' ⟨rfl, t, rfl⟩
    exact ⟨.inl ⟨n, h, rfl⟩, Lib.bytesWorld_below _ _ _⟩
  | none =>
    obtain ⟨ev, h1, h2⟩ := hN
    refine (Any.strconv_Atoi_err Tryz.laysAtoi s hs h ev w h1 h2).mono ?_
    rintro e w' ⟨N, rfl, _, _, hB⟩
    exact ⟨.inr ⟨h, _, _, rfl⟩, hB⟩
/-- What size returns. -/
def SzR (l : List UInt8) (e : Ending) : Prop := (∃ n : Int, hdrJ l = none ∧ e = .returned (.tuple #[.int .i64 n, .bool false])) ∨ (∃ k : Nat, hdrJ l = some k ∧ e = .returned (.tuple #[.int .i64 (k : Int), .bool true]))
theorem ba_neqJ {r s : ByteArray} (h : ¬ r = s) : (r.toList == s.toList) = false := by
  refine beq_eq_false_iff_ne.2 (fun e => h ?_)
  rw [ByteArray.toList_eq, ByteArray.toList_eq] at e
  exact ByteArray.ext (Array.ext' e)
section
variable {w : World}
set_option maxHeartbeats 3200000 in
theorem size_any {A : Option Addr} {m : Nat} (c : Nat) {l : List UInt8} (hs : SlB w A m l) (hmc : m ≤ c) (hm : m ≤ 1000000000) (hT : PT w) (hN : NS w) :
    Calls Tryz.prog 36 #[.slice A m c] w fun e w' => SzR l e ∧ Ext w w' := by
  have HL := Lib.hid hs.len
  by_cases h18 : m < 18
  · have h1 : (m : Int) < 18 := by omega
    have HR : Hid (hdrJ l = none) := hdrJ_none (by rw [← HL.out]; exact h18)
    clear h18
    go_enter Tryz.func36, Tryz.ntmps36
    go_wp2
    go_ret2
    exact ⟨.inl ⟨0, HR.out, rfl⟩, Ext.refl _⟩
  have h1 : ¬ (m : Int) < 18 := by omega
  obtain ⟨A1, _, _, u1, hs1, _⟩ := cut_run hs (i := 0) (j := 8) (by omega) (by omega) hmc
  obtain ⟨A2, _, _, u2, hs2, _⟩ := cut_run hs (i := 0) (j := 18) (by omega) (by omega) hmc
  have q1 := fun W => u1 W .i64 8 rfl rfl
  have q2 := fun W => u2 W .i64 18 rfl rfl
  rw [Nat.sub_zero, List.drop_zero] at hs1 hs2
  simp only [Nat.sub_zero] at q1 q2
  obtain ⟨s8, hs8⟩ : ∃ s8, s8 = str (l.take 8) := ⟨_, rfl⟩
  obtain ⟨sb, hsb⟩ : ∃ sb, sb = str (l.take 18) := ⟨_, rfl⟩
  have hz8 : s8.size ≤ 18 := by rw [hs8, str_size]; exact Nat.le_trans (List.length_take_le _ _) (by omega)
  have hcv1 : (convert 22 9 (.slice A1 8 c)).run Tryz.prog w = .ok (.string s8) w := by rw [hs8]; exact conv_str hs1 _
  have HB8 : Hid (bys s8 = l.take 8) := by show _ = _; rw [hs8, bys_str]
  have HCV2 : Hid (∀ W, Ext w W → (convert 22 9 (.slice A2 18 c)).run Tryz.prog W = .ok (.string sb) W) := fun W hE => by rw [hsb]; exact conv_str (hs2.ext hE) _
  have HSB : Hid (∀ k, sb = str (frameH k) ↔ l.take 18 = frameH k) := fun k => by
    rw [hsb]
    exact ⟨fun e => by have h2 := congrArg bys e; rwa [bys_str, bys_str] at h2, fun e => by rw [e]⟩
  have HNO : Hid (Lib.atoi (l.take 8) = none → hdrJ l = none) := fun h => by
    cases hh : hdrJ l with
    | none => rfl
    | some k =>
      obtain ⟨a1, a2⟩ := hdrJ_iff.1 hh
      have h4 := congrArg (List.take 8) a2
      rw [List.take_take, frameH_take, show min 8 18 = 8 from rfl] at h4
      rw [h4, atoi_eight (by omega)] at h
      cases h
  have HYES : Hid (∀ n : Int, Lib.atoi (l.take 8) = some n → ∀ k, hdrJ l = some k → n = (k : Int)) := fun n h k hh => by
    obtain ⟨a1, a2⟩ := hdrJ_iff.1 hh
    have h4 := congrArg (List.take 8) a2
    rw [List.take_take, frameH_take, show min 8 18 = 8 from rfl] at h4
    rw [h4, atoi_eight (by omega)] at h
    injection h with h
    exact h.symm
  clear hs8 hsb hs1 hs2 u1 u2 h18
  go_enter Tryz.func36, Tryz.ntmps36
  go_wp2_with (first
    | (go_at_call 55; refine Hid.out ?_))
  refine Hid.mk_ ((atoi_any s8 hz8 hN).mono ?_)
  rintro e w1 ⟨hR, hE1⟩
  rcases hR with ⟨n, hn, rfl⟩ | ⟨hn, te, pe, rfl⟩
  · rw [HB8.out] at hn
    by_cases hn0 : n < 0
    · have HF : Hid (hdrJ l = none) := by
        show _ = _
        cases hh : hdrJ l with
        | none => rfl
        | some k => have := HYES.out n hn k hh; omega
      have hi1 : ¬ (0 : Int) ≤ n := by omega
      have hi2 : decide ((0 : Int) ≤ n) = false := decide_eq_false hi1
      clear hn
      go_wp2
      refine wp_region_ext_lit (by kernel_rfl) (by kernel_rfl) ?_
      try dsimp only [List.append]
      repeat (go_big_quiet_step (fail))
      refine wpQuiet_nil ?_
      rintro w5 ⟨⟨_, h5⟩, rfl⟩
      try dsimp only
      go_wp2
      go_ret2
      exact ⟨.inl ⟨n, HF.out, rfl⟩, hE1.trans h5⟩
    by_cases hn3 : 300000 < n
    · have HF : Hid (hdrJ l = none) := by
        show _ = _
        cases hh : hdrJ l with
        | none => rfl
        | some k => have := HYES.out n hn k hh; have := (hdrJ_iff.1 hh).1; omega
      have hi1 : ¬ n ≤ (300000 : Int) := by omega
      have hi2 : decide (n ≤ (300000 : Int)) = false := decide_eq_false hi1
      have hi3 : (0 : Int) ≤ n := by omega
      clear hn
      go_wp2
      refine wp_region_ext_lit (by kernel_rfl) (by kernel_rfl) ?_
      try dsimp only [List.append]
      repeat (go_big_quiet_step (fail))
      refine wpQuiet_nil ?_
      rintro w5 ⟨⟨_, h5⟩, rfl⟩
      try dsimp only
      go_wp2
      go_ret2
      exact ⟨.inl ⟨n, HF.out, rfl⟩, hE1.trans h5⟩
    obtain ⟨k, rfl⟩ : ∃ k : Nat, n = (k : Int) := ⟨n.toNat, by omega⟩
    have hk : k ≤ 300000 := by omega
    have hki : (k : Int) ≤ 300000 := by omega
    have hk0 : (0 : Int) ≤ (k : Int) := by omega
    obtain ⟨s, hsd⟩ : ∃ s, s = str (eight8 k) := ⟨_, rfl⟩
    have hs8 : s.size = 8 := by rw [hsd, str_size, eight8_length]
    have q1b : s.size + 1 ≤ 9223372036854775807 := by rw [hs8]; omega
    have q1c : ¬ 9223372036854775807 < s.size + 1 := by rw [hs8]; omega
    have q2b : s.size + 1 + s.size ≤ 9223372036854775807 := by rw [hs8]; omega
    have q2c : ¬ 9223372036854775807 < s.size + 1 + s.size := by rw [hs8]; omega
    have q3b : s.size + 1 + s.size + 1 ≤ 9223372036854775807 := by rw [hs8]; omega
    have q3c : ¬ 9223372036854775807 < s.size + 1 + s.size + 1 := by rw [hs8]; omega
    have q1' : s.size + ((⟨#[61]⟩ : ByteArray)).size ≤ 9223372036854775807 := by rw [hs8]; show 8 + 1 ≤ _; omega
    have q1d : ¬ 9223372036854775807 < s.size + ((⟨#[61]⟩ : ByteArray)).size := by rw [hs8]; show ¬ _ < 8 + 1; omega
    have q2' : (s ++ (⟨#[61]⟩ : ByteArray)).size + s.size ≤ 9223372036854775807 := by rw [ByteArray.size_append, hs8]; show 8 + 1 + 8 ≤ _; omega
    have q2d : ¬ 9223372036854775807 < (s ++ (⟨#[61]⟩ : ByteArray)).size + s.size := by rw [ByteArray.size_append, hs8]; show ¬ _ < 8 + 1 + 8; omega
    have q3' : (s ++ (⟨#[61]⟩ : ByteArray) ++ s).size + ((⟨#[10]⟩ : ByteArray)).size ≤ 9223372036854775807 := by rw [ByteArray.size_append, ByteArray.size_append, hs8]; show 8 + 1 + 8 + 1 ≤ _; omega
    have q3d : ¬ 9223372036854775807 < (s ++ (⟨#[61]⟩ : ByteArray) ++ s).size + ((⟨#[10]⟩ : ByteArray)).size := by rw [ByteArray.size_append, ByteArray.size_append, hs8]; show ¬ _ < 8 + 1 + 8 + 1; omega
    have hTs : s ++ (⟨#[61]⟩ : ByteArray) ++ s ++ (⟨#[10]⟩ : ByteArray) = str (frameH k) := by
      apply bys_inj
      rw [bys_appJ, bys_appJ, bys_appJ, hsd, bys_str, bys_str]
      unfold frameH
      simp [bys]
    have HSD := Lib.hid hsd
    have HV : Hid (∀ u : ExtOf w1, Calls Tryz.prog 40 #[.int .i64 (k : Int)] u.1 fun e w' => e = .returned (.string s) ∧ Ext u.1 w') := fun u => by
      rw [hsd]
      exact jeight_any k (by omega) (hT.ext (hE1.trans u.ext))
    have hcv2 : ∀ u : ExtOf w1, (convert 22 9 (.slice A2 18 c)).run Tryz.prog u.1 = .ok (.string sb) u.1 := fun u => HCV2.out _ (hE1.trans u.ext)
    have HN2 := Lib.hid hn
    have HTS := Lib.hid hTs
    by_cases heq : l.take 18 = frameH k
    · have HF : Hid (hdrJ l = some k) := hdrJ_iff.2 ⟨hk, heq⟩
      have HSE : Hid (sb = s ++ (⟨#[61]⟩ : ByteArray) ++ s ++ (⟨#[10]⟩ : ByteArray)) := by show _ = _; rw [HTS.out]; exact (HSB.out k).2 heq
      have hbe : (sb.toList == (s ++ (⟨#[61]⟩ : ByteArray) ++ s ++ (⟨#[10]⟩ : ByteArray)).toList) = true := by rw [← HSE.out]; exact beq_self_eq_true _
      clear heq hTs hsd hs8 hn hcv1
      go_wp2
      refine wp_region_ext_lit (by kernel_rfl) (by kernel_rfl) ?_
      try dsimp only [List.append]
      repeat (go_big_quiet_step ((go_at_call 40; exact Calls.quiet_ext (HV.out _))))
      refine wpQuiet_nil ?_
      rintro w5 ⟨⟨_, h5⟩, rfl⟩
      try dsimp only
      go_wp2
      go_ret2
      exact ⟨.inr ⟨k, HF.out, rfl⟩, hE1.trans h5⟩
    · have HF : Hid (hdrJ l = none) := by
        show _ = _
        cases hh : hdrJ l with
        | none => rfl
        | some j =>
          have h2 := HYES.out _ hn j hh
          have h3 : k = j := by omega
          subst h3
          exact absurd (hdrJ_iff.1 hh).2 heq
      have hbe : (sb.toList == (s ++ (⟨#[61]⟩ : ByteArray) ++ s ++ (⟨#[10]⟩ : ByteArray)).toList) = false := by
        apply ba_neqJ
        rw [HTS.out]
        exact fun e => heq ((HSB.out k).1 e)
      clear heq hTs hsd hs8 hn hcv1
      go_wp2
      refine wp_region_ext_lit (by kernel_rfl) (by kernel_rfl) ?_
      try dsimp only [List.append]
      repeat (go_big_quiet_step ((go_at_call 40; exact Calls.quiet_ext (HV.out _))))
      refine wpQuiet_nil ?_
      rintro w5 ⟨⟨_, h5⟩, rfl⟩
      try dsimp only
      go_wp2
      go_ret2
      exact ⟨.inl ⟨_, HF.out, rfl⟩, hE1.trans h5⟩
  · rw [HB8.out] at hn
    have HF : Hid (hdrJ l = none) := HNO.out hn
    clear hn
    go_wp2
    refine wp_region_ext_lit (by kernel_rfl) (by kernel_rfl) ?_
    try dsimp only [List.append]
    repeat (go_big_quiet_step (fail))
    refine wpQuiet_nil ?_
    rintro w5 ⟨⟨_, h5⟩, rfl⟩
    try dsimp only
    go_wp2
    go_ret2
    exact ⟨.inl ⟨0, HF.out, rfl⟩, hE1.trans h5⟩
end
end Go.Proofs.YtoghaehcmbonnaaGreatDoor
