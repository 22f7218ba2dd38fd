/- Unescape of package escape. -/
import Derived.Test.YtkicjbmljbfojaaDoorEscWE
namespace Go.Proofs.YtkicjbmljbfojaaDoor
open Go.RowKit Go.Shelf
set_option maxRecDepth 100000

attribute [local go_sem] ext_refl_t ext_alloc_t ext_drew_t ext_drewN_t ext_alloc2_t ext_alloc3_t ext_alloc4_t ext_alloc5_t ext_alloc6_t ext_alloc7_t ext_alloc8_t ext_alloc1d_t ext_alloc2d_t ext_alloc3d_t ext_alloc4d_t
theorem readE_bound {l x : List UInt8} {k : Nat} (h : readE l = some (x, k)) : x.length ≤ 4 * k ∧ k ≤ l.length := by
  unfold readE at h
  split at h
  · rename_i hl
    split at h
    · rename_i y hy
      injection h with h
      injection h with h1 h2
      subst h1
      refine ⟨?_, by omega⟩
      have : y.length ≤ 4 := by
        unfold nameE at hy
        repeat' split at hy
        all_goals first
          | (cases hy; done)
          | (injection hy with hy; subst hy; first | exact encOne_len _ | simp)
      omega
    · cases h
  · cases h
theorem readB_bound {l x : List UInt8} {k : Nat} (h : readB l = some (x, k)) : x.length ≤ 4 * k ∧ k ≤ l.length := by
  unfold readB at h
  split at h
  · rename_i a c t
    by_cases c1 : c = 110
    · rw [if_pos c1] at h; injection h with h; injection h with h1 h2; subst h1 h2; simp
    rw [if_neg c1] at h
    by_cases c2 : c = 114
    · rw [if_pos c2] at h; injection h with h; injection h with h1 h2; subst h1 h2; simp
    rw [if_neg c2] at h
    by_cases c3 : c = 116
    · rw [if_pos c3] at h; injection h with h; injection h with h1 h2; subst h1 h2; simp
    rw [if_neg c3] at h
    cases c4 : plainB c
    · rw [c4, if_neg (by simp)] at h
      by_cases c5 : c = 120
      · rw [if_pos c5] at h
        unfold readX at h
        repeat' split at h
        all_goals first
          | (cases h; done)
          | (injection h with h; injection h with h1 h2; subst h1 h2; simp; omega)
          | (injection h with h; injection h with h1 h2; subst h1 h2; simp)
      rw [if_neg c5] at h
      by_cases c6 : c = 117
      · rw [if_pos c6] at h
        unfold readU at h
        repeat' split at h
        all_goals first
          | (cases h; done)
          | (injection h with h; injection h with h1 h2; subst h1 h2
             refine ⟨?_, by simp⟩
             have := encOne_len ‹Nat›
             omega)
      rw [if_neg c6] at h
      cases h
    · rw [c4, if_pos rfl] at h; injection h with h; injection h with h1 h2; subst h1 h2; simp
  · cases h
section
variable {w : World}
theorem unGo_none {n fu k : Nat} {acc l : List UInt8} (h : k < l.length) (hf : l.length ≤ k + fu) (hs : stepU n (l.drop k) = none) : unGo n fu acc k (l.drop k) = ([], k, 3) := by
  cases fu with
  | zero => omega
  | succ fu =>
    cases hd : l.drop k with
    | nil =>
      have := congrArg List.length hd
      simp at this; omega
    | cons c t => rw [unGo, ← hd, hs]
theorem unGo_some {n fu k j : Nat} {acc l x : List UInt8} (h : k < l.length) (hf : l.length ≤ k + fu) (hs : stepU n (l.drop k) = some (x, j)) (hj : 1 ≤ j) :
    ∃ fu', unGo n fu acc k (l.drop k) = unGo n fu' (acc ++ x) (k + j) (l.drop (k + j)) ∧ l.length ≤ k + j + fu' := by
  cases fu with
  | zero => omega
  | succ fu =>
    refine ⟨fu, ?_, by omega⟩
    cases hd : l.drop k with
    | nil =>
      have := congrArg List.length hd
      simp at this; omega
    | cons c t => rw [unGo, ← hd, hs]; simp only; rw [List.drop_drop]
theorem unGo_end {n fu k : Nat} {acc : List UInt8} : unGo n fu acc k [] = (acc, 0, 0) := by
  cases fu <;> rfl
def unV (r : List UInt8 × Nat × Int) : Value := .tuple #[.string (str r.1), .int .i64 (r.2.1 : Int), .int .i64 r.2.2]
set_option maxHeartbeats 1600000 in
theorem un_no (n : Int) (s : ByteArray) (hn : styleZ n = false) : Calls Tryd.prog 13 #[.int .i64 n, .string s] w fun e w' => e = .returned (unV (unZ n (bys s))) ∧ Ext w w' := by
  have hs : unZ n (bys s) = ([], 0, 1) := by unfold unZ; rw [hn]; rfl
  rw [hs]
  clear hs
  have HN := Lib.hid hn
  clear hn
  go_enter Tryd.func13, Tryd.ntmps13
  go_wp2_with (first
    | (go_at_call 19; refine Hid.out ?_))
  refine Hid.mk_ ((style_any n).mono ?_)
  rintro e w1 ⟨rfl, rfl⟩
  rw [HN.out]
  go_wp2
  go_ret3
  exact ⟨rfl, Ext.refl _⟩
set_option maxHeartbeats 3200000 in
theorem un_bs (n : Nat) (h1 : 1 ≤ n) (h3 : n ≤ 3) (s : ByteArray) (hsz : s.size ≤ 100000) : Calls Tryd.prog 13 #[.int .i64 (n : Int), .string s] w fun e w' => e = .returned (unV (unL n (bys s))) ∧ Ext w w' := by
  have hst : styleZ (n : Int) = true := decide_eq_true (by omega)
  have HS := Lib.hid hst
  have HBL := Lib.hid (bys_len s)
  have t4 : ((n : Int) == 4) = false := by rw [beq_eq_false_iff_ne]; omega
  have hn4 : n ≠ 4 := by omega
  clear hst
  go_enter Tryd.func13, Tryd.ntmps13
  go_wp2_with (first
    | (go_at_call 19; refine Hid.out ?_))
  refine Hid.mk_ ((style_any (n : Int)).mono ?_)
  rintro e w1 ⟨rfl, rfl⟩
  rw [HS.out]
  go_wp2
  go_loopw [10] (fun i wr => ∃ (k fu : Nat) (acc : List UInt8), k ≤ s.size ∧ i = .int .i64 k ∧ Bld wr w1.heap.size w1.heap.size acc ∧ acc.length ≤ 4 * k ∧ Hid (unL n (bys s) = unGo n fu acc k ((bys s).drop k) ∧ (bys s).length ≤ k + fu) ∧ Ext w1 wr) (fun i _ => s.size - (intOf i).toNat)
  case atStart => exact ⟨0, (bys s).length, [], Nat.zero_le _, rfl, Bld.new _, by simp, Lib.hid ⟨by rw [List.drop_zero]; rfl, by omega⟩, (Ext.refl _).alloc _⟩
  case round =>
    obtain ⟨k, fu, acc, hk, rfl, hB, hal, H, hE⟩ := hrel
    by_cases hlt : k < s.size
    · have hi1 : (k : Int) < (s.size : Int) := by omega
      have hlk : k < (bys s).length := by rw [HBL.out]; exact hlt
      have hbk := bys_at s k hlt
      have hdr : (bys s).drop k = (s[k]'hlt) :: (bys s).drop (k + 1) := by rw [List.drop_eq_getElem_cons hlk, hbk]
      have HDR := Lib.hid hdr
      obtain ⟨c, hc⟩ : ∃ c, c = s[k]'hlt := ⟨_, rfl⟩
      rw [← hc] at hdr
      obtain ⟨b, hb⟩ : ∃ b, b = c.toNat := ⟨_, rfl⟩
      have hsb : (s[k]'hlt).toNat = b := by rw [hb, hc]
      have hcb : c = by_ b := by rw [hb]; unfold by_; simp
      have hb256 : b < 256 := by rw [hb]; exact UInt8.toNat_lt _
      rw [hcb] at hdr
      have HD := Lib.hid hdr
      clear hc hb hcb hbk hdr HDR
      by_cases h92 : b = 92
      · subst h92
        have hst : stepU n ((bys s).drop k) = readB ((bys s).drop k) := by
          rw [HD.out, stepU, if_pos ⟨hn4, rfl⟩]
        have HT := Lib.hid hst
        clear hst
        have hex : bys (s.extract k s.size) = (bys s).drop k := by rw [bys_extract, List.take_of_length_le (by rw [HBL.out]; omega)]
        obtain ⟨x, hx⟩ : ∃ x, x = s.extract k s.size := ⟨_, rfl⟩
        have hx' : s.extract k s.size = x := hx.symm
        rw [hx'] at hex
        have hxs : x.size ≤ 100000 := by rw [← bys_len, hex, List.length_drop, HBL.out]; omega
        have HEX := Lib.hid hex
        clear hx hex
        obtain ⟨o, ho⟩ : ∃ o, o = readB ((bys s).drop k) := ⟨_, rfl⟩
        have HO := Lib.hid ho
        clear ho
        go_wp2_with (first
          | (go_at_call 25; refine Hid.out ?_))
        refine Hid.mk_ ((readB_any x hxs).mono ?_)
        rintro e w2 ⟨rfl, hE2⟩
        rw [HEX.out, ← HO.out]
        cases o with
        | none =>
          have hfin : unL n (bys s) = ([], k, 3) := by rw [H.out.1]; exact unGo_none hlk H.out.2 (by rw [HT.out, ← HO.out])
          have HF := Lib.hid hfin
          clear hfin
          go_wp2
          go_ret3
          exact ⟨by rw [HF.out]; rfl, hE.trans hE2⟩
        | some p =>
          obtain ⟨y, j⟩ := p
          have hj := stepU_pos (HT.out.trans HO.out.symm)
          have hb2 := readB_bound HO.out.symm
          obtain ⟨fu2, hf2, hf3⟩ := unGo_some hlk H.out.2 (HT.out.trans HO.out.symm) hj (acc := acc)
          have HH := Lib.hid (show unL n (bys s) = unGo n fu2 (acc ++ y) (k + j) ((bys s).drop (k + j)) ∧ (bys s).length ≤ k + j + fu2 from ⟨H.out.1.trans hf2, hf3⟩)
          have hkj : k + j ≤ s.size := by have := hb2.2; rw [List.length_drop, HBL.out] at this; omega
          have hy4 : y.length ≤ 4 * j := hb2.1
          have hj0 : ((j : Int) == 0) = false := by rw [beq_eq_false_iff_ne]; omega
          clear hf2 hf3 hb2
          simp only [rdX, rdK]
          have hB2 := hB.ext hE2
          have hE12 := hE.trans hE2
          go_wp2_with (first
            | (go_at_call 20; refine Hid.out ?_))
          refine Hid.mk_ ((wstr_any _ hB2 (by rw [str_size]; omega) hE12.size_le).mono ?_)
          rintro e w3 ⟨rfl, hB3, hE3⟩
          have hE13 := hE12.trans' hE3
          rw [bys_str] at hB3
          go_wp2
          go_roundw
          case rel => exact ⟨k + j, fu2, acc ++ y, hkj, by go_num, hB3, by rw [List.length_append]; omega, HH, hE13⟩
          case measure => simp [intOf]; omega
      · have hq92 : ((b : Int) == 92) = false := by rw [beq_eq_false_iff_ne]; omega
        have hc92 : by_ b ≠ 92 := fun e => h92 (by have := congrArg UInt8.toNat e; unfold by_ at this; rw [UInt8.toNat_ofNat', Nat.mod_eq_of_lt hb256] at this; exact this)
        have hst : stepU n ((bys s).drop k) = if forb n (by_ b) then none else some ([by_ b], 1) := by
          rw [HD.out, stepU, if_neg (fun h => hc92 h.2), if_neg (fun h => hn4 h.1)]
        clear h92 hc92
        cases hfo : forb n (by_ b) with
        | true =>
          rw [hfo, if_pos rfl] at hst
          have hfin : unL n (bys s) = ([], k, 3) := by rw [H.out.1]; exact unGo_none hlk H.out.2 hst
          have HF := Lib.hid hfin
          have HO := Lib.hid hfo
          clear hfin hst hfo
          go_wp2_with (first
            | (go_at_call 27; refine Hid.out ?_))
          refine Hid.mk_ ((forb_any n b h1 (by omega) hb256).mono ?_)
          rintro e w2 ⟨rfl, rfl⟩
          rw [HO.out]
          go_wp2
          go_ret3
          exact ⟨by rw [HF.out]; rfl, hE⟩
        | false =>
          rw [hfo, if_neg (by simp)] at hst
          obtain ⟨fu2, hf2, hf3⟩ := unGo_some hlk H.out.2 hst (Nat.le_refl _) (acc := acc)
          have HH := Lib.hid (show unL n (bys s) = unGo n fu2 (acc ++ [by_ b]) (k + 1) ((bys s).drop (k + 1)) ∧ (bys s).length ≤ k + 1 + fu2 from ⟨H.out.1.trans hf2, hf3⟩)
          have HO := Lib.hid hfo
          clear hf2 hf3 hst hfo
          go_wp2_with (first
            | (go_at_call 27; refine Hid.out ?_))
          refine Hid.mk_ ((forb_any n b h1 (by omega) hb256).mono ?_)
          rintro e w2 ⟨rfl, rfl⟩
          rw [HO.out]
          go_wp2_with (first
            | (go_at_call 28; refine Hid.out ?_))
          refine Hid.mk_ ((wbyte_any b hb256 hB (by omega) hE.size_le).mono ?_)
          rintro e w3 ⟨rfl, hB3, hE3⟩
          have hE13 := hE.trans' hE3
          go_wp2
          go_roundw
          case rel => exact ⟨k + 1, fu2, acc ++ [by_ b], by omega, by go_num, hB3, by rw [List.length_append]; simp; omega, HH, hE13⟩
          case measure => simp [intOf]; omega
    · have hi1 : ¬ (k : Int) < (s.size : Int) := by omega
      have hfin : unL n (bys s) = (acc, 0, 0) := by rw [H.out.1, List.drop_eq_nil_of_le (by rw [HBL.out]; omega), unGo_end]
      have HF := Lib.hid hfin
      clear hfin
      go_wp2_with (first
        | (go_at_call 23; refine Hid.out ?_))
      refine Hid.mk_ ((bstr_any hB hE.size_le).mono ?_)
      rintro e w3 ⟨rfl, hE3⟩
      go_wp2
      go_ret3
      exact ⟨by rw [HF.out]; rfl, hE.trans' hE3⟩
set_option maxHeartbeats 3200000 in
theorem un_en (n : Nat) (hn4 : n = 4) (s : ByteArray) (hsz : s.size ≤ 100000) : Calls Tryd.prog 13 #[.int .i64 (n : Int), .string s] w fun e w' => e = .returned (unV (unL n (bys s))) ∧ Ext w w' := by
  have hst : styleZ (n : Int) = true := decide_eq_true (by omega)
  have HS := Lib.hid hst
  have HBL := Lib.hid (bys_len s)
  have t4 : ((n : Int) == 4) = true := by rw [hn4]; rfl
  have h1 : 1 ≤ n := by omega
  have hn4' : n ≤ 4 := by omega
  have HN4 := Lib.hid hn4
  clear hn4
  clear hst
  go_enter Tryd.func13, Tryd.ntmps13
  go_wp2_with (first
    | (go_at_call 19; refine Hid.out ?_))
  refine Hid.mk_ ((style_any (n : Int)).mono ?_)
  rintro e w1 ⟨rfl, rfl⟩
  rw [HS.out]
  go_wp2
  go_loopw [10] (fun i wr => ∃ (k fu : Nat) (acc : List UInt8), k ≤ s.size ∧ i = .int .i64 k ∧ Bld wr w1.heap.size w1.heap.size acc ∧ acc.length ≤ 4 * k ∧ Hid (unL n (bys s) = unGo n fu acc k ((bys s).drop k) ∧ (bys s).length ≤ k + fu) ∧ Ext w1 wr) (fun i _ => s.size - (intOf i).toNat)
  case atStart => exact ⟨0, (bys s).length, [], Nat.zero_le _, rfl, Bld.new _, by simp, Lib.hid ⟨by rw [List.drop_zero]; rfl, by omega⟩, (Ext.refl _).alloc _⟩
  case round =>
    obtain ⟨k, fu, acc, hk, rfl, hB, hal, H, hE⟩ := hrel
    by_cases hlt : k < s.size
    · have hi1 : (k : Int) < (s.size : Int) := by omega
      have hlk : k < (bys s).length := by rw [HBL.out]; exact hlt
      have hbk := bys_at s k hlt
      have hdr : (bys s).drop k = (s[k]'hlt) :: (bys s).drop (k + 1) := by rw [List.drop_eq_getElem_cons hlk, hbk]
      have HDR := Lib.hid hdr
      obtain ⟨c, hc⟩ : ∃ c, c = s[k]'hlt := ⟨_, rfl⟩
      rw [← hc] at hdr
      obtain ⟨b, hb⟩ : ∃ b, b = c.toNat := ⟨_, rfl⟩
      have hsb : (s[k]'hlt).toNat = b := by rw [hb, hc]
      have hcb : c = by_ b := by rw [hb]; unfold by_; simp
      have hb256 : b < 256 := by rw [hb]; exact UInt8.toNat_lt _
      rw [hcb] at hdr
      have HD := Lib.hid hdr
      clear hc hb hcb hbk hdr HDR
      by_cases h38 : b = 38
      · subst h38
        have hst : stepU n ((bys s).drop k) = readE ((bys s).drop k) := by
          rw [HD.out, stepU, if_neg (fun h => h.1 HN4.out), if_pos ⟨HN4.out, rfl⟩]
        have HT := Lib.hid hst
        clear hst
        have hex : bys (s.extract k s.size) = (bys s).drop k := by rw [bys_extract, List.take_of_length_le (by rw [HBL.out]; omega)]
        obtain ⟨x, hx⟩ : ∃ x, x = s.extract k s.size := ⟨_, rfl⟩
        have hx' : s.extract k s.size = x := hx.symm
        rw [hx'] at hex
        have hxs : x.size ≤ 100000 := by rw [← bys_len, hex, List.length_drop, HBL.out]; omega
        have HEX := Lib.hid hex
        clear hx hex
        obtain ⟨o, ho⟩ : ∃ o, o = readE ((bys s).drop k) := ⟨_, rfl⟩
        have HO := Lib.hid ho
        clear ho
        go_wp2_with (first
          | (go_at_call 26; refine Hid.out ?_))
        refine Hid.mk_ ((readE_any x ((bys s).drop (k + 1)) (HEX.out.trans HD.out) hxs).mono ?_)
        rintro e w2 ⟨rfl, hE2⟩
        rw [HEX.out, ← HO.out]
        cases o with
        | none =>
          have hfin : unL n (bys s) = ([], k, 3) := by rw [H.out.1]; exact unGo_none hlk H.out.2 (by rw [HT.out, ← HO.out])
          have HF := Lib.hid hfin
          clear hfin
          go_wp2
          go_ret3
          exact ⟨by rw [HF.out]; rfl, hE.trans hE2⟩
        | some p =>
          obtain ⟨y, j⟩ := p
          have hj := stepU_pos (HT.out.trans HO.out.symm)
          have hb2 := readE_bound HO.out.symm
          obtain ⟨fu2, hf2, hf3⟩ := unGo_some hlk H.out.2 (HT.out.trans HO.out.symm) hj (acc := acc)
          have HH := Lib.hid (show unL n (bys s) = unGo n fu2 (acc ++ y) (k + j) ((bys s).drop (k + j)) ∧ (bys s).length ≤ k + j + fu2 from ⟨H.out.1.trans hf2, hf3⟩)
          have hkj : k + j ≤ s.size := by have := hb2.2; rw [List.length_drop, HBL.out] at this; omega
          have hy4 : y.length ≤ 4 * j := hb2.1
          have hj0 : ((j : Int) == 0) = false := by rw [beq_eq_false_iff_ne]; omega
          clear hf2 hf3 hb2
          simp only [rdX, rdK]
          have hB2 := hB.ext hE2
          have hE12 := hE.trans hE2
          go_wp2_with (first
            | (go_at_call 20; refine Hid.out ?_))
          refine Hid.mk_ ((wstr_any _ hB2 (by rw [str_size]; omega) hE12.size_le).mono ?_)
          rintro e w3 ⟨rfl, hB3, hE3⟩
          have hE13 := hE12.trans' hE3
          rw [bys_str] at hB3
          go_wp2
          go_roundw
          case rel => exact ⟨k + j, fu2, acc ++ y, hkj, by go_num, hB3, by rw [List.length_append]; omega, HH, hE13⟩
          case measure => simp [intOf]; omega
      · have hq38 : ((b : Int) == 38) = false := by rw [beq_eq_false_iff_ne]; omega
        have hc38 : by_ b ≠ 38 := fun e => h38 (by have := congrArg UInt8.toNat e; unfold by_ at this; rw [UInt8.toNat_ofNat', Nat.mod_eq_of_lt hb256] at this; exact this)
        have hst : stepU n ((bys s).drop k) = if forb n (by_ b) then none else some ([by_ b], 1) := by
          rw [HD.out, stepU, if_neg (fun h => h.1 HN4.out), if_neg (fun h => hc38 h.2)]
        clear h38 hc38
        cases hfo : forb n (by_ b) with
        | true =>
          rw [hfo, if_pos rfl] at hst
          have hfin : unL n (bys s) = ([], k, 3) := by rw [H.out.1]; exact unGo_none hlk H.out.2 hst
          have HF := Lib.hid hfin
          have HO := Lib.hid hfo
          clear hfin hst hfo
          go_wp2_with (first
            | (go_at_call 27; refine Hid.out ?_))
          refine Hid.mk_ ((forb_any n b h1 (by omega) hb256).mono ?_)
          rintro e w2 ⟨rfl, rfl⟩
          rw [HO.out]
          go_wp2
          go_ret3
          exact ⟨by rw [HF.out]; rfl, hE⟩
        | false =>
          rw [hfo, if_neg (by simp)] at hst
          obtain ⟨fu2, hf2, hf3⟩ := unGo_some hlk H.out.2 hst (Nat.le_refl _) (acc := acc)
          have HH := Lib.hid (show unL n (bys s) = unGo n fu2 (acc ++ [by_ b]) (k + 1) ((bys s).drop (k + 1)) ∧ (bys s).length ≤ k + 1 + fu2 from ⟨H.out.1.trans hf2, hf3⟩)
          have HO := Lib.hid hfo
          clear hf2 hf3 hst hfo
          go_wp2_with (first
            | (go_at_call 27; refine Hid.out ?_))
          refine Hid.mk_ ((forb_any n b h1 (by omega) hb256).mono ?_)
          rintro e w2 ⟨rfl, rfl⟩
          rw [HO.out]
          go_wp2_with (first
            | (go_at_call 28; refine Hid.out ?_))
          refine Hid.mk_ ((wbyte_any b hb256 hB (by omega) hE.size_le).mono ?_)
          rintro e w3 ⟨rfl, hB3, hE3⟩
          have hE13 := hE.trans' hE3
          go_wp2
          go_roundw
          case rel => exact ⟨k + 1, fu2, acc ++ [by_ b], by omega, by go_num, hB3, by rw [List.length_append]; simp; omega, HH, hE13⟩
          case measure => simp [intOf]; omega
    · have hi1 : ¬ (k : Int) < (s.size : Int) := by omega
      have hfin : unL n (bys s) = (acc, 0, 0) := by rw [H.out.1, List.drop_eq_nil_of_le (by rw [HBL.out]; omega), unGo_end]
      have HF := Lib.hid hfin
      clear hfin
      go_wp2_with (first
        | (go_at_call 23; refine Hid.out ?_))
      refine Hid.mk_ ((bstr_any hB hE.size_le).mono ?_)
      rintro e w3 ⟨rfl, hE3⟩
      go_wp2
      go_ret3
      exact ⟨by rw [HF.out]; rfl, hE.trans' hE3⟩
theorem un_any (n : Int) (s : ByteArray) (hsz : s.size ≤ 100000) : Calls Tryd.prog 13 #[.int .i64 n, .string s] w fun e w' => e = .returned (unV (unZ n (bys s))) ∧ Ext w w' := by
  cases hn : styleZ n with
  | false => exact un_no n s hn
  | true =>
    have h : 1 ≤ n ∧ n ≤ 4 := of_decide_eq_true hn
    obtain ⟨k, rfl⟩ : ∃ k : Nat, n = k := ⟨n.toNat, by omega⟩
    have h2 : unZ (k : Int) (bys s) = unL k (bys s) := by unfold unZ; rw [hn]; rfl
    rw [h2]
    by_cases h4 : k = 4
    · exact un_en k h4 s hsz
    · exact un_bs k (by omega) (by omega) s hsz
end

end Go.Proofs.YtkicjbmljbfojaaDoor
