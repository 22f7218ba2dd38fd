/- The reference's Unescape. -/
import Derived.Test.YtkicjbmljbfojaaDoorEscQ3
namespace Go.Proofs.YtkicjbmljbfojaaDoor
open Go.RowKit Go.Shelf
set_option maxRecDepth 100000

attribute [local go_sem] ext_refl_t ext_alloc_t ext_drew_t ext_drewN_t ext_alloc2_t ext_alloc3_t ext_alloc4_t ext_alloc5_t ext_alloc6_t ext_alloc7_t ext_alloc8_t ext_alloc1d_t ext_alloc2d_t ext_alloc3d_t ext_alloc4d_t
section
variable {w : World}
theorem rstyle2_any (n : Int) : Calls Tryd.prog 15 #[.int .i64 n] w fun e w' => e = .returned (.bool (styleZ n)) ∧ w' = w := by
  by_cases h1 : 1 ≤ n
  · by_cases h2 : n ≤ 4
    · have hs : styleZ n = true := decide_eq_true ⟨h1, h2⟩
      rw [hs]
      go_enter Tryd.func15, Tryd.ntmps15
      go_wp2
      go_ret
      exact ⟨rfl, rfl⟩
    · have hs : styleZ n = false := decide_eq_false fun h => h2 h.2
      rw [hs]
      go_enter Tryd.func15, Tryd.ntmps15
      go_wp2
      go_ret
      exact ⟨rfl, rfl⟩
  · have hs : styleZ n = false := decide_eq_false fun h => h1 h.1
    rw [hs]
    go_enter Tryd.func15, Tryd.ntmps15
    go_wp2
    go_ret
    exact ⟨rfl, rfl⟩
set_option maxHeartbeats 1600000 in
theorem run_no (n : Int) (s : ByteArray) (hn : styleZ n = false) : Calls Tryd.prog 14 #[.int .i64 n, .string s] w fun e w' => e = .returned (unV (unZ n (bys s))) ∧ Ext w w' := by
  have hs : unZ n (bys s) = ([], 0, 1) := by unfold unZ; rw [hn]; rfl
  rw [hs]
  clear hs
  have HN := Lib.hid hn
  clear hn
  go_enter Tryd.func14, Tryd.ntmps14
  go_wp2_with (first
    | (go_at_call 15; refine Hid.out ?_))
  refine Hid.mk_ ((rstyle2_any n).mono ?_)
  rintro e w1 ⟨rfl, rfl⟩
  rw [HN.out]
  go_wp2
  go_ret3
  exact ⟨rfl, Ext.refl _⟩
set_option maxHeartbeats 3200000 in
theorem run_bs (n : Nat) (h1 : 1 ≤ n) (h3 : n ≤ 3) (s : ByteArray) (hsz : s.size ≤ 100000) : Calls Tryd.prog 14 #[.int .i64 (n : Int), .string s] w fun e w' => e = .returned (unV (unL n (bys s))) ∧ Ext w w' := by
  have hst : styleZ (n : Int) = true := decide_eq_true (by omega)
  have HS := Lib.hid hst
  have HBL := Lib.hid (bys_len s)
  have t4 : ((n : Int) == 4) = false := by rw [beq_eq_false_iff_ne]; omega
  have t4' : ((n : Int) != 4) = true := by rw [bne_iff_ne]; omega
  have hn4 : n ≠ 4 := by omega
  clear hst
  go_enter Tryd.func14, Tryd.ntmps14
  go_wp2_with (first
    | (go_at_call 15; refine Hid.out ?_))
  refine Hid.mk_ ((rstyle2_any (n : Int)).mono ?_)
  rintro e w1 ⟨rfl, rfl⟩
  rw [HS.out]
  go_wp2
  go_loopw [7, 8] (fun v i wr => ∃ (A : Option Addr) (m c k fu : Nat) (acc : List UInt8), k ≤ s.size ∧ v = .slice A m c ∧ i = .int .i64 k ∧ OsB wr w1.heap.size A m c acc ∧ acc.length ≤ 4 * k ∧ Hid (unL n (bys s) = unGo n fu acc k ((bys s).drop k) ∧ (bys s).length ≤ k + fu) ∧ Ext w1 wr) (fun _ i _ => s.size - (intOf i).toNat)
  case atStart => exact ⟨none, 0, 0, 0, (bys s).length, [], Nat.zero_le _, rfl, rfl, OsB.nil_, by simp, Lib.hid ⟨by rw [List.drop_zero]; rfl, by omega⟩, Ext.refl _⟩
  case round =>
    obtain ⟨A, m, c, k, fu, acc, hk, rfl, rfl, hB, hal, H, hE⟩ := hrel
    have hml := hB.len
    by_cases hlt : k < s.size
    · have hi1 : (k : Int) < (s.size : Int) := by omega
      have hlk : k < (bys s).length := by rw [HBL.out]; exact hlt
      have hbk := bys_at s k hlt
      have hdr : (bys s).drop k = (s[k]'hlt) :: (bys s).drop (k + 1) := by rw [List.drop_eq_getElem_cons hlk, hbk]
      have HDR := Lib.hid hdr
      obtain ⟨ch, hc⟩ : ∃ ch, ch = s[k]'hlt := ⟨_, rfl⟩
      rw [← hc] at hdr
      obtain ⟨b, hb⟩ : ∃ b, b = ch.toNat := ⟨_, rfl⟩
      have hsb : (s[k]'hlt).toNat = b := by rw [hb, hc]
      have hcb : ch = by_ b := by rw [hb]; unfold by_; simp
      have hb256 : b < 256 := by rw [hb]; exact UInt8.toNat_lt _
      rw [hcb] at hdr
      have HD := Lib.hid hdr
      have hx1 : s.extract k (k + 1) = str [by_ b] := by
        apply bys_inj
        rw [bys_extract, bys_str, List.take_succ_eq_append_getElem hlk, List.drop_append_of_le_length (by rw [List.length_take]; omega), List.drop_eq_nil_of_le (by rw [List.length_take]; omega), hbk, ← hc, hcb]
        rfl
      have HML := Lib.hid hml
      have hm4 : m ≤ 4 * k := by omega
      clear hml
      clear hc hb hcb hbk hdr HDR
      by_cases h92 : b = 92
      · subst h92
        have hst : stepU n ((bys s).drop k) = readB ((bys s).drop k) := by
          rw [HD.out, stepU, if_pos ⟨hn4, rfl⟩]
        have HT := Lib.hid hst
        clear hst
        have hex : bys (s.extract k s.size) = (bys s).drop k := by rw [bys_extract, List.take_of_length_le (by rw [HBL.out]; omega)]
        obtain ⟨x, hx⟩ : ∃ x, x = s.extract k s.size := ⟨_, rfl⟩
        have hx' : s.extract k s.size = x := hx.symm
        rw [hx'] at hex
        have hxs : x.size ≤ 100000 := by rw [← bys_len, hex, List.length_drop, HBL.out]; omega
        have HEX := Lib.hid hex
        clear hx hex
        obtain ⟨o, ho⟩ : ∃ o, o = readB ((bys s).drop k) := ⟨_, rfl⟩
        have HO := Lib.hid ho
        clear ho
        go_wp2_with (first
          | (go_at_call 29; refine Hid.out ?_))
        refine Hid.mk_ ((rback_any x hxs).mono ?_)
        rintro e w2 ⟨rfl, hE2⟩
        rw [HEX.out, ← HO.out]
        cases o with
        | none =>
          have hfin : unL n (bys s) = ([], k, 3) := by rw [H.out.1]; exact unGo_none hlk H.out.2 (by rw [HT.out, ← HO.out])
          have HF := Lib.hid hfin
          clear hfin
          go_wp2
          go_ret3
          exact ⟨by rw [HF.out]; rfl, hE.trans hE2⟩
        | some p =>
          obtain ⟨y, j⟩ := p
          have hj := stepU_pos (HT.out.trans HO.out.symm)
          have hb2 := readB_bound HO.out.symm
          obtain ⟨fu2, hf2, hf3⟩ := unGo_some hlk H.out.2 (HT.out.trans HO.out.symm) hj (acc := acc)
          have HH := Lib.hid (show unL n (bys s) = unGo n fu2 (acc ++ y) (k + j) ((bys s).drop (k + j)) ∧ (bys s).length ≤ k + j + fu2 from ⟨H.out.1.trans hf2, hf3⟩)
          have hkj : k + j ≤ s.size := by have := hb2.2; rw [List.length_drop, HBL.out] at this; omega
          have hy4 : y.length ≤ 4 * j := hb2.1
          have hj0 : ((j : Int) == 0) = false := by rw [beq_eq_false_iff_ne]; omega
          clear hf2 hf3 hb2
          simp only [rdX, rdK]
          have hB2 := hB.ext hE2
          have hE12 := hE.trans hE2
          go_wp2_with (first
            | (at_builtin; refine Hid.out ?_))
          refine Hid.mk_ ?_
          refine appS rfl _ _ rfl hB2 rfl _ rfl (by rw [str_size]; omega) hE12.size_le ?_
          intro A3 m3 c3 w3 hB3 hg3 hat3
          have hE13 : Ext w1 w3 := hE12.grown hg3 hB2.ge
          have hB3' : OsB w3 w1.heap.size A3 m3 c3 (acc ++ y) := hB3
          go_wp2
          go_roundw
          case rel => exact ⟨A3, m3, c3, k + j, fu2, acc ++ y, hkj, rfl, by go_num, hB3', by rw [List.length_append]; omega, HH, hE13⟩
          case measure => simp [intOf]; omega
      · have hq92 : ((b : Int) == 92) = false := by rw [beq_eq_false_iff_ne]; omega
        have hc92 : by_ b ≠ 92 := fun e => h92 (by have := congrArg UInt8.toNat e; unfold by_ at this; rw [UInt8.toNat_ofNat', Nat.mod_eq_of_lt hb256] at this; exact this)
        have hst : stepU n ((bys s).drop k) = if forb n (by_ b) then none else some ([by_ b], 1) := by
          rw [HD.out, stepU, if_neg (fun h => hc92 h.2), if_neg (fun h => hn4 h.1)]
        clear h92 hc92
        have hbb : (by_ b).toNat = b := by unfold by_; rw [UInt8.toNat_ofNat', Nat.mod_eq_of_lt hb256]
        have hfb : forb n (by_ b) = (b == 10 || (n != 1 && b == 34)) := by
          have h := all_bytes (p := fun n b _ => n == 0 || n == 4 || forb n (by_ b) == (b == 10 || (n != 1 && b == 34))) (by kernel_rfl) n (by omega) (by_ b) true
          rw [hbb] at h
          simp only [Bool.or_eq_true, beq_iff_eq] at h
          rcases h with (h | h) | h
          · omega
          · omega
          · exact h
        have hn2 : (((n : Int) == 2) = true ∧ (n != 1) = true) ∨ (((n : Int) == 2) = false ∧ ((n : Int) == 3) = true ∧ (n != 1) = true) ∨ (((n : Int) == 2) = false ∧ ((n : Int) == 3) = false ∧ (n != 1) = false) := by
          obtain h | h | h : n = 1 ∨ n = 2 ∨ n = 3 := by omega
          all_goals (rw [h]; decide)
        by_cases h10 : b = 10
        · have hfo : forb n (by_ b) = true := by rw [hfb, h10]; rfl
          have q10 : ((b : Int) == 10) = true := by rw [h10]; rfl
          rw [hfo, if_pos rfl] at hst
          have hfin : unL n (bys s) = ([], k, 3) := by rw [H.out.1]; exact unGo_none hlk H.out.2 hst
          have HF := Lib.hid hfin
          clear hfin hst hfo
          clear hfb hbb hn2 h10
          go_wp2
          go_ret3
          exact ⟨by rw [HF.out]; rfl, hE⟩
        have q10 : ((b : Int) == 10) = false := by rw [beq_eq_false_iff_ne]; omega
        by_cases h34 : b = 34
        · have q34 : ((b : Int) == 34) = true := by rw [h34]; rfl
          rcases hn2 with ⟨n2, n1⟩ | ⟨n2, n3, n1⟩ | ⟨n2, n3, n1⟩
          · have hfo : forb n (by_ b) = true := by rw [hfb, h34, n1]; rfl
            rw [hfo, if_pos rfl] at hst
            have hfin : unL n (bys s) = ([], k, 3) := by rw [H.out.1]; exact unGo_none hlk H.out.2 hst
            have HF := Lib.hid hfin
            clear hfin hst hfo
            clear hfb hbb n1 h10 h34
            go_wp2
            go_ret3
            exact ⟨by rw [HF.out]; rfl, hE⟩
          · have hfo : forb n (by_ b) = true := by rw [hfb, h34, n1]; rfl
            rw [hfo, if_pos rfl] at hst
            have hfin : unL n (bys s) = ([], k, 3) := by rw [H.out.1]; exact unGo_none hlk H.out.2 hst
            have HF := Lib.hid hfin
            clear hfin hst hfo
            clear hfb hbb n1 h10 h34
            go_wp2
            go_ret3
            exact ⟨by rw [HF.out]; rfl, hE⟩
          · have hfo : forb n (by_ b) = false := by rw [hfb, h34, n1]; rfl
            rw [hfo, if_neg (by simp)] at hst
            obtain ⟨fu2, hf2, hf3⟩ := unGo_some hlk H.out.2 hst (Nat.le_refl _) (acc := acc)
            have HH := Lib.hid (show unL n (bys s) = unGo n fu2 (acc ++ [by_ b]) (k + 1) ((bys s).drop (k + 1)) ∧ (bys s).length ≤ k + 1 + fu2 from ⟨H.out.1.trans hf2, hf3⟩)
            clear hf2 hf3 hst hfo
            clear hfb hbb n1 h10 h34
            go_wp2_with (first
              | (at_builtin; refine Hid.out ?_))
            refine Hid.mk_ ?_
            refine appS rfl _ _ rfl hB rfl _ rfl (by rw [str_size]; simp; omega) hE.size_le ?_
            intro A3 m3 c3 w3 hB3 hg3 hat3
            have hE13 : Ext w1 w3 := hE.grown hg3 hB.ge
            have hB3' : OsB w3 w1.heap.size A3 m3 c3 (acc ++ [by_ b]) := hB3
            go_wp2
            go_roundw
            case rel => exact ⟨A3, m3, c3, k + 1, fu2, acc ++ [by_ b], by omega, rfl, by go_num, hB3', by rw [List.length_append]; simp; omega, HH, hE13⟩
            case measure => simp [intOf]; omega
        have q34 : ((b : Int) == 34) = false := by rw [beq_eq_false_iff_ne]; omega
        have hfo : forb n (by_ b) = false := by rw [hfb, beq_eq_false_iff_ne.2 h10, beq_eq_false_iff_ne.2 h34]; simp
        rw [hfo, if_neg (by simp)] at hst
        obtain ⟨fu2, hf2, hf3⟩ := unGo_some hlk H.out.2 hst (Nat.le_refl _) (acc := acc)
        have HH := Lib.hid (show unL n (bys s) = unGo n fu2 (acc ++ [by_ b]) (k + 1) ((bys s).drop (k + 1)) ∧ (bys s).length ≤ k + 1 + fu2 from ⟨H.out.1.trans hf2, hf3⟩)
        clear hf2 hf3 hst hfo
        clear hfb hbb h10 h34
        rcases hn2 with ⟨n2, n1⟩ | ⟨n2, n3, n1⟩ | ⟨n2, n3, n1⟩
        · clear n1
          go_wp2_with (first
            | (at_builtin; refine Hid.out ?_))
          refine Hid.mk_ ?_
          refine appS rfl _ _ rfl hB rfl _ rfl (by rw [str_size]; simp; omega) hE.size_le ?_
          intro A3 m3 c3 w3 hB3 hg3 hat3
          have hE13 : Ext w1 w3 := hE.grown hg3 hB.ge
          have hB3' : OsB w3 w1.heap.size A3 m3 c3 (acc ++ [by_ b]) := hB3
          go_wp2
          go_roundw
          case rel => exact ⟨A3, m3, c3, k + 1, fu2, acc ++ [by_ b], by omega, rfl, by go_num, hB3', by rw [List.length_append]; simp; omega, HH, hE13⟩
          case measure => simp [intOf]; omega
        · clear n1
          go_wp2_with (first
            | (at_builtin; refine Hid.out ?_))
          refine Hid.mk_ ?_
          refine appS rfl _ _ rfl hB rfl _ rfl (by rw [str_size]; simp; omega) hE.size_le ?_
          intro A3 m3 c3 w3 hB3 hg3 hat3
          have hE13 : Ext w1 w3 := hE.grown hg3 hB.ge
          have hB3' : OsB w3 w1.heap.size A3 m3 c3 (acc ++ [by_ b]) := hB3
          go_wp2
          go_roundw
          case rel => exact ⟨A3, m3, c3, k + 1, fu2, acc ++ [by_ b], by omega, rfl, by go_num, hB3', by rw [List.length_append]; simp; omega, HH, hE13⟩
          case measure => simp [intOf]; omega
        · clear n1
          go_wp2_with (first
            | (at_builtin; refine Hid.out ?_))
          refine Hid.mk_ ?_
          refine appS rfl _ _ rfl hB rfl _ rfl (by rw [str_size]; simp; omega) hE.size_le ?_
          intro A3 m3 c3 w3 hB3 hg3 hat3
          have hE13 : Ext w1 w3 := hE.grown hg3 hB.ge
          have hB3' : OsB w3 w1.heap.size A3 m3 c3 (acc ++ [by_ b]) := hB3
          go_wp2
          go_roundw
          case rel => exact ⟨A3, m3, c3, k + 1, fu2, acc ++ [by_ b], by omega, rfl, by go_num, hB3', by rw [List.length_append]; simp; omega, HH, hE13⟩
          case measure => simp [intOf]; omega
    · have hi1 : ¬ (k : Int) < (s.size : Int) := by omega
      have hfin : unL n (bys s) = (acc, 0, 0) := by rw [H.out.1, List.drop_eq_nil_of_le (by rw [HBL.out]; omega), unGo_end]
      have HF := Lib.hid hfin
      clear hfin
      have hcv := conv_str hB.sl c
      clear hml
      go_wp2
      go_ret3
      exact ⟨by rw [HF.out]; rfl, hE⟩
set_option maxHeartbeats 3200000 in
theorem run_en (n : Nat) (hn4 : n = 4) (s : ByteArray) (hsz : s.size ≤ 100000) : Calls Tryd.prog 14 #[.int .i64 (n : Int), .string s] w fun e w' => e = .returned (unV (unL n (bys s))) ∧ Ext w w' := by
  have hst : styleZ (n : Int) = true := decide_eq_true (by omega)
  have HS := Lib.hid hst
  have HBL := Lib.hid (bys_len s)
  have t4 : ((n : Int) == 4) = true := by rw [hn4]; rfl
  have t4' : ((n : Int) != 4) = false := by rw [hn4]; rfl
  have t2 : ((n : Int) == 2) = false := by rw [hn4]; rfl
  have t3 : ((n : Int) == 3) = false := by rw [hn4]; rfl
  have h1 : 1 ≤ n := by omega
  have hn4' : n ≤ 4 := by omega
  have HN4 := Lib.hid hn4
  clear hn4
  clear hst
  go_enter Tryd.func14, Tryd.ntmps14
  go_wp2_with (first
    | (go_at_call 15; refine Hid.out ?_))
  refine Hid.mk_ ((rstyle2_any (n : Int)).mono ?_)
  rintro e w1 ⟨rfl, rfl⟩
  rw [HS.out]
  go_wp2
  go_loopw [7, 8] (fun v i wr => ∃ (A : Option Addr) (m c k fu : Nat) (acc : List UInt8), k ≤ s.size ∧ v = .slice A m c ∧ i = .int .i64 k ∧ OsB wr w1.heap.size A m c acc ∧ acc.length ≤ 4 * k ∧ Hid (unL n (bys s) = unGo n fu acc k ((bys s).drop k) ∧ (bys s).length ≤ k + fu) ∧ Ext w1 wr) (fun _ i _ => s.size - (intOf i).toNat)
  case atStart => exact ⟨none, 0, 0, 0, (bys s).length, [], Nat.zero_le _, rfl, rfl, OsB.nil_, by simp, Lib.hid ⟨by rw [List.drop_zero]; rfl, by omega⟩, Ext.refl _⟩
  case round =>
    obtain ⟨A, m, c, k, fu, acc, hk, rfl, rfl, hB, hal, H, hE⟩ := hrel
    have hml := hB.len
    by_cases hlt : k < s.size
    · have hi1 : (k : Int) < (s.size : Int) := by omega
      have hlk : k < (bys s).length := by rw [HBL.out]; exact hlt
      have hbk := bys_at s k hlt
      have hdr : (bys s).drop k = (s[k]'hlt) :: (bys s).drop (k + 1) := by rw [List.drop_eq_getElem_cons hlk, hbk]
      have HDR := Lib.hid hdr
      obtain ⟨ch, hc⟩ : ∃ ch, ch = s[k]'hlt := ⟨_, rfl⟩
      rw [← hc] at hdr
      obtain ⟨b, hb⟩ : ∃ b, b = ch.toNat := ⟨_, rfl⟩
      have hsb : (s[k]'hlt).toNat = b := by rw [hb, hc]
      have hcb : ch = by_ b := by rw [hb]; unfold by_; simp
      have hb256 : b < 256 := by rw [hb]; exact UInt8.toNat_lt _
      rw [hcb] at hdr
      have HD := Lib.hid hdr
      have hx1 : s.extract k (k + 1) = str [by_ b] := by
        apply bys_inj
        rw [bys_extract, bys_str, List.take_succ_eq_append_getElem hlk, List.drop_append_of_le_length (by rw [List.length_take]; omega), List.drop_eq_nil_of_le (by rw [List.length_take]; omega), hbk, ← hc, hcb]
        rfl
      have HML := Lib.hid hml
      have hm4 : m ≤ 4 * k := by omega
      clear hml
      clear hc hb hcb hbk hdr HDR
      by_cases h38 : b = 38
      · subst h38
        have hst : stepU n ((bys s).drop k) = readE ((bys s).drop k) := by
          rw [HD.out, stepU, if_neg (fun h => h.1 HN4.out), if_pos ⟨HN4.out, rfl⟩]
        have HT := Lib.hid hst
        clear hst
        have hex : bys (s.extract k s.size) = (bys s).drop k := by rw [bys_extract, List.take_of_length_le (by rw [HBL.out]; omega)]
        obtain ⟨x, hx⟩ : ∃ x, x = s.extract k s.size := ⟨_, rfl⟩
        have hx' : s.extract k s.size = x := hx.symm
        rw [hx'] at hex
        have hxs : x.size ≤ 100000 := by rw [← bys_len, hex, List.length_drop, HBL.out]; omega
        have HEX := Lib.hid hex
        clear hx hex
        obtain ⟨o, ho⟩ : ∃ o, o = readE ((bys s).drop k) := ⟨_, rfl⟩
        have HO := Lib.hid ho
        clear ho
        go_wp2_with (first
          | (go_at_call 30; refine Hid.out ?_))
        refine Hid.mk_ ((ramp_any x ((bys s).drop (k + 1)) (HEX.out.trans HD.out) hxs).mono ?_)
        rintro e w2 ⟨rfl, hE2⟩
        rw [HEX.out, ← HO.out]
        cases o with
        | none =>
          have hfin : unL n (bys s) = ([], k, 3) := by rw [H.out.1]; exact unGo_none hlk H.out.2 (by rw [HT.out, ← HO.out])
          have HF := Lib.hid hfin
          clear hfin
          go_wp2
          go_ret3
          exact ⟨by rw [HF.out]; rfl, hE.trans hE2⟩
        | some p =>
          obtain ⟨y, j⟩ := p
          have hj := stepU_pos (HT.out.trans HO.out.symm)
          have hb2 := readE_bound HO.out.symm
          obtain ⟨fu2, hf2, hf3⟩ := unGo_some hlk H.out.2 (HT.out.trans HO.out.symm) hj (acc := acc)
          have HH := Lib.hid (show unL n (bys s) = unGo n fu2 (acc ++ y) (k + j) ((bys s).drop (k + j)) ∧ (bys s).length ≤ k + j + fu2 from ⟨H.out.1.trans hf2, hf3⟩)
          have hkj : k + j ≤ s.size := by have := hb2.2; rw [List.length_drop, HBL.out] at this; omega
          have hy4 : y.length ≤ 4 * j := hb2.1
          have hj0 : ((j : Int) == 0) = false := by rw [beq_eq_false_iff_ne]; omega
          clear hf2 hf3 hb2
          simp only [rdX, rdK]
          have hB2 := hB.ext hE2
          have hE12 := hE.trans hE2
          go_wp2_with (first
            | (at_builtin; refine Hid.out ?_))
          refine Hid.mk_ ?_
          refine appS rfl _ _ rfl hB2 rfl _ rfl (by rw [str_size]; omega) hE12.size_le ?_
          intro A3 m3 c3 w3 hB3 hg3 hat3
          have hE13 : Ext w1 w3 := hE12.grown hg3 hB2.ge
          have hB3' : OsB w3 w1.heap.size A3 m3 c3 (acc ++ y) := hB3
          go_wp2
          go_roundw
          case rel => exact ⟨A3, m3, c3, k + j, fu2, acc ++ y, hkj, rfl, by go_num, hB3', by rw [List.length_append]; omega, HH, hE13⟩
          case measure => simp [intOf]; omega
      · have hq38 : ((b : Int) == 38) = false := by rw [beq_eq_false_iff_ne]; omega
        have hc38 : by_ b ≠ 38 := fun e => h38 (by have := congrArg UInt8.toNat e; unfold by_ at this; rw [UInt8.toNat_ofNat', Nat.mod_eq_of_lt hb256] at this; exact this)
        have hst : stepU n ((bys s).drop k) = if forb n (by_ b) then none else some ([by_ b], 1) := by
          rw [HD.out, stepU, if_neg (fun h => h.1 HN4.out), if_neg (fun h => hc38 h.2)]
        clear h38 hc38
        have hbb : (by_ b).toNat = b := by unfold by_; rw [UInt8.toNat_ofNat', Nat.mod_eq_of_lt hb256]
        have hfb : forb n (by_ b) = inL b (bys ⟨#[60, 34]⟩) := by
          have h := all_bytes (p := fun n b _ => n != 4 || forb n (by_ b) == inL b (bys ⟨#[60, 34]⟩)) (by kernel_rfl) n (by omega) (by_ b) true
          rw [hbb] at h
          simp only [Bool.or_eq_true, bne_iff_ne, beq_iff_eq] at h
          rcases h with h | h
          · exact absurd HN4.out h
          · exact h
        cases hfo : forb n (by_ b) with
        | true =>
          have HI := Lib.hid (hfb.symm.trans hfo)
          rw [hfo, if_pos rfl] at hst
          have hfin : unL n (bys s) = ([], k, 3) := by rw [H.out.1]; exact unGo_none hlk H.out.2 hst
          have HF := Lib.hid hfin
          clear hfin hst hfo
          clear hfb hbb
          go_wp2_with (first
            | (go_at_call 18; refine Hid.out ?_))
          refine Hid.mk_ ((in_r2 ⟨#[60, 34]⟩ b true (by decide) HI.out).mono ?_)
          rintro e w2 ⟨rfl, rfl⟩
          go_wp2
          go_ret3
          exact ⟨by rw [HF.out]; rfl, hE⟩
        | false =>
          have HI := Lib.hid (hfb.symm.trans hfo)
          rw [hfo, if_neg (by simp)] at hst
          obtain ⟨fu2, hf2, hf3⟩ := unGo_some hlk H.out.2 hst (Nat.le_refl _) (acc := acc)
          have HH := Lib.hid (show unL n (bys s) = unGo n fu2 (acc ++ [by_ b]) (k + 1) ((bys s).drop (k + 1)) ∧ (bys s).length ≤ k + 1 + fu2 from ⟨H.out.1.trans hf2, hf3⟩)
          clear hf2 hf3 hst hfo
          clear hfb hbb
          go_wp2_with (first
            | (go_at_call 18; refine Hid.out ?_))
          refine Hid.mk_ ((in_r2 ⟨#[60, 34]⟩ b false (by decide) HI.out).mono ?_)
          rintro e w2 ⟨rfl, rfl⟩
          go_wp2_with (first
            | (at_builtin; refine Hid.out ?_))
          refine Hid.mk_ ?_
          refine appS rfl _ _ rfl hB rfl _ rfl (by rw [str_size]; simp; omega) hE.size_le ?_
          intro A3 m3 c3 w3 hB3 hg3 hat3
          have hE13 : Ext w1 w3 := hE.grown hg3 hB.ge
          have hB3' : OsB w3 w1.heap.size A3 m3 c3 (acc ++ [by_ b]) := hB3
          go_wp2
          go_roundw
          case rel => exact ⟨A3, m3, c3, k + 1, fu2, acc ++ [by_ b], by omega, rfl, by go_num, hB3', by rw [List.length_append]; simp; omega, HH, hE13⟩
          case measure => simp [intOf]; omega
    · have hi1 : ¬ (k : Int) < (s.size : Int) := by omega
      have hfin : unL n (bys s) = (acc, 0, 0) := by rw [H.out.1, List.drop_eq_nil_of_le (by rw [HBL.out]; omega), unGo_end]
      have HF := Lib.hid hfin
      clear hfin
      have hcv := conv_str hB.sl c
      clear hml
      go_wp2
      go_ret3
      exact ⟨by rw [HF.out]; rfl, hE⟩
theorem run_any (n : Int) (s : ByteArray) (hsz : s.size ≤ 100000) : Calls Tryd.prog 14 #[.int .i64 n, .string s] w fun e w' => e = .returned (unV (unZ n (bys s))) ∧ Ext w w' := by
  cases hn : styleZ n with
  | false => exact run_no n s hn
  | true =>
    have h : 1 ≤ n ∧ n ≤ 4 := of_decide_eq_true hn
    obtain ⟨k, rfl⟩ : ∃ k : Nat, n = k := ⟨n.toNat, by omega⟩
    have h2 : unZ (k : Int) (bys s) = unL k (bys s) := by unfold unZ; rw [hn]; rfl
    rw [h2]
    by_cases h4 : k = 4
    · exact run_en k h4 s hsz
    · exact run_bs k (by omega) (by omega) s hsz
end

end Go.Proofs.YtkicjbmljbfojaaDoor
