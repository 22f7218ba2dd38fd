/- readEntity of package escape. -/
import Derived.Test.YtkicjbmljbfojaaDoorEscZ
namespace Go.Proofs.YtkicjbmljbfojaaDoor
open Go.RowKit Go.Shelf
set_option maxRecDepth 100000

attribute [local go_sem] ext_refl_t ext_alloc_t ext_drew_t ext_drewN_t ext_alloc2_t ext_alloc3_t ext_alloc4_t ext_alloc5_t ext_alloc6_t ext_alloc7_t ext_alloc8_t ext_alloc1d_t ext_alloc2d_t ext_alloc3d_t ext_alloc4d_t
theorem ix59 : ∀ t : List UInt8, Lib.indexByte t 59 = if (t.takeWhile (· != 59)).length < t.length then ((t.takeWhile (· != 59)).length : Int) else -1
  | [] => rfl
  | c :: t => by
    have ih := ix59 t
    unfold Lib.indexByte
    by_cases h : c = 59
    · subst h; simp
    · have h' : (c != 59) = true := by simp [h]
      have h2 : (c == 59) = false := by simp [h]
      rw [h2, List.takeWhile_cons, h', ih]
      simp only [Bool.false_eq_true, if_false, if_true, List.length_cons, Nat.add_lt_add_iff_right]
      by_cases h3 : (t.takeWhile (· != 59)).length < t.length
      · rw [if_pos h3, if_pos h3, if_neg (by simp)]
        push_cast; rfl
      · rw [if_neg h3, if_neg h3]; rfl
section
variable {w : World}
theorem cp_yes (x : ByteArray) (c : UInt8) (r : List UInt8) (hx : bys x = c :: r) : Calls Tryd.prog 40 #[.string x, .string ⟨#[c]⟩] w fun e w' => e = .returned (.tuple #[.string (str r), .bool true]) ∧ w' = w := by
  have h := Any.strings_CutPrefix Tryd.laysCP x ⟨#[c]⟩ w
  change Calls Tryd.prog 40 _ _ _ at h
  refine h.mono ?_
  rintro e w' ⟨rfl, rfl⟩
  have h1 : x.data.toList = c :: r := hx
  rw [h1]
  simp [Lib.trimPrefix, Lib.hasPrefix, List.isPrefixOf, str]
theorem cp_no (x : ByteArray) (c : UInt8) (hx : ∀ r, bys x ≠ c :: r) : Calls Tryd.prog 40 #[.string x, .string ⟨#[c]⟩] w fun e w' => e = .returned (.tuple #[.string x, .bool false]) ∧ w' = w := by
  have h := Any.strings_CutPrefix Tryd.laysCP x ⟨#[c]⟩ w
  change Calls Tryd.prog 40 _ _ _ at h
  refine h.mono ?_
  rintro e w' ⟨rfl, rfl⟩
  have hp : Lib.hasPrefix x.data.toList [c] = false := by
    unfold Lib.hasPrefix
    cases hq : x.data.toList with
    | nil => rfl
    | cons y z =>
      have : ¬ c = y := fun e => hx z (by rw [e]; exact hq)
      simp [List.isPrefixOf, this]
  simp [Lib.trimPrefix, hp]
set_option maxHeartbeats 1600000 in
theorem readE_any (s : ByteArray) (t : List UInt8) (hL : bys s = 38 :: t) (hs : s.size ≤ 100000) :
    Calls Tryd.prog 26 #[.string s] w fun e w' => e = .returned (.tuple #[.string (str (rdX (readE (bys s)))), .int .i64 (rdK (readE (bys s)))]) ∧ Ext w w' := by
  have hbl := bys_len s
  have hix : Lib.indexByte (bys s) (by_ 59) = if (nmOf (bys s)).length + 1 < (bys s).length then (((nmOf (bys s)).length + 1 : Nat) : Int) else -1 := by
    rw [hL]
    show Lib.indexByte (38 :: t) 59 = _
    rw [ix59, List.takeWhile_cons_of_pos (by decide)]
    rfl
  by_cases hf : (nmOf (bys s)).length + 1 < (bys s).length
  · rw [if_pos hf] at hix
    obtain ⟨nm, hnm⟩ : ∃ nm, nm = nmOf (bys s) := ⟨_, rfl⟩
    obtain ⟨e, he⟩ : ∃ e, e = nm.length + 1 := ⟨_, rfl⟩
    have hr : readE (bys s) = match nameE nm with | some x => some (x, e + 1) | none => none := by
      unfold readE
      rw [if_pos hf, ← hnm, he]
      rfl
    obtain ⟨x, hx⟩ : ∃ x, x = s.extract 1 e := ⟨_, rfl⟩
    have hbx : bys x = nm := by
      rw [hx, bys_extract, hL, he, hnm, hL]
      unfold nmOf
      rw [List.take_succ_cons, List.drop_succ_cons, List.drop_zero, List.drop_succ_cons, List.drop_zero]
      exact (List.prefix_iff_eq_take.1 (List.takeWhile_prefix (· != (59 : UInt8)))).symm
    have hix2 : Lib.indexByte (bys s) (by_ 59) = (e : Int) := by rw [hix, he, hnm]
    have he1 : 1 ≤ e := by omega
    have hes : e < s.size := by rw [← hbl, he, hnm]; exact hf
    have HX : Hid (x = s.extract 1 e) := hx
    have hx' : s.extract 1 e = x := hx.symm
    have HI := Lib.hid hix2
    have HB := Lib.hid hbx
    have hxl : x.toList = nm := by rw [ByteArray.toList_eq]; exact hbx
    obtain ⟨o, ho⟩ : ∃ o, o = readE (bys s) := ⟨_, rfl⟩
    rw [← ho] at hr ⊢
    have hzs : x.size ≤ 100000 := by
      have h1 : nm.length = x.size := by rw [← hbx, bys_len]
      omega
    clear ho hix hix2 hx hnm hbl hf he hL
    by_cases q1 : nm = [97, 109, 112]
    · have f1 : (x.toList == [97, 109, 112]) = true := by rw [hxl, beq_iff_eq]; exact q1
      have hv : nameE nm = some [38] := by rw [q1]; rfl
      rw [hv] at hr
      have HR := Lib.hid hr
      clear hr hv q1 hxl
      go_enter Tryd.func26, Tryd.ntmps26
      go_wp2_with (first
        | (go_at_call 34; refine Hid.out ?_))
      refine Hid.mk_ ((ix_any s 59 (by omega)).mono ?_)
      rintro e w1 ⟨rfl, rfl⟩
      rw [HI.out]
      go_wp2
      go_ret2
      exact ⟨by rw [HR.out]; rfl, Ext.refl _⟩
    have f1 : (x.toList == [97, 109, 112]) = false := by rw [hxl, beq_eq_false_iff_ne]; exact q1
    by_cases q2 : nm = [108, 116]
    · have f2 : (x.toList == [108, 116]) = true := by rw [hxl, beq_iff_eq]; exact q2
      have hv : nameE nm = some [60] := by rw [q2]; rfl
      rw [hv] at hr
      have HR := Lib.hid hr
      clear hr hv q2 hxl
      go_enter Tryd.func26, Tryd.ntmps26
      go_wp2_with (first
        | (go_at_call 34; refine Hid.out ?_))
      refine Hid.mk_ ((ix_any s 59 (by omega)).mono ?_)
      rintro e w1 ⟨rfl, rfl⟩
      rw [HI.out]
      go_wp2
      go_ret2
      exact ⟨by rw [HR.out]; rfl, Ext.refl _⟩
    have f2 : (x.toList == [108, 116]) = false := by rw [hxl, beq_eq_false_iff_ne]; exact q2
    by_cases q3 : nm = [103, 116]
    · have f3 : (x.toList == [103, 116]) = true := by rw [hxl, beq_iff_eq]; exact q3
      have hv : nameE nm = some [62] := by rw [q3]; rfl
      rw [hv] at hr
      have HR := Lib.hid hr
      clear hr hv q3 hxl
      go_enter Tryd.func26, Tryd.ntmps26
      go_wp2_with (first
        | (go_at_call 34; refine Hid.out ?_))
      refine Hid.mk_ ((ix_any s 59 (by omega)).mono ?_)
      rintro e w1 ⟨rfl, rfl⟩
      rw [HI.out]
      go_wp2
      go_ret2
      exact ⟨by rw [HR.out]; rfl, Ext.refl _⟩
    have f3 : (x.toList == [103, 116]) = false := by rw [hxl, beq_eq_false_iff_ne]; exact q3
    by_cases q4 : nm = [113, 117, 111, 116]
    · have f4 : (x.toList == [113, 117, 111, 116]) = true := by rw [hxl, beq_iff_eq]; exact q4
      have hv : nameE nm = some [34] := by rw [q4]; rfl
      rw [hv] at hr
      have HR := Lib.hid hr
      clear hr hv q4 hxl
      go_enter Tryd.func26, Tryd.ntmps26
      go_wp2_with (first
        | (go_at_call 34; refine Hid.out ?_))
      refine Hid.mk_ ((ix_any s 59 (by omega)).mono ?_)
      rintro e w1 ⟨rfl, rfl⟩
      rw [HI.out]
      go_wp2
      go_ret2
      exact ⟨by rw [HR.out]; rfl, Ext.refl _⟩
    have f4 : (x.toList == [113, 117, 111, 116]) = false := by rw [hxl, beq_eq_false_iff_ne]; exact q4
    by_cases q5 : nm = [97, 112, 111, 115]
    · have f5 : (x.toList == [97, 112, 111, 115]) = true := by rw [hxl, beq_iff_eq]; exact q5
      have hv : nameE nm = some [39] := by rw [q5]; rfl
      rw [hv] at hr
      have HR := Lib.hid hr
      clear hr hv q5 hxl
      go_enter Tryd.func26, Tryd.ntmps26
      go_wp2_with (first
        | (go_at_call 34; refine Hid.out ?_))
      refine Hid.mk_ ((ix_any s 59 (by omega)).mono ?_)
      rintro e w1 ⟨rfl, rfl⟩
      rw [HI.out]
      go_wp2
      go_ret2
      exact ⟨by rw [HR.out]; rfl, Ext.refl _⟩
    have f5 : (x.toList == [97, 112, 111, 115]) = false := by rw [hxl, beq_eq_false_iff_ne]; exact q5
    by_cases h35 : ∃ r, nm = 35 :: r
    · obtain ⟨r, rfl⟩ := h35
      have hn : nameE (35 :: r) = match nameR r with
          | some n => if isPt n then some (encOne n) else none
          | none => none := by
        unfold nameE
        rw [if_neg q1, if_neg q2, if_neg q3, if_neg q4, if_neg q5]
        rfl
      rw [hn] at hr
      clear hn q1 q2 q3 q4 q5 hxl
      have hrl : r.length ≤ 100000 := by
        have h1 : (35 :: r).length = x.size := by rw [← hbx, bys_len]
        simp at h1
        omega
      by_cases h120 : ∃ y, r = 120 :: y
      · obtain ⟨y, rfl⟩ := h120
        by_cases hl : (y).length ≤ 6
        · have hnr : nameR (120 :: y) = numOf 16 y := by rw [nameR, if_pos hl]
          rw [hnr] at hr
          clear hnr
          have hl2 : ¬ (6 : Int) < ((str (y)).size : Int) := by rw [str_size]; omega
          have hl3 : (str (y)).size ≤ 8 := by rw [str_size]; omega
          cases hn : numOf 16 (y) with
          | none =>
            rw [hn] at hr
            have HR := Lib.hid hr
            have HN := Lib.hid hn
            clear hr hn hbx
            go_enter Tryd.func26, Tryd.ntmps26
            go_wp2_with (first
              | (go_at_call 34; refine Hid.out ?_))
            refine Hid.mk_ ((ix_any s 59 (by omega)).mono ?_)
            rintro e w1 ⟨rfl, rfl⟩
            rw [HI.out]
            go_wp2_with (first
              | (go_at_call 40; refine Hid.out ?_))
            refine Hid.mk_ ((cp_yes x 35 _ HB.out).mono ?_)
            rintro e w2 ⟨rfl, rfl⟩
            go_wp2_with (first
              | (go_at_call 40; refine Hid.out ?_))
            refine Hid.mk_ ((cp_yes (str (120 :: y)) 120 y (bys_str _)).mono ?_)
            rintro e w2 ⟨rfl, rfl⟩
            go_wp2_with (first
              | (go_at_call 38; refine Hid.out ?_))
            refine Hid.mk_ ((dig16_none (str (y)) hl3 (by rw [bys_str]; exact HN.out)).mono ?_)
            rintro e w2 ⟨rfl, rfl⟩
            go_wp2
            go_ret2
            exact ⟨by rw [HR.out]; rfl, Ext.refl _⟩
          | some n =>
            rw [hn] at hr
            have hnb := numOf_bound (by omega) hn
            have hn31 : n < 2147483648 := by
              have h1 : 16 ^ (y).length ≤ 16 ^ 6 := Nat.pow_le_pow_right (by omega) hl
              have h2 : 16 ^ 6 < 2147483648 := by decide
              omega
            have HN := Lib.hid hn
            cases hp : isPt n with
            | true =>
              have hr2 : o = some (encOne n, e + 1) := by rw [hr]; simp [hp]
              have hpo : ptOr n = n := by unfold ptOr; rw [hp]; rfl
              have HR := Lib.hid hr2
              have HP := Lib.hid hp
              have HO := Lib.hid hpo
              clear hr hr2 hn hbx hp hpo hnb
              go_enter Tryd.func26, Tryd.ntmps26
              go_wp2_with (first
                | (go_at_call 34; refine Hid.out ?_))
              refine Hid.mk_ ((ix_any s 59 (by omega)).mono ?_)
              rintro e w1 ⟨rfl, rfl⟩
              rw [HI.out]
              go_wp2_with (first
                | (go_at_call 40; refine Hid.out ?_))
              refine Hid.mk_ ((cp_yes x 35 _ HB.out).mono ?_)
              rintro e w2 ⟨rfl, rfl⟩
              go_wp2_with (first
                | (go_at_call 40; refine Hid.out ?_))
              refine Hid.mk_ ((cp_yes (str (120 :: y)) 120 y (bys_str _)).mono ?_)
              rintro e w2 ⟨rfl, rfl⟩
              go_wp2_with (first
                | (go_at_call 38; refine Hid.out ?_))
              refine Hid.mk_ ((dig16_some (str (y)) hl3 (by rw [bys_str]; exact HN.out)).mono ?_)
              rintro e w2 ⟨rfl, rfl⟩
              go_wp2_with (first
                | (go_at_call 39; refine Hid.out ?_))
              refine Hid.mk_ ((encoded_any n hn31).mono ?_)
              rintro e w3 ⟨rfl, hE3⟩
              rw [HP.out, HO.out]
              go_wp2
              go_ret2
              exact ⟨by rw [HR.out]; rfl, hE3⟩
            | false =>
              have hr2 : o = none := by rw [hr]; simp [hp]
              have HR := Lib.hid hr2
              have HP := Lib.hid hp
              clear hr hr2 hn hbx hp hnb
              go_enter Tryd.func26, Tryd.ntmps26
              go_wp2_with (first
                | (go_at_call 34; refine Hid.out ?_))
              refine Hid.mk_ ((ix_any s 59 (by omega)).mono ?_)
              rintro e w1 ⟨rfl, rfl⟩
              rw [HI.out]
              go_wp2_with (first
                | (go_at_call 40; refine Hid.out ?_))
              refine Hid.mk_ ((cp_yes x 35 _ HB.out).mono ?_)
              rintro e w2 ⟨rfl, rfl⟩
              go_wp2_with (first
                | (go_at_call 40; refine Hid.out ?_))
              refine Hid.mk_ ((cp_yes (str (120 :: y)) 120 y (bys_str _)).mono ?_)
              rintro e w2 ⟨rfl, rfl⟩
              go_wp2_with (first
                | (go_at_call 38; refine Hid.out ?_))
              refine Hid.mk_ ((dig16_some (str (y)) hl3 (by rw [bys_str]; exact HN.out)).mono ?_)
              rintro e w2 ⟨rfl, rfl⟩
              go_wp2_with (first
                | (go_at_call 39; refine Hid.out ?_))
              refine Hid.mk_ ((encoded_any n hn31).mono ?_)
              rintro e w3 ⟨rfl, hE3⟩
              rw [HP.out]
              go_wp2
              go_ret2
              exact ⟨by rw [HR.out]; rfl, hE3⟩
        · have hnr : nameR (120 :: y) = none := by rw [nameR, if_neg hl]
          rw [hnr] at hr
          have HR := Lib.hid hr
          have hl2 : (6 : Int) < ((str (y)).size : Int) := by rw [str_size]; omega
          have hl3 : (str (y)).size ≤ 100000 := by rw [str_size]; first | omega | (simp only [List.length_cons] at hrl; omega)
          clear hr hnr hbx
          go_enter Tryd.func26, Tryd.ntmps26
          go_wp2_with (first
            | (go_at_call 34; refine Hid.out ?_))
          refine Hid.mk_ ((ix_any s 59 (by omega)).mono ?_)
          rintro e w1 ⟨rfl, rfl⟩
          rw [HI.out]
          go_wp2_with (first
            | (go_at_call 40; refine Hid.out ?_))
          refine Hid.mk_ ((cp_yes x 35 _ HB.out).mono ?_)
          rintro e w2 ⟨rfl, rfl⟩
          go_wp2_with (first
            | (go_at_call 40; refine Hid.out ?_))
          refine Hid.mk_ ((cp_yes (str (120 :: y)) 120 y (bys_str _)).mono ?_)
          rintro e w2 ⟨rfl, rfl⟩
          go_wp2_with (first
            | (go_at_call 38; refine Hid.out ?_))
          refine Hid.mk_ ((digL_any (str (y)) 16 hl3).mono ?_)
          rintro e w2 ⟨⟨v, ok, rfl⟩, rfl⟩
          cases ok
          all_goals
            go_wp2
            go_ret2
            exact ⟨by rw [HR.out]; rfl, Ext.refl _⟩
      · have hno : ∀ y, bys (str r) ≠ 120 :: y := fun y e => h120 ⟨y, by rw [← bys_str r]; exact e⟩
        have hnr0 : nameR r = if r.length ≤ 7 then numOf 10 r else none := by
          unfold nameR
          split
          · exact absurd ⟨_, rfl⟩ h120
          · rfl
        have HNO := Lib.hid hno
        clear hno h120
        by_cases hl : (r).length ≤ 7
        · have hnr : nameR (r) = numOf 10 r := by rw [hnr0, if_pos hl]
          rw [hnr] at hr
          clear hnr
          have hl2 : ¬ (7 : Int) < ((str (r)).size : Int) := by rw [str_size]; omega
          have hl3 : (str (r)).size ≤ 8 := by rw [str_size]; omega
          cases hn : numOf 10 (r) with
          | none =>
            rw [hn] at hr
            have HR := Lib.hid hr
            have HN := Lib.hid hn
            clear hr hn hbx
            go_enter Tryd.func26, Tryd.ntmps26
            go_wp2_with (first
              | (go_at_call 34; refine Hid.out ?_))
            refine Hid.mk_ ((ix_any s 59 (by omega)).mono ?_)
            rintro e w1 ⟨rfl, rfl⟩
            rw [HI.out]
            go_wp2_with (first
              | (go_at_call 40; refine Hid.out ?_))
            refine Hid.mk_ ((cp_yes x 35 _ HB.out).mono ?_)
            rintro e w2 ⟨rfl, rfl⟩
            go_wp2_with (first
              | (go_at_call 40; refine Hid.out ?_))
            refine Hid.mk_ ((cp_no (str r) 120 HNO.out).mono ?_)
            rintro e w2 ⟨rfl, rfl⟩
            go_wp2_with (first
              | (go_at_call 38; refine Hid.out ?_))
            refine Hid.mk_ ((dig10_none (str (r)) hl3 (by rw [bys_str]; exact HN.out)).mono ?_)
            rintro e w2 ⟨rfl, rfl⟩
            go_wp2
            go_ret2
            exact ⟨by rw [HR.out]; rfl, Ext.refl _⟩
          | some n =>
            rw [hn] at hr
            have hnb := numOf_bound (by omega) hn
            have hn31 : n < 2147483648 := by
              have h1 : 10 ^ (r).length ≤ 10 ^ 7 := Nat.pow_le_pow_right (by omega) hl
              have h2 : 10 ^ 7 < 2147483648 := by decide
              omega
            have HN := Lib.hid hn
            cases hp : isPt n with
            | true =>
              have hr2 : o = some (encOne n, e + 1) := by rw [hr]; simp [hp]
              have hpo : ptOr n = n := by unfold ptOr; rw [hp]; rfl
              have HR := Lib.hid hr2
              have HP := Lib.hid hp
              have HO := Lib.hid hpo
              clear hr hr2 hn hbx hp hpo hnb
              go_enter Tryd.func26, Tryd.ntmps26
              go_wp2_with (first
                | (go_at_call 34; refine Hid.out ?_))
              refine Hid.mk_ ((ix_any s 59 (by omega)).mono ?_)
              rintro e w1 ⟨rfl, rfl⟩
              rw [HI.out]
              go_wp2_with (first
                | (go_at_call 40; refine Hid.out ?_))
              refine Hid.mk_ ((cp_yes x 35 _ HB.out).mono ?_)
              rintro e w2 ⟨rfl, rfl⟩
              go_wp2_with (first
                | (go_at_call 40; refine Hid.out ?_))
              refine Hid.mk_ ((cp_no (str r) 120 HNO.out).mono ?_)
              rintro e w2 ⟨rfl, rfl⟩
              go_wp2_with (first
                | (go_at_call 38; refine Hid.out ?_))
              refine Hid.mk_ ((dig10_some (str (r)) hl3 (by rw [bys_str]; exact HN.out)).mono ?_)
              rintro e w2 ⟨rfl, rfl⟩
              go_wp2_with (first
                | (go_at_call 39; refine Hid.out ?_))
              refine Hid.mk_ ((encoded_any n hn31).mono ?_)
              rintro e w3 ⟨rfl, hE3⟩
              rw [HP.out, HO.out]
              go_wp2
              go_ret2
              exact ⟨by rw [HR.out]; rfl, hE3⟩
            | false =>
              have hr2 : o = none := by rw [hr]; simp [hp]
              have HR := Lib.hid hr2
              have HP := Lib.hid hp
              clear hr hr2 hn hbx hp hnb
              go_enter Tryd.func26, Tryd.ntmps26
              go_wp2_with (first
                | (go_at_call 34; refine Hid.out ?_))
              refine Hid.mk_ ((ix_any s 59 (by omega)).mono ?_)
              rintro e w1 ⟨rfl, rfl⟩
              rw [HI.out]
              go_wp2_with (first
                | (go_at_call 40; refine Hid.out ?_))
              refine Hid.mk_ ((cp_yes x 35 _ HB.out).mono ?_)
              rintro e w2 ⟨rfl, rfl⟩
              go_wp2_with (first
                | (go_at_call 40; refine Hid.out ?_))
              refine Hid.mk_ ((cp_no (str r) 120 HNO.out).mono ?_)
              rintro e w2 ⟨rfl, rfl⟩
              go_wp2_with (first
                | (go_at_call 38; refine Hid.out ?_))
              refine Hid.mk_ ((dig10_some (str (r)) hl3 (by rw [bys_str]; exact HN.out)).mono ?_)
              rintro e w2 ⟨rfl, rfl⟩
              go_wp2_with (first
                | (go_at_call 39; refine Hid.out ?_))
              refine Hid.mk_ ((encoded_any n hn31).mono ?_)
              rintro e w3 ⟨rfl, hE3⟩
              rw [HP.out]
              go_wp2
              go_ret2
              exact ⟨by rw [HR.out]; rfl, hE3⟩
        · have hnr : nameR (r) = none := by rw [hnr0, if_neg hl]
          rw [hnr] at hr
          have HR := Lib.hid hr
          have hl2 : (7 : Int) < ((str (r)).size : Int) := by rw [str_size]; omega
          have hl3 : (str (r)).size ≤ 100000 := by rw [str_size]; first | omega | (simp only [List.length_cons] at hrl; omega)
          clear hr hnr hbx
          go_enter Tryd.func26, Tryd.ntmps26
          go_wp2_with (first
            | (go_at_call 34; refine Hid.out ?_))
          refine Hid.mk_ ((ix_any s 59 (by omega)).mono ?_)
          rintro e w1 ⟨rfl, rfl⟩
          rw [HI.out]
          go_wp2_with (first
            | (go_at_call 40; refine Hid.out ?_))
          refine Hid.mk_ ((cp_yes x 35 _ HB.out).mono ?_)
          rintro e w2 ⟨rfl, rfl⟩
          go_wp2_with (first
            | (go_at_call 40; refine Hid.out ?_))
          refine Hid.mk_ ((cp_no (str r) 120 HNO.out).mono ?_)
          rintro e w2 ⟨rfl, rfl⟩
          go_wp2_with (first
            | (go_at_call 38; refine Hid.out ?_))
          refine Hid.mk_ ((digL_any (str (r)) 10 hl3).mono ?_)
          rintro e w2 ⟨⟨v, ok, rfl⟩, rfl⟩
          cases ok
          all_goals
            go_wp2
            go_ret2
            exact ⟨by rw [HR.out]; rfl, Ext.refl _⟩
    · have hv : nameE nm = none := by
        unfold nameE
        rw [if_neg q1, if_neg q2, if_neg q3, if_neg q4, if_neg q5]
        split
        · exact absurd ⟨_, rfl⟩ h35
        · rfl
      rw [hv] at hr
      have HR := Lib.hid hr
      have hno : ∀ r, bys x ≠ 35 :: r := fun r e => h35 ⟨r, by rw [← hbx]; exact e⟩
      have HNO := Lib.hid hno
      clear hr hv h35 hno hbx q1 q2 q3 q4 q5 hxl
      go_enter Tryd.func26, Tryd.ntmps26
      go_wp2_with (first
        | (go_at_call 34; refine Hid.out ?_))
      refine Hid.mk_ ((ix_any s 59 (by omega)).mono ?_)
      rintro e w1 ⟨rfl, rfl⟩
      rw [HI.out]
      go_wp2_with (first
        | (go_at_call 40; refine Hid.out ?_))
      refine Hid.mk_ ((cp_no x 35 HNO.out).mono ?_)
      rintro e w2 ⟨rfl, rfl⟩
      go_wp2
      go_ret2
      exact ⟨by rw [HR.out]; rfl, Ext.refl _⟩
  · rw [if_neg hf] at hix
    have hr : readE (bys s) = none := by unfold readE; rw [if_neg hf]
    have HI := Lib.hid hix
    rw [hr]
    clear hix hf hr hbl hL
    go_enter Tryd.func26, Tryd.ntmps26
    go_wp2_with (first
      | (go_at_call 34; refine Hid.out ?_))
    refine Hid.mk_ ((ix_any s 59 (by omega)).mono ?_)
    rintro e w1 ⟨rfl, rfl⟩
    rw [HI.out]
    go_wp2
    go_ret2
    exact ⟨rfl, Ext.refl _⟩
end

end Go.Proofs.YtkicjbmljbfojaaDoor
