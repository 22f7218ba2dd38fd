/- The reference's ampersand. -/
import Derived.Test.YtkicjbmljbfojaaDoorEscQ2
namespace Go.Proofs.YtkicjbmljbfojaaDoor
open Go.RowKit Go.Shelf
set_option maxRecDepth 100000

attribute [local go_sem] ext_refl_t ext_alloc_t ext_drew_t ext_drewN_t ext_alloc2_t ext_alloc3_t ext_alloc4_t ext_alloc5_t ext_alloc6_t ext_alloc7_t ext_alloc8_t ext_alloc1d_t ext_alloc2d_t ext_alloc3d_t ext_alloc4d_t
theorem nameR_bound {r : List UInt8} (h : 8 ≤ r.length) : nameR r = none := by
  unfold nameR
  split
  · rename_i x
    rw [if_neg (by simp only [List.length_cons] at h; omega)]
  · rw [if_neg (by omega)]
theorem nameE_hash {r : List UInt8} : nameE (35 :: r) = match nameR r with
    | some n => if isPt n then some (encOne n) else none
    | none => none := by
  unfold nameE
  rw [if_neg (by simp), if_neg (by simp), if_neg (by simp), if_neg (by simp), if_neg (by simp)]
  rfl
theorem nameE_other {nm : List UInt8} (q1 : nm ≠ [97, 109, 112]) (q2 : nm ≠ [108, 116]) (q3 : nm ≠ [103, 116]) (q4 : nm ≠ [113, 117, 111, 116]) (q5 : nm ≠ [97, 112, 111, 115]) (h : ∀ r, nm ≠ 35 :: r) : nameE nm = none := by
  unfold nameE
  rw [if_neg q1, if_neg q2, if_neg q3, if_neg q4, if_neg q5]
  split
  · exact absurd rfl (h _)
  · rfl
theorem nameE_long {nm : List UInt8} (h : 9 ≤ nm.length) : nameE nm = none := by
  by_cases h2 : ∃ r, nm = 35 :: r
  · obtain ⟨r, rfl⟩ := h2
    rw [nameE_hash, nameR_bound (by simp only [List.length_cons] at h; omega)]
  · refine nameE_other ?_ ?_ ?_ ?_ ?_ (fun r e => h2 ⟨r, e⟩)
    all_goals
      rintro rfl
      simp at h
theorem nameE_short {nm : List UInt8} (h : nm.length ≤ 1) : nameE nm = none := by
  match nm, h with
  | [], _ => rfl
  | [c], _ =>
    by_cases hc : c = 35
    · subst hc; rfl
    · exact nameE_other (by simp) (by simp) (by simp) (by simp) (by simp) (fun r e => hc (by injection e))
theorem nameR_ten {r : List UInt8} (h : r.length ≤ 7) (hx : ∀ c y, r ≠ 120 :: c :: y) : nameR r = numOf 10 r := by
  unfold nameR
  split
  · rename_i x
    match x with
    | [] => rfl
    | c :: y => exact absurd rfl (hx c y)
  · rw [if_pos h]
theorem nameR_hex {c : UInt8} {y : List UInt8} (h : (c :: y).length ≤ 6) : nameR (120 :: c :: y) = numOf 16 (c :: y) := by
  show (if (c :: y).length ≤ 6 then numOf 16 (c :: y) else none) = _
  rw [if_pos h]
theorem tw_facts : ∀ t : List UInt8, (∀ j (hj : j < t.length), j < (t.takeWhile (· != 59)).length → t[j] ≠ 59) ∧ ∀ hj : (t.takeWhile (· != 59)).length < t.length, t[(t.takeWhile (· != 59)).length] = 59
  | [] => ⟨fun j hj => absurd hj (by simp), fun hj => absurd hj (by simp)⟩
  | c :: t => by
    obtain ⟨h1, h2⟩ := tw_facts t
    by_cases h : c = 59
    · subst h
      have e : ((59 : UInt8) :: t).takeWhile (· != 59) = [] := by simp
      rw [e]
      exact ⟨fun j hj hlt => absurd hlt (by simp), fun hj => rfl⟩
    · have e : (c :: t).takeWhile (· != 59) = c :: t.takeWhile (· != 59) := by simp [h]
      rw [e]
      refine ⟨fun j hj hlt => ?_, fun hj => ?_⟩
      · cases j with
        | zero => exact h
        | succ j =>
          rw [List.getElem_cons_succ]
          exact h1 j (by simpa using hj) (by simpa using hlt)
      · simp only [List.length_cons, List.getElem_cons_succ]
        exact h2 (by simpa using hj)
/-- The first byte 59 lies behind the name. -/
theorem nmOf_facts {l t : List UInt8} (hl : l = 38 :: t) : (nmOf l).length + 1 ≤ l.length ∧ (∀ j (hj : j < l.length), j < (nmOf l).length + 1 → l[j] ≠ 59) ∧ ∀ hj : (nmOf l).length + 1 < l.length, l[(nmOf l).length + 1] = 59 := by
  subst hl
  have hn : nmOf (38 :: t) = t.takeWhile (· != 59) := rfl
  rw [hn]
  have hle : (t.takeWhile (· != 59)).length ≤ t.length := (List.takeWhile_prefix _).length_le
  obtain ⟨h1, h2⟩ := tw_facts t
  refine ⟨by simp; omega, fun j hj hlt => ?_, fun hj => ?_⟩
  · cases j with
    | zero => simp
    | succ j =>
      rw [List.getElem_cons_succ]
      exact h1 j (by simpa using hj) (by omega)
  · rw [List.getElem_cons_succ]
    exact h2 (by simpa using hj)
section
variable {w : World}
set_option maxHeartbeats 3200000 in
theorem ramp_any (s : ByteArray) (t : List UInt8) (hL : bys s = 38 :: t) (_hs : s.size ≤ 100000) :
    Calls Tryd.prog 30 #[.string s] w fun e w' => e = .returned (.tuple #[.string (str (rdX (readE (bys s)))), .int .i64 (rdK (readE (bys s)))]) ∧ Ext w w' := by
  obtain ⟨hf1, hf2, hf3⟩ := nmOf_facts hL
  obtain ⟨nm, hnm⟩ : ∃ nm, nm = nmOf (bys s) := ⟨_, rfl⟩
  rw [← hnm] at hf1 hf2 hf3
  obtain ⟨o, ho⟩ : ∃ o, o = readE (bys s) := ⟨_, rfl⟩
  rw [← ho]
  obtain ⟨e, he⟩ : ∃ e, e = nm.length + 1 := ⟨_, rfl⟩
  have hr : o = if e < s.size then (match nameE nm with | some x => some (x, e + 1) | none => none) else none := by
    rw [ho]; unfold readE; rw [← hnm, bys_len, he]
    split <;> rfl
  rw [← he] at hf1 hf2
  have hf3' : ∀ hj : e < s.size, s[e] = 59 := fun hj => by
    subst he
    rw [← bys_at s _ hj]
    exact hf3 _
  have hf2' : ∀ j (hj : j < s.size), j < e → s[j] ≠ 59 := fun j hj hlt => by
    rw [← bys_at s _ hj]
    exact hf2 j _ hlt
  rw [bys_len] at hf1
  have hbx : e < s.size → bys (s.extract 1 e) = nm := fun _ => by
    rw [bys_extract, hL, he, hnm, hL]
    unfold nmOf
    rw [List.take_succ_cons, List.drop_succ_cons, List.drop_zero, List.drop_succ_cons, List.drop_zero]
    exact (List.prefix_iff_eq_take.1 (List.takeWhile_prefix (· != (59 : UInt8)))).symm
  have HR0 := Lib.hid hr
  have HF2 := Lib.hid hf2'
  have HF3 := Lib.hid hf3'
  have HBX := Lib.hid hbx
  have HEL := Lib.hid he
  clear hr ho hf2 hf3 hf2' hf3' hbx hnm hL he
  go_enter Tryd.func30, Tryd.ntmps30
  go_wp2
  go_loop [4] (fun i => ∃ k : Nat, k ≤ e ∧ k ≤ 12 ∧ i = .int .i64 k) (fun i => 12 - (intOf i).toNat)
  case atStart => exact ⟨0, Nat.zero_le _, Nat.zero_le _, rfl⟩
  case round =>
    obtain ⟨k, hke, hk12, rfl⟩ := hrel
    by_cases hks : k < s.size
    · have hi1 : (k : Int) < (s.size : Int) := by omega
      have hi3 : ((k : Int) == (s.size : Int)) = false := by rw [beq_eq_false_iff_ne]; omega
      by_cases hk : k < e
      · have hne : (((s[k]'hks).toNat : Int) != 59) = true := by
          rw [bne_iff_ne]
          intro h
          exact HF2.out k hks hk (UInt8.toNat_inj.1 (by show (s[k]'hks).toNat = 59; omega))
        by_cases h12 : k < 12
        · have hi2 : (k : Int) < 12 := by omega
          go_wp2
          go_round
          case rel => exact ⟨k + 1, by omega, by omega, by go_num⟩
          case measure => simp [intOf]; omega
        · have hi2 : ¬ (k : Int) < 12 := by omega
          have hnone : o = none := by
            rw [HR0.out]
            split
            · rw [nameE_long (by have := HEL.out; omega)]
            · rfl
          have HR := Lib.hid hnone
          clear hnone
          go_wp2
          go_ret2
          exact ⟨by rw [HR.out]; rfl, Ext.refl _⟩
      · obtain rfl : k = e := by omega
        have hne : (((s[k]'hks).toNat : Int) != 59) = false := by rw [HF3.out hks]; rfl
        have hr : o = match nameE nm with | some x => some (x, k + 1) | none => none := by rw [HR0.out, if_pos hks]
        obtain ⟨x, hx⟩ : ∃ x, x = s.extract 1 k := ⟨_, rfl⟩
        have hx' : s.extract 1 k = x := hx.symm
        have hxl : x.toList = nm := by rw [ByteArray.toList_eq, hx]; exact HBX.out hks
        have hbx : bys x = nm := by rw [hx]; exact HBX.out hks
        have hk1 : (1 : Int) ≤ (k : Int) := by have := HEL.out; omega
        have hxs : x.size = nm.length := by rw [← bys_len, hbx]
        have h12 : (k : Int) < 12 ∨ ¬ (k : Int) < 12 := by omega
        clear hx hke hk
        rcases h12 with h12 | h12
        all_goals
          by_cases q1 : nm = [97, 109, 112]
          · have f1 : (x.toList == [97, 109, 112]) = true := by rw [hxl, beq_iff_eq]; exact q1
            have hv : nameE nm = some [38] := by rw [q1]; rfl
            rw [hv] at hr
            have HR := Lib.hid hr
            clear hr hv q1 hxl
            go_wp2
            go_ret2
            exact ⟨by rw [HR.out]; rfl, Ext.refl _⟩
          have f1 : (x.toList == [97, 109, 112]) = false := by rw [hxl, beq_eq_false_iff_ne]; exact q1
          by_cases q2 : nm = [108, 116]
          · have f2 : (x.toList == [108, 116]) = true := by rw [hxl, beq_iff_eq]; exact q2
            have hv : nameE nm = some [60] := by rw [q2]; rfl
            rw [hv] at hr
            have HR := Lib.hid hr
            clear hr hv q2 hxl
            go_wp2
            go_ret2
            exact ⟨by rw [HR.out]; rfl, Ext.refl _⟩
          have f2 : (x.toList == [108, 116]) = false := by rw [hxl, beq_eq_false_iff_ne]; exact q2
          by_cases q3 : nm = [103, 116]
          · have f3 : (x.toList == [103, 116]) = true := by rw [hxl, beq_iff_eq]; exact q3
            have hv : nameE nm = some [62] := by rw [q3]; rfl
            rw [hv] at hr
            have HR := Lib.hid hr
            clear hr hv q3 hxl
            go_wp2
            go_ret2
            exact ⟨by rw [HR.out]; rfl, Ext.refl _⟩
          have f3 : (x.toList == [103, 116]) = false := by rw [hxl, beq_eq_false_iff_ne]; exact q3
          by_cases q4 : nm = [113, 117, 111, 116]
          · have f4 : (x.toList == [113, 117, 111, 116]) = true := by rw [hxl, beq_iff_eq]; exact q4
            have hv : nameE nm = some [34] := by rw [q4]; rfl
            rw [hv] at hr
            have HR := Lib.hid hr
            clear hr hv q4 hxl
            go_wp2
            go_ret2
            exact ⟨by rw [HR.out]; rfl, Ext.refl _⟩
          have f4 : (x.toList == [113, 117, 111, 116]) = false := by rw [hxl, beq_eq_false_iff_ne]; exact q4
          by_cases q5 : nm = [97, 112, 111, 115]
          · have f5 : (x.toList == [97, 112, 111, 115]) = true := by rw [hxl, beq_iff_eq]; exact q5
            have hv : nameE nm = some [39] := by rw [q5]; rfl
            rw [hv] at hr
            have HR := Lib.hid hr
            clear hr hv q5 hxl
            go_wp2
            go_ret2
            exact ⟨by rw [HR.out]; rfl, Ext.refl _⟩
          have f5 : (x.toList == [97, 112, 111, 115]) = false := by rw [hxl, beq_eq_false_iff_ne]; exact q5
          have hdd : nm.length ≤ 1 ∨ nm.length = 2 ∨ (3 ≤ nm.length ∧ nm.length ≤ 8) ∨ 9 ≤ nm.length := by omega
          have h2x : bys (x.extract 0 2) = nm.take 2 := by rw [bys_extract, hbx, List.drop_zero]
          have h1x : bys (x.extract 0 1) = nm.take 1 := by rw [bys_extract, hbx, List.drop_zero]
          have r1x : bys (x.extract 1 x.size) = nm.drop 1 := by rw [bys_extract, hbx, List.take_of_length_le (by omega)]
          have r2x : bys (x.extract 2 x.size) = nm.drop 2 := by rw [bys_extract, hbx, List.take_of_length_le (by omega)]
          rcases hdd with hln | hln | ⟨hln0, hln⟩ | hln
          · have a1 : ¬ (3 : Int) ≤ (x.size : Int) := by omega
            have a2 : ¬ (2 : Int) ≤ (x.size : Int) := by omega
            rw [nameE_short hln] at hr
            have HR := Lib.hid hr
            clear hr hxl q1 q2 q3 q4 q5 hbx h1x h2x r1x r2x hxs
            go_wp2
            go_ret2
            exact ⟨by rw [HR.out]; rfl, Ext.refl _⟩
          · have a1 : ¬ (3 : Int) ≤ (x.size : Int) := by omega
            have a2 : (2 : Int) ≤ (x.size : Int) := by omega
            have a3 : (x.size : Int) ≤ 8 := by omega
            obtain ⟨p, q, rfl⟩ : ∃ p q, nm = [p, q] := by
              match nm, hln with
              | [a, b], _ => exact ⟨a, b, rfl⟩
            by_cases hp : p = 35
            · subst hp
              have p1 : ((x.extract 0 1).toList == [35]) = true := by rw [ByteArray.toList_eq]; show (bys (x.extract 0 1) == [35]) = true; rw [h1x]; rfl
              have x1 : x.extract 1 x.size = str [q] := bys_inj (by rw [r1x, bys_str]; rfl)
              clear hxl q1 q2 q3 q4 q5 hbx h1x h2x r1x r2x hxs
              have hr1 : o = match numOf 10 [q] with
                  | some n => if isPt n then some (encOne n, k + 1) else none
                  | none => none := by
                rw [hr, nameE_hash]
                have hnr : nameR ([q]) = numOf 10 [q] := nameR_ten (by simp) (by simp)
                rw [hnr]
                cases numOf 10 [q] with
                | none => rfl
                | some n => cases hp : isPt n <;> simp [hp]
              have hy8 : (str ([q])).size ≤ 8 := by rw [str_size]; simp only [List.length_cons] at hln ⊢; omega
              clear hr
              cases hn : numOf 10 ([q]) with
              | none =>
                rw [hn] at hr1
                have HR := Lib.hid hr1
                have HN := Lib.hid hn
                clear hr1 hn
                go_wp2_with (first
                  | (go_at_call 41; refine Hid.out ?_))
                refine Hid.mk_ ((num10_none (str ([q])) hy8 (by rw [bys_str]; exact HN.out)).mono ?_)
                rintro e w2 ⟨rfl, rfl⟩
                go_wp2
                go_ret2
                exact ⟨by rw [HR.out]; rfl, Ext.refl _⟩
              | some n =>
                rw [hn] at hr1
                have hnb := numOf_bound (by omega) hn
                have hn31 : n < 2147483648 := by
                  have h1 : 10 ^ ([q]).length ≤ 10 ^ 7 := Nat.pow_le_pow_right (by omega) (by simp only [List.length_cons] at hln ⊢; omega)
                  have h2 : 10 ^ 7 < 2147483648 := by decide
                  omega
                have HN := Lib.hid hn
                cases hp : isPt n with
                | true =>
                  have hr2 : o = some (encOne n, k + 1) := by rw [hr1]; simp [hp]
                  have hn111 : n ≤ 1114111 := (of_decide_eq_true hp).1
                  have HR := Lib.hid hr2
                  have HP := Lib.hid hp
                  clear hr1 hr2 hn hp hnb
                  go_wp2_with (first
                    | (go_at_call 41; refine Hid.out ?_))
                  refine Hid.mk_ ((num10_some (str ([q])) hy8 (by rw [bys_str]; exact HN.out)).mono ?_)
                  rintro e w2 ⟨rfl, rfl⟩
                  go_wp2_with (first
                    | (go_at_call 42; refine Hid.out ?_))
                  refine Hid.mk_ ((rpoint_any n).mono ?_)
                  rintro e w1 ⟨rfl, rfl⟩
                  rw [HP.out]
                  go_wp2_with (first
                    | (go_at_call 43; refine Hid.out ?_))
                  refine Hid.mk_ ((one_pt n hn111).mono ?_)
                  rintro e w1 ⟨rfl, hE1⟩
                  go_wp2
                  go_ret2
                  exact ⟨by rw [HR.out]; rfl, hE1⟩
                | false =>
                  have hr2 : o = none := by rw [hr1]; simp [hp]
                  have HR := Lib.hid hr2
                  have HP := Lib.hid hp
                  clear hr1 hr2 hn hp hnb
                  go_wp2_with (first
                    | (go_at_call 41; refine Hid.out ?_))
                  refine Hid.mk_ ((num10_some (str ([q])) hy8 (by rw [bys_str]; exact HN.out)).mono ?_)
                  rintro e w2 ⟨rfl, rfl⟩
                  go_wp2_with (first
                    | (go_at_call 42; refine Hid.out ?_))
                  refine Hid.mk_ ((rpoint_any n).mono ?_)
                  rintro e w1 ⟨rfl, rfl⟩
                  rw [HP.out]
                  go_wp2
                  go_ret2
                  exact ⟨by rw [HR.out]; rfl, Ext.refl _⟩
            · have p1 : ((x.extract 0 1).toList == [35]) = false := by rw [ByteArray.toList_eq]; show (bys (x.extract 0 1) == [35]) = false; rw [h1x]; simp [hp]
              rw [nameE_other q1 q2 q3 q4 q5 (fun r e => hp (by injection e))] at hr
              have HR := Lib.hid hr
              clear hr hxl q1 q2 q3 q4 q5 hbx h1x h2x r1x r2x hxs
              go_wp2
              go_ret2
              exact ⟨by rw [HR.out]; rfl, Ext.refl _⟩
          · have a1 : (3 : Int) ≤ (x.size : Int) := by omega
            have a2 : (2 : Int) ≤ (x.size : Int) := by omega
            have a3 : (x.size : Int) ≤ 8 := by omega
            obtain ⟨p, q, z, u, rfl⟩ : ∃ p q z u, nm = p :: q :: z :: u := by
              match nm, hln0 with
              | a :: b :: c :: d, _ => exact ⟨a, b, c, d, rfl⟩
            by_cases hp2 : p = 35 ∧ q = 120
            · obtain ⟨rfl, rfl⟩ := hp2
              have p2 : ((x.extract 0 2).toList == [35, 120]) = true := by rw [ByteArray.toList_eq]; show (bys (x.extract 0 2) == [35, 120]) = true; rw [h2x]; rfl
              have x2 : x.extract 2 x.size = str (z :: u) := bys_inj (by rw [r2x, bys_str]; rfl)
              clear hxl q1 q2 q3 q4 q5 hbx h1x h2x r1x r2x hxs
              have hr1 : o = match numOf 16 (z :: u) with
                  | some n => if isPt n then some (encOne n, k + 1) else none
                  | none => none := by
                rw [hr, nameE_hash]
                have hnr : nameR (120 :: z :: u) = numOf 16 (z :: u) := nameR_hex (by simp only [List.length_cons] at hln ⊢; omega)
                rw [hnr]
                cases numOf 16 (z :: u) with
                | none => rfl
                | some n => cases hp : isPt n <;> simp [hp]
              have hy8 : (str ((z :: u))).size ≤ 8 := by rw [str_size]; simp only [List.length_cons] at hln ⊢; omega
              clear hr
              cases hn : numOf 16 ((z :: u)) with
              | none =>
                rw [hn] at hr1
                have HR := Lib.hid hr1
                have HN := Lib.hid hn
                clear hr1 hn
                go_wp2_with (first
                  | (go_at_call 41; refine Hid.out ?_))
                refine Hid.mk_ ((num16_none (str ((z :: u))) hy8 (by rw [bys_str]; exact HN.out)).mono ?_)
                rintro e w2 ⟨rfl, rfl⟩
                go_wp2
                go_ret2
                exact ⟨by rw [HR.out]; rfl, Ext.refl _⟩
              | some n =>
                rw [hn] at hr1
                have hnb := numOf_bound (by omega) hn
                have hn31 : n < 2147483648 := by
                  have h1 : 16 ^ ((z :: u)).length ≤ 16 ^ 7 := Nat.pow_le_pow_right (by omega) (by simp only [List.length_cons] at hln ⊢; omega)
                  have h2 : 16 ^ 7 < 2147483648 := by decide
                  omega
                have HN := Lib.hid hn
                cases hp : isPt n with
                | true =>
                  have hr2 : o = some (encOne n, k + 1) := by rw [hr1]; simp [hp]
                  have hn111 : n ≤ 1114111 := (of_decide_eq_true hp).1
                  have HR := Lib.hid hr2
                  have HP := Lib.hid hp
                  clear hr1 hr2 hn hp hnb
                  go_wp2_with (first
                    | (go_at_call 41; refine Hid.out ?_))
                  refine Hid.mk_ ((num16_some (str ((z :: u))) hy8 (by rw [bys_str]; exact HN.out)).mono ?_)
                  rintro e w2 ⟨rfl, rfl⟩
                  go_wp2_with (first
                    | (go_at_call 42; refine Hid.out ?_))
                  refine Hid.mk_ ((rpoint_any n).mono ?_)
                  rintro e w1 ⟨rfl, rfl⟩
                  rw [HP.out]
                  go_wp2_with (first
                    | (go_at_call 43; refine Hid.out ?_))
                  refine Hid.mk_ ((one_pt n hn111).mono ?_)
                  rintro e w1 ⟨rfl, hE1⟩
                  go_wp2
                  go_ret2
                  exact ⟨by rw [HR.out]; rfl, hE1⟩
                | false =>
                  have hr2 : o = none := by rw [hr1]; simp [hp]
                  have HR := Lib.hid hr2
                  have HP := Lib.hid hp
                  clear hr1 hr2 hn hp hnb
                  go_wp2_with (first
                    | (go_at_call 41; refine Hid.out ?_))
                  refine Hid.mk_ ((num16_some (str ((z :: u))) hy8 (by rw [bys_str]; exact HN.out)).mono ?_)
                  rintro e w2 ⟨rfl, rfl⟩
                  go_wp2_with (first
                    | (go_at_call 42; refine Hid.out ?_))
                  refine Hid.mk_ ((rpoint_any n).mono ?_)
                  rintro e w1 ⟨rfl, rfl⟩
                  rw [HP.out]
                  go_wp2
                  go_ret2
                  exact ⟨by rw [HR.out]; rfl, Ext.refl _⟩
            · have p2 : ((x.extract 0 2).toList == [35, 120]) = false := by
                rw [ByteArray.toList_eq]
                show (bys (x.extract 0 2) == [35, 120]) = false
                rw [h2x, beq_eq_false_iff_ne]
                intro e
                simp only [List.take_succ_cons, List.take_zero] at e
                injection e with e1 e2
                injection e2 with e2 _
                exact hp2 ⟨e1, e2⟩
              by_cases hp : p = 35
              · subst hp
                have p1 : ((x.extract 0 1).toList == [35]) = true := by rw [ByteArray.toList_eq]; show (bys (x.extract 0 1) == [35]) = true; rw [h1x]; rfl
                have x1 : x.extract 1 x.size = str (q :: z :: u) := bys_inj (by rw [r1x, bys_str]; rfl)
                have hq : q ≠ 120 := fun e => hp2 ⟨rfl, e⟩
                clear hxl q1 q2 q3 q4 q5 hbx h1x h2x r1x r2x hxs hp2
                have hr1 : o = match numOf 10 (q :: z :: u) with
                    | some n => if isPt n then some (encOne n, k + 1) else none
                    | none => none := by
                  rw [hr, nameE_hash]
                  have hnr : nameR (q :: z :: u) = numOf 10 (q :: z :: u) := nameR_ten (by simp only [List.length_cons] at hln ⊢; omega) (fun c y e => hq (by injection e))
                  rw [hnr]
                  cases numOf 10 (q :: z :: u) with
                  | none => rfl
                  | some n => cases hp : isPt n <;> simp [hp]
                have hy8 : (str ((q :: z :: u))).size ≤ 8 := by rw [str_size]; simp only [List.length_cons] at hln ⊢; omega
                clear hr
                cases hn : numOf 10 ((q :: z :: u)) with
                | none =>
                  rw [hn] at hr1
                  have HR := Lib.hid hr1
                  have HN := Lib.hid hn
                  clear hr1 hn
                  go_wp2_with (first
                    | (go_at_call 41; refine Hid.out ?_))
                  refine Hid.mk_ ((num10_none (str ((q :: z :: u))) hy8 (by rw [bys_str]; exact HN.out)).mono ?_)
                  rintro e w2 ⟨rfl, rfl⟩
                  go_wp2
                  go_ret2
                  exact ⟨by rw [HR.out]; rfl, Ext.refl _⟩
                | some n =>
                  rw [hn] at hr1
                  have hnb := numOf_bound (by omega) hn
                  have hn31 : n < 2147483648 := by
                    have h1 : 10 ^ ((q :: z :: u)).length ≤ 10 ^ 7 := Nat.pow_le_pow_right (by omega) (by simp only [List.length_cons] at hln ⊢; omega)
                    have h2 : 10 ^ 7 < 2147483648 := by decide
                    omega
                  have HN := Lib.hid hn
                  cases hp : isPt n with
                  | true =>
                    have hr2 : o = some (encOne n, k + 1) := by rw [hr1]; simp [hp]
                    have hn111 : n ≤ 1114111 := (of_decide_eq_true hp).1
                    have HR := Lib.hid hr2
                    have HP := Lib.hid hp
                    clear hr1 hr2 hn hp hnb
                    go_wp2_with (first
                      | (go_at_call 41; refine Hid.out ?_))
                    refine Hid.mk_ ((num10_some (str ((q :: z :: u))) hy8 (by rw [bys_str]; exact HN.out)).mono ?_)
                    rintro e w2 ⟨rfl, rfl⟩
                    go_wp2_with (first
                      | (go_at_call 42; refine Hid.out ?_))
                    refine Hid.mk_ ((rpoint_any n).mono ?_)
                    rintro e w1 ⟨rfl, rfl⟩
                    rw [HP.out]
                    go_wp2_with (first
                      | (go_at_call 43; refine Hid.out ?_))
                    refine Hid.mk_ ((one_pt n hn111).mono ?_)
                    rintro e w1 ⟨rfl, hE1⟩
                    go_wp2
                    go_ret2
                    exact ⟨by rw [HR.out]; rfl, hE1⟩
                  | false =>
                    have hr2 : o = none := by rw [hr1]; simp [hp]
                    have HR := Lib.hid hr2
                    have HP := Lib.hid hp
                    clear hr1 hr2 hn hp hnb
                    go_wp2_with (first
                      | (go_at_call 41; refine Hid.out ?_))
                    refine Hid.mk_ ((num10_some (str ((q :: z :: u))) hy8 (by rw [bys_str]; exact HN.out)).mono ?_)
                    rintro e w2 ⟨rfl, rfl⟩
                    go_wp2_with (first
                      | (go_at_call 42; refine Hid.out ?_))
                    refine Hid.mk_ ((rpoint_any n).mono ?_)
                    rintro e w1 ⟨rfl, rfl⟩
                    rw [HP.out]
                    go_wp2
                    go_ret2
                    exact ⟨by rw [HR.out]; rfl, Ext.refl _⟩
              · have p1 : ((x.extract 0 1).toList == [35]) = false := by
                  rw [ByteArray.toList_eq]
                  show (bys (x.extract 0 1) == [35]) = false
                  rw [h1x, beq_eq_false_iff_ne]
                  intro e
                  simp only [List.take_succ_cons, List.take_zero] at e
                  injection e with e1 e2
                  exact hp e1
                rw [nameE_other q1 q2 q3 q4 q5 (fun r e => hp (by injection e))] at hr
                have HR := Lib.hid hr
                clear hr hxl q1 q2 q3 q4 q5 hbx h1x h2x r1x r2x hxs hp2 hp
                go_wp2
                go_ret2
                exact ⟨by rw [HR.out]; rfl, Ext.refl _⟩
          · have a1 : (3 : Int) ≤ (x.size : Int) := by omega
            have a2 : (2 : Int) ≤ (x.size : Int) := by omega
            have a3 : ¬ (x.size : Int) ≤ 8 := by omega
            rw [nameE_long hln] at hr
            have HR := Lib.hid hr
            clear hr hxl q1 q2 q3 q4 q5 hbx h1x h2x r1x r2x hxs
            go_wp2
            go_ret2
            exact ⟨by rw [HR.out]; rfl, Ext.refl _⟩
    · have hi1 : ¬ (k : Int) < (s.size : Int) := by omega
      have hi3 : ((k : Int) == (s.size : Int)) = true := by rw [beq_iff_eq]; omega
      have hnone : o = none := by rw [HR0.out, if_neg (by omega)]
      have HR := Lib.hid hnone
      clear hnone
      go_wp2
      go_ret2
      exact ⟨by rw [HR.out]; rfl, Ext.refl _⟩
end

end Go.Proofs.YtkicjbmljbfojaaDoor
