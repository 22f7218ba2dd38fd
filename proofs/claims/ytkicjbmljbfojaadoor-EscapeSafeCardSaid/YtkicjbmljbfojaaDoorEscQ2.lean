/- The reference's backslash. -/
import Derived.Test.YtkicjbmljbfojaaDoorEscQ1
namespace Go.Proofs.YtkicjbmljbfojaaDoor
open Go.RowKit Go.Shelf
set_option maxRecDepth 100000

attribute [local go_sem] ext_refl_t ext_alloc_t ext_drew_t ext_drewN_t ext_alloc2_t ext_alloc3_t ext_alloc4_t ext_alloc5_t ext_alloc6_t ext_alloc7_t ext_alloc8_t ext_alloc1d_t ext_alloc2d_t ext_alloc3d_t ext_alloc4d_t
section
variable {w : World}
theorem in_r2 (s : ByteArray) (b : Nat) (r : Bool) (hs : s.size ≤ 9223372036854775807) (hr : inL b (bys s) = r) : Calls Tryd.prog 18 #[.int .u8 (b : Int), .string s] w fun e w' => e = .returned (.bool r) ∧ w' = w := by
  subst hr
  exact in_any s b hs
theorem inL_mem {b : Nat} (hb : b < 256) (l : List UInt8) : inL b l = true ↔ by_ b ∈ l := by
  have hbb : (by_ b).toNat = b := by unfold by_; rw [UInt8.toNat_ofNat', Nat.mod_eq_of_lt hb]
  unfold inL
  rw [List.any_eq_true]
  constructor
  · rintro ⟨x, hx, h⟩
    rw [beq_iff_eq] at h
    have : x = by_ b := UInt8.toNat_inj.1 (by rw [hbb]; exact h)
    rw [← this]; exact hx
  · intro h
    exact ⟨_, h, by rw [hbb]; exact beq_self_eq_true _⟩
theorem num16_some (s : ByteArray) (hs : s.size ≤ 8) {n : Nat} (h : numOf 16 (bys s) = some n) : Calls Tryd.prog 41 #[.string s, .int .i64 16] w fun e w' => e = .returned (.int .i64 (n : Int)) ∧ w' = w := by
  have := number16 (w := w) s hs
  unfold numY at this
  rw [h] at this
  exact this
theorem num16_none (s : ByteArray) (hs : s.size ≤ 8) (h : numOf 16 (bys s) = none) : Calls Tryd.prog 41 #[.string s, .int .i64 16] w fun e w' => e = .returned (.int .i64 (-1)) ∧ w' = w := by
  have := number16 (w := w) s hs
  unfold numY at this
  rw [h] at this
  exact this
theorem num10_some (s : ByteArray) (hs : s.size ≤ 8) {n : Nat} (h : numOf 10 (bys s) = some n) : Calls Tryd.prog 41 #[.string s, .int .i64 10] w fun e w' => e = .returned (.int .i64 (n : Int)) ∧ w' = w := by
  have := number10 (w := w) s hs
  unfold numY at this
  rw [h] at this
  exact this
theorem num10_none (s : ByteArray) (hs : s.size ≤ 8) (h : numOf 10 (bys s) = none) : Calls Tryd.prog 41 #[.string s, .int .i64 10] w fun e w' => e = .returned (.int .i64 (-1)) ∧ w' = w := by
  have := number10 (w := w) s hs
  unfold numY at this
  rw [h] at this
  exact this
set_option maxHeartbeats 1600000 in
theorem rback_any (s : ByteArray) (hs : s.size ≤ 100000) :
    Calls Tryd.prog 29 #[.string s] w fun e w' => e = .returned (.tuple #[.string (str (rdX (readB (bys s)))), .int .i64 (rdK (readB (bys s)))]) ∧ Ext w w' := by
  have hbl := bys_len s
  by_cases h2 : s.size < 2
  · have h2' : (s.size : Int) < 2 := by omega
    have hn : readB (bys s) = none := by
      match hq : bys s with
      | [] => rfl
      | [_] => rfl
      | _ :: _ :: _ => rw [hq] at hbl; simp at hbl; omega
    rw [hn]
    clear hn hbl
    go_enter Tryd.func29, Tryd.ntmps29
    go_wp2
    go_ret2
    exact ⟨rfl, Ext.refl _⟩
  · have h2' : ¬ (s.size : Int) < 2 := by omega
    obtain ⟨a, c, t, hL⟩ : ∃ a c t, bys s = a :: c :: t := by
      match hq : bys s with
      | [] => rw [hq] at hbl; simp at hbl; omega
      | [_] => rw [hq] at hbl; simp at hbl; omega
      | x :: y :: z => exact ⟨x, y, z, rfl⟩
    have htl : t.length + 2 = s.size := by rw [hL] at hbl; simpa using hbl
    obtain ⟨b, hb⟩ : ∃ b, b = c.toNat := ⟨_, rfl⟩
    have hcb : c = by_ b := by rw [hb]; unfold by_; simp
    have hb256 : b < 256 := by rw [hb]; exact UInt8.toNat_lt _
    have hs1 : ∀ h, (s[1]'h).toNat = b := fun h => by
      have : (bys s)[1]? = some c := by rw [hL]; rfl
      have h3 : (bys s)[1]'(by rw [bys_len]; exact h) = c := by
        rw [List.getElem?_eq_getElem (by rw [bys_len]; exact h)] at this
        injection this
      rw [hb, ← h3]; rfl
    rw [hL]
    subst hcb
    have HL := Lib.hid hL
    have HB := Lib.hid hb
    clear hL hb hbl
    by_cases c110 : b = 110
    · subst c110
      go_enter Tryd.func29, Tryd.ntmps29
      go_wp2
      go_ret2
      exact ⟨rfl, Ext.refl _⟩
    by_cases c114 : b = 114
    · subst c114
      go_enter Tryd.func29, Tryd.ntmps29
      go_wp2
      go_ret2
      exact ⟨rfl, Ext.refl _⟩
    by_cases c116 : b = 116
    · subst c116
      go_enter Tryd.func29, Tryd.ntmps29
      go_wp2
      go_ret2
      exact ⟨rfl, Ext.refl _⟩
    have e110 : ¬ by_ b = 110 := fun e => c110 (by rw [HB.out, e]; rfl)
    have e114 : ¬ by_ b = 114 := fun e => c114 (by rw [HB.out, e]; rfl)
    have e116 : ¬ by_ b = 116 := fun e => c116 (by rw [HB.out, e]; rfl)
    have t110 : ((b : Int) == 110) = false := by rw [beq_eq_false_iff_ne]; omega
    have t114 : ((b : Int) == 114) = false := by rw [beq_eq_false_iff_ne]; omega
    have t116 : ((b : Int) == 116) = false := by rw [beq_eq_false_iff_ne]; omega
    have hr : readB (a :: by_ b :: t) = if plainB (by_ b) then some ([by_ b], 2) else if by_ b = 120 then readX t else if by_ b = 117 then readU t else none := by
      rw [readB, if_neg e110, if_neg e114, if_neg e116]
    clear e110 e114 e116 c110 c114 c116
    by_cases c120 : b = 120
    · subst c120
      have hr2 : readB (a :: by_ 120 :: t) = readX t := hr
      rw [hr2]
      clear hr hr2
      by_cases h4 : s.size < 4
      · have h4' : ¬ (4 : Int) ≤ (s.size : Int) := by omega
        have hx : readX t = none := by
          match t, htl with
          | [], _ => rfl
          | [_], _ => rfl
          | _ :: _ :: _, h => simp at h; omega
        rw [hx]
        go_enter Tryd.func29, Tryd.ntmps29
        go_wp2_with (first
          | (go_at_call 18; refine Hid.out ?_))
        refine Hid.mk_ ((in_r2 ⟨#[92, 34, 61, 58, 35, 33, 123, 125, 32]⟩ 120 false (by decide) rfl).mono ?_)
        rintro e w1 ⟨rfl, rfl⟩
        go_wp2
        go_ret2
        exact ⟨rfl, Ext.refl _⟩
      · have h4' : (4 : Int) ≤ (s.size : Int) := by omega
        obtain ⟨p, q, u, rfl⟩ : ∃ p q u, t = p :: q :: u := by
          match t, htl with
          | [], h => simp at h; omega
          | [_], h => simp at h; omega
          | x :: y :: z, _ => exact ⟨x, y, z, rfl⟩
        obtain ⟨x, hx⟩ : ∃ x, x = s.extract 2 4 := ⟨_, rfl⟩
        have hbx : bys x = [p, q] := by rw [hx, bys_extract, HL.out]; rfl
        have hxs : x.size ≤ 8 := by rw [← bys_len, hbx]; simp
        have HX := Lib.hid hx
        have hx' : s.extract 2 4 = x := hx.symm
        cases hn : numOf 16 [p, q] with
        | none =>
          have hv : readX (p :: q :: u) = none := by rw [readX, hn]
          have HN := Lib.hid (show numOf 16 (bys x) = none by rw [hbx]; exact hn)
          rw [hv]
          clear hbx hv hx hn
          go_enter Tryd.func29, Tryd.ntmps29
          go_wp2_with (first
            | (go_at_call 18; refine Hid.out ?_))
          refine Hid.mk_ ((in_r2 ⟨#[92, 34, 61, 58, 35, 33, 123, 125, 32]⟩ 120 false (by decide) rfl).mono ?_)
          rintro e w1 ⟨rfl, rfl⟩
          go_wp2_with (first
            | (go_at_call 41; refine Hid.out ?_))
          refine Hid.mk_ ((num16_none x hxs HN.out).mono ?_)
          rintro e w1 ⟨rfl, rfl⟩
          go_wp2
          go_ret2
          exact ⟨rfl, Ext.refl _⟩
        | some n =>
          have HN := Lib.hid (show numOf 16 (bys x) = some n by rw [hbx]; exact hn)
          have hn256 := numOf_bound (by omega) hn
          have hn2 : n < 256 := by simpa using hn256
          clear hn256
          by_cases h127 : n ≤ 127
          · have h127' : (n : Int) ≤ 127 := by omega
            have hv : readX (p :: q :: u) = some ([by_ n], 4) := by rw [readX, hn]; exact if_pos h127
            have hcv : ∀ W : World, (convert 34 9 (.slice (some ⟨W.heap.size, 0, none⟩) 1 1)).run Tryd.prog (W.alloc (.cells #[.int .u8 (n : Int)] 5)) = .ok (.string (str [by_ n])) (W.alloc (.cells #[.int .u8 (n : Int)] 5)) := fun W => conv1 W n (by omega)
            rw [hv]
            clear hbx hv hx hn
            go_enter Tryd.func29, Tryd.ntmps29
            go_wp2_with (first
              | (go_at_call 18; refine Hid.out ?_))
            refine Hid.mk_ ((in_r2 ⟨#[92, 34, 61, 58, 35, 33, 123, 125, 32]⟩ 120 false (by decide) rfl).mono ?_)
            rintro e w1 ⟨rfl, rfl⟩
            go_wp2_with (first
              | (go_at_call 41; refine Hid.out ?_))
            refine Hid.mk_ ((num16_some x hxs HN.out).mono ?_)
            rintro e w1 ⟨rfl, rfl⟩
            go_wp2
            go_ret2
            exact ⟨rfl, (Ext.refl _).alloc _⟩
          · have h127' : ¬ (n : Int) ≤ 127 := by omega
            have hv : readX (p :: q :: u) = none := by rw [readX, hn]; exact if_neg h127
            rw [hv]
            clear hbx hv hx hn
            go_enter Tryd.func29, Tryd.ntmps29
            go_wp2_with (first
              | (go_at_call 18; refine Hid.out ?_))
            refine Hid.mk_ ((in_r2 ⟨#[92, 34, 61, 58, 35, 33, 123, 125, 32]⟩ 120 false (by decide) rfl).mono ?_)
            rintro e w1 ⟨rfl, rfl⟩
            go_wp2_with (first
              | (go_at_call 41; refine Hid.out ?_))
            refine Hid.mk_ ((num16_some x hxs HN.out).mono ?_)
            rintro e w1 ⟨rfl, rfl⟩
            go_wp2
            go_ret2
            exact ⟨rfl, Ext.refl _⟩
    have t120 : ((b : Int) == 120) = false := by rw [beq_eq_false_iff_ne]; omega
    by_cases c117 : b = 117
    · subst c117
      have hr2 : readB (a :: by_ 117 :: t) = readU t := hr
      rw [hr2]
      clear hr hr2
      by_cases h6 : s.size < 6
      · have h6' : ¬ (6 : Int) ≤ (s.size : Int) := by omega
        have hx : readU t = none := by
          match t, htl with
          | [], _ => rfl
          | [_], _ => rfl
          | [_, _], _ => rfl
          | [_, _, _], _ => rfl
          | _ :: _ :: _ :: _ :: _, h => simp at h; omega
        rw [hx]
        go_enter Tryd.func29, Tryd.ntmps29
        go_wp2_with (first
          | (go_at_call 18; refine Hid.out ?_))
        refine Hid.mk_ ((in_r2 ⟨#[92, 34, 61, 58, 35, 33, 123, 125, 32]⟩ 117 false (by decide) rfl).mono ?_)
        rintro e w1 ⟨rfl, rfl⟩
        go_wp2
        go_ret2
        exact ⟨rfl, Ext.refl _⟩
      · have h6' : (6 : Int) ≤ (s.size : Int) := by omega
        obtain ⟨p, q, p2, q2, u, rfl⟩ : ∃ p q p2 q2 u, t = p :: q :: p2 :: q2 :: u := by
          match t, htl with
          | [], h => simp at h; omega
          | [_], h => simp at h; omega
          | [_, _], h => simp at h; omega
          | [_, _, _], h => simp at h; omega
          | x :: y :: z :: v :: u, _ => exact ⟨x, y, z, v, u, rfl⟩
        obtain ⟨x, hx⟩ : ∃ x, x = s.extract 2 6 := ⟨_, rfl⟩
        have hbx : bys x = [p, q, p2, q2] := by rw [hx, bys_extract, HL.out]; rfl
        have hxs : x.size ≤ 8 := by rw [← bys_len, hbx]; simp
        have HX := Lib.hid hx
        have hx' : s.extract 2 6 = x := hx.symm
        cases hn : numOf 16 [p, q, p2, q2] with
        | none =>
          have hv : readU (p :: q :: p2 :: q2 :: u) = none := by rw [readU, hn]
          have HN := Lib.hid (show numOf 16 (bys x) = none by rw [hbx]; exact hn)
          rw [hv]
          clear hbx hv hx hn
          go_enter Tryd.func29, Tryd.ntmps29
          go_wp2_with (first
            | (go_at_call 18; refine Hid.out ?_))
          refine Hid.mk_ ((in_r2 ⟨#[92, 34, 61, 58, 35, 33, 123, 125, 32]⟩ 117 false (by decide) rfl).mono ?_)
          rintro e w1 ⟨rfl, rfl⟩
          go_wp2_with (first
            | (go_at_call 41; refine Hid.out ?_))
          refine Hid.mk_ ((num16_none x hxs HN.out).mono ?_)
          rintro e w1 ⟨rfl, rfl⟩
          go_wp2
          go_ret2
          exact ⟨rfl, Ext.refl _⟩
        | some n =>
          have HN := Lib.hid (show numOf 16 (bys x) = some n by rw [hbx]; exact hn)
          have hn256 := numOf_bound (by omega) hn
          have hn2 : n < 65536 := by simpa using hn256
          clear hn256
          cases hp : isPt n with
          | true =>
            have hv : readU (p :: q :: p2 :: q2 :: u) = some (encOne n, 6) := by rw [readU, hn]; exact if_pos hp
            have hpo : ptOr n = n := by unfold ptOr; rw [hp]; rfl
            rw [hv]
            have HP := Lib.hid hp
            have HO := Lib.hid hpo
            clear hbx hv hx hn hp hpo
            go_enter Tryd.func29, Tryd.ntmps29
            go_wp2_with (first
              | (go_at_call 18; refine Hid.out ?_))
            refine Hid.mk_ ((in_r2 ⟨#[92, 34, 61, 58, 35, 33, 123, 125, 32]⟩ 117 false (by decide) rfl).mono ?_)
            rintro e w1 ⟨rfl, rfl⟩
            go_wp2_with (first
              | (go_at_call 41; refine Hid.out ?_))
            refine Hid.mk_ ((num16_some x hxs HN.out).mono ?_)
            rintro e w1 ⟨rfl, rfl⟩
            go_wp2_with (first
              | (go_at_call 42; refine Hid.out ?_))
            refine Hid.mk_ ((rpoint_any n).mono ?_)
            rintro e w1 ⟨rfl, rfl⟩
            rw [HP.out]
            go_wp2_with (first
              | (go_at_call 43; refine Hid.out ?_))
            refine Hid.mk_ ((one_pt n (by omega)).mono ?_)
            rintro e w1 ⟨rfl, hE1⟩
            go_wp2
            go_ret2
            exact ⟨rfl, hE1⟩
          | false =>
            have hv : readU (p :: q :: p2 :: q2 :: u) = none := by rw [readU, hn]; simp [hp]
            rw [hv]
            have HP := Lib.hid hp
            clear hbx hv hx hn hp
            go_enter Tryd.func29, Tryd.ntmps29
            go_wp2_with (first
              | (go_at_call 18; refine Hid.out ?_))
            refine Hid.mk_ ((in_r2 ⟨#[92, 34, 61, 58, 35, 33, 123, 125, 32]⟩ 117 false (by decide) rfl).mono ?_)
            rintro e w1 ⟨rfl, rfl⟩
            go_wp2_with (first
              | (go_at_call 41; refine Hid.out ?_))
            refine Hid.mk_ ((num16_some x hxs HN.out).mono ?_)
            rintro e w1 ⟨rfl, rfl⟩
            go_wp2_with (first
              | (go_at_call 42; refine Hid.out ?_))
            refine Hid.mk_ ((rpoint_any n).mono ?_)
            rintro e w1 ⟨rfl, rfl⟩
            rw [HP.out]
            go_wp2
            go_ret2
            exact ⟨rfl, Ext.refl _⟩
    have t117 : ((b : Int) == 117) = false := by rw [beq_eq_false_iff_ne]; omega
    have e120 : ¬ by_ b = 120 := fun e => c120 (by rw [HB.out, e]; rfl)
    have e117 : ¬ by_ b = 117 := fun e => c117 (by rw [HB.out, e]; rfl)
    rw [if_neg e120, if_neg e117] at hr
    clear e120 e117 c120 c117
    have hpm : plainB (by_ b) = true ↔ by_ b ∈ bys (⟨#[92, 34, 61, 58, 35, 33, 123, 125, 32]⟩ : ByteArray) := by
      simp [plainB, bys, or_assoc]
    by_cases hm : by_ b ∈ bys (⟨#[92, 34, 61, 58, 35, 33, 123, 125, 32]⟩ : ByteArray)
    · have HI : Hid (inL b (bys ⟨#[92, 34, 61, 58, 35, 33, 123, 125, 32]⟩) = true) := Lib.hid ((inL_mem hb256 _).2 hm)
      have hx' : s.extract 1 2 = str [by_ b] := by
        apply bys_inj
        rw [bys_extract, HL.out, bys_str]; rfl
      rw [hr, if_pos (hpm.2 hm)]
      clear hr hpm
      go_enter Tryd.func29, Tryd.ntmps29
      go_wp2_with (first
        | (go_at_call 18; refine Hid.out ?_))
      refine Hid.mk_ ((in_r2 ⟨#[92, 34, 61, 58, 35, 33, 123, 125, 32]⟩ b true (by decide) HI.out).mono ?_)
      rintro e w1 ⟨rfl, rfl⟩
      go_wp2
      go_ret2
      exact ⟨rfl, Ext.refl _⟩
    · have HI : Hid (inL b (bys ⟨#[92, 34, 61, 58, 35, 33, 123, 125, 32]⟩) = false) := Lib.hid (by rw [Bool.eq_false_iff]; exact fun h => hm ((inL_mem hb256 _).1 h))
      rw [hr, if_neg (fun e => hm (hpm.1 e))]
      clear hr hpm
      go_enter Tryd.func29, Tryd.ntmps29
      go_wp2_with (first
        | (go_at_call 18; refine Hid.out ?_))
      refine Hid.mk_ ((in_r2 ⟨#[92, 34, 61, 58, 35, 33, 123, 125, 32]⟩ b false (by decide) HI.out).mono ?_)
      rintro e w1 ⟨rfl, rfl⟩
      go_wp2
      go_ret2
      exact ⟨rfl, Ext.refl _⟩
end

end Go.Proofs.YtkicjbmljbfojaaDoor
