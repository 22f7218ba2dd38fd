/- readBackslash of package escape. -/
import Derived.Test.YtkicjbmljbfojaaDoorEscY
namespace Go.Proofs.YtkicjbmljbfojaaDoor
open Go.RowKit Go.Shelf
set_option maxRecDepth 100000

attribute [local go_sem] ext_refl_t ext_alloc_t ext_drew_t ext_drewN_t ext_alloc2_t ext_alloc3_t ext_alloc4_t ext_alloc5_t ext_alloc6_t ext_alloc7_t ext_alloc8_t ext_alloc1d_t ext_alloc2d_t ext_alloc3d_t ext_alloc4d_t
def rdX (o : Option (List UInt8 × Nat)) : List UInt8 := match o with
  | some p => p.1
  | none => []
def rdK (o : Option (List UInt8 × Nat)) : Int := match o with
  | some p => (p.2 : Int)
  | none => 0
section
variable {w : World}
theorem dig16_some (s : ByteArray) (hs : s.size ≤ 8) {n : Nat} (h : numOf 16 (bys s) = some n) : Calls Tryd.prog 38 #[.string s, .int .i64 16] w fun e w' => e = .returned (.tuple #[.int .i64 (n : Int), .bool true]) ∧ w' = w := by
  have := dig16_any (w := w) s hs
  unfold numZ at this
  rw [h] at this
  exact this
theorem dig16_none (s : ByteArray) (hs : s.size ≤ 8) (h : numOf 16 (bys s) = none) : Calls Tryd.prog 38 #[.string s, .int .i64 16] w fun e w' => e = .returned (.tuple #[.int .i64 0, .bool false]) ∧ w' = w := by
  have := dig16_any (w := w) s hs
  unfold numZ at this
  rw [h] at this
  exact this
theorem dig10_some (s : ByteArray) (hs : s.size ≤ 8) {n : Nat} (h : numOf 10 (bys s) = some n) : Calls Tryd.prog 38 #[.string s, .int .i64 10] w fun e w' => e = .returned (.tuple #[.int .i64 (n : Int), .bool true]) ∧ w' = w := by
  have := dig10_any (w := w) s hs
  unfold numZ at this
  rw [h] at this
  exact this
theorem dig10_none (s : ByteArray) (hs : s.size ≤ 8) (h : numOf 10 (bys s) = none) : Calls Tryd.prog 38 #[.string s, .int .i64 10] w fun e w' => e = .returned (.tuple #[.int .i64 0, .bool false]) ∧ w' = w := by
  have := dig10_any (w := w) s hs
  unfold numZ at this
  rw [h] at this
  exact this
theorem bys_extract (s : ByteArray) (i j : Nat) : bys (s.extract i j) = ((bys s).take j).drop i := by
  simp [bys, ByteArray.data_extract, Array.toList_extract, List.extract_eq_take_drop, List.drop_take]
set_option maxHeartbeats 1600000 in
theorem readB_any (s : ByteArray) (hs : s.size ≤ 100000) :
    Calls Tryd.prog 25 #[.string s] w fun e w' => e = .returned (.tuple #[.string (str (rdX (readB (bys s)))), .int .i64 (rdK (readB (bys s)))]) ∧ Ext w w' := by
  have hbl := bys_len s
  by_cases h2 : s.size < 2
  · have h2' : (s.size : Int) < 2 := by omega
    have hn : readB (bys s) = none := by
      match hq : bys s with
      | [] => rfl
      | [_] => rfl
      | _ :: _ :: _ => rw [hq] at hbl; simp at hbl; omega
    rw [hn]
    clear hn hbl
    go_enter Tryd.func25, Tryd.ntmps25
    go_wp2
    go_ret2
    exact ⟨rfl, Ext.refl _⟩
  · have h2' : ¬ (s.size : Int) < 2 := by omega
    obtain ⟨a, c, t, hL⟩ : ∃ a c t, bys s = a :: c :: t := by
      match hq : bys s with
      | [] => rw [hq] at hbl; simp at hbl; omega
      | [_] => rw [hq] at hbl; simp at hbl; omega
      | x :: y :: z => exact ⟨x, y, z, rfl⟩
    have htl : t.length + 2 = s.size := by rw [hL] at hbl; simpa using hbl
    obtain ⟨b, hb⟩ : ∃ b, b = c.toNat := ⟨_, rfl⟩
    have hcb : c = by_ b := by rw [hb]; unfold by_; simp
    have hb256 : b < 256 := by rw [hb]; exact UInt8.toNat_lt _
    have hs1 : ∀ h, (s[1]'h).toNat = b := fun h => by
      have : (bys s)[1]? = some c := by rw [hL]; rfl
      have h3 : (bys s)[1]'(by rw [bys_len]; exact h) = c := by
        rw [List.getElem?_eq_getElem (by rw [bys_len]; exact h)] at this
        injection this
      rw [hb, ← h3]; rfl
    rw [hL]
    subst hcb
    have HL := Lib.hid hL
    have HB := Lib.hid hb
    clear hL hb hbl
    by_cases c110 : b = 110
    · subst c110
      go_enter Tryd.func25, Tryd.ntmps25
      go_wp2
      go_ret2
      exact ⟨rfl, Ext.refl _⟩
    by_cases c114 : b = 114
    · subst c114
      go_enter Tryd.func25, Tryd.ntmps25
      go_wp2
      go_ret2
      exact ⟨rfl, Ext.refl _⟩
    by_cases c116 : b = 116
    · subst c116
      go_enter Tryd.func25, Tryd.ntmps25
      go_wp2
      go_ret2
      exact ⟨rfl, Ext.refl _⟩
    have e110 : ¬ by_ b = 110 := fun e => c110 (by rw [HB.out, e]; rfl)
    have e114 : ¬ by_ b = 114 := fun e => c114 (by rw [HB.out, e]; rfl)
    have e116 : ¬ by_ b = 116 := fun e => c116 (by rw [HB.out, e]; rfl)
    have t110 : ((b : Int) == 110) = false := by rw [beq_eq_false_iff_ne]; omega
    have t114 : ((b : Int) == 114) = false := by rw [beq_eq_false_iff_ne]; omega
    have t116 : ((b : Int) == 116) = false := by rw [beq_eq_false_iff_ne]; omega
    have hr : readB (a :: by_ b :: t) = if plainB (by_ b) then some ([by_ b], 2) else if by_ b = 120 then readX t else if by_ b = 117 then readU t else none := by
      rw [readB, if_neg e110, if_neg e114, if_neg e116]
    clear e110 e114 e116 c110 c114 c116
    by_cases c120 : b = 120
    · subst c120
      have hr2 : readB (a :: by_ 120 :: t) = readX t := hr
      rw [hr2]
      clear hr hr2
      by_cases h4 : s.size < 4
      · have h4' : ¬ (4 : Int) ≤ (s.size : Int) := by omega
        have hx : readX t = none := by
          match t, htl with
          | [], _ => rfl
          | [_], _ => rfl
          | _ :: _ :: _, h => simp at h; omega
        rw [hx]
        go_enter Tryd.func25, Tryd.ntmps25
        go_wp2
        go_ret2
        exact ⟨rfl, Ext.refl _⟩
      · have h4' : (4 : Int) ≤ (s.size : Int) := by omega
        obtain ⟨p, q, u, rfl⟩ : ∃ p q u, t = p :: q :: u := by
          match t, htl with
          | [], h => simp at h; omega
          | [_], h => simp at h; omega
          | x :: y :: z, _ => exact ⟨x, y, z, rfl⟩
        obtain ⟨x, hx⟩ : ∃ x, x = s.extract 2 4 := ⟨_, rfl⟩
        have hbx : bys x = [p, q] := by rw [hx, bys_extract, HL.out]; rfl
        have hxs : x.size ≤ 8 := by rw [← bys_len, hbx]; simp
        have HX := Lib.hid hx
        have hx' : s.extract 2 4 = x := hx.symm
        cases hn : numOf 16 [p, q] with
        | none =>
          have hv : readX (p :: q :: u) = none := by rw [readX, hn]
          have HN := Lib.hid (show numOf 16 (bys x) = none by rw [hbx]; exact hn)
          rw [hv]
          clear hbx hv hx hn
          go_enter Tryd.func25, Tryd.ntmps25
          go_wp2_with (first
            | (go_at_call 38; refine Hid.out ?_))
          refine Hid.mk_ ((dig16_none x hxs HN.out).mono ?_)
          rintro e w1 ⟨rfl, rfl⟩
          go_wp2
          go_ret2
          exact ⟨rfl, Ext.refl _⟩
        | some n =>
          have HN := Lib.hid (show numOf 16 (bys x) = some n by rw [hbx]; exact hn)
          have hn256 := numOf_bound (by omega) hn
          have hn2 : n < 256 := by simpa using hn256
          clear hn256
          by_cases h127 : n ≤ 127
          · have h127' : (n : Int) ≤ 127 := by omega
            have hv : readX (p :: q :: u) = some ([by_ n], 4) := by rw [readX, hn]; exact if_pos h127
            have hcv : ∀ W : World, (convert 34 9 (.slice (some ⟨W.heap.size, 0, none⟩) 1 1)).run Tryd.prog (W.alloc (.cells #[.int .u8 (n : Int)] 5)) = .ok (.string (str [by_ n])) (W.alloc (.cells #[.int .u8 (n : Int)] 5)) := fun W => conv1 W n (by omega)
            rw [hv]
            clear hbx hv hx hn
            go_enter Tryd.func25, Tryd.ntmps25
            go_wp2_with (first
              | (go_at_call 38; refine Hid.out ?_))
            refine Hid.mk_ ((dig16_some x hxs HN.out).mono ?_)
            rintro e w1 ⟨rfl, rfl⟩
            go_wp2
            go_ret2
            exact ⟨rfl, (Ext.refl _).alloc _⟩
          · have h127' : ¬ (n : Int) ≤ 127 := by omega
            have hv : readX (p :: q :: u) = none := by rw [readX, hn]; exact if_neg h127
            rw [hv]
            clear hbx hv hx hn
            go_enter Tryd.func25, Tryd.ntmps25
            go_wp2_with (first
              | (go_at_call 38; refine Hid.out ?_))
            refine Hid.mk_ ((dig16_some x hxs HN.out).mono ?_)
            rintro e w1 ⟨rfl, rfl⟩
            go_wp2
            go_ret2
            exact ⟨rfl, Ext.refl _⟩
    have t120 : ((b : Int) == 120) = false := by rw [beq_eq_false_iff_ne]; omega
    by_cases c117 : b = 117
    · subst c117
      have hr2 : readB (a :: by_ 117 :: t) = readU t := hr
      rw [hr2]
      clear hr hr2
      by_cases h6 : s.size < 6
      · have h6' : ¬ (6 : Int) ≤ (s.size : Int) := by omega
        have hx : readU t = none := by
          match t, htl with
          | [], _ => rfl
          | [_], _ => rfl
          | [_, _], _ => rfl
          | [_, _, _], _ => rfl
          | _ :: _ :: _ :: _ :: _, h => simp at h; omega
        rw [hx]
        go_enter Tryd.func25, Tryd.ntmps25
        go_wp2
        go_ret2
        exact ⟨rfl, Ext.refl _⟩
      · have h6' : (6 : Int) ≤ (s.size : Int) := by omega
        obtain ⟨p, q, p2, q2, u, rfl⟩ : ∃ p q p2 q2 u, t = p :: q :: p2 :: q2 :: u := by
          match t, htl with
          | [], h => simp at h; omega
          | [_], h => simp at h; omega
          | [_, _], h => simp at h; omega
          | [_, _, _], h => simp at h; omega
          | x :: y :: z :: v :: u, _ => exact ⟨x, y, z, v, u, rfl⟩
        obtain ⟨x, hx⟩ : ∃ x, x = s.extract 2 6 := ⟨_, rfl⟩
        have hbx : bys x = [p, q, p2, q2] := by rw [hx, bys_extract, HL.out]; rfl
        have hxs : x.size ≤ 8 := by rw [← bys_len, hbx]; simp
        have HX := Lib.hid hx
        have hx' : s.extract 2 6 = x := hx.symm
        cases hn : numOf 16 [p, q, p2, q2] with
        | none =>
          have hv : readU (p :: q :: p2 :: q2 :: u) = none := by rw [readU, hn]
          have HN := Lib.hid (show numOf 16 (bys x) = none by rw [hbx]; exact hn)
          rw [hv]
          clear hbx hv hx hn
          go_enter Tryd.func25, Tryd.ntmps25
          go_wp2_with (first
            | (go_at_call 38; refine Hid.out ?_))
          refine Hid.mk_ ((dig16_none x hxs HN.out).mono ?_)
          rintro e w1 ⟨rfl, rfl⟩
          go_wp2
          go_ret2
          exact ⟨rfl, Ext.refl _⟩
        | some n =>
          have HN := Lib.hid (show numOf 16 (bys x) = some n by rw [hbx]; exact hn)
          have hn256 := numOf_bound (by omega) hn
          have hn2 : n < 65536 := by simpa using hn256
          clear hn256
          cases hp : isPt n with
          | true =>
            have hv : readU (p :: q :: p2 :: q2 :: u) = some (encOne n, 6) := by rw [readU, hn]; exact if_pos hp
            have hpo : ptOr n = n := by unfold ptOr; rw [hp]; rfl
            rw [hv]
            have HP := Lib.hid hp
            have HO := Lib.hid hpo
            clear hbx hv hx hn hp hpo
            go_enter Tryd.func25, Tryd.ntmps25
            go_wp2_with (first
              | (go_at_call 38; refine Hid.out ?_))
            refine Hid.mk_ ((dig16_some x hxs HN.out).mono ?_)
            rintro e w1 ⟨rfl, rfl⟩
            go_wp2_with (first
              | (go_at_call 39; refine Hid.out ?_))
            refine Hid.mk_ ((encoded_any n (by omega)).mono ?_)
            rintro e w1 ⟨rfl, hE1⟩
            rw [HP.out, HO.out]
            go_wp2
            go_ret2
            exact ⟨rfl, hE1⟩
          | false =>
            have hv : readU (p :: q :: p2 :: q2 :: u) = none := by rw [readU, hn]; simp [hp]
            rw [hv]
            have HP := Lib.hid hp
            clear hbx hv hx hn hp
            go_enter Tryd.func25, Tryd.ntmps25
            go_wp2_with (first
              | (go_at_call 38; refine Hid.out ?_))
            refine Hid.mk_ ((dig16_some x hxs HN.out).mono ?_)
            rintro e w1 ⟨rfl, rfl⟩
            go_wp2_with (first
              | (go_at_call 39; refine Hid.out ?_))
            refine Hid.mk_ ((encoded_any n (by omega)).mono ?_)
            rintro e w1 ⟨rfl, hE1⟩
            rw [HP.out]
            go_wp2
            go_ret2
            exact ⟨rfl, hE1⟩
    have t117 : ((b : Int) == 117) = false := by rw [beq_eq_false_iff_ne]; omega
    have e120 : ¬ by_ b = 120 := fun e => c120 (by rw [HB.out, e]; rfl)
    have e117 : ¬ by_ b = 117 := fun e => c117 (by rw [HB.out, e]; rfl)
    rw [if_neg e120, if_neg e117] at hr
    clear e120 e117 c120 c117
    have hpm : plainB (by_ b) = true ↔ by_ b ∈ bys (⟨#[92, 34, 61, 58, 35, 33, 123, 125, 32]⟩ : ByteArray) := by
      simp [plainB, bys, or_assoc]
    by_cases hm : by_ b ∈ bys (⟨#[92, 34, 61, 58, 35, 33, 123, 125, 32]⟩ : ByteArray)
    · have hx' : s.extract 1 2 = str [by_ b] := by
        apply bys_inj
        rw [bys_extract, HL.out, bys_str]; rfl
      rw [hr, if_pos (hpm.2 hm)]
      clear hr hpm
      go_enter Tryd.func25, Tryd.ntmps25
      go_wp2_with (first
        | (go_at_call 34; refine Hid.out ?_))
      refine Hid.mk_ ((ix_yes _ b hb256 hm).mono ?_)
      rintro e w1 ⟨r, rfl, rfl⟩
      go_wp2
      go_ret2
      exact ⟨rfl, Ext.refl _⟩
    · rw [hr, if_neg (fun e => hm (hpm.1 e))]
      clear hr hpm
      go_enter Tryd.func25, Tryd.ntmps25
      go_wp2_with (first
        | (go_at_call 34; refine Hid.out ?_))
      refine Hid.mk_ ((ix_no _ b hb256 hm).mono ?_)
      rintro e w1 ⟨rfl, rfl⟩
      go_wp2
      go_ret2
      exact ⟨rfl, Ext.refl _⟩
end

end Go.Proofs.YtkicjbmljbfojaaDoor
