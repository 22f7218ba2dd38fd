/- The reference's ReadInt, ReadString, ReadStrings. -/
import Derived.Test.YtoghaehcmbonnaaGreatDoorRefW
import Derived.Test.YtoghaehcmbonnaaGreatDoorSameS
import Derived.Test.YtoghaehcmbonnaaGreatDoorRStrs
namespace Go.Proofs.YtoghaehcmbonnaaGreatDoor
open Go.RowKit

/-- The head's digits, as the reference reckons them. -/
def refK (x : UInt8) : Nat := if 16 ≤ x.toNat then x.toNat - 16 else x.toNat
/-- The number that the reference reckons out of digits. -/
def refN (neg : Bool) (u : Nat) : Int :=
  let s : Int := if u ≤ 9223372036854775807 then u else (u : Int) - 18446744073709551616
  if neg = true then (if s = -9223372036854775808 then s else -s) else s
theorem refK_head (x : UInt8) (h : refK x ≤ 8) : headK x = refK x ∧ headL x = decide (16 ≤ x.toNat) := by
  have := x.toNat_lt
  unfold refK at h ⊢
  unfold headK headL
  split at h
  · rename_i hc
    rw [if_pos (by omega), if_pos hc, decide_eq_true hc, decide_eq_true (by omega)]
    exact ⟨rfl, rfl⟩
  · rename_i hc
    rw [if_neg (by omega), if_neg hc, decide_eq_false hc, decide_eq_false (by omega)]
    exact ⟨rfl, rfl⟩
theorem refK_big (x : UInt8) (h : 8 < refK x) : 8 < headK x := by
  have := x.toNat_lt
  unfold refK at h
  unfold headK
  split at h <;> split <;> omega
theorem refN_inR (neg : Bool) (u : Nat) (h : u < 18446744073709551616) : InR (refN neg u) := by
  unfold InR refN
  simp only
  split <;> split <;> (try split) <;> omega
theorem refN_wrap (neg : Bool) (u : Nat) (h : u < 18446744073709551616) (hn : neg = true) : refN neg u = wrap64 (-(wrap64 (u : Int))) := by
  subst hn
  unfold refN wrap64
  simp only [if_true]
  split <;> split <;> omega
theorem refN_wrap2 (neg : Bool) (u : Nat) (h : u < 18446744073709551616) (hn : neg = false) : refN neg u = wrap64 (u : Int) := by
  subst hn
  unfold refN wrap64
  simp only [Bool.false_eq_true, if_false]
  split <;> omega
theorem ref_law (x : UInt8) (t : List UInt8) (h8 : refK x ≤ 8) (ht : refK x ≤ t.length) :
    readI (x :: t) = if encI (refN (decide (16 ≤ x.toNat)) (numBE (t.take (refK x)))) = (x :: t).take (1 + refK x) then some (refN (decide (16 ≤ x.toNat)) (numBE (t.take (refK x))), 1 + refK x) else none := by
  obtain ⟨hk, hl⟩ := refK_head x h8
  have hub : numBE (t.take (refK x)) < 18446744073709551616 := by
    have h1 := numBE_lt (t.take (refK x))
    have h2 : (t.take (refK x)).length ≤ 8 := by rw [List.length_take]; omega
    have h3 := Nat.pow_le_pow_right (show 0 < 256 by omega) h2
    omega
  obtain ⟨N, hN⟩ : ∃ N, N = refN (decide (16 ≤ x.toNat)) (numBE (t.take (refK x))) := ⟨_, rfl⟩
  rw [← hN]
  cases hr : readI (x :: t) with
  | some p =>
    obtain ⟨n', k'⟩ := p
    have h1 := readI_some hr
    rw [readI] at hr
    split at hr
    · cases hr
    · split at hr
      · cases hr
      · split at hr
        · cases hr
        · rename_i c3
          injection hr with hr
          injection hr with hn hk'
          rw [hk] at hn hk' c3
          rw [hl] at hn c3
          have hnN : n' = N := by
            rw [hN, ← hn]
            unfold refN
            simp only
            by_cases hd : 16 ≤ x.toNat
            · rw [decide_eq_true hd] at c3 ⊢
              simp at c3 ⊢
              split <;> split <;> omega
            · rw [decide_eq_false hd] at c3 ⊢
              simp at c3 ⊢
              intro hh
              omega
          have hkk : k' = 1 + refK x := by omega
          rw [← hnN, ← hkk, h1.2.2, if_pos rfl]
  | none =>
    rw [if_neg]
    intro he
    have hin := refN_inR (decide (16 ≤ x.toNat)) _ hub
    rw [← hN] at hin
    have h1 := readI_enc N hin ((x :: t).drop (1 + refK x))
    rw [he, List.take_append_drop, hr] at h1
    cases h1

/-- What the reference's ReadInt returns. -/
def RetRI (l : List UInt8) (e : Ending) : Prop := ∃ (n : Int) (k : Nat), e = .returned (.tuple #[.int .i64 n, .int .i64 k]) ∧ match readI l with
  | some (a, j) => n = a ∧ k = j
  | none => n = 0 ∧ k = 0
theorem RetRI.none_ {l : List UInt8} (h : readI l = none) : RetRI l (.returned (.tuple #[.int .i64 0, .int .i64 0])) := ⟨0, 0, rfl, by rw [h]; exact ⟨rfl, rfl⟩⟩
theorem RetRI.some_ {l : List UInt8} {n : Int} {k : Nat} (h : readI l = some (n, k)) {a b : Int} (ha : a = n) (hb : b = k) : RetRI l (.returned (.tuple #[.int .i64 a, .int .i64 b])) :=
  ⟨n, k, by rw [ha, hb], by rw [h]; exact ⟨rfl, rfl⟩⟩

section
variable {w : World} {A : Option Addr} {m : Nat} {l : List UInt8}
set_option maxRecDepth 100000 in
set_option maxHeartbeats 1600000 in
theorem refReadInt_long (c : Nat) (h : SlB w A m l) (hcap : m ≤ c) (x : UInt8) (t : List UInt8) (hd : l = x :: t) (h8 : refK x ≤ 8) (ht : refK x ≤ t.length) :
    Calls Tryz.prog 88 #[.slice A m c] w fun e w' => Ext w w' ∧ RetRI l e := by
  have HF := Lib.hid (ref_law x t h8 ht)
  have hlen := congrArg List.length hd
  rw [← h.len, List.length_cons] at hlen
  obtain ⟨k, hk⟩ : ∃ k, k = refK x := ⟨_, rfl⟩
  rw [← hk] at HF h8 ht
  have hm : 1 + k ≤ m := by omega
  obtain ⟨A2, _, _, hr3, hs2, _⟩ := cut_run h (i := 0) (j := 1 + k) (by omega) hm hcap
  rw [List.drop_zero, Nat.sub_zero] at hs2
  have hsl := fun W => (hr3 W .i64 (1 + (k : Int)) rfl (by omega)).1
  have hsl' := fun W => (hr3 W .i64 (1 + (k : Int)) rfl (by omega)).2
  rw [Nat.sub_zero, Nat.sub_zero] at hsl hsl'
  obtain ⟨b, off, rfl, hbl, hc⟩ := h.at_ (k := 0) (by omega)
  have hc0 := hc 0 (by rw [← h.len]; omega)
  have hx0 : l[0]'(by rw [← h.len]; omega) = x := by simp [hd]
  rw [hx0, Nat.add_zero] at hc0
  have hct : ∀ j (hj : j < t.length), w.cell? ⟨b, off + (j + 1), none⟩ = some (.int .u8 (t[j].toNat : Int)) := fun j hj => by
    have h1 := hc (j + 1) (by rw [hd]; simpa using hj)
    have h2 : l[j + 1]'(by rw [hd]; simpa using hj) = t[j] := by simp [hd]
    rw [h2] at h1
    exact h1
  have HC := Lib.hid hct
  have hle := h.le
  have hx2 : x.toNat < 256 := x.toNat_lt
  have hm0 : ((m : Int) == 0) = false := by rw [beq_eq_false_iff_ne]; omega
  have HK := Lib.hid hk
  have HD := Lib.hid hd
  have HT := Lib.hid hlen
  obtain ⟨seg, hseg⟩ : ∃ seg, seg = t.take k := ⟨_, rfl⟩
  have HSEG := Lib.hid hseg
  rw [← hseg] at HF
  clear hr3 hc hct hx0 hd hlen hseg
  have hwr1 : IntKind.i64.wrap (1 + (k : Int)) = 1 + (k : Int) := IntWalk.i64_in _ (by omega)
  have hwr2 : (0 : Int) ≤ 1 + (k : Int) := by omega
  have hwr3 : 1 + (k : Int) ≤ (c : Int) := by omega
  by_cases hneg : 16 ≤ x.toNat
  · have hkx : (x.toNat : Int) - 16 = (k : Int) := by have h1 := HK.out; unfold refK at h1; rw [if_pos hneg] at h1; omega
    rw [decide_eq_true hneg] at HF
    clear hk
    go_enter Tryz.func88, Tryz.ntmps88
    go_wp2
    go_loop [6, 7] (fun u i => ∃ q : Nat, q ≤ k ∧ i = .int .i64 (q + 1 : Nat) ∧ u = .int .u64 (numBE (seg.take q))) (fun _ i => k + 1 - (intOf i).toNat)
    case atStart => exact ⟨0, Nat.zero_le _, rfl, rfl⟩
    case round =>
      obtain ⟨q, hq, rfl, rfl⟩ := hrel
      by_cases hlt : q < k
      · have hlt1 : q < t.length := by omega
        have hsq : q < seg.length := by rw [HSEG.out, List.length_take]; omega
        obtain ⟨y, hy⟩ : ∃ y, y = t[q] := ⟨_, rfl⟩
        have hcq := HC.out q hlt1
        rw [← hy] at hcq
        have hys : y = seg[q] := by rw [hy]; simp [HSEG.out]
        have HY := Lib.hid hys; clear hy hys
        have hy2 : y.toNat < 256 := y.toNat_lt
        obtain ⟨u, hu⟩ : ∃ u, u = numBE (seg.take q) := ⟨_, rfl⟩
        rw [← hu]
        have hub : u < 72057594037927936 := by
          have h1 := numBE_lt (seg.take q)
          have h2 : (seg.take q).length ≤ 7 := by rw [List.length_take]; omega
          have h3 := Nat.pow_le_pow_right (show 0 < 256 by omega) h2
          omega
        have HU := Lib.hid hu; clear hu
        have hi1 : (q : Int) + 1 < (m : Int) := by omega
        go_wp2
        go_round
        case rel =>
          refine ⟨q + 1, by omega, by go_num, ?_⟩
          rw [List.take_succ_eq_append_getElem hsq, numBE_snoc, ← HU.out, ← HY.out]
          go_num
        case measure => simp [intOf]; omega
      · have hqk : seg.take q = seg := List.take_of_length_le (by rw [HSEG.out, List.length_take]; omega)
        rw [hqk]
        have hqe : q = k := by omega
        have hub2 : numBE seg < 18446744073709551616 := by
          have h1 := numBE_lt seg
          have h3 := Nat.pow_le_pow_right (show 0 < 256 by omega) (show seg.length ≤ 8 by rw [HSEG.out, List.length_take]; omega)
          omega
        obtain ⟨u, hu⟩ : ∃ u, u = numBE seg := ⟨_, rfl⟩
        rw [← hu] at HF hub2 ⊢
        clear hqk hu hqe
        obtain ⟨N, hN⟩ : ∃ N, N = refN true u := ⟨_, rfl⟩
        rw [← hN] at HF
        have hNr := refN_inR true u hub2
        rw [← hN] at hNr
        have hw := hN
        have HN := Lib.hid hw
        clear hN hw
        obtain ⟨V, hV⟩ : ∃ V, V = wrap64 (u : Int) := ⟨_, rfl⟩
        have hcv : wrap64 (u : Int) = V := hV.symm
        have hng : true = true → wrap64 (-V) = N := fun hn => by rw [HN.out]; subst hV; exact (refN_wrap true u hub2 hn).symm
        have hps : true = false → V = N := fun hn => by rw [HN.out]; subst hV; exact (refN_wrap2 true u hub2 hn).symm
        have HV := Lib.hid hV
        clear hV
        go_wp2
        go_region_held3 (fun _ => True) (first | trivial) (first
          | (go_at_call 46; refine (refInt N hNr.1 hNr.2).mono ?_; rintro e w1 ⟨A1, m1, c1, rfl, ho1, hE1⟩; have hE01 := (Ext.refl w).drew.trans hE1)
          | (go_at_call 105; refine (sameB c1 c ho1.sl (hs2.ext hE01)).mono ?_; rintro e w2 ⟨rfl, hE2⟩; have hE02 := hE01.trans hE2)
          | fail)
        have HF2 : Hid (readI l = if encI N = l.take (1 + k) then some (N, 1 + k) else none) := by rw [HD.out]; exact HF
        clear HF
        by_cases hq : encI N = l.take (1 + k)
        · rw [decide_eq_true hq]
          have hfin : readI l = some (N, 1 + k) := by rw [HF2.out, if_pos hq]
          have HFI := Lib.hid hfin
          clear hfin HF2 hq
          go_wp2
          go_ret2
          exact ⟨hE02, RetRI.some_ HFI.out rfl (by omega)⟩
        · rw [decide_eq_false hq]
          have hfin : readI l = none := by rw [HF2.out, if_neg hq]
          have HFI := Lib.hid hfin
          clear hfin HF2 hq
          go_wp2
          go_ret2
          exact ⟨hE02, RetRI.none_ HFI.out⟩
  · have hkx : (x.toNat : Int) = (k : Int) := by have h1 := HK.out; unfold refK at h1; rw [if_neg hneg] at h1; omega
    rw [decide_eq_false hneg] at HF
    clear hk
    go_enter Tryz.func88, Tryz.ntmps88
    go_wp2
    go_loop [6, 7] (fun u i => ∃ q : Nat, q ≤ k ∧ i = .int .i64 (q + 1 : Nat) ∧ u = .int .u64 (numBE (seg.take q))) (fun _ i => k + 1 - (intOf i).toNat)
    case atStart => exact ⟨0, Nat.zero_le _, rfl, rfl⟩
    case round =>
      obtain ⟨q, hq, rfl, rfl⟩ := hrel
      by_cases hlt : q < k
      · have hlt1 : q < t.length := by omega
        have hsq : q < seg.length := by rw [HSEG.out, List.length_take]; omega
        obtain ⟨y, hy⟩ : ∃ y, y = t[q] := ⟨_, rfl⟩
        have hcq := HC.out q hlt1
        rw [← hy] at hcq
        have hys : y = seg[q] := by rw [hy]; simp [HSEG.out]
        have HY := Lib.hid hys; clear hy hys
        have hy2 : y.toNat < 256 := y.toNat_lt
        obtain ⟨u, hu⟩ : ∃ u, u = numBE (seg.take q) := ⟨_, rfl⟩
        rw [← hu]
        have hub : u < 72057594037927936 := by
          have h1 := numBE_lt (seg.take q)
          have h2 : (seg.take q).length ≤ 7 := by rw [List.length_take]; omega
          have h3 := Nat.pow_le_pow_right (show 0 < 256 by omega) h2
          omega
        have HU := Lib.hid hu; clear hu
        have hi1 : (q : Int) + 1 < (m : Int) := by omega
        go_wp2
        go_round
        case rel =>
          refine ⟨q + 1, by omega, by go_num, ?_⟩
          rw [List.take_succ_eq_append_getElem hsq, numBE_snoc, ← HU.out, ← HY.out]
          go_num
        case measure => simp [intOf]; omega
      · have hqk : seg.take q = seg := List.take_of_length_le (by rw [HSEG.out, List.length_take]; omega)
        rw [hqk]
        have hqe : q = k := by omega
        have hub2 : numBE seg < 18446744073709551616 := by
          have h1 := numBE_lt seg
          have h3 := Nat.pow_le_pow_right (show 0 < 256 by omega) (show seg.length ≤ 8 by rw [HSEG.out, List.length_take]; omega)
          omega
        obtain ⟨u, hu⟩ : ∃ u, u = numBE seg := ⟨_, rfl⟩
        rw [← hu] at HF hub2 ⊢
        clear hqk hu hqe
        obtain ⟨N, hN⟩ : ∃ N, N = refN false u := ⟨_, rfl⟩
        rw [← hN] at HF
        have hNr := refN_inR false u hub2
        rw [← hN] at hNr
        have hw := hN
        have HN := Lib.hid hw
        clear hN hw
        obtain ⟨V, hV⟩ : ∃ V, V = wrap64 (u : Int) := ⟨_, rfl⟩
        have hcv : wrap64 (u : Int) = V := hV.symm
        have hng : false = true → wrap64 (-V) = N := fun hn => by rw [HN.out]; subst hV; exact (refN_wrap false u hub2 hn).symm
        have hps : false = false → V = N := fun hn => by rw [HN.out]; subst hV; exact (refN_wrap2 false u hub2 hn).symm
        have HV := Lib.hid hV
        clear hV
        go_wp2
        go_region_held3 (fun _ => True) (first | trivial) (first
          | (go_at_call 46; refine (refInt N hNr.1 hNr.2).mono ?_; rintro e w1 ⟨A1, m1, c1, rfl, ho1, hE1⟩; have hE01 := (Ext.refl w).drew.trans hE1)
          | (go_at_call 105; refine (sameB c1 c ho1.sl (hs2.ext hE01)).mono ?_; rintro e w2 ⟨rfl, hE2⟩; have hE02 := hE01.trans hE2)
          | fail)
        have HF2 : Hid (readI l = if encI N = l.take (1 + k) then some (N, 1 + k) else none) := by rw [HD.out]; exact HF
        clear HF
        by_cases hq : encI N = l.take (1 + k)
        · rw [decide_eq_true hq]
          have hfin : readI l = some (N, 1 + k) := by rw [HF2.out, if_pos hq]
          have HFI := Lib.hid hfin
          clear hfin HF2 hq
          go_wp2
          go_ret2
          exact ⟨hE02, RetRI.some_ HFI.out rfl (by omega)⟩
        · rw [decide_eq_false hq]
          have hfin : readI l = none := by rw [HF2.out, if_neg hq]
          have HFI := Lib.hid hfin
          clear hfin HF2 hq
          go_wp2
          go_ret2
          exact ⟨hE02, RetRI.none_ HFI.out⟩

theorem readI_short (x : UInt8) (t : List UInt8) (h : ¬ (refK x ≤ 8 ∧ refK x ≤ t.length)) : readI (x :: t) = none := by
  rw [readI, if_pos]
  by_cases h8 : refK x ≤ 8
  · rw [(refK_head x h8).1]
    right
    omega
  · left
    exact refK_big x (by omega)

set_option maxHeartbeats 1600000 in
theorem refReadInt (c : Nat) (h : SlB w A m l) (hcap : m ≤ c) :
    Calls Tryz.prog 88 #[.slice A m c] w fun e w' => Ext w w' ∧ RetRI l e := by
  cases hl : l with
  | nil =>
    have hm : m = 0 := by rw [h.len, hl]; rfl
    subst hm
    have hfin : readI [] = none := rfl
    have HF := Lib.hid hfin; clear hfin
    go_enter Tryz.func88, Tryz.ntmps88
    go_wp2
    go_ret2
    exact ⟨Ext.refl w, RetRI.none_ HF.out⟩
  | cons x t =>
    by_cases hs : refK x ≤ 8 ∧ refK x ≤ t.length
    · rw [← hl]
      exact refReadInt_long c h hcap x t hl hs.1 hs.2
    · have HF := Lib.hid (readI_short x t hs)
      obtain ⟨k, hk⟩ : ∃ k, k = refK x := ⟨_, rfl⟩
      rw [← hk] at hs
      have hlen := congrArg List.length hl
      rw [← h.len, List.length_cons] at hlen
      have hm0 : ((m : Int) == 0) = false := by rw [beq_eq_false_iff_ne]; omega
      have hm1 : 0 < m := by omega
      obtain ⟨b, off, rfl, hbl, hc⟩ := h.at_ (k := 0) (by omega)
      have hc0 := hc 0 (by rw [← h.len]; omega)
      have hx0 : l[0]'(by rw [← h.len]; omega) = x := by simp [hl]
      rw [hx0, Nat.add_zero] at hc0
      have hle := h.le
      have hx2 : x.toNat < 256 := x.toNat_lt
      have HK := Lib.hid hk
      clear hx0 hc
      have hs : ¬ (k ≤ 8 ∧ 1 + k ≤ m) := by omega
      clear hlen
      have hwr1 : IntKind.i64.wrap (1 + (k : Int)) = 1 + (k : Int) := IntWalk.i64_in _ (by have h1 := HK.out; unfold refK at h1; split at h1 <;> omega)
      have hk256 : k < 256 := by have h1 := HK.out; unfold refK at h1; split at h1 <;> omega
      by_cases hneg : 16 ≤ x.toNat
      · have hkx : (x.toNat : Int) - 16 = (k : Int) := by have h1 := HK.out; unfold refK at h1; rw [if_pos hneg] at h1; omega
        clear hk
        go_enter Tryz.func88, Tryz.ntmps88
        by_cases h8 : (8 : Int) < (k : Int)
        · clear hs
          go_wp2
          go_ret2
          exact ⟨Ext.refl w, RetRI.none_ HF.out⟩
        · have h9 : (m : Int) < 1 + (k : Int) := by omega
          clear hs
          go_wp2
          go_ret2
          exact ⟨Ext.refl w, RetRI.none_ HF.out⟩
      · have hkx : (x.toNat : Int) = (k : Int) := by have h1 := HK.out; unfold refK at h1; rw [if_neg hneg] at h1; omega
        have hk16 : ¬ ((16 : Int) ≤ (k : Int)) := by omega
        clear hk
        go_enter Tryz.func88, Tryz.ntmps88
        by_cases h8 : (8 : Int) < (k : Int)
        · clear hs
          go_wp2
          go_ret2
          exact ⟨Ext.refl w, RetRI.none_ HF.out⟩
        · have h9 : (m : Int) < 1 + (k : Int) := by omega
          clear hs
          go_wp2
          go_ret2
          exact ⟨Ext.refl w, RetRI.none_ HF.out⟩
end

end Go.Proofs.YtoghaehcmbonnaaGreatDoor

/- The reference's ReadString, ReadStrings, and its reader. -/
namespace Go.Proofs.YtoghaehcmbonnaaGreatDoor
open Go.RowKit
set_option maxRecDepth 100000

/-- What the reference's ReadString returns. -/
def RetRS (l : List UInt8) (e : Ending) : Prop := ∃ (s : List UInt8) (k : Nat), e = .returned (.tuple #[.string (str s), .int .i64 k]) ∧ match readS l with
  | some (a, j) => s = a ∧ k = j
  | none => s = [] ∧ k = 0
theorem RetRS.none_ {l : List UInt8} (h : readS l = none) : RetRS l (.returned (.tuple #[.string ⟨#[]⟩, .int .i64 0])) := ⟨[], 0, rfl, by rw [h]; exact ⟨rfl, rfl⟩⟩
theorem RetRS.some_ {l : List UInt8} {s : List UInt8} {k : Nat} (h : readS l = some (s, k)) {b : Int} (hb : b = k) : RetRS l (.returned (.tuple #[.string (str s), .int .i64 b])) :=
  ⟨s, k, by rw [hb], by rw [h]; exact ⟨rfl, rfl⟩⟩
theorem RetRS.k0 {l : List UInt8} {s : List UInt8} {k : Nat} (h : match readS l with | some (a, j) => s = a ∧ k = j | none => s = [] ∧ k = 0) : (k = 0 ↔ readS l = none) ∧ k ≤ l.length := by
  cases hr : readS l with
  | none => rw [hr] at h; simp only at h; exact ⟨by simp [h.2], by omega⟩
  | some p =>
    obtain ⟨a, j⟩ := p
    rw [hr] at h
    simp only at h
    have := readS_some hr
    refine ⟨⟨fun hh => by omega, fun hh => by cases hh⟩, by omega⟩

section
variable {w : World} {A : Option Addr} {m : Nat} {l : List UInt8}
set_option maxHeartbeats 800000 in
theorem refReadStr (c : Nat) (hb : SlB w A m l) (hcap : m ≤ c) :
    Calls Tryz.prog 90 #[.slice A m c] w fun e w' => Ext w w' ∧ RetRS l e := by
  have HL := Lib.hid hb.len
  have hle := hb.le
  go_enter Tryz.func90, Tryz.ntmps90
  go_wp2_with (first
    | (go_at_call 88; refine Hid.out ?_))
  refine Hid.mk_ ((refReadInt c hb hcap).mono ?_)
  rintro e w1 ⟨hE1, n, k, rfl, hI⟩
  cases hr : readI l with
  | none =>
    rw [hr] at hI
    simp only at hI
    obtain ⟨rfl, rfl⟩ := hI
    have hfin : readS l = none := by unfold readS; rw [hr]
    have HF := Lib.hid hfin; clear hfin hr
    go_wp2
    go_ret2
    exact ⟨hE1, RetRS.none_ HF.out⟩
  | some p =>
    obtain ⟨a, j⟩ := p
    rw [hr] at hI
    simp only at hI
    obtain ⟨rfl, rfl⟩ := hI
    have hrg := (readI_some hr).1
    obtain ⟨hrg1, hrg2⟩ := hrg
    have hrl := readI_len hr
    have hfin : readS l = if 0 ≤ n ∧ n ≤ (l.length : Int) - k then some ((l.drop k).take n.toNat, k + n.toNat) else none := by unfold readS; rw [hr]
    rw [← HL.out] at hfin hrl
    have hk0 : ((k : Int) == 0) = false := by rw [beq_eq_false_iff_ne]; omega
    have HF := Lib.hid hfin; clear hfin hr
    by_cases hc : 0 ≤ n ∧ n ≤ (m : Int) - k
    · obtain ⟨q, rfl⟩ := Int.eq_ofNat_of_zero_le hc.1
      obtain ⟨A2, hr1, _, _, hs2, _⟩ := cut_run (hb.ext hE1) (i := k) (j := k + q) (by omega) (by omega) hcap
      have hsl := fun W => (hr1 W .i64 .i64 (k : Int) ((k : Int) + (q : Int)) (by omega) (by omega)).1
      have hsl' := fun W => (hr1 W .i64 .i64 (k : Int) ((k : Int) + (q : Int)) (by omega) (by omega)).2
      have hcv := conv_str hs2 (c - k)
      rw [← List.take_drop] at hcv
      rw [show k + q - k = q by omega] at hsl hsl' hcv
      obtain ⟨sg, hsg⟩ : ∃ sg, sg = (l.drop k).take q := ⟨_, rfl⟩
      rw [← hsg] at hcv
      have hfin : readS l = some (sg, k + q) := by rw [HF.out, if_pos hc, hsg]; rfl
      have HFI := Lib.hid hfin
      clear hfin hsg hr1 hs2 HF
      go_wp2
      go_ret2
      exact ⟨hE1, RetRS.some_ HFI.out (by omega)⟩
    · have hfin : readS l = none := by rw [HF.out, if_neg hc]
      have HFI := Lib.hid hfin
      clear hfin HF
      by_cases h0 : n < 0
      · clear hc
        go_wp2
        go_ret2
        exact ⟨hE1, RetRS.none_ HFI.out⟩
      · have h1 : (m : Int) - (k : Int) < n := by omega
        clear hc
        go_wp2
        go_ret2
        exact ⟨hE1, RetRS.none_ HFI.out⟩

/-- What the reference's ReadStrings returns. -/
def ListR (most : Int) (l : List UInt8) (ss : List (List UInt8)) (k : Nat) : Prop := match readL most l with
  | some (a, j) => ss = a ∧ k = j
  | none => ss = [] ∧ k = 0

end

end Go.Proofs.YtoghaehcmbonnaaGreatDoor

/- The reference's reader. -/
namespace Go.Proofs.YtoghaehcmbonnaaGreatDoor
open Go.RowKit
set_option maxRecDepth 100000

/-- A reader of the reference. -/
abbrev RRdr := RdrT 111

theorem OsS.mono {w : World} {base base' : Nat} {A : Option Addr} {m c : Nat} {l : List ByteArray} (h : OsS w base A m c l) (hb : base' ≤ base) : OsS w base' A m c l := by
  refine ⟨⟨h.own.1, ?_⟩, h.len, h.le⟩
  rcases h.own.2 with hn | ⟨g, cap, cur, hv, hg, r⟩
  · exact .inl hn
  · exact .inr ⟨g, cap, cur, hv, by omega, r⟩
theorem readL_pos {most : Int} {b : List UInt8} {l : List (List UInt8)} {k : Nat} (h : readL most b = some (l, k)) : 1 ≤ k ∧ k ≤ b.length := by
  have h1 := readL_some h
  have h2 := encI_length_pos (l.length : Int)
  have h3 : (encL l).length = (encI (l.length : Int)).length + (l.flatMap encS).length := by rw [encL, List.length_append]
  omega

section
variable {w : World} {g : Nat} {A : Option Addr} {m c : Nat} {bs : List UInt8} {at_ : Nat} {f : Bool}
/-- The bytes that are left. -/
def restB (bs : List UInt8) (a : Nat) (f : Bool) : List UInt8 := if f = true then [] else bs.drop a

set_option maxHeartbeats 400000 in
theorem rest_any (hR : RRdr w g A m c bs at_ f) :
    Calls Tryz.prog 68 #[.pointer (some ⟨g, 0, none⟩)] w fun e w' => ∃ A' m' c', e = .returned (.slice A' m' c') ∧ SlB w' A' m' (restB bs at_ f) ∧ m' ≤ c' ∧ m' ≤ m ∧ Ext w w' := by
  have c0 := hR.c0
  have c1 := hR.c1
  have c2 := hR.c2
  have HL := Lib.hid hR.rd.len
  have hle := hR.rd.le
  have hle2 := hR.at_le
  have hcap := hR.cap
  cases f
  · obtain ⟨A2, _, hr2, _, hs2, _⟩ := cut_run hR.rd (i := at_) (j := m) hle2 (Nat.le_refl _) hcap
    have hsl := fun W => (hr2 W .i64 (at_ : Int) rfl rfl).1
    have hsl' := fun W => (hr2 W .i64 (at_ : Int) rfl rfl).2
    rw [List.take_of_length_le (by rw [← HL.out]; exact Nat.le_refl _)] at hs2
    clear hr2
    go_enter Tryz.func68, Tryz.ntmps68
    go_wp2
    go_quiet (fail)
    go_wp2
    go_ret
    exact ⟨A2, m - at_, c - at_, rfl, by have h1 := hs2.ext ((Ext.refl w).drewN nq); simpa [restB] using h1, by omega, by omega, (Ext.refl w).drewN _⟩
  · go_enter Tryz.func68, Tryz.ntmps68
    go_wp2
    go_ret
    exact ⟨none, 0, 0, rfl, SlB.nil_, Nat.le_refl _, Nat.zero_le _, Ext.refl w⟩

set_option maxHeartbeats 400000 in
theorem refMove (k : Nat) (hR : RRdr w g A m c bs at_ f) (hk : at_ + k ≤ m) :
    Calls Tryz.prog 89 #[.pointer (some ⟨g, 0, none⟩), .int .i64 k] w fun e w' => e = .returned (.tuple #[]) ∧ RRdr w' g A m c bs (at_ + k) (if k = 0 then true else f) ∧ w.grownBy w' (some g) := by
  have c1 := hR.c1
  have f1 := hR.f1
  have c2 := hR.c2
  have f2 := hR.f2
  have hle := hR.rd.le
  by_cases h0 : k = 0
  · subst h0
    go_enter Tryz.func89, Tryz.ntmps89
    go_wp2
    go_end0
    exact ⟨rfl, (hR.set2 true).set1 hk (by omega), (hR.grow 2 _).trans ((hR.set2 true).grow 1 _)⟩
  · have hk0 : ((k : Int) == 0) = false := by rw [beq_eq_false_iff_ne]; omega
    rw [if_neg h0]
    clear h0
    go_enter Tryz.func89, Tryz.ntmps89
    go_wp2
    go_end0
    exact ⟨rfl, hR.set1 hk (by omega), hR.grow 1 _⟩

/-- What the reference's Int and the others do. -/
theorem stepI_ref {n : Int} {k : Nat} (hI : match readI (restB bs at_ f) with
  | some (a, j) => n = a ∧ k = j
  | none => n = 0 ∧ k = 0) : stepI bs at_ f = (n, at_ + k, if k = 0 then true else f) := by
  unfold restB at hI
  unfold stepI
  cases f
  · simp only [Bool.false_eq_true, if_false] at hI ⊢
    cases hr : readI (bs.drop at_) with
    | none => rw [hr] at hI; obtain ⟨rfl, rfl⟩ := hI; simp
    | some p =>
      obtain ⟨a, j⟩ := p
      rw [hr] at hI
      have := readI_len hr
      obtain ⟨rfl, rfl⟩ := hI
      simp
      omega
  · simp only [if_true] at hI ⊢
    have : readI [] = none := rfl
    rw [this] at hI
    obtain ⟨rfl, rfl⟩ := hI
    simp

theorem stepB_ref {least most n : Int} {k : Nat} (hI : match readI (restB bs at_ f) with
  | some (a, j) => n = a ∧ k = j
  | none => n = 0 ∧ k = 0) : stepB least most bs at_ f = if n < least ∨ most < n then (0, at_, true) else (n, at_ + k, if k = 0 then true else f) := by
  unfold restB at hI
  unfold stepB
  cases f
  · simp only [Bool.false_eq_true, if_false] at hI ⊢
    cases hr : readI (bs.drop at_) with
    | none => rw [hr] at hI; obtain ⟨rfl, rfl⟩ := hI; simp
    | some p =>
      obtain ⟨a, j⟩ := p
      rw [hr] at hI
      have h1 := readI_len hr
      obtain ⟨rfl, rfl⟩ := hI
      simp only
      by_cases hc : least ≤ n ∧ n ≤ most
      · rw [if_pos hc, if_neg (by omega), if_neg (by omega)]
      · rw [if_neg hc, if_pos (by omega)]
  · simp only [if_true] at hI ⊢
    have : readI [] = none := rfl
    rw [this] at hI
    obtain ⟨rfl, rfl⟩ := hI
    simp
theorem stepS_ref {s : List UInt8} {k : Nat} (hI : match readS (restB bs at_ f) with
  | some (a, j) => s = a ∧ k = j
  | none => s = [] ∧ k = 0) : stepS bs at_ f = (s, at_ + k, if k = 0 then true else f) := by
  unfold restB at hI
  unfold stepS
  cases f
  · simp only [Bool.false_eq_true, if_false] at hI ⊢
    cases hr : readS (bs.drop at_) with
    | none => rw [hr] at hI; obtain ⟨rfl, rfl⟩ := hI; simp
    | some p =>
      obtain ⟨a, j⟩ := p
      rw [hr] at hI
      have := readS_some hr
      obtain ⟨rfl, rfl⟩ := hI
      simp
      omega
  · simp only [if_true] at hI ⊢
    have : readS [] = none := rfl
    rw [this] at hI
    obtain ⟨rfl, rfl⟩ := hI
    simp
theorem stepL_ref {most : Int} {ss : List (List UInt8)} {k : Nat} (hI : ListR most (restB bs at_ f) ss k) : stepL most bs at_ f = (ss, at_ + k, if k = 0 then true else f) := by
  unfold ListR restB at hI
  unfold stepL
  cases f
  · simp only [Bool.false_eq_true, if_false] at hI ⊢
    cases hr : readL most (bs.drop at_) with
    | none => rw [hr] at hI; obtain ⟨rfl, rfl⟩ := hI; simp
    | some p =>
      obtain ⟨a, j⟩ := p
      rw [hr] at hI
      have := readL_pos hr
      obtain ⟨rfl, rfl⟩ := hI
      simp
      omega
  · simp only [if_true] at hI ⊢
    have : readL most [] = none := rfl
    rw [this] at hI
    obtain ⟨rfl, rfl⟩ := hI
    simp
theorem rest_le (hR : at_ ≤ bs.length) : at_ + (restB bs at_ f).length ≤ bs.length := by
  unfold restB
  split
  · simpa using hR
  · rw [List.length_drop]; omega
theorem readI_k {l : List UInt8} {n : Int} {k : Nat} (hI : match readI l with
  | some (a, j) => n = a ∧ k = j
  | none => n = 0 ∧ k = 0) : k ≤ l.length := by
  cases hr : readI l with
  | none => rw [hr] at hI; obtain ⟨_, rfl⟩ := hI; omega
  | some p =>
    obtain ⟨a, j⟩ := p
    rw [hr] at hI
    have := readI_len hr
    obtain ⟨_, rfl⟩ := hI
    omega
theorem readI_rng {l : List UInt8} {n : Int} {k : Nat} (hI : match readI l with
  | some (a, j) => n = a ∧ k = j
  | none => n = 0 ∧ k = 0) : InR n := by
  cases hr : readI l with
  | none => rw [hr] at hI; obtain ⟨rfl, _⟩ := hI; unfold InR; omega
  | some p =>
    obtain ⟨a, j⟩ := p
    rw [hr] at hI
    have := (readI_some hr).1
    obtain ⟨rfl, _⟩ := hI
    exact this
theorem ListR.k_le {most : Int} {l : List UInt8} {ss : List (List UInt8)} {k : Nat} (hI : ListR most l ss k) : k ≤ l.length := by
  unfold ListR at hI
  cases hr : readL most l with
  | none => rw [hr] at hI; obtain ⟨_, rfl⟩ := hI; omega
  | some p =>
    obtain ⟨a, j⟩ := p
    rw [hr] at hI
    have := readL_pos hr
    obtain ⟨_, rfl⟩ := hI
    omega

set_option maxHeartbeats 400000 in
theorem refInt_any (hR : RRdr w g A m c bs at_ f) :
    Calls Tryz.prog 66 #[.pointer (some ⟨g, 0, none⟩)] w fun e w' => e = .returned (.int .i64 (stepI bs at_ f).1) ∧ RRdr w' g A m c bs (stepI bs at_ f).2.1 (stepI bs at_ f).2.2 ∧ w.grownBy w' (some g) := by
  have hl := hR.rd.len
  have hal := hR.at_le
  have hrl := rest_le (f := f) (bs := bs) (at_ := at_) (by omega)
  have HL := Lib.hid hl; have HRL := Lib.hid hrl; clear hl hrl
  go_enter Tryz.func66, Tryz.ntmps66
  go_wp2_with (first
    | (go_at_call 68; refine Hid.out ?_))
  refine Hid.mk_ ((rest_any hR).mono ?_)
  rintro e w1 ⟨A1, m1, c1, rfl, hs1, hc1, _, hE1⟩
  go_wp2_with (first
    | (go_at_call 88; refine Hid.out ?_))
  refine Hid.mk_ ((refReadInt c1 hs1 hc1).mono ?_)
  rintro e w2 ⟨hE2, n, k, rfl, hI⟩
  have hE02 := hE1.trans hE2
  have hST := stepI_ref hI
  have hk := readI_k hI
  have HI := Lib.hid hI; have HST := Lib.hid hST
  clear hI hST
  go_wp2_with (first
    | (go_at_call 89; refine Hid.out ?_))
  refine Hid.mk_ ((refMove k (hR.ext hE02) (by have h1 := HRL.out; have h2 := HL.out; omega)).mono ?_)
  rintro e w3 ⟨rfl, hR3, hg3⟩
  go_wp2
  go_ret
  rw [HST.out]
  exact ⟨rfl, hR3, (hE02.grownBy _).trans hg3⟩

set_option maxHeartbeats 400000 in
theorem refString_any (hR : RRdr w g A m c bs at_ f) :
    Calls Tryz.prog 67 #[.pointer (some ⟨g, 0, none⟩)] w fun e w' => e = .returned (.string (str (stepS bs at_ f).1)) ∧ RRdr w' g A m c bs (stepS bs at_ f).2.1 (stepS bs at_ f).2.2 ∧ w.grownBy w' (some g) := by
  have hl := hR.rd.len
  have hal := hR.at_le
  have hrl := rest_le (f := f) (bs := bs) (at_ := at_) (by omega)
  have HL := Lib.hid hl; have HRL := Lib.hid hrl; clear hl hrl
  go_enter Tryz.func67, Tryz.ntmps67
  go_wp2_with (first
    | (go_at_call 68; refine Hid.out ?_))
  refine Hid.mk_ ((rest_any hR).mono ?_)
  rintro e w1 ⟨A1, m1, c1, rfl, hs1, hc1, _, hE1⟩
  go_wp2_with (first
    | (go_at_call 90; refine Hid.out ?_))
  refine Hid.mk_ ((refReadStr c1 hs1 hc1).mono ?_)
  rintro e w2 ⟨hE2, n, k, rfl, hI⟩
  have hE02 := hE1.trans hE2
  have hST := stepS_ref hI
  have hk := (RetRS.k0 hI).2
  have HI := Lib.hid hI; have HST := Lib.hid hST
  clear hI hST
  go_wp2_with (first
    | (go_at_call 89; refine Hid.out ?_))
  refine Hid.mk_ ((refMove k (hR.ext hE02) (by have h1 := HRL.out; have h2 := HL.out; omega)).mono ?_)
  rintro e w3 ⟨rfl, hR3, hg3⟩
  go_wp2
  go_ret
  rw [HST.out]
  exact ⟨rfl, hR3, (hE02.grownBy _).trans hg3⟩

end

end Go.Proofs.YtoghaehcmbonnaaGreatDoor
