/- pack.number, pack.Int, pack.String. -/
import Derived.Test.YthkdnioljajcoaaReverse
import Derived.Test.YthkdnioljajcoaaEnc
namespace Go.Proofs.Ythkdnioljajcoaa
open Go.RowKit

theorem neg_u64 (n : Int) (h1 : -9223372036854775808 ≤ n) (hn : n < 0) : IntKind.u64.wrap (-IntKind.u64.wrap n) = (n.natAbs : Int) := by
  simp only [IntKind.wrap, IntKind.signed, IntKind.bits, Bool.false_and, Bool.false_eq_true, if_false]
  omega
theorem pos_u64 (n : Int) (h1 : n ≤ 9223372036854775807) (hn : 0 ≤ n) : IntKind.u64.wrap n = (n.natAbs : Int) := by
  simp only [IntKind.wrap, IntKind.signed, IntKind.bits, Bool.false_and, Bool.false_eq_true, if_false]
  omega
theorem wrap_u8 (a : Nat) : IntKind.u8.wrap (a : Int) = ((UInt8.ofNat a).toNat : Int) := by
  simp only [IntKind.wrap, IntKind.signed, IntKind.bits, Bool.false_and, Bool.false_eq_true, if_false, UInt8.toNat_ofNat']
  omega

set_option maxHeartbeats 400000 in
theorem number_any {base : Nat} {Ab : Option Addr} {nb cb : Nat} {l : List UInt8} (n : Int) {w : World} (h : OsB w base Ab nb cb l) (hb : base ≤ w.heap.size) (hl : nb ≤ 140737488355000)
    (h1 : -9223372036854775808 ≤ n) (h2 : n ≤ 9223372036854775807) :
    Calls Try.prog 32 #[.slice Ab nb cb, .int .i64 n] w fun e w' => ∃ A m c, e = .returned (.slice A m c) ∧ OsB w' base A m c (l ++ encI n) ∧ w.grownBy w' (ob Ab) ∧ NewOr w.heap.size (ob Ab) (ob A) := by
  by_cases hn : n < 0
  ·
    have hu := neg_u64 n h1 hn
    go_enter Try.func32, Try.ntmps32
    go_wp2
    go_loopw [5, 7] (fun u lv wr => ∃ (f a : Nat) (d : List UInt8) (A : Option Addr) (m c : Nat), u = .int .u64 a ∧ lv = .slice A m c ∧ a < 256 ^ f ∧ OsB wr w.heap.size A m c d ∧ Ext w wr ∧ d ++ le256 f a = le256 8 n.natAbs ∧ m + f ≤ 8) (fun u _ _ => (intOf u).toNat)
    case atStart => exact ⟨8, n.natAbs, [], none, 0, 0, rfl, rfl, by omega, OsB.nil_, Ext.refl _, rfl, by simp⟩
    case round =>
      obtain ⟨f, a, d, A, m, c, rfl, rfl, ha, ho, hE, hd, hf⟩ := hrel
      have HD := Lib.hid hd; clear hd
      by_cases h0 : 0 < a
      · have hw := wrap_u8 a
        have hsz := hE.size_le
        go_wp2_with (first
          | (at_builtin; refine appB1 rfl _ _ rfl ho rfl (UInt8.ofNat a) rfl rfl (by omega) hsz ?_; intro A' m' c' w1 ho1 hg1 hat1))
        go_roundw
        case rel =>
          obtain ⟨f, rfl⟩ : ∃ f', f = f' + 1 := by
            rcases f with _ | f
            · simp at ha; omega
            · exact ⟨f, rfl⟩
          refine ⟨f, a / 256, d ++ [UInt8.ofNat a], A', m', c', by go_num, rfl, by rw [Nat.pow_succ] at ha; omega, ho1, hE.grown hg1 ho.ge, ?_, by have h1 := ho1.len; have h2 := ho.len; simp at h1; omega⟩
          rw [← HD.out, le256, if_neg (by omega)]
          simp
        case measure => simp [intOf]; omega
      · have h00 : a = 0 := by omega
        subst h00
        have hlen : m = (le256 8 n.natAbs).length := by
          have := congrArg List.length HD.out
          rw [le256_zero, List.append_nil] at this
          exact ho.len.trans this
        have HL := Lib.hid hlen; clear hlen
        have HLR := Lib.hid ho.len
        go_wp2_with (first
          | (go_at_call 42; refine (reverseB ho).mono ?_; rintro e w1 ⟨rfl, ho1, hg1⟩)
          | (at_builtin; refine Hid.out ?_))
        have hE1 := hE.grown hg1 ho.ge
        have hv1 := h.ext hE1
        have hsz1 := hE1.size_le
        show wpList _ _ _ _ _ _
        refine appB1 rfl _ _ rfl hv1 rfl (UInt8.ofNat (16 + (le256 8 n.natAbs).length)) ?_ rfl (by omega) (by omega) ?_
        · rw [HL.out, UInt8.toNat_ofNat']
          have := le256_length 8 n.natAbs
          omega
        · intro A2 m2 c2 w2 ho2 hg2 hat2
          have hm2 : m2 ≤ nb + 1 := by have h1 := ho2.len; have h2 := h.len; simp at h1; omega
          have ho1' := ho1.kept hg2 (ne_of_lt ho1.ge h.lt)
          have hsz2 := hg2.size
          go_wp2_with (first
            | (at_builtin; refine Hid.out ?_))
          show wpList _ _ _ _ _ _
          refine appB rfl _ _ rfl ho2 rfl ho1'.sl rfl (by omega) (by omega) ?_
          intro A3 m3 c3 w3 ho3 hg3 hat3
          go_wp2
          go_ret
          have e1 : (l ++ [UInt8.ofNat (16 + (le256 8 n.natAbs).length)]) ++ d.reverse = l ++ encI n := by
            have h9 := HD.out
            rw [le256_zero, List.append_nil] at h9
            simp [encI, encAbs, h9, if_pos hn]
          rw [e1] at ho3
          exact ⟨A3, m3, c3, rfl, ho3, grown_step (grown_step (hE1.grownBy _) hg2 (NewOr.refl _ _)) hg3 (hat2.mono hsz1), (hat2.mono hsz1).trans hat3 (by omega)⟩
  ·
    have hu := pos_u64 n h2 (by omega)
    go_enter Try.func32, Try.ntmps32
    go_wp2
    go_loopw [5, 7] (fun u lv wr => ∃ (f a : Nat) (d : List UInt8) (A : Option Addr) (m c : Nat), u = .int .u64 a ∧ lv = .slice A m c ∧ a < 256 ^ f ∧ OsB wr w.heap.size A m c d ∧ Ext w wr ∧ d ++ le256 f a = le256 8 n.natAbs ∧ m + f ≤ 8) (fun u _ _ => (intOf u).toNat)
    case atStart => exact ⟨8, n.natAbs, [], none, 0, 0, rfl, rfl, by omega, OsB.nil_, Ext.refl _, rfl, by simp⟩
    case round =>
      obtain ⟨f, a, d, A, m, c, rfl, rfl, ha, ho, hE, hd, hf⟩ := hrel
      have HD := Lib.hid hd; clear hd
      by_cases h0 : 0 < a
      · have hw := wrap_u8 a
        have hsz := hE.size_le
        go_wp2_with (first
          | (at_builtin; refine appB1 rfl _ _ rfl ho rfl (UInt8.ofNat a) rfl rfl (by omega) hsz ?_; intro A' m' c' w1 ho1 hg1 hat1))
        go_roundw
        case rel =>
          obtain ⟨f, rfl⟩ : ∃ f', f = f' + 1 := by
            rcases f with _ | f
            · simp at ha; omega
            · exact ⟨f, rfl⟩
          refine ⟨f, a / 256, d ++ [UInt8.ofNat a], A', m', c', by go_num, rfl, by rw [Nat.pow_succ] at ha; omega, ho1, hE.grown hg1 ho.ge, ?_, by have h1 := ho1.len; have h2 := ho.len; simp at h1; omega⟩
          rw [← HD.out, le256, if_neg (by omega)]
          simp
        case measure => simp [intOf]; omega
      · have h00 : a = 0 := by omega
        subst h00
        have hlen : m = (le256 8 n.natAbs).length := by
          have := congrArg List.length HD.out
          rw [le256_zero, List.append_nil] at this
          exact ho.len.trans this
        have HL := Lib.hid hlen; clear hlen
        have HLR := Lib.hid ho.len
        go_wp2_with (first
          | (go_at_call 42; refine (reverseB ho).mono ?_; rintro e w1 ⟨rfl, ho1, hg1⟩)
          | (at_builtin; refine Hid.out ?_))
        have hE1 := hE.grown hg1 ho.ge
        have hv1 := h.ext hE1
        have hsz1 := hE1.size_le
        show wpList _ _ _ _ _ _
        refine appB1 rfl _ _ rfl hv1 rfl (UInt8.ofNat (0 + (le256 8 n.natAbs).length)) ?_ rfl (by omega) (by omega) ?_
        · rw [HL.out, UInt8.toNat_ofNat']
          have := le256_length 8 n.natAbs
          omega
        · intro A2 m2 c2 w2 ho2 hg2 hat2
          have hm2 : m2 ≤ nb + 1 := by have h1 := ho2.len; have h2 := h.len; simp at h1; omega
          have ho1' := ho1.kept hg2 (ne_of_lt ho1.ge h.lt)
          have hsz2 := hg2.size
          go_wp2_with (first
            | (at_builtin; refine Hid.out ?_))
          show wpList _ _ _ _ _ _
          refine appB rfl _ _ rfl ho2 rfl ho1'.sl rfl (by omega) (by omega) ?_
          intro A3 m3 c3 w3 ho3 hg3 hat3
          go_wp2
          go_ret
          have e1 : (l ++ [UInt8.ofNat (0 + (le256 8 n.natAbs).length)]) ++ d.reverse = l ++ encI n := by
            have h9 := HD.out
            rw [le256_zero, List.append_nil] at h9
            simp [encI, encAbs, h9, if_neg (show ¬ n < 0 by omega)]
          rw [e1] at ho3
          exact ⟨A3, m3, c3, rfl, ho3, grown_step (grown_step (hE1.grownBy _) hg2 (NewOr.refl _ _)) hg3 (hat2.mono hsz1), (hat2.mono hsz1).trans hat3 (by omega)⟩

end Go.Proofs.Ythkdnioljajcoaa
