/- pack.Int, pack.String, pack.Strings. -/
import Derived.Test.YthkdnioljajcoaaNumber
import Derived.Test.YthkdnioljajcoaaStrs
namespace Go.Proofs.Ythkdnioljajcoaa
open Go.RowKit

set_option maxHeartbeats 400000 in
theorem packInt {A : Option Addr} {m : Nat} (c : Nat) {l : List UInt8} (n : Int) {w : World} (h : SlB w A m l) (hl : m ≤ 140737488355000) (h1 : -9223372036854775808 ≤ n) (h2 : n ≤ 9223372036854775807) :
    Calls Try.prog 13 #[.slice A m c, .int .i64 n] w fun e w' => ∃ A' m' c', e = .returned (.slice A' m' c') ∧ OsB w' w.heap.size A' m' c' (l ++ encI n) ∧ Ext w w' := by
  go_enter Try.func13, Try.ntmps13
  go_wp2_with (first
    | (go_at_call 33; refine (cloneB c h).mono ?_; rintro e w1 ⟨A1, m1, c1, rfl, ho1, hE1⟩)
    | (go_at_call 32; refine (number_any n ho1 hE1.size_le (by have := ho1.len; have := h.len; omega) h1 h2).mono ?_; rintro e w2 ⟨A2, m2, c2, rfl, ho2, hg2, hat2⟩))
  go_ret
  exact ⟨A2, m2, c2, rfl, ho2, hE1.grown hg2 ho1.ge⟩

set_option maxHeartbeats 400000 in
theorem packStr {A : Option Addr} {m : Nat} (c : Nat) {l : List UInt8} (s : ByteArray) {w : World} (h : SlB w A m l) (hl : m + s.size ≤ 140737488355000) :
    Calls Try.prog 17 #[.slice A m c, .string s] w fun e w' => ∃ A' m' c', e = .returned (.slice A' m' c') ∧ OsB w' w.heap.size A' m' c' (l ++ encS (bys s)) ∧ Ext w w' := by
  go_enter Try.func17, Try.ntmps17
  go_wp2_with (first
    | (go_at_call 13; refine (packInt c _ h (by omega) (by omega) (by omega)).mono ?_; rintro e w1 ⟨A1, m1, c1, rfl, ho1, hE1⟩)
    | (at_builtin; refine appS rfl _ _ rfl ho1 rfl s rfl (by have h3 := ho1.len; have h4 := h.len; have h5 := encI_length_le (s.size : Int); simp only [List.length_append] at h3; omega) hE1.size_le ?_; intro A2 m2 c2 w2 ho2 hg2 hat2))
  go_ret
  refine ⟨A2, m2, c2, rfl, ?_, hE1.grown hg2 ho1.ge⟩
  rw [List.append_assoc] at ho2
  rw [encS, bys_len]
  exact ho2

theorem encS_len (s : ByteArray) : (encS (bys s)).length ≤ 9 + s.size := by
  have h1 := encI_length_le ((bys s).length : Int)
  have h2 := bys_len s
  simp only [encS, List.length_append]
  omega
theorem flat_le (ls : List ByteArray) (k : Nat) (f : ByteArray → List UInt8) : ((ls.take k).flatMap f).length ≤ (ls.flatMap f).length := by
  have : ls.flatMap f = (ls.take k).flatMap f ++ (ls.drop k).flatMap f := by rw [← List.flatMap_append, List.take_append_drop]
  rw [this, List.length_append]; omega
theorem flat_snoc (ls : List ByteArray) (k : Nat) (h : k < ls.length) (f : ByteArray → List UInt8) : (ls.take (k + 1)).flatMap f = (ls.take k).flatMap f ++ f ls[k] := by
  rw [List.take_succ_eq_append_getElem h, List.flatMap_append]; simp

set_option maxHeartbeats 400000 in
theorem packStrs {A B : Option Addr} {m n : Nat} (c d : Nat) {l : List UInt8} {ls : List ByteArray} {w : World} (h : SlB w A m l) (hs : SlS w B n ls) (hl : m + (ls.flatMap fun s => encS (bys s)).length ≤ 140737488354000) :
    Calls Try.prog 15 #[.slice A m c, .slice B n d] w fun e w' => ∃ A' m' c', e = .returned (.slice A' m' c') ∧ OsB w' w.heap.size A' m' c' (l ++ (encI ls.length ++ ls.flatMap fun s => encS (bys s))) ∧ Ext w w' := by
  have HL := Lib.hid hs.len
  have hle := hs.le
  have hmm := h.le
  go_enter Try.func15, Try.ntmps15
  go_wp2_with (first
    | (go_at_call 13; refine (packInt c _ h (by omega) (by omega) (by omega)).mono ?_; rintro e w1 ⟨A1, m1, c1, rfl, ho1, hE1⟩))
  go_loopw [5, 14] (fun v i wr => ∃ (k : Nat) (A' : Option Addr) (m' c' : Nat), k ≤ n ∧ v = .slice A' m' c' ∧ i = .int .i64 k ∧ OsB wr w.heap.size A' m' c' (l ++ encI n ++ (ls.take k).flatMap fun s => encS (bys s)) ∧ Ext w wr) (fun _ i _ => n - (intOf i).toNat)
  case atStart => exact ⟨0, A1, m1, c1, Nat.zero_le _, rfl, rfl, by simpa using ho1, hE1⟩
  case round =>
    obtain ⟨k, A', m', c', hk, rfl, rfl, ho, hE⟩ := hrel
    by_cases hlt : k < n
    · obtain ⟨b, off, rfl, _, hc⟩ := (hs.ext hE).at_ hlt
      have hlt1 : k < ls.length := by rw [← HL.out]; exact hlt
      obtain ⟨s, hsk⟩ : ∃ s, s = ls[k] := ⟨_, rfl⟩
      have h1 := hc k hlt1
      rw [← hsk] at h1
      have hi1 : (k : Int) < (n : Int) := by omega
      have hbd : m' + (9 + s.size) ≤ 140737488355000 := by
        have e1 := ho.len
        have e2 := flat_le ls (k + 1) fun s => encS (bys s)
        rw [flat_snoc ls k hlt1, List.length_append, ← hsk] at e2
        have e3 := h.len
        have e4 := encI_length_le (n : Int)
        have e5 : (encS (bys s)).length ≥ s.size := by simp [encS, bys_len]
        simp only [List.length_append] at e1
        omega
      have HS := Lib.hid hsk; clear hsk hc
      have hsz := hE.size_le
      go_wp2_with (first
        | (go_at_call 32; refine (number_any _ ho hsz (by omega) (by omega) (by omega)).mono ?_; rintro e w2 ⟨A2, m2, c2, rfl, ho2, hg2, hat2⟩; have hsz2 := hg2.size)
        | (at_builtin; refine appS rfl _ _ rfl ho2 rfl s rfl (by have h3 := ho2.len; have h4 := ho.len; have h5 := encI_length_le (s.size : Int); simp only [List.length_append] at h3 h4; omega) (by omega) ?_; intro A3 m3 c3 w3 ho3 hg3 hat3))
      go_roundw
      case rel =>
        refine ⟨k + 1, A3, m3, c3, by omega, rfl, by go_num, ?_, (hE.grown hg2 ho.ge).grown hg3 ho2.ge⟩
        rw [flat_snoc ls k hlt1, ← HS.out, encS, bys_len]
        simp only [List.append_assoc] at ho3 ⊢
        exact ho3
      case measure => simp [intOf]; omega
    · have hkn : k = n := by omega
      have ho' := ho
      rw [List.take_of_length_le (by rw [← HL.out]; omega)] at ho'
      have e0 := HL.out
      have Hn := Lib.hid e0
      clear ho e0
      clear hkn
      go_wp2
      go_ret
      refine ⟨A', m', c', rfl, ?_, hE⟩
      rw [← List.append_assoc, ← Hn.out]
      exact ho'

end Go.Proofs.Ythkdnioljajcoaa
