/- The reference's ReadString, ReadStrings, and its reader. -/
import Derived.Test.YthkdnioljajcoaaRefR
namespace Go.Proofs.Ythkdnioljajcoaa
open Go.RowKit

/-- What the reference's ReadString returns. -/
def RetRS (l : List UInt8) (e : Ending) : Prop := ∃ (s : List UInt8) (k : Nat), e = .returned (.tuple #[.string (str s), .int .i64 k]) ∧ match readS l with
  | some (a, j) => s = a ∧ k = j
  | none => s = [] ∧ k = 0
theorem RetRS.none_ {l : List UInt8} (h : readS l = none) : RetRS l (.returned (.tuple #[.string ⟨#[]⟩, .int .i64 0])) := ⟨[], 0, rfl, by rw [h]; exact ⟨rfl, rfl⟩⟩
theorem RetRS.some_ {l : List UInt8} {s : List UInt8} {k : Nat} (h : readS l = some (s, k)) {b : Int} (hb : b = k) : RetRS l (.returned (.tuple #[.string (str s), .int .i64 b])) :=
  ⟨s, k, by rw [hb], by rw [h]; exact ⟨rfl, rfl⟩⟩
theorem RetRS.k0 {l : List UInt8} {s : List UInt8} {k : Nat} (h : match readS l with | some (a, j) => s = a ∧ k = j | none => s = [] ∧ k = 0) : (k = 0 ↔ readS l = none) ∧ k ≤ l.length := by
  cases hr : readS l with
  | none => rw [hr] at h; simp only at h; exact ⟨by simp [h.2], by omega⟩
  | some p =>
    obtain ⟨a, j⟩ := p
    rw [hr] at h
    simp only at h
    have := readS_some hr
    refine ⟨⟨fun hh => by omega, fun hh => by cases hh⟩, by omega⟩

section
variable {w : World} {A : Option Addr} {m : Nat} {l : List UInt8}
set_option maxHeartbeats 800000 in
theorem refReadStr (c : Nat) (hb : SlB w A m l) (hcap : m ≤ c) :
    Calls Try.prog 40 #[.slice A m c] w fun e w' => Ext w w' ∧ RetRS l e := by
  have HL := Lib.hid hb.len
  have hle := hb.le
  go_enter Try.func40, Try.ntmps40
  go_wp2_with (first
    | (go_at_call 37; refine Hid.out ?_))
  refine Hid.mk_ ((refReadInt c hb hcap).mono ?_)
  rintro e w1 ⟨hE1, n, k, rfl, hI⟩
  cases hr : readI l with
  | none =>
    rw [hr] at hI
    simp only at hI
    obtain ⟨rfl, rfl⟩ := hI
    have hfin : readS l = none := by unfold readS; rw [hr]
    have HF := Lib.hid hfin; clear hfin hr
    go_wp2
    go_ret2
    exact ⟨hE1, RetRS.none_ HF.out⟩
  | some p =>
    obtain ⟨a, j⟩ := p
    rw [hr] at hI
    simp only at hI
    obtain ⟨rfl, rfl⟩ := hI
    have hrg := (readI_some hr).1
    obtain ⟨hrg1, hrg2⟩ := hrg
    have hrl := readI_len hr
    have hfin : readS l = if 0 ≤ n ∧ n ≤ (l.length : Int) - k then some ((l.drop k).take n.toNat, k + n.toNat) else none := by unfold readS; rw [hr]
    rw [← HL.out] at hfin hrl
    have hk0 : ((k : Int) == 0) = false := by rw [beq_eq_false_iff_ne]; omega
    have HF := Lib.hid hfin; clear hfin hr
    by_cases hc : 0 ≤ n ∧ n ≤ (m : Int) - k
    · obtain ⟨q, rfl⟩ := Int.eq_ofNat_of_zero_le hc.1
      obtain ⟨A2, hr1, _, _, hs2, _⟩ := cut_run (hb.ext hE1) (i := k) (j := k + q) (by omega) (by omega) hcap
      have hsl := fun W => (hr1 W .i64 .i64 (k : Int) ((k : Int) + (q : Int)) (by omega) (by omega)).1
      have hsl' := fun W => (hr1 W .i64 .i64 (k : Int) ((k : Int) + (q : Int)) (by omega) (by omega)).2
      have hcv := conv_str hs2 (c - k)
      rw [← List.take_drop] at hcv
      rw [show k + q - k = q by omega] at hsl hsl' hcv
      obtain ⟨sg, hsg⟩ : ∃ sg, sg = (l.drop k).take q := ⟨_, rfl⟩
      rw [← hsg] at hcv
      have hfin : readS l = some (sg, k + q) := by rw [HF.out, if_pos hc, hsg]; rfl
      have HFI := Lib.hid hfin
      clear hfin hsg hr1 hs2 HF
      go_wp2
      go_ret2
      exact ⟨hE1, RetRS.some_ HFI.out (by omega)⟩
    · have hfin : readS l = none := by rw [HF.out, if_neg hc]
      have HFI := Lib.hid hfin
      clear hfin HF
      by_cases h0 : n < 0
      · clear hc
        go_wp2
        go_ret2
        exact ⟨hE1, RetRS.none_ HFI.out⟩
      · have h1 : (m : Int) - (k : Int) < n := by omega
        clear hc
        go_wp2
        go_ret2
        exact ⟨hE1, RetRS.none_ HFI.out⟩

/-- What the reference's ReadStrings returns. -/
def ListR (most : Int) (l : List UInt8) (ss : List (List UInt8)) (k : Nat) : Prop := match readL most l with
  | some (a, j) => ss = a ∧ k = j
  | none => ss = [] ∧ k = 0

set_option maxHeartbeats 1600000 in
theorem refReadStrs (c : Nat) (most : Int) (hb : SlB w A m l) (hcap : m ≤ c) (hm : m ≤ 8796093000000) :
    Calls Try.prog 41 #[.slice A m c, .int .i64 most] w fun e w' => ∃ A' m' c' ss k, e = .returned (.tuple #[.slice A' m' c', .int .i64 (k : Nat)]) ∧ OsS w' w.heap.size A' m' c' (ss.map str) ∧ ListR most l ss k ∧ Ext w w' := by
  have HL := Lib.hid hb.len
  have hle := hb.le
  go_enter Try.func41, Try.ntmps41
  go_wp2_with (first
    | (go_at_call 37; refine Hid.out ?_))
  refine Hid.mk_ ((refReadInt c hb hcap).mono ?_)
  rintro e w1 ⟨hE1, n, k, rfl, hI⟩
  cases hr : readI l with
  | none =>
    rw [hr] at hI
    simp only at hI
    obtain ⟨rfl, rfl⟩ := hI
    have hfin : readL most l = none := by unfold readL; rw [hr]
    have HF := Lib.hid hfin; clear hfin hr
    go_wp2
    go_ret2
    exact ⟨none, 0, 0, [], 0, rfl, OsS.nil_, by unfold ListR; rw [HF.out]; exact ⟨rfl, rfl⟩, hE1⟩
  | some p =>
    obtain ⟨a, j⟩ := p
    rw [hr] at hI
    simp only at hI
    obtain ⟨rfl, rfl⟩ := hI
    have hrg := (readI_some hr).1
    obtain ⟨hrg1, hrg2⟩ := hrg
    have hrl := readI_len hr
    have hfin : readL most l = if 0 ≤ n ∧ n ≤ most then match readN n.toNat (l.drop k) with
        | some (l', j) => some (l', k + j)
        | none => none
        else none := by
      unfold readL
      rw [hr]
      rfl
    rw [← HL.out] at hrl
    have hk0 : ((k : Int) == 0) = false := by rw [beq_eq_false_iff_ne]; omega
    have HF := Lib.hid hfin; clear hfin hr
    by_cases hc : 0 ≤ n ∧ n ≤ most
    · obtain ⟨q0, rfl⟩ := Int.eq_ofNat_of_zero_le hc.1
      have hc2 := hc.2
      clear hc
      rw [if_pos ⟨by omega, hc2⟩, Int.toNat_natCast] at HF
      go_wp2
      go_loopw [8, 7, 9] (fun v o i wr => ∃ (q off : Nat) (ls : List (List UInt8)) (A' : Option Addr) (m' c' : Nat), q ≤ q0 ∧ v = .slice A' m' c' ∧ o = .int .i64 off ∧ i = .int .i64 q ∧ OsS wr w.heap.size A' m' c' (ls.map str) ∧ Ext w wr ∧
          Left q0 (l.drop k) ls (off - k) q ∧ k ≤ off ∧ off ≤ m ∧ q ≤ off - k) (fun _ _ i _ => q0 - (intOf i).toNat)
      case atStart => exact ⟨0, k, [], none, 0, 0, Nat.zero_le _, rfl, rfl, rfl, OsS.nil_, hE1, by rw [Nat.sub_self]; exact Left.zero _ _, Nat.le_refl _, hrl.2, Nat.zero_le _⟩
      case round =>
        obtain ⟨q, off, ls, A', m', c', hq, rfl, rfl, rfl, ho, hE, hLf, ho1, ho2, ho3⟩ := hrel
        have hmq : m' ≤ 8796093000000 := by have h1 := ho.len; rw [List.length_map, hLf.1] at h1; omega
        have HLf := Lib.hid hLf; clear hLf
        by_cases hlt : q < q0
        · obtain ⟨A2, _, hr2, _, hs2, _⟩ := cut_run (hb.ext hE) (i := off) (j := m) ho2 (Nat.le_refl _) hcap
          have hsl := fun W => (hr2 W .i64 (off : Int) rfl rfl).1
          have hsl' := fun W => (hr2 W .i64 (off : Int) rfl rfl).2
          rw [List.take_of_length_le (by rw [← HL.out]; exact Nat.le_refl _)] at hs2
          clear hr2
          go_wp2_with (first
            | (go_at_call 40; refine Hid.out ?_))
          refine Hid.mk_ ((refReadStr (c - off) hs2 (by omega)).mono ?_)
          rintro e w2 ⟨hE2, s, j2, rfl, hT⟩
          have hk2 := RetRS.k0 hT
          rw [List.length_drop, ← HL.out] at hk2
          obtain ⟨hk2a, hk2b⟩ := hk2
          cases hs : readS (l.drop off) with
          | none =>
            rw [hs] at hT
            simp only at hT
            obtain ⟨rfl, rfl⟩ := hT
            have hfin : readL most l = none := by
              have h1 := HLf.out.fail hlt (by rw [List.drop_drop, show k + (off - k) = off by omega]; exact hs)
              rw [HF.out, h1]
            have HFI := Lib.hid hfin
            clear hfin hs HF HLf hk2a hk2b hsl hsl'
            have hE02 := hE.trans hE2
            go_wp2
            go_ret2
            exact ⟨none, 0, 0, [], 0, rfl, OsS.nil_, by unfold ListR; rw [HFI.out]; exact ⟨rfl, rfl⟩, hE02⟩
          | some p =>
            obtain ⟨t, j⟩ := p
            have hkk := readS_some hs
            rw [hs] at hT
            simp only at hT
            obtain ⟨rfl, rfl⟩ := hT
            have hst := HLf.out.step hlt (by rw [List.drop_drop, show k + (off - k) = off by omega]; exact hs)
            have HST := Lib.hid hst
            obtain ⟨_, _, _, hk1, _⟩ := hkk
            have hj0 : ((j2 : Int) == 0) = false := by rw [beq_eq_false_iff_ne]; omega
            have ho' := ho.ext hE2
            have hE02 := hE.trans hE2
            clear hst hs HLf hk2a hsl hsl'
            go_wp2_with (first
              | (at_builtin; refine appSs1 rfl _ _ rfl ho' rfl (str s) rfl (by omega) hE02.size_le ?_; intro A2' m2' c2' w3 ho3' hg3 hat3))
            go_roundw
            case rel =>
              refine ⟨q + 1, off + j2, ls ++ [s], A2', m2', c2', by omega, rfl, by go_num, by go_num, by rw [List.map_append]; exact ho3', hE02.grown hg3 ho'.ge, ?_, by omega, by omega, by omega⟩
              rw [show off + j2 - k = off - k + j2 by omega]
              exact HST.out
            case measure => simp [intOf]; omega
        · have hfin : readL most l = some (ls, off) := by
            have h1 := HLf.out.done hlt
            rw [HF.out, h1]
            simp
            omega
          have HFI := Lib.hid hfin
          clear hfin HF HLf
          go_wp2
          go_ret2
          exact ⟨A', m', c', ls, off, rfl, ho, by unfold ListR; rw [HFI.out]; exact ⟨rfl, rfl⟩, hE⟩
    · have hfin : readL most l = none := by rw [HF.out, if_neg hc]
      have HFI := Lib.hid hfin
      clear hfin HF
      by_cases h0 : n < 0
      · clear hc
        go_wp2
        go_ret2
        exact ⟨none, 0, 0, [], 0, rfl, OsS.nil_, by unfold ListR; rw [HFI.out]; exact ⟨rfl, rfl⟩, hE1⟩
      · have h1 : most < n := by omega
        clear hc
        go_wp2
        go_ret2
        exact ⟨none, 0, 0, [], 0, rfl, OsS.nil_, by unfold ListR; rw [HFI.out]; exact ⟨rfl, rfl⟩, hE1⟩
end

end Go.Proofs.Ythkdnioljajcoaa
