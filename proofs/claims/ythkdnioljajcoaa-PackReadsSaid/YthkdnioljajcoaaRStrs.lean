/- String and Strings of a reader. -/
import Derived.Test.YthkdnioljajcoaaRText
namespace Go.Proofs.Ythkdnioljajcoaa
open Go.RowKit

section
variable {w : World} {g : Nat} {A : Option Addr} {m c : Nat} {bs : List UInt8} {at_ : Nat} {f : Bool}
set_option maxHeartbeats 400000 in
theorem rString (hR : Rdr w g A m c bs at_ f) :
    Calls Try.prog 26 #[.pointer (some ⟨g, 0, none⟩)] w fun e w' => e = .returned (.string (str (stepS bs at_ f).1)) ∧ Rdr w' g A m c bs (stepS bs at_ f).2.1 (stepS bs at_ f).2.2 ∧ w.grownBy w' (some g) := by
  have c1 := hR.c1
  have c2 := hR.c2
  cases f
  · go_enter Try.func26, Try.ntmps26
    go_wp2_with (first
      | (go_at_call 36; refine (text_any _ hR.at_le hR).mono ?_; rintro e w' ⟨rfl, s, next, ok, rfl, hI⟩)
      | (go_at_call 35; refine (move_any _ _ hR (by rw [hR.rd.len]; exact (hI.le (by rw [← hR.rd.len]; exact hR.at_le)).1)).mono ?_; rintro e w2 ⟨rfl, hR2, hg2⟩))
    go_ret
    have e1 : stepS bs at_ false = (s, (if ok then next else at_), (if ok then false else true)) := by
      unfold TextR at hI
      unfold stepS
      cases hr : readS (bs.drop at_) with
      | none => rw [hr] at hI; obtain ⟨rfl, rfl, rfl⟩ := hI; rfl
      | some p => rw [hr] at hI; obtain ⟨rfl, rfl, rfl⟩ := hI; rfl
    rw [e1]
    exact ⟨rfl, hR2, hg2⟩
  · go_enter Try.func26, Try.ntmps26
    go_wp2
    go_ret
    exact ⟨rfl, hR, (Ext.refl w).grownBy _⟩

/-- After the strings ls, which end at off: what is left to read. -/
def Left (n : Nat) (b : List UInt8) (ls : List (List UInt8)) (d : Nat) (q : Nat) : Prop :=
  ls.length = q ∧ readN n b = match readN (n - q) (b.drop d) with
    | some (l, j) => some (ls ++ l, d + j)
    | none => none
theorem Left.zero (n : Nat) (b : List UInt8) : Left n b [] 0 0 := ⟨rfl, by
  simp only [Nat.sub_zero, List.drop_zero, List.nil_append, Nat.zero_add]
  cases readN n b with
  | none => rfl
  | some p => rfl⟩
theorem Left.step {n : Nat} {b : List UInt8} {ls : List (List UInt8)} {d q : Nat} (h : Left n b ls d q) (hq : q < n) {s : List UInt8} {k : Nat} (hs : readS (b.drop d) = some (s, k)) : Left n b (ls ++ [s]) (d + k) (q + 1) := by
  refine ⟨by simp [h.1], ?_⟩
  rw [h.2, show n - q = (n - (q + 1)) + 1 by omega, readN, hs]
  simp only
  rw [List.drop_drop]
  cases readN (n - (q + 1)) (b.drop (d + k)) with
  | none => rfl
  | some p => simp [Nat.add_assoc]
theorem Left.fail {n : Nat} {b : List UInt8} {ls : List (List UInt8)} {d q : Nat} (h : Left n b ls d q) (hq : q < n) (hs : readS (b.drop d) = none) : readN n b = none := by
  rw [h.2, show n - q = (n - (q + 1)) + 1 by omega, readN, hs]
theorem Left.done {n : Nat} {b : List UInt8} {ls : List (List UInt8)} {d q : Nat} (h : Left n b ls d q) (hq : ¬ q < n) : readN n b = some (ls, d) := by
  rw [h.2, show n - q = 0 by omega, readN]
  simp

set_option maxHeartbeats 1600000 in
theorem rStrings (most : Int) (hR : Rdr w g A m c bs at_ f) (hm : m ≤ 8796093000000) :
    Calls Try.prog 23 #[.pointer (some ⟨g, 0, none⟩), .int .i64 most] w fun e w' => ∃ A' m' c', e = .returned (.slice A' m' c') ∧ OsS w' w.heap.size A' m' c' ((stepL most bs at_ f).1.map str) ∧
      Rdr w' g A m c bs (stepL most bs at_ f).2.1 (stepL most bs at_ f).2.2 ∧ w.grownBy w' (some g) := by
  have c1 := hR.c1
  have c2 := hR.c2
  have f1 := hR.f1
  have f2 := hR.f2
  have hle := hR.rd.le
  have HL := Lib.hid hR.rd.len
  have hgl := hR.blk.lt
  cases f
  · go_enter Try.func23, Try.ntmps23
    go_wp2_with (first
      | (go_at_call 34; refine Hid.out ?_))
    refine Hid.mk_ ((integer_any _ hR.at_le hR).mono ?_)
    rintro e w' ⟨rfl, n, next, ok, rfl, hI⟩
    have hnx := hI.le (by rw [← HL.out]; exact hR.at_le)
    rw [← HL.out] at hnx
    obtain ⟨hn1, hn2⟩ := hnx
    have hrg := hI.range
    cases hr : readI (bs.drop at_) with
    | none =>
      unfold IntR at hI
      rw [hr] at hI
      obtain ⟨rfl, rfl, hxx⟩ := hI
      have hfin : stepL most bs at_ false = ([], at_, true) := by unfold stepL readL; rw [hr]; rfl
      have HF := Lib.hid hfin; clear hfin hr hxx
      go_wp2
      go_ret
      rw [HF.out]
      exact ⟨none, 0, 0, rfl, OsS.nil_, hR.set2 true, hR.grow _ _⟩
    | some p =>
      obtain ⟨a, k⟩ := p
      unfold IntR at hI
      rw [hr] at hI
      obtain ⟨rfl, rfl, rfl⟩ := hI
      have hfin : readL most (bs.drop at_) = if 0 ≤ n ∧ n ≤ most then match readN n.toNat ((bs.drop at_).drop k) with
          | some (l, j) => some (l, k + j)
          | none => none
          else none := by
        unfold readL
        rw [hr]
        rfl
      have HF := Lib.hid hfin; clear hfin hr
      by_cases hc : 0 ≤ n ∧ n ≤ most
      · obtain ⟨q0, rfl⟩ := Int.eq_ofNat_of_zero_le hc.1
        have hc2 := hc.2
        clear hc
        rw [if_pos ⟨by omega, hc2⟩, Int.toNat_natCast, List.drop_drop] at HF
        go_wp2
        go_loopw [8, 6, 48] (fun v o i wr => ∃ (q off : Nat) (ls : List (List UInt8)) (A' : Option Addr) (m' c' : Nat), q ≤ q0 ∧ v = .slice A' m' c' ∧ o = .int .i64 off ∧ i = .int .i64 q ∧ OsS wr w.heap.size A' m' c' (ls.map str) ∧ Ext w wr ∧
            Left q0 (bs.drop (at_ + k)) ls (off - (at_ + k)) q ∧ at_ + k ≤ off ∧ off ≤ m ∧ q ≤ off - (at_ + k)) (fun _ _ i _ => q0 - (intOf i).toNat)
        case atStart => exact ⟨0, at_ + k, [], none, 0, 0, Nat.zero_le _, rfl, by go_num, rfl, OsS.nil_, Ext.refl _, by rw [Nat.sub_self]; exact Left.zero _ _, Nat.le_refl _, hn1, Nat.zero_le _⟩
        case round =>
          obtain ⟨q, off, ls, A', m', c', hq, rfl, rfl, rfl, ho, hE, hLf, ho1, ho2, ho3⟩ := hrel
          have hRr := hR.ext hE
          have c1r := hRr.c1
          have f1r := hRr.f1
          have c2r := hRr.c2
          have f2r := hRr.f2
          have hmq : m' ≤ 8796093000000 := by have h1 := ho.len; rw [List.length_map, hLf.1] at h1; omega
          have HLf := Lib.hid hLf; clear hLf
          by_cases hlt : q < q0
          · go_wp2_with (first
              | (go_at_call 36; refine Hid.out ?_))
            refine Hid.mk_ ((text_any _ ho2 hRr).mono ?_)
            rintro e w' ⟨rfl, s, next, ok, rfl, hT⟩
            cases hs : readS (bs.drop off) with
            | none =>
              unfold TextR at hT
              rw [hs] at hT
              obtain ⟨rfl, rfl, hxx⟩ := hT
              have hfin : stepL most bs at_ false = ([], at_, true) := by
                have h1 := HLf.out.fail hlt (by rw [List.drop_drop, show at_ + k + (off - (at_ + k)) = off by omega]; exact hs)
                unfold stepL
                rw [HF.out, h1]
                rfl
              have HFI := Lib.hid hfin
              clear hfin hs hxx HF HLf
              go_wp2
              go_ret
              rw [HFI.out]
              exact ⟨none, 0, 0, rfl, OsS.nil_, hRr.set2 true, grown_step (hE.grownBy _) (hRr.grow _ _) (NewOr.refl _ _)⟩
            | some p =>
              obtain ⟨t, j⟩ := p
              unfold TextR at hT
              rw [hs] at hT
              obtain ⟨rfl, rfl, rfl⟩ := hT
              have hk := readS_some hs
              rw [List.length_drop, ← HL.out] at hk
              have hst := HLf.out.step hlt (by rw [List.drop_drop, show at_ + k + (off - (at_ + k)) = off by omega]; exact hs)
              have HST := Lib.hid hst
              obtain ⟨_, _, hk1, hk2, _⟩ := hk
              clear hst hs HLf
              go_wp2_with (first
                | (at_builtin; refine appSs1 rfl _ _ rfl ho rfl (str s) rfl (by omega) hE.size_le ?_; intro A2 m2 c2' w2 ho2' hg2 hat2))
              go_roundw
              case rel =>
                refine ⟨q + 1, off + j, ls ++ [s], A2, m2, c2', by omega, rfl, by go_num, by go_num, by rw [List.map_append]; exact ho2', hE.grown hg2 ho.ge, ?_, by omega, by omega, by omega⟩
                rw [show off + j - (at_ + k) = off - (at_ + k) + j by omega]
                exact HST.out
              case measure => simp [intOf]; omega
          · have hfin : stepL most bs at_ false = (ls, off, false) := by
              have h1 := HLf.out.done hlt
              unfold stepL
              rw [HF.out, h1]
              simp
              omega
            have HFI := Lib.hid hfin
            clear hfin HF HLf
            go_wp2
            go_ret
            rw [HFI.out]
            refine ⟨A', m', c', rfl, ho.kept (hRr.grow _ _) ?_, hRr.set1 ho2 rfl, grown_step (hE.grownBy _) (hRr.grow _ _) (NewOr.refl _ _)⟩
            exact ne_of_lt ho.ge (fun k hk => by injection hk with hk; omega)
      · have hfin : stepL most bs at_ false = ([], at_, true) := by unfold stepL; rw [HF.out, if_neg hc]; rfl
        have HFI := Lib.hid hfin; clear hfin HF
        by_cases h0 : n < 0
        · clear hc
          go_wp2
          go_ret
          rw [HFI.out]
          exact ⟨none, 0, 0, rfl, OsS.nil_, hR.set2 true, hR.grow _ _⟩
        · have h1 : most < n := by omega
          clear hc
          go_wp2
          go_ret
          rw [HFI.out]
          exact ⟨none, 0, 0, rfl, OsS.nil_, hR.set2 true, hR.grow _ _⟩
  · go_enter Try.func23, Try.ntmps23
    go_wp2
    go_ret
    exact ⟨none, 0, 0, rfl, OsS.nil_, hR, (Ext.refl w).grownBy _⟩
end
end Go.Proofs.Ythkdnioljajcoaa
