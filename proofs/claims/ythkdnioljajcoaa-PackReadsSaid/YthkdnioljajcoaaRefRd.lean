/- The reference's reader. -/
import Derived.Test.YthkdnioljajcoaaRefR2
namespace Go.Proofs.Ythkdnioljajcoaa
open Go.RowKit

/-- A reader of the reference. -/
abbrev RRdr := RdrT 51

theorem OsS.mono {w : World} {base base' : Nat} {A : Option Addr} {m c : Nat} {l : List ByteArray} (h : OsS w base A m c l) (hb : base' ≤ base) : OsS w base' A m c l := by
  refine ⟨⟨h.own.1, ?_⟩, h.len, h.le⟩
  rcases h.own.2 with hn | ⟨g, cap, cur, hv, hg, r⟩
  · exact .inl hn
  · exact .inr ⟨g, cap, cur, hv, by omega, r⟩
theorem readL_pos {most : Int} {b : List UInt8} {l : List (List UInt8)} {k : Nat} (h : readL most b = some (l, k)) : 1 ≤ k ∧ k ≤ b.length := by
  have h1 := readL_some h
  have h2 := encI_length_pos (l.length : Int)
  have h3 : (encL l).length = (encI (l.length : Int)).length + (l.flatMap encS).length := by rw [encL, List.length_append]
  omega

section
variable {w : World} {g : Nat} {A : Option Addr} {m c : Nat} {bs : List UInt8} {at_ : Nat} {f : Bool}
/-- The bytes that are left. -/
def restB (bs : List UInt8) (a : Nat) (f : Bool) : List UInt8 := if f = true then [] else bs.drop a

set_option maxHeartbeats 400000 in
theorem rest_any (hR : RRdr w g A m c bs at_ f) :
    Calls Try.prog 38 #[.pointer (some ⟨g, 0, none⟩)] w fun e w' => ∃ A' m' c', e = .returned (.slice A' m' c') ∧ SlB w' A' m' (restB bs at_ f) ∧ m' ≤ c' ∧ m' ≤ m ∧ Ext w w' := by
  have c0 := hR.c0
  have c1 := hR.c1
  have c2 := hR.c2
  have HL := Lib.hid hR.rd.len
  have hle := hR.rd.le
  have hle2 := hR.at_le
  have hcap := hR.cap
  cases f
  · obtain ⟨A2, _, hr2, _, hs2, _⟩ := cut_run hR.rd (i := at_) (j := m) hle2 (Nat.le_refl _) hcap
    have hsl := fun W => (hr2 W .i64 (at_ : Int) rfl rfl).1
    have hsl' := fun W => (hr2 W .i64 (at_ : Int) rfl rfl).2
    rw [List.take_of_length_le (by rw [← HL.out]; exact Nat.le_refl _)] at hs2
    clear hr2
    go_enter Try.func38, Try.ntmps38
    go_wp2
    go_quiet (fail)
    go_wp2
    go_ret
    exact ⟨A2, m - at_, c - at_, rfl, by have h1 := hs2.ext ((Ext.refl w).drewN nq); simpa [restB] using h1, by omega, by omega, (Ext.refl w).drewN _⟩
  · go_enter Try.func38, Try.ntmps38
    go_wp2
    go_ret
    exact ⟨none, 0, 0, rfl, SlB.nil_, Nat.le_refl _, Nat.zero_le _, Ext.refl w⟩

set_option maxHeartbeats 400000 in
theorem refMove (k : Nat) (hR : RRdr w g A m c bs at_ f) (hk : at_ + k ≤ m) :
    Calls Try.prog 39 #[.pointer (some ⟨g, 0, none⟩), .int .i64 k] w fun e w' => e = .returned (.tuple #[]) ∧ RRdr w' g A m c bs (at_ + k) (if k = 0 then true else f) ∧ w.grownBy w' (some g) := by
  have c1 := hR.c1
  have f1 := hR.f1
  have c2 := hR.c2
  have f2 := hR.f2
  have hle := hR.rd.le
  by_cases h0 : k = 0
  · subst h0
    go_enter Try.func39, Try.ntmps39
    go_wp2
    go_end0
    exact ⟨rfl, (hR.set2 true).set1 hk (by omega), (hR.grow 2 _).trans ((hR.set2 true).grow 1 _)⟩
  · have hk0 : ((k : Int) == 0) = false := by rw [beq_eq_false_iff_ne]; omega
    rw [if_neg h0]
    clear h0
    go_enter Try.func39, Try.ntmps39
    go_wp2
    go_end0
    exact ⟨rfl, hR.set1 hk (by omega), hR.grow 1 _⟩

/-- What the reference's Int and the others do. -/
theorem stepI_ref {n : Int} {k : Nat} (hI : match readI (restB bs at_ f) with
  | some (a, j) => n = a ∧ k = j
  | none => n = 0 ∧ k = 0) : stepI bs at_ f = (n, at_ + k, if k = 0 then true else f) := by
  unfold restB at hI
  unfold stepI
  cases f
  · simp only [Bool.false_eq_true, if_false] at hI ⊢
    cases hr : readI (bs.drop at_) with
    | none => rw [hr] at hI; obtain ⟨rfl, rfl⟩ := hI; simp
    | some p =>
      obtain ⟨a, j⟩ := p
      rw [hr] at hI
      have := readI_len hr
      obtain ⟨rfl, rfl⟩ := hI
      simp
      omega
  · simp only [if_true] at hI ⊢
    have : readI [] = none := rfl
    rw [this] at hI
    obtain ⟨rfl, rfl⟩ := hI
    simp

theorem stepB_ref {least most n : Int} {k : Nat} (hI : match readI (restB bs at_ f) with
  | some (a, j) => n = a ∧ k = j
  | none => n = 0 ∧ k = 0) : stepB least most bs at_ f = if n < least ∨ most < n then (0, at_, true) else (n, at_ + k, if k = 0 then true else f) := by
  unfold restB at hI
  unfold stepB
  cases f
  · simp only [Bool.false_eq_true, if_false] at hI ⊢
    cases hr : readI (bs.drop at_) with
    | none => rw [hr] at hI; obtain ⟨rfl, rfl⟩ := hI; simp
    | some p =>
      obtain ⟨a, j⟩ := p
      rw [hr] at hI
      have h1 := readI_len hr
      obtain ⟨rfl, rfl⟩ := hI
      simp only
      by_cases hc : least ≤ n ∧ n ≤ most
      · rw [if_pos hc, if_neg (by omega), if_neg (by omega)]
      · rw [if_neg hc, if_pos (by omega)]
  · simp only [if_true] at hI ⊢
    have : readI [] = none := rfl
    rw [this] at hI
    obtain ⟨rfl, rfl⟩ := hI
    simp
theorem stepS_ref {s : List UInt8} {k : Nat} (hI : match readS (restB bs at_ f) with
  | some (a, j) => s = a ∧ k = j
  | none => s = [] ∧ k = 0) : stepS bs at_ f = (s, at_ + k, if k = 0 then true else f) := by
  unfold restB at hI
  unfold stepS
  cases f
  · simp only [Bool.false_eq_true, if_false] at hI ⊢
    cases hr : readS (bs.drop at_) with
    | none => rw [hr] at hI; obtain ⟨rfl, rfl⟩ := hI; simp
    | some p =>
      obtain ⟨a, j⟩ := p
      rw [hr] at hI
      have := readS_some hr
      obtain ⟨rfl, rfl⟩ := hI
      simp
      omega
  · simp only [if_true] at hI ⊢
    have : readS [] = none := rfl
    rw [this] at hI
    obtain ⟨rfl, rfl⟩ := hI
    simp
theorem stepL_ref {most : Int} {ss : List (List UInt8)} {k : Nat} (hI : ListR most (restB bs at_ f) ss k) : stepL most bs at_ f = (ss, at_ + k, if k = 0 then true else f) := by
  unfold ListR restB at hI
  unfold stepL
  cases f
  · simp only [Bool.false_eq_true, if_false] at hI ⊢
    cases hr : readL most (bs.drop at_) with
    | none => rw [hr] at hI; obtain ⟨rfl, rfl⟩ := hI; simp
    | some p =>
      obtain ⟨a, j⟩ := p
      rw [hr] at hI
      have := readL_pos hr
      obtain ⟨rfl, rfl⟩ := hI
      simp
      omega
  · simp only [if_true] at hI ⊢
    have : readL most [] = none := rfl
    rw [this] at hI
    obtain ⟨rfl, rfl⟩ := hI
    simp
theorem rest_le (hR : at_ ≤ bs.length) : at_ + (restB bs at_ f).length ≤ bs.length := by
  unfold restB
  split
  · simpa using hR
  · rw [List.length_drop]; omega
theorem readI_k {l : List UInt8} {n : Int} {k : Nat} (hI : match readI l with
  | some (a, j) => n = a ∧ k = j
  | none => n = 0 ∧ k = 0) : k ≤ l.length := by
  cases hr : readI l with
  | none => rw [hr] at hI; obtain ⟨_, rfl⟩ := hI; omega
  | some p =>
    obtain ⟨a, j⟩ := p
    rw [hr] at hI
    have := readI_len hr
    obtain ⟨_, rfl⟩ := hI
    omega
theorem readI_rng {l : List UInt8} {n : Int} {k : Nat} (hI : match readI l with
  | some (a, j) => n = a ∧ k = j
  | none => n = 0 ∧ k = 0) : InR n := by
  cases hr : readI l with
  | none => rw [hr] at hI; obtain ⟨rfl, _⟩ := hI; unfold InR; omega
  | some p =>
    obtain ⟨a, j⟩ := p
    rw [hr] at hI
    have := (readI_some hr).1
    obtain ⟨rfl, _⟩ := hI
    exact this
theorem ListR.k_le {most : Int} {l : List UInt8} {ss : List (List UInt8)} {k : Nat} (hI : ListR most l ss k) : k ≤ l.length := by
  unfold ListR at hI
  cases hr : readL most l with
  | none => rw [hr] at hI; obtain ⟨_, rfl⟩ := hI; omega
  | some p =>
    obtain ⟨a, j⟩ := p
    rw [hr] at hI
    have := readL_pos hr
    obtain ⟨_, rfl⟩ := hI
    omega

set_option maxHeartbeats 400000 in
theorem refInt_any (hR : RRdr w g A m c bs at_ f) :
    Calls Try.prog 27 #[.pointer (some ⟨g, 0, none⟩)] w fun e w' => e = .returned (.int .i64 (stepI bs at_ f).1) ∧ RRdr w' g A m c bs (stepI bs at_ f).2.1 (stepI bs at_ f).2.2 ∧ w.grownBy w' (some g) := by
  have hl := hR.rd.len
  have hal := hR.at_le
  have hrl := rest_le (f := f) (bs := bs) (at_ := at_) (by omega)
  have HL := Lib.hid hl; have HRL := Lib.hid hrl; clear hl hrl
  go_enter Try.func27, Try.ntmps27
  go_wp2_with (first
    | (go_at_call 38; refine Hid.out ?_))
  refine Hid.mk_ ((rest_any hR).mono ?_)
  rintro e w1 ⟨A1, m1, c1, rfl, hs1, hc1, _, hE1⟩
  go_wp2_with (first
    | (go_at_call 37; refine Hid.out ?_))
  refine Hid.mk_ ((refReadInt c1 hs1 hc1).mono ?_)
  rintro e w2 ⟨hE2, n, k, rfl, hI⟩
  have hE02 := hE1.trans hE2
  have hST := stepI_ref hI
  have hk := readI_k hI
  have HI := Lib.hid hI; have HST := Lib.hid hST
  clear hI hST
  go_wp2_with (first
    | (go_at_call 39; refine Hid.out ?_))
  refine Hid.mk_ ((refMove k (hR.ext hE02) (by have h1 := HRL.out; have h2 := HL.out; omega)).mono ?_)
  rintro e w3 ⟨rfl, hR3, hg3⟩
  go_wp2
  go_ret
  rw [HST.out]
  exact ⟨rfl, hR3, (hE02.grownBy _).trans hg3⟩

set_option maxHeartbeats 400000 in
theorem refBounded_any (least most : Int) (hR : RRdr w g A m c bs at_ f) :
    Calls Try.prog 28 #[.pointer (some ⟨g, 0, none⟩), .int .i64 least, .int .i64 most] w fun e w' => e = .returned (.int .i64 (stepB least most bs at_ f).1) ∧ RRdr w' g A m c bs (stepB least most bs at_ f).2.1 (stepB least most bs at_ f).2.2 ∧ w.grownBy w' (some g) := by
  have hl := hR.rd.len
  have hal := hR.at_le
  have hrl := rest_le (f := f) (bs := bs) (at_ := at_) (by omega)
  have HL := Lib.hid hl; have HRL := Lib.hid hrl; clear hl hrl
  go_enter Try.func28, Try.ntmps28
  go_wp2_with (first
    | (go_at_call 38; refine Hid.out ?_))
  refine Hid.mk_ ((rest_any hR).mono ?_)
  rintro e w1 ⟨A1, m1, c1, rfl, hs1, hc1, _, hE1⟩
  go_wp2_with (first
    | (go_at_call 37; refine Hid.out ?_))
  refine Hid.mk_ ((refReadInt c1 hs1 hc1).mono ?_)
  rintro e w2 ⟨hE2, n, k, rfl, hI⟩
  have hE02 := hE1.trans hE2
  have hST := stepB_ref (least := least) (most := most) hI
  have hk := readI_k hI
  have HI := Lib.hid hI
  clear hI
  by_cases hc : n < least ∨ most < n
  · rw [if_pos hc] at hST
    have HST := Lib.hid hST
    clear hST
    by_cases hc1 : n < least
    · clear hc
      go_wp2_with (first
        | (go_at_call 39; refine Hid.out ?_))
      refine Hid.mk_ ((refMove 0 (hR.ext hE02) (by have h1 := HRL.out; have h2 := HL.out; omega)).mono ?_)
      rintro e w3 ⟨rfl, hR3, hg3⟩
      go_wp2
      go_ret
      rw [HST.out]
      exact ⟨rfl, hR3, (hE02.grownBy _).trans hg3⟩
    · have hc2 : most < n := by omega
      clear hc
      go_wp2_with (first
        | (go_at_call 39; refine Hid.out ?_))
      refine Hid.mk_ ((refMove 0 (hR.ext hE02) (by have h1 := HRL.out; have h2 := HL.out; omega)).mono ?_)
      rintro e w3 ⟨rfl, hR3, hg3⟩
      go_wp2
      go_ret
      rw [HST.out]
      exact ⟨rfl, hR3, (hE02.grownBy _).trans hg3⟩
  · rw [if_neg hc] at hST
    have HST := Lib.hid hST
    clear hST
    have hc1 : ¬ n < least := fun hh => hc (.inl hh)
    have hc2 : ¬ most < n := fun hh => hc (.inr hh)
    clear hc
    go_wp2_with (first
      | (go_at_call 39; refine Hid.out ?_))
    refine Hid.mk_ ((refMove k (hR.ext hE02) (by have h1 := HRL.out; have h2 := HL.out; omega)).mono ?_)
    rintro e w3 ⟨rfl, hR3, hg3⟩
    go_wp2
    go_ret
    rw [HST.out]
    exact ⟨rfl, hR3, (hE02.grownBy _).trans hg3⟩

set_option maxHeartbeats 400000 in
theorem refString_any (hR : RRdr w g A m c bs at_ f) :
    Calls Try.prog 29 #[.pointer (some ⟨g, 0, none⟩)] w fun e w' => e = .returned (.string (str (stepS bs at_ f).1)) ∧ RRdr w' g A m c bs (stepS bs at_ f).2.1 (stepS bs at_ f).2.2 ∧ w.grownBy w' (some g) := by
  have hl := hR.rd.len
  have hal := hR.at_le
  have hrl := rest_le (f := f) (bs := bs) (at_ := at_) (by omega)
  have HL := Lib.hid hl; have HRL := Lib.hid hrl; clear hl hrl
  go_enter Try.func29, Try.ntmps29
  go_wp2_with (first
    | (go_at_call 38; refine Hid.out ?_))
  refine Hid.mk_ ((rest_any hR).mono ?_)
  rintro e w1 ⟨A1, m1, c1, rfl, hs1, hc1, _, hE1⟩
  go_wp2_with (first
    | (go_at_call 40; refine Hid.out ?_))
  refine Hid.mk_ ((refReadStr c1 hs1 hc1).mono ?_)
  rintro e w2 ⟨hE2, n, k, rfl, hI⟩
  have hE02 := hE1.trans hE2
  have hST := stepS_ref hI
  have hk := (RetRS.k0 hI).2
  have HI := Lib.hid hI; have HST := Lib.hid hST
  clear hI hST
  go_wp2_with (first
    | (go_at_call 39; refine Hid.out ?_))
  refine Hid.mk_ ((refMove k (hR.ext hE02) (by have h1 := HRL.out; have h2 := HL.out; omega)).mono ?_)
  rintro e w3 ⟨rfl, hR3, hg3⟩
  go_wp2
  go_ret
  rw [HST.out]
  exact ⟨rfl, hR3, (hE02.grownBy _).trans hg3⟩

set_option maxHeartbeats 400000 in
theorem refStrings_any (most : Int) (hR : RRdr w g A m c bs at_ f) (hm : m ≤ 8796093000000) :
    Calls Try.prog 30 #[.pointer (some ⟨g, 0, none⟩), .int .i64 most] w fun e w' => ∃ A' m' c', e = .returned (.slice A' m' c') ∧ OsS w' w.heap.size A' m' c' ((stepL most bs at_ f).1.map str) ∧ RRdr w' g A m c bs (stepL most bs at_ f).2.1 (stepL most bs at_ f).2.2 ∧ w.grownBy w' (some g) := by
  have hl := hR.rd.len
  have hal := hR.at_le
  have hrl := rest_le (f := f) (bs := bs) (at_ := at_) (by omega)
  have HL := Lib.hid hl; have HRL := Lib.hid hrl; clear hl hrl
  go_enter Try.func30, Try.ntmps30
  go_wp2_with (first
    | (go_at_call 38; refine Hid.out ?_))
  refine Hid.mk_ ((rest_any hR).mono ?_)
  rintro e w1 ⟨A1, m1, c1, rfl, hs1, hc1, hm1, hE1⟩
  go_wp2_with (first
    | (go_at_call 41; refine Hid.out ?_))
  refine Hid.mk_ ((refReadStrs c1 most hs1 hc1 (by omega)).mono ?_)
  rintro e w2 ⟨A2, m2, c2, ss, k, rfl, ho2, hI, hE2⟩
  have hE02 := hE1.trans hE2
  have hST := stepL_ref hI
  have hk := hI.k_le
  have HI := Lib.hid hI; have HST := Lib.hid hST
  clear hI hST
  go_wp2_with (first
    | (go_at_call 39; refine Hid.out ?_))
  refine Hid.mk_ ((refMove k (hR.ext hE02) (by have h1 := HRL.out; have h2 := HL.out; omega)).mono ?_)
  rintro e w3 ⟨rfl, hR3, hg3⟩
  go_wp2
  go_ret
  rw [HST.out]
  have hlt := hR.blk.lt
  have hs1 := hE1.size_le
  exact ⟨A2, m2, c2, rfl, (ho2.kept hg3 (ne_of_lt (B := w1.heap.size) ho2.ge (by intro k hk; injection hk with hk; omega))).mono hs1, hR3, (hE02.grownBy _).trans hg3⟩

end

end Go.Proofs.Ythkdnioljajcoaa
