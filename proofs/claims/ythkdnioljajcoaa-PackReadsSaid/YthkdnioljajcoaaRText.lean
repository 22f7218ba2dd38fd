/- Int, Bounded, text, String, Strings of a reader. -/
import Derived.Test.YthkdnioljajcoaaInteger
namespace Go.Proofs.Ythkdnioljajcoaa
open Go.RowKit

/-- What a step of a reader returns, and its offset and failure afterwards. -/
def stepI (bs : List UInt8) (a : Nat) (f : Bool) : Int × Nat × Bool :=
  if f = true then (0, a, true) else match readI (bs.drop a) with
    | some (n, k) => (n, a + k, false)
    | none => (0, a, true)
def stepB (least most : Int) (bs : List UInt8) (a : Nat) (f : Bool) : Int × Nat × Bool :=
  if f = true then (0, a, true) else match readI (bs.drop a) with
    | some (n, k) => if least ≤ n ∧ n ≤ most then (n, a + k, false) else (0, a, true)
    | none => (0, a, true)
def stepS (bs : List UInt8) (a : Nat) (f : Bool) : List UInt8 × Nat × Bool :=
  if f = true then ([], a, true) else match readS (bs.drop a) with
    | some (s, k) => (s, a + k, false)
    | none => ([], a, true)
def stepL (most : Int) (bs : List UInt8) (a : Nat) (f : Bool) : List (List UInt8) × Nat × Bool :=
  if f = true then ([], a, true) else match readL most (bs.drop a) with
    | some (l, k) => (l, a + k, false)
    | none => ([], a, true)

section
variable {w : World} {g : Nat} {A : Option Addr} {m c : Nat} {bs : List UInt8} {at_ : Nat} {f : Bool}
theorem IntR.le {i : Nat} {n : Int} {next : Nat} {ok : Bool} (h : IntR bs i n next ok) (hi : i ≤ bs.length) : next ≤ bs.length ∧ i ≤ next := by
  unfold IntR at h
  cases hr : readI (bs.drop i) with
  | none => rw [hr] at h; obtain ⟨_, _, rfl⟩ := h; exact ⟨hi, Nat.le_refl _⟩
  | some p =>
    obtain ⟨a, k⟩ := p
    rw [hr] at h
    obtain ⟨_, _, rfl⟩ := h
    have := readI_len hr
    rw [List.length_drop] at this
    omega
theorem IntR.range {i : Nat} {n : Int} {next : Nat} {ok : Bool} (h : IntR bs i n next ok) : -9223372036854775808 ≤ n ∧ n ≤ 9223372036854775807 := by
  unfold IntR at h
  cases hr : readI (bs.drop i) with
  | none => rw [hr] at h; omega
  | some p =>
    obtain ⟨a, k⟩ := p
    rw [hr] at h
    obtain ⟨_, rfl, _⟩ := h
    exact (readI_some hr).1

set_option maxHeartbeats 400000 in
theorem rInt (hR : Rdr w g A m c bs at_ f) :
    Calls Try.prog 24 #[.pointer (some ⟨g, 0, none⟩)] w fun e w' => e = .returned (.int .i64 (stepI bs at_ f).1) ∧ Rdr w' g A m c bs (stepI bs at_ f).2.1 (stepI bs at_ f).2.2 ∧ w.grownBy w' (some g) := by
  have c1 := hR.c1
  have c2 := hR.c2
  cases f
  · go_enter Try.func24, Try.ntmps24
    go_wp2_with (first
      | (go_at_call 34; refine (integer_any _ hR.at_le hR).mono ?_; rintro e w' ⟨rfl, n, next, ok, rfl, hI⟩)
      | (go_at_call 35; refine (move_any _ _ hR (by rw [hR.rd.len]; exact (hI.le (by rw [← hR.rd.len]; exact hR.at_le)).1)).mono ?_; rintro e w2 ⟨rfl, hR2, hg2⟩))
    go_ret
    have e1 : stepI bs at_ false = (n, (if ok then next else at_), (if ok then false else true)) := by
      unfold IntR at hI
      unfold stepI
      cases hr : readI (bs.drop at_) with
      | none => rw [hr] at hI; obtain ⟨rfl, rfl, rfl⟩ := hI; rfl
      | some p => rw [hr] at hI; obtain ⟨rfl, rfl, rfl⟩ := hI; rfl
    rw [e1]
    exact ⟨rfl, hR2, hg2⟩
  · go_enter Try.func24, Try.ntmps24
    go_wp2
    go_ret
    exact ⟨rfl, hR, (Ext.refl w).grownBy _⟩

set_option maxHeartbeats 400000 in
theorem rBounded (least most : Int) (hR : Rdr w g A m c bs at_ f) :
    Calls Try.prog 20 #[.pointer (some ⟨g, 0, none⟩), .int .i64 least, .int .i64 most] w fun e w' => e = .returned (.int .i64 (stepB least most bs at_ f).1) ∧ Rdr w' g A m c bs (stepB least most bs at_ f).2.1 (stepB least most bs at_ f).2.2 ∧ w.grownBy w' (some g) := by
  have c1 := hR.c1
  have c2 := hR.c2
  cases f
  · go_enter Try.func20, Try.ntmps20
    go_wp2_with (first
      | (go_at_call 34; refine (integer_any _ hR.at_le hR).mono ?_; rintro e w' ⟨rfl, n, next, ok, rfl, hI⟩)
      | (go_at_call 35; refine Hid.out ?_))
    all_goals
      refine Hid.mk_ ((move_any _ _ hR (by rw [hR.rd.len]; exact (hI.le (by rw [← hR.rd.len]; exact hR.at_le)).1)).mono ?_)
      rintro e w2 ⟨rfl, hR2, hg2⟩
      have HI := Lib.hid hI; clear hI
      have HR2 := Lib.hid hR2; clear hR2
      go_wp2
    all_goals
      go_ret
      have hI := HI.out
      have hR2 := HR2.out
      have e1 : stepB least most bs at_ false = (if ok = true ∧ least ≤ n ∧ n ≤ most then (n, next, false) else (0, at_, true)) := by
        unfold IntR at hI
        unfold stepB
        cases hr : readI (bs.drop at_) with
        | none => rw [hr] at hI; obtain ⟨rfl, rfl, rfl⟩ := hI; simp
        | some p => rw [hr] at hI; obtain ⟨rfl, rfl, rfl⟩ := hI; simp
      rw [e1]
      clear HI HR2 hI c1 c2 hR e1
      first
        | (rename_i a1 a2 a3; have h3 : n ≤ most := (by simpa using a3); rw [if_pos ⟨a1, a2, h3⟩]; exact ⟨rfl, by simpa [h3] using hR2, hg2⟩)
        | (rename_i a1 a2 a3; have h3 : ¬ n ≤ most := (by simpa using a3); rw [if_neg (by omega)]; exact ⟨rfl, by simpa [h3] using hR2, hg2⟩)
        | (rename_i a1 a2; rw [if_neg (by omega)]; exact ⟨rfl, by simpa using hR2, hg2⟩)
        | (have a1 : ¬ ok = true := by assumption
           rw [if_neg (fun hh => a1 hh.1)]; exact ⟨rfl, by simpa using hR2, hg2⟩)
  · go_enter Try.func20, Try.ntmps20
    go_wp2
    go_ret
    exact ⟨rfl, hR, (Ext.refl w).grownBy _⟩

/-- What 'text' returns at an offset. -/
def TextR (bs : List UInt8) (i : Nat) (s : List UInt8) (next : Nat) (ok : Bool) : Prop :=
  match readS (bs.drop i) with
  | some (t, k) => ok = true ∧ s = t ∧ next = i + k
  | none => ok = false ∧ s = [] ∧ next = i
def RetT (bs : List UInt8) (i : Nat) (e : Ending) : Prop := ∃ (s : List UInt8) (next : Nat) (ok : Bool), e = .returned (.tuple #[.string (str s), .int .i64 next, .bool ok]) ∧ TextR bs i s next ok
theorem TextR.none_ {bs : List UInt8} {i : Nat} (h : readS (bs.drop i) = none) : RetT bs i (.returned (.tuple #[.string ⟨#[]⟩, .int .i64 i, .bool false])) :=
  ⟨[], i, false, rfl, by unfold TextR; rw [h]; exact ⟨rfl, rfl, rfl⟩⟩
theorem TextR.some_ {bs : List UInt8} {i : Nat} {s : List UInt8} {k : Nat} (h : readS (bs.drop i) = some (s, k)) {b : Int} (hb : b = (i : Int) + k) : RetT bs i (.returned (.tuple #[.string (str s), .int .i64 b, .bool true])) :=
  ⟨s, i + k, true, by rw [hb]; rfl, by unfold TextR; rw [h]; exact ⟨rfl, rfl, rfl⟩⟩
theorem TextR.le {i : Nat} {s : List UInt8} {next : Nat} {ok : Bool} (h : TextR bs i s next ok) (hi : i ≤ bs.length) : next ≤ bs.length ∧ i ≤ next := by
  unfold TextR at h
  cases hr : readS (bs.drop i) with
  | none => rw [hr] at h; obtain ⟨_, _, rfl⟩ := h; exact ⟨hi, Nat.le_refl _⟩
  | some p =>
    obtain ⟨a, k⟩ := p
    rw [hr] at h
    obtain ⟨_, _, rfl⟩ := h
    have := (readS_some hr).2.2.1
    rw [List.length_drop] at this
    omega

set_option maxHeartbeats 800000 in
theorem text_any (i : Nat) (hi : i ≤ m) (hR : Rdr w g A m c bs at_ f) :
    Calls Try.prog 36 #[.pointer (some ⟨g, 0, none⟩), .int .i64 i] w fun e w' => w = w' ∧ RetT bs i e := by
  have c0 := hR.c0
  have hle := hR.rd.le
  have HL := Lib.hid hR.rd.len
  go_enter Try.func36, Try.ntmps36
  go_wp2_with (first
    | (go_at_call 34; refine Hid.out ?_))
  refine Hid.mk_ ((integer_any _ hi hR).mono ?_)
  rintro e w' ⟨rfl, n, next, ok, rfl, hI⟩
  have hnx := hI.le (by rw [← HL.out]; exact hi)
  rw [← HL.out] at hnx
  obtain ⟨hn1, hn2⟩ := hnx
  have hrg := hI.range
  cases hr : readI (bs.drop i) with
  | none =>
    unfold IntR at hI
    rw [hr] at hI
    obtain ⟨rfl, rfl, rfl⟩ := hI
    have hfin : readS (bs.drop next) = none := by unfold readS; rw [hr]
    have HF := Lib.hid hfin; clear hfin hr
    go_wp2
    go_ret3
    exact ⟨rfl, TextR.none_ HF.out⟩
  | some p =>
    obtain ⟨a, k⟩ := p
    unfold IntR at hI
    rw [hr] at hI
    obtain ⟨rfl, rfl, rfl⟩ := hI
    have hrl := readI_len hr
    have hfin : readS (bs.drop i) = if 0 ≤ n ∧ n ≤ ((bs.drop i).length : Int) - k then some (((bs.drop i).drop k).take n.toNat, k + n.toNat) else none := by unfold readS; rw [hr]
    have hdl : (bs.drop i).length = m - i := by rw [List.length_drop, ← HL.out]
    rw [hdl] at hfin hrl
    have HF := Lib.hid hfin; clear hfin hr hdl
    by_cases hc : 0 ≤ n ∧ n ≤ ((m - i : Nat) : Int) - k
    · obtain ⟨q, rfl⟩ := Int.eq_ofNat_of_zero_le hc.1
      have hq : i + k + q ≤ m := by omega
      obtain ⟨A2, hr1, _, _, hs2, _⟩ := cut_run hR.rd (i := i + k) (j := i + k + q) (by omega) (by omega) hR.cap
      have hsl := fun W => (hr1 W .i64 .i64 ((i : Int) + (k : Int)) ((i : Int) + (k : Int) + (q : Int)) (by omega) (by omega)).1
      have hsl' := fun W => (hr1 W .i64 .i64 ((i : Int) + (k : Int)) ((i : Int) + (k : Int) + (q : Int)) (by omega) (by omega)).2
      have hcv := conv_str hs2 (c - (i + k))
      have hseg : (bs.take (i + k + q)).drop (i + k) = ((bs.drop i).drop k).take q := by
        rw [List.drop_drop, ← List.take_drop]
      rw [hseg] at hcv
      rw [show i + k + q - (i + k) = q by omega] at hsl hsl' hcv
      obtain ⟨sg, hsg⟩ : ∃ sg, sg = ((bs.drop i).drop k).take q := ⟨_, rfl⟩
      rw [← hsg] at hcv
      have hfin : readS (bs.drop i) = some (sg, k + q) := by
        rw [HF.out, if_pos hc, hsg]; rfl
      have HFI := Lib.hid hfin
      clear hfin hsg hseg hr1 hs2 HF
      go_wp2
      go_ret3
      exact ⟨rfl, TextR.some_ HFI.out (by omega)⟩
    · have hfin : readS (bs.drop i) = none := by rw [HF.out, if_neg hc]
      have HFI := Lib.hid hfin
      clear hfin HF
      by_cases h0 : n < 0
      · go_wp2
        go_ret3
        exact ⟨rfl, TextR.none_ HFI.out⟩
      · have h1 : (m : Int) - ((i : Int) + (k : Int)) < n := by omega
        go_wp2
        go_ret3
        exact ⟨rfl, TextR.none_ HFI.out⟩
end
end Go.Proofs.Ythkdnioljajcoaa
