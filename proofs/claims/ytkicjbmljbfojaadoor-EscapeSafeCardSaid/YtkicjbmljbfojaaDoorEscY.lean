/- encoded of package escape, by utf8.Encode at one number. -/
import Derived.Test.YtkicjbmljbfojaaDoorEscX
import Derived.Shelf.Strings.BuilderF
namespace Go.Proofs.YtkicjbmljbfojaaDoor
open Go.RowKit Go.Shelf
set_option maxRecDepth 100000

attribute [local go_sem] ext_refl_t ext_alloc_t ext_drew_t ext_drewN_t ext_alloc2_t ext_alloc3_t ext_alloc4_t ext_alloc5_t ext_alloc6_t ext_alloc7_t ext_alloc8_t ext_alloc1d_t ext_alloc2d_t ext_alloc3d_t ext_alloc4d_t
theorem by_nat (b : Nat) (h : b < 256) : bv (by_ b) = .int .u8 (b : Int) := by unfold bv by_; rw [UInt8.toNat_ofNat', Nat.mod_eq_of_lt h]
/-- The cells of a code point's encoding. -/
theorem runeCells_enc (n : Nat) (h : isPt n = true) : Lib.runeCells (n : Int) = (encOne n).map bv := by
  have h := of_decide_eq_true h
  unfold Lib.runeCells encOne
  by_cases h1 : n < 128
  · rw [Lib.encodeRuneZ_one (by omega) (by omega), if_pos h1, List.map_cons, List.map_nil, List.map_cons, List.map_nil, by_nat _ (by omega)]
  · rw [if_neg h1]
    by_cases h2 : n < 2048
    · rw [Lib.encodeRuneZ_two (by omega) (by omega), if_pos h2]
      simp only [List.map_cons, List.map_nil]
      rw [by_nat _ (by omega), by_nat _ (by omega)]
      push_cast
      rfl
    · rw [if_neg h2]
      by_cases h3 : n < 65536
      · rw [Lib.encodeRuneZ_three (by omega), if_pos h3]
        simp only [List.map_cons, List.map_nil]
        rw [by_nat _ (by omega), by_nat _ (by omega), by_nat _ (by omega), show ((224 + n / 4096 : Nat) : Int) = 224 + (n : Int) / 4096 by omega, show ((128 + n / 64 % 64 : Nat) : Int) = 128 + (n : Int) / 64 % 64 by omega, show ((128 + n % 64 : Nat) : Int) = 128 + (n : Int) % 64 by omega]
      · rw [Lib.encodeRuneZ_four (by omega) (by omega), if_neg h3]
        simp only [List.map_cons, List.map_nil]
        rw [by_nat _ (by omega), by_nat _ (by omega), by_nat _ (by omega), by_nat _ (by omega), show ((240 + n / 262144 : Nat) : Int) = 240 + (n : Int) / 262144 by omega, show ((128 + n / 4096 % 64 : Nat) : Int) = 128 + (n : Int) / 4096 % 64 by omega, show ((128 + n / 64 % 64 : Nat) : Int) = 128 + (n : Int) / 64 % 64 by omega, show ((128 + n % 64 : Nat) : Int) = 128 + (n : Int) % 64 by omega]
theorem encOne_len (n : Nat) : (encOne n).length ≤ 4 := by
  unfold encOne
  repeat' split
  all_goals simp
/-- The builder in block b holds l, read or not. -/
def BldF (w : World) (B b : Nat) (l : List UInt8) : Prop := Lib.IsBuilderF 36 5 B b (l.map bv) w
section
variable {w w' : World} {B b : Nat} {l : List UInt8}
theorem bldAtF_ext {p : Value} {bs : List Value} (h : Lib.BuilderAtF 36 5 B b p bs w) (hE : Ext w w') : Lib.BuilderAtF 36 5 B b p bs w' := by
  obtain ⟨hB, v, hb, ho, hn⟩ := h
  have hlt : b < w.heap.size := by
    rcases Nat.lt_or_ge b w.heap.size with h' | h'
    · exact h'
    · rw [Array.getElem?_eq_none h'] at hb; cases hb
  refine ⟨hB, v, (hE.block b hlt).trans hb, World.ownsRowF.kept ho (hE.grownBy none) ?_, hn⟩
  cases hv : v.ownBlock <;> simp
theorem BldF.ext (h : BldF w B b l) (hE : Ext w w') : BldF w' B b l := by
  rcases h with h | h
  · exact .inl (bldAtF_ext h hE)
  · exact .inr (bldAtF_ext h hE)
theorem Bld.f (h : Bld w B b l) : BldF w B b l := Lib.IsBuilderF.of h
theorem wrune_any (n : Nat) (hn : isPt n = true) (h : BldF w B b l) (hl : l.length + 4 ≤ 140737488355328) (hB : B ≤ w.heap.size) :
    Calls Tryd.prog 60 #[.pointer (some ⟨b, 0, none⟩), .int .i32 (n : Int)] w fun e w' => (∃ k : Nat, e = .returned (.tuple #[.int .i64 (k : Int), .nilIface])) ∧ BldF w' B b (l ++ encOne n) ∧ Below B w w' := by
  have hn2 := of_decide_eq_true hn
  have h1 := Any.Builder_WriteRune_k Tryd.laysWR extraB B b (l.map bv) (n : Int) (by omega) (by omega) w h (by simpa using hl) hB
  change Calls Tryd.prog 60 _ _ _ at h1
  refine h1.mono ?_
  rintro e w' ⟨he, h2, h3, _⟩
  refine ⟨⟨_, he⟩, .inr ?_, h3⟩
  rw [List.map_append, ← runeCells_enc n hn]
  exact h2
theorem bstrF_any (h : BldF w B b l) (hB : B ≤ w.heap.size) :
    Calls Tryd.prog 23 #[.pointer (some ⟨b, 0, none⟩)] w fun e w' => e = .returned (.string (str l)) ∧ Below B w w' := by
  have h1 := Any.Builder_String_any_f Tryd.laysBS extraB B b l w h hB
  change Calls Tryd.prog 23 _ _ _ at h1
  exact h1.mono fun _ _ ⟨he, _, hb⟩ => ⟨he, hb⟩
theorem isPt_cases (n : Nat) : (n < 55296 ∧ isPt n = true) ∨ (57343 < n ∧ n ≤ 1114111 ∧ isPt n = true) ∨ (55296 ≤ n ∧ n ≤ 57343 ∧ isPt n = false) ∨ (1114111 < n ∧ isPt n = false) := by
  unfold isPt
  simp only [decide_eq_true_eq, decide_eq_false_iff_not]
  omega
theorem point_any (n : Nat) : Calls Tryd.prog 59 #[.int .i64 (n : Int)] w fun e w' => e = .returned (.bool (isPt n)) ∧ w' = w := by
  have h0 : (0 : Int) ≤ (n : Int) := by omega
  rcases isPt_cases n with ⟨a, h⟩ | ⟨a, b, h⟩ | ⟨a, b, h⟩ | ⟨a, h⟩
  · have t1 : (n : Int) ≤ 1114111 := by omega
    have t2 : (n : Int) < 55296 := by omega
    rw [h]
    go_enter Tryd.func59, Tryd.ntmps59
    go_wp2
    go_ret
    exact ⟨rfl, rfl⟩
  · have t1 : (n : Int) ≤ 1114111 := by omega
    have t2 : ¬ (n : Int) < 55296 := by omega
    have t3 : (57343 : Int) < (n : Int) := by omega
    rw [h]
    go_enter Tryd.func59, Tryd.ntmps59
    go_wp2
    go_ret
    exact ⟨rfl, rfl⟩
  · have t1 : (n : Int) ≤ 1114111 := by omega
    have t2 : ¬ (n : Int) < 55296 := by omega
    have t3 : ¬ (57343 : Int) < (n : Int) := by omega
    rw [h]
    go_enter Tryd.func59, Tryd.ntmps59
    go_wp2
    go_ret
    exact ⟨rfl, rfl⟩
  · have t1 : ¬ (n : Int) ≤ 1114111 := by omega
    rw [h]
    go_enter Tryd.func59, Tryd.ntmps59
    go_wp2
    go_ret
    exact ⟨rfl, rfl⟩
/-- What is encoded in place of a number. -/
def ptOr (n : Nat) : Nat := if isPt n then n else 65533
theorem ptOr_pt (n : Nat) : isPt (ptOr n) = true := by
  unfold ptOr
  split
  · assumption
  · rfl
set_option maxHeartbeats 3200000 in
theorem enc1_any (g n : Nat) (hn : n < 2147483648) (hc : w.cell? ⟨g, 0, none⟩ = some (.int .i64 (n : Int))) :
    Calls Tryd.prog 50 #[.slice (some ⟨g, 0, none⟩) 1 1] w fun e w' => e = .returned (.string (str (encOne (ptOr n)))) ∧ Ext w w' := by
  have L := laters hc
  go_enter Tryd.func50, Tryd.ntmps50
  go_wp2
  go_loopw [8] (fun i wr => ∃ k : Nat, k ≤ 1 ∧ i = .int .i64 k ∧ BldF wr w.heap.size w.heap.size (if k = 0 then [] else encOne (ptOr n)) ∧ Ext w wr) (fun i _ => 1 - (intOf i).toNat)
  case atStart => exact ⟨0, Nat.zero_le _, rfl, (Bld.new _).f, (Ext.refl _).alloc _⟩
  case round =>
    obtain ⟨k, hk, rfl, hB, hE⟩ := hrel
    have hc1 := L _ hE
    by_cases hk0 : k = 0
    · subst hk0
      rw [if_pos rfl] at hB
      cases hp : isPt n with
      | true =>
        have hpo : ptOr n = n := by unfold ptOr; rw [hp]; rfl
        have HP := Lib.hid hp
        have HO := Lib.hid hpo
        clear hp hpo
        go_wp2_with (first
          | (go_at_call 59; refine Hid.out ?_))
        refine Hid.mk_ ((point_any n).mono ?_)
        rintro e w1 ⟨rfl, rfl⟩
        rw [HP.out]
        go_wp2_with (first
          | (go_at_call 60; refine Hid.out ?_))
        refine Hid.mk_ ((wrune_any n HP.out hB (by simp) hE.size_le).mono ?_)
        rintro e w2 ⟨⟨q, rfl⟩, hB2, hE2⟩
        have hE3 := hE.trans' hE2
        go_wp2
        go_roundw
        case rel => exact ⟨1, by omega, rfl, by rw [if_neg (by omega), HO.out]; exact hB2, hE3⟩
        case measure => simp [intOf]
      | false =>
        have hpo : ptOr n = 65533 := by unfold ptOr; rw [hp]; rfl
        have HP := Lib.hid hp
        have HO := Lib.hid hpo
        clear hp hpo
        go_wp2_with (first
          | (go_at_call 59; refine Hid.out ?_))
        refine Hid.mk_ ((point_any n).mono ?_)
        rintro e w1 ⟨rfl, rfl⟩
        rw [HP.out]
        go_wp2_with (first
          | (go_at_call 60; refine Hid.out ?_))
        refine Hid.mk_ ((wrune_any 65533 rfl hB (by simp) hE.size_le).mono ?_)
        rintro e w2 ⟨⟨q, rfl⟩, hB2, hE2⟩
        have hE3 := hE.trans' hE2
        go_wp2
        go_roundw
        case rel => exact ⟨1, by omega, rfl, by rw [if_neg (by omega), HO.out]; exact hB2, hE3⟩
        case measure => simp [intOf]
    · obtain rfl : k = 1 := by omega
      rw [if_neg hk0] at hB
      clear hk0
      go_wp2_with (first
        | (go_at_call 23; refine Hid.out ?_))
      refine Hid.mk_ ((bstrF_any hB hE.size_le).mono ?_)
      rintro e w2 ⟨rfl, hE2⟩
      go_wp2
      go_ret
      exact ⟨rfl, hE.trans' hE2⟩
/-- encoded: of a number that is not negative. -/
theorem encoded_any (n : Nat) (hn : n < 2147483648) : Calls Tryd.prog 39 #[.int .i64 (n : Int)] w fun e w' => e = .returned (.tuple #[.string (str (encOne (ptOr n))), .bool (isPt n)]) ∧ Ext w w' := by
  rcases isPt_cases n with ⟨a, h⟩ | ⟨a, b, h⟩ | ⟨a, b, h⟩ | ⟨a, h⟩
  · have t1 : (n : Int) ≤ 1114111 := by omega
    have t2 : (n : Int) < 55296 := by omega
    rw [h]
    clear h
    go_enter Tryd.func39, Tryd.ntmps39
    go_wp2_with (first
      | (go_at_call 50; refine Hid.out ?_))
    refine Hid.mk_ ((enc1_any _ n hn (by simp)).mono ?_)
    rintro e w1 ⟨rfl, hE1⟩
    go_wp2
    go_ret2
    exact ⟨rfl, ((Ext.refl _).alloc _).trans hE1⟩
  · have t1 : (n : Int) ≤ 1114111 := by omega
    have t2 : ¬ (n : Int) < 55296 := by omega
    have t3 : (57343 : Int) < (n : Int) := by omega
    rw [h]
    clear h
    go_enter Tryd.func39, Tryd.ntmps39
    go_wp2_with (first
      | (go_at_call 50; refine Hid.out ?_))
    refine Hid.mk_ ((enc1_any _ n hn (by simp)).mono ?_)
    rintro e w1 ⟨rfl, hE1⟩
    go_wp2
    go_ret2
    exact ⟨rfl, ((Ext.refl _).alloc _).trans hE1⟩
  · have t1 : (n : Int) ≤ 1114111 := by omega
    have t2 : ¬ (n : Int) < 55296 := by omega
    have t3 : ¬ (57343 : Int) < (n : Int) := by omega
    rw [h]
    clear h
    go_enter Tryd.func39, Tryd.ntmps39
    go_wp2_with (first
      | (go_at_call 50; refine Hid.out ?_))
    refine Hid.mk_ ((enc1_any _ n hn (by simp)).mono ?_)
    rintro e w1 ⟨rfl, hE1⟩
    go_wp2
    go_ret2
    exact ⟨rfl, ((Ext.refl _).alloc _).trans hE1⟩
  · have t1 : ¬ (n : Int) ≤ 1114111 := by omega
    rw [h]
    clear h
    go_enter Tryd.func39, Tryd.ntmps39
    go_wp2_with (first
      | (go_at_call 50; refine Hid.out ?_))
    refine Hid.mk_ ((enc1_any _ n hn (by simp)).mono ?_)
    rintro e w1 ⟨rfl, hE1⟩
    go_wp2
    go_ret2
    exact ⟨rfl, ((Ext.refl _).alloc _).trans hE1⟩
end

end Go.Proofs.YtkicjbmljbfojaaDoor
