/- slices.Delete of one entry. -/
import Derived.Test.YtikbjaopcminaaaDoorRow2
import Derived.Test.YtikbjaopcminaaaDoorQTail
import Derived.Test.YtikbjaopcminaaaDoorCatE
namespace Go.Proofs.YtikbjaopcminaaaDoor
open Go.RowKit
set_option maxRecDepth 100000

section
variable {w : World}
set_option maxHeartbeats 3200000 in
theorem deleteE_any {base : Nat} {A : Option Addr} {m c : Nat} {l : List _} (hown : OsC entC 30 7 w base A m c l) (i : Nat) (hi : i < m) :
    Calls Tryd.prog 64 #[.slice A m c, .int .i64 i, .int .i64 ((i : Int) + 1)] w fun e w' => e = .returned (.slice A (m - 1) c) ∧ OsC entC 30 7 w' base A (m - 1) c (l.take i ++ l.drop (i + 1)) ∧ w.grownBy w' (ob A) := by
  obtain ⟨g, cur, hA, hg, _, hmc, hcm, _, _⟩ := hown.row (by omega)
  have hle := hown.le
  have hlen := Lib.hid hown.len
  subst hA
  have hcm' : c ≤ 9223372036854775807 := by simpa [maxLen] using hcm
  have i0 : ¬ ((i : Int) = (i : Int) + 1) := by omega
  have i0b : ((i : Int) == (i : Int) + 1) = false := by rw [beq_eq_false_iff_ne]; omega
  have i1 : (i : Int) ≤ (m : Int) := by omega
  have i2 : (i : Int) + 1 ≤ (m : Int) := by omega
  have i3 : (m : Int) ≤ (c : Int) := by omega
  have i4 : (i : Int) ≤ (c : Int) := by omega
  have i5 : (i : Int) + 1 ≤ (c : Int) := by omega
  have i6 : (0 : Int) ≤ (i : Int) := by omega
  have hsl := hown.sl.cut (i := i + 1) (by omega) hmc
  by_cases hcc : c = i + 1
  · have hm1 : m = i + 1 := by omega
    subst hcc
    subst hm1
    have hsl0 : SlC entC 7 w (some ⟨g, 0, none⟩) 0 (l.drop (i + 1)) := by
      unfold cutA at hsl
      rw [if_pos rfl, Nat.sub_self] at hsl
      exact hsl
    clear hsl
    go_enter Tryd.func64, Tryd.ntmps64
    go_wp2
    refine wp_region_ext_tail 6 (by kernel_rfl) (by kernel_rfl) ?_
    simp only [List.take_succ_cons, List.take_zero, List.drop_succ_cons, List.drop_zero]
    repeat (go_big_quiet_step (fail))
    refine wpQuiet_nil ?_
    rintro w5 ⟨⟨_, h5⟩, rfl⟩
    try dsimp only
    go_wp2_with (first
      | (at_builtin; refine Hid.out ?_))
    refine Hid.mk_ ?_
    refine appRoomC einfo_ent rfl _ _ rfl ((hown.take_ (i := i) (by omega)).ext h5) rfl rfl (hsl0.ext h5) rfl (by omega) (by omega) ?_
    intro w6 ho6 hg6 hs6
    rw [Nat.add_zero] at ho6 ⊢
    have hg06 : w.grownBy w6 (ob (some ⟨g, 0, none⟩)) := (h5.grownBy _).trans hg6
    obtain ⟨w7, hrun, ho7, hg7, hs7⟩ := run_clearC einfo_ent zok_ent (p := i) (n := 1) (d := 1) ho6 rfl (Nat.le_refl _) (by omega)
    go_wp2
    go_ret
    exact ⟨rfl, ho7, hg06.trans hg7⟩
  · rw [cutA_lt (by omega), Nat.zero_add] at hsl
    have hci : ¬ ((c : Int) = (i : Int) + 1) := by omega
    go_enter Tryd.func64, Tryd.ntmps64
    go_wp2
    refine wp_region_ext_tail 6 (by kernel_rfl) (by kernel_rfl) ?_
    simp only [List.take_succ_cons, List.take_zero, List.drop_succ_cons, List.drop_zero]
    repeat (go_big_quiet_step (fail))
    refine wpQuiet_nil ?_
    rintro w5 ⟨⟨_, h5⟩, rfl⟩
    try dsimp only
    go_wp2_with (first
      | (at_builtin; refine Hid.out ?_))
    refine Hid.mk_ ?_
    refine appRoomC einfo_ent rfl _ _ rfl ((hown.take_ (i := i) (by omega)).ext h5) rfl rfl (hsl.ext h5) rfl (by omega) (by omega) ?_
    intro w6 ho6 hg6 hs6
    obtain ⟨p, hp⟩ : ∃ p, p = m - 1 := ⟨_, rfl⟩
    have hip : i + (m - (i + 1)) = p := by omega
    rw [hip] at ho6 ⊢
    have HP := Lib.hid hp
    have hg06 : w.grownBy w6 (ob (some ⟨g, 0, none⟩)) := (h5.grownBy _).trans hg6
    obtain ⟨w7, hrun, ho7, hg7, hs7⟩ := run_clearC einfo_ent zok_ent (p := p) (n := m - p) (d := c - p) ho6 rfl (Nat.le_refl _) (by omega)
    have j1 : (p : Int) ≤ (m : Int) := by omega
    have j2 : (m : Int) ≤ (c : Int) := by omega
    have j3 : (p : Int) ≤ (c : Int) := by omega
    have j4 : ¬ ((c : Int) = (p : Int)) := by omega
    have j5 : ¬ (c = p) := by omega
    clear hp hip
    go_wp2
    go_ret
    exact ⟨by rw [HP.out]; first | done | rfl, by rw [← HP.out]; exact ho7, hg06.trans hg7⟩
end

end Go.Proofs.YtikbjaopcminaaaDoor
