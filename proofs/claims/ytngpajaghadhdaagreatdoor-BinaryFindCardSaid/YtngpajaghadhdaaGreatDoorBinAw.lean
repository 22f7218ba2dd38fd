/- The document's example. -/
import Derived.Test.YtngpajaghadhdaaGreatDoorBinEn
namespace Go.Proofs.YtngpajaghadhdaaGreatDoor
open Go.RowKit
set_option maxRecDepth 100000
attribute [local go_sem] ext_refl_t ext_alloc_t ext_drew_t ext_drewN_t ext_alloc2_t ext_alloc3_t ext_alloc4_t ext_alloc5_t ext_alloc6_t ext_alloc7_t ext_alloc8_t ext_alloc1d_t ext_alloc2d_t ext_alloc3d_t ext_alloc4d_t
theorem EncR.uniq {c : Cp} {code code' : Int} {L L' : List UInt8} (h : EncR c code L) (h' : EncR c code' L') : code' = code ∧ L' = L := by
  rcases h with ⟨h1, rfl, rfl⟩ | ⟨h1, rfl, rfl⟩ <;> rcases h' with ⟨h2, rfl, rfl⟩ | ⟨h2, rfl, rfl⟩ <;> first
    | exact ⟨rfl, rfl⟩
    | (rw [h1] at h2; cases h2)
def catX : Cat := ⟨⟨#[120]⟩, [], [], [], ⟨none, 0, 0⟩, ⟨none, 0, 0⟩, ⟨none, 0, 0⟩⟩
theorem catX_W (w : World) : CatW w catX := ⟨by show (1 : Nat) ≤ _; omega, HW.nil_ strF_len, HW.nil_ fdC_len, HW.nil_ entC_len⟩
theorem catX_enc {code : Int} {L : List UInt8} (h : EncR catX.p code L) : code = 0 ∧ L = [67, 81, 66, 49, 0, 0, 0, 14, 1, 1, 120, 0, 0, 0] := by
  have hv : validC catX.p = true := by decide
  rcases h with ⟨_, rfl, rfl⟩ | ⟨h1, _, _⟩
  · refine ⟨rfl, ?_⟩
    have hs : sortE catX.p.es = [] := List.eq_nil_of_length_eq_zero (by rw [sortE_len]; rfl)
    have ht : totE catX.p = 14 := by decide
    unfold encC dirE
    rw [hs, ht]
    decide
  · rw [hv] at h1; cases h1
theorem str_enc : str [67, 81, 66, 49, 0, 0, 0, 14, 1, 1, 120, 0, 0, 0] = ⟨#[67, 81, 66, 49, 0, 0, 0, 14, 1, 1, 120, 0, 0, 0]⟩ := rfl
section
variable {w : World}
set_option maxHeartbeats 3200000 in
theorem awake_bin (hT : Tabs w) :
    Calls Tryz.prog 5 #[] w fun e w' => e = .returned (.bool true) ∧ Ext w w' := by
  have henc := bencode_any (catX_W w) hT
  rw [show catV catX = .agg #[.string ⟨#[120]⟩, .slice none 0 0, .slice none 0 0, .slice none 0 0] from rfl] at henc
  go_enter Tryz.func5, Tryz.ntmps5
  go_wp2_with (first
    | (go_at_call 17; refine Hid.out ?_))
  refine Hid.mk_ ((henc).mono ?_)
  rintro e w1 ⟨⟨A, m, c, code, L, rfl, ho, hR⟩, hE⟩
  obtain ⟨rfl, rfl⟩ := catX_enc hR
  have hcv := conv_str ho.sl c
  rw [str_enc] at hcv
  clear henc hR ho
  go_wp2
  go_ret
  exact ⟨rfl, hE⟩
end
end Go.Proofs.YtngpajaghadhdaaGreatDoor
