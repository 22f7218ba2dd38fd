/- What the rows of chapter 57 list; the example of the document. -/
import Derived.Test.YtoghaehcmbonnaaGreatDoorJrnC
import Derived.Test.YtoghaehcmbonnaaGreatDoorDigPl
import Derived.LaidSub
import Derived.Lib.LaidTab
import Derived.ProofKit
import Derived.OpenShut
import Derived.ShutString
import Derived.LaidMore
import Derived.Lay
import Derived.Lib.LaidIn
import Derived.Lib.LaidTab
import Derived.Lib.LaidU8
import Derived.SevenTiedAt
import Derived.Stop.Joined
namespace Go.Proofs.YtoghaehcmbonnaaGreatDoor
open Go.ChangeShapes Go.WideShapes Go.ChangeAt Go.RowKit
set_option maxRecDepth 100000
def laidL57 : List (String × DataW Unit) := [("math/bits.deBruijn32tab", Rows.laid_math_bits_deBruijn32tab), ("math/bits.deBruijn64tab", Rows.laid_math_bits_deBruijn64tab), ("internal/strconv.uint64pow10", Rows.laid_internal_strconv_uint64pow10), ("bytes.ErrTooLarge", Rows.laid_bytes_ErrTooLarge)]
theorem pt_of_laid {W : World} (h : laidMetH Tryz.prog laidL57 W) : PT W := by
  rw [MakeChecks.laidMetH_plain _ _ _ (by kernel_rfl)] at h
  have h2 := laidMet.filter (fun x => x.1 == "internal/strconv.uint64pow10") h
  have e : laidL57.filter (fun x => x.1 == "internal/strconv.uint64pow10") = [("internal/strconv.uint64pow10", Lib.tabData .u64 Lib.pow10Tab)] := by kernel_rfl
  rw [e] at h2
  exact Lib.tabIs_of_head (g := 3) (t := 164) (e := 60) (n := 20) (by kernel_rfl) (by kernel_rfl) Tryz.underlying164 Tryz.underlying60 (by kernel_rfl) (by kernel_rfl) h2
def evA : Ev := ⟨3, ⟨#[]⟩, ⟨#[]⟩, ⟨#[]⟩, ⟨#[]⟩, 0, 0, 0⟩
theorem evA_len : (encE evA).length = 9 := by decide +kernel
theorem evA_take : (magicL ++ (frameH 9 ++ sealL 109270082352485 (encE evA))).take 24 = [67, 81, 74, 49, 10, 48, 48, 48, 48, 48, 48, 48, 57, 61, 48, 48, 48, 48, 48, 48, 48, 57, 10, 1] := by decide +kernel
section
variable {w : World}
set_option maxHeartbeats 1600000 in
theorem awake_jrn (hT : PT w) : Calls Tryz.prog 7 #[] w fun e w' => e = .returned (.bool true) ∧ Ext w w' := by
  have HAPP := Lib.hid (fun (W : World) (S : Nat → Prop) (j : Nat) (h1 : Jr W j S [] [] 109270082352485 [] magicL) (h2 : PT W) => jappend_any evA h1 (by decide) (by refine ⟨?_, ?_, ?_, ?_⟩ <;> exact ⟨by decide, by decide⟩) (show (0 : Nat) ≤ 140737488350000 by omega) (by rw [evA_len]; decide) (by decide) (by decide) (by decide) (by decide) (by decide) h2)
  rw [evA_len] at HAPP
  obtain ⟨bs, hbs⟩ : ∃ bs, bs = magicL ++ (frameH 9 ++ sealL 109270082352485 (encE evA)) := ⟨_, rfl⟩
  have hl : bs.length = 40 := by rw [hbs, List.length_append, List.length_append, frameH_length, sealL_len, evA_len]; rfl
  have htk : bs.take 24 = [67, 81, 74, 49, 10, 48, 48, 48, 48, 48, 48, 48, 57, 61, 48, 48, 48, 48, 48, 48, 48, 57, 10, 1] := by rw [hbs]; exact evA_take
  rw [← hbs] at HAPP
  clear hbs
  go_enter Tryz.func7, Tryz.ntmps7
  go_wp2_with (first
    | (go_at_call 20; refine Hid.out ?_))
  refine Hid.mk_ ((jnew_any).mono ?_)
  rintro e w1 ⟨rfl, hJ1, hE1⟩
  go_wp2_with (first
    | (go_at_call 18; refine Hid.out ?_))
  refine Hid.mk_ ((HAPP.out w1 _ _ hJ1 (hT.ext hE1)).mono ?_)
  rintro e w2 ⟨rfl, hJ2, hK2⟩
  have hE2 : Ext w w2 := Below.trans hE1 (hK2.toBelow hE1.size_le (fun _ h => h))
  go_wp2_with (first
    | (go_at_call 12; refine Hid.out ?_))
  refine Hid.mk_ ((jbytes_any hJ2 (by omega) (by omega)).mono ?_)
  rintro e w3 ⟨A3, m3, c3, rfl, ho3, hE3⟩
  have hm3 : m3 = 40 := by rw [ho3.len, hl]
  subst hm3
  obtain ⟨A4, u1, u2, u3, hsm, _⟩ := cut_run ho3.sl (i := 0) (j := 24) (by omega) (by omega) ho3.cap
  have q1 : ∀ W, (Instr.sliceAt 22 (.slice A3 40 c3) none (some (.int .i64 24)) none).run Tryz.prog W = .ok (.slice A4 (24 - 0) (c3 - 0)) W := fun W => (u3 W .i64 24 rfl rfl).1
  have q2 : ∀ W, (Instr.slice 22 (.slice A3 40 c3) none (some (.int .i64 24)) none).run Tryz.prog W = .ok (.slice A4 (24 - 0) (c3 - 0)) W := fun W => (u3 W .i64 24 rfl rfl).2
  rw [Nat.sub_zero, Nat.sub_zero] at q1 q2
  rw [Nat.sub_zero, List.drop_zero, htk] at hsm
  have hcv := conv_str hsm c3
  have hst : str [67, 81, 74, 49, 10, 48, 48, 48, 48, 48, 48, 48, 57, 61, 48, 48, 48, 48, 48, 48, 48, 57, 10, 1] = ⟨#[67, 81, 74, 49, 10, 48, 48, 48, 48, 48, 48, 48, 57, 61, 48, 48, 48, 48, 48, 48, 48, 57, 10, 1]⟩ := rfl
  rw [hst] at hcv
  have HE3 := Lib.hid (hE2.trans hE3)
  clear hst hsm ho3 u1 u2 u3 hJ1 hJ2 hK2 hl htk HAPP
  go_wp2
  go_ret
  exact ⟨rfl, HE3.out⟩
end
end Go.Proofs.YtoghaehcmbonnaaGreatDoor
