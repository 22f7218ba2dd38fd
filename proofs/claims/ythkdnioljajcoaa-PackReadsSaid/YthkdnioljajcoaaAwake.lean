/- The document's example. -/
import Derived.Test.YthkdnioljajcoaaRStrs
import Derived.Test.YthkdnioljajcoaaRefW
import Derived.Test.YthkdnioljajcoaaSame
namespace Go.Proofs.Ythkdnioljajcoaa
open Go.RowKit

theorem enc_300 : encI (-300) = [18, 1, 44] := by decide +kernel
theorem enc_ab : encS (bys ⟨#[97, 98]⟩) = [1, 2, 97, 98] := by decide +kernel

set_option maxHeartbeats 800000 in
theorem awake_any (w : World) :
    Calls Try.prog 10 #[] w fun e w' => e = .returned (.bool true) ∧ Ext w w' := by
  have s1 : decide ([] ++ encI (-300) = [18, 1, 44]) = true := by rw [enc_300]; rfl
  have s2 : decide ([] ++ encS (bys ⟨#[97, 98]⟩) = [1, 2, 97, 98]) = true := by rw [enc_ab]; rfl
  have s3 : stepI [2, 0, 5] 0 false = (0, 0, true) := by decide +kernel
  have s4 : endE 3 0 true = 4 := by decide +kernel
  have S1 := Lib.hid s1; have S2 := Lib.hid s2; have S3 := Lib.hid s3; have S4 := Lib.hid s4
  clear s1 s2 s3 s4
  go_enter Try.func10, Try.ntmps10
  go_wp2_with (first
    | (go_at_call 19; refine (read_any 3 (SlB.new_ w [2, 0, 5] (by simp) _ rfl (0, 0) 3 rfl _)).mono ?_; rintro e w1 ⟨g, A1, m1, c1, rfl, hR, hE1, hgg, _⟩; have hE1 := ((Ext.refl w).alloc _).trans hE1)
    | (go_at_call 13; refine (packInt 0 (-300) (SlB.nil_ (w := w1)) (by omega) (by omega) (by omega)).mono ?_; rintro e w2 ⟨A2, m2, c2, rfl, ho2, hE2⟩)
    | (go_at_call 12; refine Hid.out ?_))
  refine Hid.mk_ ((sameB c2 3 ((ho2.sl).ext ((Ext.refl w2).alloc _)) (SlB.new_ w2 [18, 1, 44] (by simp) _ rfl (0, 0) 3 rfl _)).mono ?_)
  rintro e w3 ⟨rfl, hE3⟩
  have hE3' := (hE1.trans hE2).trans (((Ext.refl w2).alloc _).trans hE3)
  have hR3 := (hR.ext hE2).ext (((Ext.refl w2).alloc _).trans hE3)
  rw [S1.out]
  go_wp2_with (first
    | (go_at_call 17; refine (packStr 0 _ (SlB.nil_ (w := w3)) (by decide)).mono ?_; rintro e w4 ⟨A4, m4, c4, rfl, ho4, hE4⟩)
    | (go_at_call 12; refine Hid.out ?_))
  refine Hid.mk_ ((sameB c4 4 ((ho4.sl).ext ((Ext.refl w4).alloc _)) (SlB.new_ w4 [1, 2, 97, 98] (by simp) _ rfl (0, 0) 4 rfl _)).mono ?_)
  rintro e w5 ⟨rfl, hE5⟩
  have hE5' := (hE3'.trans hE4).trans (((Ext.refl w4).alloc _).trans hE5)
  have hR5 := (hR3.ext hE4).ext (((Ext.refl w4).alloc _).trans hE5)
  rw [S2.out]
  go_wp2_with (first
    | (go_at_call 24; refine Hid.out ?_))
  refine Hid.mk_ ((rInt hR5).mono ?_)
  rintro e w6 ⟨rfl, hR6, hg6⟩
  rw [S3.out] at hR6 ⊢
  have hE6 : Ext w w6 := hE5'.grown hg6 (fun k hk => by injection hk with hk; have := hgg; simp at this; omega)
  go_wp2_with (first
    | (go_at_call 22; refine Hid.out ?_))
  refine Hid.mk_ ((end_any hR6).mono ?_)
  rintro e w7 ⟨hE7, rfl⟩
  have hE7' := hE6.trans hE7
  have S5 : endE ([2, 0, 5] : List UInt8).length 0 true = 4 := S4.out
  rw [S5]
  go_wp2
  go_ret
  exact ⟨rfl, hE7'⟩

end Go.Proofs.Ythkdnioljajcoaa
