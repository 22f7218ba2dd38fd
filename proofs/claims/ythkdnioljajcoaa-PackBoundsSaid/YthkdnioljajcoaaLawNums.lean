/- The statements PackBounds and PackNil hold of every input: the walks, and the rows. -/
import Derived.Test.YthkdnioljajcoaaAwake
import Derived.ProofKit
import Derived.OpenShut
import Derived.ShutString
import Derived.ChangeOld
import Derived.SizedLaws
namespace Go.Proofs.Ythkdnioljajcoaa
open Go.ChangeShapes Go.WideShapes Go.ChangeAt Go.RowKit

theorem ownK : ownKnob Try.prog.godebug = none := by kernel_rfl
theorem laidK : laidOutB Try.prog = true := by kernel_rfl

theorem stepB_enc (n least most : Int) (h : InR n) : stepB least most (encI n) 0 false = if least ≤ n ∧ n ≤ most then (n, (encI n).length, false) else (0, 0, true) := by
  have := readI_enc n h []
  rw [List.append_nil] at this
  unfold stepB
  rw [if_neg (by simp), List.drop_zero, this]
  simp

set_option maxHeartbeats 800000 in
theorem bounds_walk (n least most : Int) (w : World) (hn : InR n) :
    Calls Try.prog 4 #[.int .i64 n, .int .i64 least, .int .i64 most] w fun e w' => e = .returned (.bool true) ∧ Ext w w' := by
  have hst := stepB_enc n least most hn
  have hlen := encI_length_pos n
  by_cases hin : least ≤ n ∧ n ≤ most
  · rw [if_pos hin] at hst
    have HST := Lib.hid hst; clear hst
    obtain ⟨hi1, hi2⟩ := hin
    have he : endE (encI n).length (encI n).length false = 0 := by simp [endE]
    have HE := Lib.hid he; clear he
    go_enter Try.func4, Try.ntmps4
    go_wp2_with (first
      | (go_at_call 10; refine (awake_any w).mono ?_; rintro e w1 ⟨rfl, hE1⟩)
      | (go_at_call 13; refine (packInt 0 n (SlB.nil_ (w := w1)) (by omega) hn.1 hn.2).mono ?_; rintro e w2 ⟨A2, m2, c2, rfl, ho2, hE2⟩)
      | (go_at_call 19; refine (read_any c2 ho2.sl).mono ?_; rintro e w3 ⟨g, A3, m3, c3, rfl, hR, hE3, hgg, _⟩)
      | (go_at_call 10; refine Hid.out ?_))
    refine Hid.mk_ ((awake_any w3).mono ?_)
    rintro e w4 ⟨rfl, hE4⟩
    have hE03 := (hE1.trans hE2).trans hE3
    have hE04 := hE03.trans hE4
    have hR4 := hR.ext hE4
    go_wp2_with (first
      | (go_at_call 20; refine Hid.out ?_))
    refine Hid.mk_ ((rBounded least most hR4).mono ?_)
    rintro e w5 ⟨rfl, hR5, hg5⟩
    rw [List.nil_append, HST.out] at hR5 ⊢
    have hE05 : Ext w w5 := hE04.grown hg5 (fun k hk => by injection hk with hk; have := (hE1.trans hE2).size_le; omega)
    go_wp2_with (first
      | (go_at_call 22; refine Hid.out ?_))
    refine Hid.mk_ ((end_any hR5).mono ?_)
    rintro e w6 ⟨hE6, rfl⟩
    rw [HE.out]
    have hE06 := hE05.trans hE6
    go_wp2
    go_ret
    exact ⟨rfl, hE06⟩
  · rw [if_neg hin] at hst
    have HST := Lib.hid hst; clear hst
    have he : endE (encI n).length 0 true = 4 := by simp [endE]
    have HE := Lib.hid he; clear he
    go_enter Try.func4, Try.ntmps4
    go_wp2_with (first
      | (go_at_call 10; refine (awake_any w).mono ?_; rintro e w1 ⟨rfl, hE1⟩)
      | (go_at_call 13; refine (packInt 0 n (SlB.nil_ (w := w1)) (by omega) hn.1 hn.2).mono ?_; rintro e w2 ⟨A2, m2, c2, rfl, ho2, hE2⟩)
      | (go_at_call 19; refine (read_any c2 ho2.sl).mono ?_; rintro e w3 ⟨g, A3, m3, c3, rfl, hR, hE3, hgg, _⟩)
      | (go_at_call 10; refine Hid.out ?_))
    refine Hid.mk_ ((awake_any w3).mono ?_)
    rintro e w4 ⟨rfl, hE4⟩
    have hE03 := (hE1.trans hE2).trans hE3
    have hE04 := hE03.trans hE4
    have hR4 := hR.ext hE4
    go_wp2_with (first
      | (go_at_call 20; refine Hid.out ?_))
    refine Hid.mk_ ((rBounded least most hR4).mono ?_)
    rintro e w5 ⟨rfl, hR5, hg5⟩
    rw [List.nil_append, HST.out] at hR5 ⊢
    have hE05 : Ext w w5 := hE04.grown hg5 (fun k hk => by injection hk with hk; have := (hE1.trans hE2).size_le; omega)
    go_wp2_with (first
      | (go_at_call 21; refine Hid.out ?_)
      | (go_at_call 22; refine Hid.out ?_))
    all_goals
      refine Hid.mk_ ((offset_any hR5).mono ?_)
      rintro e w6 ⟨rfl, rfl⟩
      go_wp2_with (first
        | (go_at_call 22; refine Hid.out ?_))
      refine Hid.mk_ ((end_any hR5).mono ?_)
      rintro e w7 ⟨hE7, rfl⟩
      rw [HE.out]
      have hE07 := hE05.trans hE7
      go_wp2
      go_ret
      exact ⟨rfl, hE07⟩

set_option maxRecDepth 100000 in
theorem liftedPackBounds (os : Os) (started : os.Started) (H : Type) (enc : TypeId × Value → H) :
    ReturnsInHanded {} Try.checked os 4 .any (Rows.packBoundsSpec.pre6 enc Try.prog Try.f4 Rows.packBoundsRow.domain false) (Rows.packBoundsSpec.post enc Try.prog Try.f4 false true false false) := by
  refine returnsInHanded_of_change_sized (C := Try.checked) ownK started (by kernel_rfl) Try.func4
    (ChangeSpec.witness6 (enc := enc) (C := Try.checked) false ⟨#[], #[.int .i64 0, .int .i64 0, .int .i64 0], []⟩ 8 (by kernel_rfl) (by kernel_rfl) (by kernel_rfl) (by kernel_rfl)) ?_
  intro W base args ds gs before hval0 hW hcnd hsz0 _
  have hval : ∀ (j : Nat) t v, Try.f4.params[j]? = some t → args[j]? = some v → Value.okWide Try.prog W .any base t v := hval0
  have hW' := hW
  obtain ⟨p, q, hA0, hV, rfl, hfz, hnd⟩ := hW
  have hA : DataW.TrodAll enc Try.prog W 0 (fun _ => true) true Try.f4.params.toList args.toList ds p := hA0
  have hsz : (DataW.weightsEach Try.prog (Try.f4.params.toList ++ Rows.packBoundsSpec.plain.varTypes Try.prog) (ds ++ gs)).all (· ≤ reachBytes) = true := hsz0
  rw [Try.params4] at hA hval hsz
  obtain ⟨v0, vs0, d0, ds0, p0, q0, hargs0, rfl, rfl, h0, r0⟩ := trodAll_cons hA
  obtain ⟨v1, vs1, d1, ds1, p1, q1, hargs1, rfl, rfl, h1, r1⟩ := trodAll_cons r0
  obtain ⟨v2, vs2, d2, ds2, p2, q2, hargs2, rfl, rfl, h2, r2⟩ := trodAll_cons r1
  obtain ⟨rfl, rfl, rfl⟩ := trodAll_nil r2
  obtain rfl : args = #[v0, v1, v2] := by cases args; simp_all
  obtain ⟨rfl, rfl⟩ := trodVars_none hV
  obtain ⟨a0, rfl, rfl, rfl, w0⟩ := open_int Try.underlying3 (hval 0 3 v0 rfl rfl) h0
  obtain ⟨a1, rfl, rfl, rfl, w1⟩ := open_int Try.underlying3 (hval 1 3 v1 rfl rfl) h1
  obtain ⟨a2, rfl, rfl, rfl, w2⟩ := open_int Try.underlying3 (hval 2 3 v2 rfl rfl) h2
  clear hA0 hval0
  refine (bounds_walk a0 a1 a2 W (bounds_i64 w0)).mono fun e W' ⟨he, bel⟩ => ?_
  subst he
  exact ⟨_, rfl, _, _, _, [], _, [], hW', trodAll_mk1 (shut_bool Try.underlying4 _), (trodAll_cons_mk (shut_int Try.underlying3 w0) (trodAll_cons_mk (shut_int Try.underlying3 w1) (trodAll_cons_mk (shut_int Try.underlying3 w2) trodAll_mk0))), rfl, Below.frame bel _, fun h => by cases h⟩
theorem PackBounds_holds : Rows.PackBoundsSaid :=
  OpenClaim.holds_of_wide 4 Try.f4 rfl rfl rfl rfl rfl rfl rfl ⟨rfl, rfl, rfl, rfl, rfl⟩ rfl rfl rfl rfl rfl (by kernel_rfl) Try.func4 (by kernel_rfl)
    (of_decide_eq_true (by kernel_rfl)) (by unfold Func.isWrapper; rw [if_neg (of_decide_eq_false (by kernel_rfl))]; exact ⟨rfl, rfl⟩)
    (fun os started H enc _ => liftedPackBounds os started H enc)

set_option maxHeartbeats 800000 in
theorem nil_walk (least most : Int) (w : World) :
    Calls Try.prog 9 #[.int .i64 least, .int .i64 most] w fun e w' => e = .returned (.bool true) ∧ Ext w w' := by
  go_enter Try.func9, Try.ntmps9
  go_wp2_with (first
    | (go_at_call 10; refine (awake_any w).mono ?_; rintro e w1 ⟨rfl, hE1⟩)
    | (go_at_call 10; refine Hid.out ?_))
  refine Hid.mk_ ((awake_any w1).mono ?_)
  rintro e w2 ⟨rfl, hE2⟩
  have hE := hE1.trans hE2
  go_wp2
  go_end0
  go_wp2
  go_ret
  exact ⟨rfl, hE⟩

set_option maxRecDepth 100000 in
theorem liftedPackNil (os : Os) (started : os.Started) (H : Type) (enc : TypeId × Value → H) :
    ReturnsInHanded {} Try.checked os 9 .any (Rows.packNilSpec.pre6 enc Try.prog Try.f9 Rows.packNilRow.domain false) (Rows.packNilSpec.post enc Try.prog Try.f9 false true false false) := by
  refine returnsInHanded_of_change_sized (C := Try.checked) ownK started (by kernel_rfl) Try.func9
    (ChangeSpec.witness6 (enc := enc) (C := Try.checked) false ⟨#[], #[.int .i64 0, .int .i64 0], []⟩ 8 (by kernel_rfl) (by kernel_rfl) (by kernel_rfl) (by kernel_rfl)) ?_
  intro W base args ds gs before hval0 hW hcnd hsz0 _
  have hval : ∀ (j : Nat) t v, Try.f9.params[j]? = some t → args[j]? = some v → Value.okWide Try.prog W .any base t v := hval0
  have hW' := hW
  obtain ⟨p, q, hA0, hV, rfl, hfz, hnd⟩ := hW
  have hA : DataW.TrodAll enc Try.prog W 0 (fun _ => true) true Try.f9.params.toList args.toList ds p := hA0
  have hsz : (DataW.weightsEach Try.prog (Try.f9.params.toList ++ Rows.packNilSpec.plain.varTypes Try.prog) (ds ++ gs)).all (· ≤ reachBytes) = true := hsz0
  rw [Try.params9] at hA hval hsz
  obtain ⟨v0, vs0, d0, ds0, p0, q0, hargs0, rfl, rfl, h0, r0⟩ := trodAll_cons hA
  obtain ⟨v1, vs1, d1, ds1, p1, q1, hargs1, rfl, rfl, h1, r1⟩ := trodAll_cons r0
  obtain ⟨rfl, rfl, rfl⟩ := trodAll_nil r1
  obtain rfl : args = #[v0, v1] := by cases args; simp_all
  obtain ⟨rfl, rfl⟩ := trodVars_none hV
  obtain ⟨a0, rfl, rfl, rfl, w0⟩ := open_int Try.underlying3 (hval 0 3 v0 rfl rfl) h0
  obtain ⟨a1, rfl, rfl, rfl, w1⟩ := open_int Try.underlying3 (hval 1 3 v1 rfl rfl) h1
  clear hA0 hval0
  refine (nil_walk a0 a1 W).mono fun e W' ⟨he, bel⟩ => ?_
  subst he
  exact ⟨_, rfl, _, _, _, [], _, [], hW', trodAll_mk1 (shut_bool Try.underlying4 _), (trodAll_cons_mk (shut_int Try.underlying3 w0) (trodAll_cons_mk (shut_int Try.underlying3 w1) trodAll_mk0)), rfl, Below.frame bel _, fun h => by cases h⟩
theorem PackNil_holds : Rows.PackNilSaid :=
  OpenClaim.holds_of_wide 9 Try.f9 rfl rfl rfl rfl rfl rfl rfl ⟨rfl, rfl, rfl, rfl, rfl⟩ rfl rfl rfl rfl rfl (by kernel_rfl) Try.func9 (by kernel_rfl)
    (of_decide_eq_true (by kernel_rfl)) (by unfold Func.isWrapper; rw [if_neg (of_decide_eq_false (by kernel_rfl))]; exact ⟨rfl, rfl⟩)
    (fun os started H enc _ => liftedPackNil os started H enc)

end Go.Proofs.Ythkdnioljajcoaa
