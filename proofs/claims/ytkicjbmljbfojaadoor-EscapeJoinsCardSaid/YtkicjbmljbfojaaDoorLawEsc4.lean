/- The escaped form of two texts of up to 300 bytes is that of both, unless the style is Line and the second one begins with a space. No condition. -/
import Derived.Test.YtkicjbmljbfojaaDoorEscCard
import Derived.ProofKit
import Derived.OpenShut
import Derived.ShutString
import Derived.ChangeOld
import Derived.SizedLaws
namespace Go.Proofs.YtkicjbmljbfojaaDoor
open Go.ChangeShapes Go.WideShapes Go.ChangeAt Go.RowKit
set_option maxRecDepth 100000

section
variable {w : World}
set_option maxHeartbeats 3200000 in
theorem joins_walk (n : Int) (s t : ByteArray) (hT : T2 w) :
    Calls Tryd.prog 6 #[.int .i64 n, .string s, .string t] w fun e w' => e = .returned (.bool true) ∧ Ext w w' := by
  by_cases h1 : 300 < s.size
  · have h1' : (300 : Int) < (s.size : Int) := by omega
    go_enter Tryd.func6, Tryd.ntmps6
    go_wp2_with (first
      | (go_at_call 10; refine Hid.out ?_))
    refine Hid.mk_ ((awake_es hT).mono ?_)
    rintro e w1 ⟨rfl, hE1⟩
    go_wp2_with (first
      | (go_at_call 10; refine Hid.out ?_))
    refine Hid.mk_ ((awake_es (hT.ext hE1)).mono ?_)
    rintro e w2 ⟨rfl, hE2⟩
    go_wp2
    go_ret
    exact ⟨rfl, hE1.trans hE2⟩
  have h1' : ¬ (300 : Int) < (s.size : Int) := by omega
  by_cases h2 : 300 < t.size
  · have h2' : (300 : Int) < (t.size : Int) := by omega
    go_enter Tryd.func6, Tryd.ntmps6
    go_wp2_with (first
      | (go_at_call 10; refine Hid.out ?_))
    refine Hid.mk_ ((awake_es hT).mono ?_)
    rintro e w1 ⟨rfl, hE1⟩
    go_wp2_with (first
      | (go_at_call 10; refine Hid.out ?_))
    refine Hid.mk_ ((awake_es (hT.ext hE1)).mono ?_)
    rintro e w2 ⟨rfl, hE2⟩
    go_wp2
    go_ret
    exact ⟨rfl, hE1.trans hE2⟩
  have h2' : ¬ (300 : Int) < (t.size : Int) := by omega
  by_cases hn1 : n = 1
  · have n1 : (n == 1) = true := by rw [hn1]; rfl
    by_cases h0 : 0 < t.size
    · have h0' : (0 : Int) < (t.size : Int) := by omega
      by_cases hsp : (t[0]'h0).toNat = 32
      · have hq : (((t[0]'h0).toNat : Int) == 32) = true := by rw [hsp]; rfl
        clear hsp hn1
        go_enter Tryd.func6, Tryd.ntmps6
        go_wp2_with (first
          | (go_at_call 10; refine Hid.out ?_))
        refine Hid.mk_ ((awake_es hT).mono ?_)
        rintro e w1 ⟨rfl, hE1⟩
        go_wp2_with (first
          | (go_at_call 10; refine Hid.out ?_))
        refine Hid.mk_ ((awake_es (hT.ext hE1)).mono ?_)
        rintro e w2 ⟨rfl, hE2⟩
        go_wp2
        go_ret
        exact ⟨rfl, hE1.trans hE2⟩
      · have hq : (((t[0]'h0).toNat : Int) == 32) = false := by rw [beq_eq_false_iff_ne]; omega
        have hno : ¬ (n.toNat = 1 ∧ (bys t).head? = some 32) := by
          rintro ⟨_, h⟩
          have h3 : (bys t)[0]? = some 32 := by rw [← List.head?_eq_getElem?]; exact h
          rw [List.getElem?_eq_getElem (by rw [bys_len]; exact h0)] at h3
          injection h3 with h3
          exact hsp (by have : t[0]'h0 = 32 := h3; rw [this]; rfl)
        clear hn1 hsp
        have hcat : escZ n (bys (s ++ t)) = escZ n (bys s) ++ escZ n (bys t) := by
          rw [bys_app]
          unfold escZ
          cases hst : styleZ n with
          | false => rfl
          | true =>
            have hn : 1 ≤ n ∧ n ≤ 4 := of_decide_eq_true hst
            exact escL_join n.toNat (by omega) _ _ hno
        have hx : str (escZ n (bys (s ++ t))) = str (escZ n (bys s)) ++ str (escZ n (bys t)) := bys_inj (by rw [bys_str, hcat, bys_app, bys_str, bys_str])
        have hl : ∀ u : ByteArray, u.size ≤ 300 → (str (escZ n (bys u))).size ≤ 1800 := fun u hu => by
          rw [str_size]
          unfold escZ
          split
          · have := escGo_len n.toNat (bys u) true
            rw [bys_len] at this
            show (escGo n.toNat true (bys u)).length ≤ _
            omega
          · simp
        have hl1 := hl s (by omega)
        have hl2 := hl t (by omega)
        have HX := Lib.hid hx
        have hst0 : s.size + t.size ≤ 9223372036854775807 := by omega
        have hst1 : (s ++ t).size ≤ 1000 := by rw [ByteArray.size_append]; omega
        clear hcat hx hl hno
        go_enter Tryd.func6, Tryd.ntmps6
        go_wp2_with (first
          | (go_at_call 10; refine Hid.out ?_))
        refine Hid.mk_ ((awake_es hT).mono ?_)
        rintro e w1 ⟨rfl, hE1⟩
        go_wp2_with (first
          | (go_at_call 11; refine Hid.out ?_))
        refine Hid.mk_ ((escape_any n (s ++ t) hst1 (hT.ext hE1)).mono ?_)
        rintro e w2 ⟨rfl, hE2⟩
        rw [HX.out]
        go_wp2_with (first
          | (go_at_call 11; refine Hid.out ?_))
        refine Hid.mk_ ((escape_any n s (by omega) ((hT.ext hE1).ext hE2)).mono ?_)
        rintro e w3 ⟨rfl, hE3⟩
        go_wp2_with (first
          | (go_at_call 11; refine Hid.out ?_))
        refine Hid.mk_ ((escape_any n t (by omega) (((hT.ext hE1).ext hE2).ext hE3)).mono ?_)
        rintro e w4 ⟨rfl, hE4⟩
        obtain ⟨x, hx⟩ : ∃ x, x = str (escZ n (bys s)) := ⟨_, rfl⟩
        obtain ⟨y, hy⟩ : ∃ y, y = str (escZ n (bys t)) := ⟨_, rfl⟩
        rw [← hx] at hl1 ⊢
        rw [← hy] at hl2 ⊢
        clear hx hy HX
        have hxy : x.size + y.size ≤ 9223372036854775807 := by omega
        go_wp2
        go_ret
        exact ⟨ret_bool (by simp), ((hE1.trans hE2).trans hE3).trans hE4⟩
    · have h0' : ¬ (0 : Int) < (t.size : Int) := by omega
      have hno : ¬ (n.toNat = 1 ∧ (bys t).head? = some 32) := by
        rintro ⟨_, h⟩
        have : bys t = [] := List.eq_nil_of_length_eq_zero (by rw [bys_len]; omega)
        rw [this] at h
        cases h
      clear hn1
      have hcat : escZ n (bys (s ++ t)) = escZ n (bys s) ++ escZ n (bys t) := by
        rw [bys_app]
        unfold escZ
        cases hst : styleZ n with
        | false => rfl
        | true =>
          have hn : 1 ≤ n ∧ n ≤ 4 := of_decide_eq_true hst
          exact escL_join n.toNat (by omega) _ _ hno
      have hx : str (escZ n (bys (s ++ t))) = str (escZ n (bys s)) ++ str (escZ n (bys t)) := bys_inj (by rw [bys_str, hcat, bys_app, bys_str, bys_str])
      have hl : ∀ u : ByteArray, u.size ≤ 300 → (str (escZ n (bys u))).size ≤ 1800 := fun u hu => by
        rw [str_size]
        unfold escZ
        split
        · have := escGo_len n.toNat (bys u) true
          rw [bys_len] at this
          show (escGo n.toNat true (bys u)).length ≤ _
          omega
        · simp
      have hl1 := hl s (by omega)
      have hl2 := hl t (by omega)
      have HX := Lib.hid hx
      have hst0 : s.size + t.size ≤ 9223372036854775807 := by omega
      have hst1 : (s ++ t).size ≤ 1000 := by rw [ByteArray.size_append]; omega
      clear hcat hx hl hno
      go_enter Tryd.func6, Tryd.ntmps6
      go_wp2_with (first
        | (go_at_call 10; refine Hid.out ?_))
      refine Hid.mk_ ((awake_es hT).mono ?_)
      rintro e w1 ⟨rfl, hE1⟩
      go_wp2_with (first
        | (go_at_call 11; refine Hid.out ?_))
      refine Hid.mk_ ((escape_any n (s ++ t) hst1 (hT.ext hE1)).mono ?_)
      rintro e w2 ⟨rfl, hE2⟩
      rw [HX.out]
      go_wp2_with (first
        | (go_at_call 11; refine Hid.out ?_))
      refine Hid.mk_ ((escape_any n s (by omega) ((hT.ext hE1).ext hE2)).mono ?_)
      rintro e w3 ⟨rfl, hE3⟩
      go_wp2_with (first
        | (go_at_call 11; refine Hid.out ?_))
      refine Hid.mk_ ((escape_any n t (by omega) (((hT.ext hE1).ext hE2).ext hE3)).mono ?_)
      rintro e w4 ⟨rfl, hE4⟩
      obtain ⟨x, hx⟩ : ∃ x, x = str (escZ n (bys s)) := ⟨_, rfl⟩
      obtain ⟨y, hy⟩ : ∃ y, y = str (escZ n (bys t)) := ⟨_, rfl⟩
      rw [← hx] at hl1 ⊢
      rw [← hy] at hl2 ⊢
      clear hx hy HX
      have hxy : x.size + y.size ≤ 9223372036854775807 := by omega
      go_wp2
      go_ret
      exact ⟨ret_bool (by simp), ((hE1.trans hE2).trans hE3).trans hE4⟩
  · have n1 : (n == 1) = false := by rw [beq_eq_false_iff_ne]; exact hn1
    have hno : ¬ (n.toNat = 1 ∧ (bys t).head? = some 32) := by
      rintro ⟨h, _⟩
      omega
    clear hn1
    have hcat : escZ n (bys (s ++ t)) = escZ n (bys s) ++ escZ n (bys t) := by
      rw [bys_app]
      unfold escZ
      cases hst : styleZ n with
      | false => rfl
      | true =>
        have hn : 1 ≤ n ∧ n ≤ 4 := of_decide_eq_true hst
        exact escL_join n.toNat (by omega) _ _ hno
    have hx : str (escZ n (bys (s ++ t))) = str (escZ n (bys s)) ++ str (escZ n (bys t)) := bys_inj (by rw [bys_str, hcat, bys_app, bys_str, bys_str])
    have hl : ∀ u : ByteArray, u.size ≤ 300 → (str (escZ n (bys u))).size ≤ 1800 := fun u hu => by
      rw [str_size]
      unfold escZ
      split
      · have := escGo_len n.toNat (bys u) true
        rw [bys_len] at this
        show (escGo n.toNat true (bys u)).length ≤ _
        omega
      · simp
    have hl1 := hl s (by omega)
    have hl2 := hl t (by omega)
    have HX := Lib.hid hx
    have hst0 : s.size + t.size ≤ 9223372036854775807 := by omega
    have hst1 : (s ++ t).size ≤ 1000 := by rw [ByteArray.size_append]; omega
    clear hcat hx hl hno
    go_enter Tryd.func6, Tryd.ntmps6
    go_wp2_with (first
      | (go_at_call 10; refine Hid.out ?_))
    refine Hid.mk_ ((awake_es hT).mono ?_)
    rintro e w1 ⟨rfl, hE1⟩
    go_wp2_with (first
      | (go_at_call 11; refine Hid.out ?_))
    refine Hid.mk_ ((escape_any n (s ++ t) hst1 (hT.ext hE1)).mono ?_)
    rintro e w2 ⟨rfl, hE2⟩
    rw [HX.out]
    go_wp2_with (first
      | (go_at_call 11; refine Hid.out ?_))
    refine Hid.mk_ ((escape_any n s (by omega) ((hT.ext hE1).ext hE2)).mono ?_)
    rintro e w3 ⟨rfl, hE3⟩
    go_wp2_with (first
      | (go_at_call 11; refine Hid.out ?_))
    refine Hid.mk_ ((escape_any n t (by omega) (((hT.ext hE1).ext hE2).ext hE3)).mono ?_)
    rintro e w4 ⟨rfl, hE4⟩
    obtain ⟨x, hx⟩ : ∃ x, x = str (escZ n (bys s)) := ⟨_, rfl⟩
    obtain ⟨y, hy⟩ : ∃ y, y = str (escZ n (bys t)) := ⟨_, rfl⟩
    rw [← hx] at hl1 ⊢
    rw [← hy] at hl2 ⊢
    clear hx hy HX
    have hxy : x.size + y.size ≤ 9223372036854775807 := by omega
    go_wp2
    go_ret
    exact ⟨ret_bool (by simp), ((hE1.trans hE2).trans hE3).trans hE4⟩
end
set_option maxRecDepth 100000 in
theorem liftedEscapeJoins (os : Os) (started : os.Started) (H : Type) (enc : TypeId × Value → H) :
    ReturnsInHanded {} Tryd.checked os 6 .any (fun w args => (Rows.escapeJoinsSpec.pre enc Tryd.prog Tryd.f6 [] false w args ∧ laidMetH Tryd.prog laidL w) ∧ sizedMet enc Tryd.prog Tryd.f6 (OpenSpec.ofChange Rows.escapeJoinsSpec) false w args) (Rows.escapeJoinsSpec.post enc Tryd.prog Tryd.f6 false true false false) := by
  refine returnsInHanded_of_change_and (C := Tryd.checked) (X := fun w _ => laidMetH Tryd.prog laidL w) (fun _ _ _ hh h => h.of_heap hh) ownK started (by kernel_rfl) Tryd.func6
    (ChangeSpec.witness_shaped (enc := enc) (C := Tryd.checked) (os := os) (X := fun w _ => laidMetH Tryd.prog laidL w) false (World.laidAll Tryd.prog os laidL) #[.int .i64 0, .string ⟨#[]⟩, .string ⟨#[]⟩] 8 (World.laidAll_os _ _ _)
      (World.shaped_of_ZipB (by kernel_rfl) (by kernel_rfl)) (by kernel_rfl) (by kernel_rfl) (by kernel_rfl)
      (by rw [MakeChecks.laidMetH_plain _ _ _ (by kernel_rfl)]; exact laidMet_laidAll _ (by kernel_rfl) (by kernel_rfl))) ?_
  intro W base args ds gs before hval0 hW hcnd hsz0 hL _
  have hT := t2_of_laid hL
  have hval : ∀ (j : Nat) t v, Tryd.f6.params[j]? = some t → args[j]? = some v → Value.okWide Tryd.prog W .any base t v := hval0
  have hW' := hW
  obtain ⟨p, q, hA0, hV, rfl, hfz, hnd⟩ := hW
  have hA : DataW.TrodAll enc Tryd.prog W 0 (fun _ => true) true Tryd.f6.params.toList args.toList ds p := hA0
  have hsz : (DataW.weightsEach Tryd.prog (Tryd.f6.params.toList ++ Rows.escapeJoinsSpec.plain.varTypes Tryd.prog) (ds ++ gs)).all (· ≤ reachBytes) = true := hsz0
  rw [Tryd.params6] at hA hval hsz
  obtain ⟨v0, vs0, d0, ds0, p0, q0, hargs0, rfl, rfl, h0, r0⟩ := trodAll_cons hA
  obtain ⟨v1, vs1, d1, ds1, p1, q1, hargs1, rfl, rfl, h1, r1⟩ := trodAll_cons r0
  obtain ⟨v2, vs2, d2, ds2, p2, q2, hargs2, rfl, rfl, h2, r2⟩ := trodAll_cons r1
  obtain ⟨rfl, rfl, rfl⟩ := trodAll_nil r2
  obtain rfl : args = #[v0, v1, v2] := by cases args; simp_all
  obtain ⟨rfl, rfl⟩ := trodVars_none hV
  obtain ⟨a0, rfl, rfl, rfl, w0⟩ := open_int Tryd.underlying3 (hval 0 3 v0 rfl rfl) h0
  obtain ⟨s1, rfl, rfl, rfl, ws1⟩ := Go.ChangeMaps.open_string Tryd.underlying9 (hval 1 9 v1 rfl rfl) h1
  obtain ⟨s2, rfl, rfl, rfl, ws2⟩ := Go.ChangeMaps.open_string Tryd.underlying9 (hval 2 9 v2 rfl rfl) h2
  clear hA0 hval0
  refine (joins_walk a0 s1 s2 hT).mono fun e W' ⟨he, bel⟩ => ?_
  subst he
  exact ⟨_, rfl, _, _, _, [], _, [], hW', trodAll_mk1 (shut_bool Tryd.underlying4 _), (trodAll_cons_mk (shut_int Tryd.underlying3 w0) (trodAll_cons_mk (Go.ChangeMaps.shut_string Tryd.underlying9 ws1) (trodAll_cons_mk (Go.ChangeMaps.shut_string Tryd.underlying9 ws2) trodAll_mk0))), rfl, Below.frame bel _, fun h => by cases h⟩
theorem EscapeJoins_row : Rows.EscapeJoinsSaid :=
  OpenClaim.holds_of_wide 6 Tryd.f6 rfl rfl rfl rfl rfl rfl rfl ⟨rfl, rfl, rfl, rfl, rfl⟩ rfl rfl rfl rfl rfl (by kernel_rfl) Tryd.func6 (by kernel_rfl)
    (of_decide_eq_true (by kernel_rfl)) (by unfold Func.isWrapper; rw [if_neg (of_decide_eq_false (by kernel_rfl))]; exact ⟨rfl, rfl⟩)
    (fun os started H enc _ => liftedEscapeJoins os started H enc)
theorem EscapeJoins_holds : Rows.EscapeJoinsCardSaid :=
  Claim7.holds_tied_plain_at .later [] Rows.escapeJoinsCard.laidKinds true Rows.escapeJoinsCard.stood.harness Rows.escapeJoinsCard.stood.looks
    EscapeJoins_row (fun _ h => by cases h) (by kernel_rfl) (fun _ h => by cases h) escapeJoins_row_tie rfl ⟨rfl, rfl⟩ (by kernel_rfl) rfl
    (fun f fn hf hfn => by
      obtain rfl : f = 6 := Option.some.inj ((show Tryd.prog.funcNamed Rows.escapeJoinsRow.func = some 6 by kernel_rfl).symm.trans hf) |>.symm
      obtain rfl : fn = Tryd.f6 := (Option.some.inj (Tryd.func6.symm.trans hfn)).symm
      exact ⟨by kernel_rfl, fun j t ht => by
        rw [Tryd.params6] at ht
        have hm : t ∈ [3, 9, 9] := by simpa using Array.mem_of_getElem? ht
        have hall : ([3, 9, 9].all fun u => !Tryd.prog.wantsStandIn u) = true := by kernel_rfl
        exact (show Tryd.prog.wantsStandIn t = false by simpa using List.all_eq_true.1 hall t hm)⟩)
    (by kernel_rfl)
#print axioms EscapeJoins_holds

end Go.Proofs.YtkicjbmljbfojaaDoor
