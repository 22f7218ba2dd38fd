/- A text of letters, digits and inner spaces is its own escaped form, and is read as itself. No condition. -/
import Derived.Test.YtkicjbmljbfojaaDoorEscCard
import Derived.ProofKit
import Derived.OpenShut
import Derived.ShutString
import Derived.ChangeOld
import Derived.SizedLaws
namespace Go.Proofs.YtkicjbmljbfojaaDoor
open Go.ChangeShapes Go.WideShapes Go.ChangeAt Go.RowKit
set_option maxRecDepth 100000

section
variable {w : World}
set_option maxHeartbeats 3200000 in
theorem letters_walk (n : Int) (s : ByteArray) (hT : T2 w) :
    Calls Tryd.prog 7 #[.int .i64 n, .string s] w fun e w' => e = .returned (.bool true) ∧ Ext w w' := by
  by_cases h1 : 300 < s.size
  · have h1' : (300 : Int) < (s.size : Int) := by omega
    go_enter Tryd.func7, Tryd.ntmps7
    go_wp2_with (first
      | (go_at_call 10; refine Hid.out ?_))
    refine Hid.mk_ ((awake_es hT).mono ?_)
    rintro e w1 ⟨rfl, hE1⟩
    go_wp2_with (first
      | (go_at_call 10; refine Hid.out ?_))
    refine Hid.mk_ ((awake_es (hT.ext hE1)).mono ?_)
    rintro e w2 ⟨rfl, hE2⟩
    go_wp2
    go_ret
    exact ⟨rfl, hE1.trans hE2⟩
  have h1' : ¬ (300 : Int) < (s.size : Int) := by omega
  cases hst : styleZ n with
  | false =>
    have HSN := Lib.hid hst
    clear hst
    go_enter Tryd.func7, Tryd.ntmps7
    go_wp2_with (first
      | (go_at_call 10; refine Hid.out ?_))
    refine Hid.mk_ ((awake_es hT).mono ?_)
    rintro e w1 ⟨rfl, hE1⟩
    go_wp2_with (first
      | (go_at_call 15; refine Hid.out ?_))
    refine Hid.mk_ ((rstyle2_any n).mono ?_)
    rintro e w2 ⟨rfl, rfl⟩
    rw [HSN.out]
    go_wp2_with (first
      | (go_at_call 10; refine Hid.out ?_))
    refine Hid.mk_ ((awake_es (hT.ext hE1)).mono ?_)
    rintro e w2 ⟨rfl, hE2⟩
    go_wp2
    go_ret
    exact ⟨rfl, hE1.trans hE2⟩
  | true =>
    have hn : 1 ≤ n ∧ n ≤ 4 := of_decide_eq_true hst
    obtain ⟨k0, rfl⟩ : ∃ k : Nat, n = k := ⟨n.toNat, by omega⟩
    have HS := Lib.hid hst
    clear hst
    have hsp : (∃ h0 : 0 < s.size, (s[0]'h0).toNat = 32) ∨ ((0 < s.size → ∃ h0 : 0 < s.size, (((s[0]'h0).toNat : Int) == 32) = false) ∧ (bys s).head? ≠ some 32) := by
      by_cases h0 : 0 < s.size
      · by_cases h : (s[0]'h0).toNat = 32
        · exact .inl ⟨h0, h⟩
        · right
          refine ⟨fun _ => ⟨h0, by rw [beq_eq_false_iff_ne]; omega⟩, fun e => ?_⟩
          have h3 : (bys s)[0]? = some 32 := by rw [← List.head?_eq_getElem?]; exact e
          rw [List.getElem?_eq_getElem (by rw [bys_len]; exact h0)] at h3
          injection h3 with h3
          exact h (by have : s[0]'h0 = 32 := h3; rw [this]; rfl)
      · right
        refine ⟨fun h => absurd h h0, fun e => ?_⟩
        have : bys s = [] := List.eq_nil_of_length_eq_zero (by rw [bys_len]; omega)
        rw [this] at e
        cases e
    rcases hsp with ⟨h0, hq⟩ | ⟨hq, hh⟩
    · have h0' : (0 : Int) < (s.size : Int) := by omega
      have hq' : (((s[0]'h0).toNat : Int) == 32) = true := by rw [hq]; rfl
      clear hq hn
      go_enter Tryd.func7, Tryd.ntmps7
      go_wp2_with (first
        | (go_at_call 10; refine Hid.out ?_))
      refine Hid.mk_ ((awake_es hT).mono ?_)
      rintro e w1 ⟨rfl, hE1⟩
      go_wp2_with (first
        | (go_at_call 15; refine Hid.out ?_))
      refine Hid.mk_ ((rstyle2_any (k0 : Int)).mono ?_)
      rintro e w2 ⟨rfl, rfl⟩
      rw [HS.out]
      go_wp2_with (first
        | (go_at_call 10; refine Hid.out ?_))
      refine Hid.mk_ ((awake_es (hT.ext hE1)).mono ?_)
      rintro e w2 ⟨rfl, hE2⟩
      go_wp2
      go_ret
      exact ⟨rfl, hE1.trans hE2⟩
    · have HH := Lib.hid hh
      have HBL := Lib.hid (bys_len s)
      clear hh
      have hz : ¬ (0 : Int) < (s.size : Int) ∨ ∃ h0 : 0 < s.size, (0 : Int) < (s.size : Int) ∧ (((s[0]'h0).toNat : Int) == 32) = false := by
        by_cases h0 : 0 < s.size
        · obtain ⟨h0', h⟩ := hq h0
          exact .inr ⟨h0, by omega, h⟩
        · exact .inl (by omega)
      clear hq
      rcases hz with hz | ⟨h0, hz, hz2⟩
      all_goals
        go_enter Tryd.func7, Tryd.ntmps7
        go_wp2_with (first
          | (go_at_call 10; refine Hid.out ?_))
        refine Hid.mk_ ((awake_es hT).mono ?_)
        rintro e w1 ⟨rfl, hE1⟩
        go_wp2_with (first
          | (go_at_call 15; refine Hid.out ?_))
        refine Hid.mk_ ((rstyle2_any (k0 : Int)).mono ?_)
        rintro e w2 ⟨rfl, rfl⟩
        rw [HS.out]
        go_wp2
        go_loop [5] (fun i => ∃ k : Nat, k ≤ s.size ∧ i = .int .i64 k ∧ Hid (((bys s).take k).all (fun c => letB c.toNat) = true)) (fun i => s.size - (intOf i).toNat)
        case atStart => exact ⟨0, Nat.zero_le _, rfl, Lib.hid rfl⟩
        case round =>
          obtain ⟨k, hk, rfl, HL⟩ := hrel
          by_cases hlt : k < s.size
          · have hi1 : (k : Int) < (s.size : Int) := by omega
            have hlk : k < (bys s).length := by rw [HBL.out]; exact hlt
            have hbk := bys_at s k hlt
            obtain ⟨b, hb⟩ : ∃ b, b = (s[k]'hlt).toNat := ⟨_, rfl⟩
            have hsb : (s[k]'hlt).toNat = b := hb.symm
            have HN := Lib.hid (show letB b = true → ((bys s).take (k + 1)).all (fun c => letB c.toNat) = true from fun h => by
              rw [List.take_succ_eq_append_getElem hlk, List.all_append, HL.out, hbk]
              simp [← hb, h])
            clear hb hbk
            by_cases h32 : b = 32
            · subst h32
              go_wp2
              go_round
              case rel => exact ⟨k + 1, by omega, by go_num, Lib.hid (HN.out rfl)⟩
              case measure => simp [intOf]; omega
            · have q32 : ((b : Int) != 32) = true := by rw [bne_iff_ne]; omega
              go_wp2
              all_goals first
                | (go_ret; exact ⟨rfl, hE1⟩)
                | (go_round
                   case rel => exact ⟨k + 1, by omega, by go_num, Lib.hid (HN.out (decide_eq_true (by omega)))⟩
                   case measure => simp [intOf]; omega)
          · have hi1 : ¬ (k : Int) < (s.size : Int) := by omega
            have hall : (bys s).all (fun c => letB c.toNat) = true := by
              have := HL.out
              rwa [List.take_of_length_le (by rw [HBL.out]; omega)] at this
            have hes : escL k0 (bys s) = bys s := escGo_let k0 (by omega) (bys s) true hall (fun _ => HH.out)
            have hez : escZ (k0 : Int) (bys s) = bys s := by unfold escZ; rw [HS.out]; exact hes
            have hun : unZ (k0 : Int) (bys s) = (bys s, 0, 0) := by
              unfold unZ
              rw [HS.out]
              have := unL_esc k0 (by omega) (by omega) (bys s)
              rw [hes] at this
              exact this
            have HU := Lib.hid hun
            have HZ := Lib.hid hez
            clear hes hez hun hall
            go_wp2_with (first
              | (go_at_call 13; refine Hid.out ?_))
            refine Hid.mk_ ((un_any (k0 : Int) s (by omega)).mono ?_)
            rintro e w3 ⟨rfl, hE3⟩
            rw [HU.out]
            unfold unV
            simp only [str_bys]
            go_wp2_with (first
              | (go_at_call 11; refine Hid.out ?_))
            refine Hid.mk_ ((escape_any (k0 : Int) s (by omega) ((hT.ext hE1).ext hE3)).mono ?_)
            rintro e w4 ⟨rfl, hE4⟩
            rw [HZ.out, str_bys]
            go_wp2
            go_ret
            exact ⟨ret_bool (by simp), (hE1.trans hE3).trans hE4⟩
end
set_option maxRecDepth 100000 in
theorem liftedEscapeLetters (os : Os) (started : os.Started) (H : Type) (enc : TypeId × Value → H) :
    ReturnsInHanded {} Tryd.checked os 7 .any (fun w args => (Rows.escapeLettersSpec.pre enc Tryd.prog Tryd.f7 [] false w args ∧ laidMetH Tryd.prog laidL w) ∧ sizedMet enc Tryd.prog Tryd.f7 (OpenSpec.ofChange Rows.escapeLettersSpec) false w args) (Rows.escapeLettersSpec.post enc Tryd.prog Tryd.f7 false true false false) := by
  refine returnsInHanded_of_change_and (C := Tryd.checked) (X := fun w _ => laidMetH Tryd.prog laidL w) (fun _ _ _ hh h => h.of_heap hh) ownK started (by kernel_rfl) Tryd.func7
    (ChangeSpec.witness_shaped (enc := enc) (C := Tryd.checked) (os := os) (X := fun w _ => laidMetH Tryd.prog laidL w) false (World.laidAll Tryd.prog os laidL) #[.int .i64 0, .string ⟨#[]⟩] 8 (World.laidAll_os _ _ _)
      (World.shaped_of_ZipB (by kernel_rfl) (by kernel_rfl)) (by kernel_rfl) (by kernel_rfl) (by kernel_rfl)
      (by rw [MakeChecks.laidMetH_plain _ _ _ (by kernel_rfl)]; exact laidMet_laidAll _ (by kernel_rfl) (by kernel_rfl))) ?_
  intro W base args ds gs before hval0 hW hcnd hsz0 hL _
  have hT := t2_of_laid hL
  have hval : ∀ (j : Nat) t v, Tryd.f7.params[j]? = some t → args[j]? = some v → Value.okWide Tryd.prog W .any base t v := hval0
  have hW' := hW
  obtain ⟨p, q, hA0, hV, rfl, hfz, hnd⟩ := hW
  have hA : DataW.TrodAll enc Tryd.prog W 0 (fun _ => true) true Tryd.f7.params.toList args.toList ds p := hA0
  have hsz : (DataW.weightsEach Tryd.prog (Tryd.f7.params.toList ++ Rows.escapeLettersSpec.plain.varTypes Tryd.prog) (ds ++ gs)).all (· ≤ reachBytes) = true := hsz0
  rw [Tryd.params7] at hA hval hsz
  obtain ⟨v0, vs0, d0, ds0, p0, q0, hargs0, rfl, rfl, h0, r0⟩ := trodAll_cons hA
  obtain ⟨v1, vs1, d1, ds1, p1, q1, hargs1, rfl, rfl, h1, r1⟩ := trodAll_cons r0
  obtain ⟨rfl, rfl, rfl⟩ := trodAll_nil r1
  obtain rfl : args = #[v0, v1] := by cases args; simp_all
  obtain ⟨rfl, rfl⟩ := trodVars_none hV
  obtain ⟨a0, rfl, rfl, rfl, w0⟩ := open_int Tryd.underlying3 (hval 0 3 v0 rfl rfl) h0
  obtain ⟨s1, rfl, rfl, rfl, ws1⟩ := Go.ChangeMaps.open_string Tryd.underlying9 (hval 1 9 v1 rfl rfl) h1
  clear hA0 hval0
  refine (letters_walk a0 s1 hT).mono fun e W' ⟨he, bel⟩ => ?_
  subst he
  exact ⟨_, rfl, _, _, _, [], _, [], hW', trodAll_mk1 (shut_bool Tryd.underlying4 _), (trodAll_cons_mk (shut_int Tryd.underlying3 w0) (trodAll_cons_mk (Go.ChangeMaps.shut_string Tryd.underlying9 ws1) trodAll_mk0)), rfl, Below.frame bel _, fun h => by cases h⟩
theorem EscapeLetters_row : Rows.EscapeLettersSaid :=
  OpenClaim.holds_of_wide 7 Tryd.f7 rfl rfl rfl rfl rfl rfl rfl ⟨rfl, rfl, rfl, rfl, rfl⟩ rfl rfl rfl rfl rfl (by kernel_rfl) Tryd.func7 (by kernel_rfl)
    (of_decide_eq_true (by kernel_rfl)) (by unfold Func.isWrapper; rw [if_neg (of_decide_eq_false (by kernel_rfl))]; exact ⟨rfl, rfl⟩)
    (fun os started H enc _ => liftedEscapeLetters os started H enc)
theorem EscapeLetters_holds : Rows.EscapeLettersCardSaid :=
  Claim7.holds_tied_plain_at .later [] Rows.escapeLettersCard.laidKinds true Rows.escapeLettersCard.stood.harness Rows.escapeLettersCard.stood.looks
    EscapeLetters_row (fun _ h => by cases h) (by kernel_rfl) (fun _ h => by cases h) escapeLetters_row_tie rfl ⟨rfl, rfl⟩ (by kernel_rfl) rfl
    (fun f fn hf hfn => by
      obtain rfl : f = 7 := Option.some.inj ((show Tryd.prog.funcNamed Rows.escapeLettersRow.func = some 7 by kernel_rfl).symm.trans hf) |>.symm
      obtain rfl : fn = Tryd.f7 := (Option.some.inj (Tryd.func7.symm.trans hfn)).symm
      exact ⟨by kernel_rfl, fun j t ht => by
        rw [Tryd.params7] at ht
        have hm : t ∈ [3, 9] := by simpa using Array.mem_of_getElem? ht
        have hall : ([3, 9].all fun u => !Tryd.prog.wantsStandIn u) = true := by kernel_rfl
        exact (show Tryd.prog.wantsStandIn t = false by simpa using List.all_eq_true.1 hall t hm)⟩)
    (by kernel_rfl)
#print axioms EscapeLetters_holds

end Go.Proofs.YtkicjbmljbfojaaDoor
