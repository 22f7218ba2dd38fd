/- An escaped form has no line feed and no end at a delimiter of its style; behind it, the delimiter is found. No condition. -/
import Derived.Test.YtkicjbmljbfojaaDoorEscCard
import Derived.ProofKit
import Derived.OpenShut
import Derived.ShutString
import Derived.ChangeOld
import Derived.SizedLaws
namespace Go.Proofs.YtkicjbmljbfojaaDoor
open Go.ChangeShapes Go.WideShapes Go.ChangeAt Go.RowKit
set_option maxRecDepth 100000

theorem endZ_esc (k : Nat) (h1 : 1 ≤ k) (h4 : k ≤ 4) (l r : List UInt8) (d : UInt8) (hd : delim k d = true) : endZ (k : Int) (escL k l ++ r) d = endGo k d false (escL k l).length r := by
  unfold endZ
  rw [show styleZ (k : Int) = true from decide_eq_true (by omega), if_pos rfl]
  have := endGo_esc k h1 h4 hd l true 0 r
  rw [Nat.zero_add] at this
  exact this
theorem endZ_none (k : Nat) (h1 : 1 ≤ k) (h4 : k ≤ 4) (l : List UInt8) (d : UInt8) (hd : delim k d = true) : endZ (k : Int) (escL k l) d = -1 := by
  have := endZ_esc k h1 h4 l [] d hd
  rw [List.append_nil, endGo_end] at this
  exact this
theorem endZ_hit (k : Nat) (h1 : 1 ≤ k) (h4 : k ≤ 4) (l r : List UInt8) (d : UInt8) (hd : delim k d = true) : endZ (k : Int) (escL k l ++ d :: r) d = ((escL k l).length : Int) := by
  rw [endZ_esc k h1 h4 l (d :: r) d hd, endGo, if_pos rfl]
section
variable {w : World}
set_option maxHeartbeats 3200000 in
theorem safe_walk (n : Int) (s : ByteArray) (hT : T2 w) :
    Calls Tryd.prog 9 #[.int .i64 n, .string s] w fun e w' => e = .returned (.bool true) ∧ Ext w w' := by
  by_cases h1 : 300 < s.size
  · have h1' : (300 : Int) < (s.size : Int) := by omega
    go_enter Tryd.func9, Tryd.ntmps9
    go_wp2_with (first
      | (go_at_call 10; refine Hid.out ?_))
    refine Hid.mk_ ((awake_es hT).mono ?_)
    rintro e w1 ⟨rfl, hE1⟩
    go_wp2_with (first
      | (go_at_call 10; refine Hid.out ?_))
    refine Hid.mk_ ((awake_es (hT.ext hE1)).mono ?_)
    rintro e w2 ⟨rfl, hE2⟩
    go_wp2
    go_ret
    exact ⟨rfl, hE1.trans hE2⟩
  have h1' : ¬ (300 : Int) < (s.size : Int) := by omega
  cases hst : styleZ n with
  | false =>
    have HSN := Lib.hid hst
    clear hst
    go_enter Tryd.func9, Tryd.ntmps9
    go_wp2_with (first
      | (go_at_call 10; refine Hid.out ?_))
    refine Hid.mk_ ((awake_es hT).mono ?_)
    rintro e w1 ⟨rfl, hE1⟩
    go_wp2_with (first
      | (go_at_call 15; refine Hid.out ?_))
    refine Hid.mk_ ((rstyle2_any n).mono ?_)
    rintro e w2 ⟨rfl, rfl⟩
    rw [HSN.out]
    go_wp2_with (first
      | (go_at_call 10; refine Hid.out ?_))
    refine Hid.mk_ ((awake_es (hT.ext hE1)).mono ?_)
    rintro e w2 ⟨rfl, hE2⟩
    go_wp2
    go_ret
    exact ⟨rfl, hE1.trans hE2⟩
  | true =>
    have hn : 1 ≤ n ∧ n ≤ 4 := of_decide_eq_true hst
    obtain ⟨k, rfl⟩ : ∃ k : Nat, n = k := ⟨n.toNat, by omega⟩
    have he : escZ (k : Int) (bys s) = escL k (bys s) := by unfold escZ; rw [hst]; rfl
    obtain ⟨T, hT0⟩ : ∃ T, T = str (escL k (bys s)) := ⟨_, rfl⟩
    have hbT : bys T = escL k (bys s) := by rw [hT0, bys_str]
    have hTs : T.size ≤ 1800 := by
      rw [← bys_len, hbT]
      have := escGo_len k (bys s) true
      rw [bys_len] at this
      show (escGo k true (bys s)).length ≤ _
      omega
    have hTl : (escL k (bys s)).length = T.size := by rw [← hbT, bys_len]
    have hsafe := escGo_safe k (by omega) (bys s) true
    have h10 : inL 10 (bys T) = false := by
      rw [hbT]
      unfold inL
      rw [List.any_eq_false]
      intro x hx
      have := List.all_eq_true.1 hsafe x hx
      simp only [Bool.and_eq_true, bne_iff_ne] at this
      intro h
      rw [beq_iff_eq] at h
      exact this.1 (UInt8.toNat_inj.1 (by rw [h]; rfl))
    have h60 : k = 4 → inL 60 (bys T) = false := fun hk => by
      rw [hbT]
      unfold inL
      rw [List.any_eq_false]
      intro x hx
      have := List.all_eq_true.1 hsafe x hx
      simp only [Bool.and_eq_true, bne_iff_ne, Bool.or_eq_true] at this
      intro h
      rw [beq_iff_eq] at h
      rcases this.2 with h2 | h2
      · exact h2 hk
      · exact h2 (UInt8.toNat_inj.1 (by rw [h]; rfl))
    have g0 : ∀ d : Nat, delim k (by_ d) = true → endZ (k : Int) (bys T) (by_ d) = -1 := fun d hd => by rw [hbT]; exact endZ_none k (by omega) (by omega) _ _ hd
    have g1 : ∀ (d : Nat) (u : ByteArray) (r : List UInt8), bys u = by_ d :: r → delim k (by_ d) = true → endZ (k : Int) (bys (T ++ u)) (by_ d) = (T.size : Int) := fun d u r hu hd => by
      rw [bys_app, hbT, hu, endZ_hit k (by omega) (by omega) _ _ _ hd, hTl]
    have HS := Lib.hid hst
    have HE := Lib.hid (show str (escZ (k : Int) (bys s)) = T by rw [he, hT0])
    have H10 := Lib.hid h10
    have H60 := Lib.hid h60
    have G0 := Lib.hid g0
    have G1 := Lib.hid g1
    have K1 := Lib.hid hn.1
    have K4 := Lib.hid hn.2
    clear hst he hT0 hbT hTl hsafe h10 h60 g0 g1
    have hT9 : T.size ≤ 9223372036854775807 := by omega
    have hT5 : T.size ≤ 100000 := by omega
    have hT6 : T.size + 2 ≤ 100000 := by omega
    have hs0 : s.size ≤ 1000 := by omega
    have hs1 : T.size + ((⟨#[61, 35]⟩ : ByteArray)).size ≤ 9223372036854775807 := by show T.size + 2 ≤ _; omega
    have hs2 : T.size + ((⟨#[35]⟩ : ByteArray)).size ≤ 9223372036854775807 := by show T.size + 1 ≤ _; omega
    have hs3 : T.size + ((⟨#[34, 120]⟩ : ByteArray)).size ≤ 9223372036854775807 := by show T.size + 2 ≤ _; omega
    by_cases hk1 : k = 1
    · have q1 : ((k : Int) == 1) = true := by rw [hk1]; rfl
      have q4 : ((k : Int) == 4) = false := by rw [hk1]; rfl
      have D61 := Lib.hid (show delim k (by_ 61) = true by rw [hk1]; rfl)
      have D58 := Lib.hid (show delim k (by_ 58) = true by rw [hk1]; rfl)
      have D35 := Lib.hid (show delim k (by_ 35) = true by rw [hk1]; rfl)
      clear hk1 hn
      go_enter Tryd.func9, Tryd.ntmps9
      go_wp2_with (first
        | (go_at_call 10; refine Hid.out ?_))
      refine Hid.mk_ ((awake_es hT).mono ?_)
      rintro e w1 ⟨rfl, hE1⟩
      go_wp2_with (first
        | (go_at_call 15; refine Hid.out ?_))
      refine Hid.mk_ ((rstyle2_any (k : Int)).mono ?_)
      rintro e w2 ⟨rfl, rfl⟩
      rw [HS.out]
      go_wp2_with (first
        | (go_at_call 11; refine Hid.out ?_))
      refine Hid.mk_ ((escape_any (k : Int) s hs0 (hT.ext hE1)).mono ?_)
      rintro e w2 ⟨rfl, hE2⟩
      rw [HE.out]
      go_wp2_with (first
        | (go_at_call 18; refine Hid.out ?_))
      refine Hid.mk_ ((in_r2 T 10 false hT9 H10.out).mono ?_)
      rintro e w3 ⟨rfl, rfl⟩
      go_wp2_with (first
        | (go_at_call 16; refine Hid.out ?_))
      refine Hid.mk_ ((end_any (k : Int) T hT5 61 (by decide)).mono ?_)
      rintro e w3 ⟨rfl, rfl⟩
      rw [G0.out 61 D61.out]
      go_wp2_with (first
        | (go_at_call 16; refine Hid.out ?_))
      refine Hid.mk_ ((end_any (k : Int) T hT5 58 (by decide)).mono ?_)
      rintro e w3 ⟨rfl, rfl⟩
      rw [G0.out 58 D58.out]
      go_wp2_with (first
        | (go_at_call 16; refine Hid.out ?_))
      refine Hid.mk_ ((end_any (k : Int) _ (by rw [ByteArray.size_append]; exact Nat.le_trans (Nat.add_le_add_left (by decide) _) hT6) 61 (by decide)).mono ?_)
      rintro e w3 ⟨rfl, rfl⟩
      rw [G1.out 61 _ [35] rfl D61.out]
      go_wp2_with (first
        | (go_at_call 16; refine Hid.out ?_))
      refine Hid.mk_ ((end_any (k : Int) _ (by rw [ByteArray.size_append]; exact Nat.le_trans (Nat.add_le_add_left (by decide) _) hT6) 35 (by decide)).mono ?_)
      rintro e w3 ⟨rfl, rfl⟩
      rw [G1.out 35 _ [] rfl D35.out]
      go_wp2
      go_ret
      exact ⟨ret_bool (by simp), hE1.trans hE2⟩
    · have q1 : ((k : Int) == 1) = false := by rw [beq_eq_false_iff_ne]; omega
      have D34 := Lib.hid (show delim k (by_ 34) = true by unfold delim; rw [if_neg hk1]; rfl)
      have hq4 : ((k : Int) == 4) = true ∧ k = 4 ∨ ((k : Int) == 4) = false := by
        by_cases h : k = 4
        · exact .inl ⟨by rw [h]; rfl, h⟩
        · exact .inr (by rw [beq_eq_false_iff_ne]; omega)
      clear hk1 hn
      rcases hq4 with ⟨q4, hk4⟩ | q4
      · have H6 := Lib.hid (H60.out hk4)
        clear hk4
        go_enter Tryd.func9, Tryd.ntmps9
        go_wp2_with (first
          | (go_at_call 10; refine Hid.out ?_))
        refine Hid.mk_ ((awake_es hT).mono ?_)
        rintro e w1 ⟨rfl, hE1⟩
        go_wp2_with (first
          | (go_at_call 15; refine Hid.out ?_))
        refine Hid.mk_ ((rstyle2_any (k : Int)).mono ?_)
        rintro e w2 ⟨rfl, rfl⟩
        rw [HS.out]
        go_wp2_with (first
          | (go_at_call 11; refine Hid.out ?_))
        refine Hid.mk_ ((escape_any (k : Int) s hs0 (hT.ext hE1)).mono ?_)
        rintro e w2 ⟨rfl, hE2⟩
        rw [HE.out]
        go_wp2_with (first
          | (go_at_call 18; refine Hid.out ?_))
        refine Hid.mk_ ((in_r2 T 10 false hT9 H10.out).mono ?_)
        rintro e w3 ⟨rfl, rfl⟩
        go_wp2_with (first
          | (go_at_call 18; refine Hid.out ?_))
        refine Hid.mk_ ((in_r2 T 60 false hT9 H6.out).mono ?_)
        rintro e w3 ⟨rfl, rfl⟩
        go_wp2_with (first
          | (go_at_call 16; refine Hid.out ?_))
        refine Hid.mk_ ((end_any (k : Int) T hT5 34 (by decide)).mono ?_)
        rintro e w3 ⟨rfl, rfl⟩
        rw [G0.out 34 D34.out]
        go_wp2_with (first
          | (go_at_call 16; refine Hid.out ?_))
        refine Hid.mk_ ((end_any (k : Int) _ (by rw [ByteArray.size_append]; exact Nat.le_trans (Nat.add_le_add_left (by decide) _) hT6) 34 (by decide)).mono ?_)
        rintro e w3 ⟨rfl, rfl⟩
        rw [G1.out 34 _ [120] rfl D34.out]
        go_wp2
        go_ret
        exact ⟨ret_bool (by simp), hE1.trans hE2⟩
      · go_enter Tryd.func9, Tryd.ntmps9
        go_wp2_with (first
          | (go_at_call 10; refine Hid.out ?_))
        refine Hid.mk_ ((awake_es hT).mono ?_)
        rintro e w1 ⟨rfl, hE1⟩
        go_wp2_with (first
          | (go_at_call 15; refine Hid.out ?_))
        refine Hid.mk_ ((rstyle2_any (k : Int)).mono ?_)
        rintro e w2 ⟨rfl, rfl⟩
        rw [HS.out]
        go_wp2_with (first
          | (go_at_call 11; refine Hid.out ?_))
        refine Hid.mk_ ((escape_any (k : Int) s hs0 (hT.ext hE1)).mono ?_)
        rintro e w2 ⟨rfl, hE2⟩
        rw [HE.out]
        go_wp2_with (first
          | (go_at_call 18; refine Hid.out ?_))
        refine Hid.mk_ ((in_r2 T 10 false hT9 H10.out).mono ?_)
        rintro e w3 ⟨rfl, rfl⟩
        go_wp2_with (first
          | (go_at_call 16; refine Hid.out ?_))
        refine Hid.mk_ ((end_any (k : Int) T hT5 34 (by decide)).mono ?_)
        rintro e w3 ⟨rfl, rfl⟩
        rw [G0.out 34 D34.out]
        go_wp2_with (first
          | (go_at_call 16; refine Hid.out ?_))
        refine Hid.mk_ ((end_any (k : Int) _ (by rw [ByteArray.size_append]; exact Nat.le_trans (Nat.add_le_add_left (by decide) _) hT6) 34 (by decide)).mono ?_)
        rintro e w3 ⟨rfl, rfl⟩
        rw [G1.out 34 _ [120] rfl D34.out]
        go_wp2
        go_ret
        exact ⟨ret_bool (by simp), hE1.trans hE2⟩
end
set_option maxRecDepth 100000 in
theorem liftedEscapeSafe (os : Os) (started : os.Started) (H : Type) (enc : TypeId × Value → H) :
    ReturnsInHanded {} Tryd.checked os 9 .any (fun w args => (Rows.escapeSafeSpec.pre enc Tryd.prog Tryd.f9 [] false w args ∧ laidMetH Tryd.prog laidL w) ∧ sizedMet enc Tryd.prog Tryd.f9 (OpenSpec.ofChange Rows.escapeSafeSpec) false w args) (Rows.escapeSafeSpec.post enc Tryd.prog Tryd.f9 false true false false) := by
  refine returnsInHanded_of_change_and (C := Tryd.checked) (X := fun w _ => laidMetH Tryd.prog laidL w) (fun _ _ _ hh h => h.of_heap hh) ownK started (by kernel_rfl) Tryd.func9
    (ChangeSpec.witness_shaped (enc := enc) (C := Tryd.checked) (os := os) (X := fun w _ => laidMetH Tryd.prog laidL w) false (World.laidAll Tryd.prog os laidL) #[.int .i64 0, .string ⟨#[]⟩] 8 (World.laidAll_os _ _ _)
      (World.shaped_of_ZipB (by kernel_rfl) (by kernel_rfl)) (by kernel_rfl) (by kernel_rfl) (by kernel_rfl)
      (by rw [MakeChecks.laidMetH_plain _ _ _ (by kernel_rfl)]; exact laidMet_laidAll _ (by kernel_rfl) (by kernel_rfl))) ?_
  intro W base args ds gs before hval0 hW hcnd hsz0 hL _
  have hT := t2_of_laid hL
  have hval : ∀ (j : Nat) t v, Tryd.f9.params[j]? = some t → args[j]? = some v → Value.okWide Tryd.prog W .any base t v := hval0
  have hW' := hW
  obtain ⟨p, q, hA0, hV, rfl, hfz, hnd⟩ := hW
  have hA : DataW.TrodAll enc Tryd.prog W 0 (fun _ => true) true Tryd.f9.params.toList args.toList ds p := hA0
  have hsz : (DataW.weightsEach Tryd.prog (Tryd.f9.params.toList ++ Rows.escapeSafeSpec.plain.varTypes Tryd.prog) (ds ++ gs)).all (· ≤ reachBytes) = true := hsz0
  rw [Tryd.params9] at hA hval hsz
  obtain ⟨v0, vs0, d0, ds0, p0, q0, hargs0, rfl, rfl, h0, r0⟩ := trodAll_cons hA
  obtain ⟨v1, vs1, d1, ds1, p1, q1, hargs1, rfl, rfl, h1, r1⟩ := trodAll_cons r0
  obtain ⟨rfl, rfl, rfl⟩ := trodAll_nil r1
  obtain rfl : args = #[v0, v1] := by cases args; simp_all
  obtain ⟨rfl, rfl⟩ := trodVars_none hV
  obtain ⟨a0, rfl, rfl, rfl, w0⟩ := open_int Tryd.underlying3 (hval 0 3 v0 rfl rfl) h0
  obtain ⟨s1, rfl, rfl, rfl, ws1⟩ := Go.ChangeMaps.open_string Tryd.underlying9 (hval 1 9 v1 rfl rfl) h1
  clear hA0 hval0
  refine (safe_walk a0 s1 hT).mono fun e W' ⟨he, bel⟩ => ?_
  subst he
  exact ⟨_, rfl, _, _, _, [], _, [], hW', trodAll_mk1 (shut_bool Tryd.underlying4 _), (trodAll_cons_mk (shut_int Tryd.underlying3 w0) (trodAll_cons_mk (Go.ChangeMaps.shut_string Tryd.underlying9 ws1) trodAll_mk0)), rfl, Below.frame bel _, fun h => by cases h⟩
theorem EscapeSafe_row : Rows.EscapeSafeSaid :=
  OpenClaim.holds_of_wide 9 Tryd.f9 rfl rfl rfl rfl rfl rfl rfl ⟨rfl, rfl, rfl, rfl, rfl⟩ rfl rfl rfl rfl rfl (by kernel_rfl) Tryd.func9 (by kernel_rfl)
    (of_decide_eq_true (by kernel_rfl)) (by unfold Func.isWrapper; rw [if_neg (of_decide_eq_false (by kernel_rfl))]; exact ⟨rfl, rfl⟩)
    (fun os started H enc _ => liftedEscapeSafe os started H enc)
theorem EscapeSafe_holds : Rows.EscapeSafeCardSaid :=
  Claim7.holds_tied_plain_at .later [] Rows.escapeSafeCard.laidKinds true Rows.escapeSafeCard.stood.harness Rows.escapeSafeCard.stood.looks
    EscapeSafe_row (fun _ h => by cases h) (by kernel_rfl) (fun _ h => by cases h) escapeSafe_row_tie rfl ⟨rfl, rfl⟩ (by kernel_rfl) rfl
    (fun f fn hf hfn => by
      obtain rfl : f = 9 := Option.some.inj ((show Tryd.prog.funcNamed Rows.escapeSafeRow.func = some 9 by kernel_rfl).symm.trans hf) |>.symm
      obtain rfl : fn = Tryd.f9 := (Option.some.inj (Tryd.func9.symm.trans hfn)).symm
      exact ⟨by kernel_rfl, fun j t ht => by
        rw [Tryd.params9] at ht
        have hm : t ∈ [3, 9] := by simpa using Array.mem_of_getElem? ht
        have hall : ([3, 9].all fun u => !Tryd.prog.wantsStandIn u) = true := by kernel_rfl
        exact (show Tryd.prog.wantsStandIn t = false by simpa using List.all_eq_true.1 hall t hm)⟩)
    (by kernel_rfl)
#print axioms EscapeSafe_holds

end Go.Proofs.YtkicjbmljbfojaaDoor
