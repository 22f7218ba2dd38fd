/- Parse returns the specified digest or error for any string of up to 60 bytes, and every digest from its text. No condition. -/
import Derived.Test.YtpokkklfiehemaaDoorParseS
import Derived.Test.YtpokkklfiehemaaDoorRefText
import Derived.Test.YtpokkklfiehemaaDoorDigCard
import Derived.Test.YtpokkklfiehemaaDoorReadB
import Derived.ProofKit
import Derived.OpenShut
import Derived.ShutString
import Derived.ChangeOld
import Derived.SizedLaws
namespace Go.Proofs.YtpokkklfiehemaaDoor
open Go.ChangeShapes Go.WideShapes Go.ChangeAt Go.RowKit
set_option maxRecDepth 100000

def laidL2 : List (String × DataW Unit) := Rows.digestParseRow.laid
theorem iface_cells {H : Type} {enc : TypeId × Value → H} {W : World} {b : Nat} {sp : Nat → Bool} {held : Bool} {fuel : Nat} {t : TypeId} {cs : List Value} {x : DataW H × List MemPlace} {ms : Array (String × TypeId)}
    (ht : Tryd.prog.underlying t = some (.interface ms)) (h : DataW.trod enc Tryd.prog W b sp held fuel t cs = some x) : ∃ v, cs = [v] ∧ (v = .nilIface ∨ ∃ te pe, v = .iface te pe) := by
  cases fuel with
  | zero => simp [DataW.trod] at h
  | succ n =>
    unfold DataW.trod at h
    rw [ht] at h
    split at h <;> first | exact ⟨_, rfl, .inl rfl⟩ | exact ⟨_, rfl, .inr ⟨_, _, rfl⟩⟩ | skip
    all_goals simp_all
theorem iface_of {W : World} {l : List (String × DataW Unit)} {x : String × DataW Unit} (h : laidMet Tryd.prog l W) (hx : x ∈ l) (gg : Nat) (hn : Tryd.prog.globalNamed x.1 = some gg) (h0 : (Tryd.prog.globals[gg]?).map (·.type) = some 50) :
    ∃ ev, W.cell? ⟨gg, 0, none⟩ = some ev ∧ (ev = .nilIface ∨ ∃ te pe, ev = .iface te pe) := by
  obtain ⟨g, t, cs, fuel, p, hg, hty, hvar, hr⟩ := Lib.laidMet.reads h hx
  obtain rfl := Option.some.inj (hn.symm.trans hg)
  obtain rfl := Option.some.inj (h0.symm.trans hty)
  obtain ⟨v, hv, hk⟩ := iface_cells Tryd.underlying50 hr
  refine ⟨v, ?_, hk⟩
  rw [World.var?_cell hg hvar 0]
  have h2 : cs.toList[0]? = some v := by rw [hv]; rfl
  simpa using h2
theorem ne_of_laid {W : World} (h : laidMetH Tryd.prog laidL2 W) : TZ W ∧ NE W := by
  rw [MakeChecks.laidMetH_plain _ _ _ (by kernel_rfl)] at h
  exact ⟨tz_of h (.tail _ (.head _)) (by kernel_rfl) rfl, iface_of h (.tail _ (.tail _ (.tail _ (.tail _ (.head _))))) 1 (by kernel_rfl) (by kernel_rfl), iface_of h (.tail _ (.tail _ (.tail _ (.head _)))) 2 (by kernel_rfl) (by kernel_rfl)⟩

set_option maxHeartbeats 1600000 in
theorem parse_walk {w : World} (s : ByteArray) (h : Nat) (hh : h < 18446744073709551616) (hTN : TZ w ∧ NE w) :
    Calls Tryd.prog 9 #[.string s, .int .u64 h] w fun e w' => e = .returned (.bool true) ∧ Ext w w' := by
  obtain ⟨hT, hN⟩ := hTN
  by_cases h1 : 60 < s.size
  · have h1' : (60 : Int) < (s.size : Int) := by omega
    go_enter Tryd.func9, Tryd.ntmps9
    go_wp2_with (first
      | (go_at_call 10; refine Hid.out ?_))
    refine Hid.mk_ ((awake_dg hT).mono ?_)
    rintro e w1 ⟨rfl, hE1⟩
    go_wp2_with (first
      | (go_at_call 10; refine Hid.out ?_))
    refine Hid.mk_ ((awake_dg (hT.ext hE1)).mono ?_)
    rintro e w2 ⟨rfl, hE2⟩
    go_wp2
    go_ret
    exact ⟨rfl, hE1.trans hE2⟩
  · have h1' : ¬ (60 : Int) < (s.size : Int) := by omega
    go_enter Tryd.func9, Tryd.ntmps9
    go_wp2_with (first
      | (go_at_call 10; refine Hid.out ?_))
    refine Hid.mk_ ((awake_dg hT).mono ?_)
    rintro e w1 ⟨rfl, hE1⟩
    go_wp2_with (first
      | (go_at_call 22; refine Hid.out ?_))
    refine Hid.mk_ ((dparse_any s (by omega) (hT.ext hE1) (hN.ext hE1)).mono ?_)
    rintro e w2 ⟨n, er, rfl, hP1, hE2⟩
    go_wp2_with (first
      | (go_at_call 23; refine Hid.out ?_))
    refine Hid.mk_ ((refParse_any s (by omega)).mono ?_)
    rintro e w3 ⟨n2, er2, rfl, hP2, hE3⟩
    obtain ⟨rfl, rfl⟩ : n = n2 ∧ er = er2 := Prod.mk.inj (hP1.unique hP2)
    clear hP2
    have hE13 := (hE1.trans hE2).trans hE3
    go_wp2_with (first
      | (go_at_call 15; refine Hid.out ?_))
    refine Hid.mk_ ((dtext_any h hh (hT.ext hE13)).mono ?_)
    rintro e w4 ⟨rfl, hE4⟩
    have hsz : (hexT h).size ≤ 60 := by rw [hexT_size]; omega
    go_wp2_with (first
      | (go_at_call 22; refine Hid.out ?_))
    refine Hid.mk_ ((dparse_any (hexT h) hsz (hT.ext (hE13.trans hE4)) (hN.ext (hE13.trans hE4))).mono ?_)
    rintro e w5 ⟨k, g, rfl, hP3, hE5⟩
    obtain ⟨rfl, rfl⟩ : k = h ∧ g = 0 := Prod.mk.inj (hP3.unique (.inl ⟨h, hh, rfl, rfl⟩))
    clear hP3 hsz
    have hE15 := (hE13.trans hE4).trans hE5
    have HT5 := hT.ext hE15
    clear hE1 hE2 hE3 hE13 hE4 hE5 hT hN h1 h1'
    have HH := Lib.hid hh
    clear hh
    rcases hP1 with ⟨n', hn', hs, he⟩ | ⟨_, he⟩
    · obtain ⟨rfl, rfl⟩ := Prod.mk.inj he
      have HS := Lib.hid hs
      clear hs he
      go_wp2_with (first
        | (go_at_call 15; refine Hid.out ?_))
      refine Hid.mk_ ((dtext_any n hn' HT5).mono ?_)
      rintro e w6 ⟨rfl, hE6⟩
      rw [← HS.out]
      clear HS hn'
      go_wp2
      go_ret
      exact ⟨rfl, hE15.trans hE6⟩
    · obtain ⟨rfl, rfl⟩ := Prod.mk.inj he
      clear he
      go_wp2
      go_ret
      exact ⟨rfl, hE15⟩

set_option maxRecDepth 100000 in
theorem liftedDigestParse (os : Os) (started : os.Started) (H : Type) (enc : TypeId × Value → H) :
    ReturnsInHanded {} Tryd.checked os 9 .any (fun w args => (Rows.digestParseSpec.pre enc Tryd.prog Tryd.f9 [] false w args ∧ laidMetH Tryd.prog laidL2 w) ∧ sizedMet enc Tryd.prog Tryd.f9 (OpenSpec.ofChange Rows.digestParseSpec) false w args) (Rows.digestParseSpec.post enc Tryd.prog Tryd.f9 false true false false) := by
  refine returnsInHanded_of_change_and (C := Tryd.checked) (X := fun w _ => laidMetH Tryd.prog laidL2 w) (fun _ _ _ hh h => h.of_heap hh) ownK started (by kernel_rfl) Tryd.func9
    (ChangeSpec.witness_shaped (enc := enc) (C := Tryd.checked) (os := os) (X := fun w _ => laidMetH Tryd.prog laidL2 w) false (World.laidAll Tryd.prog os laidL2) #[.string ⟨#[]⟩, .int .u64 0] 8 (World.laidAll_os _ _ _)
      (World.shaped_of_ZipB (by kernel_rfl) (by kernel_rfl)) (by kernel_rfl) (by kernel_rfl) (by kernel_rfl)
      (by rw [MakeChecks.laidMetH_plain _ _ _ (by kernel_rfl)]; exact laidMet_laidAll _ (by kernel_rfl) (by kernel_rfl))) ?_
  intro W base args ds gs before hval0 hW hcnd hsz0 hL _
  have hT := ne_of_laid hL
  have hval : ∀ (j : Nat) t v, Tryd.f9.params[j]? = some t → args[j]? = some v → Value.okWide Tryd.prog W .any base t v := hval0
  have hW' := hW
  obtain ⟨p, q, hA0, hV, rfl, hfz, hnd⟩ := hW
  have hA : DataW.TrodAll enc Tryd.prog W 0 (fun _ => true) true Tryd.f9.params.toList args.toList ds p := hA0
  have hsz : (DataW.weightsEach Tryd.prog (Tryd.f9.params.toList ++ Rows.digestParseSpec.plain.varTypes Tryd.prog) (ds ++ gs)).all (· ≤ reachBytes) = true := hsz0
  rw [Tryd.params9] at hA hval hsz
  obtain ⟨v0, vs0, d0, ds0, p0, q0, hargs0, rfl, rfl, h0, r0⟩ := trodAll_cons hA
  obtain ⟨v1, vs1, d1, ds1, p1, q1, hargs1, rfl, rfl, h1, r1⟩ := trodAll_cons r0
  obtain ⟨rfl, rfl, rfl⟩ := trodAll_nil r1
  obtain rfl : args = #[v0, v1] := by cases args; simp_all
  obtain ⟨rfl, rfl⟩ := trodVars_none hV
  have k0 := h0
  have lt0 : ∀ x ∈ p0, x.block < W.heap.size := by obtain ⟨m, hm⟩ := k0; exact DataW.trod_lt m _ _ _ hm
  have k1 := h1
  have lt1 : ∀ x ∈ p1, x.block < W.heap.size := by obtain ⟨m, hm⟩ := k1; exact DataW.trod_lt m _ _ _ hm
  obtain ⟨s0, rfl, rfl, rfl, ws0⟩ := Go.ChangeMaps.open_string Tryd.underlying9 (hval 0 9 v0 rfl rfl) h0
  obtain ⟨n1, rfl, rfl, rfl, wn1⟩ := open_int Tryd.underlying22 (hval 1 22 v1 rfl rfl) h1
  obtain ⟨u1, rfl⟩ : ∃ u : Nat, n1 = u := ⟨n1.toNat, by have := bounds_u64 wn1; omega⟩
  have b1 : u1 < 18446744073709551616 := by have := bounds_u64 wn1; omega
  clear hA0 hval0
  refine (parse_walk s0 u1 b1 hT).mono fun e W' ⟨he, bel⟩ => ?_
  subst he
  exact ⟨_, rfl, _, _, _, [], _, [], hW', trodAll_mk1 (shut_bool Tryd.underlying4 _), (trodAll_cons_mk (Go.ChangeMaps.shut_string Tryd.underlying9 ws0) (trodAll_cons_mk (shut_int Tryd.underlying22 wn1) trodAll_mk0)), rfl, Below.frame bel _, fun h => by cases h⟩
theorem DigestParse_row : Rows.DigestParseSaid :=
  OpenClaim.holds_of_wide 9 Tryd.f9 rfl rfl rfl rfl rfl rfl rfl ⟨rfl, rfl, rfl, rfl, rfl⟩ rfl rfl rfl rfl rfl (by kernel_rfl) Tryd.func9 (by kernel_rfl)
    (of_decide_eq_true (by kernel_rfl)) (by unfold Func.isWrapper; rw [if_neg (of_decide_eq_false (by kernel_rfl))]; exact ⟨rfl, rfl⟩)
    (fun os started H enc _ => liftedDigestParse os started H enc)
theorem DigestParse_holds : Rows.DigestParseCardSaid :=
  Claim7.holds_tied_plain_at .later [] Rows.digestParseCard.laidKinds true Rows.digestParseCard.stood.harness Rows.digestParseCard.stood.looks
    DigestParse_row (fun _ h => by cases h) (by kernel_rfl) (fun _ h => by cases h) digestParse_row_tie rfl ⟨rfl, rfl⟩ (by kernel_rfl) rfl
    (fun f fn hf hfn => by
      obtain rfl : f = 9 := Option.some.inj ((show Tryd.prog.funcNamed Rows.digestParseRow.func = some 9 by kernel_rfl).symm.trans hf) |>.symm
      obtain rfl : fn = Tryd.f9 := (Option.some.inj (Tryd.func9.symm.trans hfn)).symm
      exact ⟨by kernel_rfl, fun j t ht => by
        rw [Tryd.params9] at ht
        have hm : t ∈ [9, 22] := by simpa using Array.mem_of_getElem? ht
        have hall : ([9, 22].all fun u => !Tryd.prog.wantsStandIn u) = true := by kernel_rfl
        exact (show Tryd.prog.wantsStandIn t = false by simpa using List.all_eq_true.1 hall t hm)⟩)
    (by kernel_rfl)
#print axioms DigestParse_holds

end Go.Proofs.YtpokkklfiehemaaDoor
