/- After appending events, Events, Len and Bytes return the specified results; changing what was returned changes nothing. No condition. -/
import Derived.Test.YtoghaehcmbonnaaDoorJrnO
import Derived.Test.YtoghaehcmbonnaaDoorJrnK
import Derived.Test.YtoghaehcmbonnaaDoorJrnT
import Derived.Test.YtoghaehcmbonnaaDoorTie
import Derived.Test.YtoghaehcmbonnaaDoorCards
import Derived.Laws.OwnMore
import Derived.ProofKit
import Derived.OpenShut
import Derived.ShutString
import Derived.ChangeOld
import Derived.SizedLaws
namespace Go.Proofs.YtoghaehcmbonnaaDoor
open Go.ChangeShapes Go.WideShapes Go.ChangeAt Go.RowKit
set_option maxRecDepth 100000
attribute [local go_sem] ext_refl_t ext_alloc_t ext_drew_t ext_drewN_t ext_alloc2_t ext_alloc3_t ext_alloc4_t ext_alloc5_t ext_alloc6_t ext_alloc7_t ext_alloc8_t ext_alloc1d_t ext_alloc2d_t ext_alloc3d_t ext_alloc4d_t
theorem OsB.at0 {w : World} {base : Nat} {A : Option Addr} {m c : Nat} {l : List UInt8} (h : OsB w base A m c l) (hm : 0 < m) :
    ∃ (g : Nat) (b : UInt8), A = some ⟨g, 0, none⟩ ∧ base ≤ g ∧ w.cell? ⟨g, 0, none⟩ = some (.int .u8 (b.toNat : Int)) ∧ w.frozen? ⟨g, 0, none⟩ = false := by
  have hl := h.len
  obtain ⟨g, cap, hv, hb, hlt⟩ := World.ownsRow.form h.own (by omega)
  injection hv with hA hm hc
  subst hA hc
  have ho := h.own
  refine ⟨g, l[0], rfl, hb, ?_, World.ownsRow.frozenAt ho 0⟩
  rw [World.ownsRow.cellAt ho 0 (by omega), List.getElem?_map, List.getElem?_eq_getElem (by omega)]
  rfl
theorem OsC.at0 {w : World} {base : Nat} {A : Option Addr} {m c : Nat} {l : List Ev} (h : OsC evC 31 8 w base A m c l) (hm : 0 < m) :
    ∃ (g : Nat) (x : Int), A = some ⟨g, 0, none⟩ ∧ base ≤ g ∧ w.cell? ⟨g, 0, none⟩ = some (.int .i64 x) ∧ w.frozen? ⟨g, 0, none⟩ = false := by
  have hl := h.len
  obtain ⟨g, cur, rfl, hge, hh, _⟩ := h.row hm
  obtain ⟨b, off, hA, _, hc⟩ := h.sl.at_ hm (by omega)
  injection hA with hA
  injection hA with h1 h2
  subst h1 h2
  exact ⟨g, (l[0]).kind, rfl, hge, hc 0 (by omega) 0 (by omega), Blk.frozen (t := 31) (cs := cur) hh 0⟩
section
variable {w : World}
set_option maxHeartbeats 3200000 in
theorem jbytes_walk {A : Option Addr} {m : Nat} (c : Nat) {l : List Ev} (hs : SlC evC 8 w A m l) (hg : ∀ x ∈ l, GdE x) (hT : PT w) :
    Calls Tryd.prog 3 #[.slice A m c] w fun e w' => e = .returned (.bool true) ∧ Ext w w' := by
  have HG := Lib.hid hg
  clear hg
  go_enter Tryd.func3, Tryd.ntmps3
  go_wp2_with (first
    | (go_at_call 6; refine Hid.out ?_))
  refine Hid.mk_ ((awake_jrn hT).mono ?_)
  rintro e w1 ⟨rfl, hE1⟩
  go_wp2_with (first
    | (go_at_call 7; refine Hid.out ?_))
  refine Hid.mk_ ((jfew_any c (hs.ext hE1) (fun x hx => (HG.out x hx).2)).mono ?_)
  rintro e w2 ⟨rfl, hE2⟩
  have hE02 := hE1.trans hE2
  cases hf : fewJ l with
  | false =>
    clear hf
    go_wp2
    go_ret
    exact ⟨rfl, hE02⟩
  | true =>
  have HF := Lib.hid hf
  have hff : l.length ≤ 20 := by
    unfold fewJ at hf
    rw [Bool.and_eq_true, decide_eq_true_iff, decide_eq_true_iff] at hf
    exact hf.2
  have hok := runJ_ok l (by
    unfold fewJ at hf
    rw [Bool.and_eq_true, decide_eq_true_iff, decide_eq_true_iff] at hf
    exact hf.1)
  clear hf
  go_wp2_with (first
    | (go_at_call 8; refine Hid.out ?_))
  refine Hid.mk_ ((written_any c (hs.ext hE02) HF.out (fun x hx => (HG.out x hx).1) (hT.ext hE02)).mono ?_)
  rintro e w3 ⟨j, rfl, hJ3, hE3⟩
  have hE03 := hE02.trans hE3
  obtain ⟨_, _, _, hb5, hb6⟩ := hok
  go_wp2_with (first
    | (go_at_call 9; refine Hid.out ?_))
  refine Hid.mk_ ((jbytes_any hJ3 (by omega) (by omega)).mono ?_)
  rintro e w4 ⟨A4, m4, c4, rfl, ho4, hE4⟩
  have hE34 := hE4
  have HBS := Lib.hid (show (runJ l).bs.length = m4 from ho4.len.symm)
  obtain ⟨S, hS⟩ : ∃ S, S = str (runJ l).bs := ⟨_, rfl⟩
  have HS := Lib.hid hS
  have HB5 : Hid (1 ≤ (runJ l).bs.length) := by show _ ≤ _; omega
  have HB6 : Hid ((runJ l).bs.length ≤ 100000000) := by show _ ≤ _; omega
  have HL : Hid ((m : Int) = (l.length : Int)) := by show _ = _; rw [hs.len]
  have HGE : Hid (∀ x ∈ l, GoodE x) := fun x hx => (HG.out x hx).1
  have hm4 : 0 < m4 := by have := HBS.out; omega
  obtain ⟨g4, b0, rfl, hg4, hc4, hf4⟩ := ho4.at0 hm4
  have hi4 : (0 : Int) < (m4 : Int) := by omega
  have HE5 : Hid (∀ v, Ext w3 (w4.setCell ⟨g4, 0, none⟩ v)) := fun v => hE4.set_ (p := ⟨g4, 0, none⟩) hg4 v
  clear hS hb5 hb6 ho4
  go_wp2_with (first
    | (go_at_call 10; refine Hid.out ?_))
  refine Hid.mk_ ((jevents_any (hJ3.ext (HE5.out _)) (by omega)).mono ?_)
  rintro e w6 ⟨A6, m6, c6, rfl, ho6, hE6⟩
  have hE36 := (HE5.out _).trans hE6
  have hm6 : m6 = l.length := ho6.len
  by_cases hm0 : 0 < m6
  · obtain ⟨g6, x0, rfl, hg6, hc6, hf6⟩ := ho6.at0 hm0
    have hg63 : w3.heap.size ≤ g6 := Nat.le_trans (HE5.out (.int .u8 0)).size_le (by simpa using hg6)
    have hi6 : (0 : Int) < (m6 : Int) := by omega
    have hE37' : ∀ v, Ext w3 (w6.setCell ⟨g6, 0, none⟩ v) := fun v => hE36.set_ (p := ⟨g6, 0, none⟩) hg63 v
    clear hm6 hm0 ho6 hc4 hf4
    go_wp2
    go_region_law
      (go_simp
       first
        | (go_at_call 10; refine (jevents_any (hJ3.ext ((hE37' _).trans (by first | exact Ext.refl _ | exact (Ext.refl _).drew))) (by omega)).mono ?_; rintro e w7 ⟨A7, m7, c7, rfl, ho7, hE7⟩; have hE37 := (hE37' _).trans (Ext.trans (by first | exact Ext.refl _ | exact (Ext.refl _).drew) hE7); have hE07 := hE03.trans hE37)
        | (go_at_call 11; refine (jsame_eq c7 c (ho7.sl.ext (by first | exact Ext.refl _ | exact (Ext.refl _).drew)) (hs.ext (hE07.trans (by first | exact Ext.refl _ | exact (Ext.refl _).drew)))).mono ?_; rintro e w8 ⟨rfl, hE8'⟩; have hE8 : Ext w7 w8 := Ext.trans (by first | exact Ext.refl _ | exact (Ext.refl _).drew) hE8'; have hE38 := hE37.trans hE8; have hE08 := hE07.trans hE8)
        | (go_at_call 12; refine (jlen_any (hJ3.ext (hE38.trans (by first | exact Ext.refl _ | exact (Ext.refl _).drew)))).mono ?_; rintro e w9 ⟨rfl, hE9'⟩; rw [← HL.out]; have hE9 : Ext w8 w9 := Ext.trans (by first | exact Ext.refl _ | exact (Ext.refl _).drew) hE9'; have hE39 := hE38.trans hE9; have hE09 := hE08.trans hE9)
        | (go_at_call 9; refine (jbytes_any (hJ3.ext (hE39.trans (by first | exact Ext.refl _ | exact (Ext.refl _).drew))) HB5.out HB6.out).mono ?_; rintro e wa ⟨Aa, ma, ca, rfl, hoa, hEa'⟩; have hEa : Ext w9 wa := Ext.trans (by first | exact Ext.refl _ | exact (Ext.refl _).drew) hEa'; have hE3a := hE39.trans hEa; have hE0a := hE09.trans hEa; have HCA : ∀ W, Ext wa W → (convert 27 9 (.slice Aa ma ca)).run Tryd.prog W = .ok (.string S) W := fun W hE => by rw [HS.out]; exact conv_str (hoa.sl.ext hE) _)
        | (go_at_call 13; refine (rbytes_any c (hs.ext (hE0a.trans (by first | exact Ext.refl _ | exact (Ext.refl _).drew))) HF.out HGE.out).mono ?_; rintro e wb ⟨Ab, mb, cb, rfl, hsb, _, hEb'⟩; have hEb : Ext wa wb := Ext.trans (by first | exact Ext.refl _ | exact (Ext.refl _).drew) hEb'; have hE0b := hE0a.trans hEb; have HCB : ∀ W, Ext wb W → (convert 27 9 (.slice Ab mb cb)).run Tryd.prog W = .ok (.string S) W := fun W hE => by rw [HS.out]; exact conv_str (hsb.ext hE) _)
        | fail)
    all_goals
      go_wp2
      go_ret
      exact ⟨rfl, hE0b⟩
  · have hi6 : ¬ (0 : Int) < (m6 : Int) := by omega
    clear hm6 hm0 ho6 hc4 hf4
    go_wp2
    go_region_law
      (go_simp
       first
        | (go_at_call 10; refine (jevents_any (hJ3.ext (hE36.trans (by first | exact Ext.refl _ | exact (Ext.refl _).drew))) (by omega)).mono ?_; rintro e w7 ⟨A7, m7, c7, rfl, ho7, hE7⟩; have hE37 := hE36.trans (Ext.trans (by first | exact Ext.refl _ | exact (Ext.refl _).drew) hE7); have hE07 := hE03.trans hE37)
        | (go_at_call 11; refine (jsame_eq c7 c (ho7.sl.ext (by first | exact Ext.refl _ | exact (Ext.refl _).drew)) (hs.ext (hE07.trans (by first | exact Ext.refl _ | exact (Ext.refl _).drew)))).mono ?_; rintro e w8 ⟨rfl, hE8'⟩; have hE8 : Ext w7 w8 := Ext.trans (by first | exact Ext.refl _ | exact (Ext.refl _).drew) hE8'; have hE38 := hE37.trans hE8; have hE08 := hE07.trans hE8)
        | (go_at_call 12; refine (jlen_any (hJ3.ext (hE38.trans (by first | exact Ext.refl _ | exact (Ext.refl _).drew)))).mono ?_; rintro e w9 ⟨rfl, hE9'⟩; rw [← HL.out]; have hE9 : Ext w8 w9 := Ext.trans (by first | exact Ext.refl _ | exact (Ext.refl _).drew) hE9'; have hE39 := hE38.trans hE9; have hE09 := hE08.trans hE9)
        | (go_at_call 9; refine (jbytes_any (hJ3.ext (hE39.trans (by first | exact Ext.refl _ | exact (Ext.refl _).drew))) HB5.out HB6.out).mono ?_; rintro e wa ⟨Aa, ma, ca, rfl, hoa, hEa'⟩; have hEa : Ext w9 wa := Ext.trans (by first | exact Ext.refl _ | exact (Ext.refl _).drew) hEa'; have hE3a := hE39.trans hEa; have hE0a := hE09.trans hEa; have HCA : ∀ W, Ext wa W → (convert 27 9 (.slice Aa ma ca)).run Tryd.prog W = .ok (.string S) W := fun W hE => by rw [HS.out]; exact conv_str (hoa.sl.ext hE) _)
        | (go_at_call 13; refine (rbytes_any c (hs.ext (hE0a.trans (by first | exact Ext.refl _ | exact (Ext.refl _).drew))) HF.out HGE.out).mono ?_; rintro e wb ⟨Ab, mb, cb, rfl, hsb, _, hEb'⟩; have hEb : Ext wa wb := Ext.trans (by first | exact Ext.refl _ | exact (Ext.refl _).drew) hEb'; have hE0b := hE0a.trans hEb; have HCB : ∀ W, Ext wb W → (convert 27 9 (.slice Ab mb cb)).run Tryd.prog W = .ok (.string S) W := fun W hE => by rw [HS.out]; exact conv_str (hsb.ext hE) _)
        | fail)
    all_goals
      go_wp2
      go_ret
      exact ⟨rfl, hE0b⟩
end
set_option maxRecDepth 100000 in
theorem liftedJournalBytes (os : Os) (started : os.Started) (H : Type) (enc : TypeId × Value → H) :
    ReturnsInHanded {} Tryd.checked os 3 .any (fun w args => (Rows.journalBytesSpec.pre enc Tryd.prog Tryd.f3 [] false w args ∧ laidMetH Tryd.prog laidL57 w) ∧ sizedMet enc Tryd.prog Tryd.f3 (OpenSpec.ofChange Rows.journalBytesSpec) false w args) (Rows.journalBytesSpec.post enc Tryd.prog Tryd.f3 false true false false) := by
  refine returnsInHanded_of_change_and (C := Tryd.checked) (X := fun w _ => laidMetH Tryd.prog laidL57 w) (fun _ _ _ hh h => h.of_heap hh) ownK started (by kernel_rfl) Tryd.func3
    (ChangeSpec.witness_shaped (enc := enc) (C := Tryd.checked) (os := os) (X := fun w _ => laidMetH Tryd.prog laidL57 w) false (World.laidAll Tryd.prog os laidL57) #[.slice none 0 0] 8 (World.laidAll_os _ _ _)
      (World.shaped_of_ZipB (by kernel_rfl) (by kernel_rfl)) (by kernel_rfl) (by kernel_rfl) (by kernel_rfl)
      (by rw [MakeChecks.laidMetH_plain _ _ _ (by kernel_rfl)]; exact laidMet_laidAll _ (by kernel_rfl) (by kernel_rfl))) ?_
  intro W base args ds gs before hval0 hW hcnd hsz0 hL _
  have hT := pt_of_laid hL
  have hval : ∀ (j : Nat) t v, Tryd.f3.params[j]? = some t → args[j]? = some v → Value.okWide Tryd.prog W .any base t v := hval0
  have hW' := hW
  obtain ⟨p, q, hA0, hV, rfl, hfz, hnd⟩ := hW
  have hA : DataW.TrodAll enc Tryd.prog W 0 (fun _ => true) true Tryd.f3.params.toList args.toList ds p := hA0
  have hsz : (DataW.weightsEach Tryd.prog (Tryd.f3.params.toList ++ Rows.journalBytesSpec.plain.varTypes Tryd.prog) (ds ++ gs)).all (· ≤ reachBytes) = true := hsz0
  rw [Tryd.params3] at hA hval hsz
  obtain ⟨v0, vs0, d0, ds0, p0, q0, hargs0, rfl, rfl, h0, r0⟩ := trodAll_cons hA
  obtain ⟨rfl, rfl, rfl⟩ := trodAll_nil r0
  obtain rfl : args = #[v0] := by cases args; simp_all
  obtain ⟨rfl, rfl⟩ := trodVars_none hV
  have k0 := h0
  have lt0 : ∀ x ∈ p0, x.block < W.heap.size := by obtain ⟨m, hm⟩ := k0; exact DataW.trod_lt m _ _ _ hm
  obtain ⟨A0, m0, c0, l0, rfl, w0, hg0, hmc0, hcb0⟩ := opn_top_slice Tryd.underlying22 opn_evs (hval 0 22 v0 rfl rfl) h0 (WOk.top hsz (j := 0) rfl rfl)
  clear hA0 hval0
  refine (jbytes_walk c0 w0 hg0 hT).mono fun e W' ⟨he, bel⟩ => ?_
  subst he
  exact ⟨_, rfl, _, _, _, [], _, [], hW', trodAll_mk1 (shut_bool Tryd.underlying4 _), (trodAll_cons_mk (Below.trod laidK (by kernel_rfl) (of_decide_eq_true (by kernel_rfl)) k0 bel lt0) trodAll_mk0), rfl, Below.frame bel _, fun h => by cases h⟩
theorem JournalBytes_row : Rows.JournalBytesSaid :=
  OpenClaim.holds_of_wide 3 Tryd.f3 rfl rfl rfl rfl rfl rfl rfl ⟨rfl, rfl, rfl, rfl, rfl⟩ rfl rfl rfl rfl rfl (by kernel_rfl) Tryd.func3 (by kernel_rfl)
    (of_decide_eq_true (by kernel_rfl)) (by unfold Func.isWrapper; rw [if_neg (of_decide_eq_false (by kernel_rfl))]; exact ⟨rfl, rfl⟩)
    (fun os started H enc _ => liftedJournalBytes os started H enc)
theorem JournalBytes_holds : Rows.JournalBytesCardSaid :=
  Claim7.holds_tied_plain_at .later [] Rows.journalBytesCard.laidKinds true Rows.journalBytesCard.stood.harness Rows.journalBytesCard.stood.looks
    JournalBytes_row (fun _ h => by cases h) (by kernel_rfl) (fun _ h => by cases h) journalBytes_row_tie rfl ⟨rfl, rfl⟩ (by kernel_rfl) rfl
    (fun f fn hf hfn => by
      obtain rfl : f = 3 := Option.some.inj ((show Tryd.prog.funcNamed Rows.journalBytesRow.func = some 3 by kernel_rfl).symm.trans hf) |>.symm
      obtain rfl : fn = Tryd.f3 := (Option.some.inj (Tryd.func3.symm.trans hfn)).symm
      exact ⟨by kernel_rfl, fun j t ht => by
        rw [Tryd.params3] at ht
        have hm : t ∈ [22] := by simpa using Array.mem_of_getElem? ht
        have hall : ([22].all fun u => !Tryd.prog.wantsStandIn u) = true := by kernel_rfl
        exact (show Tryd.prog.wantsStandIn t = false by simpa using List.all_eq_true.1 hall t hm)⟩)
    (by kernel_rfl)
#print axioms JournalBytes_holds
end Go.Proofs.YtoghaehcmbonnaaDoor
