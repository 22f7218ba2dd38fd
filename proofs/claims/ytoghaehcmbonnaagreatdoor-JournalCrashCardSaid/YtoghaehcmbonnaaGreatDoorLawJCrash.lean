/- From the beginning of the bytes of a journal, exactly those events are recovered whose frames are complete. No condition. -/
import Derived.Test.YtoghaehcmbonnaaGreatDoorJrnX
import Derived.Test.YtoghaehcmbonnaaGreatDoorJrnEn
import Derived.Test.YtoghaehcmbonnaaGreatDoorJrnV
import Derived.Test.YtoghaehcmbonnaaGreatDoorJrnK
import Derived.Test.YtoghaehcmbonnaaGreatDoorTie
import Derived.Test.YtoghaehcmbonnaaGreatDoorCards
import Derived.Laws.OwnMore
import Derived.ProofKit
import Derived.OpenShut
import Derived.ShutString
import Derived.ChangeOld
import Derived.SizedLaws
namespace Go.Proofs.YtoghaehcmbonnaaGreatDoor
open Go.ChangeShapes Go.WideShapes Go.ChangeAt Go.RowKit
set_option maxRecDepth 100000
attribute [local go_sem] ext_refl_t ext_alloc_t ext_drew_t ext_drewN_t ext_alloc2_t ext_alloc3_t ext_alloc4_t ext_alloc5_t ext_alloc6_t ext_alloc7_t ext_alloc8_t ext_alloc1d_t ext_alloc2d_t ext_alloc3d_t ext_alloc4d_t
theorem few_ok {l : List Ev} (hf : fewJ l = true) : (∀ x ∈ l, sumE x ≤ 2000) ∧ l.length ≤ 20 := by
  unfold fewJ at hf
  rw [Bool.and_eq_true, decide_eq_true_iff, decide_eq_true_iff] at hf
  exact hf
theorem few_okE {l : List Ev} (hf : fewJ l = true) (hg : ∀ x ∈ l, GoodE x) : ∀ x ∈ l, OkE x := fun x hx => ⟨hg x hx, by
  have h1 := (few_ok hf).1 x hx
  have h2 := encE_len x
  unfold sumE at h1
  omega⟩
/-- The last end that is not behind k. -/
def Last (l : List Ev) (k q : Nat) (n : Int) : Prop := -1 ≤ n ∧ n < q ∧ ∀ i : Nat, i < q → (endN l i ≤ k ↔ (i : Int) ≤ n)
def wholeB (l : List Ev) (k : Nat) (n : Int) : Bool := decide (0 ≤ n ∧ endN l n.toNat = k)
theorem Last.zero (l : List Ev) (k : Nat) : Last l k 0 (-1) := ⟨by omega, by omega, fun i hi => by omega⟩
theorem endN_mono {l : List Ev} {i j : Nat} (hij : i ≤ j) (hj : j ≤ l.length) : endN l i ≤ endN l j := by
  induction j with
  | zero => have : i = 0 := by omega
            rw [this]; exact Nat.le_refl _
  | succ j ih =>
    rcases Nat.lt_or_ge i (j + 1) with h | h
    · have h1 := ih (by omega) (by omega)
      have h2 := endN_succ l j (by omega)
      omega
    · have : i = j + 1 := by omega
      rw [this]; exact Nat.le_refl _
theorem Last.yes {l : List Ev} {k q : Nat} {n : Int} (_h : Last l k q n) (hq : q ≤ l.length) (hk : endN l q ≤ k) : Last l k (q + 1) q :=
  ⟨by omega, by omega, fun i hi => ⟨fun _ => by omega, fun _ => Nat.le_trans (endN_mono (by omega) hq) hk⟩⟩
theorem Last.no {l : List Ev} {k q : Nat} {n : Int} (h : Last l k q n) (hk : ¬ endN l q ≤ k) : Last l k (q + 1) n :=
  ⟨h.1, by have := h.2.1; omega, fun i hi => by
    rcases Nat.lt_or_ge i q with h1 | h1
    · exact h.2.2 i h1
    · have : i = q := by omega
      subst this
      exact ⟨fun e => absurd e hk, fun e => by have := h.2.1; omega⟩⟩
section
variable {w : World}
set_option maxHeartbeats 6400000 in
theorem crash_walk {A : Option Addr} {m : Nat} (c : Nat) {l : List Ev} (at_ : Nat) (hat : at_ < 65536) (hs : SlC evC 8 w A m l) (hg : ∀ x ∈ l, GdE x) (hmc : m ≤ c) (hTN : PT w ∧ NS w) :
    Calls Tryz.prog 4 #[.slice A m c, .int .u16 (at_ : Int)] w fun e w' => e = .returned (.bool true) ∧ Ext w w' := by
  obtain ⟨hT, hN⟩ := hTN
  have HG := Lib.hid hg
  have HL := Lib.hid hs.len
  clear hg
  go_enter Tryz.func4, Tryz.ntmps4
  go_wp2_with (first
    | (go_at_call 7; refine Hid.out ?_))
  refine Hid.mk_ ((awake_jrn hT).mono ?_)
  rintro e w1 ⟨rfl, hE1⟩
  go_wp2_with (first
    | (go_at_call 13; refine Hid.out ?_))
  refine Hid.mk_ ((jfew_any c (hs.ext hE1) (fun x hx => (HG.out x hx).2)).mono ?_)
  rintro e w2 ⟨rfl, hE2⟩
  have hE02 := hE1.trans hE2
  cases hf : fewJ l with
  | false =>
    clear hf
    go_wp2
    go_ret
    exact ⟨rfl, hE02⟩
  | true =>
  have HF := Lib.hid hf
  obtain ⟨hf1, hf2⟩ := few_ok hf
  have HOK : Hid (∀ x ∈ l, OkE x) := few_okE hf fun x hx => (HG.out x hx).1
  have hok := runJ_ok l hf1
  have hends := fun (W : World) (hW : Ext w W) => rends_any c (hs.ext hW) (by rw [HL.out]; exact hf2) hf1 (fun x hx => (HG.out x hx).1)
  have HENDS := Lib.hid hends
  clear hf hf1 hends
  go_wp2_with (first
    | (go_at_call 14; refine Hid.out ?_))
  refine Hid.mk_ ((written_any c (hs.ext hE02) HF.out (fun x hx => (HG.out x hx).1) (hT.ext hE02)).mono ?_)
  rintro e w3 ⟨j, rfl, hJ3, hE3⟩
  have hE03 := hE02.trans hE3
  obtain ⟨_, _, _, hb5, hb6⟩ := hok
  have hm20 : m ≤ 20 := by rw [HL.out]; exact hf2
  go_wp2_with (first
    | (go_at_call 12; refine Hid.out ?_))
  refine Hid.mk_ ((jbytes_any hJ3 (by omega) (by omega)).mono ?_)
  rintro e w4 ⟨A4, m4, c4, rfl, ho4, hE4⟩
  have hE04 := hE03.trans hE4
  have hm4 : m4 = (runJ l).bs.length := ho4.len
  obtain ⟨k, hk⟩ : ∃ k, k = at_ % (m4 + 1) := ⟨_, rfl⟩
  have hkm : k ≤ m4 := by rw [hk]; have := Nat.mod_lt at_ (show 0 < m4 + 1 by omega); omega
  have hkI : ((at_ : Int) % ((m4 : Int) + 1)) = (k : Int) := by rw [hk]; simp
  have hkT : (at_ : Int).tmod ((m4 : Int) + 1) = (k : Int) := by rw [Int.tmod_eq_emod_of_nonneg (by omega)]; exact hkI
  have hat0 : (0 : Int) ≤ (at_ : Int) := by omega
  have hat1 : (at_ : Int) < 65536 := by omega
  have hm4b : m4 ≤ 50000 := by omega
  have hki : (k : Int) ≤ (m4 : Int) := by omega
  have hd0 : ¬ ((m4 : Int) + 1 = 0) := by omega
  obtain ⟨A5, _, _, u5, hs5, _⟩ := cut_run ho4.sl (i := 0) (j := k) (by omega) hkm ho4.cap
  have q5 := fun W => u5 W .i64 (k : Int) rfl rfl
  rw [Nat.sub_zero, List.drop_zero] at hs5
  simp only [Nat.sub_zero] at q5
  have hcap := ho4.cap
  have HM4 := Lib.hid hm4
  clear u5 hk hm4 ho4 hJ3
  go_wp2_with (first
    | (go_at_call 8; refine Hid.out ?_))
  refine Hid.mk_ ((jopen_any c4 hs5 (by omega) (by omega) (hT.ext hE04) (hN.ext hE04)).mono ?_)
  rintro e w5 ⟨⟨j2, L, used, code, rfl, hO5, hJ5⟩, hE5⟩
  have hE05 := hE04.trans hE5
  clear q5 hs5 hcap hkI hkT
  go_wp2_with (first
    | (go_at_call 15; refine Hid.out ?_))
  refine Hid.mk_ ((HENDS.out _ hE05).mono ?_)
  rintro e w6 ⟨A6, m6, c6, rfl, ho6, hE6⟩
  have hE06 := hE05.trans hE6
  have hm6 : m6 = m + 1 := by rw [ho6.len, endsL_len]
  obtain ⟨b6, o6, eA6, _, hc6⟩ := ho6.sl.at_ (show 0 < m6 by omega) (by omega)
  have HC6 : Hid (∀ (i : Nat), i < m + 1 → w6.cell? ⟨b6, o6 + i, none⟩ = some (.int .i64 (endN l i : Int))) := fun i hi => by
    have h1 := hc6 i (by rw [endsL_len]; exact hi) 0 (by omega)
    simp only [endsL_at, intC, List.getElem_cons_zero, Nat.mul_one, Nat.add_zero] at h1
    exact h1
  have HJ6 := Lib.hid (hJ5.ext hE6)
  have HS6 : Hid (SlC evC 8 w6 A m l) := hs.ext hE06
  have HO5 := Lib.hid hO5
  have HE06 := Lib.hid hE06
  subst eA6
  have HM4B : Hid (m4 ≤ 50000) := hm4b
  have HB5 : Hid (5 ≤ (runJ l).bs.length) := hb5
  have HKM : Hid (k ≤ m4) := hkm
  clear ho6 hc6 hJ5 hO5 hE06 hE05 hE04 hE03 hE02 hm4b hb5 hb6 hat hat0 hat1 hd0 hkm hki
  go_wp2
  go_loopw [12, 13, 14] (fun v b i wr => ∃ (q : Nat) (n : Int), q ≤ m6 ∧ v = .int .i64 n ∧ b = .bool (wholeB l k n) ∧ i = .int .i64 q ∧ Hid (Last l k q n) ∧ Hid (Ext w6 wr)) (fun _ _ i _ => m6 - (intOf i).toNat)
  case atStart => exact ⟨0, -1, Nat.zero_le _, rfl, rfl, rfl, Last.zero l k, Ext.refl _⟩
  case round =>
    obtain ⟨q, n, hq, rfl, rfl, rfl, HLA, HE⟩ := hrel
    by_cases hlt : q < m6
    · have i1 : (q : Int) < (m6 : Int) := by omega
      obtain ⟨z, hz⟩ : ∃ z, z = endN l q := ⟨_, rfl⟩
      have z0 := later HE.out (HC6.out q (by omega))
      rw [← hz] at z0
      by_cases hzk : z ≤ k
      · have i2 : (z : Int) ≤ (k : Int) := by omega
        have HLB : Hid (Last l k (q + 1) (q : Int)) := HLA.out.yes (by rw [← HL.out]; omega) (by rw [← hz]; exact hzk)
        have HW : Hid (wholeB l k (q : Int) = ((z : Int) == (k : Int))) := by
          show _ = _
          unfold wholeB
          rw [Int.toNat_natCast, ← hz]
          by_cases h : z = k
          · subst h; simp
          · have h2 : ¬ ((z : Int) = (k : Int)) := by omega
            rw [decide_eq_false (by omega)]
            exact (beq_eq_false_iff_ne.2 h2).symm
        have HE2 : Hid (∀ n, Ext w6 (wr.drewN n)) := fun n => HE.out.drewN n
        clear hzk hz
        go_upto_region 17 with fail
        go_quiet (fail)
        go_wp2
        go_roundw
        case rel => exact ⟨q + 1, (q : Int), by omega, rfl, by rw [HW.out], by go_num, HLB, HE2.out _⟩
        case measure => simp [intOf]; omega
      · have i2 : ¬ (z : Int) ≤ (k : Int) := by omega
        have HLB : Hid (Last l k (q + 1) n) := HLA.out.no (by rw [← hz]; exact hzk)
        clear hzk hz
        go_wp2
        go_roundw
        case rel => exact ⟨q + 1, n, by omega, rfl, rfl, by go_num, HLB, HE⟩
        case measure => simp [intOf]; omega
    · have i1 : ¬ (q : Int) < (m6 : Int) := by omega
      have hqm : q = m + 1 := by omega
      rw [hqm] at HLA
      have hzm := later HE.out (HC6.out m (by omega))
      have hem : endN l m = m4 := by unfold endN; rw [List.take_of_length_le (by rw [← HL.out]; exact Nat.le_refl _), HM4.out]
      rw [hem] at hzm
      have hm6I : (m6 : Int) - 1 = (m : Int) := by omega
      have hlast : (m : Int) < (m6 : Int) := by omega
      have hKB : k ≤ (runJ l).bs.length := by rw [← HM4.out]; exact HKM.out
      have htl : ((runJ l).bs.take k).length = k := by rw [List.length_take]; omega
      have HJ := Lib.hid (HJ6.out.ext HE.out)
      by_cases hn0 : n < 0
      · have hk5 : k < 5 := by
          have h1 := HLA.out.2.2 0 (by omega)
          rw [endN_zero] at h1
          omega
        have hO : L = [] ∧ used = 0 ∧ code = 4 := by
          rcases HO5.out with ⟨h1, _⟩ | ⟨_, h2, h3, h4⟩
          · have h2 := congrArg List.length h1.1.1
            rw [List.length_take, htl] at h2
            have h3 : magicL.length = 5 := rfl
            omega
          · exact ⟨h2, h4, h3⟩
        obtain ⟨rfl, rfl, rfl⟩ := hO
        have hW : wholeB l k n = false := by unfold wholeB; exact decide_eq_false (by omega)
        rw [hW]
        clear hW hk5 htl hKB hem hqm HO5
        go_wp2_with (first
          | (go_at_call 16; refine Hid.out ?_))
        refine Hid.mk_ ((jlen_any HJ.out).mono ?_)
        rintro e w8 ⟨rfl, hE8⟩
        go_wp2
        go_ret
        exact ⟨rfl, (HE06.out.trans HE.out).trans hE8⟩
      · obtain ⟨r, rfl⟩ : ∃ r : Nat, n = (r : Int) := ⟨n.toNat, by omega⟩
        have hrm : r ≤ m := by have := HLA.out.2.1; omega
        have hr1 : endN l r ≤ k := (HLA.out.2.2 r (by omega)).2 (Int.le_refl _)
        have hr2 : r < l.length → k < endN l (r + 1) := fun h => by
          have h1 := (HLA.out.2.2 (r + 1) (by rw [← HL.out] at h; omega))
          rcases Nat.lt_or_ge k (endN l (r + 1)) with h2 | h2
          · exact h2
          · have := h1.1 h2; omega
        have hcr := FinJ.crash HOK.out hr1 hr2 hKB
        have hO : L = l.take r ∧ code = (if endN l r = k then 0 else 4) ∧ used = (endN l r : Int) := by
          rcases HO5.out with ⟨h1, h2⟩ | ⟨h1, _⟩
          · obtain ⟨rfl, rfl⟩ := h1.uniq hcr
            exact ⟨rfl, rfl, h2⟩
          · exact absurd hcr.1.1 h1
        obtain ⟨rfl, hcode, rfl⟩ := hO
        have hW : wholeB l k (r : Int) = decide (endN l r = k) := by
          unfold wholeB
          rw [Int.toNat_natCast]
          by_cases h : endN l r = k
          · rw [decide_eq_true h, decide_eq_true ⟨by omega, h⟩]
          · rw [decide_eq_false h, decide_eq_false (fun e => h e.2)]
        have hLr : (l.take r).length ≤ 1000000 := by rw [List.length_take]; omega
        have HLR := Lib.hid hLr
        have hzr := later HE.out (HC6.out r (by omega))
        obtain ⟨z, hz⟩ : ∃ z, z = endN l r := ⟨_, rfl⟩
        rw [← hz] at hzr hW hcode ⊢
        rw [hW]
        have Zr := laters hzr
        have hrI : (r : Int) < (m6 : Int) := by omega
        have hrI0 : ¬ (r : Int) < 0 := by omega
        have hr0 : (0 : Int) ≤ (r : Int) := by omega
        have hrN : r < m6 := by omega
        have hrI2 : (r : Int) < (m : Int) + 1 := by omega
        have hrcI : (r : Int) ≤ (c : Int) := by omega
        have hrc : r ≤ c := by omega
        have qr := fun (W : World) => (cut_runC einfo_ev (A := A) (m := m) (c := c)).2.1 W .i64 r hrc
        have HSR : Hid (SlC evC 8 wr A r (l.take r)) := (HS6.out.ext HE.out).take_ hrm
        have HEX := Lib.hid (HE06.out.trans HE.out)
        by_cases hzk : z = k
        · rw [if_pos hzk] at hcode
          subst hcode
          rw [decide_eq_true hzk]
          clear hzk hW hr1 hr2 hcr hLr hz htl hKB hem hqm HO5 hn0 hrm
          go_wp2
          go_region_law
            (go_simp
             first
              | (go_at_call 11; refine (jevents_any (HJ.out.ext (by first | exact Ext.refl _ | exact (Ext.refl _).drew)) HLR.out).mono ?_; rintro e w7 ⟨A7, m7, c7, rfl, ho7, hE7'⟩; have hE7 := Ext.trans (by first | exact Ext.refl wr | exact (Ext.refl wr).drew) hE7')
              | (go_at_call 10; refine (jsame_eq c7 c (ho7.sl.ext (by first | exact Ext.refl _ | exact (Ext.refl _).drew)) (HSR.out.ext (hE7.trans (by first | exact Ext.refl _ | exact (Ext.refl _).drew)))).mono ?_; rintro e w8 ⟨rfl, hE8'⟩; have hE8 := hE7.trans (Ext.trans (by first | exact Ext.refl w7 | exact (Ext.refl w7).drew) hE8'))
              | fail)
          all_goals
            go_wp2
            go_ret
            exact ⟨rfl, HEX.out.trans hE8⟩
        · rw [if_neg hzk] at hcode
          subst hcode
          rw [decide_eq_false hzk]
          clear hzk hW hr1 hr2 hcr hLr hz htl hKB hem hqm HO5 hn0 hrm
          go_wp2
          go_region_law
            (go_simp
             first
              | (go_at_call 11; refine (jevents_any (HJ.out.ext (by first | exact Ext.refl _ | exact (Ext.refl _).drew)) HLR.out).mono ?_; rintro e w7 ⟨A7, m7, c7, rfl, ho7, hE7'⟩; have hE7 := Ext.trans (by first | exact Ext.refl wr | exact (Ext.refl wr).drew) hE7')
              | (go_at_call 10; refine (jsame_eq c7 c (ho7.sl.ext (by first | exact Ext.refl _ | exact (Ext.refl _).drew)) (HSR.out.ext (hE7.trans (by first | exact Ext.refl _ | exact (Ext.refl _).drew)))).mono ?_; rintro e w8 ⟨rfl, hE8'⟩; have hE8 := hE7.trans (Ext.trans (by first | exact Ext.refl w7 | exact (Ext.refl w7).drew) hE8'))
              | fail)
          all_goals
            go_wp2
            go_ret
            exact ⟨rfl, HEX.out.trans hE8⟩
end
set_option maxRecDepth 100000 in
theorem liftedJournalCrash (os : Os) (started : os.Started) (H : Type) (enc : TypeId × Value → H) :
    ReturnsInHanded {} Tryz.checked os 4 .any (fun w args => (Rows.journalCrashSpec.pre enc Tryz.prog Tryz.f4 [] false w args ∧ laidMetH Tryz.prog laidZ w) ∧ sizedMet enc Tryz.prog Tryz.f4 (OpenSpec.ofChange Rows.journalCrashSpec) false w args) (Rows.journalCrashSpec.post enc Tryz.prog Tryz.f4 false true false false) := by
  refine returnsInHanded_of_change_and (C := Tryz.checked) (X := fun w _ => laidMetH Tryz.prog laidZ w) (fun _ _ _ hh h => h.of_heap hh) ownK started (by kernel_rfl) Tryz.func4
    (ChangeSpec.witness_shaped (enc := enc) (C := Tryz.checked) (os := os) (X := fun w _ => laidMetH Tryz.prog laidZ w) false (World.laidAll Tryz.prog os laidZ) #[.slice none 0 0, .int .u16 0] 8 (World.laidAll_os _ _ _)
      (World.shaped_of_ZipB (by kernel_rfl) (by kernel_rfl)) (by kernel_rfl) (by kernel_rfl) (by kernel_rfl)
      (by rw [MakeChecks.laidMetH_plain _ _ _ (by kernel_rfl)]; exact laidMet_laidAll _ (by kernel_rfl) (by kernel_rfl))) ?_
  intro W base args ds gs before hval0 hW hcnd hsz0 hL _
  have hT := ptns_of_laid hL
  have hval : ∀ (j : Nat) t v, Tryz.f4.params[j]? = some t → args[j]? = some v → Value.okWide Tryz.prog W .any base t v := hval0
  have hW' := hW
  obtain ⟨p, q, hA0, hV, rfl, hfz, hnd⟩ := hW
  have hA : DataW.TrodAll enc Tryz.prog W 0 (fun _ => true) true Tryz.f4.params.toList args.toList ds p := hA0
  have hsz : (DataW.weightsEach Tryz.prog (Tryz.f4.params.toList ++ Rows.journalCrashSpec.plain.varTypes Tryz.prog) (ds ++ gs)).all (· ≤ reachBytes) = true := hsz0
  rw [Tryz.params4] at hA hval hsz
  obtain ⟨v0, vs0, d0, ds0, p0, q0, hargs0, rfl, rfl, h0, r0⟩ := trodAll_cons hA
  obtain ⟨v1, vs1, d1, ds1, p1, q1, hargs1, rfl, rfl, h1, r1⟩ := trodAll_cons r0
  obtain ⟨rfl, rfl, rfl⟩ := trodAll_nil r1
  obtain rfl : args = #[v0, v1] := by cases args; simp_all
  obtain ⟨rfl, rfl⟩ := trodVars_none hV
  have k0 := h0
  have lt0 : ∀ x ∈ p0, x.block < W.heap.size := by obtain ⟨m, hm⟩ := k0; exact DataW.trod_lt m _ _ _ hm
  obtain ⟨A0, m0, c0, l0, rfl, w0, hg0, hmc0, hcb0⟩ := opn_top_slice Tryz.underlying28 opn_evs (hval 0 28 v0 rfl rfl) h0 (WOk.top hsz (j := 0) rfl rfl)
  obtain ⟨a1, rfl, rfl, rfl, w1⟩ := open_int Tryz.underlying35 (hval 1 35 v1 rfl rfl) h1
  clear hA0 hval0
  have hb1 := bounds_u16 w1
  obtain ⟨k1, rfl⟩ : ∃ u : Nat, a1 = u := ⟨a1.toNat, by omega⟩
  refine (crash_walk c0 k1 (by omega) w0 hg0 hmc0 hT).mono fun e W' ⟨he, bel⟩ => ?_
  subst he
  exact ⟨_, rfl, _, _, _, [], _, [], hW', trodAll_mk1 (shut_bool Tryz.underlying4 _), (trodAll_cons_mk (Below.trod laidK (by kernel_rfl) (of_decide_eq_true (by kernel_rfl)) k0 bel lt0) (trodAll_cons_mk (shut_int Tryz.underlying35 w1) trodAll_mk0)), rfl, Below.frame bel _, fun h => by cases h⟩
theorem JournalCrash_row : Rows.JournalCrashSaid :=
  OpenClaim.holds_of_wide 4 Tryz.f4 rfl rfl rfl rfl rfl rfl rfl ⟨rfl, rfl, rfl, rfl, rfl⟩ rfl rfl rfl rfl rfl (by kernel_rfl) Tryz.func4 (by kernel_rfl)
    (of_decide_eq_true (by kernel_rfl)) (by unfold Func.isWrapper; rw [if_neg (of_decide_eq_false (by kernel_rfl))]; exact ⟨rfl, rfl⟩)
    (fun os started H enc _ => liftedJournalCrash os started H enc)
theorem JournalCrash_holds : Rows.JournalCrashCardSaid :=
  Claim7.holds_tied_plain_at .later [] Rows.journalCrashCard.laidKinds true Rows.journalCrashCard.stood.harness Rows.journalCrashCard.stood.looks
    JournalCrash_row (fun _ h => by cases h) (by kernel_rfl) (fun _ h => by cases h) journalCrash_row_tie rfl ⟨rfl, rfl⟩ (by kernel_rfl) rfl
    (fun f fn hf hfn => by
      obtain rfl : f = 4 := Option.some.inj ((show Tryz.prog.funcNamed Rows.journalCrashRow.func = some 4 by kernel_rfl).symm.trans hf) |>.symm
      obtain rfl : fn = Tryz.f4 := (Option.some.inj (Tryz.func4.symm.trans hfn)).symm
      exact ⟨by kernel_rfl, fun j t ht => by
        rw [Tryz.params4] at ht
        have hm : t ∈ [28, 35] := by simpa using Array.mem_of_getElem? ht
        have hall : ([28, 35].all fun u => !Tryz.prog.wantsStandIn u) = true := by kernel_rfl
        exact (show Tryz.prog.wantsStandIn t = false by simpa using List.all_eq_true.1 hall t hm)⟩)
    (by kernel_rfl)
#print axioms JournalCrash_holds
end Go.Proofs.YtoghaehcmbonnaaGreatDoor
