/- If one byte of the bytes of a journal is changed, exactly the events ahead of it are recovered, with an error. No condition. -/
import Derived.Test.YtoghaehcmbonnaaGreatDoorJrnX
import Derived.Test.YtoghaehcmbonnaaGreatDoorJrnEn
import Derived.Test.YtoghaehcmbonnaaGreatDoorJrnV
import Derived.Test.YtoghaehcmbonnaaGreatDoorJrnK
import Derived.Test.YtoghaehcmbonnaaGreatDoorSet
import Derived.Test.YtoghaehcmbonnaaGreatDoorTie
import Derived.Test.YtoghaehcmbonnaaGreatDoorCards
import Derived.Laws.OwnMore
import Derived.ProofKit
import Derived.OpenShut
import Derived.ShutString
import Derived.ChangeOld
import Derived.SizedLaws
namespace Go.Proofs.YtoghaehcmbonnaaGreatDoor
open Go.ChangeShapes Go.WideShapes Go.ChangeAt Go.RowKit
set_option maxRecDepth 100000
attribute [local go_sem] ext_refl_t ext_alloc_t ext_drew_t ext_drewN_t ext_alloc2_t ext_alloc3_t ext_alloc4_t ext_alloc5_t ext_alloc6_t ext_alloc7_t ext_alloc8_t ext_alloc1d_t ext_alloc2d_t ext_alloc3d_t ext_alloc4d_t
theorem few_ok {l : List Ev} (hf : fewJ l = true) : (∀ x ∈ l, sumE x ≤ 2000) ∧ l.length ≤ 20 := by
  unfold fewJ at hf
  rw [Bool.and_eq_true, decide_eq_true_iff, decide_eq_true_iff] at hf
  exact hf
theorem few_okE {l : List Ev} (hf : fewJ l = true) (hg : ∀ x ∈ l, GoodE x) : ∀ x ∈ l, OkE x := fun x hx => ⟨hg x hx, by
  have h1 := (few_ok hf).1 x hx
  have h2 := encE_len x
  unfold sumE at h1
  omega⟩
/-- The last end that is not behind k. -/
def Last (l : List Ev) (k q : Nat) (n : Int) : Prop := -1 ≤ n ∧ n < q ∧ ∀ i : Nat, i < q → (endN l i ≤ k ↔ (i : Int) ≤ n)
theorem Last.zero (l : List Ev) (k : Nat) : Last l k 0 (-1) := ⟨by omega, by omega, fun i hi => by omega⟩
theorem endN_mono {l : List Ev} {i j : Nat} (hij : i ≤ j) (hj : j ≤ l.length) : endN l i ≤ endN l j := by
  induction j with
  | zero => have : i = 0 := by omega
            rw [this]; exact Nat.le_refl _
  | succ j ih =>
    rcases Nat.lt_or_ge i (j + 1) with h | h
    · have h1 := ih (by omega) (by omega)
      have h2 := endN_succ l j (by omega)
      omega
    · have : i = j + 1 := by omega
      rw [this]; exact Nat.le_refl _
theorem Last.yes {l : List Ev} {k q : Nat} {n : Int} (_h : Last l k q n) (hq : q ≤ l.length) (hk : endN l q ≤ k) : Last l k (q + 1) q :=
  ⟨by omega, by omega, fun i hi => ⟨fun _ => by omega, fun _ => Nat.le_trans (endN_mono (by omega) hq) hk⟩⟩
theorem Last.no {l : List Ev} {k q : Nat} {n : Int} (h : Last l k q n) (hk : ¬ endN l q ≤ k) : Last l k (q + 1) n :=
  ⟨h.1, by have := h.2.1; omega, fun i hi => by
    rcases Nat.lt_or_ge i q with h1 | h1
    · exact h.2.2 i h1
    · have : i = q := by omega
      subst this
      exact ⟨fun e => absurd e hk, fun e => by have := h.2.1; omega⟩⟩
theorem magic_dam {l : List UInt8} {k : Nat} {v : UInt8} (h5 : l.take 5 = magicL) (hk : k < 5) (hl : k < l.length) (hv : l[k] ≠ v) : (l.set k v).take 5 ≠ magicL := by
  intro e
  rw [← h5] at e
  have h1 := congrArg (fun x => x[k]?) e
  rw [List.getElem?_take_of_lt hk, List.getElem?_take_of_lt hk, List.getElem?_set_self hl, List.getElem?_eq_getElem hl] at h1
  exact hv (Option.some.inj h1).symm
section
variable {w : World}
set_option maxHeartbeats 6400000 in
theorem dam_walk {A : Option Addr} {m : Nat} (c : Nat) {l : List Ev} (at_ : Nat) (hat : at_ < 65536) (tb : UInt8) (hs : SlC evC 8 w A m l) (hg : ∀ x ∈ l, GdE x) (hmc : m ≤ c) (hTN : PT w ∧ NS w) :
    Calls Tryz.prog 5 #[.slice A m c, .int .u16 (at_ : Int), .int .u8 (tb.toNat : Int)] w fun e w' => e = .returned (.bool true) ∧ Ext w w' := by
  obtain ⟨hT, hN⟩ := hTN
  have HG := Lib.hid hg
  have HL := Lib.hid hs.len
  clear hg
  go_enter Tryz.func5, Tryz.ntmps5
  go_wp2_with (first
    | (go_at_call 7; refine Hid.out ?_))
  refine Hid.mk_ ((awake_jrn hT).mono ?_)
  rintro e w1 ⟨rfl, hE1⟩
  go_wp2_with (first
    | (go_at_call 13; refine Hid.out ?_))
  refine Hid.mk_ ((jfew_any c (hs.ext hE1) (fun x hx => (HG.out x hx).2)).mono ?_)
  rintro e w2 ⟨rfl, hE2⟩
  have hE02 := hE1.trans hE2
  cases hf : fewJ l with
  | false =>
    clear hf
    go_wp2
    go_ret
    exact ⟨rfl, hE02⟩
  | true =>
  have HF := Lib.hid hf
  obtain ⟨hf1, hf2⟩ := few_ok hf
  have HOK : Hid (∀ x ∈ l, OkE x) := few_okE hf fun x hx => (HG.out x hx).1
  have hok := runJ_ok l hf1
  have hends := fun (W : World) (hW : Ext w W) => rends_any c (hs.ext hW) (by rw [HL.out]; exact hf2) hf1 (fun x hx => (HG.out x hx).1)
  have HENDS := Lib.hid hends
  clear hf hf1 hends
  go_wp2_with (first
    | (go_at_call 14; refine Hid.out ?_))
  refine Hid.mk_ ((written_any c (hs.ext hE02) HF.out (fun x hx => (HG.out x hx).1) (hT.ext hE02)).mono ?_)
  rintro e w3 ⟨j, rfl, hJ3, hE3⟩
  have hE03 := hE02.trans hE3
  obtain ⟨-, -, -, hb5, hb6⟩ := hok
  have hm20 : m ≤ 20 := by rw [HL.out]; exact hf2
  go_wp2_with (first
    | (go_at_call 12; refine Hid.out ?_))
  refine Hid.mk_ ((jbytes_any hJ3 (by omega) (by omega)).mono ?_)
  rintro e wz ⟨Az, mz, cz, rfl, hoz, hEz⟩
  have hmz : ¬ (mz : Int) = 0 := by have := hoz.len; omega
  clear hoz
  have hJz := hJ3.ext hEz
  have hE0z := hE03.trans hEz
  go_wp2_with (first
    | (go_at_call 12; refine Hid.out ?_))
  refine Hid.mk_ ((jbytes_any hJz (by omega) (by omega)).mono ?_)
  rintro e w4 ⟨A4, m4, c4, rfl, ho4, hE4⟩
  have hE04 := hE0z.trans hE4
  have hm4 : m4 = (runJ l).bs.length := ho4.len
  obtain ⟨k, hk⟩ : ∃ k, k = at_ % m4 := ⟨_, rfl⟩
  have hkm : k < m4 := by rw [hk]; exact Nat.mod_lt at_ (by omega)
  have hkI : ((at_ : Int) % (m4 : Int)) = (k : Int) := by rw [hk]; simp
  have hkT : (at_ : Int).tmod (m4 : Int) = (k : Int) := by rw [Int.tmod_eq_emod_of_nonneg (by omega)]; exact hkI
  have hat0 : (0 : Int) ≤ (at_ : Int) := by omega
  have hat1 : (at_ : Int) < 65536 := by omega
  have HM4B : Hid (m4 ≤ 50000) := by show _ ≤ _; omega
  have hki : (k : Int) < (m4 : Int) := by omega
  have hk0 : (0 : Int) ≤ (k : Int) := by omega
  have hd0 : ¬ ((m4 : Int) = 0) := by omega
  have hkl : k < (runJ l).bs.length := by omega
  obtain ⟨g4, hA4, hg4, -, hf4, -, -⟩ := ho4.set_ hkm
  have hset := fun (v : UInt8) => ho4.set_ hkm
  obtain ⟨b4, o4, hA4', -, hc4⟩ := ho4.sl.at_ (show 0 < m4 by omega)
  have c4k := hc4 k hkl
  subst hA4
  injection hA4' with hA4'
  injection hA4' with h1 h2
  subst h1 h2
  rw [Nat.zero_add] at c4k
  have HM4 := Lib.hid hm4
  clear hset hc4 hk hJ3 hJz hat hb5 hb6
  by_cases hv : (runJ l).bs[k] = tb
  · rw [hv] at c4k
    clear hm4
    go_wp2
    go_ret
    exact ⟨rfl, hE04⟩
  obtain ⟨z, hzd⟩ : ∃ z : Int, z = ((runJ l).bs[k].toNat : Int) := ⟨_, rfl⟩
  have hzv : ¬ z = (tb.toNat : Int) := fun e => hv (UInt8.toNat_inj.1 (by omega))
  have c4z : w4.cell? ⟨g4, k, none⟩ = some (.int .u8 z) := by rw [hzd]; exact c4k
  have ho5 := ho4.set2 hkm tb rfl
  have hE5 : Ext wz (w4.setCell ⟨g4, k, none⟩ (.int .u8 (tb.toNat : Int))) := hE4.set_ (p := ⟨g4, k, none⟩) hg4 _
  have hE05' := hE0z.trans hE5
  have HL5 : Hid (((runJ l).bs.set k tb).length = m4) := by show _ = _; rw [List.length_set, hm4]
  have hcap := ho5.cap
  have HV : Hid ((runJ l).bs[k] ≠ tb) := hv
  have e9 : (z == (tb.toNat : Int)) = false := by rw [beq_eq_false_iff_ne]; exact hzv
  have e8 : (z != (tb.toNat : Int)) = true := by rw [bne, e9]; rfl
  clear c4k hzd hv ho4 hm4
  go_upto_region 12 with fail
  clear e9 e8 hzv
  go_wp2_with (first
    | (go_at_call 8; refine Hid.out ?_))
  refine Hid.mk_ ((jopen_any c4 ho5.sl hcap (by have := HM4B.out; omega) (hT.ext hE05') (hN.ext hE05')).mono ?_)
  rintro e w5 ⟨⟨j2, L, used, code, rfl, hO5, hJ5⟩, hE6'⟩
  have hE05 := hE05'.trans hE6'
  clear hcap hkI hkT ho5 c4z hf4
  go_wp2_with (first
    | (go_at_call 15; refine Hid.out ?_))
  refine Hid.mk_ ((HENDS.out _ hE05).mono ?_)
  rintro e w6 ⟨A6, m6, c6, rfl, ho6, hE6⟩
  have hE06 := hE05.trans hE6
  have hm6 : m6 = m + 1 := by rw [ho6.len, endsL_len]
  obtain ⟨b6, o6, eA6, _, hc6⟩ := ho6.sl.at_ (show 0 < m6 by omega) (by omega)
  have HC6 : Hid (∀ (i : Nat), i < m + 1 → w6.cell? ⟨b6, o6 + i, none⟩ = some (.int .i64 (endN l i : Int))) := fun i hi => by
    have h1 := hc6 i (by rw [endsL_len]; exact hi) 0 (by omega)
    simp only [endsL_at, intC, List.getElem_cons_zero, Nat.mul_one, Nat.add_zero] at h1
    exact h1
  have HJ6 := Lib.hid (hJ5.ext hE6)
  have HS6 : Hid (SlC evC 8 w6 A m l) := hs.ext hE06
  have HO5 := Lib.hid hO5
  have HE06 := Lib.hid hE06
  have HKM : Hid (k < m4) := hkm
  have HKL : Hid (k < (runJ l).bs.length) := hkl
  subst eA6
  clear ho6 hc6 hJ5 hO5 hE06 hE05 hE05' hE5 hE04 hE03 hE02 hE0z hat0 hat1 hd0 hkm hki
  go_wp2
  go_loopw [14, 15] (fun v i wr => ∃ (q : Nat) (n : Int), q ≤ m6 ∧ v = .int .i64 n ∧ i = .int .i64 q ∧ Hid (Last l k q n) ∧ Hid (Ext w6 wr)) (fun _ i _ => m6 - (intOf i).toNat)
  case atStart => exact ⟨0, -1, Nat.zero_le _, rfl, rfl, Last.zero l k, Ext.refl _⟩
  case round =>
    obtain ⟨q, n, hq, rfl, rfl, HLA, HE⟩ := hrel
    by_cases hlt : q < m6
    · have i1 : (q : Int) < (m6 : Int) := by omega
      obtain ⟨z, hz⟩ : ∃ z, z = endN l q := ⟨_, rfl⟩
      have z0 := later HE.out (HC6.out q (by omega))
      rw [← hz] at z0
      by_cases hzk : z ≤ k
      · have i2 : (z : Int) ≤ (k : Int) := by omega
        have HLB : Hid (Last l k (q + 1) (q : Int)) := HLA.out.yes (by rw [← HL.out]; omega) (by rw [← hz]; exact hzk)
        clear hzk hz
        go_wp2
        go_roundw
        case rel => exact ⟨q + 1, (q : Int), by omega, rfl, by go_num, HLB, HE⟩
        case measure => simp [intOf]; omega
      · have i2 : ¬ (z : Int) ≤ (k : Int) := by omega
        have HLB : Hid (Last l k (q + 1) n) := HLA.out.no (by rw [← hz]; exact hzk)
        clear hzk hz
        go_wp2
        go_roundw
        case rel => exact ⟨q + 1, n, by omega, rfl, by go_num, HLB, HE⟩
        case measure => simp [intOf]; omega
    · have i1 : ¬ (q : Int) < (m6 : Int) := by omega
      have hqm : q = m + 1 := by omega
      rw [hqm] at HLA
      have hem : endN l m = m4 := by unfold endN; rw [List.take_of_length_le (by rw [← HL.out]; exact Nat.le_refl _), HM4.out]
      have HJ := Lib.hid (HJ6.out.ext HE.out)
      have h5m : (runJ l).bs.take 5 = magicL := (FinJ.all l HOK.out).1.1
      by_cases hn0 : n < 0
      · have hk5 : k < 5 := by
          have h1 := HLA.out.2.2 0 (by omega)
          rw [endN_zero] at h1
          omega
        have hne := magic_dam h5m hk5 HKL.out HV.out
        have hO : L = [] ∧ used = 0 ∧ code = 4 := by
          rcases HO5.out with ⟨h1, _⟩ | ⟨_, h2, h3, h4⟩
          · exact absurd h1.1.1 hne
          · exact ⟨h2, h4, h3⟩
        obtain ⟨rfl, rfl, rfl⟩ := hO
        clear hne hk5 h5m hem hqm HO5
        go_wp2_with (first
          | (go_at_call 16; refine Hid.out ?_))
        refine Hid.mk_ ((jlen_any HJ.out).mono ?_)
        rintro e w8 ⟨rfl, hE8⟩
        go_wp2
        go_ret
        exact ⟨rfl, (HE06.out.trans HE.out).trans hE8⟩
      · obtain ⟨r, rfl⟩ : ∃ r : Nat, n = (r : Int) := ⟨n.toNat, by omega⟩
        have hrm : r < m := by
          have h1 := HLA.out.2.2 m (by omega)
          rw [hem] at h1
          have h2 := HKM.out
          have h3 := HLA.out.2.1
          rcases Nat.lt_or_ge r m with h | h
          · exact h
          · have := h1.2 (by omega); omega
        have hr1 : endN l r ≤ k := (HLA.out.2.2 r (by omega)).2 (Int.le_refl _)
        have hr2 : k < endN l (r + 1) := by
          have h1 := HLA.out.2.2 (r + 1) (by omega)
          rcases Nat.lt_or_ge k (endN l (r + 1)) with h2 | h2
          · exact h2
          · have := h1.1 h2; omega
        obtain ⟨e5, hfin, he5⟩ := FinJ.damage HOK.out (by rw [← HL.out]; exact hrm) hr1 hr2 HKL.out HV.out
        have hO : L = l.take r ∧ code ≠ 0 ∧ used = (endN l r : Int) := by
          rcases HO5.out with ⟨h1, h2⟩ | ⟨h1, _⟩
          · obtain ⟨rfl, rfl⟩ := h1.uniq hfin
            exact ⟨rfl, he5, h2⟩
          · exact absurd hfin.1.1 h1
        obtain ⟨rfl, hcode, rfl⟩ := hO
        have hcI : ¬ code = 0 := hcode
        have hLr : (l.take r).length ≤ 1000000 := by rw [List.length_take]; omega
        have HLR := Lib.hid hLr
        have hzr := later HE.out (HC6.out r (by omega))
        obtain ⟨z, hz⟩ : ∃ z, z = endN l r := ⟨_, rfl⟩
        rw [← hz] at hzr ⊢
        have Zr := laters hzr
        have hrI : (r : Int) < (m6 : Int) := by omega
        have hrI0 : ¬ (r : Int) < 0 := by omega
        have hr0 : (0 : Int) ≤ (r : Int) := by omega
        have hrN : r < m6 := by omega
        have hrI2 : (r : Int) < (m : Int) + 1 := by omega
        have hrcI : (r : Int) ≤ (c : Int) := by omega
        have hrc : r ≤ c := by omega
        have qr := fun (W : World) => (cut_runC einfo_ev (A := A) (m := m) (c := c)).2.1 W .i64 r hrc
        have HSR : Hid (SlC evC 8 wr A r (l.take r)) := (HS6.out.ext HE.out).take_ (Nat.le_of_lt hrm)
        have HEX := Lib.hid (HE06.out.trans HE.out)
        clear hcode he5 hfin hr1 hr2 hLr hz hem hqm HO5 hn0 hrm h5m
        go_wp2
        go_region_law
          (go_simp
           first
            | (go_at_call 11; refine (jevents_any (HJ.out.ext (by first | exact Ext.refl _ | exact (Ext.refl _).drew)) HLR.out).mono ?_; rintro e w7 ⟨A7, m7, c7, rfl, ho7, hE7'⟩; have hE7 := Ext.trans (by first | exact Ext.refl wr | exact (Ext.refl wr).drew) hE7')
            | (go_at_call 10; refine (jsame_eq c7 c (ho7.sl.ext (by first | exact Ext.refl _ | exact (Ext.refl _).drew)) (HSR.out.ext (hE7.trans (by first | exact Ext.refl _ | exact (Ext.refl _).drew)))).mono ?_; rintro e w8 ⟨rfl, hE8'⟩; have hE8 := hE7.trans (Ext.trans (by first | exact Ext.refl w7 | exact (Ext.refl w7).drew) hE8'))
            | fail)
        all_goals
          go_wp2
          go_ret
          exact ⟨rfl, HEX.out.trans hE8⟩
end
set_option maxRecDepth 100000 in
theorem liftedJournalDamage (os : Os) (started : os.Started) (H : Type) (enc : TypeId × Value → H) :
    ReturnsInHanded {} Tryz.checked os 5 .any (fun w args => (Rows.journalDamageSpec.pre enc Tryz.prog Tryz.f5 [] false w args ∧ laidMetH Tryz.prog laidZ w) ∧ sizedMet enc Tryz.prog Tryz.f5 (OpenSpec.ofChange Rows.journalDamageSpec) false w args) (Rows.journalDamageSpec.post enc Tryz.prog Tryz.f5 false true false false) := by
  refine returnsInHanded_of_change_and (C := Tryz.checked) (X := fun w _ => laidMetH Tryz.prog laidZ w) (fun _ _ _ hh h => h.of_heap hh) ownK started (by kernel_rfl) Tryz.func5
    (ChangeSpec.witness_shaped (enc := enc) (C := Tryz.checked) (os := os) (X := fun w _ => laidMetH Tryz.prog laidZ w) false (World.laidAll Tryz.prog os laidZ) #[.slice none 0 0, .int .u16 0, .int .u8 0] 8 (World.laidAll_os _ _ _)
      (World.shaped_of_ZipB (by kernel_rfl) (by kernel_rfl)) (by kernel_rfl) (by kernel_rfl) (by kernel_rfl)
      (by rw [MakeChecks.laidMetH_plain _ _ _ (by kernel_rfl)]; exact laidMet_laidAll _ (by kernel_rfl) (by kernel_rfl))) ?_
  intro W base args ds gs before hval0 hW hcnd hsz0 hL _
  have hT := ptns_of_laid hL
  have hval : ∀ (j : Nat) t v, Tryz.f5.params[j]? = some t → args[j]? = some v → Value.okWide Tryz.prog W .any base t v := hval0
  have hW' := hW
  obtain ⟨p, q, hA0, hV, rfl, hfz, hnd⟩ := hW
  have hA : DataW.TrodAll enc Tryz.prog W 0 (fun _ => true) true Tryz.f5.params.toList args.toList ds p := hA0
  have hsz : (DataW.weightsEach Tryz.prog (Tryz.f5.params.toList ++ Rows.journalDamageSpec.plain.varTypes Tryz.prog) (ds ++ gs)).all (· ≤ reachBytes) = true := hsz0
  rw [Tryz.params5] at hA hval hsz
  obtain ⟨v0, vs0, d0, ds0, p0, q0, hargs0, rfl, rfl, h0, r0⟩ := trodAll_cons hA
  obtain ⟨v1, vs1, d1, ds1, p1, q1, hargs1, rfl, rfl, h1, r1⟩ := trodAll_cons r0
  obtain ⟨v2, vs2, d2, ds2, p2, q2, hargs2, rfl, rfl, h2, r2⟩ := trodAll_cons r1
  obtain ⟨rfl, rfl, rfl⟩ := trodAll_nil r2
  obtain rfl : args = #[v0, v1, v2] := by cases args; simp_all
  obtain ⟨rfl, rfl⟩ := trodVars_none hV
  have k0 := h0
  have lt0 : ∀ x ∈ p0, x.block < W.heap.size := by obtain ⟨m, hm⟩ := k0; exact DataW.trod_lt m _ _ _ hm
  obtain ⟨A0, m0, c0, l0, rfl, w0, hg0, hmc0, hcb0⟩ := opn_top_slice Tryz.underlying28 opn_evs (hval 0 28 v0 rfl rfl) h0 (WOk.top hsz (j := 0) rfl rfl)
  obtain ⟨a1, rfl, rfl, rfl, w1⟩ := open_int Tryz.underlying35 (hval 1 35 v1 rfl rfl) h1
  obtain ⟨a2, rfl, rfl, rfl, w2⟩ := open_int Tryz.underlying5 (hval 2 5 v2 rfl rfl) h2
  clear hA0 hval0
  have hb2 := bounds_u8 w2
  have hb1 := bounds_u16 w1
  obtain ⟨k1, rfl⟩ : ∃ u : Nat, a1 = u := ⟨a1.toNat, by omega⟩
  obtain ⟨k2, rfl⟩ : ∃ u : UInt8, a2 = u.toNat := ⟨UInt8.ofNat a2.toNat, by rw [UInt8.toNat_ofNat']; omega⟩
  refine (dam_walk c0 k1 (by omega) k2 w0 hg0 hmc0 hT).mono fun e W' ⟨he, bel⟩ => ?_
  subst he
  exact ⟨_, rfl, _, _, _, [], _, [], hW', trodAll_mk1 (shut_bool Tryz.underlying4 _), (trodAll_cons_mk (Below.trod laidK (by kernel_rfl) (of_decide_eq_true (by kernel_rfl)) k0 bel lt0) (trodAll_cons_mk (shut_int Tryz.underlying35 w1) (trodAll_cons_mk (shut_int Tryz.underlying5 w2) trodAll_mk0))), rfl, Below.frame bel _, fun h => by cases h⟩
theorem JournalDamage_row : Rows.JournalDamageSaid :=
  OpenClaim.holds_of_wide 5 Tryz.f5 rfl rfl rfl rfl rfl rfl rfl ⟨rfl, rfl, rfl, rfl, rfl⟩ rfl rfl rfl rfl rfl (by kernel_rfl) Tryz.func5 (by kernel_rfl)
    (of_decide_eq_true (by kernel_rfl)) (by unfold Func.isWrapper; rw [if_neg (of_decide_eq_false (by kernel_rfl))]; exact ⟨rfl, rfl⟩)
    (fun os started H enc _ => liftedJournalDamage os started H enc)
theorem JournalDamage_holds : Rows.JournalDamageCardSaid :=
  Claim7.holds_tied_plain_at .later [] Rows.journalDamageCard.laidKinds true Rows.journalDamageCard.stood.harness Rows.journalDamageCard.stood.looks
    JournalDamage_row (fun _ h => by cases h) (by kernel_rfl) (fun _ h => by cases h) journalDamage_row_tie rfl ⟨rfl, rfl⟩ (by kernel_rfl) rfl
    (fun f fn hf hfn => by
      obtain rfl : f = 5 := Option.some.inj ((show Tryz.prog.funcNamed Rows.journalDamageRow.func = some 5 by kernel_rfl).symm.trans hf) |>.symm
      obtain rfl : fn = Tryz.f5 := (Option.some.inj (Tryz.func5.symm.trans hfn)).symm
      exact ⟨by kernel_rfl, fun j t ht => by
        rw [Tryz.params5] at ht
        have hm : t ∈ [28, 35, 5] := by simpa using Array.mem_of_getElem? ht
        have hall : ([28, 35, 5].all fun u => !Tryz.prog.wantsStandIn u) = true := by kernel_rfl
        exact (show Tryz.prog.wantsStandIn t = false by simpa using List.all_eq_true.1 hall t hm)⟩)
    (by kernel_rfl)
#print axioms JournalDamage_holds
end Go.Proofs.YtoghaehcmbonnaaGreatDoor
