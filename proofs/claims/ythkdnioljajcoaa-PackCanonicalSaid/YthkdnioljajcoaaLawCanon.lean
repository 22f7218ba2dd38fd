/- The statement PackCanonical holds of every input: the plain law, the walk, and the row. -/
import Derived.Test.YthkdnioljajcoaaAwake
import Derived.Test.YthkdnioljajcoaaOpen
import Derived.ProofKit
import Derived.OpenShut
import Derived.ShutString
import Derived.ChangeOld
import Derived.SizedLaws
namespace Go.Proofs.Ythkdnioljajcoaa
open Go.ChangeShapes Go.WideShapes Go.ChangeAt Go.RowKit

theorem map_flat (l : List (List UInt8)) : ((l.map str).flatMap fun s => encS (bys s)) = l.flatMap encS := by
  induction l with
  | nil => rfl
  | cons a l ih => rw [List.map_cons, List.flatMap_cons, List.flatMap_cons, ih, bys_str]
theorem endE_zero {n a : Nat} {f : Bool} (h : endE n a f = 0) : f = false ∧ a = n := by
  unfold endE at h
  split at h
  · cases h
  · rename_i hc
    refine ⟨?_, ?_⟩
    · cases f
      · rfl
      · exact absurd (.inl rfl) hc
    · exact Decidable.byContradiction fun hh => hc (.inr hh)
theorem stepL_good {most : Int} {bs : List UInt8} {a : Nat} (h : (stepL most bs a false).2.2 = false) : ∃ k, readL most (bs.drop a) = some ((stepL most bs a false).1, k) ∧ (stepL most bs a false).2.1 = a + k := by
  unfold stepL at h ⊢
  rw [if_neg (by simp)] at h ⊢
  cases hr : readL most (bs.drop a) with
  | none => rw [hr] at h; cases h
  | some p => exact ⟨p.2, rfl, rfl⟩
theorem stepI_good {bs : List UInt8} {a : Nat} (h : (stepI bs a false).2.2 = false) : ∃ k, readI (bs.drop a) = some ((stepI bs a false).1, k) ∧ (stepI bs a false).2.1 = a + k := by
  unfold stepI at h ⊢
  rw [if_neg (by simp)] at h ⊢
  cases hr : readI (bs.drop a) with
  | none => rw [hr] at h; cases h
  | some p => exact ⟨p.2, rfl, rfl⟩
theorem canon_L {most : Int} {bs : List UInt8} {L : List (List UInt8) × Nat × Bool} (hL : L = stepL most bs 0 false) (h : endE bs.length L.2.1 L.2.2 = 0) :
    encI (L.1.map str).length ++ ((L.1.map str).flatMap fun s => encS (bys s)) = bs := by
  obtain ⟨h1, h2⟩ := endE_zero h
  subst hL
  obtain ⟨k, hk, hk2⟩ := stepL_good h1
  have h3 := readL_some hk
  rw [List.drop_zero] at h3
  have hk3 : k = bs.length := by omega
  rw [map_flat, List.length_map]
  have h4 := h3.2.1
  rw [hk3, List.take_length] at h4
  exact h4.symm
theorem canon_I {bs : List UInt8} {L : Int × Nat × Bool} (hL : L = stepI bs 0 false) (h : endE bs.length L.2.1 L.2.2 = 0) : InR L.1 ∧ encI L.1 = bs := by
  obtain ⟨h1, h2⟩ := endE_zero h
  subst hL
  obtain ⟨k, hk, hk2⟩ := stepI_good h1
  have h3 := readI_some hk
  rw [List.drop_zero] at h3
  have hk3 : k = bs.length := by omega
  have h4 := h3.2.2
  rw [hk3, List.take_length] at h4
  exact ⟨h3.1, h4.symm⟩


set_option maxHeartbeats 1600000 in
theorem canon_walk {A : Option Addr} {m : Nat} (c : Nat) {l : List UInt8} (w : World) (hb : SlB w A m l) :
    Calls Try.prog 5 #[.slice A m c] w fun e w' => e = .returned (.bool true) ∧ Ext w w' := by
  have hle := hb.le
  by_cases hbig : 300 < m
  · go_enter Try.func5, Try.ntmps5
    go_wp2_with (first
      | (go_at_call 10; refine Hid.out ?_))
    refine Hid.mk_ ((awake_any w).mono ?_)
    rintro e w1 ⟨rfl, hE1⟩
    go_wp2_with (first
      | (go_at_call 10; refine Hid.out ?_))
    refine Hid.mk_ ((awake_any w1).mono ?_)
    rintro e w2 ⟨rfl, hE2⟩
    have hE := hE1.trans hE2
    go_wp2
    go_ret
    exact ⟨rfl, hE⟩
  · obtain ⟨L, hL⟩ : ∃ L, L = stepL 300 l 0 false := ⟨_, rfl⟩
    obtain ⟨I, hI⟩ : ∃ I, I = stepI l 0 false := ⟨_, rfl⟩
    have CL := @canon_L 300 l L hL
    have CI := @canon_I l I hI
    obtain ⟨e1, he1⟩ : ∃ e, e = endE l.length L.2.1 L.2.2 := ⟨_, rfl⟩
    obtain ⟨e2, he2⟩ : ∃ e, e = endE l.length I.2.1 I.2.2 := ⟨_, rfl⟩
    rw [← he1] at CL
    rw [← he2] at CI
    have HL := Lib.hid hL; have HI := Lib.hid hI; have HE1 := Lib.hid he1; have HE2 := Lib.hid he2; have HCL := Lib.hid CL; have HCI := Lib.hid CI
    clear hL hI he1 he2 CL CI
    go_enter Try.func5, Try.ntmps5
    go_wp2_with (first
      | (go_at_call 10; refine Hid.out ?_))
    refine Hid.mk_ ((awake_any w).mono ?_)
    rintro e w1 ⟨rfl, hE1⟩
    have hb1 := hb.ext hE1
    go_wp2_with (first
      | (go_at_call 19; refine Hid.out ?_))
    refine Hid.mk_ ((read_any c hb1).mono ?_)
    rintro e w2 ⟨g1, A2, m2, c2, rfl, hR1, hE2, hg1, _⟩
    go_wp2_with (first
      | (go_at_call 19; refine Hid.out ?_))
    refine Hid.mk_ ((read_any c (hb1.ext hE2)).mono ?_)
    rintro e w3 ⟨g2, A3, m3, c3, rfl, hR2, hE3, hg2, hA3⟩
    have hg12 : g1 < g2 := Nat.lt_of_lt_of_le hR1.blk.lt hg2
    have hR1' := hR1.ext hE3
    have hm2 : m2 ≤ 300 := by have h1 := hR1.rd.len; have h2 := hb.len; omega
    have hE03 : Ext w w3 := (hE1.trans hE2).trans hE3
    have hw1 := hE1.size_le
    go_wp2_with (first
      | (go_at_call 23; refine Hid.out ?_))
    refine Hid.mk_ ((rStrings 300 hR1' (by omega)).mono ?_)
    rintro e w4 ⟨A4, m4, c4, rfl, ho4, hR4, hg4⟩
    rw [← HL.out] at ho4 hR4
    have hE04 : Ext w w4 := hE03.grown hg4 (fun k hk => by injection hk with hk; omega)
    have hR24 := hR2.kept hg4 (by intro e; injection e with e; omega) (ne_of_lt hA3 (fun k hk => by injection hk with hk; have := hR1.blk.lt; omega))
    go_wp2_with (first
      | (go_at_call 22; refine Hid.out ?_))
    refine Hid.mk_ ((end_any hR4).mono ?_)
    rintro e w5 ⟨hE5, rfl⟩
    rw [← HE1.out]
    have hE05 := hE04.trans hE5
    have hR25 := hR24.ext hE5
    by_cases h1 : e1 = 0
    · have hb1 : (e1 == 0) = true := by rw [beq_iff_eq]; exact h1
      have hcl := HCL.out h1
      have HCL2 := Lib.hid hcl
      have hfl : ((L.1.map str).flatMap fun s => encS (bys s)).length ≤ 300 := by
        have h5 := congrArg List.length hcl
        have h6 := hb.len
        rw [List.length_append] at h5
        omega
      have HFL := Lib.hid hfl
      clear h1 hcl hfl
      go_wp2_with (first
        | (go_at_call 15; refine Hid.out ?_))
      refine Hid.mk_ ((packStrs 0 c4 (SlB.nil_ (w := w5)) (ho4.sl.ext hE5) (by have := HFL.out; omega)).mono ?_)
      rintro e w6 ⟨A6, m6, c6, rfl, ho6, hE6⟩
      rw [HCL2.out, List.nil_append] at ho6
      have hE06 := hE05.trans hE6
      go_wp2_with (first
        | (go_at_call 12; refine Hid.out ?_))
      refine Hid.mk_ ((sameB c6 c ho6.sl (hb.ext hE06)).mono ?_)
      rintro e w7 ⟨rfl, hE7⟩
      rw [decide_eq_true (rfl : l = l)]
      have hE07 := hE06.trans hE7
      have hR27 := (hR25.ext hE6).ext hE7
      go_wp2_with (first
        | (go_at_call 24; refine Hid.out ?_))
      refine Hid.mk_ ((rInt hR27).mono ?_)
      rintro e w8 ⟨rfl, hR8, hg8⟩
      rw [← HI.out] at hR8 ⊢
      have hE08 : Ext w w8 := (hE07).grown hg8 (fun k hk => by injection hk with hk; omega)
      go_wp2_with (first
        | (go_at_call 22; refine Hid.out ?_))
      refine Hid.mk_ ((end_any hR8).mono ?_)
      rintro e w9 ⟨hE9, rfl⟩
      rw [← HE2.out]
      have hE09 := hE08.trans hE9
      by_cases h2 : e2 = 0
      · have hb2 : (e2 != 0) = false := by rw [h2]; rfl
        have hci := HCI.out h2
        have hin := hci.1
        have HCI2 := Lib.hid hci.2
        clear h2 hci
        go_wp2_with (first
          | (go_at_call 13; refine Hid.out ?_))
        refine Hid.mk_ ((packInt 0 I.1 (SlB.nil_ (w := w9)) (by omega) hin.1 hin.2).mono ?_)
        rintro e w10 ⟨A10, m10, c10, rfl, ho10, hE10⟩
        rw [HCI2.out, List.nil_append] at ho10
        have hE010 := hE09.trans hE10
        go_wp2_with (first
          | (go_at_call 12; refine Hid.out ?_))
        refine Hid.mk_ ((sameB c10 c ho10.sl (hb.ext hE010)).mono ?_)
        rintro e w11 ⟨rfl, hE11⟩
        rw [decide_eq_true (rfl : l = l)]
        have hE011 := hE010.trans hE11
        go_wp2
        go_ret
        exact ⟨rfl, hE011⟩
      · have hb2 : (e2 != 0) = true := by rw [bne_iff_ne]; exact h2
        clear h2
        go_wp2
        go_ret
        exact ⟨rfl, hE09⟩
    · have hb1 : (e1 == 0) = false := by rw [beq_eq_false_iff_ne]; exact h1
      clear h1
      go_wp2_with (first
        | (go_at_call 24; refine Hid.out ?_))
      refine Hid.mk_ ((rInt hR25).mono ?_)
      rintro e w8 ⟨rfl, hR8, hg8⟩
      rw [← HI.out] at hR8 ⊢
      have hE08 : Ext w w8 := (hE05).grown hg8 (fun k hk => by injection hk with hk; omega)
      go_wp2_with (first
        | (go_at_call 22; refine Hid.out ?_))
      refine Hid.mk_ ((end_any hR8).mono ?_)
      rintro e w9 ⟨hE9, rfl⟩
      rw [← HE2.out]
      have hE09 := hE08.trans hE9
      by_cases h2 : e2 = 0
      · have hb2 : (e2 != 0) = false := by rw [h2]; rfl
        have hci := HCI.out h2
        have hin := hci.1
        have HCI2 := Lib.hid hci.2
        clear h2 hci
        go_wp2_with (first
          | (go_at_call 13; refine Hid.out ?_))
        refine Hid.mk_ ((packInt 0 I.1 (SlB.nil_ (w := w9)) (by omega) hin.1 hin.2).mono ?_)
        rintro e w10 ⟨A10, m10, c10, rfl, ho10, hE10⟩
        rw [HCI2.out, List.nil_append] at ho10
        have hE010 := hE09.trans hE10
        go_wp2_with (first
          | (go_at_call 12; refine Hid.out ?_))
        refine Hid.mk_ ((sameB c10 c ho10.sl (hb.ext hE010)).mono ?_)
        rintro e w11 ⟨rfl, hE11⟩
        rw [decide_eq_true (rfl : l = l)]
        have hE011 := hE010.trans hE11
        go_wp2
        go_ret
        exact ⟨rfl, hE011⟩
      · have hb2 : (e2 != 0) = true := by rw [bne_iff_ne]; exact h2
        clear h2
        go_wp2
        go_ret
        exact ⟨rfl, hE09⟩

set_option maxRecDepth 100000 in
theorem liftedPackCanonical (os : Os) (started : os.Started) (H : Type) (enc : TypeId × Value → H) :
    ReturnsInHanded {} Try.checked os 5 .any (Rows.packCanonicalSpec.pre6 enc Try.prog Try.f5 Rows.packCanonicalRow.domain false) (Rows.packCanonicalSpec.post enc Try.prog Try.f5 false true false false) := by
  refine returnsInHanded_of_change_sized (C := Try.checked) ownK started (by kernel_rfl) Try.func5
    (ChangeSpec.witness6 (enc := enc) (C := Try.checked) false ⟨#[], #[.slice none 0 0], []⟩ 8 (by kernel_rfl) (by kernel_rfl) (by kernel_rfl) (by kernel_rfl)) ?_
  intro W base args ds gs before hval0 hW hcnd hsz0 _
  have hval : ∀ (j : Nat) t v, Try.f5.params[j]? = some t → args[j]? = some v → Value.okWide Try.prog W .any base t v := hval0
  have hW' := hW
  obtain ⟨p, q, hA0, hV, rfl, hfz, hnd⟩ := hW
  have hA : DataW.TrodAll enc Try.prog W 0 (fun _ => true) true Try.f5.params.toList args.toList ds p := hA0
  have hsz : (DataW.weightsEach Try.prog (Try.f5.params.toList ++ Rows.packCanonicalSpec.plain.varTypes Try.prog) (ds ++ gs)).all (· ≤ reachBytes) = true := hsz0
  rw [Try.params5] at hA hval hsz
  obtain ⟨v0, vs0, d0, ds0, p0, q0, hargs0, rfl, rfl, h0, r0⟩ := trodAll_cons hA
  obtain ⟨rfl, rfl, rfl⟩ := trodAll_nil r0
  obtain rfl : args = #[v0] := by cases args; simp_all
  obtain ⟨rfl, rfl⟩ := trodVars_none hV
  have k0 := h0
  have lt0 : ∀ x ∈ p0, x.block < W.heap.size := by obtain ⟨m, hm⟩ := k0; exact DataW.trod_lt m _ _ _ hm
  obtain ⟨A0, m0, c0, l0, rfl, w0, hc0, hb0⟩ := open_bytesK (hval 0 22 v0 rfl rfl) h0 (fun elems spare hd => sized_slice hsz (j := 0) (t := 22) (e := 5) rfl (by rw [hd]; rfl) Try.underlying22) lt0
  clear hA0 hval0
  refine (canon_walk c0 W w0).mono fun e W' ⟨he, bel⟩ => ?_
  subst he
  exact ⟨_, rfl, _, _, _, [], _, [], hW', trodAll_mk1 (shut_bool Try.underlying4 _), (trodAll_cons_mk (Below.trod laidK (by kernel_rfl) (of_decide_eq_true (by kernel_rfl)) k0 bel lt0) trodAll_mk0), rfl, Below.frame bel _, fun h => by cases h⟩
theorem PackCanonical_holds : Rows.PackCanonicalSaid :=
  OpenClaim.holds_of_wide 5 Try.f5 rfl rfl rfl rfl rfl rfl rfl ⟨rfl, rfl, rfl, rfl, rfl⟩ rfl rfl rfl rfl rfl (by kernel_rfl) Try.func5 (by kernel_rfl)
    (of_decide_eq_true (by kernel_rfl)) (by unfold Func.isWrapper; rw [if_neg (of_decide_eq_false (by kernel_rfl))]; exact ⟨rfl, rfl⟩)
    (fun os started H enc _ => liftedPackCanonical os started H enc)

end Go.Proofs.Ythkdnioljajcoaa
