/- The statement PackWrites holds of every input: the walk, and the row. -/
import Derived.Test.YthkdnioljajcoaaAwake
import Derived.Test.YthkdnioljajcoaaOpen
import Derived.ProofKit
import Derived.OpenShut
import Derived.ShutString
import Derived.ChangeOld
import Derived.SizedLaws
namespace Go.Proofs.Ythkdnioljajcoaa
open Go.ChangeShapes Go.WideShapes Go.ChangeAt Go.RowKit

theorem flat_few (ls : List ByteArray) (h : ∀ s ∈ ls, s.size ≤ 200) : (ls.flatMap fun s => encS (bys s)).length ≤ 209 * ls.length := by
  induction ls with
  | nil => simp
  | cons s l ih =>
    have h1 := encS_len s
    have h2 := h s (by simp)
    have h3 := ih (fun t ht => h t (by simp [ht]))
    simp only [List.flatMap_cons, List.length_append, List.length_cons]
    omega

set_option maxHeartbeats 1600000 in
theorem writes_walk {A B : Option Addr} {m k : Nat} (c d : Nat) {l : List UInt8} {ls : List ByteArray} (n : Int) (w : World) (hb : SlB w A m l) (hn : InR n) (hs : SlS w B k ls) :
    Calls Try.prog 3 #[.slice A m c, .int .i64 n, .slice B k d] w fun e w' => e = .returned (.bool true) ∧ Ext w w' := by
  have hle := hb.le
  by_cases hbig : 300 < m
  · go_enter Try.func3, Try.ntmps3
    go_wp2_with (first
      | (go_at_call 10; refine (awake_any w).mono ?_; rintro e w1 ⟨rfl, hE1⟩)
      | (go_at_call 10; refine Hid.out ?_))
    refine Hid.mk_ ((awake_any w1).mono ?_)
    rintro e w2 ⟨rfl, hE2⟩
    have hE := hE1.trans hE2
    go_wp2
    go_ret
    exact ⟨rfl, hE⟩
  · go_enter Try.func3, Try.ntmps3
    go_wp2_with (first
      | (go_at_call 10; refine (awake_any w).mono ?_; rintro e w1 ⟨rfl, hE1⟩)
      | (go_at_call 11; refine Hid.out ?_))
    refine Hid.mk_ ((few_any d (hs.ext hE1)).mono ?_)
    rintro e w2 ⟨rfl, r, rfl, hr⟩
    have HR := Lib.hid hr; clear hr
    cases r
    · go_wp2_with (first
        | (go_at_call 10; refine Hid.out ?_))
      refine Hid.mk_ ((awake_any w1).mono ?_)
      rintro e w2 ⟨rfl, hE2⟩
      have hE := hE1.trans hE2
      go_wp2
      go_ret
      exact ⟨rfl, hE⟩
    · obtain ⟨hk30, hs200⟩ := HR.out rfl
      have HS2 := Lib.hid hs200; clear hs200
      have hfl : (ls.flatMap fun s => encS (bys s)).length ≤ 6270 := by have h1 := flat_few ls HS2.out; have h2 := hs.len; omega
      have HFL := Lib.hid hfl; clear hfl
      have hb1 := hb.ext hE1
      have hs1 := hs.ext hE1
      go_wp2_with (first
        | (go_at_call 13; refine Hid.out ?_))
      refine Hid.mk_ ((packInt c n hb1 (by omega) hn.1 hn.2).mono ?_)
      rintro e w2 ⟨A2, m2, c2, rfl, ho2, hE2⟩
      have hb2 := hb1.ext hE2
      have hm2 : m2 ≤ 309 := by have h1 := ho2.len; have h2 := hb.len; have h3 := encI_length_le n; simp only [List.length_append] at h1; omega
      go_wp2_with (first
        | (at_builtin; refine Hid.out ?_))
      refine Hid.mk_ ?_
      refine appB rfl _ _ rfl (OsB.new_ w2 w2.heap.size (Nat.le_refl _) [] (by simp) _ rfl 0 rfl) rfl (hb2.ext ((Ext.refl _).alloc _)) rfl (by omega) (by simp) ?_
      intro A3 m3 c3 w3 ho3 hg3 hat3
      have hE3 : Ext w2 w3 := ((Ext.refl w2).alloc _).grown hg3 (by intro k hk; simp [ob] at hk; omega)
      have hm3 : m3 ≤ 300 := by have h1 := ho3.len; have h2 := hb.len; simp only [List.nil_append] at h1; omega
      go_wp2_with (first
        | (go_at_call 14; refine Hid.out ?_))
      refine Hid.mk_ ((refInt n hn.1 hn.2).mono ?_)
      rintro e w4 ⟨A4, m4, c4, rfl, ho4, hE4⟩
      have hm4 : m4 ≤ 9 := by have h1 := ho4.len; have h3 := encI_length_le n; omega
      go_wp2_with (first
        | (at_builtin; refine Hid.out ?_))
      refine Hid.mk_ ?_
      refine appB rfl _ _ rfl (ho3.ext hE4) rfl ho4.sl rfl (by omega) (Nat.le_trans hE3.size_le hE4.size_le) ?_
      intro A5 m5 c5 w5 ho5 hg5 hat5
      have hE5 : Ext w2 w5 := (hE3.trans hE4).grown hg5 ho3.ge
      go_wp2_with (first
        | (go_at_call 12; refine Hid.out ?_))
      refine Hid.mk_ ((sameB c2 c5 (ho2.sl.ext hE5) ho5.sl).mono ?_)
      rintro e w6 ⟨rfl, hE6⟩
      have hd1 : decide (l ++ encI n = [] ++ l ++ encI n) = true := by simp
      rw [hd1]
      clear hd1
      have hE16 : Ext w1 w6 := (hE2.trans hE5).trans hE6
      have hb6 := hb1.ext hE16
      have hs6 := hs1.ext hE16
      clear ho2 ho3 ho4 ho5 hg3 hg5 hat3 hat5 hb2
      go_wp2_with (first
        | (go_at_call 15; refine Hid.out ?_))
      refine Hid.mk_ ((packStrs c d hb6 hs6 (by have := HFL.out; omega)).mono ?_)
      rintro e w7 ⟨A7, m7, c7, rfl, ho7, hE7⟩
      have hb7 := hb6.ext hE7
      go_wp2_with (first
        | (at_builtin; refine Hid.out ?_))
      refine Hid.mk_ ?_
      refine appB rfl _ _ rfl (OsB.new_ w7 w7.heap.size (Nat.le_refl _) [] (by simp) _ rfl 0 rfl) rfl (hb7.ext ((Ext.refl _).alloc _)) rfl (by omega) (by simp) ?_
      intro A8 m8 c8 w8 ho8 hg8 hat8
      have hE8 : Ext w7 w8 := ((Ext.refl w7).alloc _).grown hg8 (by intro k hk; simp [ob] at hk; omega)
      have hm8 : m8 ≤ 300 := by have h1 := ho8.len; have h2 := hb.len; simp only [List.nil_append] at h1; omega
      go_wp2_with (first
        | (go_at_call 16; refine Hid.out ?_))
      refine Hid.mk_ ((refStrs d ((hs6.ext hE7).ext hE8) (by have := HFL.out; omega)).mono ?_)
      rintro e w9 ⟨A9, m9, c9, rfl, ho9, hE9⟩
      have hm9 : m9 ≤ 6300 := by have h1 := ho9.len; have h3 := encI_length_le (ls.length : Int); have := HFL.out; simp only [List.length_append] at h1; omega
      go_wp2_with (first
        | (at_builtin; refine Hid.out ?_))
      refine Hid.mk_ ?_
      refine appB rfl _ _ rfl (ho8.ext hE9) rfl ho9.sl rfl (by omega) (Nat.le_trans hE8.size_le hE9.size_le) ?_
      intro A10 m10 c10 w10 ho10 hg10 hat10
      have hE10 : Ext w7 w10 := (hE8.trans hE9).grown hg10 ho8.ge
      go_wp2_with (first
        | (go_at_call 12; refine Hid.out ?_))
      refine Hid.mk_ ((sameB c7 c10 (ho7.sl.ext hE10) ho10.sl).mono ?_)
      rintro e w11 ⟨rfl, hE11⟩
      have hd1 : decide (l ++ (encI ls.length ++ ls.flatMap fun s => encS (bys s)) = [] ++ l ++ (encI ls.length ++ ls.flatMap fun s => encS (bys s))) = true := by simp
      rw [hd1]
      clear hd1
      have hE0 : Ext w w11 := (hE1.trans hE16).trans ((hE7.trans hE10).trans hE11)
      clear ho7 ho8 ho9 ho10 hg8 hg10 hat8 hat10 hb7 hb6 hs6 hE16 hE7 hE10 hE11 hE8 hE9 hE2 hE5 hE3 hE4 hE6
      go_wp2
      go_loopw [7] (fun i wr => ∃ q : Nat, q ≤ k ∧ i = .int .i64 q ∧ Ext w wr) (fun i _ => k - (intOf i).toNat)
      case atStart => exact ⟨0, Nat.zero_le _, rfl, hE0⟩
      case round =>
        obtain ⟨q, hq, rfl, hE⟩ := hrel
        have hbr := hb.ext hE
        have hsr := hs.ext hE
        by_cases hlt : q < k
        · obtain ⟨b, off, rfl, hbl, hc⟩ := hsr.at_ hlt
          have hlt1 : q < ls.length := by rw [← hs.len]; exact hlt
          obtain ⟨s, hsk⟩ : ∃ s, s = ls[q] := ⟨_, rfl⟩
          have hcq := hc q hlt1
          rw [← hsk] at hcq
          have hs200 : s.size ≤ 200 := by rw [hsk]; exact HS2.out _ (List.getElem_mem _)
          have hi1 : (q : Int) < (k : Int) := by omega
          have HSK := Lib.hid hsk; clear hsk hc
          have heq : decide (l ++ encS (bys s) = [] ++ l ++ encS (bys s)) = true := by simp
          have hEd : Ext wr wr.drew := (Ext.refl wr).drew
          have hbd := hbr.ext hEd
          have hEa : Ext wr (wr.alloc (.cells #[] 5)).drew := ((Ext.refl wr).alloc _).drew
          have hba := hbr.ext hEa
          have hob : OsB (wr.alloc (.cells #[] 5)).drew wr.heap.size (some ⟨wr.heap.size, 0, none⟩) 0 0 [] := (OsB.new_ wr wr.heap.size (Nat.le_refl _) [] (by simp) _ rfl 0 rfl).ext (Ext.refl _).drew
          have HEQ := Lib.hid heq; clear heq
          have hml := hb.len
          have HML := Lib.hid hml; clear hml
          go_wp2
          go_region_held3 (fun w' => w'.cell? ⟨b, off + q, none⟩ = some (.string s))
            (first | go_keep | assumption)
            (first
              | (go_at_call 17; refine (packStr c s hbd (by omega)).mono ?_; rintro e w2 ⟨A2, m2, c2, rfl, ho2, hE2⟩; have hE2r : Ext wr w2 := hEd.trans hE2; have hcq2 := cell_later hE2r hcq; have hG := ho2.ge)
              | (go_at_call 17; refine (packStr c s hba (by omega)).mono ?_; rintro e w2 ⟨A2, m2, c2, rfl, ho2, hE2⟩; have hE2r : Ext wr w2 := hEa.trans hE2; have hcq2 := cell_later hE2r hcq; have hob2 := hob.ext hE2; have hG : ∀ k, ob A2 = some k → wr.heap.size + 1 ≤ k := fun k hk => Nat.le_trans (by simp) (ho2.ge k hk))
              | (go_at_call 18; refine (refStr s (by omega)).mono ?_; rintro e w4 ⟨A4, m4, c4, rfl, ho4, hE4⟩; have hcq4 := cell_later hE4 hcq3; have hs4 := hs3.ext hE4)
              | (go_at_call 12; refine (sameB c2 c5 hs5 ho5.sl).mono ?_; rintro e w6 ⟨rfl, hE6⟩; have hcq6 := cell_later hE6 hcq5; rw [HEQ.out])
              | (refine step_appB rfl _ _ rfl (OsB.new_ w2 wr.heap.size hE2r.size_le [] (by simp) _ rfl 0 rfl) rfl ((hbr.ext hE2r).ext ((Ext.refl _).alloc _)) rfl (by omega) (by have := hE2r.size_le; simp; omega) ?_; intro A3 m3 c3 w3 ho3 hg3 hat3; have hE23 : Ext w2 w3 := ((Ext.refl w2).alloc _).grown hg3 (by intro k hk; simp [ob] at hk; omega); have hE3 : Ext wr w3 := hE2r.trans hE23; have hcq3 := cell_later hE3 hcq; have hs3 := ho2.sl.ext hE23; have hne := hat3.ne (fun k hk => by have := ho2.lt k hk; simp; omega) (ne_lt ho2.lt))
              | (refine step_appB rfl _ _ rfl hob2 rfl (hbr.ext hE2r) rfl (by omega) hE2r.size_le ?_; intro A3 m3 c3 w3 ho3 hg3 hat3; have hE3 : Ext wr w3 := hE2r.grown hg3 (by intro k hk; simp [ob] at hk; omega); have hcq3 := cell_later hE3 hcq; have hne0 : ob A2 = none ∨ ob A2 ≠ ob (some ⟨wr.heap.size, 0, none⟩) := ne_of_lt hG (by intro k hk; simp [ob] at hk; omega); have hs3 := ho2.sl.kept hg3 hne0; have hne := hat3.ne ho2.lt hne0)
              | (refine step_appB rfl _ _ rfl (ho3.ext hE4) rfl ho4.sl rfl (by have h1 := ho3.len; have h2 := ho4.len; have h3 := encS_len s; have h4 := HML.out; simp only [List.nil_append] at h1; omega) (hE3.trans hE4).size_le ?_; intro A5 m5 c5 w5 ho5 hg5 hat5; have hE5 : Ext wr w5 := (hE3.trans hE4).grown hg5 ho3.ge; have hcq5 := cell_later hE5 hcq; have hs5 := hs4.kept hg5 hne)
              | fail)
          all_goals
            have hEq : Ext w w6 := (hE.trans hE5).trans hE6
            go_wp2
            go_roundw
            case rel => exact ⟨q + 1, by omega, by go_num, hEq⟩
            case measure => simp [intOf]; omega
        · clear hbr hsr
          go_wp2
          go_ret
          exact ⟨rfl, hE⟩

set_option maxRecDepth 100000 in
theorem liftedPackWrites (os : Os) (started : os.Started) (H : Type) (enc : TypeId × Value → H) :
    ReturnsInHanded {} Try.checked os 3 .any (Rows.packWritesSpec.pre6 enc Try.prog Try.f3 Rows.packWritesRow.domain false) (Rows.packWritesSpec.post enc Try.prog Try.f3 false true false false) := by
  refine returnsInHanded_of_change_sized (C := Try.checked) ownK started (by kernel_rfl) Try.func3
    (ChangeSpec.witness6 (enc := enc) (C := Try.checked) false ⟨#[], #[.slice none 0 0, .int .i64 0, .slice none 0 0], []⟩ 8 (by kernel_rfl) (by kernel_rfl) (by kernel_rfl) (by kernel_rfl)) ?_
  intro W base args ds gs before hval0 hW hcnd hsz0 _
  have hval : ∀ (j : Nat) t v, Try.f3.params[j]? = some t → args[j]? = some v → Value.okWide Try.prog W .any base t v := hval0
  have hW' := hW
  obtain ⟨p, q, hA0, hV, rfl, hfz, hnd⟩ := hW
  have hA : DataW.TrodAll enc Try.prog W 0 (fun _ => true) true Try.f3.params.toList args.toList ds p := hA0
  have hsz : (DataW.weightsEach Try.prog (Try.f3.params.toList ++ Rows.packWritesSpec.plain.varTypes Try.prog) (ds ++ gs)).all (· ≤ reachBytes) = true := hsz0
  rw [Try.params3] at hA hval hsz
  obtain ⟨v0, vs0, d0, ds0, p0, q0, hargs0, rfl, rfl, h0, r0⟩ := trodAll_cons hA
  obtain ⟨v1, vs1, d1, ds1, p1, q1, hargs1, rfl, rfl, h1, r1⟩ := trodAll_cons r0
  obtain ⟨v2, vs2, d2, ds2, p2, q2, hargs2, rfl, rfl, h2, r2⟩ := trodAll_cons r1
  obtain ⟨rfl, rfl, rfl⟩ := trodAll_nil r2
  obtain rfl : args = #[v0, v1, v2] := by cases args; simp_all
  obtain ⟨rfl, rfl⟩ := trodVars_none hV
  have k0 := h0
  have lt0 : ∀ x ∈ p0, x.block < W.heap.size := by obtain ⟨m, hm⟩ := k0; exact DataW.trod_lt m _ _ _ hm
  have k2 := h2
  have lt2 : ∀ x ∈ p2, x.block < W.heap.size := by obtain ⟨m, hm⟩ := k2; exact DataW.trod_lt m _ _ _ hm
  obtain ⟨A0, m0, c0, l0, rfl, w0, hc0, hb0⟩ := open_bytesK (hval 0 22 v0 rfl rfl) h0 (fun elems spare hd => sized_slice hsz (j := 0) (t := 22) (e := 5) rfl (by rw [hd]; rfl) Try.underlying22) lt0
  obtain ⟨a1, rfl, rfl, rfl, w1⟩ := open_int Try.underlying3 (hval 1 3 v1 rfl rfl) h1
  obtain ⟨A2, m2, c2, l2, rfl, w2, hc2⟩ := open_strsK (hval 2 23 v2 rfl rfl) h2 (fun elems spare hd => sized_slice hsz (j := 2) (t := 23) (e := 9) rfl (by rw [hd]; rfl) Try.underlying23)
  clear hA0 hval0
  refine (writes_walk c0 c2 a1 W w0 (bounds_i64 w1) w2).mono fun e W' ⟨he, bel⟩ => ?_
  subst he
  exact ⟨_, rfl, _, _, _, [], _, [], hW', trodAll_mk1 (shut_bool Try.underlying4 _), (trodAll_cons_mk (Below.trod laidK (by kernel_rfl) (of_decide_eq_true (by kernel_rfl)) k0 bel lt0) (trodAll_cons_mk (shut_int Try.underlying3 w1) (trodAll_cons_mk (Below.trod laidK (by kernel_rfl) (of_decide_eq_true (by kernel_rfl)) k2 bel lt2) trodAll_mk0))), rfl, Below.frame bel _, fun h => by cases h⟩
theorem PackWrites_holds : Rows.PackWritesSaid :=
  OpenClaim.holds_of_wide 3 Try.f3 rfl rfl rfl rfl rfl rfl rfl ⟨rfl, rfl, rfl, rfl, rfl⟩ rfl rfl rfl rfl rfl (by kernel_rfl) Try.func3 (by kernel_rfl)
    (of_decide_eq_true (by kernel_rfl)) (by unfold Func.isWrapper; rw [if_neg (of_decide_eq_false (by kernel_rfl))]; exact ⟨rfl, rfl⟩)
    (fun os started H enc _ => liftedPackWrites os started H enc)

end Go.Proofs.Ythkdnioljajcoaa
