/- The statement PackPrefix holds of every input: the plain law, the walk, and the row. -/
import Derived.Test.YthkdnioljajcoaaAwake
import Derived.Test.YthkdnioljajcoaaOpen
import Derived.ProofKit
import Derived.OpenShut
import Derived.ShutString
import Derived.ChangeOld
import Derived.SizedLaws
namespace Go.Proofs.Ythkdnioljajcoaa
open Go.ChangeShapes Go.WideShapes Go.ChangeAt Go.RowKit

theorem flat_few' (ls : List ByteArray) (h : ∀ s ∈ ls, s.size ≤ 200) : (ls.flatMap fun s => encS (bys s)).length ≤ 209 * ls.length := by
  induction ls with
  | nil => simp
  | cons s l ih =>
    have h1 := encS_len s
    have h2 := h s (by simp)
    have h3 := ih (fun t ht => h t (by simp [ht]))
    simp only [List.flatMap_cons, List.length_append, List.length_cons]
    omega
theorem encL_bys (ls : List ByteArray) : encL (ls.map bys) = encI ls.length ++ ls.flatMap fun s => encS (bys s) := by
  rw [encL, List.length_map, List.flatMap_map]
/-- No proper beginning of an encoding is one. -/
theorem prefix_I (n : Int) (hn : InR n) (j : Nat) (hj : j < (encI n).length) : stepI ((encI n).take j) 0 false = (0, 0, true) := by
  have hnone : readI ((encI n).take j) = none := by
    cases hr : readI ((encI n).take j) with
    | none => rfl
    | some p =>
      exfalso
      obtain ⟨n', k'⟩ := p
      have h1 := readI_some hr
      have h2 := readI_len hr
      rw [List.length_take] at h2
      have h3 : encI n = encI n' ++ (encI n).drop k' := by
        rw [← h1.2.2, List.take_take, Nat.min_eq_left (by omega), List.take_append_drop]
      have h4 := readI_enc n' h1.1 ((encI n).drop k')
      rw [← h3] at h4
      have h5 := readI_enc n hn []
      rw [List.append_nil] at h5
      rw [h4] at h5
      injection h5 with h5
      injection h5 with _ h6
      omega
  unfold stepI
  rw [if_neg (by simp), List.drop_zero, hnone]
theorem prefix_L (ls : List ByteArray) (h30 : ls.length ≤ 30) (h2 : ∀ s ∈ ls, s.size ≤ 200) (j : Nat) (hj : j < (encI ls.length ++ ls.flatMap fun s => encS (bys s)).length) :
    stepL 30 ((encI ls.length ++ ls.flatMap fun s => encS (bys s)).take j) 0 false = ([], 0, true) := by
  rw [← encL_bys] at hj ⊢
  have hsz : ∀ s ∈ ls.map bys, s.length ≤ 9223372036854775807 := by
    intro s hs
    obtain ⟨t, ht, rfl⟩ := List.mem_map.1 hs
    have := h2 t ht
    rw [bys_len]; omega
  have hnone : readL 30 ((encL (ls.map bys)).take j) = none := by
    cases hr : readL 30 ((encL (ls.map bys)).take j) with
    | none => rfl
    | some p =>
      exfalso
      obtain ⟨l', k'⟩ := p
      have h1 := readL_some hr
      have hk := h1.2.2.1
      rw [List.length_take] at hk
      have h3 : encL (ls.map bys) = encL l' ++ (encL (ls.map bys)).drop k' := by
        rw [← h1.2.1, List.take_take, Nat.min_eq_left (by omega), List.take_append_drop]
      have hsz' : ∀ s ∈ l', s.length ≤ 9223372036854775807 := by
        intro s hs
        have ha : s.length ≤ (l'.flatMap encS).length := by
          clear hr h1 h3 hk
          induction l' with
          | nil => cases hs
          | cons a l ih =>
            rw [List.flatMap_cons, List.length_append]
            rcases List.mem_cons.1 hs with rfl | hs
            · rw [encS, List.length_append]; omega
            · have := ih hs; omega
        have hb : (encL l').length = k' := h1.1.symm
        rw [encL, List.length_append] at hb
        have hc := flat_few' ls h2
        have hd := encI_length_le (ls.length : Int)
        rw [encL_bys, List.length_append] at hj hk
        omega
      have h4 := readL_enc l' 30 h1.2.2.2 (by have := h1.2.2.2; omega) hsz' ((encL (ls.map bys)).drop k')
      rw [← h3] at h4
      have h5 := readL_enc (ls.map bys) 30 (by simp; omega) (by simp; omega) hsz []
      rw [List.append_nil] at h5
      rw [h4] at h5
      injection h5 with h5
      injection h5 with _ h6
      omega
  unfold stepL
  rw [if_neg (by simp), List.drop_zero, hnone]

set_option maxHeartbeats 1600000 in
theorem prefix_walk {B : Option Addr} {k : Nat} (d : Nat) {ls : List ByteArray} (n : Int) (t : Nat) (w : World) (hn : InR n) (hs : SlS w B k ls) (ht : t ≤ 65535) :
    Calls Try.prog 6 #[.int .i64 n, .slice B k d, .int .u16 t] w fun e w' => e = .returned (.bool true) ∧ Ext w w' := by
  go_enter Try.func6, Try.ntmps6
  go_wp2_with (first
    | (go_at_call 10; refine Hid.out ?_))
  refine Hid.mk_ ((awake_any w).mono ?_)
  rintro e w1 ⟨rfl, hE1⟩
  go_wp2_with (first
    | (go_at_call 11; refine Hid.out ?_))
  refine Hid.mk_ ((few_any d (hs.ext hE1)).mono ?_)
  rintro e w2 ⟨rfl, r, rfl, hr⟩
  have HR := Lib.hid hr; clear hr
  cases r
  ·
    go_wp2_with (first
      | (go_at_call 10; refine Hid.out ?_))
    refine Hid.mk_ ((awake_any w1).mono ?_)
    rintro e w2 ⟨rfl, hE2⟩
    have hE := hE1.trans hE2
    go_wp2
    go_ret
    exact ⟨rfl, hE⟩
  · obtain ⟨hk30, hs200⟩ := HR.out rfl
    clear HR
    have hls := hs.len
    have hfl : (ls.flatMap fun s => encS (bys s)).length ≤ 6270 := by have h1 := flat_few' ls hs200; omega
    have PI := Lib.hid (prefix_I n hn)
    have PL := Lib.hid (prefix_L ls (by omega) hs200)
    have HFL := Lib.hid hfl
    clear hs200 hfl hls
    have hs1 := hs.ext hE1
    go_wp2_with (first
      | (go_at_call 13; refine Hid.out ?_))
    refine Hid.mk_ ((packInt 0 n (SlB.nil_ (w := w1)) (by omega) hn.1 hn.2).mono ?_)
    rintro e w2 ⟨A2, m2, c2, rfl, ho2, hE2⟩
    rw [List.nil_append] at ho2
    go_wp2_with (first
      | (go_at_call 15; refine Hid.out ?_))
    refine Hid.mk_ ((packStrs 0 d (SlB.nil_ (w := w2)) (hs1.ext hE2) (by have := HFL.out; omega)).mono ?_)
    rintro e w3 ⟨A3, m3, c3, rfl, ho3, hE3⟩
    rw [List.nil_append] at ho3
    have hm2 : 0 < m2 ∧ m2 ≤ 9 := by have h1 := ho2.len; have h2 := encI_length_pos n; have h3 := encI_length_le n; omega
    have hm3 : 0 < m3 ∧ m3 ≤ 6279 := by have h1 := ho3.len; have h2 := encI_length_pos (ls.length : Int); have h3 := encI_length_le (ls.length : Int); have h4 := HFL.out; simp only [List.length_append] at h1; omega
    have hz2 : ((m2 : Int) == 0) = false := by rw [beq_eq_false_iff_ne]; omega
    have hz3 : ((m3 : Int) == 0) = false := by rw [beq_eq_false_iff_ne]; omega
    obtain ⟨hp2, hq2⟩ := hm2
    obtain ⟨hp3, hq3⟩ := hm3
    have hj2 := Nat.mod_lt t hp2
    have hj3 := Nat.mod_lt t hp3
    have hE03 : Ext w w3 := (hE1.trans hE2).trans hE3
    have ho23 := ho2.ext hE3
    obtain ⟨B2, _, _, hr2, hs2, _⟩ := cut_run ho23.sl (i := 0) (j := t % m2) (by omega) (by omega) ho23.cap
    obtain ⟨B3, _, _, hr3, hs3, _⟩ := cut_run ho3.sl (i := 0) (j := t % m3) (by omega) (by omega) ho3.cap
    rw [List.drop_zero, Nat.sub_zero] at hs2 hs3
    have hsl2 := fun W => (hr2 W .i64 ((t % m2 : Nat) : Int) rfl rfl).1
    have hsm2 := fun W => (hr2 W .i64 ((t % m2 : Nat) : Int) rfl rfl).2
    have hsl3 := fun W => (hr3 W .i64 ((t % m3 : Nat) : Int) rfl rfl).1
    have hsm3 := fun W => (hr3 W .i64 ((t % m3 : Nat) : Int) rfl rfl).2
    have htm2 : (t : Int).tmod (m2 : Int) = ((t % m2 : Nat) : Int) := by rw [Int.ofNat_tmod]
    have htm3 : (t : Int).tmod (m3 : Int) = ((t % m3 : Nat) : Int) := by rw [Int.ofNat_tmod]
    have hne2 : ¬ m2 = 0 := by omega
    have hne3 : ¬ m3 = 0 := by omega
    rw [Nat.sub_zero, Nat.sub_zero] at hsl2 hsl3 hsm2 hsm3
    have pI := PI.out (t % m2) (by rw [← ho2.len]; exact hj2)
    have pL := PL.out (t % m3) (by rw [← ho3.len]; exact hj3)
    have HpI := Lib.hid pI
    have HpL := Lib.hid pL
    obtain ⟨x2, hx2⟩ : ∃ x, x = (encI n).take (t % m2) := ⟨_, rfl⟩
    obtain ⟨x3, hx3⟩ : ∃ x, x = (encI ls.length ++ ls.flatMap fun s => encS (bys s)).take (t % m3) := ⟨_, rfl⟩
    rw [← hx2] at hs2 HpI
    rw [← hx3] at hs3 HpL
    obtain ⟨j2, hj2e⟩ : ∃ j, j = t % m2 := ⟨_, rfl⟩
    obtain ⟨j3, hj3e⟩ : ∃ j, j = t % m3 := ⟨_, rfl⟩
    rw [← hj2e] at hsl2 hsm2 hs2 hj2 htm2
    rw [← hj3e] at hsl3 hsm3 hs3 hj3 htm3
    have hcap2 := ho23.cap
    have hc20 : ¬ c2 = 0 := by omega
    have hc30 : ¬ c3 = 0 := by have := ho3.cap; omega
    have hn21 : j2 ≤ c2 := by omega
    have hn31 : j3 ≤ c3 := by have := ho3.cap; omega
    have hcap3 := ho3.cap
    have hi20 : (0 : Int) ≤ (j2 : Int) := by omega
    have hi30 : (0 : Int) ≤ (j3 : Int) := by omega
    have hi21 : (j2 : Int) ≤ (c2 : Int) := by omega
    have hi31 : (j3 : Int) ≤ (c3 : Int) := by omega
    have hwt : IntKind.i64.wrap (t : Int) = (t : Int) := IntWalk.i64_in _ (by omega)
    clear hr2 hr3 pI pL hx2 hx3 PI PL HFL hj2e hj3e
    go_wp2_with fail
    go_region_held3 (fun _ => True) (first | trivial) (first
      | (go_at_call 19; refine (read_any c2 (hs2.ext (Ext.refl w3).drew)).mono ?_; rintro e w4 ⟨g1, A4, m4, c4, rfl, hR1, hE4, hg1, hA4⟩)
      | (go_at_call 19; refine (read_any c3 ((hs3.ext (Ext.refl w3).drew).ext hE4)).mono ?_; rintro e w5 ⟨g2, A5, m5, c5, rfl, hR2, hE5, hg2, hA5⟩)
      | fail)
    clear hwt htm2 htm3 hsl2 hsl3 hsm2 hsm3
    have hw3 := hE03.size_le
    have hd3 : Ext w3 w3.drew := (Ext.refl w3).drew
    have hg12 : g1 < g2 := Nat.lt_of_lt_of_le hR1.blk.lt hg2
    have hR1' := hR1.ext hE5
    have hwg1 : w.heap.size ≤ g1 := Nat.le_trans hw3 hg1
    have hE05 : Ext w w5 := ((hE03.trans hd3).trans hE4).trans hE5
    have hg1l := hR1.blk.lt
    have hx3 : x3.length = j3 := hs3.len.symm
    have hm5 : m5 ≤ 6279 := by have h1 := hR2.rd.len; omega
    have HX3 := Lib.hid hx3; clear hx3
    go_wp2_with (first
      | (go_at_call 24; refine Hid.out ?_))
    refine Hid.mk_ ((rInt hR1').mono ?_)
    rintro e w6 ⟨rfl, hR6, hg6⟩
    rw [HpI.out] at hR6 ⊢
    have hE06 : Ext w w6 := hE05.grown hg6 (fun k hk => by injection hk with hk; omega)
    have hR26 := hR2.kept hg6 (by intro e; injection e with e; omega) (ne_of_lt hA5 (fun k hk => by injection hk with hk; omega))
    go_wp2_with (first
      | (go_at_call 23; refine Hid.out ?_))
    refine Hid.mk_ ((rStrings 30 hR26 (by omega)).mono ?_)
    rintro e w7 ⟨A7, m7, c7, rfl, ho7, hR7, hg7⟩
    rw [HpL.out] at ho7 hR7
    have hE07 : Ext w w7 := hE06.grown hg7 (fun k hk => by injection hk with hk; omega)
    have hm7 : m7 = 0 := ho7.len
    subst hm7
    have hR67 := hR6.kept hg7 (by intro e; injection e with e; omega) (ne_of_lt' (fun k hk => hR1.alt k hk) (fun k hk => by injection hk with hk; omega))
    have he1 : endE x2.length 0 true = 4 := by simp [endE]
    have he2 : endE x3.length 0 true = 4 := by simp [endE]
    have HE1 := Lib.hid he1
    have HE2 := Lib.hid he2
    clear he1 he2
    go_wp2_with (first
      | (go_at_call 22; refine Hid.out ?_))
    refine Hid.mk_ ((end_any hR67).mono ?_)
    rintro e w8 ⟨hE8, rfl⟩
    rw [HE1.out]
    go_wp2_with (first
      | (go_at_call 22; refine Hid.out ?_))
    refine Hid.mk_ ((end_any (hR7.ext hE8)).mono ?_)
    rintro e w9 ⟨hE9, rfl⟩
    rw [HE2.out]
    have hE09 := (hE07.trans hE8).trans hE9
    go_wp2_with (first
      | (go_at_call 21; refine Hid.out ?_))
    refine Hid.mk_ ((offset_any ((hR67.ext hE8).ext hE9)).mono ?_)
    rintro e w10 ⟨rfl, rfl⟩
    go_wp2_with (first
      | (go_at_call 21; refine Hid.out ?_))
    refine Hid.mk_ ((offset_any ((hR7.ext hE8).ext hE9)).mono ?_)
    rintro e w10 ⟨rfl, rfl⟩
    go_wp2
    go_ret
    exact ⟨rfl, hE09⟩

set_option maxRecDepth 100000 in
theorem liftedPackPrefix (os : Os) (started : os.Started) (H : Type) (enc : TypeId × Value → H) :
    ReturnsInHanded {} Try.checked os 6 .any (Rows.packPrefixSpec.pre6 enc Try.prog Try.f6 Rows.packPrefixRow.domain false) (Rows.packPrefixSpec.post enc Try.prog Try.f6 false true false false) := by
  refine returnsInHanded_of_change_sized (C := Try.checked) ownK started (by kernel_rfl) Try.func6
    (ChangeSpec.witness6 (enc := enc) (C := Try.checked) false ⟨#[], #[.int .i64 0, .slice none 0 0, .int .u16 0], []⟩ 8 (by kernel_rfl) (by kernel_rfl) (by kernel_rfl) (by kernel_rfl)) ?_
  intro W base args ds gs before hval0 hW hcnd hsz0 _
  have hval : ∀ (j : Nat) t v, Try.f6.params[j]? = some t → args[j]? = some v → Value.okWide Try.prog W .any base t v := hval0
  have hW' := hW
  obtain ⟨p, q, hA0, hV, rfl, hfz, hnd⟩ := hW
  have hA : DataW.TrodAll enc Try.prog W 0 (fun _ => true) true Try.f6.params.toList args.toList ds p := hA0
  have hsz : (DataW.weightsEach Try.prog (Try.f6.params.toList ++ Rows.packPrefixSpec.plain.varTypes Try.prog) (ds ++ gs)).all (· ≤ reachBytes) = true := hsz0
  rw [Try.params6] at hA hval hsz
  obtain ⟨v0, vs0, d0, ds0, p0, q0, hargs0, rfl, rfl, h0, r0⟩ := trodAll_cons hA
  obtain ⟨v1, vs1, d1, ds1, p1, q1, hargs1, rfl, rfl, h1, r1⟩ := trodAll_cons r0
  obtain ⟨v2, vs2, d2, ds2, p2, q2, hargs2, rfl, rfl, h2, r2⟩ := trodAll_cons r1
  obtain ⟨rfl, rfl, rfl⟩ := trodAll_nil r2
  obtain rfl : args = #[v0, v1, v2] := by cases args; simp_all
  obtain ⟨rfl, rfl⟩ := trodVars_none hV
  have k1 := h1
  have lt1 : ∀ x ∈ p1, x.block < W.heap.size := by obtain ⟨m, hm⟩ := k1; exact DataW.trod_lt m _ _ _ hm
  obtain ⟨a0, rfl, rfl, rfl, w0⟩ := open_int Try.underlying3 (hval 0 3 v0 rfl rfl) h0
  obtain ⟨A1, m1, c1, l1, rfl, w1, hc1⟩ := open_strsK (hval 1 23 v1 rfl rfl) h1 (fun elems spare hd => sized_slice hsz (j := 1) (t := 23) (e := 9) rfl (by rw [hd]; rfl) Try.underlying23)
  obtain ⟨a2, rfl, rfl, rfl, w2⟩ := open_int Try.underlying43 (hval 2 43 v2 rfl rfl) h2
  clear hA0 hval0
  obtain ⟨t, rfl⟩ := Int.eq_ofNat_of_zero_le (bounds_u16 w2).1
  refine (prefix_walk c1 a0 t W (bounds_i64 w0) w1 (by have := (bounds_u16 w2).2; omega)).mono fun e W' ⟨he, bel⟩ => ?_
  subst he
  exact ⟨_, rfl, _, _, _, [], _, [], hW', trodAll_mk1 (shut_bool Try.underlying4 _), (trodAll_cons_mk (shut_int Try.underlying3 w0) (trodAll_cons_mk (Below.trod laidK (by kernel_rfl) (of_decide_eq_true (by kernel_rfl)) k1 bel lt1) (trodAll_cons_mk (shut_int Try.underlying43 w2) trodAll_mk0))), rfl, Below.frame bel _, fun h => by cases h⟩
theorem PackPrefix_holds : Rows.PackPrefixSaid :=
  OpenClaim.holds_of_wide 6 Try.f6 rfl rfl rfl rfl rfl rfl rfl ⟨rfl, rfl, rfl, rfl, rfl⟩ rfl rfl rfl rfl rfl (by kernel_rfl) Try.func6 (by kernel_rfl)
    (of_decide_eq_true (by kernel_rfl)) (by unfold Func.isWrapper; rw [if_neg (of_decide_eq_false (by kernel_rfl))]; exact ⟨rfl, rfl⟩)
    (fun os started H enc _ => liftedPackPrefix os started H enc)

end Go.Proofs.Ythkdnioljajcoaa
