/- The statement PackInverse holds of every input: the plain law, the walk, and the row. -/
import Derived.Test.YthkdnioljajcoaaAwake
import Derived.Test.YthkdnioljajcoaaSameS
import Derived.Test.YthkdnioljajcoaaOpen
import Derived.ProofKit
import Derived.OpenShut
import Derived.ShutString
import Derived.ChangeOld
import Derived.SizedLaws
namespace Go.Proofs.Ythkdnioljajcoaa
open Go.ChangeShapes Go.WideShapes Go.ChangeAt Go.RowKit

theorem flat_fewI (ls : List ByteArray) (h : ∀ s ∈ ls, s.size ≤ 200) : (ls.flatMap fun s => encS (bys s)).length ≤ 209 * ls.length := by
  induction ls with
  | nil => simp
  | cons s l ih =>
    have h1 := encS_len s
    have h2 := h s (by simp)
    have h3 := ih (fun t ht => h t (by simp [ht]))
    simp only [List.flatMap_cons, List.length_append, List.length_cons]
    omega
theorem encL_bysI (ls : List ByteArray) : encL (ls.map bys) = encI ls.length ++ ls.flatMap fun s => encS (bys s) := by
  rw [encL, List.length_map, List.flatMap_map]
/-- All the bytes that the statement writes. -/
def allB (n : Int) (ls : List ByteArray) (rest : List UInt8) : List UInt8 :=
  encI n ++ (encI ls.length ++ ls.flatMap fun s => encS (bys s)) ++ (ls.flatMap fun s => encS (bys s)) ++ rest
theorem map_str_bys (ls : List ByteArray) : (ls.map bys).map str = ls := by
  rw [List.map_map]
  have : (str ∘ bys) = id := by funext s; exact str_bys s
  rw [this, List.map_id]
theorem inv_I (n : Int) (hn : InR n) (ls : List ByteArray) (rest : List UInt8) : stepI (allB n ls rest) 0 false = (n, (encI n).length, false) := by
  unfold stepI allB
  rw [if_neg (by simp), List.drop_zero, List.append_assoc, List.append_assoc, readI_enc n hn]
  simp
theorem inv_L (n : Int) (ls : List ByteArray) (rest : List UInt8) (h30 : ls.length ≤ 30) (h2 : ∀ s ∈ ls, s.size ≤ 200) :
    stepL ls.length (allB n ls rest) (encI n).length false = (ls.map bys, (encI n).length + (encI ls.length ++ ls.flatMap fun s => encS (bys s)).length, false) := by
  have hsz : ∀ s ∈ ls.map bys, s.length ≤ 9223372036854775807 := by
    intro s hs
    obtain ⟨t, ht, rfl⟩ := List.mem_map.1 hs
    have := h2 t ht
    rw [bys_len]; omega
  unfold stepL allB
  rw [if_neg (by simp), List.append_assoc, List.append_assoc, List.drop_left, ← encL_bysI, readL_enc (ls.map bys) _ (by simp) (by simp; omega) hsz]
theorem inv_S (n : Int) (ls : List ByteArray) (rest : List UInt8) (h2 : ∀ s ∈ ls, s.size ≤ 200) (q : Nat) (hq : q < ls.length) :
    stepS (allB n ls rest) ((encI n ++ (encI ls.length ++ ls.flatMap fun s => encS (bys s))).length + ((ls.take q).flatMap fun s => encS (bys s)).length) false =
      (bys ls[q], (encI n ++ (encI ls.length ++ ls.flatMap fun s => encS (bys s))).length + ((ls.take (q + 1)).flatMap fun s => encS (bys s)).length, false) := by
  have e1 : (ls.flatMap fun s => encS (bys s)) = ((ls.take q).flatMap fun s => encS (bys s)) ++ (encS (bys ls[q]) ++ (ls.drop (q + 1)).flatMap fun s => encS (bys s)) := by
    conv => lhs; rw [← List.take_append_drop q ls, List.flatMap_append, List.drop_eq_getElem_cons hq, List.flatMap_cons]
  unfold stepS allB
  rw [if_neg (by simp)]
  have e2 : (encI n ++ (encI ls.length ++ ls.flatMap fun s => encS (bys s)) ++ (ls.flatMap fun s => encS (bys s)) ++ rest).drop ((encI n ++ (encI ls.length ++ ls.flatMap fun s => encS (bys s))).length + ((ls.take q).flatMap fun s => encS (bys s)).length) =
      encS (bys ls[q]) ++ (((ls.drop (q + 1)).flatMap fun s => encS (bys s)) ++ rest) := by
    rw [← List.drop_drop, List.append_assoc, List.drop_left]
    conv => lhs; rw [e1]
    rw [List.append_assoc, List.drop_left, List.append_assoc]
  rw [e2, readS_enc _ (by rw [bys_len]; have := h2 ls[q] (List.getElem_mem _); omega)]
  simp only [flat_snoc ls q hq, List.length_append]
  simp
  omega

set_option maxHeartbeats 3200000 in
theorem inv_walk {A B : Option Addr} {k m : Nat} (c d : Nat) {ls : List ByteArray} {rest : List UInt8} (n : Int) (w : World) (hn : InR n) (hs : SlS w B k ls) (hb : SlB w A m rest) :
    Calls Try.prog 7 #[.int .i64 n, .slice B k d, .slice A m c] w fun e w' => e = .returned (.bool true) ∧ Ext w w' := by
  have hle := hb.le
  go_enter Try.func7, Try.ntmps7
  go_wp2_with (first
    | (go_at_call 10; refine Hid.out ?_))
  refine Hid.mk_ ((awake_any w).mono ?_)
  rintro e w1 ⟨rfl, hE1⟩
  go_wp2_with (first
    | (go_at_call 11; refine Hid.out ?_))
  refine Hid.mk_ ((few_any d (hs.ext hE1)).mono ?_)
  rintro e w2 ⟨rfl, r, rfl, hr⟩
  have HR := Lib.hid hr; clear hr
  by_cases hbig : r = false ∨ 300 < m
  · have hE1' : Ext w w1 := hE1
    cases r
    ·
      go_wp2_with (first
        | (go_at_call 10; refine Hid.out ?_))
      refine Hid.mk_ ((awake_any w1).mono ?_)
      rintro e w2 ⟨rfl, hE2⟩
      have hE := hE1.trans hE2
      go_wp2
      go_ret
      exact ⟨rfl, hE⟩
    · have hbig2 : 300 < m := by
        rcases hbig with h | h
        · cases h
        · exact h
      clear hbig
      go_wp2_with (first
        | (go_at_call 10; refine Hid.out ?_))
      refine Hid.mk_ ((awake_any w1).mono ?_)
      rintro e w2 ⟨rfl, hE2⟩
      have hE := hE1.trans hE2
      go_wp2
      go_ret
      exact ⟨rfl, hE⟩
  · have hr1 : r = true := by
      cases r
      · exact absurd (.inl rfl) hbig
      · rfl
    have hm300 : m ≤ 300 := by omega
    subst hr1
    obtain ⟨hk30, hs200⟩ := HR.out rfl
    clear HR hbig
    have hls := hs.len
    have hfl : (ls.flatMap fun s => encS (bys s)).length ≤ 6270 := by have h1 := flat_fewI ls hs200; omega
    have PI := Lib.hid (inv_I n hn ls rest)
    have PL0 := inv_L n ls rest (by omega) hs200
    rw [← hls] at PL0
    have PL := Lib.hid PL0
    clear PL0
    have PS := Lib.hid (inv_S n ls rest hs200)
    have HFL := Lib.hid hfl
    have HLS := Lib.hid hls
    have HS200 := Lib.hid hs200
    clear hs200 hfl hls
    have hs1 := hs.ext hE1
    go_wp2_with (first
      | (go_at_call 13; refine Hid.out ?_))
    refine Hid.mk_ ((packInt 0 n (SlB.nil_ (w := w1)) (by omega) hn.1 hn.2).mono ?_)
    rintro e w2 ⟨A2, m2, c2, rfl, ho2, hE2⟩
    rw [List.nil_append] at ho2
    have hm2 : m2 ≤ 9 := by have h1 := ho2.len; have h3 := encI_length_le n; omega
    go_wp2_with (first
      | (go_at_call 15; refine Hid.out ?_))
    refine Hid.mk_ ((packStrs c2 d ho2.sl (hs1.ext hE2) (by have := HFL.out; omega)).mono ?_)
    rintro e w3 ⟨A3, m3, c3, rfl, ho3, hE3⟩
    have hm3 : m3 ≤ 6300 := by have h1 := ho3.len; have h3 := encI_length_le n; have h4 := encI_length_le (ls.length : Int); have h5 := HFL.out; simp only [List.length_append] at h1; omega
    have hE03 : Ext w w3 := (hE1.trans hE2).trans hE3
    have HM2 := Lib.hid ho2.len
    have HM3 := Lib.hid ho3.len
    go_wp2
    go_loopw [7, 10] (fun v i wr => ∃ (q : Nat) (A' : Option Addr) (m' c' : Nat), q ≤ k ∧ v = .slice A' m' c' ∧ i = .int .i64 q ∧ OsB wr w.heap.size A' m' c' (encI n ++ (encI ls.length ++ ls.flatMap fun s => encS (bys s)) ++ ((ls.take q).flatMap fun s => encS (bys s))) ∧ Ext w wr) (fun _ i _ => k - (intOf i).toNat)
    case atStart => exact ⟨0, A3, m3, c3, Nat.zero_le _, rfl, rfl, by simpa using ho3.mono (by have := (hE1.trans hE2).size_le; omega), hE03⟩
    case round =>
      obtain ⟨q, A', m', c', hq, rfl, rfl, ho, hE⟩ := hrel
      have hm' : m' ≤ 12600 := by
        have h1 := ho.len
        have h3 := encI_length_le n
        have h4 := encI_length_le (ls.length : Int)
        have h5 := HFL.out
        have h6 := flat_le ls q fun s => encS (bys s)
        simp only [List.length_append] at h1
        omega
      by_cases hlt : q < k
      · obtain ⟨b, off, rfl, _, hc⟩ := (hs.ext hE).at_ hlt
        have hlt1 : q < ls.length := by rw [← HLS.out]; exact hlt
        obtain ⟨s, hsk⟩ : ∃ s, s = ls[q] := ⟨_, rfl⟩
        have h1 := hc q hlt1
        rw [← hsk] at h1
        have hi1 : (q : Int) < (k : Int) := by omega
        have hs2 : s.size ≤ 200 := by rw [hsk]; exact HS200.out _ (List.getElem_mem _)
        have HS := Lib.hid hsk; clear hsk hc
        go_wp2_with (first
          | (go_at_call 17; refine Hid.out ?_))
        refine Hid.mk_ ((packStr c' s ho.sl (by omega)).mono ?_)
        rintro e w5 ⟨A5, m5, c5, rfl, ho5, hE5⟩
        go_wp2
        go_roundw
        case rel =>
          refine ⟨q + 1, A5, m5, c5, by omega, rfl, by go_num, ?_, hE.trans hE5⟩
          rw [flat_snoc ls q hlt1, ← HS.out, ← List.append_assoc]
          exact ho5.mono hE.size_le
        case measure => simp [intOf]; omega
      · have ho' := ho
        rw [List.take_of_length_le (by rw [← HLS.out]; omega)] at ho'
        clear ho
        have hmL := ho'.len
        have HML := Lib.hid hmL; clear hmL
        go_wp2_with (first
          | (at_builtin; refine Hid.out ?_))
        refine Hid.mk_ ?_
        refine appB rfl _ _ rfl ho' rfl (hb.ext hE) rfl (by omega) hE.size_le ?_
        intro A6 m6 c6 w6 ho6 hg6 hat6
        have ho6' : OsB w6 w.heap.size A6 m6 c6 (allB n ls rest) := ho6
        have hm6 : m6 ≤ 12900 := by have h1 := ho6.len; have h2 := ho'.len; have h3 := hb.len; simp only [List.length_append] at h1 h2; omega
        have hE06 : Ext w w6 := hE.grown hg6 ho'.ge
        have hMT : (allB n ls rest).length = m' + m := by rw [HML.out, hb.len]; unfold allB; simp only [List.length_append]
        have HMT := Lib.hid hMT
        clear ho6 hMT
        go_wp2_with (first
          | (go_at_call 19; refine Hid.out ?_))
        refine Hid.mk_ ((read_any c6 ho6'.sl).mono ?_)
        rintro e w7 ⟨g, A7, m7, c7, rfl, hR7, hE7, hg7, hA7⟩
        have hE07 := hE06.trans hE7
        have hwg : w.heap.size ≤ g := Nat.le_trans hE06.size_le hg7
        have hm7 : m7 ≤ 12900 := by have h1 := hR7.rd.len; have h2 := HMT.out; omega
        go_wp2_with (first
          | (go_at_call 24; refine Hid.out ?_))
        refine Hid.mk_ ((rInt hR7).mono ?_)
        rintro e w8 ⟨rfl, hR8, hg8⟩
        rw [PI.out] at hR8 ⊢
        rw [← HM2.out] at hR8
        have hR8' : Rdr w8 g A7 m7 c7 (allB n ls rest) m2 false := hR8
        clear hR8
        have hE08 : Ext w w8 := hE07.grown hg8 (fun k hk => by injection hk with hk; omega)
        go_wp2_with (first
          | (go_at_call 21; refine Hid.out ?_))
        refine Hid.mk_ ((offset_any hR8').mono ?_)
        rintro e w9 ⟨rfl, rfl⟩
        go_wp2_with (first
          | (go_at_call 23; refine Hid.out ?_))
        refine Hid.mk_ ((rStrings (k : Int) hR8' (by omega)).mono ?_)
        rintro e w9 ⟨A9, m9, c9, rfl, ho9, hR9, hg9⟩
        have PL2 := PL.out
        rw [← HM2.out] at PL2
        have hpos : m2 + (encI (k : Int) ++ ls.flatMap fun s => encS (bys s)).length = m3 := by rw [HM3.out, HM2.out, HLS.out]; simp only [List.length_append]
        rw [hpos] at PL2
        rw [PL2] at ho9 hR9
        have hR9' : Rdr w9 g A7 m7 c7 (allB n ls rest) m3 false := hR9
        clear hR9 PL2 hpos
        have hE09 : Ext w w9 := hE08.grown hg9 (fun k hk => by injection hk with hk; omega)
        go_wp2_with (first
          | (go_at_call 25; refine Hid.out ?_))
        refine Hid.mk_ ((sameSs c9 d ho9.sl (hs.ext hE09)).mono ?_)
        rintro e w10 ⟨rfl, hE10⟩
        rw [decide_eq_true (map_str_bys ls)]
        have hR10 := hR9'.ext hE10
        have hE010 := hE09.trans hE10
        go_wp2_with (first
          | (go_at_call 21; refine Hid.out ?_))
        refine Hid.mk_ ((offset_any hR10).mono ?_)
        rintro e w11 ⟨rfl, rfl⟩
        go_wp2
        go_loopw [12] (fun i wr => ∃ q : Nat, q ≤ k ∧ i = .int .i64 q ∧ Rdr wr g A7 m7 c7 (allB n ls rest) (m3 + ((ls.take q).flatMap fun s => encS (bys s)).length) false ∧ Ext w wr) (fun i _ => k - (intOf i).toNat)
        case atStart => exact ⟨0, Nat.zero_le _, rfl, by simpa using hR10, hE010⟩
        case round =>
          obtain ⟨q, hq, rfl, hRr, hEr⟩ := hrel
          by_cases hlt : q < k
          · obtain ⟨b, off, rfl, hbl, hc⟩ := (hs.ext hEr).at_ hlt
            have hlt1 : q < ls.length := by rw [← HLS.out]; exact hlt
            obtain ⟨s, hsk⟩ : ∃ s, s = ls[q] := ⟨_, rfl⟩
            have hcq := hc q hlt1
            rw [← hsk] at hcq
            have hbw : b < w.heap.size := by
              obtain ⟨b2, off2, e2, h2, _⟩ := hs.at_ hlt
              injection e2 with e2
              injection e2 with e2 _ _
              rw [e2]; exact h2
            have hi1 : (q : Int) < (k : Int) := by omega
            have hps := PS.out q hlt1
            rw [← HM3.out, ← hsk] at hps
            have HPS := Lib.hid hps
            have HSK := Lib.hid hsk
            clear hps hsk hc
            go_wp2
            go_region_held3 (fun w' => w'.cell? ⟨b, off + q, none⟩ = some (.string s))
              (first | go_keep | assumption)
              (first
                | (go_at_call 26; refine (rString (hRr.ext (Ext.refl _).drew)).mono ?_; rintro e w12 ⟨rfl, hR12, hg12⟩; have hcq2 := hg12.cell (a := ⟨b, off + q, none⟩) hcq (by intro e; have e2 : b = g := (by simpa using e); omega); rw [HPS.out] at hR12 ⊢; simp only [str_bys])
                | fail)
            have hEq : Ext w w12 := (hEr.trans (Ext.refl _).drew).grown hg12 (fun k hk => by injection hk with hk; omega)
            go_wp2
            go_roundw
            case rel => exact ⟨q + 1, by omega, by go_num, hR12, hEq⟩
            case measure => simp [intOf]; omega
          · have hRe := hRr
            rw [List.take_of_length_le (by rw [← HLS.out]; omega)] at hRe
            have hpe : m3 + (ls.flatMap fun s => encS (bys s)).length = m' := by rw [HM3.out, HML.out]; simp only [List.length_append]
            rw [hpe] at hRe
            clear hRr hpe
            go_wp2_with (first
              | (go_at_call 21; refine Hid.out ?_))
            refine Hid.mk_ ((offset_any hRe).mono ?_)
            rintro e w13 ⟨rfl, rfl⟩
            have hendE : endE (allB n ls rest).length m' false = if m = 0 then 0 else 4 := by
              unfold endE
              rw [HMT.out]
              by_cases h0 : m = 0
              · simp [h0]
              · simp [h0]
            have HEN := Lib.hid hendE
            clear hendE
            go_wp2_with (first
              | (go_at_call 22; refine Hid.out ?_))
            refine Hid.mk_ ((end_any hRe).mono ?_)
            rintro e w14 ⟨hE14, rfl⟩
            rw [HEN.out]
            have hE0 := hEr.trans hE14
            by_cases h0 : m = 0
            · subst h0
              rw [if_pos rfl]
              go_wp2
              go_ret
              exact ⟨rfl, hE0⟩
            · rw [if_neg h0]
              have hmz : ((m : Int) == 0) = false := by rw [beq_eq_false_iff_ne]; omega
              clear h0
              go_wp2
              go_ret
              exact ⟨rfl, hE0⟩

set_option maxRecDepth 100000 in
theorem liftedPackInverse (os : Os) (started : os.Started) (H : Type) (enc : TypeId × Value → H) :
    ReturnsInHanded {} Try.checked os 7 .any (Rows.packInverseSpec.pre6 enc Try.prog Try.f7 Rows.packInverseRow.domain false) (Rows.packInverseSpec.post enc Try.prog Try.f7 false true false false) := by
  refine returnsInHanded_of_change_sized (C := Try.checked) ownK started (by kernel_rfl) Try.func7
    (ChangeSpec.witness6 (enc := enc) (C := Try.checked) false ⟨#[], #[.int .i64 0, .slice none 0 0, .slice none 0 0], []⟩ 8 (by kernel_rfl) (by kernel_rfl) (by kernel_rfl) (by kernel_rfl)) ?_
  intro W base args ds gs before hval0 hW hcnd hsz0 _
  have hval : ∀ (j : Nat) t v, Try.f7.params[j]? = some t → args[j]? = some v → Value.okWide Try.prog W .any base t v := hval0
  have hW' := hW
  obtain ⟨p, q, hA0, hV, rfl, hfz, hnd⟩ := hW
  have hA : DataW.TrodAll enc Try.prog W 0 (fun _ => true) true Try.f7.params.toList args.toList ds p := hA0
  have hsz : (DataW.weightsEach Try.prog (Try.f7.params.toList ++ Rows.packInverseSpec.plain.varTypes Try.prog) (ds ++ gs)).all (· ≤ reachBytes) = true := hsz0
  rw [Try.params7] at hA hval hsz
  obtain ⟨v0, vs0, d0, ds0, p0, q0, hargs0, rfl, rfl, h0, r0⟩ := trodAll_cons hA
  obtain ⟨v1, vs1, d1, ds1, p1, q1, hargs1, rfl, rfl, h1, r1⟩ := trodAll_cons r0
  obtain ⟨v2, vs2, d2, ds2, p2, q2, hargs2, rfl, rfl, h2, r2⟩ := trodAll_cons r1
  obtain ⟨rfl, rfl, rfl⟩ := trodAll_nil r2
  obtain rfl : args = #[v0, v1, v2] := by cases args; simp_all
  obtain ⟨rfl, rfl⟩ := trodVars_none hV
  have k1 := h1
  have lt1 : ∀ x ∈ p1, x.block < W.heap.size := by obtain ⟨m, hm⟩ := k1; exact DataW.trod_lt m _ _ _ hm
  have k2 := h2
  have lt2 : ∀ x ∈ p2, x.block < W.heap.size := by obtain ⟨m, hm⟩ := k2; exact DataW.trod_lt m _ _ _ hm
  obtain ⟨a0, rfl, rfl, rfl, w0⟩ := open_int Try.underlying3 (hval 0 3 v0 rfl rfl) h0
  obtain ⟨A1, m1, c1, l1, rfl, w1, hc1⟩ := open_strsK (hval 1 23 v1 rfl rfl) h1 (fun elems spare hd => sized_slice hsz (j := 1) (t := 23) (e := 9) rfl (by rw [hd]; rfl) Try.underlying23)
  obtain ⟨A2, m2, c2, l2, rfl, w2, hc2, hb2⟩ := open_bytesK (hval 2 22 v2 rfl rfl) h2 (fun elems spare hd => sized_slice hsz (j := 2) (t := 22) (e := 5) rfl (by rw [hd]; rfl) Try.underlying22) lt2
  clear hA0 hval0
  refine (inv_walk c2 c1 a0 W (bounds_i64 w0) w1 w2).mono fun e W' ⟨he, bel⟩ => ?_
  subst he
  exact ⟨_, rfl, _, _, _, [], _, [], hW', trodAll_mk1 (shut_bool Try.underlying4 _), (trodAll_cons_mk (shut_int Try.underlying3 w0) (trodAll_cons_mk (Below.trod laidK (by kernel_rfl) (of_decide_eq_true (by kernel_rfl)) k1 bel lt1) (trodAll_cons_mk (Below.trod laidK (by kernel_rfl) (of_decide_eq_true (by kernel_rfl)) k2 bel lt2) trodAll_mk0))), rfl, Below.frame bel _, fun h => by cases h⟩
theorem PackInverse_holds : Rows.PackInverseSaid :=
  OpenClaim.holds_of_wide 7 Try.f7 rfl rfl rfl rfl rfl rfl rfl ⟨rfl, rfl, rfl, rfl, rfl⟩ rfl rfl rfl rfl rfl (by kernel_rfl) Try.func7 (by kernel_rfl)
    (of_decide_eq_true (by kernel_rfl)) (by unfold Func.isWrapper; rw [if_neg (of_decide_eq_false (by kernel_rfl))]; exact ⟨rfl, rfl⟩)
    (fun os started H enc _ => liftedPackInverse os started H enc)

end Go.Proofs.Ythkdnioljajcoaa
