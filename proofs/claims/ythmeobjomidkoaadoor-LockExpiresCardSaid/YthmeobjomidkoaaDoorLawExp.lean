/- Expire changes nothing for its time and later ones; a clone is independent. No condition. -/
import Derived.Test.YthmeobjomidkoaaDoorLockEp
import Derived.Test.YthmeobjomidkoaaDoorLockAwake
import Derived.Test.YthmeobjomidkoaaDoorLockCard
import Derived.Test.YthmeobjomidkoaaDoorLockOpen
import Derived.ProofKit
import Derived.OpenShut
import Derived.ShutString
import Derived.ChangeOld
import Derived.SizedLaws
namespace Go.Proofs.YthmeobjomidkoaaDoor
open Go.ChangeShapes Go.WideShapes Go.ChangeAt Go.RowKit
set_option maxRecDepth 100000
attribute [local go_sem] ext_refl_t ext_alloc_t ext_drew_t ext_drewN_t ext_alloc2_t ext_alloc3_t ext_alloc4_t ext_alloc5_t ext_alloc6_t ext_alloc7_t ext_alloc8_t ext_alloc1d_t ext_alloc2d_t ext_alloc3d_t ext_alloc4d_t
theorem bL_asym {a b : List UInt8} (h : bL a b = true) : Op.bytesLess b a = false := by
  cases h2 : bL b a with
  | false => exact h2
  | true =>
    have h3 := bL_trans _ _ _ h h2
    rw [bL_irrefl] at h3
    cases h3
theorem bL_ne {a b : List UInt8} (h : bL a b = true) : (b == a) = false := by
  rw [beq_eq_false_iff_ne]
  intro e
  rw [e, bL_irrefl] at h
  cases h
theorem lk_before {x y : Lk} (h : kL x y = true) : (Op.bytesLess y.name.toList x.name.toList = false ∧ (y.name.toList == x.name.toList) = false) ∨ (y.name = x.name ∧ Op.bytesLess y.id.toList x.id.toList = false ∧ (y.id.toList == x.id.toList) = false) := by
  unfold kL at h
  simp only [Bool.or_eq_true, Bool.and_eq_true, decide_eq_true_eq] at h
  rcases h with h | ⟨h1, h2⟩
  · exact .inl ⟨bL_asym h, bL_ne h⟩
  · exact .inr ⟨h1.symm, bL_asym h2, bL_ne h2⟩
section
variable {w : World} {A : Option Addr} {m : Nat} {l : List LStep}
set_option maxHeartbeats 12800000 in
theorem lexp_walk (c : Nat) (now : Int) (more : Nat) (hmore : more ≤ 65535) (hn1 : -9223372036854775808 ≤ now) (hs : SlC lsC 6 w A m l) (hgood : ∀ s ∈ l, GoodS s) (hmc : m * 72 ≤ 140737488351232) (hT : Tabs w) :
    Calls Tryd.prog 7 #[.slice A m c, .int .i64 now, .int .u16 more] w fun e w' => e = .returned (.bool true) ∧ Ext w w' := by
  have HN1 := Lib.hid hn1
  clear hn1
  go_enter Tryd.func7, Tryd.ntmps7
  go_wp2_with (first
    | (go_at_call 9; refine Hid.out ?_))
  refine Hid.mk_ ((awake_lk _ hT).mono ?_)
  rintro e w1 ⟨rfl, hE1⟩
  go_wp2_with (first
    | (go_at_call 10; refine Hid.out ?_))
  refine Hid.mk_ ((few_lk c (hs.ext hE1) hgood).mono ?_)
  rintro e w2 ⟨rfl, hE2⟩
  have hE02 := hE1.trans hE2
  cases hfew : fewL l with
  | false =>
    clear hfew
    go_wp2
    go_ret
    exact ⟨rfl, hE02⟩
  | true =>
  have hlen40 : l.length ≤ 40 := by
    have h1 := hfew
    unfold fewL at h1
    simp only [Bool.and_eq_true, decide_eq_true_eq] at h1
    exact h1.2
  clear hfew
  by_cases hbig : (1099511627776 : Int) < now
  · go_wp2
    go_ret
    exact ⟨rfl, hE02⟩
  have HBIG : Hid (now ≤ 1099511627776) := by show _ ≤ _; omega
  have HL := Lib.hid hs.len
  have HG := Lib.hid hgood
  have hm40 : m ≤ 40 := by rw [HL.out]; exact hlen40
  have hs2 := hs.ext hE02
  clear hgood hlen40
  go_wp2_with (first
    | (go_at_call 11; refine Hid.out ?_))
  refine Hid.mk_ ((new_any w2).mono ?_)
  rintro e w3 ⟨g, bm, rfl, hl3, hE3, hg, hb⟩
  clear hbig
  go_wp2
  go_loopw [8] (fun i wr => ∃ (q n : Nat) (F : LF), q ≤ m ∧ i = .int .i64 q ∧ n ≤ q ∧ Lks wr g bm n F ∧ KeyOk F ∧ Ext w2 wr) (fun i _ => m - (intOf i).toNat)
  case atStart => exact ⟨0, 0, _, Nat.zero_le _, rfl, Nat.le_refl _, hl3, KeyOk.none_, hE3⟩
  case round =>
    obtain ⟨q, n, F, hq, rfl, hnq, hl, hK, hE⟩ := hrel
    by_cases hlt : q < m
    · obtain ⟨b, off, hA, hbl, hcs⟩ := (hs2.ext hE).at_ hlt (by omega)
      subst hA
      have hlt1 : q < l.length := by rw [← HL.out]; exact hlt
      have hgs := HG.out _ (List.getElem_mem hlt1)
      obtain ⟨s, hsq⟩ : ∃ s, s = l[q] := ⟨_, rfl⟩
      rw [← hsq] at hgs
      have y0 := hcs q hlt1 0 (by omega)
      have y1 := hcs q hlt1 1 (by omega)
      have y2 := hcs q hlt1 2 (by omega)
      have y3 := hcs q hlt1 3 (by omega)
      have y4 := hcs q hlt1 4 (by omega)
      have y5 := hcs q hlt1 5 (by omega)
      simp only [← hsq, lsC, List.getElem_cons_zero, List.getElem_cons_succ, ← Nat.add_assoc, Nat.add_zero] at y0 y1 y2 y3 y4 y5
      clear hcs hsq
      have hi1 : (q : Int) < (m : Int) := by omega
      go_wp2_with (first
        | (go_at_call 12; refine Hid.out ?_))
      refine Hid.mk_ ((do_any s hl (by unfold maxLen; omega) (hT.ext (hE02.trans hE)) hgs).mono ?_)
      rintro e wx ⟨F', n', hn', ⟨code, rfl, _⟩, hdo, hlx, hgx⟩
      have hEx : Ext w2 wx := hE.grown hgx (fun k hk => by injection hk with hk; omega)
      have HK := Lib.hid (hK.do_ hdo hgs)
      clear hdo
      go_wp2
      go_roundw
      case rel => exact ⟨q + 1, n', F', by omega, by go_num, by omega, hlx, HK.out, hEx⟩
      case measure => simp [intOf]; omega
    · have hi1 : ¬ (q : Int) < (m : Int) := by omega
      clear HG HL hs2 hs
      obtain ⟨lt, hltd⟩ : ∃ z : Int, z = now + (more : Int) := ⟨_, rfl⟩
      have hw : wrap64 (now + (more : Int)) = lt := by rw [hltd]; have h1 := HN1.out; have h2 := HBIG.out; unfold wrap64; omega
      have HLT : Hid (now ≤ lt) := by show _ ≤ _; omega
      clear hltd
      go_wp2_with (first
        | (go_at_call 16; refine Hid.out ?_))
      refine Hid.mk_ ((list_any now hl (by omega) hK).mono ?_)
      rintro e w5 ⟨⟨A1, m1, c1, L1, rfl, hs5, hL1, hm1, hf1⟩, hE5⟩
      have HL1 := Lib.hid hL1
      clear hL1 hw
      go_wp2_with (first
        | (go_at_call 16; refine Hid.out ?_))
      refine Hid.mk_ ((list_any lt (hl.ext hE5) (by omega) hK).mono ?_)
      rintro e w6 ⟨⟨A2, m2, c2, L2, rfl, hs6, hL2, hm2, hf2⟩, hE6⟩
      have HL2 := Lib.hid hL2
      clear hL2
      have hl6 := (hl.ext hE5).ext hE6
      have hE26 := (hE.trans hE5).trans hE6
      have hs56 := hs5.ext hE6
      clear hl hE5 hf1 hf2 hs5
      go_wp2_with (first
        | (go_at_call 23; refine Hid.out ?_))
      refine Hid.mk_ ((clone_lk hl6).mono ?_)
      rintro e w7 ⟨⟨gc, bc, rfl, hlc, hgc, hbc⟩, hE7⟩
      go_wp2_with (first
        | (go_at_call 20; refine Hid.out ?_))
      refine Hid.mk_ ((expire_any now hlc (by unfold Go.maxLen; omega)).mono ?_)
      rintro e w8 ⟨⟨zc, rfl, _⟩, hlc8, hg8⟩
      have hE68 : Ext w6 w8 := hE7.grown hg8 (fun k hk => by cases hk; exact hbc)
      have hl8 := hl6.ext hE68
      have hs58 := hs56.ext hE68
      have hs68 := hs6.ext hE68
      have hE28 := hE26.trans hE68
      have hbc8 : bc < w8.heap.size := hlc8.map.lt
      have HL6 := Lib.hid (And.intro hl6 (And.intro hs56 hs6))
      clear hlc hg8 hl6 hs56 hs6 hE7 hgc
      go_wp2_with (first
        | (go_at_call 23; refine Hid.out ?_))
      refine Hid.mk_ ((clone_lk hl8).mono ?_)
      rintro e w9 ⟨⟨gd, bd, rfl, hld, hgd, hbd⟩, hE9⟩
      have hm1' : m1 ≤ 40 := by omega
      have hm2' : m2 ≤ 40 := by omega
      have HLN := Lib.hid (And.intro hs58.len hs68.len)
      have HK := Lib.hid hK
      have HP0 : Hid (RelP F now L1 0 F) := RelP.zero hK
      clear hK
      go_wp2
      go_loopw [14] (fun i wr => ∃ (q : Nat) (F1 : LF), q ≤ m1 ∧ i = .int .i64 q ∧ Lks wr gd bd n F1 ∧ Hid (RelP F now L1 q F1) ∧ Ext w8 wr) (fun i _ => m1 - (intOf i).toNat)
      case atStart => exact ⟨0, F, Nat.zero_le _, rfl, hld, HP0, hE9⟩
      case round =>
        obtain ⟨q, F1, hq, rfl, hlr, HP, hEr⟩ := hrel
        by_cases hlt : q < m1
        · obtain ⟨b, off, hA, hbl, hcs⟩ := (hs58.ext hEr).at_ hlt (by omega)
          have hlt1 : q < L1.length := by rw [← HLN.out.1]; exact hlt
          have y0 := hcs q hlt1 0 (by omega)
          have y1 := hcs q hlt1 1 (by omega)
          have y2 := hcs q hlt1 2 (by omega)
          obtain ⟨x, hx⟩ : ∃ x, x = L1[q] := ⟨_, rfl⟩
          simp only [← hx, lkC, List.getElem_cons_zero, List.getElem_cons_succ, ← Nat.add_assoc, Nat.add_zero] at y0 y1 y2
          have hkx : x.name.size ≤ Go.maxLen ∧ x.id.size ≤ Go.maxLen := by
            have h1 := (HL1.out.2 x).1 (by rw [hx]; exact List.getElem_mem _)
            have h2 := HK.out _ _ _ (heldF_some h1).1
            exact ⟨h2.2.2.1, h2.2.2.2⟩
          have hi1 : (q : Int) < (m1 : Int) := by omega
          have HX := Lib.hid hx
          have HKX := Lib.hid hkx
          have U0 := latersU y0
          have U1 := latersU y1
          have U2 := latersU y2
          have HA := Lib.hid hA
          clear hcs hx hkx y0 y1 y2
          go_wp2
          refine wp_region_ext_tail 17 (by kernel_rfl) (by kernel_rfl) ?_
          simp only [List.take_succ_cons, List.take_zero, List.drop_succ_cons, List.drop_zero]
          repeat (go_big_quiet_step (fail))
          refine wpQuiet_nil ?_
          rintro w10 ⟨⟨_, h10⟩, rfl⟩
          try dsimp only
          clear U0 U1 U2
          go_wp2_with (first
            | (go_at_call 15; refine Hid.out ?_))
          clear hA HA
          refine Hid.mk_ ((release_any x.who x.name x.id now (hlr.ext h10) HKX.out.1 HKX.out.2).mono ?_)
          rintro e w11 ⟨F2, ⟨code, rfl, hR⟩, hl11, hg11⟩
          have HP2 : Hid (RelP F now L1 (q + 1) F2) := HP.out.step HL1.out hlt1 (by rw [← HX.out]; exact hR)
          have hE11 : Ext w8 w11 := (hEr.trans h10).grown hg11 (fun k hk => by cases hk; exact hbd)
          clear hR hg11
          go_wp2
          go_roundw
          case rel => exact ⟨q + 1, F2, by omega, by go_num, hl11, HP2, hE11⟩
          case measure => simp [intOf]; omega
        · have hi1 : ¬ (q : Int) < (m1 : Int) := by omega
          have hqe : q = L1.length := by rw [← HLN.out.1]; omega
          rw [hqe] at HP
          clear hqe
          go_wp2_with (first
            | (go_at_call 16; refine Hid.out ?_))
          refine Hid.mk_ ((list_any now hlr (by omega) HP.out.1).mono ?_)
          rintro e w12 ⟨⟨A3, m3, c3, L3, rfl, hs12, hL3, hm3, _⟩, hE12⟩
          have hL3e : L3 = [] := HP.out.done HL1.out hL3
          subst hL3e
          have hm30 : m3 = 0 := hs12.len
          subst hm30
          have hE812 := hEr.trans hE12
          have hlc12 := hlc8.ext hE812
          clear hL3 hs12 hlr
          go_wp2_with (first
            | (go_at_call 20; refine Hid.out ?_))
          refine Hid.mk_ ((expire_any now hlc12 (by unfold Go.maxLen; omega)).mono ?_)
          rintro e w13 ⟨⟨z, rfl, hz⟩, hlc13, hg13⟩
          have hz0 : z = 0 := by
            obtain ⟨a, b, h1, h2, h3⟩ := hz
            rw [purge_idem] at h2
            have := h1.uniq h2
            omega
          subst hz0
          rw [purge_idem] at hlc13
          clear hz
          have hE612 := hE68.trans hE812
          have hE613 : Ext w6 w13 := hE612.grown hg13 (fun k hk => by cases hk; exact hbc)
          have hl13 := HL6.out.1.ext hE613
          have hKp := HK.out.purge_ (now := now)
          clear hg13 hlc12 hlc8 hl8 hs58 hs68 hld hE812 hbc8
          go_wp2_with (first
            | (go_at_call 16; refine Hid.out ?_))
          refine Hid.mk_ ((list_any now hlc13 (by omega) hKp).mono ?_)
          rintro e w14 ⟨⟨A4, m4, c4, L4, rfl, hs14, hL4, _, _⟩, hE14⟩
          go_wp2_with (first
            | (go_at_call 16; refine Hid.out ?_))
          refine Hid.mk_ ((list_any lt (hlc13.ext hE14) (by omega) hKp).mono ?_)
          rintro e w15 ⟨⟨A5, m5, c5, L5, rfl, hs15, hL5, _, _⟩, hE15⟩
          go_wp2_with (first
            | (go_at_call 16; refine Hid.out ?_))
          refine Hid.mk_ ((list_any now ((hl13.ext hE14).ext hE15) (by omega) HK.out).mono ?_)
          rintro e w16 ⟨⟨A6, m6, c6, L6, rfl, hs16, hL6, _, _⟩, hE16⟩
          have e4 : L4 = L1 := (hL4.purge_ (Int.le_refl _)).unique HL1.out
          have e5 : L5 = L2 := (hL5.purge_ HLT.out).unique HL2.out
          have e6 : L6 = L1 := hL6.unique HL1.out
          have hE616 := ((hE613.trans hE14).trans hE15).trans hE16
          have hsa := HL6.out.2.1.ext hE616
          have hsb := HL6.out.2.2.ext hE616
          have hsx := (hs14.ext hE15).ext hE16
          have hsy := hs15.ext hE16
          rw [e4] at hsx
          rw [e5] at hsy
          rw [e6] at hs16
          have em4 : m4 = m1 := by rw [hsx.len, hsa.len]
          have em5 : m5 = m2 := by rw [hsy.len, hsb.len]
          have em6 : m6 = m1 := by rw [hs16.len, hsa.len]
          subst em4 em5 em6
          have HSA := Lib.hid (And.intro hsa (And.intro hsb (And.intro hsx (And.intro hsy hs16))))
          have hE02z := (hE02.trans hE26).trans hE616
          clear hs14 hs15 hL4 hL5 hL6 e4 e5 e6 hsa hsb hsx hsy hs16 hlc13 hl13 hKp hE14 hE15 hE16 hE613 hE612
          go_wp2
          go_loopw [18] (fun i wr => ∃ q : Nat, q ≤ m6 ∧ i = .int .i64 q ∧ Ext w16 wr) (fun i _ => m6 - (intOf i).toNat)
          case atStart => exact ⟨0, Nat.zero_le _, rfl, Ext.refl _⟩
          case round =>
            obtain ⟨q, hq, rfl, hEr⟩ := hrel
            by_cases hlt : q < m6
            · have hi1 : (q : Int) < (m6 : Int) := by omega
              have hql : q < L1.length := by rw [← HSA.out.1.len]; exact hlt
              obtain ⟨ba, offa, hAa, _, hcsa⟩ := (HSA.out.1.ext hEr).at_ hlt (by omega)
              have ya0 := hcsa q hql 0 (by omega)
              have ya1 := hcsa q hql 1 (by omega)
              have ya2 := hcsa q hql 2 (by omega)
              have ya3 := hcsa q hql 3 (by omega)
              obtain ⟨bx, offx, hAx, _, hcsx⟩ := (HSA.out.2.2.1.ext hEr).at_ hlt (by omega)
              have yx0 := hcsx q hql 0 (by omega)
              have yx1 := hcsx q hql 1 (by omega)
              have yx2 := hcsx q hql 2 (by omega)
              have yx3 := hcsx q hql 3 (by omega)
              obtain ⟨bz, offz, hAz, _, hcsz⟩ := (HSA.out.2.2.2.2.ext hEr).at_ hlt (by omega)
              have yz0 := hcsz q hql 0 (by omega)
              have yz1 := hcsz q hql 1 (by omega)
              have yz2 := hcsz q hql 2 (by omega)
              have yz3 := hcsz q hql 3 (by omega)
              obtain ⟨x, hx⟩ : ∃ x, x = L1[q] := ⟨_, rfl⟩
              simp only [← hx, lkC, List.getElem_cons_zero, List.getElem_cons_succ, ← Nat.add_assoc, Nat.add_zero] at ya0 ya1 ya2 ya3 yx0 yx1 yx2 yx3 yz0 yz1 yz2 yz3
              by_cases hq0 : q = 0
              · have hz : decide (0 < q) = false := decide_eq_false (by omega)
                have Ua0 := latersU ya0
                have Ua1 := latersU ya1
                have Ua2 := latersU ya2
                have Ua3 := latersU ya3
                have Ux0 := latersU yx0
                have Ux1 := latersU yx1
                have Ux2 := latersU yx2
                have Ux3 := latersU yx3
                have Uz0 := latersU yz0
                have Uz1 := latersU yz1
                have Uz2 := latersU yz2
                have Uz3 := latersU yz3
                clear ya0 ya1 ya2 ya3 yx0 yx1 yx2 yx3 yz0 yz1 yz2 yz3
                clear hx hcsa hcsx hcsz hq0
                go_wp2
                refine wp_region_ext_lit (by kernel_rfl) (by kernel_rfl) ?_
                try dsimp only [List.append]
                repeat (go_big_quiet_step (fail))
                refine wpQuiet_nil ?_
                rintro w5 ⟨⟨_, h5⟩, rfl⟩
                try dsimp only
                clear Ua0 Ua1 Ua2 Ua3 Ux0 Ux1 Ux2 Ux3 Uz0 Uz1 Uz2 Uz3
                go_wp2
                go_roundw
                case rel => exact ⟨q + 1, by omega, by go_num, hEr.trans h5⟩
                case measure => simp [intOf]; omega
              · have hz : decide (0 < q) = true := decide_eq_true (by omega)
                obtain ⟨p, hp⟩ : ∃ p, q = p + 1 := ⟨q - 1, by omega⟩
                have hpl : p < L1.length := by omega
                have hk := HL1.out.1
                rw [List.pairwise_iff_getElem] at hk
                have hkx := hk p q hpl hql (by omega)
                obtain ⟨v, hv⟩ : ∃ v, v = L1[p] := ⟨_, rfl⟩
                rw [← hx, ← hv] at hkx
                have v0 := hcsa p hpl 0 (by omega)
                have v1 := hcsa p hpl 1 (by omega)
                simp only [← hv, lkC, List.getElem_cons_zero, List.getElem_cons_succ, ← Nat.add_assoc, Nat.add_zero] at v0 v1
                have hpi : (q : Int) - 1 = (p : Int) := by omega
                have hpt : ((q : Int) - 1).toNat = p := by omega
                have hpm : (p : Int) < (m6 : Int) := by omega
                have HPI := Lib.hid hpi
                clear hx hv hcsa hcsx hcsz hk hq0 hp
                rcases lk_before hkx with ⟨k1, k2⟩ | ⟨k1, k2, k3⟩
                · clear hkx
                  have Ua0 := latersU ya0
                  have Ua1 := latersU ya1
                  have Ua2 := latersU ya2
                  have Ua3 := latersU ya3
                  have Ux0 := latersU yx0
                  have Ux1 := latersU yx1
                  have Ux2 := latersU yx2
                  have Ux3 := latersU yx3
                  have Uz0 := latersU yz0
                  have Uz1 := latersU yz1
                  have Uz2 := latersU yz2
                  have Uz3 := latersU yz3
                  clear ya0 ya1 ya2 ya3 yx0 yx1 yx2 yx3 yz0 yz1 yz2 yz3
                  have Uv0 := latersU v0
                  have Uv1 := latersU v1
                  clear v0 v1
                  go_wp2
                  refine wp_region_ext_lit (by kernel_rfl) (by kernel_rfl) ?_
                  try dsimp only [List.append]
                  repeat (go_big_quiet_step (fail))
                  refine wpQuiet_nil ?_
                  rintro w5 ⟨⟨_, h5⟩, rfl⟩
                  try dsimp only
                  clear Ua0 Ua1 Ua2 Ua3 Ux0 Ux1 Ux2 Ux3 Uz0 Uz1 Uz2 Uz3
                  clear Uv0 Uv1
                  go_wp2
                  go_roundw
                  case rel => exact ⟨q + 1, by omega, by go_num, hEr.trans h5⟩
                  case measure => simp [intOf]; omega
                · have k4 : Op.bytesLess x.name.toList v.name.toList = false := by rw [k1]; exact bL_irrefl _
                  have k5 : (x.name.toList == v.name.toList) = true := by rw [k1]; simp
                  have Ua0 := latersU ya0
                  have Ua1 := latersU ya1
                  have Ua2 := latersU ya2
                  have Ua3 := latersU ya3
                  have Ux0 := latersU yx0
                  have Ux1 := latersU yx1
                  have Ux2 := latersU yx2
                  have Ux3 := latersU yx3
                  have Uz0 := latersU yz0
                  have Uz1 := latersU yz1
                  have Uz2 := latersU yz2
                  have Uz3 := latersU yz3
                  clear ya0 ya1 ya2 ya3 yx0 yx1 yx2 yx3 yz0 yz1 yz2 yz3
                  have Uv0 := latersU v0
                  have Uv1 := latersU v1
                  clear v0 v1
                  clear hkx k1
                  go_wp2
                  refine wp_region_ext_lit (by kernel_rfl) (by kernel_rfl) ?_
                  try dsimp only [List.append]
                  repeat (go_big_quiet_step (fail))
                  refine wpQuiet_nil ?_
                  rintro w5 ⟨⟨_, h5⟩, rfl⟩
                  try dsimp only
                  clear Ua0 Ua1 Ua2 Ua3 Ux0 Ux1 Ux2 Ux3 Uz0 Uz1 Uz2 Uz3
                  clear Uv0 Uv1
                  go_wp2
                  go_roundw
                  case rel => exact ⟨q + 1, by omega, by go_num, hEr.trans h5⟩
                  case measure => simp [intOf]; omega
            · have hi1 : ¬ (q : Int) < (m6 : Int) := by omega
              have hE18 := hEr
              go_wp2
              go_loopw [19] (fun i wr => ∃ q : Nat, q ≤ m5 ∧ i = .int .i64 q ∧ Ext w16 wr) (fun i _ => m5 - (intOf i).toNat)
              case atStart => exact ⟨0, Nat.zero_le _, rfl, hE18⟩
              case round =>
                obtain ⟨q2, hq2, rfl, hEr2⟩ := hrel
                by_cases hlt2 : q2 < m5
                · have hi2 : (q2 : Int) < (m5 : Int) := by omega
                  have hql : q2 < L2.length := by rw [← HSA.out.2.1.len]; exact hlt2
                  obtain ⟨ba, offa, hAa, _, hcsa⟩ := (HSA.out.2.1.ext hEr2).at_ hlt2 (by omega)
                  have ya0 := hcsa q2 hql 0 (by omega)
                  have ya1 := hcsa q2 hql 1 (by omega)
                  have ya2 := hcsa q2 hql 2 (by omega)
                  have ya3 := hcsa q2 hql 3 (by omega)
                  obtain ⟨bx, offx, hAx, _, hcsx⟩ := (HSA.out.2.2.2.1.ext hEr2).at_ hlt2 (by omega)
                  have yx0 := hcsx q2 hql 0 (by omega)
                  have yx1 := hcsx q2 hql 1 (by omega)
                  have yx2 := hcsx q2 hql 2 (by omega)
                  have yx3 := hcsx q2 hql 3 (by omega)
                  obtain ⟨x, hx⟩ : ∃ x, x = L2[q2] := ⟨_, rfl⟩
                  simp only [← hx, lkC, List.getElem_cons_zero, List.getElem_cons_succ, ← Nat.add_assoc, Nat.add_zero] at ya0 ya1 ya2 ya3 yx0 yx1 yx2 yx3
                  clear hx hcsa hcsx
                  go_wp2
                  go_quiet (fail)
                  all_goals go_wp2
                  all_goals go_roundw
                  case rel => exact ⟨q2 + 1, by omega, by go_num, hEr2.drewN _⟩
                  case measure => simp [intOf]; omega
                · have hi2 : ¬ (q2 : Int) < (m5 : Int) := by omega
                  go_wp2
                  go_ret
                  exact ⟨rfl, hE02z.trans hEr2⟩
end

set_option maxRecDepth 100000 in
theorem liftedLockExpires (os : Os) (started : os.Started) (H : Type) (enc : TypeId × Value → H) :
    ReturnsInHanded {} Tryd.checked os 7 .any (fun w args => (Rows.lockExpiresSpec.pre enc Tryd.prog Tryd.f7 [] false w args ∧ laidMetH Tryd.prog laidL w) ∧ sizedMet enc Tryd.prog Tryd.f7 (OpenSpec.ofChange Rows.lockExpiresSpec) false w args) (Rows.lockExpiresSpec.post enc Tryd.prog Tryd.f7 false true false false) := by
  refine returnsInHanded_of_change_and (C := Tryd.checked) (X := fun w _ => laidMetH Tryd.prog laidL w) (fun _ _ _ hh h => h.of_heap hh) ownK started (by kernel_rfl) Tryd.func7
    (ChangeSpec.witness_shaped (enc := enc) (C := Tryd.checked) (os := os) (X := fun w _ => laidMetH Tryd.prog laidL w) false (World.laidAll Tryd.prog os laidL) #[.slice none 0 0, .int .i64 0, .int .u16 0] 8 (World.laidAll_os _ _ _)
      (World.shaped_of_ZipB (by kernel_rfl) (by kernel_rfl)) (by kernel_rfl) (by kernel_rfl) (by kernel_rfl)
      (by rw [MakeChecks.laidMetH_plain _ _ _ (by kernel_rfl)]; exact laidMet_laidAll _ (by kernel_rfl) (by kernel_rfl))) ?_
  intro W base args ds gs before hval0 hW hcnd hsz0 hL _
  have hT := tabs_of_laid hL
  have hval : ∀ (j : Nat) t v, Tryd.f7.params[j]? = some t → args[j]? = some v → Value.okWide Tryd.prog W .any base t v := hval0
  have hW' := hW
  obtain ⟨p, q, hA0, hV, rfl, hfz, hnd⟩ := hW
  have hA : DataW.TrodAll enc Tryd.prog W 0 (fun _ => true) true Tryd.f7.params.toList args.toList ds p := hA0
  have hsz : (DataW.weightsEach Tryd.prog (Tryd.f7.params.toList ++ Rows.lockExpiresSpec.plain.varTypes Tryd.prog) (ds ++ gs)).all (· ≤ reachBytes) = true := hsz0
  rw [Tryd.params7] at hA hval hsz
  obtain ⟨v0, vs0, d0, ds0, p0, q0, hargs0, rfl, rfl, h0, r0⟩ := trodAll_cons hA
  obtain ⟨v1, vs1, d1, ds1, p1, q1, hargs1, rfl, rfl, h1, r1⟩ := trodAll_cons r0
  obtain ⟨v2, vs2, d2, ds2, p2, q2, hargs2, rfl, rfl, h2, r2⟩ := trodAll_cons r1
  obtain ⟨rfl, rfl, rfl⟩ := trodAll_nil r2
  obtain rfl : args = #[v0, v1, v2] := by cases args; simp_all
  obtain ⟨rfl, rfl⟩ := trodVars_none hV
  have k0 := h0
  have lt0 : ∀ x ∈ p0, x.block < W.heap.size := by obtain ⟨m, hm⟩ := k0; exact DataW.trod_lt m _ _ _ hm
  obtain ⟨A0, m0, c0, l0, rfl, w0, hg0, hmc0, hcb0⟩ := opn_top_slice Tryd.underlying22 opn_steps (hval 0 22 v0 rfl rfl) h0 (WOk.top hsz (j := 0) rfl rfl)
  obtain ⟨a1, rfl, rfl, rfl, w1⟩ := open_int Tryd.underlying3 (hval 1 3 v1 rfl rfl) h1
  obtain ⟨a2, rfl, rfl, rfl, w2⟩ := open_int Tryd.underlying55 (hval 2 55 v2 rfl rfl) h2
  clear hA0 hval0
  have hm72 : m0 * 72 ≤ 140737488351232 := Nat.le_trans (Nat.mul_le_mul_right _ hmc0) hcb0
  have hb1 := bounds_i64 w1
  have hb2 := bounds_u16 w2
  obtain ⟨k2, rfl⟩ : ∃ u : Nat, a2 = u := ⟨a2.toNat, by omega⟩
  refine (lexp_walk c0 a1 k2 (by omega) hb1.1 w0 hg0 hm72 hT).mono fun e W' ⟨he, bel⟩ => ?_
  subst he
  exact ⟨_, rfl, _, _, _, [], _, [], hW', trodAll_mk1 (shut_bool Tryd.underlying4 _), (trodAll_cons_mk (Below.trod laidK (by kernel_rfl) (of_decide_eq_true (by kernel_rfl)) k0 bel lt0) (trodAll_cons_mk (shut_int Tryd.underlying3 w1) (trodAll_cons_mk (shut_int Tryd.underlying55 w2) trodAll_mk0))), rfl, Below.frame bel _, fun h => by cases h⟩
theorem LockExpires_row : Rows.LockExpiresSaid :=
  OpenClaim.holds_of_wide 7 Tryd.f7 rfl rfl rfl rfl rfl rfl rfl ⟨rfl, rfl, rfl, rfl, rfl⟩ rfl rfl rfl rfl rfl (by kernel_rfl) Tryd.func7 (by kernel_rfl)
    (of_decide_eq_true (by kernel_rfl)) (by unfold Func.isWrapper; rw [if_neg (of_decide_eq_false (by kernel_rfl))]; exact ⟨rfl, rfl⟩)
    (fun os started H enc _ => liftedLockExpires os started H enc)
theorem LockExpires_holds : Rows.LockExpiresCardSaid :=
  Claim7.holds_tied_plain_at .later [] Rows.lockExpiresCard.laidKinds true Rows.lockExpiresCard.stood.harness Rows.lockExpiresCard.stood.looks
    LockExpires_row (fun _ h => by cases h) (by kernel_rfl) (fun _ h => by cases h) lockExpires_row_tie rfl ⟨rfl, rfl⟩ (by kernel_rfl) rfl
    (fun f fn hf hfn => by
      obtain rfl : f = 7 := Option.some.inj ((show Tryd.prog.funcNamed Rows.lockExpiresRow.func = some 7 by kernel_rfl).symm.trans hf) |>.symm
      obtain rfl : fn = Tryd.f7 := (Option.some.inj (Tryd.func7.symm.trans hfn)).symm
      exact ⟨by kernel_rfl, fun j t ht => by
        rw [Tryd.params7] at ht
        have hm : t ∈ [22, 3, 55] := by simpa using Array.mem_of_getElem? ht
        have hall : ([22, 3, 55].all fun u => !Tryd.prog.wantsStandIn u) = true := by kernel_rfl
        exact (show Tryd.prog.wantsStandIn t = false by simpa using List.all_eq_true.1 hall t hm)⟩)
    (by kernel_rfl)
#print axioms LockExpires_holds

end Go.Proofs.YthmeobjomidkoaaDoor
