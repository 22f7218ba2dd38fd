/- The reference's Acquire. -/
import Derived.Test.YthmeobjomidkoaaDoorScrD
import Derived.Deep.RegionLaw
namespace Go.Proofs.YthmeobjomidkoaaDoor
open Go.RowKit Go.Maps
set_option maxRecDepth 100000
attribute [local go_sem] ext_refl_t ext_alloc_t ext_drew_t ext_drewN_t ext_alloc2_t ext_alloc3_t ext_alloc4_t ext_alloc5_t ext_alloc6_t ext_alloc7_t ext_alloc8_t ext_alloc1d_t ext_alloc2d_t ext_alloc3d_t ext_alloc4d_t
section
variable {w : World} {A : Option Addr} {m : Nat} {l : List Lk} {F : LF}
set_option maxHeartbeats 12800000 in
theorem racquire_lk (c : Nat) (hs : SlC lkC 4 w A m l) (hm : m ≤ 900) (hT : Tab F l) (hK : KeyOk F) (x : Lk) (hx : GoodL x) (now : Int) (hnow1 : -9223372036854775808 ≤ now) (hnow2 : now ≤ 9223372036854775807) :
    Calls Tryd.prog 17 #[.slice A m c, .agg #[.string x.name, .string x.id, .string x.who, .int .i64 x.til], .int .i64 now] w fun e w' => (∃ A' m' c' code F' l', e = .returned (.tuple #[.slice A' m' c', .int .i64 code]) ∧ SlC lkC 4 w' A' m' l' ∧ Tab F' l' ∧ AcqR F x.who x.name x.id now x.til code F' ∧ m' ≤ m + 1) ∧ Ext w w' := by
  obtain ⟨hx1, hx2, hx3, htil1, htil2⟩ := hx
  obtain ⟨W0, hW0⟩ : ∃ W0, W0 = w.alloc (Obj.cells #[.string x.name, .string x.id, .string x.who, .int .i64 x.til] 24) := ⟨_, rfl⟩
  have hb0 : Blk W0 w.heap.size 24 #[.string x.name, .string x.id, .string x.who, .int .i64 x.til] := by rw [hW0]; exact Blk.new w _ _
  have hE0 : Ext w W0 := by rw [hW0]; exact (Ext.refl w).alloc _
  obtain ⟨g, hg⟩ : ∃ g, g = w.heap.size := ⟨_, rfl⟩
  rw [← hg] at hb0
  go_enter Tryd.func17, Tryd.ntmps17
  go_wp2_with (first
    | (go_at_call 31; refine Hid.out ?_))
  rw [← hW0, ← hg]
  have X0 := laters (show W0.cell? ⟨g, 0, none⟩ = some (.string x.name) from hb0.cell 0)
  have X1 := laters (show W0.cell? ⟨g, 1, none⟩ = some (.string x.id) from hb0.cell 1)
  have X2 := laters (show W0.cell? ⟨g, 2, none⟩ = some (.string x.who) from hb0.cell 2)
  have X3 := laters (show W0.cell? ⟨g, 3, none⟩ = some (.int .i64 x.til) from hb0.cell 3)
  clear hW0 hg hb0
  refine Hid.mk_ ((refName_any x.who (by omega)).mono ?_)
  rintro e w1 ⟨rfl, hE1⟩
  have hE01 := hE0.trans hE1
  have hpq := properB_eq x.who x.name x.id
  have HPQ := Lib.hid hpq
  clear hpq
  cases hn : nameL (bys x.who) with
  | false =>
    have hrel : AcqR F x.who x.name x.id now x.til 1 F := .inl ⟨by rw [HPQ.out, hn]; rfl, rfl, rfl⟩
    clear hn
    have HR : Hid (AcqR F x.who x.name x.id now x.til 1 F) := hrel
    clear hrel
    go_wp2
    go_ret2
    exact ⟨⟨A, m, c, 1, F, l, rfl, hs.ext (hE01), hT, HR.out, Nat.le_succ _⟩, hE01⟩
  | true =>
  go_wp2_with (first
    | (go_at_call 32; refine Hid.out ?_))
  refine Hid.mk_ ((rproper_lk x.name x.id (by omega)).mono ?_)
  rintro e w2 ⟨rfl, hE2⟩
  have hE02 := hE01.trans hE2
  have hE12 := hE1.trans hE2
  cases hp2 : proB x.name x.id with
  | false =>
    have hrel : AcqR F x.who x.name x.id now x.til 1 F := .inl ⟨by rw [HPQ.out, hn, hp2]; rfl, rfl, rfl⟩
    clear hn hp2
    have HR : Hid (AcqR F x.who x.name x.id now x.til 1 F) := hrel
    clear hrel
    go_wp2
    go_ret2
    exact ⟨⟨A, m, c, 1, F, l, rfl, hs.ext (hE02), hT, HR.out, Nat.le_succ _⟩, hE02⟩
  | true =>
  have HP : Hid (properB x.who x.name x.id = true) := by show _ = _; rw [HPQ.out, hn, hp2]; rfl
  clear hn hp2
  by_cases b1 : now < 0
  · have hrel : AcqR F x.who x.name x.id now x.til 2 F := .inr (.inl ⟨HP.out, .inl b1, rfl, rfl⟩)
    have HR : Hid (AcqR F x.who x.name x.id now x.til 2 F) := hrel
    clear hrel
    go_wp2
    go_ret2
    exact ⟨⟨A, m, c, 2, F, l, rfl, hs.ext (hE02), hT, HR.out, Nat.le_succ _⟩, hE02⟩
  by_cases b2 : x.til ≤ now
  · have hrel : AcqR F x.who x.name x.id now x.til 2 F := .inr (.inl ⟨HP.out, .inr (.inl b2), rfl, rfl⟩)
    have HR : Hid (AcqR F x.who x.name x.id now x.til 2 F) := hrel
    clear hrel
    go_wp2
    go_ret2
    exact ⟨⟨A, m, c, 2, F, l, rfl, hs.ext (hE02), hT, HR.out, Nat.le_succ _⟩, hE02⟩
  by_cases b3 : 86400 < x.til - now
  · have hrel : AcqR F x.who x.name x.id now x.til 2 F := .inr (.inl ⟨HP.out, .inr (.inr b3), rfl, rfl⟩)
    have HR : Hid (AcqR F x.who x.name x.id now x.til 2 F) := hrel
    clear hrel
    go_wp2
    go_ret2
    exact ⟨⟨A, m, c, 2, F, l, rfl, hs.ext (hE02), hT, HR.out, Nat.le_succ _⟩, hE02⟩
  have HB : Hid (¬ badT now x.til) := by
    show ¬ _
    unfold badT
    rintro (h | h | h)
    · exact b1 h
    · exact b2 h
    · exact b3 h
  have hs2 := hs.ext hE02
  go_wp2_with (first
    | (go_at_call 21; refine Hid.out ?_))
  refine Hid.mk_ ((rholder_lk c hs2 hT hK x.name x.id now).mono ?_)
  rintro e w3 ⟨rfl, hE3⟩
  clear b1 b2 b3
  have hE03 := hE02.trans hE3
  have hE13 := hE12.trans hE3
  have hfo : ∀ (v : Lk), (∀ y, heldF F x.name x.id now = some y → y.who = x.who) → Hid (∀ y, heldF F x.name x.id now = some y → y.who = x.who) := fun _ h => h
  cases hh : heldF F x.name x.id now with
  | none =>
    have HW : Hid (∀ y, heldF F x.name x.id now = some y → y.who = x.who) := by
      show ∀ y, _
      intro y hy
      rw [hh] at hy
      cases hy
    clear hh hfo
    unfold lkV lk0
    dsimp only [Option.getD, Option.isSome]
    have hEa : Ext w3 (w3.alloc (Obj.cells #[.string ⟨#[]⟩, .string ⟨#[]⟩, .string ⟨#[]⟩, .int .i64 0] 24)) := (Ext.refl _).alloc _
    have hE1S := hE13.trans hEa
    have hE0S := hE03.trans hEa
    go_wp2_with (first
      | (go_at_call 33; refine Hid.out ?_))
    refine Hid.mk_ ((rwith_lk c (hs.ext hE0S) (by omega) x.name x.id).mono ?_)
    rintro e w5 ⟨⟨B, mB, cB, rfl, hoB⟩, hE5⟩
    have hmB : mB ≤ m := by
      have h1 := hoB.len
      have h2 := List.length_filter_le (fun z => !keyB x.name x.id z) l
      have h3 := hs.len
      omega
    have hE15 := hE1S.trans hE5
    have hE05 := hE0S.trans hE5
    go_wp2_with (first
      | (go_at_call 19; refine Hid.out ?_))
    refine Hid.mk_ ((rlist_lk cB hoB.sl (by omega) now).mono ?_)
    rintro e w6 ⟨⟨C, mC, cC, rfl, hoC⟩, hE6⟩
    have HCN : Hid (CountK (OtherHeld F x.name x.id now) mC) := by show CountK _ _; rw [hoC.len]; exact count_list hT hK x.name x.id now
    have hmC : mC < 1000 := by
      have h1 := hoC.len
      have h2 := List.length_filter_le (heldB now) (l.filter fun z => !keyB x.name x.id z)
      have h3 := hoB.len
      omega
    have HACQ : Hid (AcqR F x.who x.name x.id now x.til 0 (upd F x.name x.id (some x))) := .inr (.inr (.inr ⟨HP.out, HB.out, HW.out, mC, HCN.out, .inr ⟨hmC, rfl, rfl⟩⟩))
    have hci : ¬ (1000 : Int) ≤ (mC : Int) := by omega
    have hsB := hoB.sl.ext hE6
    have hcapB := hoB.cap
    have hE16 := hE15.trans hE6
    have hE06 := hE05.trans hE6
    clear hoC hoB HW hE15 hE05 hE1S hE0S
    obtain ⟨R, hR⟩ : ∃ R, R = l.filter fun z => !keyB x.name x.id z := ⟨_, rfl⟩
    rw [← hR] at hsB
    have HRL := Lib.hid hR
    have HBL := Lib.hid hsB.len
    clear hR
    go_wp2
    go_loopw [11] (fun i wr => ∃ k : Nat, k ≤ mB ∧ i = .int .i64 k ∧ Hid (∀ j (_ : j < k) (h : j < R.length), kL R[j] x = true) ∧ Ext w6 wr) (fun i _ => mB - (intOf i).toNat)
    case atStart => exact ⟨0, Nat.zero_le _, rfl, fun j hj => absurd hj (by omega), Ext.refl _⟩
    case round =>
      obtain ⟨k, hk, rfl, HLO, hE⟩ := hrel
      have hX : Ext W0 wr := hE16.trans hE
      by_cases hlt : k < mB
      · have hd1 : decide ((k : Int) < (mB : Int)) = true := decide_eq_true (by omega)
        have hi1 : (k : Int) < (mB : Int) := by omega
        have hkl : k < R.length := by rw [← HBL.out]; exact hlt
        obtain ⟨b, off, e0, hbl, hcs⟩ := (hsB.ext hE).at_ hlt (by omega)
        have y0 := hcs k hkl 0 (by omega)
        have y1 := hcs k hkl 1 (by omega)
        obtain ⟨v, hv⟩ : ∃ v, v = R[k] := ⟨_, rfl⟩
        simp only [← hv, lkC, List.getElem_cons_zero, List.getElem_cons_succ, ← Nat.add_assoc, Nat.add_zero] at y0 y1
        have HV := Lib.hid hv
        have U0 := latersU y0
        have U1 := latersU y1
        have Ux0 := fun (u : ExtOf wr) => X0 u.val (hX.trans u.ext)
        have Ux1 := fun (u : ExtOf wr) => X1 u.val (hX.trans u.ext)
        have E0 := Lib.hid e0
        clear hcs hv y0 y1
        cases hkv : kL v x with
        | true =>
          have HLO2 : Hid (∀ j (_ : j < k + 1) (h : j < R.length), kL R[j] x = true) := fun j hj h => by
            rcases Nat.lt_or_ge j k with h2 | h2
            · exact HLO.out j h2 h
            · obtain rfl : j = k := by omega
              rw [← HV.out]; exact hkv
          unfold kL at hkv
          simp only [Bool.or_eq_true, Bool.and_eq_true, decide_eq_true_eq] at hkv
          rcases hkv with q1 | ⟨q1, q2⟩
          · have q1 : Op.bytesLess v.name.toList x.name.toList = true := q1
            go_wp2
            refine wp_region_ext_lit (by kernel_rfl) (by kernel_rfl) ?_
            try dsimp only [List.append]
            repeat (go_big_quiet_step (fail))
            refine wpQuiet_nil ?_
            rintro w9 ⟨⟨_, h9⟩, rfl⟩
            try dsimp only
            clear e0 U0 U1 Ux0 Ux1 q1
            go_wp2
            go_roundw
            case rel => exact ⟨k + 1, by omega, by go_num, HLO2, hE.trans h9⟩
            case measure => simp [intOf]; omega
          · have q3 : Op.bytesLess v.name.toList x.name.toList = false := by rw [q1]; exact bL_irrefl _
            have q4 : (v.name.toList == x.name.toList) = true := by rw [q1]; simp
            have q2 : Op.bytesLess v.id.toList x.id.toList = true := q2
            clear q1
            go_wp2
            refine wp_region_ext_lit (by kernel_rfl) (by kernel_rfl) ?_
            try dsimp only [List.append]
            repeat (go_big_quiet_step (fail))
            refine wpQuiet_nil ?_
            rintro w9 ⟨⟨_, h9⟩, rfl⟩
            try dsimp only
            clear e0 U0 U1 Ux0 Ux1 q2 q3 q4
            go_wp2
            go_roundw
            case rel => exact ⟨k + 1, by omega, by go_num, HLO2, hE.trans h9⟩
            case measure => simp [intOf]; omega
        | false =>
          have HAT : Hid (∀ h : k < R.length, kL R[k] x = false) := fun h => by rw [← HV.out]; exact hkv
          unfold kL at hkv
          simp only [Bool.or_eq_false_iff, Bool.and_eq_false_iff, decide_eq_false_iff_not] at hkv
          obtain ⟨q1, q2⟩ := hkv
          have q1 : Op.bytesLess v.name.toList x.name.toList = false := q1
          by_cases qe : v.name = x.name
          · have q4 : (v.name.toList == x.name.toList) = true := by rw [qe]; simp
            have q2 : Op.bytesLess v.id.toList x.id.toList = false := by
              rcases q2 with q2 | q2
              · exact absurd qe q2
              · exact q2
            clear qe
            go_wp2
            refine wp_region_ext_lit (by kernel_rfl) (by kernel_rfl) ?_
            try dsimp only [List.append]
            repeat (go_big_quiet_step (fail))
            refine wpQuiet_nil ?_
            rintro w9 ⟨⟨_, h9⟩, rfl⟩
            try dsimp only
            clear e0 U0 U1 Ux0 Ux1 q1 q2 q4
            have hk9 : Ext w6 w9 := hE.trans h9
            have hX9 : Ext W0 w9 := hE16.trans hk9
            have HTAB : Hid (Tab (upd F x.name x.id (some x)) (R.take k ++ [x] ++ R.drop k)) := by
              have h1 := HLO.out
              have h2 := HAT.out
              show Tab _ _
              rw [HRL.out] at h1 h2 ⊢
              exact hT.put x h1 h2
            have HLEN : Hid ((R.take k ++ [x] ++ R.drop k).length ≤ l.length + 1) := by show _ ≤ _; rw [HRL.out]; exact put_len l x k
            obtain ⟨P2, hP2⟩ : ∃ P2, P2 = R.take k ++ [x] ++ R.drop k := ⟨_, rfl⟩
            have HP2 := Lib.hid hP2
            rw [← hP2] at HTAB HLEN
            clear hP2 HLO HAT
            have hsR := hsB.ext hk9
            have hsl := hsR.take_ (i := k) (by omega)
            have hsr := hsR.cut (i := k) (by omega) hcapB
            obtain ⟨hci1, hci2, -⟩ := (cut_runC einfo_rl (A := B) (m := mB) (c := cB))
            have q3 : ∀ W, (Instr.sliceAt 45 (.slice B mB cB) none (some (.int .i64 (k : Int))) none).run Tryd.prog W = .ok (.slice B k cB) W := fun W => (hci2 W .i64 k (by omega)).1
            have q4 : ∀ W, (Instr.slice 45 (.slice B mB cB) none (some (.int .i64 (k : Int))) none).run Tryd.prog W = .ok (.slice B k cB) W := fun W => (hci2 W .i64 k (by omega)).2
            have q1 : ∀ W, (Instr.sliceAt 45 (.slice B mB cB) (some (.int .i64 (k : Int))) none none).run Tryd.prog W = .ok (.slice (cutA B cB 4 k) (mB - k) (cB - k)) W := fun W => by have := (hci1 W .i64 k (by omega) hcapB).1; simpa using this
            have q2 : ∀ W, (Instr.slice 45 (.slice B mB cB) (some (.int .i64 (k : Int))) none none).run Tryd.prog W = .ok (.slice (cutA B cB 4 k) (mB - k) (cB - k)) W := fun W => by have := (hci1 W .i64 k (by omega) hcapB).2; simpa using this
            clear hci1 hci2
            have i6 : (k : Int) ≤ (mB : Int) := by omega
            have hoA : OsC lkC 24 4 (w9.alloc (.cells #[] 24)).drew w9.heap.size (some ⟨w9.heap.size, 0, none⟩) 0 0 [] := (OsC.new0 (cs := lkC) (e := 24) (k := 4) w9 w9.heap.size (Nat.le_refl _) lkC_len4 lkC_cell).ext (Ext.refl _).drew
            have hnA : ∀ W : World, SlC lkC 4 (W.alloc (Obj.cells #[.string x.name, .string x.id, .string x.who, .int .i64 x.til] 24)) (some ⟨W.heap.size, 0, none⟩) 1 [x] := fun W => SlC.new_ (cs := lkC) W [x] lkC_len4 (by simp) _ rfl (0, 0) 1 rfl 24
            have hoB : OsC lkC 24 4 ((w9.alloc (.cells #[] 24)).alloc (Obj.cells #[.string x.name, .string x.id, .string x.who, .int .i64 x.til] 24)).drew w9.heap.size (some ⟨w9.heap.size, 0, none⟩) 0 0 [] := (OsC.new0 (cs := lkC) (e := 24) (k := 4) w9 w9.heap.size (Nat.le_refl _) lkC_len4 lkC_cell).ext ((Ext.refl _).alloc _).drew
            have hoC : OsC lkC 24 4 ((w9.alloc (Obj.cells #[.string x.name, .string x.id, .string x.who, .int .i64 x.til] 24)).alloc (.cells #[] 24)).drew w9.heap.size (some ⟨w9.heap.size + 1, 0, none⟩) 0 0 [] := by
              have h9 := (OsC.new0 (cs := lkC) (e := 24) (k := 4) (w9.alloc (Obj.cells #[.string x.name, .string x.id, .string x.who, .int .i64 x.til] 24)) w9.heap.size (by simp) lkC_len4 lkC_cell).ext (Ext.refl _).drew
              simpa using h9
            have hnB : SlC lkC 4 ((w9.alloc (.cells #[] 24)).alloc (Obj.cells #[.string x.name, .string x.id, .string x.who, .int .i64 x.til] 24)).drew (some ⟨w9.heap.size + 1, 0, none⟩) 1 [x] := by
              have h9 := (hnA (w9.alloc (.cells #[] 24))).ext (Ext.refl _).drew
              simpa using h9
            have hnC : SlC lkC 4 ((w9.alloc (Obj.cells #[.string x.name, .string x.id, .string x.who, .int .i64 x.til] 24)).alloc (.cells #[] 24)).drew (some ⟨w9.heap.size, 0, none⟩) 1 [x] := (hnA w9).ext ((Ext.refl _).alloc _).drew
            have hmm : mB ≤ 900 := by omega
            go_wp2
            first
            | (go_region_law (first
                | (refine step_appC einfo_rl rfl _ _ rfl ho3 rfl (hsr.ext hE03q) rfl (by have := ho3.len; simp at this; omega) hE03q.size_le ?_; intro A4 m4 c4 w4 ho4 hg4 hat4)
                | (refine step_appC einfo_rl rfl _ _ rfl ho2 rfl hn2 rfl (by have := ho2.len; simp at this; omega) hE02q.size_le ?_; intro A3 m3 c3 w3 ho3 hg3 hat3; have hE03q := hE02q.grown hg3 ho2.ge)
                | (refine step_appC einfo_rl rfl _ _ rfl (ho2.ext ((Ext.refl w2).alloc _)) rfl (hnA w2) rfl (by have := ho2.len; simp at this; omega) (hE02q.alloc _).size_le ?_; intro A3 m3 c3 w3 ho3 hg3 hat3; have hE03q := (hE02q.alloc _).grown hg3 ho2.ge)
                | (refine step_appC einfo_rl rfl _ _ rfl hoA rfl (hsl.ext ((Ext.refl w9).alloc _).drew) rfl (by omega) (by simp <;> omega) ?_; intro A2 m2 c2 w2 ho2 hg2 hat2; have hE02q : Ext w9 w2 := ((Ext.refl w9).alloc _).drew.grown hg2 (fun j hj => by simp [ob] at hj; omega); have hX2q := hX9.trans hE02q)
                | (refine step_appC einfo_rl rfl _ _ rfl hoB rfl (hsl.ext (((Ext.refl w9).alloc _).alloc _).drew) rfl (by omega) (by simp <;> omega) ?_; intro A2 m2 c2 w2 ho2 hg2 hat2; have hE02q : Ext w9 w2 := (((Ext.refl w9).alloc _).alloc _).drew.grown hg2 (fun j hj => by simp [ob] at hj; omega); have hX2q := hX9.trans hE02q; have hn2 := hnB.kept hg2 (.inr (by simp [ob])))
                | (refine step_appC einfo_rl rfl _ _ rfl hoC rfl (hsl.ext (((Ext.refl w9).alloc _).alloc _).drew) rfl (by omega) (by simp <;> omega) ?_; intro A2 m2 c2 w2 ho2 hg2 hat2; have hE02q : Ext w9 w2 := (((Ext.refl w9).alloc _).alloc _).drew.grown hg2 (fun j hj => by simp [ob] at hj; omega); have hX2q := hX9.trans hE02q; have hn2 := hnC.kept hg2 (.inr (by simp [ob])))
                | fail))
            | fail
            all_goals
              have hE04q := hE03q.grown hg4 ho3.ge
              have hEW4 := (hE06.trans hk9).trans hE04q
              have ho4' : SlC lkC 4 w4 A4 m4 P2 := by rw [HP2.out]; simpa using ho4.sl
              have hm4 : m4 ≤ m + 1 := by rw [ho4'.len, hs.len]; exact HLEN.out
              have HO4 := Lib.hid ho4'
              clear ho4' ho4 hg4 hat4
              go_wp2
              go_ret2
              exact ⟨⟨A4, m4, c4, 0, _, P2, rfl, HO4.out, HTAB.out, HACQ.out, hm4⟩, hEW4⟩
          · have q4 : (v.name.toList == x.name.toList) = false := by rw [beq_eq_false_iff_ne]; exact fun e => qe (toList_eq_iff.1 e)
            clear qe q2
            go_wp2
            refine wp_region_ext_lit (by kernel_rfl) (by kernel_rfl) ?_
            try dsimp only [List.append]
            repeat (go_big_quiet_step (fail))
            refine wpQuiet_nil ?_
            rintro w9 ⟨⟨_, h9⟩, rfl⟩
            try dsimp only
            clear e0 U0 U1 Ux0 Ux1 q1 q4
            have hk9 : Ext w6 w9 := hE.trans h9
            have hX9 : Ext W0 w9 := hE16.trans hk9
            have HTAB : Hid (Tab (upd F x.name x.id (some x)) (R.take k ++ [x] ++ R.drop k)) := by
              have h1 := HLO.out
              have h2 := HAT.out
              show Tab _ _
              rw [HRL.out] at h1 h2 ⊢
              exact hT.put x h1 h2
            have HLEN : Hid ((R.take k ++ [x] ++ R.drop k).length ≤ l.length + 1) := by show _ ≤ _; rw [HRL.out]; exact put_len l x k
            obtain ⟨P2, hP2⟩ : ∃ P2, P2 = R.take k ++ [x] ++ R.drop k := ⟨_, rfl⟩
            have HP2 := Lib.hid hP2
            rw [← hP2] at HTAB HLEN
            clear hP2 HLO HAT
            have hsR := hsB.ext hk9
            have hsl := hsR.take_ (i := k) (by omega)
            have hsr := hsR.cut (i := k) (by omega) hcapB
            obtain ⟨hci1, hci2, -⟩ := (cut_runC einfo_rl (A := B) (m := mB) (c := cB))
            have q3 : ∀ W, (Instr.sliceAt 45 (.slice B mB cB) none (some (.int .i64 (k : Int))) none).run Tryd.prog W = .ok (.slice B k cB) W := fun W => (hci2 W .i64 k (by omega)).1
            have q4 : ∀ W, (Instr.slice 45 (.slice B mB cB) none (some (.int .i64 (k : Int))) none).run Tryd.prog W = .ok (.slice B k cB) W := fun W => (hci2 W .i64 k (by omega)).2
            have q1 : ∀ W, (Instr.sliceAt 45 (.slice B mB cB) (some (.int .i64 (k : Int))) none none).run Tryd.prog W = .ok (.slice (cutA B cB 4 k) (mB - k) (cB - k)) W := fun W => by have := (hci1 W .i64 k (by omega) hcapB).1; simpa using this
            have q2 : ∀ W, (Instr.slice 45 (.slice B mB cB) (some (.int .i64 (k : Int))) none none).run Tryd.prog W = .ok (.slice (cutA B cB 4 k) (mB - k) (cB - k)) W := fun W => by have := (hci1 W .i64 k (by omega) hcapB).2; simpa using this
            clear hci1 hci2
            have i6 : (k : Int) ≤ (mB : Int) := by omega
            have hoA : OsC lkC 24 4 (w9.alloc (.cells #[] 24)).drew w9.heap.size (some ⟨w9.heap.size, 0, none⟩) 0 0 [] := (OsC.new0 (cs := lkC) (e := 24) (k := 4) w9 w9.heap.size (Nat.le_refl _) lkC_len4 lkC_cell).ext (Ext.refl _).drew
            have hnA : ∀ W : World, SlC lkC 4 (W.alloc (Obj.cells #[.string x.name, .string x.id, .string x.who, .int .i64 x.til] 24)) (some ⟨W.heap.size, 0, none⟩) 1 [x] := fun W => SlC.new_ (cs := lkC) W [x] lkC_len4 (by simp) _ rfl (0, 0) 1 rfl 24
            have hoB : OsC lkC 24 4 ((w9.alloc (.cells #[] 24)).alloc (Obj.cells #[.string x.name, .string x.id, .string x.who, .int .i64 x.til] 24)).drew w9.heap.size (some ⟨w9.heap.size, 0, none⟩) 0 0 [] := (OsC.new0 (cs := lkC) (e := 24) (k := 4) w9 w9.heap.size (Nat.le_refl _) lkC_len4 lkC_cell).ext ((Ext.refl _).alloc _).drew
            have hoC : OsC lkC 24 4 ((w9.alloc (Obj.cells #[.string x.name, .string x.id, .string x.who, .int .i64 x.til] 24)).alloc (.cells #[] 24)).drew w9.heap.size (some ⟨w9.heap.size + 1, 0, none⟩) 0 0 [] := by
              have h9 := (OsC.new0 (cs := lkC) (e := 24) (k := 4) (w9.alloc (Obj.cells #[.string x.name, .string x.id, .string x.who, .int .i64 x.til] 24)) w9.heap.size (by simp) lkC_len4 lkC_cell).ext (Ext.refl _).drew
              simpa using h9
            have hnB : SlC lkC 4 ((w9.alloc (.cells #[] 24)).alloc (Obj.cells #[.string x.name, .string x.id, .string x.who, .int .i64 x.til] 24)).drew (some ⟨w9.heap.size + 1, 0, none⟩) 1 [x] := by
              have h9 := (hnA (w9.alloc (.cells #[] 24))).ext (Ext.refl _).drew
              simpa using h9
            have hnC : SlC lkC 4 ((w9.alloc (Obj.cells #[.string x.name, .string x.id, .string x.who, .int .i64 x.til] 24)).alloc (.cells #[] 24)).drew (some ⟨w9.heap.size, 0, none⟩) 1 [x] := (hnA w9).ext ((Ext.refl _).alloc _).drew
            have hmm : mB ≤ 900 := by omega
            go_wp2
            first
            | (go_region_law (first
                | (refine step_appC einfo_rl rfl _ _ rfl ho3 rfl (hsr.ext hE03q) rfl (by have := ho3.len; simp at this; omega) hE03q.size_le ?_; intro A4 m4 c4 w4 ho4 hg4 hat4)
                | (refine step_appC einfo_rl rfl _ _ rfl ho2 rfl hn2 rfl (by have := ho2.len; simp at this; omega) hE02q.size_le ?_; intro A3 m3 c3 w3 ho3 hg3 hat3; have hE03q := hE02q.grown hg3 ho2.ge)
                | (refine step_appC einfo_rl rfl _ _ rfl (ho2.ext ((Ext.refl w2).alloc _)) rfl (hnA w2) rfl (by have := ho2.len; simp at this; omega) (hE02q.alloc _).size_le ?_; intro A3 m3 c3 w3 ho3 hg3 hat3; have hE03q := (hE02q.alloc _).grown hg3 ho2.ge)
                | (refine step_appC einfo_rl rfl _ _ rfl hoA rfl (hsl.ext ((Ext.refl w9).alloc _).drew) rfl (by omega) (by simp <;> omega) ?_; intro A2 m2 c2 w2 ho2 hg2 hat2; have hE02q : Ext w9 w2 := ((Ext.refl w9).alloc _).drew.grown hg2 (fun j hj => by simp [ob] at hj; omega); have hX2q := hX9.trans hE02q)
                | (refine step_appC einfo_rl rfl _ _ rfl hoB rfl (hsl.ext (((Ext.refl w9).alloc _).alloc _).drew) rfl (by omega) (by simp <;> omega) ?_; intro A2 m2 c2 w2 ho2 hg2 hat2; have hE02q : Ext w9 w2 := (((Ext.refl w9).alloc _).alloc _).drew.grown hg2 (fun j hj => by simp [ob] at hj; omega); have hX2q := hX9.trans hE02q; have hn2 := hnB.kept hg2 (.inr (by simp [ob])))
                | (refine step_appC einfo_rl rfl _ _ rfl hoC rfl (hsl.ext (((Ext.refl w9).alloc _).alloc _).drew) rfl (by omega) (by simp <;> omega) ?_; intro A2 m2 c2 w2 ho2 hg2 hat2; have hE02q : Ext w9 w2 := (((Ext.refl w9).alloc _).alloc _).drew.grown hg2 (fun j hj => by simp [ob] at hj; omega); have hX2q := hX9.trans hE02q; have hn2 := hnC.kept hg2 (.inr (by simp [ob])))
                | fail))
            | fail
            all_goals
              have hE04q := hE03q.grown hg4 ho3.ge
              have hEW4 := (hE06.trans hk9).trans hE04q
              have ho4' : SlC lkC 4 w4 A4 m4 P2 := by rw [HP2.out]; simpa using ho4.sl
              have hm4 : m4 ≤ m + 1 := by rw [ho4'.len, hs.len]; exact HLEN.out
              have HO4 := Lib.hid ho4'
              clear ho4' ho4 hg4 hat4
              go_wp2
              go_ret2
              exact ⟨⟨A4, m4, c4, 0, _, P2, rfl, HO4.out, HTAB.out, HACQ.out, hm4⟩, hEW4⟩
      · have hd1 : decide ((k : Int) < (mB : Int)) = false := decide_eq_false (by omega)
        have HAT : Hid (∀ h : k < R.length, kL R[k] x = false) := fun h => absurd h (by rw [← HBL.out]; exact hlt)
        go_wp2
        refine wp_region_ext_lit (by kernel_rfl) (by kernel_rfl) ?_
        try dsimp only [List.append]
        repeat (go_big_quiet_step (fail))
        refine wpQuiet_nil ?_
        rintro w9 ⟨⟨_, h9⟩, rfl⟩
        try dsimp only
        have hk9 : Ext w6 w9 := hE.trans h9
        have hX9 : Ext W0 w9 := hE16.trans hk9
        have HTAB : Hid (Tab (upd F x.name x.id (some x)) (R.take k ++ [x] ++ R.drop k)) := by
          have h1 := HLO.out
          have h2 := HAT.out
          show Tab _ _
          rw [HRL.out] at h1 h2 ⊢
          exact hT.put x h1 h2
        have HLEN : Hid ((R.take k ++ [x] ++ R.drop k).length ≤ l.length + 1) := by show _ ≤ _; rw [HRL.out]; exact put_len l x k
        obtain ⟨P2, hP2⟩ : ∃ P2, P2 = R.take k ++ [x] ++ R.drop k := ⟨_, rfl⟩
        have HP2 := Lib.hid hP2
        rw [← hP2] at HTAB HLEN
        clear hP2 HLO HAT
        have hsR := hsB.ext hk9
        have hsl := hsR.take_ (i := k) (by omega)
        have hsr := hsR.cut (i := k) (by omega) hcapB
        obtain ⟨hci1, hci2, -⟩ := (cut_runC einfo_rl (A := B) (m := mB) (c := cB))
        have q3 : ∀ W, (Instr.sliceAt 45 (.slice B mB cB) none (some (.int .i64 (k : Int))) none).run Tryd.prog W = .ok (.slice B k cB) W := fun W => (hci2 W .i64 k (by omega)).1
        have q4 : ∀ W, (Instr.slice 45 (.slice B mB cB) none (some (.int .i64 (k : Int))) none).run Tryd.prog W = .ok (.slice B k cB) W := fun W => (hci2 W .i64 k (by omega)).2
        have q1 : ∀ W, (Instr.sliceAt 45 (.slice B mB cB) (some (.int .i64 (k : Int))) none none).run Tryd.prog W = .ok (.slice (cutA B cB 4 k) (mB - k) (cB - k)) W := fun W => by have := (hci1 W .i64 k (by omega) hcapB).1; simpa using this
        have q2 : ∀ W, (Instr.slice 45 (.slice B mB cB) (some (.int .i64 (k : Int))) none none).run Tryd.prog W = .ok (.slice (cutA B cB 4 k) (mB - k) (cB - k)) W := fun W => by have := (hci1 W .i64 k (by omega) hcapB).2; simpa using this
        clear hci1 hci2
        have i6 : (k : Int) ≤ (mB : Int) := by omega
        have hoA : OsC lkC 24 4 (w9.alloc (.cells #[] 24)).drew w9.heap.size (some ⟨w9.heap.size, 0, none⟩) 0 0 [] := (OsC.new0 (cs := lkC) (e := 24) (k := 4) w9 w9.heap.size (Nat.le_refl _) lkC_len4 lkC_cell).ext (Ext.refl _).drew
        have hnA : ∀ W : World, SlC lkC 4 (W.alloc (Obj.cells #[.string x.name, .string x.id, .string x.who, .int .i64 x.til] 24)) (some ⟨W.heap.size, 0, none⟩) 1 [x] := fun W => SlC.new_ (cs := lkC) W [x] lkC_len4 (by simp) _ rfl (0, 0) 1 rfl 24
        have hoB : OsC lkC 24 4 ((w9.alloc (.cells #[] 24)).alloc (Obj.cells #[.string x.name, .string x.id, .string x.who, .int .i64 x.til] 24)).drew w9.heap.size (some ⟨w9.heap.size, 0, none⟩) 0 0 [] := (OsC.new0 (cs := lkC) (e := 24) (k := 4) w9 w9.heap.size (Nat.le_refl _) lkC_len4 lkC_cell).ext ((Ext.refl _).alloc _).drew
        have hoC : OsC lkC 24 4 ((w9.alloc (Obj.cells #[.string x.name, .string x.id, .string x.who, .int .i64 x.til] 24)).alloc (.cells #[] 24)).drew w9.heap.size (some ⟨w9.heap.size + 1, 0, none⟩) 0 0 [] := by
          have h9 := (OsC.new0 (cs := lkC) (e := 24) (k := 4) (w9.alloc (Obj.cells #[.string x.name, .string x.id, .string x.who, .int .i64 x.til] 24)) w9.heap.size (by simp) lkC_len4 lkC_cell).ext (Ext.refl _).drew
          simpa using h9
        have hnB : SlC lkC 4 ((w9.alloc (.cells #[] 24)).alloc (Obj.cells #[.string x.name, .string x.id, .string x.who, .int .i64 x.til] 24)).drew (some ⟨w9.heap.size + 1, 0, none⟩) 1 [x] := by
          have h9 := (hnA (w9.alloc (.cells #[] 24))).ext (Ext.refl _).drew
          simpa using h9
        have hnC : SlC lkC 4 ((w9.alloc (Obj.cells #[.string x.name, .string x.id, .string x.who, .int .i64 x.til] 24)).alloc (.cells #[] 24)).drew (some ⟨w9.heap.size, 0, none⟩) 1 [x] := (hnA w9).ext ((Ext.refl _).alloc _).drew
        have hmm : mB ≤ 900 := by omega
        go_wp2
        first
        | (go_region_law (first
            | (refine step_appC einfo_rl rfl _ _ rfl ho3 rfl (hsr.ext hE03q) rfl (by have := ho3.len; simp at this; omega) hE03q.size_le ?_; intro A4 m4 c4 w4 ho4 hg4 hat4)
            | (refine step_appC einfo_rl rfl _ _ rfl ho2 rfl hn2 rfl (by have := ho2.len; simp at this; omega) hE02q.size_le ?_; intro A3 m3 c3 w3 ho3 hg3 hat3; have hE03q := hE02q.grown hg3 ho2.ge)
            | (refine step_appC einfo_rl rfl _ _ rfl (ho2.ext ((Ext.refl w2).alloc _)) rfl (hnA w2) rfl (by have := ho2.len; simp at this; omega) (hE02q.alloc _).size_le ?_; intro A3 m3 c3 w3 ho3 hg3 hat3; have hE03q := (hE02q.alloc _).grown hg3 ho2.ge)
            | (refine step_appC einfo_rl rfl _ _ rfl hoA rfl (hsl.ext ((Ext.refl w9).alloc _).drew) rfl (by omega) (by simp <;> omega) ?_; intro A2 m2 c2 w2 ho2 hg2 hat2; have hE02q : Ext w9 w2 := ((Ext.refl w9).alloc _).drew.grown hg2 (fun j hj => by simp [ob] at hj; omega); have hX2q := hX9.trans hE02q)
            | (refine step_appC einfo_rl rfl _ _ rfl hoB rfl (hsl.ext (((Ext.refl w9).alloc _).alloc _).drew) rfl (by omega) (by simp <;> omega) ?_; intro A2 m2 c2 w2 ho2 hg2 hat2; have hE02q : Ext w9 w2 := (((Ext.refl w9).alloc _).alloc _).drew.grown hg2 (fun j hj => by simp [ob] at hj; omega); have hX2q := hX9.trans hE02q; have hn2 := hnB.kept hg2 (.inr (by simp [ob])))
            | (refine step_appC einfo_rl rfl _ _ rfl hoC rfl (hsl.ext (((Ext.refl w9).alloc _).alloc _).drew) rfl (by omega) (by simp <;> omega) ?_; intro A2 m2 c2 w2 ho2 hg2 hat2; have hE02q : Ext w9 w2 := (((Ext.refl w9).alloc _).alloc _).drew.grown hg2 (fun j hj => by simp [ob] at hj; omega); have hX2q := hX9.trans hE02q; have hn2 := hnC.kept hg2 (.inr (by simp [ob])))
            | fail))
        | fail
        all_goals
          have hE04q := hE03q.grown hg4 ho3.ge
          have hEW4 := (hE06.trans hk9).trans hE04q
          have ho4' : SlC lkC 4 w4 A4 m4 P2 := by rw [HP2.out]; simpa using ho4.sl
          have hm4 : m4 ≤ m + 1 := by rw [ho4'.len, hs.len]; exact HLEN.out
          have HO4 := Lib.hid ho4'
          clear ho4' ho4 hg4 hat4
          go_wp2
          go_ret2
          exact ⟨⟨A4, m4, c4, 0, _, P2, rfl, HO4.out, HTAB.out, HACQ.out, hm4⟩, hEW4⟩
  | some y =>
    obtain ⟨ya, yb, yc, yt⟩ := y
    unfold lkV
    dsimp only [Option.getD, Option.isSome]
    have hEa : Ext w3 (w3.alloc (Obj.cells #[.string ya, .string yb, .string yc, .int .i64 yt] 24)) := (Ext.refl _).alloc _
    by_cases hw : yc = x.who
    · have HW : Hid (∀ y, heldF F x.name x.id now = some y → y.who = x.who) := by
        show ∀ y, _
        intro y hy
        rw [hh] at hy
        injection hy with hy
        rw [← hy]
        exact hw
      have hq : (yc.toList == x.who.toList) = true := by rw [hw]; simp
      clear hh hfo hw
      have hE1S := hE13.trans hEa
      have hE0S := hE03.trans hEa
      go_wp2_with (first
        | (go_at_call 33; refine Hid.out ?_))
      refine Hid.mk_ ((rwith_lk c (hs.ext hE0S) (by omega) x.name x.id).mono ?_)
      rintro e w5 ⟨⟨B, mB, cB, rfl, hoB⟩, hE5⟩
      have hmB : mB ≤ m := by
        have h1 := hoB.len
        have h2 := List.length_filter_le (fun z => !keyB x.name x.id z) l
        have h3 := hs.len
        omega
      have hE15 := hE1S.trans hE5
      have hE05 := hE0S.trans hE5
      go_wp2_with (first
        | (go_at_call 19; refine Hid.out ?_))
      refine Hid.mk_ ((rlist_lk cB hoB.sl (by omega) now).mono ?_)
      rintro e w6 ⟨⟨C, mC, cC, rfl, hoC⟩, hE6⟩
      have HCN : Hid (CountK (OtherHeld F x.name x.id now) mC) := by show CountK _ _; rw [hoC.len]; exact count_list hT hK x.name x.id now
      have hmC : mC < 1000 := by
        have h1 := hoC.len
        have h2 := List.length_filter_le (heldB now) (l.filter fun z => !keyB x.name x.id z)
        have h3 := hoB.len
        omega
      have HACQ : Hid (AcqR F x.who x.name x.id now x.til 0 (upd F x.name x.id (some x))) := .inr (.inr (.inr ⟨HP.out, HB.out, HW.out, mC, HCN.out, .inr ⟨hmC, rfl, rfl⟩⟩))
      have hci : ¬ (1000 : Int) ≤ (mC : Int) := by omega
      have hsB := hoB.sl.ext hE6
      have hcapB := hoB.cap
      have hE16 := hE15.trans hE6
      have hE06 := hE05.trans hE6
      clear hoC hoB HW hE15 hE05 hE1S hE0S
      obtain ⟨R, hR⟩ : ∃ R, R = l.filter fun z => !keyB x.name x.id z := ⟨_, rfl⟩
      rw [← hR] at hsB
      have HRL := Lib.hid hR
      have HBL := Lib.hid hsB.len
      clear hR
      go_wp2
      go_loopw [11] (fun i wr => ∃ k : Nat, k ≤ mB ∧ i = .int .i64 k ∧ Hid (∀ j (_ : j < k) (h : j < R.length), kL R[j] x = true) ∧ Ext w6 wr) (fun i _ => mB - (intOf i).toNat)
      case atStart => exact ⟨0, Nat.zero_le _, rfl, fun j hj => absurd hj (by omega), Ext.refl _⟩
      case round =>
        obtain ⟨k, hk, rfl, HLO, hE⟩ := hrel
        have hX : Ext W0 wr := hE16.trans hE
        by_cases hlt : k < mB
        · have hd1 : decide ((k : Int) < (mB : Int)) = true := decide_eq_true (by omega)
          have hi1 : (k : Int) < (mB : Int) := by omega
          have hkl : k < R.length := by rw [← HBL.out]; exact hlt
          obtain ⟨b, off, e0, hbl, hcs⟩ := (hsB.ext hE).at_ hlt (by omega)
          have y0 := hcs k hkl 0 (by omega)
          have y1 := hcs k hkl 1 (by omega)
          obtain ⟨v, hv⟩ : ∃ v, v = R[k] := ⟨_, rfl⟩
          simp only [← hv, lkC, List.getElem_cons_zero, List.getElem_cons_succ, ← Nat.add_assoc, Nat.add_zero] at y0 y1
          have HV := Lib.hid hv
          have U0 := latersU y0
          have U1 := latersU y1
          have Ux0 := fun (u : ExtOf wr) => X0 u.val (hX.trans u.ext)
          have Ux1 := fun (u : ExtOf wr) => X1 u.val (hX.trans u.ext)
          have E0 := Lib.hid e0
          clear hcs hv y0 y1
          cases hkv : kL v x with
          | true =>
            have HLO2 : Hid (∀ j (_ : j < k + 1) (h : j < R.length), kL R[j] x = true) := fun j hj h => by
              rcases Nat.lt_or_ge j k with h2 | h2
              · exact HLO.out j h2 h
              · obtain rfl : j = k := by omega
                rw [← HV.out]; exact hkv
            unfold kL at hkv
            simp only [Bool.or_eq_true, Bool.and_eq_true, decide_eq_true_eq] at hkv
            rcases hkv with q1 | ⟨q1, q2⟩
            · have q1 : Op.bytesLess v.name.toList x.name.toList = true := q1
              go_wp2
              refine wp_region_ext_lit (by kernel_rfl) (by kernel_rfl) ?_
              try dsimp only [List.append]
              repeat (go_big_quiet_step (fail))
              refine wpQuiet_nil ?_
              rintro w9 ⟨⟨_, h9⟩, rfl⟩
              try dsimp only
              clear e0 U0 U1 Ux0 Ux1 q1
              go_wp2
              go_roundw
              case rel => exact ⟨k + 1, by omega, by go_num, HLO2, hE.trans h9⟩
              case measure => simp [intOf]; omega
            · have q3 : Op.bytesLess v.name.toList x.name.toList = false := by rw [q1]; exact bL_irrefl _
              have q4 : (v.name.toList == x.name.toList) = true := by rw [q1]; simp
              have q2 : Op.bytesLess v.id.toList x.id.toList = true := q2
              clear q1
              go_wp2
              refine wp_region_ext_lit (by kernel_rfl) (by kernel_rfl) ?_
              try dsimp only [List.append]
              repeat (go_big_quiet_step (fail))
              refine wpQuiet_nil ?_
              rintro w9 ⟨⟨_, h9⟩, rfl⟩
              try dsimp only
              clear e0 U0 U1 Ux0 Ux1 q2 q3 q4
              go_wp2
              go_roundw
              case rel => exact ⟨k + 1, by omega, by go_num, HLO2, hE.trans h9⟩
              case measure => simp [intOf]; omega
          | false =>
            have HAT : Hid (∀ h : k < R.length, kL R[k] x = false) := fun h => by rw [← HV.out]; exact hkv
            unfold kL at hkv
            simp only [Bool.or_eq_false_iff, Bool.and_eq_false_iff, decide_eq_false_iff_not] at hkv
            obtain ⟨q1, q2⟩ := hkv
            have q1 : Op.bytesLess v.name.toList x.name.toList = false := q1
            by_cases qe : v.name = x.name
            · have q4 : (v.name.toList == x.name.toList) = true := by rw [qe]; simp
              have q2 : Op.bytesLess v.id.toList x.id.toList = false := by
                rcases q2 with q2 | q2
                · exact absurd qe q2
                · exact q2
              clear qe
              go_wp2
              refine wp_region_ext_lit (by kernel_rfl) (by kernel_rfl) ?_
              try dsimp only [List.append]
              repeat (go_big_quiet_step (fail))
              refine wpQuiet_nil ?_
              rintro w9 ⟨⟨_, h9⟩, rfl⟩
              try dsimp only
              clear e0 U0 U1 Ux0 Ux1 q1 q2 q4
              have hk9 : Ext w6 w9 := hE.trans h9
              have hX9 : Ext W0 w9 := hE16.trans hk9
              have HTAB : Hid (Tab (upd F x.name x.id (some x)) (R.take k ++ [x] ++ R.drop k)) := by
                have h1 := HLO.out
                have h2 := HAT.out
                show Tab _ _
                rw [HRL.out] at h1 h2 ⊢
                exact hT.put x h1 h2
              have HLEN : Hid ((R.take k ++ [x] ++ R.drop k).length ≤ l.length + 1) := by show _ ≤ _; rw [HRL.out]; exact put_len l x k
              obtain ⟨P2, hP2⟩ : ∃ P2, P2 = R.take k ++ [x] ++ R.drop k := ⟨_, rfl⟩
              have HP2 := Lib.hid hP2
              rw [← hP2] at HTAB HLEN
              clear hP2 HLO HAT
              have hsR := hsB.ext hk9
              have hsl := hsR.take_ (i := k) (by omega)
              have hsr := hsR.cut (i := k) (by omega) hcapB
              obtain ⟨hci1, hci2, -⟩ := (cut_runC einfo_rl (A := B) (m := mB) (c := cB))
              have q3 : ∀ W, (Instr.sliceAt 45 (.slice B mB cB) none (some (.int .i64 (k : Int))) none).run Tryd.prog W = .ok (.slice B k cB) W := fun W => (hci2 W .i64 k (by omega)).1
              have q4 : ∀ W, (Instr.slice 45 (.slice B mB cB) none (some (.int .i64 (k : Int))) none).run Tryd.prog W = .ok (.slice B k cB) W := fun W => (hci2 W .i64 k (by omega)).2
              have q1 : ∀ W, (Instr.sliceAt 45 (.slice B mB cB) (some (.int .i64 (k : Int))) none none).run Tryd.prog W = .ok (.slice (cutA B cB 4 k) (mB - k) (cB - k)) W := fun W => by have := (hci1 W .i64 k (by omega) hcapB).1; simpa using this
              have q2 : ∀ W, (Instr.slice 45 (.slice B mB cB) (some (.int .i64 (k : Int))) none none).run Tryd.prog W = .ok (.slice (cutA B cB 4 k) (mB - k) (cB - k)) W := fun W => by have := (hci1 W .i64 k (by omega) hcapB).2; simpa using this
              clear hci1 hci2
              have i6 : (k : Int) ≤ (mB : Int) := by omega
              have hoA : OsC lkC 24 4 (w9.alloc (.cells #[] 24)).drew w9.heap.size (some ⟨w9.heap.size, 0, none⟩) 0 0 [] := (OsC.new0 (cs := lkC) (e := 24) (k := 4) w9 w9.heap.size (Nat.le_refl _) lkC_len4 lkC_cell).ext (Ext.refl _).drew
              have hnA : ∀ W : World, SlC lkC 4 (W.alloc (Obj.cells #[.string x.name, .string x.id, .string x.who, .int .i64 x.til] 24)) (some ⟨W.heap.size, 0, none⟩) 1 [x] := fun W => SlC.new_ (cs := lkC) W [x] lkC_len4 (by simp) _ rfl (0, 0) 1 rfl 24
              have hoB : OsC lkC 24 4 ((w9.alloc (.cells #[] 24)).alloc (Obj.cells #[.string x.name, .string x.id, .string x.who, .int .i64 x.til] 24)).drew w9.heap.size (some ⟨w9.heap.size, 0, none⟩) 0 0 [] := (OsC.new0 (cs := lkC) (e := 24) (k := 4) w9 w9.heap.size (Nat.le_refl _) lkC_len4 lkC_cell).ext ((Ext.refl _).alloc _).drew
              have hoC : OsC lkC 24 4 ((w9.alloc (Obj.cells #[.string x.name, .string x.id, .string x.who, .int .i64 x.til] 24)).alloc (.cells #[] 24)).drew w9.heap.size (some ⟨w9.heap.size + 1, 0, none⟩) 0 0 [] := by
                have h9 := (OsC.new0 (cs := lkC) (e := 24) (k := 4) (w9.alloc (Obj.cells #[.string x.name, .string x.id, .string x.who, .int .i64 x.til] 24)) w9.heap.size (by simp) lkC_len4 lkC_cell).ext (Ext.refl _).drew
                simpa using h9
              have hnB : SlC lkC 4 ((w9.alloc (.cells #[] 24)).alloc (Obj.cells #[.string x.name, .string x.id, .string x.who, .int .i64 x.til] 24)).drew (some ⟨w9.heap.size + 1, 0, none⟩) 1 [x] := by
                have h9 := (hnA (w9.alloc (.cells #[] 24))).ext (Ext.refl _).drew
                simpa using h9
              have hnC : SlC lkC 4 ((w9.alloc (Obj.cells #[.string x.name, .string x.id, .string x.who, .int .i64 x.til] 24)).alloc (.cells #[] 24)).drew (some ⟨w9.heap.size, 0, none⟩) 1 [x] := (hnA w9).ext ((Ext.refl _).alloc _).drew
              have hmm : mB ≤ 900 := by omega
              go_wp2
              first
              | (go_region_law (first
                  | (refine step_appC einfo_rl rfl _ _ rfl ho3 rfl (hsr.ext hE03q) rfl (by have := ho3.len; simp at this; omega) hE03q.size_le ?_; intro A4 m4 c4 w4 ho4 hg4 hat4)
                  | (refine step_appC einfo_rl rfl _ _ rfl ho2 rfl hn2 rfl (by have := ho2.len; simp at this; omega) hE02q.size_le ?_; intro A3 m3 c3 w3 ho3 hg3 hat3; have hE03q := hE02q.grown hg3 ho2.ge)
                  | (refine step_appC einfo_rl rfl _ _ rfl (ho2.ext ((Ext.refl w2).alloc _)) rfl (hnA w2) rfl (by have := ho2.len; simp at this; omega) (hE02q.alloc _).size_le ?_; intro A3 m3 c3 w3 ho3 hg3 hat3; have hE03q := (hE02q.alloc _).grown hg3 ho2.ge)
                  | (refine step_appC einfo_rl rfl _ _ rfl hoA rfl (hsl.ext ((Ext.refl w9).alloc _).drew) rfl (by omega) (by simp <;> omega) ?_; intro A2 m2 c2 w2 ho2 hg2 hat2; have hE02q : Ext w9 w2 := ((Ext.refl w9).alloc _).drew.grown hg2 (fun j hj => by simp [ob] at hj; omega); have hX2q := hX9.trans hE02q)
                  | (refine step_appC einfo_rl rfl _ _ rfl hoB rfl (hsl.ext (((Ext.refl w9).alloc _).alloc _).drew) rfl (by omega) (by simp <;> omega) ?_; intro A2 m2 c2 w2 ho2 hg2 hat2; have hE02q : Ext w9 w2 := (((Ext.refl w9).alloc _).alloc _).drew.grown hg2 (fun j hj => by simp [ob] at hj; omega); have hX2q := hX9.trans hE02q; have hn2 := hnB.kept hg2 (.inr (by simp [ob])))
                  | (refine step_appC einfo_rl rfl _ _ rfl hoC rfl (hsl.ext (((Ext.refl w9).alloc _).alloc _).drew) rfl (by omega) (by simp <;> omega) ?_; intro A2 m2 c2 w2 ho2 hg2 hat2; have hE02q : Ext w9 w2 := (((Ext.refl w9).alloc _).alloc _).drew.grown hg2 (fun j hj => by simp [ob] at hj; omega); have hX2q := hX9.trans hE02q; have hn2 := hnC.kept hg2 (.inr (by simp [ob])))
                  | fail))
              | fail
              all_goals
                have hE04q := hE03q.grown hg4 ho3.ge
                have hEW4 := (hE06.trans hk9).trans hE04q
                have ho4' : SlC lkC 4 w4 A4 m4 P2 := by rw [HP2.out]; simpa using ho4.sl
                have hm4 : m4 ≤ m + 1 := by rw [ho4'.len, hs.len]; exact HLEN.out
                have HO4 := Lib.hid ho4'
                clear ho4' ho4 hg4 hat4
                go_wp2
                go_ret2
                exact ⟨⟨A4, m4, c4, 0, _, P2, rfl, HO4.out, HTAB.out, HACQ.out, hm4⟩, hEW4⟩
            · have q4 : (v.name.toList == x.name.toList) = false := by rw [beq_eq_false_iff_ne]; exact fun e => qe (toList_eq_iff.1 e)
              clear qe q2
              go_wp2
              refine wp_region_ext_lit (by kernel_rfl) (by kernel_rfl) ?_
              try dsimp only [List.append]
              repeat (go_big_quiet_step (fail))
              refine wpQuiet_nil ?_
              rintro w9 ⟨⟨_, h9⟩, rfl⟩
              try dsimp only
              clear e0 U0 U1 Ux0 Ux1 q1 q4
              have hk9 : Ext w6 w9 := hE.trans h9
              have hX9 : Ext W0 w9 := hE16.trans hk9
              have HTAB : Hid (Tab (upd F x.name x.id (some x)) (R.take k ++ [x] ++ R.drop k)) := by
                have h1 := HLO.out
                have h2 := HAT.out
                show Tab _ _
                rw [HRL.out] at h1 h2 ⊢
                exact hT.put x h1 h2
              have HLEN : Hid ((R.take k ++ [x] ++ R.drop k).length ≤ l.length + 1) := by show _ ≤ _; rw [HRL.out]; exact put_len l x k
              obtain ⟨P2, hP2⟩ : ∃ P2, P2 = R.take k ++ [x] ++ R.drop k := ⟨_, rfl⟩
              have HP2 := Lib.hid hP2
              rw [← hP2] at HTAB HLEN
              clear hP2 HLO HAT
              have hsR := hsB.ext hk9
              have hsl := hsR.take_ (i := k) (by omega)
              have hsr := hsR.cut (i := k) (by omega) hcapB
              obtain ⟨hci1, hci2, -⟩ := (cut_runC einfo_rl (A := B) (m := mB) (c := cB))
              have q3 : ∀ W, (Instr.sliceAt 45 (.slice B mB cB) none (some (.int .i64 (k : Int))) none).run Tryd.prog W = .ok (.slice B k cB) W := fun W => (hci2 W .i64 k (by omega)).1
              have q4 : ∀ W, (Instr.slice 45 (.slice B mB cB) none (some (.int .i64 (k : Int))) none).run Tryd.prog W = .ok (.slice B k cB) W := fun W => (hci2 W .i64 k (by omega)).2
              have q1 : ∀ W, (Instr.sliceAt 45 (.slice B mB cB) (some (.int .i64 (k : Int))) none none).run Tryd.prog W = .ok (.slice (cutA B cB 4 k) (mB - k) (cB - k)) W := fun W => by have := (hci1 W .i64 k (by omega) hcapB).1; simpa using this
              have q2 : ∀ W, (Instr.slice 45 (.slice B mB cB) (some (.int .i64 (k : Int))) none none).run Tryd.prog W = .ok (.slice (cutA B cB 4 k) (mB - k) (cB - k)) W := fun W => by have := (hci1 W .i64 k (by omega) hcapB).2; simpa using this
              clear hci1 hci2
              have i6 : (k : Int) ≤ (mB : Int) := by omega
              have hoA : OsC lkC 24 4 (w9.alloc (.cells #[] 24)).drew w9.heap.size (some ⟨w9.heap.size, 0, none⟩) 0 0 [] := (OsC.new0 (cs := lkC) (e := 24) (k := 4) w9 w9.heap.size (Nat.le_refl _) lkC_len4 lkC_cell).ext (Ext.refl _).drew
              have hnA : ∀ W : World, SlC lkC 4 (W.alloc (Obj.cells #[.string x.name, .string x.id, .string x.who, .int .i64 x.til] 24)) (some ⟨W.heap.size, 0, none⟩) 1 [x] := fun W => SlC.new_ (cs := lkC) W [x] lkC_len4 (by simp) _ rfl (0, 0) 1 rfl 24
              have hoB : OsC lkC 24 4 ((w9.alloc (.cells #[] 24)).alloc (Obj.cells #[.string x.name, .string x.id, .string x.who, .int .i64 x.til] 24)).drew w9.heap.size (some ⟨w9.heap.size, 0, none⟩) 0 0 [] := (OsC.new0 (cs := lkC) (e := 24) (k := 4) w9 w9.heap.size (Nat.le_refl _) lkC_len4 lkC_cell).ext ((Ext.refl _).alloc _).drew
              have hoC : OsC lkC 24 4 ((w9.alloc (Obj.cells #[.string x.name, .string x.id, .string x.who, .int .i64 x.til] 24)).alloc (.cells #[] 24)).drew w9.heap.size (some ⟨w9.heap.size + 1, 0, none⟩) 0 0 [] := by
                have h9 := (OsC.new0 (cs := lkC) (e := 24) (k := 4) (w9.alloc (Obj.cells #[.string x.name, .string x.id, .string x.who, .int .i64 x.til] 24)) w9.heap.size (by simp) lkC_len4 lkC_cell).ext (Ext.refl _).drew
                simpa using h9
              have hnB : SlC lkC 4 ((w9.alloc (.cells #[] 24)).alloc (Obj.cells #[.string x.name, .string x.id, .string x.who, .int .i64 x.til] 24)).drew (some ⟨w9.heap.size + 1, 0, none⟩) 1 [x] := by
                have h9 := (hnA (w9.alloc (.cells #[] 24))).ext (Ext.refl _).drew
                simpa using h9
              have hnC : SlC lkC 4 ((w9.alloc (Obj.cells #[.string x.name, .string x.id, .string x.who, .int .i64 x.til] 24)).alloc (.cells #[] 24)).drew (some ⟨w9.heap.size, 0, none⟩) 1 [x] := (hnA w9).ext ((Ext.refl _).alloc _).drew
              have hmm : mB ≤ 900 := by omega
              go_wp2
              first
              | (go_region_law (first
                  | (refine step_appC einfo_rl rfl _ _ rfl ho3 rfl (hsr.ext hE03q) rfl (by have := ho3.len; simp at this; omega) hE03q.size_le ?_; intro A4 m4 c4 w4 ho4 hg4 hat4)
                  | (refine step_appC einfo_rl rfl _ _ rfl ho2 rfl hn2 rfl (by have := ho2.len; simp at this; omega) hE02q.size_le ?_; intro A3 m3 c3 w3 ho3 hg3 hat3; have hE03q := hE02q.grown hg3 ho2.ge)
                  | (refine step_appC einfo_rl rfl _ _ rfl (ho2.ext ((Ext.refl w2).alloc _)) rfl (hnA w2) rfl (by have := ho2.len; simp at this; omega) (hE02q.alloc _).size_le ?_; intro A3 m3 c3 w3 ho3 hg3 hat3; have hE03q := (hE02q.alloc _).grown hg3 ho2.ge)
                  | (refine step_appC einfo_rl rfl _ _ rfl hoA rfl (hsl.ext ((Ext.refl w9).alloc _).drew) rfl (by omega) (by simp <;> omega) ?_; intro A2 m2 c2 w2 ho2 hg2 hat2; have hE02q : Ext w9 w2 := ((Ext.refl w9).alloc _).drew.grown hg2 (fun j hj => by simp [ob] at hj; omega); have hX2q := hX9.trans hE02q)
                  | (refine step_appC einfo_rl rfl _ _ rfl hoB rfl (hsl.ext (((Ext.refl w9).alloc _).alloc _).drew) rfl (by omega) (by simp <;> omega) ?_; intro A2 m2 c2 w2 ho2 hg2 hat2; have hE02q : Ext w9 w2 := (((Ext.refl w9).alloc _).alloc _).drew.grown hg2 (fun j hj => by simp [ob] at hj; omega); have hX2q := hX9.trans hE02q; have hn2 := hnB.kept hg2 (.inr (by simp [ob])))
                  | (refine step_appC einfo_rl rfl _ _ rfl hoC rfl (hsl.ext (((Ext.refl w9).alloc _).alloc _).drew) rfl (by omega) (by simp <;> omega) ?_; intro A2 m2 c2 w2 ho2 hg2 hat2; have hE02q : Ext w9 w2 := (((Ext.refl w9).alloc _).alloc _).drew.grown hg2 (fun j hj => by simp [ob] at hj; omega); have hX2q := hX9.trans hE02q; have hn2 := hnC.kept hg2 (.inr (by simp [ob])))
                  | fail))
              | fail
              all_goals
                have hE04q := hE03q.grown hg4 ho3.ge
                have hEW4 := (hE06.trans hk9).trans hE04q
                have ho4' : SlC lkC 4 w4 A4 m4 P2 := by rw [HP2.out]; simpa using ho4.sl
                have hm4 : m4 ≤ m + 1 := by rw [ho4'.len, hs.len]; exact HLEN.out
                have HO4 := Lib.hid ho4'
                clear ho4' ho4 hg4 hat4
                go_wp2
                go_ret2
                exact ⟨⟨A4, m4, c4, 0, _, P2, rfl, HO4.out, HTAB.out, HACQ.out, hm4⟩, hEW4⟩
        · have hd1 : decide ((k : Int) < (mB : Int)) = false := decide_eq_false (by omega)
          have HAT : Hid (∀ h : k < R.length, kL R[k] x = false) := fun h => absurd h (by rw [← HBL.out]; exact hlt)
          go_wp2
          refine wp_region_ext_lit (by kernel_rfl) (by kernel_rfl) ?_
          try dsimp only [List.append]
          repeat (go_big_quiet_step (fail))
          refine wpQuiet_nil ?_
          rintro w9 ⟨⟨_, h9⟩, rfl⟩
          try dsimp only
          have hk9 : Ext w6 w9 := hE.trans h9
          have hX9 : Ext W0 w9 := hE16.trans hk9
          have HTAB : Hid (Tab (upd F x.name x.id (some x)) (R.take k ++ [x] ++ R.drop k)) := by
            have h1 := HLO.out
            have h2 := HAT.out
            show Tab _ _
            rw [HRL.out] at h1 h2 ⊢
            exact hT.put x h1 h2
          have HLEN : Hid ((R.take k ++ [x] ++ R.drop k).length ≤ l.length + 1) := by show _ ≤ _; rw [HRL.out]; exact put_len l x k
          obtain ⟨P2, hP2⟩ : ∃ P2, P2 = R.take k ++ [x] ++ R.drop k := ⟨_, rfl⟩
          have HP2 := Lib.hid hP2
          rw [← hP2] at HTAB HLEN
          clear hP2 HLO HAT
          have hsR := hsB.ext hk9
          have hsl := hsR.take_ (i := k) (by omega)
          have hsr := hsR.cut (i := k) (by omega) hcapB
          obtain ⟨hci1, hci2, -⟩ := (cut_runC einfo_rl (A := B) (m := mB) (c := cB))
          have q3 : ∀ W, (Instr.sliceAt 45 (.slice B mB cB) none (some (.int .i64 (k : Int))) none).run Tryd.prog W = .ok (.slice B k cB) W := fun W => (hci2 W .i64 k (by omega)).1
          have q4 : ∀ W, (Instr.slice 45 (.slice B mB cB) none (some (.int .i64 (k : Int))) none).run Tryd.prog W = .ok (.slice B k cB) W := fun W => (hci2 W .i64 k (by omega)).2
          have q1 : ∀ W, (Instr.sliceAt 45 (.slice B mB cB) (some (.int .i64 (k : Int))) none none).run Tryd.prog W = .ok (.slice (cutA B cB 4 k) (mB - k) (cB - k)) W := fun W => by have := (hci1 W .i64 k (by omega) hcapB).1; simpa using this
          have q2 : ∀ W, (Instr.slice 45 (.slice B mB cB) (some (.int .i64 (k : Int))) none none).run Tryd.prog W = .ok (.slice (cutA B cB 4 k) (mB - k) (cB - k)) W := fun W => by have := (hci1 W .i64 k (by omega) hcapB).2; simpa using this
          clear hci1 hci2
          have i6 : (k : Int) ≤ (mB : Int) := by omega
          have hoA : OsC lkC 24 4 (w9.alloc (.cells #[] 24)).drew w9.heap.size (some ⟨w9.heap.size, 0, none⟩) 0 0 [] := (OsC.new0 (cs := lkC) (e := 24) (k := 4) w9 w9.heap.size (Nat.le_refl _) lkC_len4 lkC_cell).ext (Ext.refl _).drew
          have hnA : ∀ W : World, SlC lkC 4 (W.alloc (Obj.cells #[.string x.name, .string x.id, .string x.who, .int .i64 x.til] 24)) (some ⟨W.heap.size, 0, none⟩) 1 [x] := fun W => SlC.new_ (cs := lkC) W [x] lkC_len4 (by simp) _ rfl (0, 0) 1 rfl 24
          have hoB : OsC lkC 24 4 ((w9.alloc (.cells #[] 24)).alloc (Obj.cells #[.string x.name, .string x.id, .string x.who, .int .i64 x.til] 24)).drew w9.heap.size (some ⟨w9.heap.size, 0, none⟩) 0 0 [] := (OsC.new0 (cs := lkC) (e := 24) (k := 4) w9 w9.heap.size (Nat.le_refl _) lkC_len4 lkC_cell).ext ((Ext.refl _).alloc _).drew
          have hoC : OsC lkC 24 4 ((w9.alloc (Obj.cells #[.string x.name, .string x.id, .string x.who, .int .i64 x.til] 24)).alloc (.cells #[] 24)).drew w9.heap.size (some ⟨w9.heap.size + 1, 0, none⟩) 0 0 [] := by
            have h9 := (OsC.new0 (cs := lkC) (e := 24) (k := 4) (w9.alloc (Obj.cells #[.string x.name, .string x.id, .string x.who, .int .i64 x.til] 24)) w9.heap.size (by simp) lkC_len4 lkC_cell).ext (Ext.refl _).drew
            simpa using h9
          have hnB : SlC lkC 4 ((w9.alloc (.cells #[] 24)).alloc (Obj.cells #[.string x.name, .string x.id, .string x.who, .int .i64 x.til] 24)).drew (some ⟨w9.heap.size + 1, 0, none⟩) 1 [x] := by
            have h9 := (hnA (w9.alloc (.cells #[] 24))).ext (Ext.refl _).drew
            simpa using h9
          have hnC : SlC lkC 4 ((w9.alloc (Obj.cells #[.string x.name, .string x.id, .string x.who, .int .i64 x.til] 24)).alloc (.cells #[] 24)).drew (some ⟨w9.heap.size, 0, none⟩) 1 [x] := (hnA w9).ext ((Ext.refl _).alloc _).drew
          have hmm : mB ≤ 900 := by omega
          go_wp2
          first
          | (go_region_law (first
              | (refine step_appC einfo_rl rfl _ _ rfl ho3 rfl (hsr.ext hE03q) rfl (by have := ho3.len; simp at this; omega) hE03q.size_le ?_; intro A4 m4 c4 w4 ho4 hg4 hat4)
              | (refine step_appC einfo_rl rfl _ _ rfl ho2 rfl hn2 rfl (by have := ho2.len; simp at this; omega) hE02q.size_le ?_; intro A3 m3 c3 w3 ho3 hg3 hat3; have hE03q := hE02q.grown hg3 ho2.ge)
              | (refine step_appC einfo_rl rfl _ _ rfl (ho2.ext ((Ext.refl w2).alloc _)) rfl (hnA w2) rfl (by have := ho2.len; simp at this; omega) (hE02q.alloc _).size_le ?_; intro A3 m3 c3 w3 ho3 hg3 hat3; have hE03q := (hE02q.alloc _).grown hg3 ho2.ge)
              | (refine step_appC einfo_rl rfl _ _ rfl hoA rfl (hsl.ext ((Ext.refl w9).alloc _).drew) rfl (by omega) (by simp <;> omega) ?_; intro A2 m2 c2 w2 ho2 hg2 hat2; have hE02q : Ext w9 w2 := ((Ext.refl w9).alloc _).drew.grown hg2 (fun j hj => by simp [ob] at hj; omega); have hX2q := hX9.trans hE02q)
              | (refine step_appC einfo_rl rfl _ _ rfl hoB rfl (hsl.ext (((Ext.refl w9).alloc _).alloc _).drew) rfl (by omega) (by simp <;> omega) ?_; intro A2 m2 c2 w2 ho2 hg2 hat2; have hE02q : Ext w9 w2 := (((Ext.refl w9).alloc _).alloc _).drew.grown hg2 (fun j hj => by simp [ob] at hj; omega); have hX2q := hX9.trans hE02q; have hn2 := hnB.kept hg2 (.inr (by simp [ob])))
              | (refine step_appC einfo_rl rfl _ _ rfl hoC rfl (hsl.ext (((Ext.refl w9).alloc _).alloc _).drew) rfl (by omega) (by simp <;> omega) ?_; intro A2 m2 c2 w2 ho2 hg2 hat2; have hE02q : Ext w9 w2 := (((Ext.refl w9).alloc _).alloc _).drew.grown hg2 (fun j hj => by simp [ob] at hj; omega); have hX2q := hX9.trans hE02q; have hn2 := hnC.kept hg2 (.inr (by simp [ob])))
              | fail))
          | fail
          all_goals
            have hE04q := hE03q.grown hg4 ho3.ge
            have hEW4 := (hE06.trans hk9).trans hE04q
            have ho4' : SlC lkC 4 w4 A4 m4 P2 := by rw [HP2.out]; simpa using ho4.sl
            have hm4 : m4 ≤ m + 1 := by rw [ho4'.len, hs.len]; exact HLEN.out
            have HO4 := Lib.hid ho4'
            clear ho4' ho4 hg4 hat4
            go_wp2
            go_ret2
            exact ⟨⟨A4, m4, c4, 0, _, P2, rfl, HO4.out, HTAB.out, HACQ.out, hm4⟩, hEW4⟩
    · have hq : (yc.toList == x.who.toList) = false := by rw [beq_eq_false_iff_ne]; exact fun e => hw (toList_eq_iff.1 e)
      have hrel : AcqR F x.who x.name x.id now x.til 16 F := .inr (.inr (.inl ⟨HP.out, HB.out, _, hh, hw, rfl, rfl⟩))
      clear hh hfo hw
      have HR : Hid (AcqR F x.who x.name x.id now x.til 16 F) := hrel
      clear hrel
      go_wp2
      go_ret2
      exact ⟨⟨A, m, c, 16, F, l, rfl, hs.ext ((hE03.trans hEa)), hT, HR.out, Nat.le_succ _⟩, (hE03.trans hEa)⟩
end
end Go.Proofs.YthmeobjomidkoaaDoor
