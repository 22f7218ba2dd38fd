/- The reference's Open. -/
import Derived.Test.YtoghaehcmbonnaaGreatDoorJrnY
namespace Go.Proofs.YtoghaehcmbonnaaGreatDoor
open Go.RowKit
set_option maxRecDepth 100000
attribute [local go_sem] ext_refl_t ext_alloc_t ext_drew_t ext_drewN_t ext_alloc2_t ext_alloc3_t ext_alloc4_t ext_alloc5_t ext_alloc6_t ext_alloc7_t ext_alloc8_t ext_alloc1d_t ext_alloc2d_t ext_alloc3d_t ext_alloc4d_t
def magicS : ByteArray := ⟨#[67, 81, 74, 49, 10]⟩
theorem magicS_str : str magicL = magicS := rfl
section
variable {w : World}
set_option maxHeartbeats 6400000 in
theorem ropenJ_any {A : Option Addr} {m : Nat} (c : Nat) {l : List UInt8} (hs : SlB w A m l) (hmc : m ≤ c) (hm : m ≤ 1000000) :
    Calls Tryz.prog 9 #[.slice A m c] w fun e w' => (∃ (A' : Option Addr) (m' c' : Nat) (L : List Ev) (used code : Int), e = .returned (.tuple #[.slice A' m' c', .int .i64 used, .int .i64 code]) ∧ OpR l L used code ∧ SlC evC 8 w' A' m' L) ∧ Ext w w' := by
  have HL := Lib.hid hs.len
  by_cases h5 : m < 5
  · have i1 : (m : Int) < 5 := by omega
    have HF : Hid (OpR l [] 0 4) := .inr ⟨fun e => by
      have h1 := congrArg List.length e
      rw [List.length_take, ← HL.out] at h1
      have h2 : magicL.length = 5 := rfl
      omega, rfl, rfl, rfl⟩
    clear h5
    go_enter Tryz.func9, Tryz.ntmps9
    go_wp2
    go_ret3
    exact ⟨⟨none, 0, 0, [], 0, 4, rfl, HF.out, SlC.nil_ evC_len⟩, Ext.refl _⟩
  have i1 : ¬ (m : Int) < 5 := by omega
  have i2 : (5 : Int) ≤ (m : Int) := by omega
  obtain ⟨A1, _, _, u1, hs1, _⟩ := cut_run hs (i := 0) (j := 5) (by omega) (by omega) hmc
  have q1 := fun W => u1 W .i64 5 rfl rfl
  rw [Nat.sub_zero, List.drop_zero] at hs1
  simp only [Nat.sub_zero] at q1
  have hcv := conv_str hs1 c
  clear u1 hs1
  by_cases hp : l.take 5 = magicL
  case neg =>
    obtain ⟨s, hsd⟩ : ∃ s, s = str (l.take 5) := ⟨_, rfl⟩
    rw [← hsd] at hcv
    have hz : (s.toList == [67, 81, 74, 49, 10]) = false := by
      refine beq_eq_false_iff_ne.2 fun e => hp ?_
      rw [ByteArray.toList_eq, hsd] at e
      exact e
    have HF : Hid (OpR l [] 0 4) := .inr ⟨hp, rfl, rfl, rfl⟩
    clear hp hsd h5
    go_enter Tryz.func9, Tryz.ntmps9
    go_wp2
    go_ret3
    exact ⟨⟨none, 0, 0, [], 0, 4, rfl, HF.out, SlC.nil_ evC_len⟩, Ext.refl _⟩
  rw [hp] at hcv
  have hcv' : (convert 22 9 (.slice A1 5 c)).run Tryz.prog w = .ok (.string ⟨#[67, 81, 74, 49, 10]⟩) w := hcv
  have HR0 : Hid (RecJ l []) := RecJ.nil_ hp
  clear hcv hp
  go_enter Tryz.func9, Tryz.ntmps9
  go_wp2
  clear hcv' q1
  go_loopw [5, 6, 7] (fun v a kk wr => ∃ (L : List Ev) (Ao : Option Addr) (mo co : Nat), v = .slice Ao mo co ∧ a = .int .i64 ((runJ L).bs.length : Nat) ∧ kk = .int .u64 ((runJ L).k : Nat) ∧ Hid (OsC evC 46 8 wr w.heap.size Ao mo co L) ∧ Hid (RecJ l L) ∧ Hid (Ext w wr)) (fun _ a _ _ => m - (intOf a).toNat)
  case atStart => exact ⟨[], none, 0, 0, rfl, rfl, rfl, OsC.nil_ evC_len evC_one, HR0.out, Ext.refl _⟩
  case round =>
    obtain ⟨L, Ao, mo, co, rfl, rfl, rfl, HO, HR, HE⟩ := hrel
    obtain ⟨hbs1, hbs2⟩ := HR.out.bs
    obtain ⟨hk, _, _, hbl⟩ := runJ_st L
    rw [← HL.out] at hbs2
    obtain ⟨at0, hat⟩ : ∃ at0, at0 = (runJ L).bs.length := ⟨_, rfl⟩
    obtain ⟨kv, hkv⟩ : ∃ kv, kv = (runJ L).k := ⟨_, rfl⟩
    have HAT := Lib.hid hat
    have HKV := Lib.hid hkv
    rw [← hat] at hbs2 hbl ⊢
    rw [← hkv] at hk ⊢
    have HB1 := Lib.hid hbs1
    clear hat hkv hbs1
    by_cases hlt : at0 < m
    · have j1 : (at0 : Int) < (m : Int) := by omega
      have j2 : (at0 : Int) ≤ (m : Int) := by omega
      obtain ⟨A3, _, u3, _, hs3, _⟩ := cut_run (hs.ext HE.out) (i := at0) (j := m) (by omega) (Nat.le_refl _) hmc
      have q3 := fun W => u3 W .i64 (at0 : Int) rfl rfl
      rw [List.take_of_length_le (by rw [HL.out]; exact Nat.le_refl _)] at hs3
      have hnx := rnext_any hk (c - at0) hs3 (by omega) (by omega)
      have HKB := Lib.hid hk
      have HBL := Lib.hid hbl
      clear u3 hs3 hk hbl
      go_wp2_with (first
        | (go_at_call 25; refine Hid.out ?_))
      refine Hid.mk_ ((hnx).mono ?_)
      rintro e w4 ⟨⟨n, rfl, hn⟩, hE4⟩
      clear hnx q3
      have hE04 := HE.out.trans hE4
      obtain ⟨⟨y0, y1, y2, y3, y4, y5, y6, y7⟩, n2, code, hnj⟩ : ∃ x n2 code, nextJ (l.drop at0) kv = (x, n2, code) := ⟨_, _, _, rfl⟩
      have HNJ := Lib.hid hnj
      rw [hnj] at hn ⊢
      dsimp only at hn ⊢
      unfold evV
      clear hnj
      by_cases hc0 : code = 0
      case neg =>
        have HF : Hid (FinJ l L code) := ⟨HR.out, .inr ⟨by rw [← HL.out, ← HAT.out]; exact hlt, by rw [← HAT.out, ← HKV.out, HNJ.out], hc0⟩⟩
        have HO4 := Lib.hid (HO.out.ext ((hE4).alloc (Obj.cells #[.int .i64 y0, .string y1, .string y2, .string y3, .string y4, .int .i64 y5, .int .i64 y6, .int .i64 y7] 46)))
        have HE05 := Lib.hid (hE04.alloc (Obj.cells #[.int .i64 y0, .string y1, .string y2, .string y3, .string y4, .int .i64 y5, .int .i64 y6, .int .i64 y7] 46))
        clear hn
        go_wp2
        go_ret3
        exact ⟨⟨Ao, mo, co, L, (at0 : Int), code, rfl, .inl ⟨HF.out, by rw [HAT.out]⟩, HO4.out.sl⟩, HE05.out⟩
      subst hc0
      obtain rfl := hn rfl
      have HX : Hid (RecJ l (L ++ [⟨y0, y1, y2, y3, y4, y5, y6, y7⟩])) := HR.out.snoc (n := n) (by rw [← HAT.out, ← HKV.out]; exact HNJ.out)
      obtain ⟨hok, hn26, hnl, _⟩ := nextJ_ok HNJ.out
      rw [List.length_drop, ← HL.out] at hnl
      have hbl2 := runJ_bslen L ⟨y0, y1, y2, y3, y4, y5, y6, y7⟩
      have HK2 := Lib.hid (runJ_k L ⟨y0, y1, y2, y3, y4, y5, y6, y7⟩)
      have HB2 := Lib.hid (runJ_bs L ⟨y0, y1, y2, y3, y4, y5, y6, y7⟩)
      rw [← HAT.out] at hbl2
      obtain ⟨at2, hat2⟩ : ∃ at2, at2 = at0 + n := ⟨_, rfl⟩
      have HAT2 : Hid ((runJ (L ++ [⟨y0, y1, y2, y3, y4, y5, y6, y7⟩])).bs.length = at2) := by show _ = _; rw [hbl2, hat2, hn26]
      have hat2m : at2 ≤ m := by omega
      have hatI : (at0 : Int) + (n : Int) = (at2 : Int) := by omega
      have j3 : (at2 : Int) ≤ (m : Int) := by omega
      have hgt : at0 < at2 := by omega
      have hge34 : 31 ≤ at2 := by have := HBL.out; omega
      have hE45 : Ext w4 (w4.alloc (Obj.cells #[.int .i64 y0, .string y1, .string y2, .string y3, .string y4, .int .i64 y5, .int .i64 y6, .int .i64 y7] 46)) := (Ext.refl _).alloc _
      have hE56 : Ext (w4.alloc (Obj.cells #[.int .i64 y0, .string y1, .string y2, .string y3, .string y4, .int .i64 y5, .int .i64 y6, .int .i64 y7] 46)) ((w4.alloc (Obj.cells #[.int .i64 y0, .string y1, .string y2, .string y3, .string y4, .int .i64 y5, .int .i64 y6, .int .i64 y7] 46)).alloc (Obj.cells #[.int .i64 y0, .string y1, .string y2, .string y3, .string y4, .int .i64 y5, .int .i64 y6, .int .i64 y7] 46)) := (Ext.refl _).alloc _
      have hE46 := hE45.trans hE56
      have hE06 := hE04.trans hE46
      have hnew : SlC evC 8 ((w4.alloc (Obj.cells #[.int .i64 y0, .string y1, .string y2, .string y3, .string y4, .int .i64 y5, .int .i64 y6, .int .i64 y7] 46)).alloc (Obj.cells #[.int .i64 y0, .string y1, .string y2, .string y3, .string y4, .int .i64 y5, .int .i64 y6, .int .i64 y7] 46)) (some ⟨w4.heap.size + 1, 0, none⟩) 1 [⟨y0, y1, y2, y3, y4, y5, y6, y7⟩] := slc_evb y0 y1 y2 y3 y4 y5 y6 y7 (blk_new1 _ _ _ _ (by simp))
      have ho6 := HO.out.ext (hE4.trans hE46)
      have hmo : mo = L.length := HO.out.len
      have hb0 : (mo + 1) * 96 ≤ 140737488355328 := by have := HBL.out; omega
      have HKS : Hid (sealN kv (encE ⟨y0, y1, y2, y3, y4, y5, y6, y7⟩) < 18446744073709551616) := seal_lt HKB.out _
      have HK3 : Hid ((runJ (L ++ [⟨y0, y1, y2, y3, y4, y5, y6, y7⟩])).k = sealN kv (encE ⟨y0, y1, y2, y3, y4, y5, y6, y7⟩)) := by show _ = _; rw [HK2.out, ← HKV.out]
      have HTK : Hid (l.take at2 = (runJ L).bs ++ frameH (encE ⟨y0, y1, y2, y3, y4, y5, y6, y7⟩).length ++ sealL kv (encE ⟨y0, y1, y2, y3, y4, y5, y6, y7⟩)) := by
        show _ = _
        have h1 := HX.out.bs.1
        rw [HAT2.out] at h1
        rw [← h1, HB2.out, ← HKV.out, List.append_assoc]
      obtain ⟨A8, _, _, u8, hs8, _⟩ := cut_run hs (i := 0) (j := at2) (by omega) hat2m hmc
      have q8 := fun W => u8 W .i64 (at2 : Int) rfl rfl
      rw [Nat.sub_zero, List.drop_zero] at hs8
      simp only [Nat.sub_zero] at q8
      have HS8 := Lib.hid hs8
      have hmI : (m : Int) ≤ 1000000 := by omega
      clear hok hn26 hnl hbl2 hat2 u8 hs8 hmo hE45 hE56
      go_wp2_with (first
        | (at_builtin; refine Hid.out ?_))
      refine Hid.mk_ ?_
      refine appC einfo_ev rfl _ _ rfl ho6 rfl hnew rfl hb0 hE06.size_le ?_
      intro A7 m7 c7 w7 ho7 hg7 hN7
      have hE07 : Ext w w7 := hE06.grown hg7 (fun g hg => HO.out.ge g hg)
      have HO7 := Lib.hid ho7
      have hkey := rkey_any c (HS8.out.ext hE07) (by rw [← HS8.out.len]; omega) (by omega) (by rw [HTK.out]; exact seal_drop _ _ _) HKS.out
      clear ho6 hnew hb0 ho7 hg7 hN7
      go_wp2_with (first
        | (go_at_call 26; refine Hid.out ?_))
      refine Hid.mk_ ((hkey).mono ?_)
      rintro e w9 ⟨rfl, hE9⟩
      have HO9 : Hid (OsC evC 46 8 w9 w.heap.size A7 m7 c7 (L ++ [⟨y0, y1, y2, y3, y4, y5, y6, y7⟩])) := HO7.out.ext hE9
      have HE9 := Lib.hid (hE07.trans hE9)
      clear hkey
      go_wp2
      go_roundw
      case rel =>
        first
        | exact ⟨_, A7, m7, c7, rfl, by rw [HAT2.out], by rw [HK3.out], HO9.out, HX.out, HE9.out⟩
        | (repeat apply Exists.intro
           refine ⟨?rl, ?fr⟩
           case fr => exact rfl
           case rl => exact ⟨_, A7, m7, c7, rfl, by rw [HAT2.out], by rw [HK3.out], HO9.out, HX.out, HE9.out⟩)
      case measure => simp [intOf]; omega
    · have j1 : ¬ (at0 : Int) < (m : Int) := by omega
      have HF : Hid (FinJ l L 0) := ⟨HR.out, .inl ⟨by rw [← HL.out, ← HAT.out]; omega, rfl⟩⟩
      clear hk hbl
      go_wp2
      go_ret3
      exact ⟨⟨Ao, mo, co, L, (at0 : Int), 0, rfl, .inl ⟨HF.out, by rw [HAT.out]⟩, HO.out.sl⟩, HE.out⟩
end
end Go.Proofs.YtoghaehcmbonnaaGreatDoor
