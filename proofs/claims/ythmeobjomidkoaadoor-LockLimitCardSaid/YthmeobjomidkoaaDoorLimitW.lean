/- LockLimit: the walk. -/
import Derived.Test.YthmeobjomidkoaaDoorLimitPl
import Derived.Test.YthmeobjomidkoaaDoorLockCard
import Derived.ProofKit
import Derived.OpenShut
import Derived.ShutString
import Derived.ChangeOld
import Derived.SizedLaws
namespace Go.Proofs.YthmeobjomidkoaaDoor
open Go.ChangeShapes Go.WideShapes Go.ChangeAt Go.RowKit Go.Maps
set_option maxRecDepth 100000

theorem u8_byte (a : Nat) (h : a < 100) : 97 + (a : Int) = ((UInt8.ofNat (97 + a)).toNat : Int) := by
  rw [UInt8.toNat_ofNat']
  omega
section
variable {w : World}
set_option maxHeartbeats 3200000 in
theorem limit_walk (u : Nat) (_hu : u < 256) (hT : Tabs w) :
    Calls Tryd.prog 4 #[.int .u8 u] w fun e w' => e = .returned (.bool true) ∧ Ext w w' := by
  go_enter Tryd.func4, Tryd.ntmps4
  go_wp2_with (first
    | (go_at_call 9; refine Hid.out ?_))
  refine Hid.mk_ ((awake_lk _ hT).mono ?_)
  rintro e w1 ⟨rfl, hE1⟩
  go_wp2_with (first
    | (go_at_call 11; refine Hid.out ?_))
  refine Hid.mk_ ((new_any w1).mono ?_)
  rintro e w2 ⟨g, bm, rfl, hl2, hE2, hg, hb⟩
  have hE12 : Ext w w2 := hE1.trans hE2
  have hbm1 : w.heap.size ≤ bm := Nat.le_trans hE1.size_le hb
  clear hE2
  go_wp2
  go_loopw [4] (fun i wr => ∃ (q n : Nat) (F : LF), q ≤ 1000 ∧ i = .int .i64 q ∧ n ≤ q ∧ Lks wr g bm n F ∧ KeyOk F ∧ Grid q F ∧ Ext w wr) (fun i _ => 1000 - (intOf i).toNat)
  case atStart => exact ⟨0, 0, _, Nat.zero_le _, rfl, Nat.le_refl _, hl2, KeyOk.none_, Grid.start, hE12⟩
  case round =>
    obtain ⟨q, n, F, hq, rfl, hnq, hl, hK, hG, hE⟩ := hrel
    have HK := Lib.hid hK
    have HG := Lib.hid hG
    clear hK hG
    by_cases hlt : q < 1000
    · have hi1 : (q : Int) < 1000 := by omega
      obtain ⟨a, ha⟩ : ∃ a : Nat, a = q / 100 := ⟨_, rfl⟩
      obtain ⟨b, hb⟩ : ∃ b : Nat, b = q / 10 := ⟨_, rfl⟩
      obtain ⟨d, hd⟩ : ∃ d : Nat, d = q / 10 % 10 := ⟨_, rfl⟩
      obtain ⟨f, hf⟩ : ∃ f : Nat, f = q % 10 := ⟨_, rfl⟩
      obtain ⟨p, hp⟩ : ∃ p : Nat, p = q % 2 := ⟨_, rfl⟩
      have ha1 : (q : Int).tdiv 100 = (a : Int) := by rw [ha]; exact (Int.ofNat_tdiv q 100).symm
      have hb1 : (q : Int).tdiv 10 = (b : Int) := by rw [hb]; exact (Int.ofNat_tdiv q 10).symm
      have hd1 : (b : Int).tmod 10 = (d : Int) := by rw [hd, hb]; exact (Int.ofNat_tmod (q / 10) 10).symm
      have hf1 : (q : Int).tmod 10 = (f : Int) := by rw [hf]; exact (Int.ofNat_tmod q 10).symm
      have hp1 : (q : Int).tmod 2 = (p : Int) := by rw [hp]; exact (Int.ofNat_tmod q 2).symm
      have ha9 : a < 10 := by omega
      have hb9 : b < 100 := by omega
      have hd9 : d < 10 := by omega
      have hf9 : f < 10 := by omega
      have hp9 : p < 2 := by omega
      have hidb : idB q = [UInt8.ofNat (97 + a), UInt8.ofNat (97 + d), UInt8.ofNat (97 + f)] := by unfold idB; rw [ha, hd, hf]
      have HI := Lib.hid hidb
      have HP := Lib.hid hp
      have hcv : (convert 40 9 (.slice (some ⟨wr.heap.size, 0, none⟩) 3 3)).run Tryd.prog (wr.alloc (Obj.cells #[.int .u8 (97 + (a : Int)), .int .u8 (97 + (d : Int)), .int .u8 (97 + (f : Int))] 5)) = .ok (.string (idN q)) (wr.alloc (Obj.cells #[.int .u8 (97 + (a : Int)), .int .u8 (97 + (d : Int)), .int .u8 (97 + (f : Int))] 5)) := by
        have h1 := conv_str (OsB.new_ wr wr.heap.size (Nat.le_refl _) [UInt8.ofNat (97 + a), UInt8.ofNat (97 + d), UInt8.ofNat (97 + f)] (by simp) _ rfl 3 rfl).sl 3
        have h2 : idN q = str [UInt8.ofNat (97 + a), UInt8.ofNat (97 + d), UInt8.ofNat (97 + f)] := by unfold idN; rw [hidb]
        rw [h2, u8_byte a (by omega), u8_byte d (by omega), u8_byte f (by omega)]
        exact h1
      obtain ⟨id, hid⟩ : ∃ id, id = idN q := ⟨_, rfl⟩
      rw [← hid] at hcv
      have HID := Lib.hid hid
      have hE1 : Ext wr (wr.alloc (Obj.cells #[.int .u8 (97 + (a : Int)), .int .u8 (97 + (d : Int)), .int .u8 (97 + (f : Int))] 5)) := (Ext.refl _).alloc _
      have hl1 := hl.ext hE1
      have hsid : id.size = 3 := by rw [hid]; rfl
      have hEw := hE.trans hE1
      clear ha hb hd hf hp hidb hid
      go_wp2_with (first
        | (go_at_call 13; refine Hid.out ?_))
      refine Hid.mk_ ((acquire_any sAnn sApp id 0 (10 + (p : Int)) hl1 (by decide) (by rw [hsid]; decide) (by unfold maxLen; omega) (hT.ext hEw) (by decide) (by decide) (by omega) (by omega) (by omega) (by omega)).mono ?_)
      rintro e w3 ⟨F', n', hn', ⟨code, rfl, hA⟩, hl3, hg3⟩
      rw [HID.out, HP.out] at hA
      obtain ⟨hc0, hG3⟩ := grid_acq HG.out hlt hA
      subst hc0
      have HK3 := Lib.hid (HK.out.acq hA (by decide) (by rw [size3]; decide))
      have HG3 := Lib.hid hG3
      have hE3 : Ext w w3 := hEw.grown hg3 (fun k hk => by injection hk with hk; omega)
      clear hA hG3 hg3 hcv ha1 hb1 hd1 hf1 hp1
      go_wp2
      go_roundw
      case rel => exact ⟨q + 1, n', F', by omega, by go_num, by omega, hl3, HK3.out, HG3.out, hE3⟩
      case measure => simp [intOf]; omega
    · have hi1 : ¬ (q : Int) < 1000 := by omega
      have hq1000 : q = 1000 := by omega
      subst hq1000
      obtain ⟨t, ht⟩ : ∃ t : Nat, t = u % 10 := ⟨_, rfl⟩
      have ht1 : (u : Int).tmod 10 = (t : Int) := by rw [ht]; exact (Int.ofNat_tmod u 10).symm
      have ht9 : t < 10 := by omega
      clear ht hi1 hlt
      go_wp2_with (first
        | (go_at_call 13; refine Hid.out ?_))
      refine Hid.mk_ ((acquire_any sAnn sApp sX t 20 hl (by decide) (by decide) (by unfold maxLen; omega) (hT.ext hE) (by decide) (by decide) (by omega) (by omega) (by omega) (by omega)).mono ?_)
      rintro e w3 ⟨F', n3, hn3, ⟨code, rfl, hA⟩, hl3, hg3⟩
      obtain ⟨hc, hF⟩ := grid_full HG.out (by omega) (by omega) hA
      subst hc hF
      have hE3 : Ext w w3 := hE.grown hg3 (fun k hk => by injection hk with hk; omega)
      clear hA hg3
      go_wp2_with (first
        | (go_at_call 13; refine Hid.out ?_))
      refine Hid.mk_ ((acquire_any sAnn sApp (idN 0) t 20 hl3 (by decide) (by decide) (by unfold maxLen; omega) (hT.ext hE3) (by decide) (by decide) (by omega) (by omega) (by omega) (by omega)).mono ?_)
      rintro e w4 ⟨F4, n4, hn4, ⟨code, rfl, hA⟩, hl4, hg4⟩
      obtain ⟨hc, hF⟩ := grid_again HG.out (by omega) (by omega) hA
      have HK4 := Lib.hid (HK.out.acq hA (by decide) (by decide))
      subst hc hF
      have hE4 : Ext w w4 := hE3.grown hg4 (fun k hk => by injection hk with hk; omega)
      clear hA hg4
      go_wp2_with (first
        | (go_at_call 13; refine Hid.out ?_))
      refine Hid.mk_ ((acquire_any sBob sApp sX 10 20 hl4 (by decide) (by decide) (by unfold maxLen; omega) (hT.ext hE4) (by decide) (by decide) (by omega) (by omega) (by omega) (by omega)).mono ?_)
      rintro e w5 ⟨F5, n5, hn5, ⟨code, rfl, hA⟩, hl5, hg5⟩
      obtain ⟨hc, hF⟩ := grid_x HG.out hA
      have HK5 := Lib.hid (HK4.out.acq hA (by decide) (by decide))
      subst hc hF
      have hE5 : Ext w w5 := hE4.grown hg5 (fun k hk => by injection hk with hk; omega)
      clear hA hg5
      go_wp2_with (first
        | (go_at_call 16; refine Hid.out ?_))
      refine Hid.mk_ ((list_any 10 hl5 (by omega) HK5.out).mono ?_)
      rintro e w6 ⟨⟨A6, m6, c6, L6, rfl, hs6, hL6, _, _⟩, hE6⟩
      have hm6 : m6 = 502 := by rw [hs6.len]; exact len10 HG.out hL6
      subst hm6
      go_wp2_with (first
        | (go_at_call 16; refine Hid.out ?_))
      refine Hid.mk_ ((list_any 11 (hl5.ext hE6) (by omega) HK5.out).mono ?_)
      rintro e w7 ⟨⟨A7, m7, c7, L7, rfl, hs7, hL7, _, _⟩, hE7⟩
      have hm7 : m7 = 2 := by rw [hs7.len]; exact len11 HG.out hL7
      subst hm7
      go_wp2
      go_ret
      exact ⟨rfl, (hE5.trans hE6).trans hE7⟩
end

end Go.Proofs.YthmeobjomidkoaaDoor
