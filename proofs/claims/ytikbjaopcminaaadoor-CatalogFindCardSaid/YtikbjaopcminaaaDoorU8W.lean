/- The reference's Point, One, Next. -/
import Derived.Test.YtikbjaopcminaaaDoorBytes
import Derived.Test.YtikbjaopcminaaaDoorU8P
import Derived.Deep.RegionLaw
namespace Go.Proofs.YtikbjaopcminaaaDoor
open Go.RowKit
set_option maxRecDepth 100000

theorem u8n (k : Nat) (h : k < 256) : ((UInt8.ofNat k).toNat : Int) = (k : Int) := by rw [UInt8.toNat_ofNat']; omega
theorem bys_sub (s : ByteArray) (i j : Nat) : bys (s.extract i j) = ((bys s).take j).drop i := by
  unfold bys
  simp [ByteArray.extract, ByteArray.copySlice, List.drop_take]
section
variable {w : World}
set_option maxHeartbeats 1600000 in
theorem point_any (n : Nat) :
    Calls Tryd.prog 95 #[.int .i64 n] w fun e w' => e = .returned (.bool (decide (PointN n))) ∧ w' = w := by
  have h0 : (0 : Int) ≤ (n : Int) := by omega
  by_cases h1 : n ≤ 1114111
  · have i1 : (n : Int) ≤ 1114111 := by omega
    by_cases h2 : n < 55296
    · have i2 : (n : Int) < 55296 := by omega
      have HF := Lib.hid (decide_eq_true (show PointN n from ⟨h1, .inl h2⟩))
      go_enter Tryd.func95, Tryd.ntmps95
      go_wp2
      go_ret
      exact ⟨by rw [HF.out]; rfl, rfl⟩
    · have i2 : ¬ (n : Int) < 55296 := by omega
      by_cases h3 : 57343 < n
      · have i3 : (57343 : Int) < (n : Int) := by omega
        have HF := Lib.hid (decide_eq_true (show PointN n from ⟨h1, .inr h3⟩))
        go_enter Tryd.func95, Tryd.ntmps95
        go_wp2
        go_ret
        exact ⟨by rw [HF.out]; rfl, rfl⟩
      · have i3 : ¬ (57343 : Int) < (n : Int) := by omega
        have HF := Lib.hid (decide_eq_false (show ¬ PointN n from fun h => h.2.elim h2 h3))
        go_enter Tryd.func95, Tryd.ntmps95
        go_wp2
        go_ret
        exact ⟨by rw [HF.out]; rfl, rfl⟩
  · have i1 : ¬ (n : Int) ≤ 1114111 := by omega
    have HF := Lib.hid (decide_eq_false (show ¬ PointN n from fun h => h1 h.1))
    go_enter Tryd.func95, Tryd.ntmps95
    go_wp2
    go_ret
    exact ⟨by rw [HF.out]; rfl, rfl⟩

set_option maxHeartbeats 1600000 in
theorem one_any (n : Nat) (hn : n ≤ 1114111) :
    Calls Tryd.prog 96 #[.int .i64 n] w fun e w' => e = .returned (.string (str (oneL n))) ∧ Ext w w' := by
  by_cases c1 : n < 128
  · have i1 : (n : Int) < 128 := by omega
    have hx : oneL n = [UInt8.ofNat n] := by unfold oneL; rw [if_pos c1]
    have hcv : (convert 99 9 (.slice (some ⟨w.heap.size, 0, none⟩) 1 1)).run Tryd.prog (w.alloc (Obj.cells #[.int .u8 (n : Int)] 5)) = .ok (.string (str [UInt8.ofNat n])) (w.alloc (Obj.cells #[.int .u8 (n : Int)] 5)) := by
      exact conv_str (OsB.new_ w w.heap.size (Nat.le_refl _) [UInt8.ofNat n] (by simp) _ (by
        simp only [List.map_cons, List.map_nil, bv]
        repeat rw [u8n _ (by omega)]
        first | done | simp) 1 rfl).sl 1
    rw [hx]
    clear hx
    go_enter Tryd.func96, Tryd.ntmps96
    go_wp2
    go_ret
    exact ⟨rfl, (Ext.refl _).alloc _⟩
  by_cases c2 : n < 2048
  · have i1 : ¬ (n : Int) < 128 := by omega
    have i2 : (n : Int) < 2048 := by omega
    obtain ⟨a, ha⟩ : ∃ a : Nat, a = n / 64 := ⟨_, rfl⟩
    obtain ⟨b, hb⟩ : ∃ b : Nat, b = n % 64 := ⟨_, rfl⟩
    have hx : oneL n = [UInt8.ofNat (192 + a), UInt8.ofNat (128 + b)] := by unfold oneL; rw [if_neg c1, if_pos c2, ha, hb]
    have a1 : (n : Int).tdiv 64 = (a : Int) := by rw [ha]; exact (Int.ofNat_tdiv n 64).symm
    have b1 : (n : Int).tmod 64 = (b : Int) := by rw [hb]; exact (Int.ofNat_tmod n 64).symm
    have a9 : a < 32 := by omega
    have b9 : b < 64 := by omega
    clear ha hb
    have hcv : (convert 99 9 (.slice (some ⟨w.heap.size, 0, none⟩) 2 2)).run Tryd.prog (w.alloc (Obj.cells #[.int .u8 (192 + (a : Int)), .int .u8 (128 + (b : Int))] 5)) = .ok (.string (str [UInt8.ofNat (192 + a), UInt8.ofNat (128 + b)])) (w.alloc (Obj.cells #[.int .u8 (192 + (a : Int)), .int .u8 (128 + (b : Int))] 5)) := by
      exact conv_str (OsB.new_ w w.heap.size (Nat.le_refl _) [UInt8.ofNat (192 + a), UInt8.ofNat (128 + b)] (by simp) _ (by
        simp only [List.map_cons, List.map_nil, bv]
        repeat rw [u8n _ (by omega)]
        first | done | simp) 2 rfl).sl 2
    rw [hx]
    clear hx
    go_enter Tryd.func96, Tryd.ntmps96
    go_wp2
    go_ret
    exact ⟨rfl, (Ext.refl _).alloc _⟩
  by_cases c3 : n < 65536
  · have i1 : ¬ (n : Int) < 128 := by omega
    have i2 : ¬ (n : Int) < 2048 := by omega
    have i3 : (n : Int) < 65536 := by omega
    obtain ⟨a, ha⟩ : ∃ a : Nat, a = n / 4096 := ⟨_, rfl⟩
    obtain ⟨b, hb⟩ : ∃ b : Nat, b = n / 64 := ⟨_, rfl⟩
    obtain ⟨c, hc⟩ : ∃ c : Nat, c = b % 64 := ⟨_, rfl⟩
    obtain ⟨d, hd⟩ : ∃ d : Nat, d = n % 64 := ⟨_, rfl⟩
    have hx : oneL n = [UInt8.ofNat (224 + a), UInt8.ofNat (128 + c), UInt8.ofNat (128 + d)] := by unfold oneL; rw [if_neg c1, if_neg c2, if_pos c3, ha, hc, hb, hd]
    have a1 : (n : Int).tdiv 4096 = (a : Int) := by rw [ha]; exact (Int.ofNat_tdiv n 4096).symm
    have b1 : (n : Int).tdiv 64 = (b : Int) := by rw [hb]; exact (Int.ofNat_tdiv n 64).symm
    have c1 : (b : Int).tmod 64 = (c : Int) := by rw [hc]; exact (Int.ofNat_tmod b 64).symm
    have d1 : (n : Int).tmod 64 = (d : Int) := by rw [hd]; exact (Int.ofNat_tmod n 64).symm
    have a9 : a < 16 := by omega
    have b9 : b < 1024 := by omega
    have c9 : c < 64 := by omega
    have d9 : d < 64 := by omega
    clear ha hb hc hd
    have hcv : (convert 99 9 (.slice (some ⟨w.heap.size, 0, none⟩) 3 3)).run Tryd.prog (w.alloc (Obj.cells #[.int .u8 (224 + (a : Int)), .int .u8 (128 + (c : Int)), .int .u8 (128 + (d : Int))] 5)) = .ok (.string (str [UInt8.ofNat (224 + a), UInt8.ofNat (128 + c), UInt8.ofNat (128 + d)])) (w.alloc (Obj.cells #[.int .u8 (224 + (a : Int)), .int .u8 (128 + (c : Int)), .int .u8 (128 + (d : Int))] 5)) := by
      exact conv_str (OsB.new_ w w.heap.size (Nat.le_refl _) [UInt8.ofNat (224 + a), UInt8.ofNat (128 + c), UInt8.ofNat (128 + d)] (by simp) _ (by
        simp only [List.map_cons, List.map_nil, bv]
        repeat rw [u8n _ (by omega)]
        first | done | simp) 3 rfl).sl 3
    rw [hx]
    clear hx
    go_enter Tryd.func96, Tryd.ntmps96
    go_wp2
    go_ret
    exact ⟨rfl, (Ext.refl _).alloc _⟩
  · have i1 : ¬ (n : Int) < 128 := by omega
    have i2 : ¬ (n : Int) < 2048 := by omega
    have i3 : ¬ (n : Int) < 65536 := by omega
    obtain ⟨a, ha⟩ : ∃ a : Nat, a = n / 262144 := ⟨_, rfl⟩
    obtain ⟨b, hb⟩ : ∃ b : Nat, b = n / 4096 := ⟨_, rfl⟩
    obtain ⟨c, hc⟩ : ∃ c : Nat, c = b % 64 := ⟨_, rfl⟩
    obtain ⟨d, hd⟩ : ∃ d : Nat, d = n / 64 := ⟨_, rfl⟩
    obtain ⟨e, he⟩ : ∃ e : Nat, e = d % 64 := ⟨_, rfl⟩
    obtain ⟨f, hf⟩ : ∃ f : Nat, f = n % 64 := ⟨_, rfl⟩
    have hx : oneL n = [UInt8.ofNat (240 + a), UInt8.ofNat (128 + c), UInt8.ofNat (128 + e), UInt8.ofNat (128 + f)] := by unfold oneL; rw [if_neg c1, if_neg c2, if_neg c3, ha, hc, hb, he, hd, hf]
    have a1 : (n : Int).tdiv 262144 = (a : Int) := by rw [ha]; exact (Int.ofNat_tdiv n 262144).symm
    have b1 : (n : Int).tdiv 4096 = (b : Int) := by rw [hb]; exact (Int.ofNat_tdiv n 4096).symm
    have c1 : (b : Int).tmod 64 = (c : Int) := by rw [hc]; exact (Int.ofNat_tmod b 64).symm
    have d1 : (n : Int).tdiv 64 = (d : Int) := by rw [hd]; exact (Int.ofNat_tdiv n 64).symm
    have e1 : (d : Int).tmod 64 = (e : Int) := by rw [he]; exact (Int.ofNat_tmod d 64).symm
    have f1 : (n : Int).tmod 64 = (f : Int) := by rw [hf]; exact (Int.ofNat_tmod n 64).symm
    have a9 : a < 5 := by omega
    have b9 : b < 512 := by omega
    have c9 : c < 64 := by omega
    have d9 : d < 32768 := by omega
    have e9 : e < 64 := by omega
    have f9 : f < 64 := by omega
    clear ha hb hc hd he hf
    have hcv : (convert 99 9 (.slice (some ⟨w.heap.size, 0, none⟩) 4 4)).run Tryd.prog (w.alloc (Obj.cells #[.int .u8 (240 + (a : Int)), .int .u8 (128 + (c : Int)), .int .u8 (128 + (e : Int)), .int .u8 (128 + (f : Int))] 5)) = .ok (.string (str [UInt8.ofNat (240 + a), UInt8.ofNat (128 + c), UInt8.ofNat (128 + e), UInt8.ofNat (128 + f)])) (w.alloc (Obj.cells #[.int .u8 (240 + (a : Int)), .int .u8 (128 + (c : Int)), .int .u8 (128 + (e : Int)), .int .u8 (128 + (f : Int))] 5)) := by
      exact conv_str (OsB.new_ w w.heap.size (Nat.le_refl _) [UInt8.ofNat (240 + a), UInt8.ofNat (128 + c), UInt8.ofNat (128 + e), UInt8.ofNat (128 + f)] (by simp) _ (by
        simp only [List.map_cons, List.map_nil, bv]
        repeat rw [u8n _ (by omega)]
        first | done | simp) 4 rfl).sl 4
    rw [hx]
    clear hx
    go_enter Tryd.func96, Tryd.ntmps96
    go_wp2
    go_ret
    exact ⟨rfl, (Ext.refl _).alloc _⟩

theorem accN_lt (l : List UInt8) {b n size k : Nat} (h : LeadN b n size) (hk : k ≤ size) (hb : ∀ j, 1 ≤ j → j < k → 128 ≤ (l.getD j 0).toNat ∧ (l.getD j 0).toNat ≤ 191) : accN l n k < 2097152 := by
  have h4 : k = 0 ∨ k = 1 ∨ k = 2 ∨ k = 3 ∨ k = 4 := by unfold LeadN at h; omega
  unfold LeadN at h
  rcases h4 with rfl | rfl | rfl | rfl | rfl
  · simp only [accN]; omega
  · simp only [accN]; omega
  · have := hb 1 (by omega) (by omega)
    simp only [accN, Nat.zero_add]; omega
  · have := hb 1 (by omega) (by omega)
    have := hb 2 (by omega) (by omega)
    simp only [accN, Nat.zero_add, Nat.reduceAdd]; omega
  · have := hb 1 (by omega) (by omega)
    have := hb 2 (by omega) (by omega)
    have := hb 3 (by omega) (by omega)
    simp only [accN, Nat.zero_add, Nat.reduceAdd]; omega
theorem accN_step (l : List UInt8) (n k : Nat) (hk : 1 ≤ k) : accN l n (k + 1) = 64 * accN l n k + ((l.getD k 0).toNat - 128) := by
  match k, hk with
  | k + 1, _ => rfl
theorem at_getD (s : ByteArray) (k : Nat) (h : k < s.size) : (bys s).getD k 0 = s[k] := by
  have h2 : k < (bys s).length := by rw [bys_len]; exact h
  rw [getD_at _ _ h2]
  rfl
/-- What Next returns. -/
def nextV (l : List UInt8) : Value := .tuple #[.int .i64 ((Lib.decodeL l).1 : Int), .int .i64 ((Lib.decodeL l).2 : Int)]
theorem nextV_bad {l : List UInt8} (h : Lib.decodeL l = (65533, 1)) : Value.tuple #[.int .i64 65533, .int .i64 1] = nextV l := by
  unfold nextV; rw [h]; rfl

set_option maxHeartbeats 6400000 in
theorem next_any (s : ByteArray) (h0 : 0 < s.size) (hs : s.size ≤ 140737488355328) :
    Calls Tryd.prog 97 #[.string s] w fun e w' => e = .returned (nextV (bys s)) ∧ Ext w w' := by
  have h0i : (0 : Int) < (s.size : Int) := by omega
  obtain ⟨b, hb⟩ : ∃ b, (s[0]'h0).toNat = b := ⟨_, rfl⟩
  have hb256 : b < 256 := by rw [← hb]; exact UInt8.toNat_lt _
  by_cases c0 : b < 128
  · have i0 : (b : Int) < 128 := by omega
    have HB : Hid (nextV (bys s) = .tuple #[.int .i64 b, .int .i64 1]) := by
      show nextV (bys s) = _
      have h2 := dec_small (bys s) (by rw [at_getD s 0 h0, hb]; exact c0)
      unfold nextV
      rw [h2, at_getD s 0 h0, hb]
      rfl
    go_enter Tryd.func97, Tryd.ntmps97
    go_wp2
    go_ret2
    exact ⟨congrArg Ending.returned HB.out.symm, Ext.refl _⟩
  have i0 : ¬ (b : Int) < 128 := by omega
  by_cases c1 : b < 192
  · have i1 : (b : Int) < 192 := by omega
    have i2 : ¬ (224 : Int) ≤ (b : Int) := by omega
    have i3 : ¬ (240 : Int) ≤ (b : Int) := by omega
    have i4 : ¬ (192 : Int) ≤ (b : Int) := by omega
    have HB := Lib.hid (dec_lead_bad (bys s) (by rw [at_getD s 0 h0, hb]; omega))
    go_enter Tryd.func97, Tryd.ntmps97
    go_wp2
    go_ret2
    exact ⟨congrArg Ending.returned (nextV_bad HB.out), Ext.refl _⟩
  have i1 : (192 : Int) ≤ (b : Int) := by omega
  by_cases c2 : b < 224
  · have i2 : (b : Int) < 224 := by omega
    obtain ⟨n0, hn0⟩ : ∃ n0 : Nat, n0 = b - 192 := ⟨_, rfl⟩
    have he : (b : Int) - 192 = (n0 : Int) := by omega
    have HL := Lib.hid (show LeadN ((bys s).getD 0 0).toNat n0 2 by rw [at_getD s 0 h0, hb]; unfold LeadN; omega)
    have hn32 : n0 < 32 := by omega
    by_cases hss : s.size < 2
    · have hsi : (s.size : Int) < 2 := by omega
      have HB := Lib.hid (dec_short (bys s) HL.out (by rw [bys_len]; exact hss))
      clear hn0
      go_enter Tryd.func97, Tryd.ntmps97
      go_wp2
      go_ret2
      exact ⟨congrArg Ending.returned (nextV_bad HB.out), Ext.refl _⟩
    · have hsi : ¬ (s.size : Int) < 2 := by omega
      clear hn0
      go_enter Tryd.func97, Tryd.ntmps97
      go_wp2
      go_loopw [4, 6] (fun v i wr => ∃ k n : Nat, 1 ≤ k ∧ k ≤ 2 ∧ v = .int .i64 n ∧ i = .int .i64 k ∧ Ext w wr ∧ n < 2097152 ∧ Hid (n = accN (bys s) n0 k ∧ ∀ j, 1 ≤ j → j < k → 128 ≤ ((bys s).getD j 0).toNat ∧ ((bys s).getD j 0).toNat ≤ 191)) (fun _ i _ => 2 - (intOf i).toNat)
      case atStart => exact ⟨1, n0, Nat.le_refl _, by omega, rfl, rfl, Ext.refl _, by omega, Lib.hid ⟨rfl, fun j h1 h2 => absurd h1 (by omega)⟩⟩
      case round =>
        obtain ⟨k, n, h1k, hk, rfl, rfl, hE, hn, HI⟩ := hrel
        by_cases hlt : k < 2
        · have hki : (k : Int) < 2 := by omega
          have hks : k < s.size := by omega
          have hksi : (k : Int) < (s.size : Int) := by omega
          obtain ⟨t, ht⟩ : ∃ t, t = (s[k]'hks).toNat := ⟨_, rfl⟩
          have HT := Lib.hid (show ((bys s).getD k 0).toNat = t by rw [at_getD s k hks, ht])
          have ht' : (s[k]'hks).toNat = t := ht.symm
          clear ht
          by_cases hc1 : t < 128
          · have hci : (t : Int) < 128 := by omega
            have HB := Lib.hid (dec_cont (bys s) HL.out h1k hlt (.inl (by rw [HT.out]; exact hc1)))
            go_wp2
            go_ret2
            exact ⟨congrArg Ending.returned (nextV_bad HB.out), hE⟩
          · have hci : ¬ (t : Int) < 128 := by omega
            by_cases hc2 : 191 < t
            · have hcj : (191 : Int) < (t : Int) := by omega
              have HB := Lib.hid (dec_cont (bys s) HL.out h1k hlt (.inr (by rw [HT.out]; exact hc2)))
              go_wp2
              go_ret2
              exact ⟨congrArg Ending.returned (nextV_bad HB.out), hE⟩
            · have hcj : ¬ (191 : Int) < (t : Int) := by omega
              have HC : Hid (∀ j, 1 ≤ j → j < k + 1 → 128 ≤ ((bys s).getD j 0).toNat ∧ ((bys s).getD j 0).toNat ≤ 191) := fun j h1 h2 => by
                rcases Nat.lt_or_ge j k with h3 | h3
                · exact HI.out.2 j h1 h3
                · obtain rfl : j = k := by omega
                  rw [HT.out]; omega
              have HA : Hid (64 * n + (t - 128) = accN (bys s) n0 (k + 1)) := by
                have h2 := accN_step (bys s) n0 k h1k
                rw [HT.out, ← HI.out.1] at h2
                exact h2.symm
              have HLT : Hid (64 * n + (t - 128) < 2097152) := by
                show 64 * n + (t - 128) < 2097152
                rw [HA.out]
                exact accN_lt (bys s) HL.out (by omega) HC.out
              go_wp2
              go_roundw
              case rel => exact ⟨k + 1, 64 * n + (t - 128), by omega, by omega, by have := HLT.out; first | done | (congr 1; omega) | (simp only [Value.int.injEq, true_and]; omega), by go_num, hE, HLT.out, Lib.hid ⟨HA.out, HC.out⟩⟩
              case measure => simp [intOf]; omega
        · have hki : ¬ (k : Int) < 2 := by omega
          have HK : Hid (k = 2) := by show k = 2; omega
          have HD0 := Lib.hid (dec_end (bys s) HL.out (by rw [bys_len]; omega) (by have := HI.out.2; rw [HK.out] at this; exact this))
          have HD : Hid (Lib.decodeL (bys s) = if PointN n ∧ oneL n = (bys s).take 2 then (n, 2) else (65533, 1)) := by
            have h1 := HD0.out
            have h2 := HI.out.1
            rw [HK.out] at h2
            rw [← h2] at h1
            exact h1
          obtain ⟨x, hx⟩ : ∃ x, x = s.extract 0 2 := ⟨_, rfl⟩
          have HX : Hid (bys x = (bys s).take 2) := by show bys x = _; rw [hx, bys_sub, List.drop_zero]
          have hx' : s.extract 0 2 = x := hx.symm
          have hsi2 : (2 : Int) ≤ (s.size : Int) := by omega
          clear hx HD0
          by_cases hp : PointN n
          · have HP := Lib.hid (decide_eq_true hp)
            have hn11 : n ≤ 1114111 := hp.1
            obtain ⟨y, hy⟩ : ∃ y, y = str (oneL n) := ⟨_, rfl⟩
            have HY := Lib.hid hy.symm
            by_cases ho : oneL n = (bys s).take 2
            · have hbq : (y.toList == x.toList) = true := by
                have e : y = x := bys_inj (by rw [hy, bys_str, HX.out, ho])
                rw [e]; simp
              have HR : Hid (nextV (bys s) = .tuple #[.int .i64 n, .int .i64 2]) := by
                show nextV (bys s) = _
                unfold nextV
                rw [HD.out, if_pos ⟨hp, ho⟩]
                rfl
              clear ho hp hy
              go_wp2
              go_region_held3 (fun _ => True) (first | trivial) (first
                | (go_at_call 95; refine (point_any n).mono ?_; rintro e w9 ⟨rfl, rfl⟩; rw [HP.out])
                | (go_at_call 96; refine (one_any n hn11).mono ?_; rintro e w9 ⟨rfl, hE9⟩; rw [HY.out]; have hE10 := hE.drew.trans hE9)
                | fail)
              go_wp2
              go_ret2
              exact ⟨congrArg Ending.returned HR.out.symm, hE10⟩
            · have hbq : (y.toList == x.toList) = false := by
                rw [beq_eq_false_iff_ne]
                intro hh
                rw [ByteArray.toList_eq, ByteArray.toList_eq] at hh
                have h3 : bys y = bys x := hh
                rw [hy, bys_str, HX.out] at h3
                exact ho h3
              have HB : Hid (Lib.decodeL (bys s) = (65533, 1)) := by
                show Lib.decodeL (bys s) = _
                rw [HD.out, if_neg (fun h => ho h.2)]
              clear ho hp hy
              go_wp2
              go_region_held3 (fun _ => True) (first | trivial) (first
                | (go_at_call 95; refine (point_any n).mono ?_; rintro e w9 ⟨rfl, rfl⟩; rw [HP.out])
                | (go_at_call 96; refine (one_any n hn11).mono ?_; rintro e w9 ⟨rfl, hE9⟩; rw [HY.out]; have hE10 := hE.drew.trans hE9)
                | fail)
              go_wp2
              go_ret2
              exact ⟨congrArg Ending.returned (nextV_bad HB.out), hE10⟩
          · have HP := Lib.hid (decide_eq_false hp)
            have HB : Hid (Lib.decodeL (bys s) = (65533, 1)) := by
              show Lib.decodeL (bys s) = _
              rw [HD.out, if_neg (fun h => hp h.1)]
            clear hp
            go_wp2
            have hpt : ∀ W, Calls Tryd.prog 95 #[.int .i64 n] W fun e w' => e = .returned (.bool false) ∧ w' = W := fun W => by
              have h9 := point_any (w := W) n
              rw [HP.out] at h9
              exact h9
            have HPT := Lib.hid hpt
            clear hpt
            go_quiet ((go_at_call 95; exact Calls.quiet_of_same (HPT.out _)))
            go_wp2
            go_ret2
            exact ⟨congrArg Ending.returned (nextV_bad HB.out), hE.drewN _⟩
  have i2 : ¬ (b : Int) < 224 := by omega
  have i2' : (224 : Int) ≤ (b : Int) := by omega
  by_cases c3 : b < 240
  · have i3 : (b : Int) < 240 := by omega
    obtain ⟨n0, hn0⟩ : ∃ n0 : Nat, n0 = b - 224 := ⟨_, rfl⟩
    have he : (b : Int) - 224 = (n0 : Int) := by omega
    have HL := Lib.hid (show LeadN ((bys s).getD 0 0).toNat n0 3 by rw [at_getD s 0 h0, hb]; unfold LeadN; omega)
    have hn32 : n0 < 32 := by omega
    by_cases hss : s.size < 3
    · have hsi : (s.size : Int) < 3 := by omega
      have HB := Lib.hid (dec_short (bys s) HL.out (by rw [bys_len]; exact hss))
      clear hn0
      go_enter Tryd.func97, Tryd.ntmps97
      go_wp2
      go_ret2
      exact ⟨congrArg Ending.returned (nextV_bad HB.out), Ext.refl _⟩
    · have hsi : ¬ (s.size : Int) < 3 := by omega
      clear hn0
      go_enter Tryd.func97, Tryd.ntmps97
      go_wp2
      go_loopw [4, 6] (fun v i wr => ∃ k n : Nat, 1 ≤ k ∧ k ≤ 3 ∧ v = .int .i64 n ∧ i = .int .i64 k ∧ Ext w wr ∧ n < 2097152 ∧ Hid (n = accN (bys s) n0 k ∧ ∀ j, 1 ≤ j → j < k → 128 ≤ ((bys s).getD j 0).toNat ∧ ((bys s).getD j 0).toNat ≤ 191)) (fun _ i _ => 3 - (intOf i).toNat)
      case atStart => exact ⟨1, n0, Nat.le_refl _, by omega, rfl, rfl, Ext.refl _, by omega, Lib.hid ⟨rfl, fun j h1 h2 => absurd h1 (by omega)⟩⟩
      case round =>
        obtain ⟨k, n, h1k, hk, rfl, rfl, hE, hn, HI⟩ := hrel
        by_cases hlt : k < 3
        · have hki : (k : Int) < 3 := by omega
          have hks : k < s.size := by omega
          have hksi : (k : Int) < (s.size : Int) := by omega
          obtain ⟨t, ht⟩ : ∃ t, t = (s[k]'hks).toNat := ⟨_, rfl⟩
          have HT := Lib.hid (show ((bys s).getD k 0).toNat = t by rw [at_getD s k hks, ht])
          have ht' : (s[k]'hks).toNat = t := ht.symm
          clear ht
          by_cases hc1 : t < 128
          · have hci : (t : Int) < 128 := by omega
            have HB := Lib.hid (dec_cont (bys s) HL.out h1k hlt (.inl (by rw [HT.out]; exact hc1)))
            go_wp2
            go_ret2
            exact ⟨congrArg Ending.returned (nextV_bad HB.out), hE⟩
          · have hci : ¬ (t : Int) < 128 := by omega
            by_cases hc2 : 191 < t
            · have hcj : (191 : Int) < (t : Int) := by omega
              have HB := Lib.hid (dec_cont (bys s) HL.out h1k hlt (.inr (by rw [HT.out]; exact hc2)))
              go_wp2
              go_ret2
              exact ⟨congrArg Ending.returned (nextV_bad HB.out), hE⟩
            · have hcj : ¬ (191 : Int) < (t : Int) := by omega
              have HC : Hid (∀ j, 1 ≤ j → j < k + 1 → 128 ≤ ((bys s).getD j 0).toNat ∧ ((bys s).getD j 0).toNat ≤ 191) := fun j h1 h2 => by
                rcases Nat.lt_or_ge j k with h3 | h3
                · exact HI.out.2 j h1 h3
                · obtain rfl : j = k := by omega
                  rw [HT.out]; omega
              have HA : Hid (64 * n + (t - 128) = accN (bys s) n0 (k + 1)) := by
                have h2 := accN_step (bys s) n0 k h1k
                rw [HT.out, ← HI.out.1] at h2
                exact h2.symm
              have HLT : Hid (64 * n + (t - 128) < 2097152) := by
                show 64 * n + (t - 128) < 2097152
                rw [HA.out]
                exact accN_lt (bys s) HL.out (by omega) HC.out
              go_wp2
              go_roundw
              case rel => exact ⟨k + 1, 64 * n + (t - 128), by omega, by omega, by have := HLT.out; first | done | (congr 1; omega) | (simp only [Value.int.injEq, true_and]; omega), by go_num, hE, HLT.out, Lib.hid ⟨HA.out, HC.out⟩⟩
              case measure => simp [intOf]; omega
        · have hki : ¬ (k : Int) < 3 := by omega
          have HK : Hid (k = 3) := by show k = 3; omega
          have HD0 := Lib.hid (dec_end (bys s) HL.out (by rw [bys_len]; omega) (by have := HI.out.2; rw [HK.out] at this; exact this))
          have HD : Hid (Lib.decodeL (bys s) = if PointN n ∧ oneL n = (bys s).take 3 then (n, 3) else (65533, 1)) := by
            have h1 := HD0.out
            have h2 := HI.out.1
            rw [HK.out] at h2
            rw [← h2] at h1
            exact h1
          obtain ⟨x, hx⟩ : ∃ x, x = s.extract 0 3 := ⟨_, rfl⟩
          have HX : Hid (bys x = (bys s).take 3) := by show bys x = _; rw [hx, bys_sub, List.drop_zero]
          have hx' : s.extract 0 3 = x := hx.symm
          have hsi2 : (3 : Int) ≤ (s.size : Int) := by omega
          clear hx HD0
          by_cases hp : PointN n
          · have HP := Lib.hid (decide_eq_true hp)
            have hn11 : n ≤ 1114111 := hp.1
            obtain ⟨y, hy⟩ : ∃ y, y = str (oneL n) := ⟨_, rfl⟩
            have HY := Lib.hid hy.symm
            by_cases ho : oneL n = (bys s).take 3
            · have hbq : (y.toList == x.toList) = true := by
                have e : y = x := bys_inj (by rw [hy, bys_str, HX.out, ho])
                rw [e]; simp
              have HR : Hid (nextV (bys s) = .tuple #[.int .i64 n, .int .i64 3]) := by
                show nextV (bys s) = _
                unfold nextV
                rw [HD.out, if_pos ⟨hp, ho⟩]
                rfl
              clear ho hp hy
              go_wp2
              go_region_held3 (fun _ => True) (first | trivial) (first
                | (go_at_call 95; refine (point_any n).mono ?_; rintro e w9 ⟨rfl, rfl⟩; rw [HP.out])
                | (go_at_call 96; refine (one_any n hn11).mono ?_; rintro e w9 ⟨rfl, hE9⟩; rw [HY.out]; have hE10 := hE.drew.trans hE9)
                | fail)
              go_wp2
              go_ret2
              exact ⟨congrArg Ending.returned HR.out.symm, hE10⟩
            · have hbq : (y.toList == x.toList) = false := by
                rw [beq_eq_false_iff_ne]
                intro hh
                rw [ByteArray.toList_eq, ByteArray.toList_eq] at hh
                have h3 : bys y = bys x := hh
                rw [hy, bys_str, HX.out] at h3
                exact ho h3
              have HB : Hid (Lib.decodeL (bys s) = (65533, 1)) := by
                show Lib.decodeL (bys s) = _
                rw [HD.out, if_neg (fun h => ho h.2)]
              clear ho hp hy
              go_wp2
              go_region_held3 (fun _ => True) (first | trivial) (first
                | (go_at_call 95; refine (point_any n).mono ?_; rintro e w9 ⟨rfl, rfl⟩; rw [HP.out])
                | (go_at_call 96; refine (one_any n hn11).mono ?_; rintro e w9 ⟨rfl, hE9⟩; rw [HY.out]; have hE10 := hE.drew.trans hE9)
                | fail)
              go_wp2
              go_ret2
              exact ⟨congrArg Ending.returned (nextV_bad HB.out), hE10⟩
          · have HP := Lib.hid (decide_eq_false hp)
            have HB : Hid (Lib.decodeL (bys s) = (65533, 1)) := by
              show Lib.decodeL (bys s) = _
              rw [HD.out, if_neg (fun h => hp h.1)]
            clear hp
            go_wp2
            have hpt : ∀ W, Calls Tryd.prog 95 #[.int .i64 n] W fun e w' => e = .returned (.bool false) ∧ w' = W := fun W => by
              have h9 := point_any (w := W) n
              rw [HP.out] at h9
              exact h9
            have HPT := Lib.hid hpt
            clear hpt
            go_quiet ((go_at_call 95; exact Calls.quiet_of_same (HPT.out _)))
            go_wp2
            go_ret2
            exact ⟨congrArg Ending.returned (nextV_bad HB.out), hE.drewN _⟩
  have i3 : ¬ (b : Int) < 240 := by omega
  have i3' : (240 : Int) ≤ (b : Int) := by omega
  by_cases c4 : b < 248
  · have i4 : (b : Int) < 248 := by omega
    obtain ⟨n0, hn0⟩ : ∃ n0 : Nat, n0 = b - 240 := ⟨_, rfl⟩
    have he : (b : Int) - 240 = (n0 : Int) := by omega
    have HL := Lib.hid (show LeadN ((bys s).getD 0 0).toNat n0 4 by rw [at_getD s 0 h0, hb]; unfold LeadN; omega)
    have hn32 : n0 < 32 := by omega
    by_cases hss : s.size < 4
    · have hsi : (s.size : Int) < 4 := by omega
      have HB := Lib.hid (dec_short (bys s) HL.out (by rw [bys_len]; exact hss))
      clear hn0
      go_enter Tryd.func97, Tryd.ntmps97
      go_wp2
      go_ret2
      exact ⟨congrArg Ending.returned (nextV_bad HB.out), Ext.refl _⟩
    · have hsi : ¬ (s.size : Int) < 4 := by omega
      clear hn0
      go_enter Tryd.func97, Tryd.ntmps97
      go_wp2
      go_loopw [4, 6] (fun v i wr => ∃ k n : Nat, 1 ≤ k ∧ k ≤ 4 ∧ v = .int .i64 n ∧ i = .int .i64 k ∧ Ext w wr ∧ n < 2097152 ∧ Hid (n = accN (bys s) n0 k ∧ ∀ j, 1 ≤ j → j < k → 128 ≤ ((bys s).getD j 0).toNat ∧ ((bys s).getD j 0).toNat ≤ 191)) (fun _ i _ => 4 - (intOf i).toNat)
      case atStart => exact ⟨1, n0, Nat.le_refl _, by omega, rfl, rfl, Ext.refl _, by omega, Lib.hid ⟨rfl, fun j h1 h2 => absurd h1 (by omega)⟩⟩
      case round =>
        obtain ⟨k, n, h1k, hk, rfl, rfl, hE, hn, HI⟩ := hrel
        by_cases hlt : k < 4
        · have hki : (k : Int) < 4 := by omega
          have hks : k < s.size := by omega
          have hksi : (k : Int) < (s.size : Int) := by omega
          obtain ⟨t, ht⟩ : ∃ t, t = (s[k]'hks).toNat := ⟨_, rfl⟩
          have HT := Lib.hid (show ((bys s).getD k 0).toNat = t by rw [at_getD s k hks, ht])
          have ht' : (s[k]'hks).toNat = t := ht.symm
          clear ht
          by_cases hc1 : t < 128
          · have hci : (t : Int) < 128 := by omega
            have HB := Lib.hid (dec_cont (bys s) HL.out h1k hlt (.inl (by rw [HT.out]; exact hc1)))
            go_wp2
            go_ret2
            exact ⟨congrArg Ending.returned (nextV_bad HB.out), hE⟩
          · have hci : ¬ (t : Int) < 128 := by omega
            by_cases hc2 : 191 < t
            · have hcj : (191 : Int) < (t : Int) := by omega
              have HB := Lib.hid (dec_cont (bys s) HL.out h1k hlt (.inr (by rw [HT.out]; exact hc2)))
              go_wp2
              go_ret2
              exact ⟨congrArg Ending.returned (nextV_bad HB.out), hE⟩
            · have hcj : ¬ (191 : Int) < (t : Int) := by omega
              have HC : Hid (∀ j, 1 ≤ j → j < k + 1 → 128 ≤ ((bys s).getD j 0).toNat ∧ ((bys s).getD j 0).toNat ≤ 191) := fun j h1 h2 => by
                rcases Nat.lt_or_ge j k with h3 | h3
                · exact HI.out.2 j h1 h3
                · obtain rfl : j = k := by omega
                  rw [HT.out]; omega
              have HA : Hid (64 * n + (t - 128) = accN (bys s) n0 (k + 1)) := by
                have h2 := accN_step (bys s) n0 k h1k
                rw [HT.out, ← HI.out.1] at h2
                exact h2.symm
              have HLT : Hid (64 * n + (t - 128) < 2097152) := by
                show 64 * n + (t - 128) < 2097152
                rw [HA.out]
                exact accN_lt (bys s) HL.out (by omega) HC.out
              go_wp2
              go_roundw
              case rel => exact ⟨k + 1, 64 * n + (t - 128), by omega, by omega, by have := HLT.out; first | done | (congr 1; omega) | (simp only [Value.int.injEq, true_and]; omega), by go_num, hE, HLT.out, Lib.hid ⟨HA.out, HC.out⟩⟩
              case measure => simp [intOf]; omega
        · have hki : ¬ (k : Int) < 4 := by omega
          have HK : Hid (k = 4) := by show k = 4; omega
          have HD0 := Lib.hid (dec_end (bys s) HL.out (by rw [bys_len]; omega) (by have := HI.out.2; rw [HK.out] at this; exact this))
          have HD : Hid (Lib.decodeL (bys s) = if PointN n ∧ oneL n = (bys s).take 4 then (n, 4) else (65533, 1)) := by
            have h1 := HD0.out
            have h2 := HI.out.1
            rw [HK.out] at h2
            rw [← h2] at h1
            exact h1
          obtain ⟨x, hx⟩ : ∃ x, x = s.extract 0 4 := ⟨_, rfl⟩
          have HX : Hid (bys x = (bys s).take 4) := by show bys x = _; rw [hx, bys_sub, List.drop_zero]
          have hx' : s.extract 0 4 = x := hx.symm
          have hsi2 : (4 : Int) ≤ (s.size : Int) := by omega
          clear hx HD0
          by_cases hp : PointN n
          · have HP := Lib.hid (decide_eq_true hp)
            have hn11 : n ≤ 1114111 := hp.1
            obtain ⟨y, hy⟩ : ∃ y, y = str (oneL n) := ⟨_, rfl⟩
            have HY := Lib.hid hy.symm
            by_cases ho : oneL n = (bys s).take 4
            · have hbq : (y.toList == x.toList) = true := by
                have e : y = x := bys_inj (by rw [hy, bys_str, HX.out, ho])
                rw [e]; simp
              have HR : Hid (nextV (bys s) = .tuple #[.int .i64 n, .int .i64 4]) := by
                show nextV (bys s) = _
                unfold nextV
                rw [HD.out, if_pos ⟨hp, ho⟩]
                rfl
              clear ho hp hy
              go_wp2
              go_region_held3 (fun _ => True) (first | trivial) (first
                | (go_at_call 95; refine (point_any n).mono ?_; rintro e w9 ⟨rfl, rfl⟩; rw [HP.out])
                | (go_at_call 96; refine (one_any n hn11).mono ?_; rintro e w9 ⟨rfl, hE9⟩; rw [HY.out]; have hE10 := hE.drew.trans hE9)
                | fail)
              go_wp2
              go_ret2
              exact ⟨congrArg Ending.returned HR.out.symm, hE10⟩
            · have hbq : (y.toList == x.toList) = false := by
                rw [beq_eq_false_iff_ne]
                intro hh
                rw [ByteArray.toList_eq, ByteArray.toList_eq] at hh
                have h3 : bys y = bys x := hh
                rw [hy, bys_str, HX.out] at h3
                exact ho h3
              have HB : Hid (Lib.decodeL (bys s) = (65533, 1)) := by
                show Lib.decodeL (bys s) = _
                rw [HD.out, if_neg (fun h => ho h.2)]
              clear ho hp hy
              go_wp2
              go_region_held3 (fun _ => True) (first | trivial) (first
                | (go_at_call 95; refine (point_any n).mono ?_; rintro e w9 ⟨rfl, rfl⟩; rw [HP.out])
                | (go_at_call 96; refine (one_any n hn11).mono ?_; rintro e w9 ⟨rfl, hE9⟩; rw [HY.out]; have hE10 := hE.drew.trans hE9)
                | fail)
              go_wp2
              go_ret2
              exact ⟨congrArg Ending.returned (nextV_bad HB.out), hE10⟩
          · have HP := Lib.hid (decide_eq_false hp)
            have HB : Hid (Lib.decodeL (bys s) = (65533, 1)) := by
              show Lib.decodeL (bys s) = _
              rw [HD.out, if_neg (fun h => hp h.1)]
            clear hp
            go_wp2
            have hpt : ∀ W, Calls Tryd.prog 95 #[.int .i64 n] W fun e w' => e = .returned (.bool false) ∧ w' = W := fun W => by
              have h9 := point_any (w := W) n
              rw [HP.out] at h9
              exact h9
            have HPT := Lib.hid hpt
            clear hpt
            go_quiet ((go_at_call 95; exact Calls.quiet_of_same (HPT.out _)))
            go_wp2
            go_ret2
            exact ⟨congrArg Ending.returned (nextV_bad HB.out), hE.drewN _⟩
  · have i4 : ¬ (b : Int) < 248 := by omega
    have HB := Lib.hid (dec_lead_bad (bys s) (by rw [at_getD s 0 h0, hb]; omega))
    go_enter Tryd.func97, Tryd.ntmps97
    go_wp2
    go_ret2
    exact ⟨congrArg Ending.returned (nextV_bad HB.out), Ext.refl _⟩
end

end Go.Proofs.YtikbjaopcminaaaDoor
