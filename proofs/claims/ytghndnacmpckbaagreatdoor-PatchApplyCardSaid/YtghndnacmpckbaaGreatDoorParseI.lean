/- internal/strconv.ParseUint at base 16, 64 bits. -/
import Derived.Test.YtghndnacmpckbaaGreatDoorParseR
import Derived.Laws.IdiomStrings
namespace Go.Proofs.YtghndnacmpckbaaGreatDoor
open Go.RowKit
set_option maxRecDepth 100000

/-- A fact that the walk does not see. -/
structure BoxP (p : Prop) : Prop where
  out : p
def lowN (c : Nat) : Nat := (bits BinOp.or IntKind.u8 (c : Int) 32).toNat
theorem low_ok : ∀ c : Nat, c < 256 → bits BinOp.or IntKind.u8 (c : Int) 32 = (lowN c : Int) ∧ lowN c < 256 ∧ (97 ≤ c → c ≤ 102 → lowN c = c) := by decide +kernel
/-- A number that was read: if the text is the text of n, it is n, and there is no error. -/
def PUOk (s : ByteArray) (v : Nat) (ok : Bool) : Prop := v < 18446744073709551616 ∧ ∀ n, n < 18446744073709551616 → s = hexT n → ok = true ∧ v = n
def PUAt (s : ByteArray) (q v : Nat) : Prop := ∀ n, n < 18446744073709551616 → s = hexT n → v = n / 16 ^ (16 - q)
theorem PUAt.start (s : ByteArray) : PUAt s 0 0 := fun n hn _ => by
  rw [Nat.div_eq_of_lt]
  simpa using hn
theorem PUAt.look {s : ByteArray} {q v : Nat} (h : PUAt s q v) (hq : q < s.size) (n : Nat) (hn : n < 18446744073709551616) (e : s = hexT n) :
    ∃ d, d < 16 ∧ s[q] = hexD d ∧ v < 1152921504606846976 ∧ 16 * v + d = n / 16 ^ (16 - (q + 1)) := by
  have hv := h n hn e
  have hs : s.size = 16 := by rw [e, hexT_size]
  have hg : s[q] = hexD (n / 16 ^ (15 - q) % 16) := by
    have h1 : (bys s)[q]'hq = (bys (hexT n))[q]'(by rw [hexT_bys, lowH_len]; omega) := by simp only [e]
    rw [← bysp_at hq, h1]
    simp only [hexT_bys, lowH_get]
  refine ⟨n / 16 ^ (15 - q) % 16, by omega, hg, ?_, ?_⟩
  · rw [hv, show 16 - q = (15 - q) + 1 by omega, Nat.pow_succ, Nat.mul_comm, ← Nat.div_div_eq_div_mul]
    exact Nat.lt_of_le_of_lt (Nat.div_le_self _ _) (by omega)
  · rw [hv, show 16 - q = (15 - q) + 1 by omega, show 16 - (q + 1) = 15 - q by omega, Nat.pow_succ, ← Nat.div_div_eq_div_mul]
    omega
theorem PUAt.bad {s : ByteArray} {q v : Nat} (h : PUAt s q v) (hq : q < s.size) (hb : ∀ d, d < 16 → s[q] = hexD d → v < 1152921504606846976 → False) (v' : Nat) (hv : v' < 18446744073709551616) : PUOk s v' false :=
  ⟨hv, fun n hn e => by
    obtain ⟨d, h1, h2, h3, _⟩ := h.look hq n hn e
    exact absurd (hb d h1 h2 h3) id⟩
theorem PUAt.step {s : ByteArray} {q v d : Nat} (h : PUAt s q v) (hq : q < s.size) (hd : ∀ d', d' < 16 → s[q] = hexD d' → d = d') : PUAt s (q + 1) (16 * v + d) := fun n hn e => by
  obtain ⟨d', h1, h2, _, h4⟩ := h.look hq n hn e
  rw [hd d' h1 h2]
  exact h4
theorem PUAt.done {s : ByteArray} {v : Nat} (h : PUAt s s.size v) (hv : v < 18446744073709551616) : PUOk s v true :=
  ⟨hv, fun n hn e => ⟨rfl, by
    have h1 := h n hn e
    have hs : s.size = 16 := by rw [e, hexT_size]
    rw [hs] at h1
    simpa using h1⟩⟩
theorem PUOk.empty {s : ByteArray} (h : s.size = 0) : PUOk s 0 false := ⟨by omega, fun n _ e => by rw [e, hexT_size] at h; cases h⟩
theorem hexD_toNat {d : Nat} (h : d < 16) : (hexD d).toNat = if d < 10 then 48 + d else 87 + d := by
  unfold hexD
  split
  · rw [UInt8.toNat_ofNat', Nat.mod_eq_of_lt (by omega)]
  · rw [UInt8.toNat_ofNat', Nat.mod_eq_of_lt (by omega)]
section
variable {w : World}
theorem lower_any (c : Nat) (hc : c < 256) : Calls Tryz.prog 70 #[.int .u8 c] w fun e w' => e = .returned (.int .u8 (lowN c : Nat)) ∧ w' = w := by
  obtain ⟨h1, h2, h3⟩ := low_ok c hc
  go_enter Tryz.func70, Tryz.ntmps70
  go_wp2
  go_ret
  exact ⟨rfl, rfl⟩
theorem conv_bytes (s : ByteArray) (W : World) : ∃ C W', (convert 9 22 (.string s)).run Tryz.prog W = .ok (.slice (some ⟨W.heap.size, 0, none⟩) s.size C) W' ∧ Ext W W' ∧ ∀ j (hj : j < s.size), W'.cell? ⟨W.heap.size, j, none⟩ = some (.int .u8 (s[j].toNat : Int)) := by
  refine ⟨_, _, run_bytes_of_string W _ _ _ s Tryz.underlying9 Tryz.underlying22 Tryz.underlying5, (Ext.refl _).drew.alloc _, fun j hj => ?_⟩
  have h1 := bytesRow_at s (grownCap W s.size 0 5) j hj
  have h2 := cell_of_row _ W.heap.size j _ _ _ (heap_alloc_new W.drew (.cells (bytesRow s (grownCap W s.size 0 5)) 5 ((bytesRow s (grownCap W s.size 0 5)).size, (bytesRow s (grownCap W s.size 0 5)).size + 1)))
  rw [h2]
  exact h1
/-- The error that comes with a number. -/
def ErrV (x : Value) (ok : Bool) : Prop := (ok = true ∧ x = .nilIface) ∨ (ok = false ∧ (x = .iface 107 (.int .i64 1) ∨ x = .iface 107 (.int .i64 2)))
def IRes (s : ByteArray) (e : Ending) : Prop := ∃ (v : Nat) (x : Value) (ok : Bool), e = .returned (.tuple #[.int .u64 v, x]) ∧ ErrV x ok ∧ PUOk s v ok
theorem wrapC (v : Nat) (hv : v < 1152921504606846976) : IntKind.u64.wrap ((v : Int) * 16) = ((16 * v : Nat) : Int) := by
  simp only [IntKind.wrap, IntKind.signed, IntKind.bits, Bool.false_and, Bool.false_eq_true, if_false]
  omega
theorem wrapN (V D N : Nat) (hN : N = V + D) (h : N < 18446744073709551616) : IntKind.u64.wrap ((V : Int) + (D : Int)) = (N : Int) := by
  simp only [IntKind.wrap, IntKind.signed, IntKind.bits, Bool.false_and, Bool.false_eq_true, if_false]
  omega
set_option maxHeartbeats 3200000 in
theorem iparse_any (s : ByteArray) (hs : s.size ≤ 1000000) :
    Calls Tryz.prog 60 #[.string s, .int .i64 16, .int .i64 64] w fun e w' => IRes s e ∧ Ext w w' := by
  by_cases h0 : s.size = 0
  · have hz : s.toList = [] := by rw [ByteArray.toList_eq]; exact List.eq_nil_of_length_eq_zero h0
    have HO := Lib.hid (PUOk.empty h0)
    go_enter Tryz.func60, Tryz.ntmps60
    go_wp2
    go_ret2
    exact ⟨⟨0, _, false, rfl, .inr ⟨rfl, .inr rfl⟩, HO.out⟩, Ext.refl _⟩
  · have hz : ¬ s.toList = [] := fun e => h0 (by rw [ByteArray.toList_eq] at e; exact congrArg List.length e)
    have hze : s.toList.isEmpty = false := by simpa using hz
    obtain ⟨C, W', hcv, hEc, hcell⟩ := conv_bytes s w
    have HCL := Lib.hid hcell
    clear hcell
    go_enter Tryz.func60, Tryz.ntmps60
    go_wp2
    obtain ⟨b, hb⟩ : ∃ b, b = w.heap.size := ⟨_, rfl⟩
    rw [← hb] at hcv HCL ⊢
    clear hcv hb
    have hmax : IntKind.u64.wrap (IntKind.u64.wrap 18446744073709551616 - 1) = 18446744073709551615 := by decide
    obtain ⟨X, hX⟩ : ∃ X : Int, X = 1152921504606846976 := ⟨_, rfl⟩
    rw [← hX]
    obtain ⟨Y, hY⟩ : ∃ Y : Int, Y = 18446744073709551615 := ⟨_, rfl⟩
    rw [hmax, ← hY]
    have HY : BoxP (Y = 18446744073709551615) := ⟨hY⟩
    clear hY hmax
    have HX : BoxP (X = 1152921504606846976) := ⟨hX⟩
    clear hX
    go_loopw [12, 13, 101] (fun z u i wr => ∃ q v : Nat, q ≤ s.size ∧ v < 18446744073709551616 ∧ z = .bool false ∧ u = .int .u64 v ∧ i = .int .i64 q ∧ Hid (PUAt s q v) ∧ wr = W') (fun _ _ i _ => s.size - (intOf i).toNat)
    case atStart => exact ⟨0, 0, Nat.zero_le _, by omega, rfl, rfl, rfl, Lib.hid (PUAt.start s), rfl⟩
    case round =>
      obtain ⟨q, v, hq, hv, rfl, rfl, rfl, HP, rfl⟩ := hrel
      by_cases hlt : q < s.size
      · have hi1 : (q : Int) < (s.size : Int) := by omega
        have hcq := HCL.out q hlt
        obtain ⟨c, hc⟩ : ∃ c : Nat, c = s[q].toNat := ⟨_, rfl⟩
        have hc256 : c < 256 := by rw [hc]; exact UInt8.toNat_lt _
        rw [← hc] at hcq
        have HCC := Lib.hid (show ∀ d, d < 16 → s[q] = hexD d → c = if d < 10 then 48 + d else 87 + d from fun d hd e => by rw [hc, e, hexD_toNat hd])
        clear hc
        obtain ⟨lo1, lo2, lo3⟩ := low_ok c hc256
        have HLO := Lib.hid lo3
        clear lo1 lo3
        have hcm : 0 ≤ (c : Int) := by omega
        by_cases g1 : 48 ≤ c ∧ c ≤ 57
        · obtain ⟨ga, gb⟩ := g1
          have HLL := Lib.hid (Eq.refl (lowN c))
          have gai : (48 : Int) ≤ (c : Int) := by omega
          have gbi : (c : Int) ≤ 57 := by omega
          have hc95 : ¬ (c : Int) = 95 := by omega
          have hd : ∀ d', d' < 16 → s[q] = hexD d' → c - 48 = d' := fun d' h1 h2 => by have h3 := HCC.out d' h1 h2; split at h3 <;> omega
          have HD := Lib.hid hd
          clear hd
          by_cases hr : v < 1152921504606846976
          · have hri : ¬ X ≤ (v : Int) := by have := HX.out; omega
            obtain ⟨D, hD⟩ : ∃ D, D = c - 48 := ⟨_, rfl⟩
            have hLD : (c : Int) - 48 = (D : Int) := by omega
            have hD16 : (D : Int) < 16 := by omega
            have HD := Lib.hid (fun (d' : Nat) h1 h2 => hD.trans (HD.out d' h1 h2))
            obtain ⟨V, hV⟩ : ∃ V, V = 16 * v := ⟨_, rfl⟩
            obtain ⟨N, hN⟩ : ∃ N, N = V + D := ⟨_, rfl⟩
            have hw1 : IntKind.u64.wrap ((v : Int) * 16) = (V : Int) := by rw [wrapC v hr, hV]
            have hw2 : IntKind.u64.wrap ((V : Int) + (D : Int)) = (N : Int) := wrapN V D N hN (by omega)
            have hn1 : ¬ N < V := by omega
            have hn2 : ¬ Y < (N : Int) := by have := HY.out; omega
            have HN : BoxP (N = 16 * v + D ∧ N < 18446744073709551616) := ⟨by omega, by omega⟩
            clear hV hN hr
            clear hv hD
            go_wp2
            go_roundw
            case rel => exact ⟨q + 1, N, by omega, HN.out.2, rfl, rfl, congrArg (Value.int IntKind.i64) (by omega), Lib.hid (by rw [HN.out.1]; exact HP.out.step hlt HD.out), trivial⟩
            case measure => simp [intOf]; omega
          · have hri : X ≤ (v : Int) := by have := HX.out; omega
            have HB := Lib.hid (HP.out.bad hlt (fun _ _ _ h3 => by omega) 18446744073709551615 (by omega))
            clear hr hv
            go_wp2
            go_ret2
            exact ⟨⟨18446744073709551615, _, false, by rw [HY.out]; rfl, .inr ⟨rfl, .inl rfl⟩, HB.out⟩, hEc⟩
        · have hd : ∀ d', d' < 16 → s[q] = hexD d' → 97 ≤ c ∧ c ≤ 102 ∧ lowN c - 87 = d' := fun d' h1 h2 => by
            have h3 := HCC.out d' h1 h2
            split at h3
            · omega
            · have h4 := HLO.out (by omega) (by omega)
              omega
          have HD2 := Lib.hid hd
          have HD := Lib.hid (fun (d' : Nat) h1 h2 => (hd d' h1 h2).2.2)
          clear hd
          obtain ⟨L, hL⟩ : ∃ L, L = lowN c := ⟨_, rfl⟩
          have HLL := Lib.hid hL
          rw [← hL] at lo2 HD HD2 HLO
          clear hL
          by_cases h95 : c = 95
          · have hL95 : L = 127 := HLL.out.trans (by rw [h95]; decide)
            have hc95b : ((c : Int) == 95) = true := by rw [h95]; rfl
            have l1i : (97 : Int) ≤ (L : Int) := by omega
            have l2i : ¬ (L : Int) ≤ 122 := by omega
            have gci : (48 : Int) ≤ (c : Int) := by omega
            have gdi : ¬ (c : Int) ≤ 57 := by omega
            clear g1
            have HB := Lib.hid (HP.out.bad hlt (fun d' h1 h2 _ => by have h3 := HD2.out d' h1 h2; omega) 0 (by omega))
            clear hv
            clear h95 hL95
            go_wp2_with (first
              | (go_at_call 70; refine Hid.out ?_))
            refine Hid.mk_ ((lower_any c hc256).mono ?_)
            rintro e w9 ⟨rfl, rfl⟩
            rw [← HLL.out]
            go_wp2_with (first
              | (go_at_call 70; refine Hid.out ?_))
            refine Hid.mk_ ((lower_any c hc256).mono ?_)
            rintro e w9 ⟨rfl, rfl⟩
            rw [← HLL.out]
            go_wp2
            go_ret2
            exact ⟨⟨0, _, false, rfl, .inr ⟨rfl, .inr rfl⟩, HB.out⟩, hEc⟩
          have hc95 : ¬ (c : Int) = 95 := by omega
          have hc95b : ((c : Int) == 95) = false := beq_eq_false_iff_ne.2 hc95
          by_cases gc : 48 ≤ c
          · have gci : (48 : Int) ≤ (c : Int) := by omega
            have gdi : ¬ (c : Int) ≤ 57 := by omega
            clear g1
            by_cases l1 : 97 ≤ L
            · have l1i : (97 : Int) ≤ (L : Int) := by omega
              by_cases l2 : L ≤ 122
              · have l2i : (L : Int) ≤ 122 := by omega
                by_cases l3 : L ≤ 102
                · have l3i : (L : Int) ≤ 102 := by omega
                  by_cases hr : v < 1152921504606846976
                  · have hri : ¬ X ≤ (v : Int) := by have := HX.out; omega
                    obtain ⟨D, hD⟩ : ∃ D, D = L - 87 := ⟨_, rfl⟩
                    have hLD : (L : Int) - 97 + 10 = (D : Int) := by omega
                    have hD16 : (D : Int) < 16 := by omega
                    have HD := Lib.hid (fun (d' : Nat) h1 h2 => hD.trans (HD.out d' h1 h2))
                    obtain ⟨V, hV⟩ : ∃ V, V = 16 * v := ⟨_, rfl⟩
                    obtain ⟨N, hN⟩ : ∃ N, N = V + D := ⟨_, rfl⟩
                    have hw1 : IntKind.u64.wrap ((v : Int) * 16) = (V : Int) := by rw [wrapC v hr, hV]
                    have hw2 : IntKind.u64.wrap ((V : Int) + (D : Int)) = (N : Int) := wrapN V D N hN (by omega)
                    have hn1 : ¬ N < V := by omega
                    have hn2 : ¬ Y < (N : Int) := by have := HY.out; omega
                    have HN : BoxP (N = 16 * v + D ∧ N < 18446744073709551616) := ⟨by omega, by omega⟩
                    clear hV hN hr
                    clear hv hD
                    go_wp2_with (first
                      | (go_at_call 70; refine Hid.out ?_))
                    refine Hid.mk_ ((lower_any c hc256).mono ?_)
                    rintro e w9 ⟨rfl, rfl⟩
                    rw [← HLL.out]
                    go_wp2_with (first
                      | (go_at_call 70; refine Hid.out ?_))
                    refine Hid.mk_ ((lower_any c hc256).mono ?_)
                    rintro e w9 ⟨rfl, rfl⟩
                    rw [← HLL.out]
                    go_wp2_with (first
                      | (go_at_call 70; refine Hid.out ?_))
                    refine Hid.mk_ ((lower_any c hc256).mono ?_)
                    rintro e w9 ⟨rfl, rfl⟩
                    rw [← HLL.out]
                    go_wp2
                    go_roundw
                    case rel => exact ⟨q + 1, N, by omega, HN.out.2, rfl, rfl, congrArg (Value.int IntKind.i64) (by omega), Lib.hid (by rw [HN.out.1]; exact HP.out.step hlt HD.out), trivial⟩
                    case measure => simp [intOf]; omega
                  · have hri : X ≤ (v : Int) := by have := HX.out; omega
                    have HB := Lib.hid (HP.out.bad hlt (fun _ _ _ h3 => by omega) 18446744073709551615 (by omega))
                    clear hr hv
                    go_wp2_with (first
                      | (go_at_call 70; refine Hid.out ?_))
                    refine Hid.mk_ ((lower_any c hc256).mono ?_)
                    rintro e w9 ⟨rfl, rfl⟩
                    rw [← HLL.out]
                    go_wp2_with (first
                      | (go_at_call 70; refine Hid.out ?_))
                    refine Hid.mk_ ((lower_any c hc256).mono ?_)
                    rintro e w9 ⟨rfl, rfl⟩
                    rw [← HLL.out]
                    go_wp2_with (first
                      | (go_at_call 70; refine Hid.out ?_))
                    refine Hid.mk_ ((lower_any c hc256).mono ?_)
                    rintro e w9 ⟨rfl, rfl⟩
                    rw [← HLL.out]
                    go_wp2
                    go_ret2
                    exact ⟨⟨18446744073709551615, _, false, by rw [HY.out]; rfl, .inr ⟨rfl, .inl rfl⟩, HB.out⟩, hEc⟩
                · have l3i : ¬ (L : Int) ≤ 102 := by omega
                  have HB := Lib.hid (HP.out.bad hlt (fun d' h1 h2 _ => by have h3 := HD2.out d' h1 h2; have h4 := HLO.out h3.1 h3.2.1; omega) 0 (by omega))
                  clear hv
                  go_wp2_with (first
                    | (go_at_call 70; refine Hid.out ?_))
                  refine Hid.mk_ ((lower_any c hc256).mono ?_)
                  rintro e w9 ⟨rfl, rfl⟩
                  rw [← HLL.out]
                  go_wp2_with (first
                    | (go_at_call 70; refine Hid.out ?_))
                  refine Hid.mk_ ((lower_any c hc256).mono ?_)
                  rintro e w9 ⟨rfl, rfl⟩
                  rw [← HLL.out]
                  go_wp2_with (first
                    | (go_at_call 70; refine Hid.out ?_))
                  refine Hid.mk_ ((lower_any c hc256).mono ?_)
                  rintro e w9 ⟨rfl, rfl⟩
                  rw [← HLL.out]
                  go_wp2
                  go_ret2
                  exact ⟨⟨0, _, false, rfl, .inr ⟨rfl, .inr rfl⟩, HB.out⟩, hEc⟩
              · have l2i : ¬ (L : Int) ≤ 122 := by omega
                have HB := Lib.hid (HP.out.bad hlt (fun d' h1 h2 _ => by have h3 := HD2.out d' h1 h2; have h4 := HLO.out h3.1 h3.2.1; omega) 0 (by omega))
                clear hv
                go_wp2_with (first
                  | (go_at_call 70; refine Hid.out ?_))
                refine Hid.mk_ ((lower_any c hc256).mono ?_)
                rintro e w9 ⟨rfl, rfl⟩
                rw [← HLL.out]
                go_wp2_with (first
                  | (go_at_call 70; refine Hid.out ?_))
                refine Hid.mk_ ((lower_any c hc256).mono ?_)
                rintro e w9 ⟨rfl, rfl⟩
                rw [← HLL.out]
                go_wp2
                go_ret2
                exact ⟨⟨0, _, false, rfl, .inr ⟨rfl, .inr rfl⟩, HB.out⟩, hEc⟩
            · have l1i : ¬ (97 : Int) ≤ (L : Int) := by omega
              have HB := Lib.hid (HP.out.bad hlt (fun d' h1 h2 _ => by have h3 := HD2.out d' h1 h2; have h4 := HLO.out h3.1 h3.2.1; omega) 0 (by omega))
              clear hv
              go_wp2_with (first
                | (go_at_call 70; refine Hid.out ?_))
              refine Hid.mk_ ((lower_any c hc256).mono ?_)
              rintro e w9 ⟨rfl, rfl⟩
              rw [← HLL.out]
              go_wp2
              go_ret2
              exact ⟨⟨0, _, false, rfl, .inr ⟨rfl, .inr rfl⟩, HB.out⟩, hEc⟩
          · have gci : ¬ (48 : Int) ≤ (c : Int) := by omega
            clear g1
            by_cases l1 : 97 ≤ L
            · have l1i : (97 : Int) ≤ (L : Int) := by omega
              by_cases l2 : L ≤ 122
              · have l2i : (L : Int) ≤ 122 := by omega
                by_cases l3 : L ≤ 102
                · have l3i : (L : Int) ≤ 102 := by omega
                  by_cases hr : v < 1152921504606846976
                  · have hri : ¬ X ≤ (v : Int) := by have := HX.out; omega
                    obtain ⟨D, hD⟩ : ∃ D, D = L - 87 := ⟨_, rfl⟩
                    have hLD : (L : Int) - 97 + 10 = (D : Int) := by omega
                    have hD16 : (D : Int) < 16 := by omega
                    have HD := Lib.hid (fun (d' : Nat) h1 h2 => hD.trans (HD.out d' h1 h2))
                    obtain ⟨V, hV⟩ : ∃ V, V = 16 * v := ⟨_, rfl⟩
                    obtain ⟨N, hN⟩ : ∃ N, N = V + D := ⟨_, rfl⟩
                    have hw1 : IntKind.u64.wrap ((v : Int) * 16) = (V : Int) := by rw [wrapC v hr, hV]
                    have hw2 : IntKind.u64.wrap ((V : Int) + (D : Int)) = (N : Int) := wrapN V D N hN (by omega)
                    have hn1 : ¬ N < V := by omega
                    have hn2 : ¬ Y < (N : Int) := by have := HY.out; omega
                    have HN : BoxP (N = 16 * v + D ∧ N < 18446744073709551616) := ⟨by omega, by omega⟩
                    clear hV hN hr
                    clear hv hD
                    go_wp2_with (first
                      | (go_at_call 70; refine Hid.out ?_))
                    refine Hid.mk_ ((lower_any c hc256).mono ?_)
                    rintro e w9 ⟨rfl, rfl⟩
                    rw [← HLL.out]
                    go_wp2_with (first
                      | (go_at_call 70; refine Hid.out ?_))
                    refine Hid.mk_ ((lower_any c hc256).mono ?_)
                    rintro e w9 ⟨rfl, rfl⟩
                    rw [← HLL.out]
                    go_wp2_with (first
                      | (go_at_call 70; refine Hid.out ?_))
                    refine Hid.mk_ ((lower_any c hc256).mono ?_)
                    rintro e w9 ⟨rfl, rfl⟩
                    rw [← HLL.out]
                    go_wp2
                    go_roundw
                    case rel => exact ⟨q + 1, N, by omega, HN.out.2, rfl, rfl, congrArg (Value.int IntKind.i64) (by omega), Lib.hid (by rw [HN.out.1]; exact HP.out.step hlt HD.out), trivial⟩
                    case measure => simp [intOf]; omega
                  · have hri : X ≤ (v : Int) := by have := HX.out; omega
                    have HB := Lib.hid (HP.out.bad hlt (fun _ _ _ h3 => by omega) 18446744073709551615 (by omega))
                    clear hr hv
                    go_wp2_with (first
                      | (go_at_call 70; refine Hid.out ?_))
                    refine Hid.mk_ ((lower_any c hc256).mono ?_)
                    rintro e w9 ⟨rfl, rfl⟩
                    rw [← HLL.out]
                    go_wp2_with (first
                      | (go_at_call 70; refine Hid.out ?_))
                    refine Hid.mk_ ((lower_any c hc256).mono ?_)
                    rintro e w9 ⟨rfl, rfl⟩
                    rw [← HLL.out]
                    go_wp2_with (first
                      | (go_at_call 70; refine Hid.out ?_))
                    refine Hid.mk_ ((lower_any c hc256).mono ?_)
                    rintro e w9 ⟨rfl, rfl⟩
                    rw [← HLL.out]
                    go_wp2
                    go_ret2
                    exact ⟨⟨18446744073709551615, _, false, by rw [HY.out]; rfl, .inr ⟨rfl, .inl rfl⟩, HB.out⟩, hEc⟩
                · have l3i : ¬ (L : Int) ≤ 102 := by omega
                  have HB := Lib.hid (HP.out.bad hlt (fun d' h1 h2 _ => by have h3 := HD2.out d' h1 h2; have h4 := HLO.out h3.1 h3.2.1; omega) 0 (by omega))
                  clear hv
                  go_wp2_with (first
                    | (go_at_call 70; refine Hid.out ?_))
                  refine Hid.mk_ ((lower_any c hc256).mono ?_)
                  rintro e w9 ⟨rfl, rfl⟩
                  rw [← HLL.out]
                  go_wp2_with (first
                    | (go_at_call 70; refine Hid.out ?_))
                  refine Hid.mk_ ((lower_any c hc256).mono ?_)
                  rintro e w9 ⟨rfl, rfl⟩
                  rw [← HLL.out]
                  go_wp2_with (first
                    | (go_at_call 70; refine Hid.out ?_))
                  refine Hid.mk_ ((lower_any c hc256).mono ?_)
                  rintro e w9 ⟨rfl, rfl⟩
                  rw [← HLL.out]
                  go_wp2
                  go_ret2
                  exact ⟨⟨0, _, false, rfl, .inr ⟨rfl, .inr rfl⟩, HB.out⟩, hEc⟩
              · have l2i : ¬ (L : Int) ≤ 122 := by omega
                have HB := Lib.hid (HP.out.bad hlt (fun d' h1 h2 _ => by have h3 := HD2.out d' h1 h2; have h4 := HLO.out h3.1 h3.2.1; omega) 0 (by omega))
                clear hv
                go_wp2_with (first
                  | (go_at_call 70; refine Hid.out ?_))
                refine Hid.mk_ ((lower_any c hc256).mono ?_)
                rintro e w9 ⟨rfl, rfl⟩
                rw [← HLL.out]
                go_wp2_with (first
                  | (go_at_call 70; refine Hid.out ?_))
                refine Hid.mk_ ((lower_any c hc256).mono ?_)
                rintro e w9 ⟨rfl, rfl⟩
                rw [← HLL.out]
                go_wp2
                go_ret2
                exact ⟨⟨0, _, false, rfl, .inr ⟨rfl, .inr rfl⟩, HB.out⟩, hEc⟩
            · have l1i : ¬ (97 : Int) ≤ (L : Int) := by omega
              have HB := Lib.hid (HP.out.bad hlt (fun d' h1 h2 _ => by have h3 := HD2.out d' h1 h2; have h4 := HLO.out h3.1 h3.2.1; omega) 0 (by omega))
              clear hv
              go_wp2_with (first
                | (go_at_call 70; refine Hid.out ?_))
              refine Hid.mk_ ((lower_any c hc256).mono ?_)
              rintro e w9 ⟨rfl, rfl⟩
              rw [← HLL.out]
              go_wp2
              go_ret2
              exact ⟨⟨0, _, false, rfl, .inr ⟨rfl, .inr rfl⟩, HB.out⟩, hEc⟩
      · have hi1 : ¬ (q : Int) < (s.size : Int) := by omega
        have HDN := Lib.hid ((by rw [show q = s.size by omega] at HP; exact HP.out.done hv) : PUOk s v true)
        clear hv
        go_wp2
        go_ret2
        exact ⟨⟨v, _, true, rfl, .inl ⟨rfl, rfl⟩, HDN.out⟩, hEc⟩
end
end Go.Proofs.YtghndnacmpckbaaGreatDoor
