/- The reference's table of distances, and its similarity: what they compute. -/
import Derived.Test.YtcdpmgdocgddcaaDoorRefD
import Derived.BigRegion
import Derived.BigQuiet
namespace Go.Proofs.YtcdpmgdocgddcaaDoor
open Go.RowKit
set_option maxRecDepth 100000
attribute [local go_sem] ext_refl_t ext_alloc_t ext_drew_t ext_drewN_t ext_alloc2_t ext_alloc3_t ext_alloc4_t ext_alloc5_t ext_alloc6_t ext_alloc7_t ext_alloc8_t ext_alloc1d_t ext_alloc2d_t ext_alloc3d_t ext_alloc4d_t
theorem info_ints : (Tryd.prog.info? 85).map (fun i => (i.zero, i.size, i.bytes)) = some (some (.slice none 0 0), 1, 24) := by kernel_rfl
theorem make_rows (N : Nat) (hN : N ≤ 1000) : ∃ M : Array Value, M.size = N ∧ ∀ (W : World) (z : Int), z = N → (Instr.makeSlice 86 (.int .i64 z) (.int .i64 z)).run Tryd.prog W = .ok (.slice (some ⟨W.heap.size, 0, none⟩) N N) (W.alloc (.cells M 85)) := by
  obtain ⟨i0, hi, hz0, hz1, hz2⟩ := info_parts info_ints
  refine ⟨madeCells (Value.slice none 0 0).cells ((N : Int).toNat * i0.size), by rw [size_madeCells, hz1]; simp, fun W z hz => ?_⟩
  subst hz
  have h := run_makeSlice (P := Tryd.prog) W 86 85 i0 (.slice none 0 0) Tryd.underlying86 hi hz0 .i64 .i64 (N : Int) (N : Int) (by omega) (by omega) (by rw [hz1]; omega) (by rw [hz2]; omega) (by omega)
  simpa using h
theorem IRow.ext {w w' : World} {g N j : Nat} {f : Nat → Nat} (h : IRow w g N j f) (hE : Ext w w') : IRow w' g N j f := by
  obtain ⟨cs, hb, hs, hc⟩ := h
  exact ⟨cs, hb.below hE hb.lt, hs, hc⟩
theorem IRow.lt {w : World} {g N j : Nat} {f : Nat → Nat} (h : IRow w g N j f) : g < w.heap.size := by
  obtain ⟨cs, hb, _, _⟩ := h
  exact hb.lt
/-- A row of rows: the cells that are known. -/
def TRow (w : World) (g M i q N : Nat) : Prop := ∃ cs : Array Value, Blk w g 85 cs ∧ cs.size = M ∧ cs[i]? = some (.slice (some ⟨q, 0, none⟩) N N)
def TAny (w : World) (g M : Nat) : Prop := ∃ cs : Array Value, Blk w g 85 cs ∧ cs.size = M
section
variable {w w' : World} {g M i q N : Nat}
theorem TAny.old (h : TAny w g M) {k : Nat} (hk : k < M) : ∃ u, w.cell? ⟨g, k, none⟩ = some u := by
  obtain ⟨cs, hb, hs⟩ := h
  exact ⟨cs[k], by rw [hb.cell]; exact Array.getElem?_eq_getElem _⟩
theorem TAny.fz (h : TAny w g M) (k : Nat) : w.frozen? ⟨g, k, none⟩ = false := by
  obtain ⟨cs, hb, _⟩ := h
  exact hb.frozen k
theorem TAny.set (h : TAny w g M) (k : Nat) (v : Value) : TAny (w.setCell ⟨g, k, none⟩ v) g M := by
  obtain ⟨cs, hb, hs⟩ := h
  exact ⟨_, hb.set_ k v, by rw [Array.size_setIfInBounds]; exact hs⟩
theorem TAny.far (h : TAny w g M) {p : Addr} (hp : g ≠ p.block) (u : Value) : TAny (w.setCell p u) g M := by
  obtain ⟨cs, hb, hs⟩ := h
  exact ⟨cs, hb.far hp u, hs⟩
theorem TAny.ext (h : TAny w g M) (hE : Ext w w') : TAny w' g M := by
  obtain ⟨cs, hb, hs⟩ := h
  exact ⟨cs, hb.below hE hb.lt, hs⟩
theorem TAny.lt (h : TAny w g M) : g < w.heap.size := by obtain ⟨cs, hb, _⟩ := h; exact hb.lt
theorem TRow.c (h : TRow w g M i q N) : w.cell? ⟨g, i, none⟩ = some (.slice (some ⟨q, 0, none⟩) N N) := by
  obtain ⟨cs, hb, _, hc⟩ := h
  rw [hb.cell]
  exact hc
theorem TRow.any (h : TRow w g M i q N) : TAny w g M := by obtain ⟨cs, hb, hs, _⟩ := h; exact ⟨cs, hb, hs⟩
theorem TRow.far (h : TRow w g M i q N) {p : Addr} (hp : g ≠ p.block) (u : Value) : TRow (w.setCell p u) g M i q N := by
  obtain ⟨cs, hb, hs, hc⟩ := h
  exact ⟨cs, hb.far hp u, hs, hc⟩
theorem TRow.ext (h : TRow w g M i q N) (hE : Ext w w') : TRow w' g M i q N := by
  obtain ⟨cs, hb, hs, hc⟩ := h
  exact ⟨cs, hb.below hE hb.lt, hs, hc⟩
theorem TAny.put (h : TAny w g M) (hi : i < M) : TRow (w.setCell ⟨g, i, none⟩ (.slice (some ⟨q, 0, none⟩) N N)) g M i q N := by
  obtain ⟨cs, hb, hs⟩ := h
  refine ⟨_, hb.set_ i _, by rw [Array.size_setIfInBounds]; exact hs, ?_⟩
  rw [Array.getElem?_setIfInBounds, if_pos rfl, if_pos (by omega)]
theorem TRow.put (h : TRow w g M i q N) {k q' : Nat} (hk : k ≠ i) : TRow (w.setCell ⟨g, k, none⟩ (.slice (some ⟨q', 0, none⟩) N N)) g M i q N := by
  obtain ⟨cs, hb, hs, hc⟩ := h
  refine ⟨_, hb.set_ k _, by rw [Array.size_setIfInBounds]; exact hs, ?_⟩
  rw [Array.getElem?_setIfInBounds, if_neg hk]
  exact hc
end
/-- The row ahead of row i. -/
def PrvR (w0 w : World) (g M N i : Nat) (f : Nat → Nat → Nat) : Prop := i = 0 ∨ ∃ j p, i = j + 1 ∧ w0.heap.size ≤ p ∧ p ≠ g ∧ TRow w g M j p N ∧ IRow w p N N (f j)
/-- What Table gives. -/
def TabR (M N m n D : Nat) (w' : World) (e : Ending) : Prop := ∃ g p : Nat, e = .returned (.slice (some ⟨g, 0, none⟩) M M) ∧ w'.cell? ⟨g, m, none⟩ = some (.slice (some ⟨p, 0, none⟩) N N) ∧ w'.cell? ⟨p, n, none⟩ = some (.int .i64 (D : Nat))
section
variable {w : World}
set_option maxHeartbeats 12800000 in
theorem rtable_any {A B : Option Addr} {m n : Nat} (c d : Nat) {l1 l2 : List ByteArray} (h1 : SlC stC 1 w A m l1) (h2 : SlC stC 1 w B n l2) (hm : m ≤ 400) (hn : n ≤ 400) :
    Calls Tryd.prog 81 #[.slice A m c, .slice B n d] w fun e w' => TabR (m + 1) (n + 1) m n (dstL l1 l2 m n) w' e ∧ Ext w w' := by
  have H1 := Lib.hid h1
  have H2 := Lib.hid h2
  have HL1 := Lib.hid h1.len
  have HL2 := Lib.hid h2.len
  clear h1 h2
  obtain ⟨N, hNd⟩ : ∃ N, N = n + 1 := ⟨_, rfl⟩
  obtain ⟨M, hMd⟩ : ∃ M, M = m + 1 := ⟨_, rfl⟩
  rw [← hNd, ← hMd]
  have hN : N ≤ 401 := by omega
  have hM : M ≤ 401 := by omega
  obtain ⟨C1, hC1, hmk1⟩ := make_rows M (by omega)
  have hmkr := fun W => hmk1 W ((m : Int) + 1) (by omega)
  obtain ⟨C2, hC2, hmk2⟩ := make_ints N (by omega)
  have hmki := fun W => hmk2 W ((n : Int) + 1) (by omega)
  have hwn : IntKind.i64.wrap ((n : Int) + 1) = (n : Int) + 1 := IntWalk.i64_in _ (by omega)
  have hwm : IntKind.i64.wrap ((m : Int) + 1) = (m : Int) + 1 := IntWalk.i64_in _ (by omega)
  have HNd := Lib.hid hNd
  have HMd := Lib.hid hMd
  have HC1 := Lib.hid hC1
  have HC2 := Lib.hid hC2
  clear hNd hMd hmk1 hmk2 hC1 hC2
  obtain ⟨g, hg⟩ : ∃ g, g = w.heap.size := ⟨_, rfl⟩
  have HT0 : Hid (TAny (w.alloc (.cells C1 85)) g M) := ⟨C1, by rw [hg]; exact Blk.new w _ _, HC1.out⟩
  have HE0 : Hid (Ext w (w.alloc (.cells C1 85))) := (Ext.refl w).alloc _
  have HG : Hid (w.heap.size ≤ g) := by show _ ≤ _; omega
  go_enter Tryd.func81, Tryd.ntmps81
  go_upto_region 2 with fail
  rw [← hg]
  clear hg hmkr hwm
  go_wp2
  go_loopw [6] (fun v wr => ∃ i : Nat, i ≤ M ∧ v = .int .i64 i ∧ Hid (TAny wr g M) ∧ Hid (PrvR w wr g M N i (dstL l1 l2)) ∧ Hid (Ext w wr)) (fun v _ => M - (intOf v).toNat)
  case atStart => exact ⟨0, Nat.zero_le _, rfl, HT0.out, .inl rfl, HE0.out⟩
  case round =>
    obtain ⟨i, hi, rfl, HTA, HPR, HE⟩ := hrel
    by_cases hlt : i < M
    · have him : i ≤ m := by have := HMd.out; omega
      have i1 : (i : Int) ≤ (m : Int) := by omega
      have i2 : (i : Int) < (M : Int) := by omega
      obtain ⟨q, hq⟩ : ∃ q, q = wr.heap.size := ⟨_, rfl⟩
      have hEa : Ext wr (wr.alloc (.cells C2 3)) := (Ext.refl wr).alloc _
      have HQ0 : Hid (IRow (wr.alloc (.cells C2 3)) q N 0 (dstL l1 l2 i)) := by rw [hq]; exact IRow.new_ wr C2 HC2.out _
      have hgq : g ≠ q := by have := HTA.out.lt; omega
      have hwq : w.heap.size ≤ q := by rw [hq]; exact HE.out.size_le
      obtain ⟨u, hu⟩ := (HTA.out.ext hEa).old hlt
      have hf := (HTA.out.ext hEa).fz i
      have HQ1 : Hid (IRow ((wr.alloc (.cells C2 3)).setCell ⟨g, i, none⟩ (.slice (some ⟨q, 0, none⟩) N N)) q N 0 (dstL l1 l2 i)) := HQ0.out.far (p := ⟨g, i, none⟩) (Ne.symm hgq) _
      have HT1 : Hid (TRow ((wr.alloc (.cells C2 3)).setCell ⟨g, i, none⟩ (.slice (some ⟨q, 0, none⟩) N N)) g M i q N) := (HTA.out.ext hEa).put hlt
      have HP1 : Hid (i = 0 ∨ ∃ j p, i = j + 1 ∧ p ≠ q ∧ TRow ((wr.alloc (.cells C2 3)).setCell ⟨g, i, none⟩ (.slice (some ⟨q, 0, none⟩) N N)) g M j p N ∧ IRow ((wr.alloc (.cells C2 3)).setCell ⟨g, i, none⟩ (.slice (some ⟨q, 0, none⟩) N N)) p N N (dstL l1 l2 j)) := by
        rcases HPR.out with h0 | ⟨j, p, h0, h3, h4, h5, h6⟩
        · exact .inl h0
        · exact .inr ⟨j, p, h0, by have := h6.lt; omega, (h5.ext hEa).put (by omega), (h6.ext hEa).far (p := ⟨g, i, none⟩) h4 _⟩
      have HE1 : Hid (Ext w ((wr.alloc (.cells C2 3)).setCell ⟨g, i, none⟩ (.slice (some ⟨q, 0, none⟩) N N))) := (HE.out.trans hEa).set_ (p := ⟨g, i, none⟩) HG.out _
      have HNE : Hid (g ≠ q ∧ w.heap.size ≤ q) := ⟨hgq, hwq⟩
      clear hgq hwq hEa
      go_upto_region 6 with fail
      rw [← hq]
      clear hq hu hf HTA HPR HQ0
      go_wp2
      obtain ⟨wo, rfl⟩ : ∃ wo : World, wo = wr := ⟨_, rfl⟩
      rcases HP1.out with h0 | ⟨j, p, h0, hpq, hTp, hIp⟩
      · subst h0
        clear HP1
        go_loopw [7] (fun v wr => ∃ k : Nat, k ≤ N ∧ v = .int .i64 k ∧ Hid (TRow wr g M 0 q N) ∧ Hid (IRow wr q N k (dstL l1 l2 0)) ∧ Hid (Ext w wr)) (fun v _ => N - (intOf v).toNat)
        case atStart => exact ⟨0, Nat.zero_le _, rfl, HT1.out, HQ1.out, HE1.out⟩
        case round =>
          obtain ⟨k, hk, rfl, HTR, HQR, HEQ⟩ := hrel
          by_cases hkN : k < N
          · have hkn : (k : Int) ≤ (n : Int) := by have := HNd.out; omega
            have hk1 : (k : Int) < (N : Int) := by omega
            have cg := HTR.out.c
            obtain ⟨u, hu⟩ := HQR.out.old hkN
            have hf := HQR.out.fz k
            have HVAL : Hid (dstL l1 l2 0 k = k) := rfl
            have HQ2 : Hid (IRow (wr.setCell ⟨q, k, none⟩ (.int .i64 (k : Int))) q N (k + 1) (dstL l1 l2 0)) := HQR.out.set hkN rfl
            have HT2 : Hid (TRow (wr.setCell ⟨q, k, none⟩ (.int .i64 (k : Int))) g M 0 q N) := HTR.out.far (p := ⟨q, k, none⟩) HNE.out.1 _
            have HE2 : Hid (Ext w (wr.setCell ⟨q, k, none⟩ (.int .i64 (k : Int)))) := HEQ.out.set_ (p := ⟨q, k, none⟩) HNE.out.2 _
            go_wp2
            go_roundw
            case rel => exact ⟨k + 1, by omega, by go_num, HT2, HQ2, HE2⟩
            case measure => simp [intOf]; omega
          · have hkn : ¬ (k : Int) ≤ (n : Int) := by have := HNd.out; omega
            have hke : k = N := by omega
            rw [hke] at HQR
            clear hke
            have HTN : Hid (TAny wr g M) := HTR.out.any
            have HPN : Hid (PrvR w wr g M N 1 (dstL l1 l2)) := .inr ⟨0, q, rfl, HNE.out.2, Ne.symm HNE.out.1, HTR.out, HQR.out⟩
            go_wp2
            go_roundw
            case rel => exact ⟨1, by omega, by go_num, HTN, HPN, HEQ⟩
            case measure => simp [intOf]; omega
      · have HTp := Lib.hid hTp
        have HIp := Lib.hid hIp
        have HPQ := Lib.hid hpq
        have HIJ := Lib.hid h0
        have hj1 : IntKind.i64.wrap ((i : Int) - 1) = (j : Int) := by rw [IntWalk.i64_in _ (by omega)]; omega
        have hj3 : (j : Int) < (M : Int) := by omega
        have hj4 : (j : Int) < (m : Int) := by omega
        have hjm : j < m := by omega
        have hi0 : ((i : Int) == 0) = false := by rw [beq_eq_false_iff_ne]; omega
        have hi0' : ¬ (i : Int) = 0 := by omega
        clear hTp hIp hpq h0 HP1
        go_loopw [7] (fun v wr => ∃ k : Nat, k ≤ N ∧ v = .int .i64 k ∧ Hid (TRow wr g M i q N) ∧ Hid (IRow wr q N k (dstL l1 l2 i)) ∧ Hid (TRow wr g M j p N) ∧ Hid (IRow wr p N N (dstL l1 l2 j)) ∧ Hid (Ext w wr)) (fun v _ => N - (intOf v).toNat)
        case atStart => exact ⟨0, Nat.zero_le _, rfl, HT1.out, HQ1.out, HTp.out, HIp.out, HE1.out⟩
        case round =>
          obtain ⟨k, hk, rfl, HTR, HQR, HTP, HIP, HEQ⟩ := hrel
          by_cases hkN : k < N
          · have hkn : (k : Int) ≤ (n : Int) := by have := HNd.out; omega
            have hk1 : (k : Int) < (N : Int) := by omega
            rcases Nat.eq_zero_or_pos k with hk0 | hk0
            · subst hk0
              have HTR2 := HTR
              have HTP2 := HTP
              have HQR2 := HQR
              have HIP2 := HIP
              have HEQ2 := HEQ
              have cg := (HTR2.out).c
              have cp := (HTP2.out).c
              obtain ⟨u, hu⟩ := (HQR2.out).old hkN
              have hf := (HQR2.out).fz 0
              have hset : ∀ v : Int, v = (dstL l1 l2 i 0 : Nat) → Hid (IRow (wr.setCell ⟨q, 0, none⟩ (.int .i64 v)) q N (0 + 1) (dstL l1 l2 i)) := fun v hv => HQR2.out.set hkN hv
              have hfar : ∀ v : Int, Hid (TRow (wr.setCell ⟨q, 0, none⟩ (.int .i64 v)) g M i q N ∧ TRow (wr.setCell ⟨q, 0, none⟩ (.int .i64 v)) g M j p N ∧ IRow (wr.setCell ⟨q, 0, none⟩ (.int .i64 v)) p N N (dstL l1 l2 j)) := fun v => ⟨HTR2.out.far (p := ⟨q, 0, none⟩) HNE.out.1 _, HTP2.out.far (p := ⟨q, 0, none⟩) HNE.out.1 _, HIP2.out.far (p := ⟨q, 0, none⟩) HPQ.out _⟩
              have hext : ∀ v : Int, Hid (Ext w (wr.setCell ⟨q, 0, none⟩ (.int .i64 v))) := fun v => HEQ2.out.set_ (p := ⟨q, 0, none⟩) HNE.out.2 _
              have HQ2 := hset (i : Int) (by rw [dstL_sz])
              have HF2 := hfar (i : Int)
              have HE2 := hext (i : Int)
              clear hset hfar hext
              go_wp2
              go_roundw
              case rel => exact ⟨1, by omega, by go_num, HF2.out.1, HQ2, HF2.out.2.1, HF2.out.2.2, HE2⟩
              case measure => simp [intOf]; omega
            · obtain ⟨r, hr⟩ : ∃ r, k = r + 1 := ⟨k - 1, by omega⟩
              have hr1 : IntKind.i64.wrap ((k : Int) - 1) = (r : Int) := by rw [IntWalk.i64_in _ (by omega)]; omega
              have hr3 : (r : Int) < (N : Int) := by omega
              have hr4 : (r : Int) < (n : Int) := by have := HNd.out; omega
              have hrn : r < n := by have := HNd.out; omega
              have hk0b : ((k : Int) == 0) = false := by rw [beq_eq_false_iff_ne]; omega
              have hk0' : ¬ (k : Int) = 0 := by omega
              obtain ⟨bA, oA, eA, _, hcA⟩ := (H1.out.ext HEQ.out).at_ hjm (by omega)
              have hjl : j < l1.length := by rw [← HL1.out]; exact hjm
              obtain ⟨x, hx⟩ : ∃ x, x = l1[j] := ⟨_, rfl⟩
              have x0 := hcA j hjl 0 (by omega)
              simp only [← hx, stC, List.getElem_cons_zero, Nat.mul_one, Nat.add_zero] at x0
              obtain ⟨bB, oB, eB, _, hcB⟩ := (H2.out.ext HEQ.out).at_ hrn (by omega)
              have hrl : r < l2.length := by rw [← HL2.out]; exact hrn
              obtain ⟨y, hy⟩ : ∃ y, y = l2[r] := ⟨_, rfl⟩
              have y0 := hcB r hrl 0 (by omega)
              simp only [← hy, stC, List.getElem_cons_zero, Nat.mul_one, Nat.add_zero] at y0
              subst eA eB
              have HSS : Hid (dstL l1 l2 i k = if x = y then dstL l1 l2 j r else 1 + min (min (dstL l1 l2 j r) (dstL l1 l2 j k)) (dstL l1 l2 i r)) := by
                show _ = _
                rw [HIJ.out, hr, dstL_ss, List.getElem?_eq_getElem hjl, List.getElem?_eq_getElem hrl, ← hx, ← hy]
                simp
              have hb1 := dstL_le l1 l2 j r
              have hb2 := dstL_le l1 l2 j k
              have hb3 := dstL_le l1 l2 i r
              obtain ⟨a1, ha1⟩ : ∃ a1 : Nat, a1 = dstL l1 l2 j r := ⟨_, rfl⟩
              obtain ⟨a2, ha2⟩ : ∃ a2 : Nat, a2 = dstL l1 l2 j k := ⟨_, rfl⟩
              obtain ⟨a3, ha3⟩ : ∃ a3 : Nat, a3 = dstL l1 l2 i r := ⟨_, rfl⟩
              rw [← ha1, ← ha2, ← ha3] at HSS
              rw [← ha1] at hb1
              rw [← ha2] at hb2
              rw [← ha3] at hb3
              have hc1 : a1 ≤ 401 := by omega
              have hc2 : a2 ≤ 401 := by omega
              have hc3 : a3 ≤ 401 := by omega
              have HKR := Lib.hid hr
              have HA1 := Lib.hid ha1
              have HA2 := Lib.hid ha2
              have HA3 := Lib.hid ha3
              have hrN : r < N := by omega
              clear hcA hx hcB hy ha1 ha2 ha3 hb1 hb2 hb3 hr hjl hrl
              obtain ⟨t, ht⟩ : ∃ t, t = (x.toList == y.toList) := ⟨_, rfl⟩
              have HTT : Hid (t = decide (x = y)) := by
                show _ = _
                rw [ht, Bool.eq_iff_iff, decide_eq_true_eq, beq_iff_eq]
                exact toList_iff
              have ht' := ht.symm
              clear ht
              go_wp2
              go_quiet (fail)
              obtain ⟨W2, hW2⟩ : ∃ W2, W2 = wr.drewN nq := ⟨_, rfl⟩
              have hE12 : Ext wr W2 := by rw [hW2]; exact (Ext.refl _).drewN _
              rw [← hW2]
              have HTR2 := Lib.hid (HTR.out.ext hE12)
              have HTP2 := Lib.hid (HTP.out.ext hE12)
              have HQR2 := Lib.hid (HQR.out.ext hE12)
              have HIP2 := Lib.hid (HIP.out.ext hE12)
              have HEQ2 := Lib.hid (HEQ.out.trans hE12)
              clear hW2 hE12 ht' x0 y0 HTR HTP HQR HIP HEQ
              have cg := (HTR2.out).c
              have cp := (HTP2.out).c
              obtain ⟨u, hu⟩ := (HQR2.out).old hkN
              have hf := (HQR2.out).fz k
              have hset : ∀ v : Int, v = (dstL l1 l2 i k : Nat) → Hid (IRow (W2.setCell ⟨q, k, none⟩ (.int .i64 v)) q N (k + 1) (dstL l1 l2 i)) := fun v hv => HQR2.out.set hkN hv
              have hfar : ∀ v : Int, Hid (TRow (W2.setCell ⟨q, k, none⟩ (.int .i64 v)) g M i q N ∧ TRow (W2.setCell ⟨q, k, none⟩ (.int .i64 v)) g M j p N ∧ IRow (W2.setCell ⟨q, k, none⟩ (.int .i64 v)) p N N (dstL l1 l2 j)) := fun v => ⟨HTR2.out.far (p := ⟨q, k, none⟩) HNE.out.1 _, HTP2.out.far (p := ⟨q, k, none⟩) HNE.out.1 _, HIP2.out.far (p := ⟨q, k, none⟩) HPQ.out _⟩
              have hext : ∀ v : Int, Hid (Ext w (W2.setCell ⟨q, k, none⟩ (.int .i64 v))) := fun v => HEQ2.out.set_ (p := ⟨q, k, none⟩) HNE.out.2 _
              have z1 : W2.cell? ⟨p, r, none⟩ = some (.int .i64 (a1 : Int)) := by rw [HA1.out]; exact HIP2.out.c hrN
              cases t with
              | true =>
                have hxy : x = y := of_decide_eq_true HTT.out.symm
                have U1 := latersU z1
                clear z1
                have Ucg := latersU cg
                have Ucp := latersU cp
                clear hset hfar hext hu hf cg cp
                go_wp2
                refine wp_region_ext_tail 14 (by kernel_rfl) (by kernel_rfl) ?_
                simp only [List.take_succ_cons, List.take_zero, List.drop_succ_cons, List.drop_zero]
                repeat (go_big_quiet_step (fail))
                refine wpQuiet_nil ?_
                rintro w5 ⟨⟨_, h5⟩, rfl⟩
                try dsimp only
                clear Ucg Ucp
                have HTR3 := Lib.hid (HTR2.out.ext h5)
                have HTP3 := Lib.hid (HTP2.out.ext h5)
                have HQR3 := Lib.hid (HQR2.out.ext h5)
                have HIP3 := Lib.hid (HIP2.out.ext h5)
                have HEQ3 := Lib.hid (HEQ2.out.trans h5)
                clear h5 HTR2 HTP2 HQR2 HIP2 HEQ2
                have HTR2 := HTR3
                have HTP2 := HTP3
                have HQR2 := HQR3
                have HIP2 := HIP3
                have HEQ2 := HEQ3
                have cg := (HTR2.out).c
                have cp := (HTP2.out).c
                obtain ⟨u, hu⟩ := (HQR2.out).old hkN
                have hf := (HQR2.out).fz k
                have hset : ∀ v : Int, v = (dstL l1 l2 i k : Nat) → Hid (IRow (w5.setCell ⟨q, k, none⟩ (.int .i64 v)) q N (k + 1) (dstL l1 l2 i)) := fun v hv => HQR2.out.set hkN hv
                have hfar : ∀ v : Int, Hid (TRow (w5.setCell ⟨q, k, none⟩ (.int .i64 v)) g M i q N ∧ TRow (w5.setCell ⟨q, k, none⟩ (.int .i64 v)) g M j p N ∧ IRow (w5.setCell ⟨q, k, none⟩ (.int .i64 v)) p N N (dstL l1 l2 j)) := fun v => ⟨HTR2.out.far (p := ⟨q, k, none⟩) HNE.out.1 _, HTP2.out.far (p := ⟨q, k, none⟩) HNE.out.1 _, HIP2.out.far (p := ⟨q, k, none⟩) HPQ.out _⟩
                have hext : ∀ v : Int, Hid (Ext w (w5.setCell ⟨q, k, none⟩ (.int .i64 v))) := fun v => HEQ2.out.set_ (p := ⟨q, k, none⟩) HNE.out.2 _
                have HQ2 := hset (a1 : Int) (by rw [HSS.out, if_pos hxy])
                have HF2 := hfar (a1 : Int)
                have HE2 := hext (a1 : Int)
                clear hset hfar hext cg cp
                go_wp2
                go_roundw
                case rel => exact ⟨k + 1, by omega, by go_num, HF2.out.1, HQ2.out, HF2.out.2.1, HF2.out.2.2, HE2.out⟩
                case measure => simp [intOf]; omega
              | false =>
                have hxy : ¬ x = y := of_decide_eq_false HTT.out.symm
                have HV : Hid (dstL l1 l2 i k = 1 + min (min a1 a2) a3) := by show _ = _; rw [HSS.out, if_neg hxy]
                have z2 : W2.cell? ⟨p, k, none⟩ = some (.int .i64 (a2 : Int)) := by rw [HA2.out]; exact HIP2.out.c hkN
                have z3 : W2.cell? ⟨q, r, none⟩ = some (.int .i64 (a3 : Int)) := by rw [HA3.out]; exact HQR2.out.c (by have := HKR.out; omega)
                have U1 := latersU z1
                have U2 := latersU z2
                have U3 := latersU z3
                clear hxy z1 z2 z3
                by_cases h21 : a2 < a1
                · have j1 : (a2 : Int) < (a1 : Int) := by omega
                  by_cases h32 : a3 < a2
                  · have j2 : (a3 : Int) < (a2 : Int) := by omega
                    have q4 : IntKind.i64.wrap (1 + (a3 : Int)) = 1 + (a3 : Int) := IntWalk.i64_in _ (by omega)
                    have Ucg := latersU cg
                    have Ucp := latersU cp
                    clear hset hfar hext hu hf cg cp
                    go_wp2
                    refine wp_region_ext_tail 32 (by kernel_rfl) (by kernel_rfl) ?_
                    simp only [List.take_succ_cons, List.take_zero, List.drop_succ_cons, List.drop_zero]
                    repeat (go_big_quiet_step (fail))
                    refine wpQuiet_nil ?_
                    rintro w5 ⟨⟨_, h5⟩, rfl⟩
                    try dsimp only
                    clear Ucg Ucp
                    have HTR3 := Lib.hid (HTR2.out.ext h5)
                    have HTP3 := Lib.hid (HTP2.out.ext h5)
                    have HQR3 := Lib.hid (HQR2.out.ext h5)
                    have HIP3 := Lib.hid (HIP2.out.ext h5)
                    have HEQ3 := Lib.hid (HEQ2.out.trans h5)
                    clear h5 HTR2 HTP2 HQR2 HIP2 HEQ2
                    have HTR2 := HTR3
                    have HTP2 := HTP3
                    have HQR2 := HQR3
                    have HIP2 := HIP3
                    have HEQ2 := HEQ3
                    have cg := (HTR2.out).c
                    have cp := (HTP2.out).c
                    obtain ⟨u, hu⟩ := (HQR2.out).old hkN
                    have hf := (HQR2.out).fz k
                    have hset : ∀ v : Int, v = (dstL l1 l2 i k : Nat) → Hid (IRow (w5.setCell ⟨q, k, none⟩ (.int .i64 v)) q N (k + 1) (dstL l1 l2 i)) := fun v hv => HQR2.out.set hkN hv
                    have hfar : ∀ v : Int, Hid (TRow (w5.setCell ⟨q, k, none⟩ (.int .i64 v)) g M i q N ∧ TRow (w5.setCell ⟨q, k, none⟩ (.int .i64 v)) g M j p N ∧ IRow (w5.setCell ⟨q, k, none⟩ (.int .i64 v)) p N N (dstL l1 l2 j)) := fun v => ⟨HTR2.out.far (p := ⟨q, k, none⟩) HNE.out.1 _, HTP2.out.far (p := ⟨q, k, none⟩) HNE.out.1 _, HIP2.out.far (p := ⟨q, k, none⟩) HPQ.out _⟩
                    have hext : ∀ v : Int, Hid (Ext w (w5.setCell ⟨q, k, none⟩ (.int .i64 v))) := fun v => HEQ2.out.set_ (p := ⟨q, k, none⟩) HNE.out.2 _
                    have HQ2 := hset (1 + (a3 : Int)) (by rw [HV.out]; omega)
                    have HF2 := hfar (1 + (a3 : Int))
                    have HE2 := hext (1 + (a3 : Int))
                    clear hset hfar hext cg cp
                    go_wp2
                    go_roundw
                    case rel => exact ⟨k + 1, by omega, by go_num, HF2.out.1, HQ2.out, HF2.out.2.1, HF2.out.2.2, HE2.out⟩
                    case measure => simp [intOf]; omega
                  · have j2 : ¬ (a3 : Int) < (a2 : Int) := by omega
                    have q4 : IntKind.i64.wrap (1 + (a2 : Int)) = 1 + (a2 : Int) := IntWalk.i64_in _ (by omega)
                    have Ucg := latersU cg
                    have Ucp := latersU cp
                    clear hset hfar hext hu hf cg cp
                    go_wp2
                    refine wp_region_ext_tail 32 (by kernel_rfl) (by kernel_rfl) ?_
                    simp only [List.take_succ_cons, List.take_zero, List.drop_succ_cons, List.drop_zero]
                    repeat (go_big_quiet_step (fail))
                    refine wpQuiet_nil ?_
                    rintro w5 ⟨⟨_, h5⟩, rfl⟩
                    try dsimp only
                    clear Ucg Ucp
                    have HTR3 := Lib.hid (HTR2.out.ext h5)
                    have HTP3 := Lib.hid (HTP2.out.ext h5)
                    have HQR3 := Lib.hid (HQR2.out.ext h5)
                    have HIP3 := Lib.hid (HIP2.out.ext h5)
                    have HEQ3 := Lib.hid (HEQ2.out.trans h5)
                    clear h5 HTR2 HTP2 HQR2 HIP2 HEQ2
                    have HTR2 := HTR3
                    have HTP2 := HTP3
                    have HQR2 := HQR3
                    have HIP2 := HIP3
                    have HEQ2 := HEQ3
                    have cg := (HTR2.out).c
                    have cp := (HTP2.out).c
                    obtain ⟨u, hu⟩ := (HQR2.out).old hkN
                    have hf := (HQR2.out).fz k
                    have hset : ∀ v : Int, v = (dstL l1 l2 i k : Nat) → Hid (IRow (w5.setCell ⟨q, k, none⟩ (.int .i64 v)) q N (k + 1) (dstL l1 l2 i)) := fun v hv => HQR2.out.set hkN hv
                    have hfar : ∀ v : Int, Hid (TRow (w5.setCell ⟨q, k, none⟩ (.int .i64 v)) g M i q N ∧ TRow (w5.setCell ⟨q, k, none⟩ (.int .i64 v)) g M j p N ∧ IRow (w5.setCell ⟨q, k, none⟩ (.int .i64 v)) p N N (dstL l1 l2 j)) := fun v => ⟨HTR2.out.far (p := ⟨q, k, none⟩) HNE.out.1 _, HTP2.out.far (p := ⟨q, k, none⟩) HNE.out.1 _, HIP2.out.far (p := ⟨q, k, none⟩) HPQ.out _⟩
                    have hext : ∀ v : Int, Hid (Ext w (w5.setCell ⟨q, k, none⟩ (.int .i64 v))) := fun v => HEQ2.out.set_ (p := ⟨q, k, none⟩) HNE.out.2 _
                    have HQ2 := hset (1 + (a2 : Int)) (by rw [HV.out]; omega)
                    have HF2 := hfar (1 + (a2 : Int))
                    have HE2 := hext (1 + (a2 : Int))
                    clear hset hfar hext cg cp
                    go_wp2
                    go_roundw
                    case rel => exact ⟨k + 1, by omega, by go_num, HF2.out.1, HQ2.out, HF2.out.2.1, HF2.out.2.2, HE2.out⟩
                    case measure => simp [intOf]; omega
                · have j1 : ¬ (a2 : Int) < (a1 : Int) := by omega
                  by_cases h32 : a3 < a1
                  · have j2 : (a3 : Int) < (a1 : Int) := by omega
                    have q4 : IntKind.i64.wrap (1 + (a3 : Int)) = 1 + (a3 : Int) := IntWalk.i64_in _ (by omega)
                    have Ucg := latersU cg
                    have Ucp := latersU cp
                    clear hset hfar hext hu hf cg cp
                    go_wp2
                    refine wp_region_ext_tail 32 (by kernel_rfl) (by kernel_rfl) ?_
                    simp only [List.take_succ_cons, List.take_zero, List.drop_succ_cons, List.drop_zero]
                    repeat (go_big_quiet_step (fail))
                    refine wpQuiet_nil ?_
                    rintro w5 ⟨⟨_, h5⟩, rfl⟩
                    try dsimp only
                    clear Ucg Ucp
                    have HTR3 := Lib.hid (HTR2.out.ext h5)
                    have HTP3 := Lib.hid (HTP2.out.ext h5)
                    have HQR3 := Lib.hid (HQR2.out.ext h5)
                    have HIP3 := Lib.hid (HIP2.out.ext h5)
                    have HEQ3 := Lib.hid (HEQ2.out.trans h5)
                    clear h5 HTR2 HTP2 HQR2 HIP2 HEQ2
                    have HTR2 := HTR3
                    have HTP2 := HTP3
                    have HQR2 := HQR3
                    have HIP2 := HIP3
                    have HEQ2 := HEQ3
                    have cg := (HTR2.out).c
                    have cp := (HTP2.out).c
                    obtain ⟨u, hu⟩ := (HQR2.out).old hkN
                    have hf := (HQR2.out).fz k
                    have hset : ∀ v : Int, v = (dstL l1 l2 i k : Nat) → Hid (IRow (w5.setCell ⟨q, k, none⟩ (.int .i64 v)) q N (k + 1) (dstL l1 l2 i)) := fun v hv => HQR2.out.set hkN hv
                    have hfar : ∀ v : Int, Hid (TRow (w5.setCell ⟨q, k, none⟩ (.int .i64 v)) g M i q N ∧ TRow (w5.setCell ⟨q, k, none⟩ (.int .i64 v)) g M j p N ∧ IRow (w5.setCell ⟨q, k, none⟩ (.int .i64 v)) p N N (dstL l1 l2 j)) := fun v => ⟨HTR2.out.far (p := ⟨q, k, none⟩) HNE.out.1 _, HTP2.out.far (p := ⟨q, k, none⟩) HNE.out.1 _, HIP2.out.far (p := ⟨q, k, none⟩) HPQ.out _⟩
                    have hext : ∀ v : Int, Hid (Ext w (w5.setCell ⟨q, k, none⟩ (.int .i64 v))) := fun v => HEQ2.out.set_ (p := ⟨q, k, none⟩) HNE.out.2 _
                    have HQ2 := hset (1 + (a3 : Int)) (by rw [HV.out]; omega)
                    have HF2 := hfar (1 + (a3 : Int))
                    have HE2 := hext (1 + (a3 : Int))
                    clear hset hfar hext cg cp
                    go_wp2
                    go_roundw
                    case rel => exact ⟨k + 1, by omega, by go_num, HF2.out.1, HQ2.out, HF2.out.2.1, HF2.out.2.2, HE2.out⟩
                    case measure => simp [intOf]; omega
                  · have j2 : ¬ (a3 : Int) < (a1 : Int) := by omega
                    have q4 : IntKind.i64.wrap (1 + (a1 : Int)) = 1 + (a1 : Int) := IntWalk.i64_in _ (by omega)
                    have Ucg := latersU cg
                    have Ucp := latersU cp
                    clear hset hfar hext hu hf cg cp
                    go_wp2
                    refine wp_region_ext_tail 32 (by kernel_rfl) (by kernel_rfl) ?_
                    simp only [List.take_succ_cons, List.take_zero, List.drop_succ_cons, List.drop_zero]
                    repeat (go_big_quiet_step (fail))
                    refine wpQuiet_nil ?_
                    rintro w5 ⟨⟨_, h5⟩, rfl⟩
                    try dsimp only
                    clear Ucg Ucp
                    have HTR3 := Lib.hid (HTR2.out.ext h5)
                    have HTP3 := Lib.hid (HTP2.out.ext h5)
                    have HQR3 := Lib.hid (HQR2.out.ext h5)
                    have HIP3 := Lib.hid (HIP2.out.ext h5)
                    have HEQ3 := Lib.hid (HEQ2.out.trans h5)
                    clear h5 HTR2 HTP2 HQR2 HIP2 HEQ2
                    have HTR2 := HTR3
                    have HTP2 := HTP3
                    have HQR2 := HQR3
                    have HIP2 := HIP3
                    have HEQ2 := HEQ3
                    have cg := (HTR2.out).c
                    have cp := (HTP2.out).c
                    obtain ⟨u, hu⟩ := (HQR2.out).old hkN
                    have hf := (HQR2.out).fz k
                    have hset : ∀ v : Int, v = (dstL l1 l2 i k : Nat) → Hid (IRow (w5.setCell ⟨q, k, none⟩ (.int .i64 v)) q N (k + 1) (dstL l1 l2 i)) := fun v hv => HQR2.out.set hkN hv
                    have hfar : ∀ v : Int, Hid (TRow (w5.setCell ⟨q, k, none⟩ (.int .i64 v)) g M i q N ∧ TRow (w5.setCell ⟨q, k, none⟩ (.int .i64 v)) g M j p N ∧ IRow (w5.setCell ⟨q, k, none⟩ (.int .i64 v)) p N N (dstL l1 l2 j)) := fun v => ⟨HTR2.out.far (p := ⟨q, k, none⟩) HNE.out.1 _, HTP2.out.far (p := ⟨q, k, none⟩) HNE.out.1 _, HIP2.out.far (p := ⟨q, k, none⟩) HPQ.out _⟩
                    have hext : ∀ v : Int, Hid (Ext w (w5.setCell ⟨q, k, none⟩ (.int .i64 v))) := fun v => HEQ2.out.set_ (p := ⟨q, k, none⟩) HNE.out.2 _
                    have HQ2 := hset (1 + (a1 : Int)) (by rw [HV.out]; omega)
                    have HF2 := hfar (1 + (a1 : Int))
                    have HE2 := hext (1 + (a1 : Int))
                    clear hset hfar hext cg cp
                    go_wp2
                    go_roundw
                    case rel => exact ⟨k + 1, by omega, by go_num, HF2.out.1, HQ2.out, HF2.out.2.1, HF2.out.2.2, HE2.out⟩
                    case measure => simp [intOf]; omega
          · have hkn : ¬ (k : Int) ≤ (n : Int) := by have := HNd.out; omega
            have hke : k = N := by omega
            rw [hke] at HQR
            clear hke
            have HTN : Hid (TAny wr g M) := HTR.out.any
            have HPN : Hid (PrvR w wr g M N (i + 1) (dstL l1 l2)) := .inr ⟨i, q, rfl, HNE.out.2, Ne.symm HNE.out.1, HTR.out, HQR.out⟩
            go_wp2
            go_roundw
            case rel => exact ⟨i + 1, by omega, by go_num, HTN, HPN, HEQ⟩
            case measure => simp [intOf]; omega
    · have i1 : ¬ (i : Int) ≤ (m : Int) := by have := HMd.out; omega
      rcases HPR.out with h0 | ⟨j, p, h0, h3, h4, h5, h6⟩
      · exact absurd h0 (by have := HMd.out; omega)
      · have hjm : j = m := by have := HMd.out; omega
        subst hjm
        have hz1 := h5.c
        have hz2 := h6.c (show n < N by have := HNd.out; omega)
        have HR : Hid (TabR M N j n (dstL l1 l2 j n) wr (.returned (.slice (some ⟨g, 0, none⟩) M M)) ∧ Ext w wr) := ⟨⟨g, p, rfl, hz1, hz2⟩, HE.out⟩
        clear h0 h3 h4 h5 h6 hz1 hz2
        go_wp2
        go_ret
        exact HR.out
set_option maxHeartbeats 1600000 in
theorem rlong_any {A B : Option Addr} {m n : Nat} (c d : Nat) : Calls Tryd.prog 63 #[.slice A m c, .slice B n d] w fun e w' => e = .returned (.bool (decide (400 < m ∨ 400 < n))) ∧ w = w' := by
  by_cases h1 : 400 < m
  · have i1 : (400 : Int) < (m : Int) := by omega
    rw [decide_eq_true (.inl h1)]
    clear h1
    go_enter Tryd.func63, Tryd.ntmps63
    go_wp2
    go_ret
    exact ⟨rfl, rfl⟩
  · have i1 : ¬ (400 : Int) < (m : Int) := by omega
    by_cases h2 : 400 < n
    · have i2 : (400 : Int) < (n : Int) := by omega
      rw [decide_eq_true (.inr h2)]
      clear h1 h2
      go_enter Tryd.func63, Tryd.ntmps63
      go_wp2
      go_ret
      exact ⟨rfl, rfl⟩
    · have i2 : ¬ (400 : Int) < (n : Int) := by omega
      rw [decide_eq_false (by omega)]
      clear h1 h2
      go_enter Tryd.func63, Tryd.ntmps63
      go_wp2
      go_ret
      exact ⟨rfl, rfl⟩
set_option maxHeartbeats 3200000 in
theorem rdist_any {A B : Option Addr} {m n : Nat} (c d : Nat) {l1 l2 : List ByteArray} (h1 : SlC stC 1 w A m l1) (h2 : SlC stC 1 w B n l2) (hm : m ≤ 400) (hn : n ≤ 400) :
    Calls Tryd.prog 64 #[.slice A m c, .slice B n d] w fun e w' => e = .returned (.int .i64 (dstL l1 l2 m n : Nat)) ∧ Ext w w' := by
  have HT := Lib.hid (rtable_any c d h1 h2 hm hn)
  have hlg := rlong_any (w := w) (A := A) (B := B) (m := m) (n := n) c d
  rw [decide_eq_false (by omega)] at hlg
  obtain ⟨D, hD⟩ : ∃ D, D = dstL l1 l2 m n := ⟨_, rfl⟩
  rw [← hD] at HT ⊢
  have i1 : (m : Int) < ((m + 1 : Nat) : Int) := by omega
  have i2 : (n : Int) < ((n + 1 : Nat) : Int) := by omega
  clear h1 h2 hD
  go_enter Tryd.func64, Tryd.ntmps64
  go_wp2_with (first
    | (go_at_call 63; refine Hid.out ?_))
  refine Hid.mk_ ((hlg).mono ?_)
  rintro e w1 ⟨rfl, rfl⟩
  go_wp2_with (first
    | (go_at_call 81; refine Hid.out ?_))
  refine Hid.mk_ ((HT.out).mono ?_)
  rintro e w2 ⟨⟨g, p, rfl, hz1, hz2⟩, hE⟩
  clear hlg
  go_wp2
  go_ret
  exact ⟨rfl, hE⟩
set_option maxHeartbeats 3200000 in
theorem rsimilar_any {A B : Option Addr} {m n : Nat} (c d : Nat) {l1 l2 : List ByteArray} (h1 : SlC stC 1 w A m l1) (h2 : SlC stC 1 w B n l2) :
    Calls Tryd.prog 41 #[.slice A m c, .slice B n d] w fun e w' => e = .returned (.int .i64 (simL l1 l2)) ∧ Ext w w' := by
  have hl1 := h1.len
  have hl2 := h2.len
  have hm6 := h1.le
  have hn6 := h2.le
  have hlg := rlong_any (w := w) (A := A) (B := B) (m := m) (n := n) c d
  by_cases hb : 400 < m ∨ 400 < n
  · have HS : Hid (simL l1 l2 = -1) := by show _ = _; unfold simL; rw [← hl1, ← hl2, if_pos hb]
    rw [decide_eq_true hb] at hlg
    clear hl1 hl2 h1 h2 hb
    go_enter Tryd.func41, Tryd.ntmps41
    go_wp2_with (first
      | (go_at_call 63; refine Hid.out ?_))
    refine Hid.mk_ ((hlg).mono ?_)
    rintro e w1 ⟨rfl, rfl⟩
    go_wp2
    go_ret
    exact ⟨by rw [HS.out]; first | done | rfl, Ext.refl _⟩
  · have hm4 : m ≤ 400 := by omega
    have hn4 : n ≤ 400 := by omega
    have hdl := dstL_le l1 l2 m n
    rw [decide_eq_false hb] at hlg
    have HD : Hid (∀ W, Ext w W → Calls Tryd.prog 64 #[.slice A m c, .slice B n d] W fun e w' => e = .returned (.int .i64 (dstL l1 l2 m n : Nat)) ∧ Ext W w') := fun W hE => rdist_any c d (h1.ext hE) (h2.ext hE) hm4 hn4
    have HS0 : Hid (simL l1 l2 = if max m n = 0 then 1000 else (((max m n - dstL l1 l2 m n) * 1000 / max m n : Nat) : Int)) := by show _ = _; unfold simL; rw [← hl1, ← hl2, if_neg hb]
    obtain ⟨D, hD⟩ : ∃ D, D = dstL l1 l2 m n := ⟨_, rfl⟩
    rw [← hD] at HD HS0 hdl
    clear hD hl1 hl2 h1 h2 hb hm6 hn6
    obtain ⟨X, hX⟩ : ∃ X, X = max m n := ⟨_, rfl⟩
    rw [← hX] at HS0 hdl
    have hX4 : X ≤ 400 := by omega
    by_cases hmn : m < n
    · have i1 : (m : Int) < (n : Int) := by omega
      obtain rfl : X = n := by omega
      have hmx : max (m : Int) (X : Int) = (X : Int) := by omega
      clear hX hmn
      by_cases h0 : X = 0
      · have e1 : ((X : Int) == 0) = true := by rw [h0]; rfl
        have HS : Hid (simL l1 l2 = 1000) := by show _ = _; rw [HS0.out, if_pos h0]
        clear HS0 h0
        go_enter Tryd.func41, Tryd.ntmps41
        go_wp2_with (first
          | (go_at_call 63; refine Hid.out ?_))
        refine Hid.mk_ ((hlg).mono ?_)
        rintro e w1 ⟨rfl, rfl⟩
        go_wp2
        go_ret
        exact ⟨by rw [HS.out]; first | done | rfl, Ext.refl _⟩
      · have e1 : ((X : Int) == 0) = false := by rw [beq_eq_false_iff_ne]; omega
        have e2 : ¬ (X : Int) = 0 := by omega
        have e3 : (0 : Int) < (X : Int) := by omega
        have HS : Hid (simL l1 l2 = (((X - D) * 1000 / X : Nat) : Int)) := by show _ = _; rw [HS0.out, if_neg h0]
        obtain ⟨q, hq⟩ : ∃ q : Nat, q = X - D := ⟨_, rfl⟩
        have hqI : (X : Int) - (D : Int) = (q : Int) := by omega
        rw [← hq] at HS
        have hq4 : q ≤ 400 := by omega
        have hqw : IntKind.i64.wrap (1000 * (q : Int)) = 1000 * (q : Int) := IntWalk.i64_in _ (by omega)
        obtain ⟨v, hv⟩ : ∃ v : Nat, v = q * 1000 / X := ⟨_, rfl⟩
        rw [← hv] at HS
        have hvI : (1000 * (q : Int)).tdiv (X : Int) = (v : Int) := by rw [hv, Int.tdiv_eq_ediv_of_nonneg (by omega), Int.mul_comm]; simp
        have hvI2 : (1000 * (q : Int)) / (X : Int) = (v : Int) := by rw [hv, Int.mul_comm]; simp
        have hv4 : v ≤ 400000 := by rw [hv]; exact Nat.le_trans (Nat.div_le_self _ _) (by omega)
        clear HS0 h0 hq hv
        go_enter Tryd.func41, Tryd.ntmps41
        go_wp2_with (first
          | (go_at_call 63; refine Hid.out ?_))
        refine Hid.mk_ ((hlg).mono ?_)
        rintro e w1 ⟨rfl, rfl⟩
        go_wp2_with (first
          | (go_at_call 64; refine Hid.out ?_))
        refine Hid.mk_ ((HD.out _ (Ext.refl _)).mono ?_)
        rintro e w1 ⟨rfl, hE1⟩
        go_wp2
        go_ret
        exact ⟨by rw [HS.out]; first | done | rfl, hE1⟩
    · have i1 : ¬ (m : Int) < (n : Int) := by omega
      obtain rfl : X = m := by omega
      have hmx : max (X : Int) (n : Int) = (X : Int) := by omega
      clear hX hmn
      by_cases h0 : X = 0
      · have e1 : ((X : Int) == 0) = true := by rw [h0]; rfl
        have HS : Hid (simL l1 l2 = 1000) := by show _ = _; rw [HS0.out, if_pos h0]
        clear HS0 h0
        go_enter Tryd.func41, Tryd.ntmps41
        go_wp2_with (first
          | (go_at_call 63; refine Hid.out ?_))
        refine Hid.mk_ ((hlg).mono ?_)
        rintro e w1 ⟨rfl, rfl⟩
        go_wp2
        go_ret
        exact ⟨by rw [HS.out]; first | done | rfl, Ext.refl _⟩
      · have e1 : ((X : Int) == 0) = false := by rw [beq_eq_false_iff_ne]; omega
        have e2 : ¬ (X : Int) = 0 := by omega
        have e3 : (0 : Int) < (X : Int) := by omega
        have HS : Hid (simL l1 l2 = (((X - D) * 1000 / X : Nat) : Int)) := by show _ = _; rw [HS0.out, if_neg h0]
        obtain ⟨q, hq⟩ : ∃ q : Nat, q = X - D := ⟨_, rfl⟩
        have hqI : (X : Int) - (D : Int) = (q : Int) := by omega
        rw [← hq] at HS
        have hq4 : q ≤ 400 := by omega
        have hqw : IntKind.i64.wrap (1000 * (q : Int)) = 1000 * (q : Int) := IntWalk.i64_in _ (by omega)
        obtain ⟨v, hv⟩ : ∃ v : Nat, v = q * 1000 / X := ⟨_, rfl⟩
        rw [← hv] at HS
        have hvI : (1000 * (q : Int)).tdiv (X : Int) = (v : Int) := by rw [hv, Int.tdiv_eq_ediv_of_nonneg (by omega), Int.mul_comm]; simp
        have hvI2 : (1000 * (q : Int)) / (X : Int) = (v : Int) := by rw [hv, Int.mul_comm]; simp
        have hv4 : v ≤ 400000 := by rw [hv]; exact Nat.le_trans (Nat.div_le_self _ _) (by omega)
        clear HS0 h0 hq hv
        go_enter Tryd.func41, Tryd.ntmps41
        go_wp2_with (first
          | (go_at_call 63; refine Hid.out ?_))
        refine Hid.mk_ ((hlg).mono ?_)
        rintro e w1 ⟨rfl, rfl⟩
        go_wp2_with (first
          | (go_at_call 64; refine Hid.out ?_))
        refine Hid.mk_ ((HD.out _ (Ext.refl _)).mono ?_)
        rintro e w1 ⟨rfl, hE1⟩
        go_wp2
        go_ret
        exact ⟨by rw [HS.out]; first | done | rfl, hE1⟩
end
end Go.Proofs.YtcdpmgdocgddcaaDoor
