/- The reference's Bytes. -/
import Derived.Test.YtoghaehcmbonnaaGreatDoorJrnN
import Derived.Test.YtoghaehcmbonnaaGreatDoorJrnG
import Derived.Lib.SlBytesConst
namespace Go.Proofs.YtoghaehcmbonnaaGreatDoor
open Go.RowKit
set_option maxRecDepth 100000
attribute [local go_sem] ext_refl_t ext_alloc_t ext_drew_t ext_drewN_t ext_alloc2_t ext_alloc3_t ext_alloc4_t ext_alloc5_t ext_alloc6_t ext_alloc7_t ext_alloc8_t ext_alloc1d_t ext_alloc2d_t ext_alloc3d_t ext_alloc4d_t
theorem seal_drop (u : List UInt8) (k : Nat) (e : List UInt8) : (u ++ sealL k e).drop ((u ++ sealL k e).length - 8) = eightL (sealN k e) := by
  unfold sealL
  have h : (u ++ (e ++ eightL (sealN k e))).length - 8 = (u ++ e).length := by
    rw [List.length_append, List.length_append, eightL_len, List.length_append]
    omega
  rw [h, ← List.append_assoc, List.drop_left]
/-- append(s, x...) where s is full: a new row. -/
theorem wp_appFullJ {w : World} {o : Oper} {a : Act} {K : Act → World → Prop} {Q : Exit → Act → World → Prop} (s x : Operand)
    (ho : o.op = .call { callee := .builtin .append, args := #[s, x], argTypes := #[22, 22] })
    {A : Option Addr} {m c : Nat} {l : List UInt8} (hold : SlB w A m l) (hs : a.eval s = .slice A m c) (hm : 0 < m)
    {B : Option Addr} {n d : Nat} {news : List UInt8} (hr : SlB w B n news) (hx : a.eval x = .slice B n d) (hn : 0 < n) (hfull : c < m + n)
    (hb : m + n ≤ 140737488355328)
    (h : ∀ A' m' c' w', OsB w' w.heap.size A' m' c' (l ++ news) → Ext w w' → K (a.put o.dst (.slice A' m' c')) w') : o.wp Tryz.prog a w K Q := by
  obtain ⟨i0, hi0, hz0, hz1, hz2⟩ := info_parts info_u8
  obtain ⟨ad, hA, _, hc1⟩ := hold.rd.2 hm
  obtain ⟨bd, hB, _, hc2⟩ := hr.rd.2 hn
  subst hA hB
  obtain ⟨v', w', hrun, r1, r2⟩ := run_append_arg_grows (P := Tryz.prog) w 22 o.type 5 i0 _ 1 1 Tryz.underlying22 hi0 hz0 hz1 hz2 rfl (by omega) ad m c (l.map bv) (by rw [List.length_map, Nat.mul_one]; exact hold.len.symm) hc1 bd n d (news.map bv) (by rw [List.length_map, Nat.mul_one]; exact hr.len.symm) hc2 hfull (by simp only [maxLen]; omega) (by omega)
  unfold Oper.wp
  simp [execOp, ho, resolve, invoke, builtin, hs, hx, hrun, Result.andThen]
  have hv : ∃ A' c', v' = .slice A' (m + n) c' := by
    rcases r1.2 with ⟨rfl, h0⟩ | ⟨g, cap, cur, rfl, _⟩
    · exact ⟨none, 0, by rw [h0]⟩
    · exact ⟨_, _, rfl⟩
  obtain ⟨A', c', rfl⟩ := hv
  exact h A' (m + n) c' w' ⟨by rw [List.map_append]; exact r1, by rw [List.length_append, hold.len, hr.len], hb⟩ (Ext.of_grown r2)
/-- append onto a row of the call's own, or onto a slice that is full. -/
theorem appEi {w : World} {ops : Array Oper} {rest : List Oper} {o : Oper} {a : Act} {Q : Exit → Act → World → Prop} (hgd : Region.wanted o (yielded ops a.tmps) = true) (s x : Operand)
    (ho : o.op = .call { callee := .builtin .append, args := #[s, x], argTypes := #[22, 22] })
    {base : Nat} {A : Option Addr} {m c : Nat} {l : List UInt8} (hold : OsB w base A m c l ∨ (SlB w A m l ∧ c = m ∧ 0 < m)) (hs : a.eval s = .slice A m c)
    {B : Option Addr} {n d : Nat} {news : List UInt8} (hr : SlB w B n news) (hx : a.eval x = .slice B n d) (hn : 0 < n)
    (hb : m + n ≤ 140737488355328) (hbase : base ≤ w.heap.size)
    (h : ∀ A' m' c' w', OsB w' base A' m' c' (l ++ news) → Below base w w' → wpList Tryz.prog ops Q rest (a.put o.dst (.slice A' m' c')) w') : wpList Tryz.prog ops Q (o :: rest) a w := by
  rcases hold with hown | ⟨hold, hc, hm⟩
  · exact appB hgd s x ho hown hs hr hx hb hbase fun A' m' c' w' h1 h2 _ => h A' m' c' w' h1 (Below.grown (Below.refl _ _) h2 hbase fun k hk => hown.ge k hk)
  · exact BigFrame.wpList_want hgd fun _ hK => wp_appFullJ s x ho hold hs hm hr hx hn (by omega) hb fun A' m' c' w' h1 h2 => hK _ _ (h A' m' c' w' (h1.mono hbase) (Below.mono h2 hbase))
theorem magicJ_sl (w : World) (fr : Nat × Nat) : SlB (w.alloc (.cells #[.int .u8 67, .int .u8 81, .int .u8 74, .int .u8 49, .int .u8 10] 5 fr)) (some ⟨w.heap.size, 0, none⟩) 5 magicL :=
  SlB.new_ w magicL (by decide) _ rfl fr 5 rfl _
theorem magicJ_conv (w : World) : (convert 22 22 (.slice (some ⟨w.heap.size, 0, none⟩) 5 5)).run Tryz.prog (w.alloc (.cells #[.int .u8 67, .int .u8 81, .int .u8 74, .int .u8 49, .int .u8 10] 5)) = .ok (.slice (some ⟨w.heap.size, 0, none⟩) 5 5) (w.alloc (.cells #[.int .u8 67, .int .u8 81, .int .u8 74, .int .u8 49, .int .u8 10] 5 (5, 6))) :=
  Lib.run_convert_bytes_const w 22 5 #[.int .u8 67, .int .u8 81, .int .u8 74, .int .u8 49, .int .u8 10] 5 5 Tryz.underlying22 Tryz.underlying5
section
variable {w : World}
set_option maxHeartbeats 3200000 in
theorem rbytes40_any {A : Option Addr} {m : Nat} (c : Nat) {l : List Ev} (hs : SlC evC 8 w A m l) (hff : (∀ x ∈ l, sumE x ≤ 2000) ∧ l.length ≤ 40) (hg : ∀ x ∈ l, GoodE x) :
    Calls Tryz.prog 17 #[.slice A m c] w fun e w' => ∃ A' m' c', e = .returned (.slice A' m' c') ∧ SlB w' A' m' (runJ l).bs ∧ m' ≤ c' ∧ Ext w w' := by
  have HL := Lib.hid hs.len
  have HFF := Lib.hid hff
  have HG := Lib.hid hg
  have hm20 : m ≤ 40 := by rw [HL.out]; exact hff.2
  clear hff hg
  have hcv := magicJ_conv w
  have HNEW := Lib.hid (magicJ_sl w (5, 6))
  have HE1 : Hid (Ext w (w.alloc (Obj.cells #[.int .u8 67, .int .u8 81, .int .u8 74, .int .u8 49, .int .u8 10] 5 (5, 6)))) := (Ext.refl w).alloc _
  go_enter Tryz.func17, Tryz.ntmps17
  go_wp2
  clear hcv
  go_loopw [3, 4, 5] (fun v kk i wr => ∃ (q : Nat) (Ao : Option Addr) (mo co : Nat), q ≤ m ∧ v = .slice Ao mo co ∧ kk = .int .u64 ((runJ (l.take q)).k : Nat) ∧ i = .int .i64 q ∧ Hid (OsB wr w.heap.size Ao mo co (runJ (l.take q)).bs ∨ (SlB wr Ao mo (runJ (l.take q)).bs ∧ co = mo ∧ 0 < mo)) ∧ Hid (Ext w wr)) (fun _ _ i _ => m - (intOf i).toNat)
  case atStart => exact ⟨0, _, 5, 5, Nat.zero_le _, rfl, rfl, rfl, .inr ⟨HNEW.out, rfl, by decide⟩, HE1.out⟩
  case round =>
    obtain ⟨q, Ao, mo, co, hq, rfl, rfl, rfl, HO, HE⟩ := hrel
    by_cases hlt : q < m
    · obtain ⟨bq, off, eA, hbl, hcs⟩ := (hs.ext HE.out).at_ hlt (by omega)
      subst eA
      have hlt1 : q < l.length := by rw [← HL.out]; exact hlt
      obtain ⟨x, hx⟩ : ∃ x, x = l[q] := ⟨_, rfl⟩
      have HMT : Hid (l.take (q + 1) = l.take q ++ [x]) := by show _ = _; rw [hx, List.take_succ_eq_append_getElem hlt1]
      have hxg : GoodE x := by rw [hx]; exact HG.out _ (List.getElem_mem hlt1)
      have hxf : sumE x ≤ 2000 := by rw [hx]; exact HFF.out.1 _ (List.getElem_mem hlt1)
      have hok := runJ_ok (l.take q) (fun y hy => HFF.out.1 y (List.mem_of_mem_take hy))
      have hlq : (l.take q).length = q := by rw [List.length_take]; omega
      rw [hlq] at hok
      obtain ⟨o1, _, _, o4, o5⟩ := hok
      have hel := encE_len x
      obtain ⟨st, hst⟩ : ∃ st, st = runJ (l.take q) := ⟨_, rfl⟩
      rw [← hst] at o1 o4 o5 HO ⊢
      have HFR : Hid (∀ W : World, Calls Tryz.prog 31 #[evV x, .int .u64 st.k] W fun e w' => ∃ A m c, e = .returned (.slice A m c) ∧ SlB w' A m (frameH (encE x).length ++ sealL st.k (encE x)) ∧ Ext W w') := fun W => rframe_any x hxg hxf st.k o1
      have HNX : Hid (runJ (l.take (q + 1)) = stepJ st x) := by show _ = _; rw [HMT.out, runJ_snoc, hst]
      unfold sumE at hxf
      have hfl : (frameH (encE x).length ++ sealL st.k (encE x)).length ≤ 3000 := by rw [List.length_append, frameH_length, sealL_len]; omega
      have hsn : sealN st.k (encE x) < 18446744073709551616 := seal_lt o1 _
      have hmoe : mo = st.bs.length := HO.out.elim (fun h => h.len) fun h => h.1.len
      have HMO := Lib.hid hmoe
      have hmo : mo ≤ 100000 := by omega
      have hmo5 : 5 ≤ mo := by omega
      clear hmoe
      have x0 := hcs q hlt1 0 (by omega)
      have x1 := hcs q hlt1 1 (by omega)
      have x2 := hcs q hlt1 2 (by omega)
      have x3 := hcs q hlt1 3 (by omega)
      have x4 := hcs q hlt1 4 (by omega)
      have x5 := hcs q hlt1 5 (by omega)
      have x6 := hcs q hlt1 6 (by omega)
      have x7 := hcs q hlt1 7 (by omega)
      simp only [← hx, evC, List.getElem_cons_zero, List.getElem_cons_succ, Nat.add_zero, ← Nat.add_assoc] at x0 x1 x2 x3 x4 x5 x6 x7
      have hi1 : (q : Int) < (m : Int) := by omega
      obtain ⟨fr, hfr⟩ : ∃ fr, fr = frameH (encE x).length ++ sealL st.k (encE x) := ⟨_, rfl⟩
      rw [← hfr] at HFR hfl
      have HDR : Hid (∀ u : List UInt8, (u ++ fr).drop ((u ++ fr).length - 8) = eightL (sealN st.k (encE x))) := fun u => by
        rw [hfr, ← List.append_assoc]
        exact seal_drop _ _ _
      have HST : Hid (stepJ st x = ⟨st.es ++ [((st.bs ++ fr).length : Int)], sealN st.k (encE x), st.ks ++ [st.k], st.bs ++ fr⟩) := by show _ = _; rw [hfr]; rfl
      have hf8 : 8 ≤ fr.length := by rw [hfr, List.length_append, sealL_len]; omega
      obtain ⟨k2, hk2⟩ : ∃ k2, k2 = sealN st.k (encE x) := ⟨_, rfl⟩
      rw [← hk2] at HDR HST hsn
      clear hcs hx hlq hxg hel hst hfr hk2 o1
      obtain ⟨kd, who, nam, id, txt, xa, xb, xt⟩ := x
      dsimp only at x0 x1 x2 x3 x4 x5 x6 x7
      unfold evV at HFR
      go_wp2_with (first
        | (go_at_call 31; refine Hid.out ?_))
      refine Hid.mk_ ((HFR.out _).mono ?_)
      rintro e w2 ⟨A2, m2, c2, rfl, hs2, hE2⟩
      have hm2 : m2 ≤ 3000 := by rw [hs2.len]; exact hfl
      have hE02 := HE.out.trans hE2
      go_wp2_with (first
        | (at_builtin; refine Hid.out ?_))
      refine Hid.mk_ ?_
      refine appEi rfl _ _ rfl (HO.out.imp (fun h => h.ext hE2) fun h => ⟨h.1.ext hE2, h.2⟩) rfl hs2 rfl (by have h1 := hs2.len; omega) (by omega) hE02.size_le ?_
      intro A7 m7 c7 w7 ho7 hg7
      have hE7 : Ext w w7 := Below.trans hE02 hg7
      have hm7 : m7 ≤ 103000 := by have h1 := ho7.len; rw [List.length_append, ← HMO.out] at h1; have h2 := hs2.len; omega
      go_wp2_with (first
        | (go_at_call 26; refine Hid.out ?_))
      refine Hid.mk_ ((rkey_any c7 ho7.sl (by rw [List.length_append]; omega) (by omega) (HDR.out _) hsn).mono ?_)
      rintro e w8 ⟨rfl, hE8⟩
      have HO8 : Hid (OsB w8 w.heap.size A7 m7 c7 (runJ (l.take (q + 1))).bs ∨ (SlB w8 A7 m7 (runJ (l.take (q + 1))).bs ∧ c7 = m7 ∧ 0 < m7)) := by
        show _ ∨ _
        rw [HNX.out, HST.out]
        exact .inl (ho7.ext hE8)
      have HK8 : Hid ((runJ (l.take (q + 1))).k = k2) := by show _ = _; rw [HNX.out, HST.out]
      have HE8 := Lib.hid (hE7.trans hE8)
      clear ho7 hg7 hs2 x0 x1 x2 x3 x4 x5 x6 x7 hE8 hE7
      go_wp2
      go_roundw
      case rel => exact ⟨q + 1, A7, m7, c7, by omega, rfl, by rw [HK8.out], by go_num, HO8, HE8⟩
      case measure => simp [intOf]; omega
    · have hi1 : ¬ (q : Int) < (m : Int) := by omega
      have hqe : l.take q = l := List.take_of_length_le (by rw [← HL.out]; omega)
      rw [hqe] at HO
      clear hqe
      go_wp2
      go_ret
      exact ⟨Ao, mo, co, rfl, HO.out.elim (fun h => h.sl) fun h => h.1, HO.out.elim (fun h => h.cap) fun h => by omega, HE.out⟩
theorem rbytes_any {A : Option Addr} {m : Nat} (c : Nat) {l : List Ev} (hs : SlC evC 8 w A m l) (hf : fewJ l = true) (hg : ∀ x ∈ l, GoodE x) :
    Calls Tryz.prog 17 #[.slice A m c] w fun e w' => ∃ A' m' c', e = .returned (.slice A' m' c') ∧ SlB w' A' m' (runJ l).bs ∧ m' ≤ c' ∧ Ext w w' := by
  refine rbytes40_any c hs ?_ hg
  unfold fewJ at hf
  rw [Bool.and_eq_true, decide_eq_true_iff, decide_eq_true_iff] at hf
  exact ⟨hf.1, by omega⟩
end
end Go.Proofs.YtoghaehcmbonnaaGreatDoor
