/- The program's Encode. -/
import Derived.Test.YtngpajaghadhdaaGreatDoorBinO
import Derived.ArgAppend
import Derived.Lib.SlBytesConst
namespace Go.Proofs.YtngpajaghadhdaaGreatDoor
open Go.RowKit
set_option maxRecDepth 100000
attribute [local go_sem] ext_refl_t ext_alloc_t ext_drew_t ext_drewN_t ext_alloc2_t ext_alloc3_t ext_alloc4_t ext_alloc5_t ext_alloc6_t ext_alloc7_t ext_alloc8_t ext_alloc1d_t ext_alloc2d_t ext_alloc3d_t ext_alloc4d_t
theorem four_cells {n : Nat} (h : n < 4294967296) : #[Value.int .u8 ((n : Int) / 16777216), .int .u8 ((n : Int) / 65536 % 256), .int .u8 ((n : Int) / 256 % 256), .int .u8 ((n : Int) % 256)] = ((fourB n).map bv).toArray := by
  have e1 : (n : Int) / 16777216 = ((UInt8.ofNat (n / 16777216)).toNat : Int) := by simp only [UInt8.toNat_ofNat', Nat.reducePow]; omega
  have e2 : (n : Int) / 65536 % 256 = ((UInt8.ofNat (n / 65536)).toNat : Int) := by simp only [UInt8.toNat_ofNat', Nat.reducePow]; omega
  have e3 : (n : Int) / 256 % 256 = ((UInt8.ofNat (n / 256)).toNat : Int) := by simp only [UInt8.toNat_ofNat', Nat.reducePow]; omega
  have e4 : (n : Int) % 256 = ((UInt8.ofNat n).toNat : Int) := by simp only [UInt8.toNat_ofNat', Nat.reducePow]; omega
  rw [e1, e2, e3, e4]
  rfl
section
variable {w : World}
set_option maxHeartbeats 3200000 in
theorem border_any {x : Cat} (hx : CatW w x) (hn : x.e.m ≤ 1000) (hd : (x.p.es.map Ep.id).Nodup) :
    Calls Tryz.prog 38 #[catV x] w fun e w' => (∃ A m c, e = .returned (.slice A m c) ∧ SlC natF 1 w' A m (sortE x.p.es) ∧ ∀ k, ob A = some k → w.heap.size ≤ k) ∧ Ext w w' := by
  obtain ⟨tag, com, fd, es, hc, hf, ⟨eA, em, ec⟩⟩ := x
  have ke := hx.e
  unfold catV
  dsimp only at *
  have HL := Lib.hid ke.sl.len
  dsimp only at HL
  obtain ⟨W0, hW0⟩ : ∃ W0, W0 = w.alloc (Obj.cells #[.string tag, .slice hc.A hc.m hc.c, .slice hf.A hf.m hf.c, .slice eA em ec] 28) := ⟨_, rfl⟩
  have hb0 : Blk W0 w.heap.size 28 #[.string tag, .slice hc.A hc.m hc.c, .slice hf.A hf.m hf.c, .slice eA em ec] := by rw [hW0]; exact Blk.new w _ _
  have hE0 : Ext w W0 := by rw [hW0]; exact (Ext.refl w).alloc _
  obtain ⟨g, hg⟩ : ∃ g, g = w.heap.size := ⟨_, rfl⟩
  have hgl := hb0.lt
  have HD := Lib.hid hd
  have HRD : Hid (0 < em → ∀ k, ob eA = some k → k < W0.heap.size) := fun h0 k hk => by
    obtain ⟨ad, e, hb, _⟩ := ke.sl.rd.2 h0
    dsimp only at e
    rw [e] at hk
    simp only [ob, Option.map_some, Option.some.injEq] at hk
    rw [← hk]
    exact Nat.lt_of_lt_of_le hb hE0.size_le
  have X3 := laters (show _ = some (.slice eA em ec) from hb0.cell 3)
  clear hx hd
  go_enter Tryz.func38, Tryz.ntmps38
  go_wp2
  rw [← hW0]
  rw [← hg] at hgl X3
  rw [← hg]
  clear hW0 hg hb0
  go_loopw [3, 4, 8] (fun o _ i wr => ∃ (q : Nat) (A : Option Addr) (m c : Nat), q ≤ em ∧ i = .int .i64 q ∧ o = .slice A m c ∧ OsC natF 3 1 wr W0.heap.size A m c (List.range q) ∧ Hid (m = q) ∧ Ext W0 wr) (fun _ _ i _ => em - (intOf i).toNat)
  case atStart => exact ⟨0, none, 0, 0, Nat.zero_le _, rfl, rfl, OsC.nil_ natF_len natF_cell, Lib.hid rfl, Ext.refl _⟩
  case round =>
    obtain ⟨q, A, m, c, hq, rfl, rfl, ho, HM, hE⟩ := hrel
    have hm1 : m ≤ 1000 := by have := HM.out; omega
    by_cases hlt : q < em
    · have hi1 : (q : Int) < (em : Int) := by omega
      have hEa : Ext wr (wr.alloc (Obj.cells #[.int .i64 (q : Int)] 3)) := (Ext.refl _).alloc _
      have hnew : SlC natF 1 (wr.alloc (Obj.cells #[.int .i64 (q : Int)] 3)) (some ⟨wr.heap.size, 0, none⟩) 1 [q] := SlC.new_ (cs := natF) wr [q] natF_len (by simp) _ rfl (0, 0) 1 rfl 3
      go_wp2_with (first
        | (at_builtin; refine Hid.out ?_))
      refine Hid.mk_ ?_
      refine (appC einfo_int) rfl _ _ rfl (ho.ext hEa) rfl hnew rfl (by omega) (Nat.le_trans hE.size_le hEa.size_le) ?_
      intro A2 m2 c2 w3 ho3 hg3 hat3
      have HM2 : Hid (m2 = q + 1) := by show _ = _; rw [ho3.len, List.length_append, List.length_range]; rfl
      have hE3 : Ext W0 w3 := (hE.trans hEa).grown hg3 ho.ge
      rw [← List.range_succ] at ho3
      go_wp2
      go_roundw
      case rel => exact ⟨q + 1, A2, m2, c2, by omega, by go_num, rfl, ho3, HM2, hE3⟩
      case measure => simp [intOf]; omega
    · have hi1 : ¬ (q : Int) < (em : Int) := by omega
      have hqe : q = em := by omega
      subst hqe
      go_wp2_with (first
        | (go_at_call 66; refine Hid.out ?_))
      refine Hid.mk_ ((sortI_any ho HL.out HD.out (ke.sl.ext (hE0.trans hE)) (X3 _ hE) hgl HRD.out).mono ?_)
      rintro e w4 ⟨rfl, hs4, hg4⟩
      have hE4 : Ext W0 w4 := hE.grown hg4 ho.ge
      go_wp2
      go_ret
      exact ⟨⟨A, m, c, rfl, hs4, fun k hk => Nat.le_trans hE0.size_le (ho.ge k hk)⟩, hE0.trans hE4⟩

set_option maxHeartbeats 3200000 in
theorem four_any {base : Nat} {A B : Option Addr} {m c k d : Nat} {l : List UInt8} {ns : List Nat} (ho : OsB w base A m c l) (hs : SlC natF 1 w B k ns) (hap : ob B = none ∨ ob B ≠ ob A) (hB : ∀ j, ob B = some j → j < w.heap.size) (hns : ∀ n ∈ ns, n < 4294967296) (hm : m ≤ 1000000000) (hk : k ≤ 1000) (hbase : base ≤ w.heap.size) :
    Calls Tryz.prog 50 #[.slice A m c, .slice B k d] w fun e w' => (∃ A' m' c', e = .returned (.slice A' m' c') ∧ OsB w' base A' m' c' (l ++ ns.flatMap fourB) ∧ NewOr w.heap.size (ob A) (ob A')) ∧ w.grownBy w' (ob A) := by
  have HL := Lib.hid hs.len
  have HNS := Lib.hid hns
  go_enter Tryz.func50, Tryz.ntmps50
  go_wp2
  go_loopw [0, 6, 9] (fun b _ i wr => ∃ (q : Nat) (A' : Option Addr) (m' c' : Nat) (L : List UInt8), q ≤ k ∧ i = .int .i64 q ∧ b = .slice A' m' c' ∧ OsB wr base A' m' c' L ∧ Hid (L = l ++ (ns.take q).flatMap fourB) ∧ Hid (m' = m + 4 * q) ∧ w.grownBy wr (ob A) ∧ NewOr w.heap.size (ob A) (ob A')) (fun _ _ i _ => k - (intOf i).toNat)
  case atStart => exact ⟨0, A, m, c, l, Nat.zero_le _, rfl, rfl, ho, by show _ = _; simp, Lib.hid (by omega), World.grownBy.refl _ _, NewOr.refl _ _⟩
  case round =>
    obtain ⟨q, A', m', c', L, hq, rfl, rfl, ho', HLL, HM, hgw, hN⟩ := hrel
    by_cases hlt : q < k
    · have hi1 : (q : Int) < (k : Int) := by omega
      obtain ⟨b, off, e0, hbl, hcs⟩ := (hs.kept hgw hap).at_ hlt (by omega)
      subst e0
      have hlt1 : q < ns.length := by rw [← HL.out]; exact hlt
      obtain ⟨n, hn⟩ : ∃ n, n = ns[q] := ⟨_, rfl⟩
      have x0 := hcs q hlt1 0 (by omega)
      simp only [← hn, natF, List.getElem_cons_zero, Nat.mul_one, Nat.add_zero] at x0
      have hn32 : n < 4294967296 := by rw [hn]; exact HNS.out _ (List.getElem_mem _)
      have HN := Lib.hid hn
      clear hcs hn
      have hEa : Ext wr (wr.alloc (Obj.cells #[.int .u8 ((n : Int) / 16777216), .int .u8 ((n : Int) / 65536 % 256), .int .u8 ((n : Int) / 256 % 256), .int .u8 ((n : Int) % 256)] 5)) := (Ext.refl _).alloc _
      have hnew : SlB (wr.alloc (Obj.cells #[.int .u8 ((n : Int) / 16777216), .int .u8 ((n : Int) / 65536 % 256), .int .u8 ((n : Int) / 256 % 256), .int .u8 ((n : Int) % 256)] 5)) (some ⟨wr.heap.size, 0, none⟩) 4 (fourB n) := (OsB.new_ wr wr.heap.size (Nat.le_refl _) (fourB n) (by show 4 ≤ _; omega) _ (four_cells hn32) 4 rfl).sl
      have hm4 : m' ≤ 1000004000 := by have := HM.out; omega
      have hsz := hgw.size
      go_wp2_with (first
        | (at_builtin; refine Hid.out ?_))
      refine Hid.mk_ ?_
      refine appB rfl _ _ rfl (ho'.ext hEa) rfl hnew rfl (by omega) (Nat.le_trans hbase (Nat.le_trans hsz hEa.size_le)) ?_
      intro A2 m2 c2 w3 ho3 hg3 hat3
      have HM2 : Hid (m2 = m + 4 * (q + 1)) := by show _ = _; have h1 := ho3.len; have h2 := ho'.len; rw [List.length_append, fourB_len] at h1; have h3 := HM.out; omega
      have HL3 : Hid (L ++ fourB n = l ++ (ns.take (q + 1)).flatMap fourB) := by
        show _ = _
        rw [List.take_succ_eq_append_getElem hlt1, List.flatMap_append, HLL.out, ← HN.out]
        simp
      have hN3 : NewOr w.heap.size (ob A) (ob A2) := hN.trans (hat3.mono hEa.size_le) hsz
      have hgw3 : w.grownBy w3 (ob A) := grown_step (grown_step hgw (hEa.grownBy none) (fun k hk => by cases hk)) hg3 hN
      go_wp2
      go_roundw
      case rel => exact ⟨q + 1, A2, m2, c2, _, by omega, by go_num, rfl, ho3, HL3, HM2, hgw3, hN3⟩
      case measure => simp [intOf]; omega
    · have hi1 : ¬ (q : Int) < (k : Int) := by omega
      have HF : Hid (L = l ++ ns.flatMap fourB) := by
        show _ = _
        rw [HLL.out, List.take_of_length_le (by have := HL.out; omega)]
      go_wp2
      go_ret
      exact ⟨⟨A', m', c', rfl, by rw [← HF.out]; exact ho', hN⟩, hgw⟩

/-- append(s, x...) where s is full: a new row. -/
theorem wp_appFull {o : Oper} {a : Act} {K : Act → World → Prop} {Q : Exit → Act → World → Prop} (s x : Operand)
    (ho : o.op = .call { callee := .builtin .append, args := #[s, x], argTypes := #[22, 22] })
    {A : Option Addr} {m c : Nat} {l : List UInt8} (hold : SlB w A m l) (hs : a.eval s = .slice A m c) (hm : 0 < m)
    {B : Option Addr} {n d : Nat} {news : List UInt8} (hr : SlB w B n news) (hx : a.eval x = .slice B n d) (hn : 0 < n) (hfull : c < m + n)
    (hb : m + n ≤ 140737488355328)
    (h : ∀ A' m' c' w', OsB w' w.heap.size A' m' c' (l ++ news) → Ext w w' → K (a.put o.dst (.slice A' m' c')) w') : o.wp Tryz.prog a w K Q := by
  obtain ⟨i0, hi0, hz0, hz1, hz2⟩ := info_parts info_u8
  obtain ⟨ad, hA, _, hc1⟩ := hold.rd.2 hm
  obtain ⟨bd, hB, _, hc2⟩ := hr.rd.2 hn
  subst hA hB
  obtain ⟨v', w', hrun, r1, r2⟩ := run_append_arg_grows (P := Tryz.prog) w 22 o.type 5 i0 _ 1 1 Tryz.underlying22 hi0 hz0 hz1 hz2 rfl (by omega) ad m c (l.map bv) (by rw [List.length_map, Nat.mul_one]; exact hold.len.symm) hc1 bd n d (news.map bv) (by rw [List.length_map, Nat.mul_one]; exact hr.len.symm) hc2 hfull (by simp only [maxLen]; omega) (by omega)
  unfold Oper.wp
  simp [execOp, ho, resolve, invoke, builtin, hs, hx, hrun, Result.andThen]
  have hv : ∃ A' c', v' = .slice A' (m + n) c' := by
    rcases r1.2 with ⟨rfl, h0⟩ | ⟨g, cap, cur, rfl, _⟩
    · exact ⟨none, 0, by rw [h0]⟩
    · exact ⟨_, _, rfl⟩
  obtain ⟨A', c', rfl⟩ := hv
  exact h A' (m + n) c' w' ⟨by rw [List.map_append]; exact r1, by rw [List.length_append, hold.len, hr.len], hb⟩ (Ext.of_grown r2)
theorem appFull {ops : Array Oper} {rest : List Oper} {o : Oper} {a : Act} {Q : Exit → Act → World → Prop} (hgd : Region.wanted o (yielded ops a.tmps) = true) (s x : Operand)
    (ho : o.op = .call { callee := .builtin .append, args := #[s, x], argTypes := #[22, 22] })
    {A : Option Addr} {m c : Nat} {l : List UInt8} (hold : SlB w A m l) (hs : a.eval s = .slice A m c) (hm : 0 < m)
    {B : Option Addr} {n d : Nat} {news : List UInt8} (hr : SlB w B n news) (hx : a.eval x = .slice B n d) (hn : 0 < n) (hfull : c < m + n)
    (hb : m + n ≤ 140737488355328)
    (h : ∀ A' m' c' w', OsB w' w.heap.size A' m' c' (l ++ news) → Ext w w' → wpList Tryz.prog ops Q rest (a.put o.dst (.slice A' m' c')) w') : wpList Tryz.prog ops Q (o :: rest) a w :=
  BigFrame.wpList_want hgd fun _ hK => wp_appFull s x ho hold hs hm hr hx hn hfull hb fun A' m' c' w' h1 h2 => hK _ _ (h A' m' c' w' h1 h2)
/-- The constant "CQB1" as bytes: full, and marked behind its end. -/
theorem magic_sl (w : World) (fr : Nat × Nat) : SlB (w.alloc (.cells #[.int .u8 67, .int .u8 81, .int .u8 66, .int .u8 49] 5 fr)) (some ⟨w.heap.size, 0, none⟩) 4 magicB := by
  refine ⟨⟨rfl, fun _ => ⟨_, rfl, by simp, fun j u hu => ?_⟩⟩, rfl, by omega⟩
  rw [Addr.add_lit, Nat.zero_add, cell_of_row _ w.heap.size j _ 5 fr (heap_alloc_new w _)]
  rw [show (#[.int .u8 67, .int .u8 81, .int .u8 66, .int .u8 49] : Array Value) = (magicB.map bv).toArray from rfl]
  simpa using hu
theorem magic_conv (w : World) : (convert 22 22 (.slice (some ⟨w.heap.size, 0, none⟩) 4 4)).run Tryz.prog (w.alloc (.cells #[.int .u8 67, .int .u8 81, .int .u8 66, .int .u8 49] 5)) = .ok (.slice (some ⟨w.heap.size, 0, none⟩) 4 4) (w.alloc (.cells #[.int .u8 67, .int .u8 81, .int .u8 66, .int .u8 49] 5 (4, 5))) :=
  Lib.run_convert_bytes_const w 22 5 #[.int .u8 67, .int .u8 81, .int .u8 66, .int .u8 49] 4 4 Tryz.underlying22 Tryz.underlying5
set_option maxHeartbeats 3200000 in
theorem four1_any {A B : Option Addr} {m d : Nat} {l : List UInt8} {n : Nat} (hold : SlB w A m l) (h0 : 0 < m) (hs : SlC natF 1 w B 1 [n]) (hn : n < 4294967296) (hm : m ≤ 1000000000) :
    Calls Tryz.prog 50 #[.slice A m m, .slice B 1 d] w fun e w' => (∃ A' m' c', e = .returned (.slice A' m' c') ∧ OsB w' w.heap.size A' m' c' (l ++ fourB n)) ∧ Ext w w' := by
  go_enter Tryz.func50, Tryz.ntmps50
  go_wp2
  go_loopw [0, 6, 9] (fun b _ i wr => ∃ (q : Nat) (A' : Option Addr) (m' c' : Nat), q ≤ 1 ∧ i = .int .i64 q ∧ b = .slice A' m' c' ∧ Hid (q = 0 → A' = A ∧ m' = m ∧ c' = m) ∧ Hid (q = 1 → OsB wr w.heap.size A' m' c' (l ++ fourB n)) ∧ Ext w wr) (fun _ _ i _ => 1 - (intOf i).toNat)
  case atStart => exact ⟨0, A, m, m, by omega, rfl, rfl, fun _ => ⟨rfl, rfl, rfl⟩, fun h => by omega, Ext.refl _⟩
  case round =>
    obtain ⟨q, A', m', c', hq, rfl, rfl, HA, HB, hE⟩ := hrel
    by_cases hlt : q < 1
    · obtain rfl : q = 0 := by omega
      obtain ⟨rfl, rfl, rfl⟩ := HA.out rfl
      obtain ⟨b, off, e0, hbl, hcs⟩ := (hs.ext hE).at_ (i := 0) (by omega) (by omega)
      subst e0
      have x0 := hcs 0 (by simp) 0 (by omega)
      simp only [natF, List.getElem_cons_zero, Nat.mul_one, Nat.add_zero] at x0
      have hEa : Ext wr (wr.alloc (Obj.cells #[.int .u8 ((n : Int) / 16777216), .int .u8 ((n : Int) / 65536 % 256), .int .u8 ((n : Int) / 256 % 256), .int .u8 ((n : Int) % 256)] 5)) := (Ext.refl _).alloc _
      have hnew : SlB (wr.alloc (Obj.cells #[.int .u8 ((n : Int) / 16777216), .int .u8 ((n : Int) / 65536 % 256), .int .u8 ((n : Int) / 256 % 256), .int .u8 ((n : Int) % 256)] 5)) (some ⟨wr.heap.size, 0, none⟩) 4 (fourB n) := (OsB.new_ wr wr.heap.size (Nat.le_refl _) (fourB n) (by show 4 ≤ _; omega) _ (four_cells hn) 4 rfl).sl
      have hEra := hE.trans hEa
      clear hcs
      go_wp2_with (first
        | (at_builtin; refine Hid.out ?_))
      refine Hid.mk_ ?_
      refine appFull rfl _ _ rfl (hold.ext hEra) rfl h0 hnew rfl (by omega) (by omega) (by omega) ?_
      intro A2 m2 c2 w3 ho3 hE3
      have ho3' := ho3.mono (base' := w.heap.size) hEra.size_le
      have hE03 := hEra.trans hE3
      go_wp2
      go_roundw
      case rel => exact ⟨1, A2, m2, c2, by omega, rfl, rfl, fun h => by omega, fun _ => ho3', hE03⟩
      case measure => simp [intOf]
    · obtain rfl : q = 1 := by omega
      have ho := HB.out rfl
      have HO := Lib.hid ho
      clear ho
      go_wp2
      go_ret
      exact ⟨⟨A', m', c', rfl, HO.out⟩, hE⟩
end
end Go.Proofs.YtngpajaghadhdaaGreatDoor
