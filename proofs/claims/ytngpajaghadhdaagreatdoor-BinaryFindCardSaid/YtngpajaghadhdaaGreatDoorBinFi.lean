/- IDs of the program. -/
import Derived.Test.YtngpajaghadhdaaGreatDoorBinFd
namespace Go.Proofs.YtngpajaghadhdaaGreatDoor
open Go.RowKit
set_option maxRecDepth 100000
attribute [local go_sem] ext_refl_t ext_alloc_t ext_drew_t ext_drewN_t ext_alloc2_t ext_alloc3_t ext_alloc4_t ext_alloc5_t ext_alloc6_t ext_alloc7_t ext_alloc8_t ext_alloc1d_t ext_alloc2d_t ext_alloc3d_t ext_alloc4d_t
theorem OsS.monoI {w : World} {base base' : Nat} {A : Option Addr} {m c : Nat} {l : List ByteArray} (h : OsS w base A m c l) (hb : base' ≤ base) : OsS w base' A m c l := by
  refine ⟨⟨h.own.1, ?_⟩, h.len, h.le⟩
  rcases h.own.2 with hn | ⟨g, cap, cur, hv, hg, r⟩
  · exact .inl hn
  · exact .inr ⟨g, cap, cur, hv, by omega, r⟩
section
variable {w : World}
set_option maxHeartbeats 12800000 in
theorem bids_any {A : Option Addr} {m : Nat} (c : Nat) {l : List UInt8} (hs : SlB w A m l) (hmc : m ≤ c) (hmb : m ≤ 1000000000) (hT : Tabs w) :
    Calls Tryz.prog 15 #[.slice A m c] w fun e w' => (∃ (y : Cp) (code : Int) (B : Option Addr) (n d : Nat), e = .returned (.slice B n d) ∧ DecR l y code ∧ OsS w' w.heap.size B n d ((sortE y.es).map (idAt y.es)) ∧ y.es.length ≤ 1000) ∧ Ext w w' := by
  have HIDV : Hid (∀ y : Cat, catV y = .agg #[.string y.tag, .slice y.c.A y.c.m y.c.c, .slice y.d.A y.d.m y.d.c, .slice y.e.A y.e.m y.e.c]) := fun _ => rfl
  go_enter Tryz.func15, Tryz.ntmps15
  go_wp2_with (first
    | (go_at_call 6; refine Hid.out ?_))
  refine Hid.mk_ ((bdecode_any c hs hmc hmb hT).mono ?_)
  rintro e wd ⟨⟨y, code0, rfl, hD, hyW, _⟩, hEd⟩
  rw [HIDV.out y]
  have HDR := Lib.hid hD
  obtain ⟨wB, hwB⟩ : ∃ wB, wB = wd.alloc (Obj.cells #[.string y.tag, .slice y.c.A y.c.m y.c.c, .slice y.d.A y.d.m y.d.c, .slice y.e.A y.e.m y.e.c] 28) := ⟨_, rfl⟩
  have hbB : Blk wB wd.heap.size 28 #[.string y.tag, .slice y.c.A y.c.m y.c.c, .slice y.d.A y.d.m y.d.c, .slice y.e.A y.e.m y.e.c] := by rw [hwB]; exact Blk.new wd _ _
  have hEB : Ext wd wB := by rw [hwB]; exact (Ext.refl _).alloc _
  obtain ⟨gx, hgx⟩ : ∃ gx, gx = wd.heap.size := ⟨_, rfl⟩
  rw [← hgx] at hbB
  have hE0B := hEd.trans hEB
  rcases hD with ⟨hc0, hyv, hye⟩ | ⟨hc4, hyz, _⟩
  case inr =>
    subst hc4
    have HES : Hid (y.p.es = []) := by show _ = _; rw [hyz]
    clear hyz hbB hgx hwB hEB hE0B
    go_wp2
    go_ret
    refine ⟨⟨y.p, 4, none, 0, 0, rfl, HDR.out, ?_, by rw [HES.out]; exact Nat.zero_le _⟩, hEd.alloc _⟩
    rw [HES.out]
    have he : sortE ([] : List Ep) = [] := List.eq_nil_of_length_eq_zero (sortE_len _)
    rw [he]
    exact OsS.nil_
  case inl =>
  subst hc0
  have HYV := Lib.hid hyv
  have hym : y.e.m ≤ 1000 := by
    have h1 := (validC_short hyv).es.1
    have h2 := hyW.e.sl.len
    have h3 : y.p.es.length = y.es.length := List.length_map _
    omega
  have HPL : Hid (y.p.es.length = y.e.m) := by show _ = _; rw [hyW.e.sl.len]; exact List.length_map _
  have HPE : Hid (y.p.es = y.es.map Ent.p) := rfl
  clear hyv hye
  have hord := border_any (hyW.ext hEB) hym (validC_nodup HYV.out)
  rw [HIDV.out y] at hord
  go_wp2_with (first
    | (go_at_call 38; refine Hid.out ?_))
  rw [← hwB, ← hgx]
  clear hwB hgx
  refine Hid.mk_ (hord.mono ?_)
  clear hord
  rintro e wo ⟨⟨B, n, d, rfl, hso, hfo⟩, hEo⟩
  have HNL : Hid (n = y.e.m) := by show _ = _; rw [hso.len, sortE_len, HPL.out]
  have hn1000 : n ≤ 1000 := by rw [HNL.out]; exact hym
  have hE0o := hE0B.trans hEo
  have hyo := hyW.ext (hEB.trans hEo)
  have Kx := laters (show wo.cell? ⟨gx, 3, none⟩ = some (.slice y.e.A y.e.m y.e.c) from (hbB.below hEo hbB.lt).cell 3)
  have hsz := hE0o.size_le
  clear hfo hbB
  go_wp2
  go_loopw [5, 7, 18] (fun o _ i wr => ∃ (q : Nat) (R : Option Addr) (a b : Nat) (L : List ByteArray), q ≤ n ∧ i = .int .i64 q ∧ o = .slice R a b ∧ OsS wr wo.heap.size R a b L ∧ Hid (L = ((sortE y.p.es).take q).map (idAt y.p.es)) ∧ Ext wo wr) (fun _ _ i _ => n - (intOf i).toNat)
  case atStart => exact ⟨0, none, 0, 0, [], Nat.zero_le _, rfl, rfl, OsS.nil_, Lib.hid rfl, Ext.refl _⟩
  case round =>
    obtain ⟨q, R, a, b, L, hq, rfl, rfl, ho, HLL, hE⟩ := hrel
    by_cases hlt : q < n
    · have hi1 : (q : Int) < (n : Int) := by omega
      have ha : a ≤ 1000 := by have h1 := ho.len; rw [HLL.out, List.length_map, List.length_take] at h1; omega
      have hks : q < (sortE y.p.es).length := by rw [← hso.len]; exact hlt
      obtain ⟨bk, off, e0, hbl, hcs⟩ := (hso.ext hE).at_ hlt (by omega)
      obtain ⟨p, hp⟩ : ∃ p, p = (sortE y.p.es)[q] := ⟨_, rfl⟩
      have y0 := hcs q hks 0 (by omega)
      simp only [← hp, natF, List.getElem_cons_zero, Nat.mul_one, Nat.add_zero] at y0
      have hpl : p < y.p.es.length := by rw [hp]; exact sortE_lt (List.getElem_mem _)
      have hpm : p < y.e.m := by rw [← HPL.out]; exact hpl
      have hpe : p < y.es.length := by rw [HPE.out, List.length_map] at hpl; exact hpl
      have hpi : (p : Int) < (y.e.m : Int) := by omega
      have hyr := hyo.ext hE
      obtain ⟨eb, eo, eA, _, hcs2⟩ := hyr.e.sl.at_ hpm (by omega)
      obtain ⟨s, hss⟩ : ∃ s, s = y.es[p].p.id := ⟨_, rfl⟩
      have z0 := hcs2 p hpe 0 (by omega)
      simp only [entC, List.getElem_cons_zero, Nat.add_zero, ← hss] at z0
      have Kxr := Kx _ hE
      have HLN : Hid (L ++ [s] = ((sortE y.p.es).take (q + 1)).map (idAt y.p.es)) := by
        show _ = _
        rw [List.take_succ_eq_append_getElem hks, List.map_append, ← HLL.out, ← hp]
        simp only [List.map_cons, List.map_nil]
        rw [idAt_lt hpl, hss]
        congr 1
        congr 1
        exact congrArg Ep.id (List.getElem_map ..).symm
      clear hcs hcs2 hp hss
      have EA := Lib.hid eA
      go_wp2_with (first
        | (at_builtin; refine Hid.out ?_))
      clear eA e0
      rw [← EA.out]
      refine Hid.mk_ ?_
      refine appSs1 rfl _ _ rfl ho rfl s rfl (by omega) hE.size_le ?_
      intro R2 a2 b2 w2 ho2 hg2 hat2
      have hE2 := hE.grown hg2 ho.ge
      clear hg2 hat2
      go_wp2
      go_roundw
      case rel => exact ⟨q + 1, R2, a2, b2, _, by omega, by go_num, rfl, ho2, HLN, hE2⟩
      case measure => simp [intOf]; omega
    · have hi1 : ¬ (q : Int) < (n : Int) := by omega
      have hqe : q = n := by omega
      have HLF : Hid (L = (sortE y.p.es).map (idAt y.p.es)) := by show _ = _; rw [HLL.out, List.take_of_length_le (by rw [← hso.len, hqe]; exact Nat.le_refl _)]
      clear hqe
      go_wp2
      go_ret
      exact ⟨⟨y.p, 0, R, a, b, rfl, HDR.out, by rw [← HLF.out]; exact ho.monoI hsz, by rw [HPL.out]; exact hym⟩, hE0o.trans hE⟩
end
end Go.Proofs.YtngpajaghadhdaaGreatDoor
