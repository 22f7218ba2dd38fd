/- The program's match: the sort of places, order. -/
import Derived.Test.YtdgppdiickmofaaGreatDoorPQ25
namespace Go.Proofs.YtdgppdiickmofaaGreatDoor
open Go.RowKit
set_option maxRecDepth 100000
attribute [local go_sem] ext_refl_t ext_alloc_t ext_drew_t ext_drewN_t ext_alloc2_t ext_alloc3_t ext_alloc4_t ext_alloc5_t ext_alloc6_t ext_alloc7_t ext_alloc8_t ext_alloc1d_t ext_alloc2d_t ext_alloc3d_t ext_alloc4d_t
attribute [local go_sem] yielded_undef
def niC (i : Nat) : List Value := [.int .i64 (i : Int)]
theorem niC_len (x : Nat) : (niC x).length = 1 := rfl
theorem niC_cell : ∀ x : Nat, ∀ u ∈ niC x, u.oneCell' = true := by
  intro x u hu
  simp only [niC, List.mem_cons, List.not_mem_nil, or_false] at hu
  rw [hu]
  rfl
theorem einfo_ni : EInfo 51 3 1 8 := EInfo.mk_ (z := .int .i64 0) Tryz.underlying51 (by kernel_rfl) rfl (by omega) (by omega)
theorem ni_cells {w : World} {A : Option Addr} {m : Nat} {l : List Nat} (hs : SlC niC 1 w A m l) (hm : 0 < m) : ∃ b off, A = some ⟨b, off, none⟩ ∧ b < w.heap.size ∧ ∀ (j : Nat) (hj : j < l.length), w.cell? ⟨b, off + j, none⟩ = some (.int .i64 (l[j] : Int)) := by
  obtain ⟨b, off, e, hb, hc⟩ := hs.at_ (i := 0) hm (by omega)
  refine ⟨b, off, e, hb, fun j hj => ?_⟩
  have h := hc j hj 0 (by omega)
  simpa only [niC, List.getElem_cons_zero, Nat.mul_one, Nat.add_zero] using h
section
variable {w wb : World}
/-- The row of places that is being sorted: wb is the world ahead. -/
structure RowS (wb wr : World) (N : Nat) (g m c : Nat) (li : List Nat) : Prop where
  ext : Ext wb wr
  own : OsC niC 3 1 wr wb.heap.size (some ⟨g, 0, none⟩) m c li
  lt : ∀ i ∈ li, i < N
theorem RowS.extn {wr w2 : World} {N g m c : Nat} {li : List Nat} (h : RowS wb wr N g m c li) (hE : Ext wr w2) : RowS wb w2 N g m c li := ⟨h.ext.trans hE, h.own.ext hE, h.lt⟩
set_option maxHeartbeats 12800000 in
theorem isort_any {g3 g4 g5 : Nat} {l : List NrP} {hn : SlH} {t : Tg} {ht : SlH} {hs : SlH} {L : List TaH} (h : OrdW wb g3 g4 g5 l hn t ht hs L) {g m c : Nat} {li : List Nat} (hr : RowS wb w L.length g m c li) (hm : m ≤ 12) :
    Calls Tryz.prog 183 #[.slice (some ⟨g, 0, none⟩) m c, .int .i64 0, .int .i64 (m : Int), .func (.func 104) #[] #[.pointer (some ⟨g3, 0, none⟩), .pointer (some ⟨g4, 0, none⟩), .pointer (some ⟨g5, 0, none⟩)]] w fun e w' => e = .returned (.tuple #[]) ∧ ∃ li', RowS wb w' L.length g m c li' := by
  have HO := Lib.hid h
  have HR0 := Lib.hid hr
  clear h hr
  go_enter Tryz.func183, Tryz.ntmps183
  go_wp2
  go_loopg [8, 9] 12 (fun gz s8 _ wx => ∃ (i : Nat) (li : List Nat), 1 ≤ i ∧ 13 ≤ i + gz ∧ s8 = .int .i64 i ∧ Hid (RowS wb wx L.length g m c li))
  case atStart => exact ⟨1, li, Nat.le_refl _, by omega, by go_num, HR0⟩
  case round =>
    obtain ⟨i, li, hi1, hiz, rfl, HR⟩ := hrel
    by_cases him : i < m
    · have himi : (i : Int) < (m : Int) := by omega
      obtain ⟨gz', rfl⟩ : ∃ gz', gk = gz' + 1 := ⟨gk - 1, by omega⟩
      obtain ⟨wo, hwo⟩ : ∃ wo : World, wo = wr := ⟨_, rfl⟩
      rw [← hwo] at HR ⊢
      clear hwo
      go_wp2
      go_loopg [9] 12 (fun gy s9 wx => ∃ (j : Nat) (li : List Nat), j ≤ i ∧ j ≤ gy ∧ s9 = .int .i64 j ∧ Hid (RowS wb wx L.length g m c li))
      case atStart => exact ⟨i, li, Nat.le_refl _, by omega, rfl, HR⟩
      case round =>
        obtain ⟨j, lj, hji, hjy, rfl, HRJ⟩ := hrel
        have HLJ : Hid (m = lj.length) := HRJ.out.own.len
        by_cases hj0 : 0 < j
        · have hj0i : (0 : Int) < (j : Int) := by omega
          obtain ⟨gy', rfl⟩ : ∃ gy', gk = gy' + 1 := ⟨gk - 1, by omega⟩
          obtain ⟨b, off, e0, hbl, hcs⟩ := ni_cells HRJ.out.own.sl (by omega)
          simp only [Option.some.injEq, Addr.mk.injEq, and_true] at e0
          obtain ⟨e01, e02⟩ := e0
          subst e01
          subst e02
          have hjl : j < lj.length := by rw [← HLJ.out]; omega
          have hjl1 : j - 1 < lj.length := by omega
          obtain ⟨p, hp⟩ : ∃ p, p = j - 1 := ⟨_, rfl⟩
          have hpj : (j : Int) - 1 = (p : Int) := by omega
          rw [← hp] at hjl1
          have hpm : (p : Int) < (m : Int) := by omega
          have hjm : (j : Int) < (m : Int) := by omega
          obtain ⟨xj, hxj⟩ : ∃ x, x = lj[j] := ⟨_, rfl⟩
          obtain ⟨xp, hxp⟩ : ∃ x, x = lj[p] := ⟨_, rfl⟩
          have c1 := hcs j hjl
          have c2 := hcs p hjl1
          rw [← hxj] at c1
          rw [← hxp] at c2
          simp only [Nat.zero_add] at c1 c2
          have hxjL : xj < L.length := HRJ.out.lt _ (by rw [hxj]; exact List.getElem_mem hjl)
          have hxpL : xp < L.length := HRJ.out.lt _ (by rw [hxp]; exact List.getElem_mem hjl1)
          have HC : Hid (∀ W, Ext wr W → Calls Tryz.prog 104 #[.int .i64 (xj : Int), .int .i64 (xp : Int), .pointer (some ⟨g3, 0, none⟩), .pointer (some ⟨g4, 0, none⟩), .pointer (some ⟨g5, 0, none⟩)] W fun e w' => e = .returned (.int .i64 (ordR l t L[xj].t L[xp].t)) ∧ Ext W w') := fun W hE => ordc_any (HO.out.ext (HRJ.out.ext.trans hE)) hxjL hxpL
          obtain ⟨z, hz⟩ : ∃ z, z = ordR l t L[xj].t L[xp].t := ⟨_, rfl⟩
          rw [← hz] at HC
          have C1 := latersU c1
          have C2 := latersU c2
          have HXJ := Lib.hid (And.intro hxjL hxpL)
          have HPQ := Lib.hid (And.intro hp hjl)
          obtain ⟨bz, hbz⟩ : ∃ bz, bz = decide (z < 0) := ⟨_, rfl⟩
          clear hz hxj hxp hcs hxjL hxpL hp
          cases bz with
          | false =>
            have hz0 : ¬ z < 0 := of_decide_eq_false hbz.symm
            clear hbz
            go_wp2
            refine wp_region_ext_lit (by kernel_rfl) (by kernel_rfl) ?_
            try dsimp only [List.append]
            repeat (go_big_quiet_step ((go_at_call 104; with_reducible exact Calls.quiet_ext (HC.out _ (ExtOf.ext _)))))
            refine wpQuiet_nil ?_
            rintro w5 ⟨⟨_, h5⟩, rfl⟩
            try dsimp only
            have HR5 := Lib.hid (HRJ.out.extn h5)
            clear h5
            go_wp2
            go_roundg gz'
            case measure => omega
            case rel => exact ⟨i + 1, lj, by omega, by omega, by go_num, HR5⟩
          | true =>
            have hz0 : z < 0 := of_decide_eq_true hbz.symm
            clear hbz
            go_wp2
            refine wp_region_ext_lit (by kernel_rfl) (by kernel_rfl) ?_
            try dsimp only [List.append]
            repeat (go_big_quiet_step ((go_at_call 104; with_reducible exact Calls.quiet_ext (HC.out _ (ExtOf.ext _)))))
            refine wpQuiet_nil ?_
            rintro w5 ⟨⟨_, h5⟩, rfl⟩
            try dsimp only
            have HR5 := Lib.hid (HRJ.out.extn h5)
            have d1 := later h5 c1
            have d2 := later h5 c2
            clear h5 C1 C2 c1 c2
            obtain ⟨hq1, -⟩ := HR5.out.own.setE (i := j) (by omega) rfl xp
            obtain ⟨⟨-, f1⟩⟩ : _ ∧ True := ⟨hq1 0 (by omega), trivial⟩
            obtain ⟨hq2, -⟩ := HR5.out.own.setE (i := p) (by omega) rfl xj
            obtain ⟨⟨-, f2⟩⟩ : _ ∧ True := ⟨hq2 0 (by omega), trivial⟩
            simp only [Nat.mul_one, Nat.add_zero] at f1 f2
            clear hq1 hq2
            go_wp2
            go_region
            have HR6 : Hid (RowS wb ((w5.setCell ⟨g, j, none⟩ (.int .i64 (xp : Int))).setCell ⟨g, p, none⟩ (.int .i64 (xj : Int))).drew L.length g m c ((lj.set j xp).set p xj)) := by
              obtain ⟨-, ho1, hg1, -⟩ := HR5.out.own.setE (i := j) (by have := HPQ.out.2; have := HLJ.out; omega) rfl xp
              obtain ⟨-, ho2, hg2, -⟩ := ho1.setE (i := p) (by have := HPQ.out; have := HLJ.out; omega) rfl xj
              simp only [Nat.mul_one] at ho1 hg1 ho2 hg2
              have hE1 := HR5.out.ext.grown hg1 HR5.out.own.ge
              have hE2 := hE1.grown hg2 ho1.ge
              refine ⟨hE2.drew, ho2.ext (Ext.refl _).drew, fun y hy => ?_⟩
              rcases List.mem_or_eq_of_mem_set hy with hy | rfl
              · rcases List.mem_or_eq_of_mem_set hy with hy | rfl
                · exact HR5.out.lt y hy
                · exact HXJ.out.2
              · exact HXJ.out.1
            clear d1 d2 f1 f2
            go_wp2
            go_roundg gy'
            case measure => omega
            case rel => exact ⟨p, (lj.set j xp).set p xj, by have := HPQ.out.1; omega, by have := HPQ.out.1; omega, by go_num, HR6⟩
        · have hj0i : ¬ (0 : Int) < (j : Int) := by omega
          go_wp2
          refine wp_region_ext_lit (by kernel_rfl) (by kernel_rfl) ?_
          try dsimp only [List.append]
          repeat (go_big_quiet_step (fail))
          refine wpQuiet_nil ?_
          rintro w5 ⟨⟨_, h5⟩, rfl⟩
          try dsimp only
          have HR5 := Lib.hid (HRJ.out.extn h5)
          clear h5
          go_wp2
          go_roundg gz'
          case measure => omega
          case rel => exact ⟨i + 1, lj, by omega, by omega, by go_num, HR5⟩
    · have himi : ¬ (i : Int) < (m : Int) := by omega
      go_wp2
      go_end0
      exact ⟨rfl, li, HR.out⟩
end
end Go.Proofs.YtdgppdiickmofaaGreatDoor
