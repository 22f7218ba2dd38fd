/- The reference's Ends. -/
import Derived.Test.YtoghaehcmbonnaaGreatDoorJrnQ
import Derived.Test.YtoghaehcmbonnaaGreatDoorJrnR
import Derived.Test.YtoghaehcmbonnaaGreatDoorJrnB
namespace Go.Proofs.YtoghaehcmbonnaaGreatDoor
open Go.RowKit
set_option maxRecDepth 100000
attribute [local go_sem] ext_refl_t ext_alloc_t ext_drew_t ext_drewN_t ext_alloc2_t ext_alloc3_t ext_alloc4_t ext_alloc5_t ext_alloc6_t ext_alloc7_t ext_alloc8_t ext_alloc1d_t ext_alloc2d_t ext_alloc3d_t ext_alloc4d_t
/-- Where the text and the frames end. -/
def endN (l : List Ev) (i : Nat) : Nat := (runJ (l.take i)).bs.length
def endsL (l : List Ev) (n : Nat) : List Int := (List.range n).map fun i => (endN l i : Int)
theorem endsL_len (l : List Ev) (n : Nat) : (endsL l n).length = n := by unfold endsL; rw [List.length_map, List.length_range]
theorem endsL_succ (l : List Ev) (n : Nat) : endsL l (n + 1) = endsL l n ++ [(endN l n : Int)] := by unfold endsL; rw [List.range_succ, List.map_append]; rfl
theorem endsL_at (l : List Ev) (n i : Nat) (h : i < (endsL l n).length) : (endsL l n)[i] = (endN l i : Int) := by
  simp [endsL]
theorem endN_succ (l : List Ev) (i : Nat) (h : i < l.length) : endN l (i + 1) = endN l i + (26 + (encE l[i]).length) := by
  unfold endN
  rw [List.take_succ_eq_append_getElem h, runJ_bslen]
theorem endN_zero (l : List Ev) : endN l 0 = 5 := rfl
theorem slc_int1 {W : World} {a : Nat} (z : Int) (h : Blk W a 3 #[.int .i64 z]) : SlC intC 1 W (some ⟨a, 0, none⟩) 1 [z] := by
  refine ⟨⟨rfl, fun _ => ⟨_, rfl, h.lt, fun q u hu => ?_⟩⟩, intC_len, rfl, by omega⟩
  rw [Addr.add_lit, Nat.zero_add, h.cell q, ← hu]
  simp [intC]
theorem osc_int1 (w : World) (z : Int) : OsC intC 3 1 (w.alloc (.cells #[.int .i64 z] 3)) w.heap.size (some ⟨w.heap.size, 0, none⟩) 1 1 [z] := by
  have h1 := World.ownsRow_lit (e := 3) (size := 1) w #[.int .i64 z] 1 (Nat.le_refl w.heap.size) (by simp [maxLen]) (by simp)
  exact ⟨by simpa [intC] using h1, intC_len, intC_one, rfl, by omega⟩
section
variable {w : World}
set_option maxHeartbeats 6400000 in
theorem rends_any {A : Option Addr} {m : Nat} (c : Nat) {l : List Ev} (hs : SlC evC 8 w A m l) (hm : m ≤ 20) (hf : ∀ x ∈ l, sumE x ≤ 2000) (hg : ∀ x ∈ l, GoodE x) :
    Calls Tryz.prog 15 #[.slice A m c] w fun e w' => ∃ A' m' c', e = .returned (.slice A' m' c') ∧ OsC intC 3 1 w' w.heap.size A' m' c' (endsL l (m + 1)) ∧ Ext w w' := by
  have HL := Lib.hid hs.len
  have HF := Lib.hid hf
  have HG := Lib.hid hg
  have hnew := osc_int1 w 5
  have hE1 : Ext w (w.alloc (Obj.cells #[.int .i64 5] 3)) := (Ext.refl w).alloc _
  clear hf hg
  go_enter Tryz.func15, Tryz.ntmps15
  go_wp2
  go_loopw [3, 4] (fun v i wr => ∃ (q : Nat) (Ao : Option Addr) (mo co : Nat), q ≤ m ∧ v = .slice Ao mo co ∧ i = .int .i64 q ∧ Hid (OsC intC 3 1 wr w.heap.size Ao mo co (endsL l (q + 1))) ∧ Hid (Ext w wr)) (fun _ i _ => m - (intOf i).toNat)
  case atStart => exact ⟨0, _, 1, 1, Nat.zero_le _, rfl, rfl, hnew, hE1⟩
  case round =>
    obtain ⟨q, Ao, mo, co, hq, rfl, rfl, HO, HE⟩ := hrel
    by_cases hlt : q < m
    · have i1 : (q : Int) < (m : Int) := by omega
      have hlt1 : q < l.length := by rw [← HL.out]; exact hlt
      obtain ⟨bq, off, eA, _, hcs⟩ := (hs.ext HE.out).at_ hlt (by omega)
      subst eA
      obtain ⟨x, hx⟩ : ∃ x, x = l[q] := ⟨_, rfl⟩
      have hxg : GoodE x := by rw [hx]; exact HG.out _ (List.getElem_mem hlt1)
      have hxf : sumE x ≤ 2000 := by rw [hx]; exact HF.out _ (List.getElem_mem hlt1)
      have hel := encE_len x
      have hmo : mo = q + 1 := by rw [HO.out.len, endsL_len]
      obtain ⟨bo, oo, eO, _, hco⟩ := HO.out.sl.at_ (show 0 < mo by omega) (by omega)
      have hen := endN_succ l q hlt1
      rw [← hx] at hen
      obtain ⟨a0, ha0⟩ : ∃ a0, a0 = endN l q := ⟨_, rfl⟩
      have z0 := hco q (by rw [endsL_len]; omega) 0 (by omega)
      simp only [endsL_at, intC, List.getElem_cons_zero, Nat.mul_one, Nat.add_zero] at z0
      rw [← ha0] at z0 hen
      subst eO
      have x0 := hcs q hlt1 0 (by omega)
      have x1 := hcs q hlt1 1 (by omega)
      have x2 := hcs q hlt1 2 (by omega)
      have x3 := hcs q hlt1 3 (by omega)
      have x4 := hcs q hlt1 4 (by omega)
      have x5 := hcs q hlt1 5 (by omega)
      have x6 := hcs q hlt1 6 (by omega)
      have x7 := hcs q hlt1 7 (by omega)
      simp only [← hx, evC, List.getElem_cons_zero, List.getElem_cons_succ, Nat.add_zero, ← Nat.add_assoc] at x0 x1 x2 x3 x4 x5 x6 x7
      obtain ⟨kd, who, nam, id, txt, xa, xb, xt⟩ := x
      dsimp only at x0 x1 x2 x3 x4 x5 x6 x7
      obtain ⟨le, hle⟩ : ∃ le, le = encE ⟨kd, who, nam, id, txt, xa, xb, xt⟩ := ⟨_, rfl⟩
      have HENC : Hid (∀ W : World, Calls Tryz.prog 30 #[.agg #[.int .i64 kd, .string who, .string nam, .string id, .string txt, .int .i64 xa, .int .i64 xb, .int .i64 xt]] W fun e w' => ∃ A m c, e = .returned (.slice A m c) ∧ OsB w' W.heap.size A m c le ∧ Ext W w') := fun W => by rw [hle]; exact rjenc_any _ hxg (by unfold sumE at hxf; dsimp only at hxf ⊢; omega)
      have hle2 : le.length ≤ 2072 := by rw [hle]; unfold sumE at hxf; dsimp only at hel hxf; omega
      have hen2 : endN l (q + 1) = a0 + (26 + le.length) := by rw [hen, hle]
      have hab : a0 ≤ 100000 := by
        rw [ha0]
        have h1 := (runJ_ok (l.take q) (fun y hy => HF.out y (List.mem_of_mem_take hy))).2.2.2.2
        have h2 : (l.take q).length = q := by rw [List.length_take]; omega
        unfold endN
        rw [h2] at h1
        omega
      have HEN := Lib.hid hen2
      have HLE := Lib.hid hle2
      have Z0 := laters z0
      have X0 := laters x0
      have X1 := laters x1
      have X2 := laters x2
      have X3 := laters x3
      have X4 := laters x4
      have X5 := laters x5
      have X6 := laters x6
      have X7 := laters x7
      have hq1 : (q : Int) < (mo : Int) := by omega
      have hab0 : (0 : Int) ≤ (a0 : Int) := by omega
      have hb0 : (mo + 1) * 8 ≤ 140737488355328 := by omega
      have hw1 : IntKind.i64.wrap ((a0 : Int) + 18) = (a0 : Int) + 18 := IntWalk.i64_in _ (by omega)
      have hw2 : ∀ n : Nat, n ≤ 2072 → IntKind.i64.wrap ((a0 : Int) + 18 + (n : Int)) = (a0 : Int) + 18 + (n : Int) := fun n hn => IntWalk.i64_in _ (by omega)
      have hw3 : ∀ n : Nat, n ≤ 2072 → IntKind.i64.wrap ((a0 : Int) + 18 + (n : Int) + 8) = (a0 : Int) + 18 + (n : Int) + 8 := fun n hn => IntWalk.i64_in _ (by omega)
      clear hcs hx hco hel hmo hen hen2 hle hle2 ha0 z0 x0 x1 x2 x3 x4 x5 x6 x7 hxg hxf
      go_wp2
      go_region_law
        (first
          | (refine step_appC einfo_in rfl _ _ rfl (HO.out.ext (hE5.trans ((Ext.refl _).alloc _))) rfl (slc_int1 _ (Blk.new _ _ _)) rfl hb0 (Nat.le_trans HE.out.size_le (hE5.trans ((Ext.refl _).alloc _)).size_le) ?_
             intro A7 m7 c7 w7 ho7 hg7 hN7)
          | (go_simp
             go_at_call 30
             refine (HENC.out _).mono ?_
             rintro e w5 ⟨A5, m5, c5, rfl, ho5, hE5'⟩
             have hE5 : Ext wr w5 := Ext.trans (by first | exact Ext.refl _ | exact (Ext.refl _).drew) hE5'
             have hm5 : m5 ≤ 2072 := by rw [ho5.len]; exact HLE.out
             have HM5 : Hid (m5 = le.length) := ho5.len
             have hw2a := hw2 m5 hm5
             have hw3a := hw3 m5 hm5)
          | fail)
      all_goals
        have HO7 : Hid (OsC intC 3 1 w7 w.heap.size A7 m7 c7 (endsL l (q + 1 + 1))) := by
          show OsC _ _ _ _ _ _ _ _ _
          have h1 : ((endN l (q + 1) : Nat) : Int) = (a0 : Int) + 18 + (m5 : Int) + 8 := by rw [HEN.out, HM5.out]; omega
          rw [endsL_succ, h1]
          exact ho7
        have HE7 : Hid (Ext w w7) := ((HE.out.trans hE5).alloc _).grown hg7 (fun g hg => HO.out.ge g hg)
        clear ho7 hg7 hN7 ho5 hE5 hE5' Z0 X0 X1 X2 X3 X4 X5 X6 X7 hw1 hw2 hw3 hw2a hw3a
        go_wp2
        go_roundw
        case rel =>
          first
          | exact ⟨q + 1, A7, m7, c7, by omega, rfl, by go_num, HO7.out, HE7.out⟩
          | (repeat apply Exists.intro
             refine ⟨?rl, ?fr⟩
             case fr => exact rfl
             case rl => exact ⟨q + 1, A7, m7, c7, by omega, rfl, by go_num, HO7.out, HE7.out⟩)
        case measure => simp [intOf]; omega
    · have i1 : ¬ (q : Int) < (m : Int) := by omega
      have hqm : q = m := by omega
      rw [hqm] at HO
      clear hqm
      go_wp2
      go_ret
      exact ⟨Ao, mo, co, rfl, HO.out, HE.out⟩
end
end Go.Proofs.YtoghaehcmbonnaaGreatDoor
