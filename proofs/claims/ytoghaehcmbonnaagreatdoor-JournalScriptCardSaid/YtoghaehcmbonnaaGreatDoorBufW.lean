/- bytes.Buffer's Write and WriteString. -/
import Derived.Test.YtoghaehcmbonnaaGreatDoorBuf
namespace Go.Proofs.YtoghaehcmbonnaaGreatDoor
open Go.RowKit
set_option maxRecDepth 100000

/-- The buffer has been written to. -/
def Wr (w w' : World) (T : TypeId) (R : Nat → Option Value) (b q : Nat) (G : Option Nat) (l : List UInt8) : Prop :=
  ∃ G', Bf w' T R b q G' l ∧ NewOr w.heap.size G G' ∧ KeepS (fun k => k = b ∨ G = some k) w w'
section
variable {w w' w0 : World} {T : TypeId} {R : Nat → Option Value} {b q : Nat} {G : Option Nat} {l : List UInt8}
theorem Wr.last (h : Wr (w.setCell ⟨b, q + 2, none⟩ (.int .i8 0)) w' T R b q G l) : Wr w w' T R b q G l := by
  obtain ⟨G', h1, h2, h3⟩ := h
  refine ⟨G', h1, by simpa [World.setCell] using h2, ((KeepS.setCell w b (q + 2) _).mono fun _ _ e => .inl e).trans h3 fun _ _ e => e⟩
theorem byteCells_bys (s : ByteArray) : Lib.byteCells s.data.toList = (bys s).map bv := rfl
set_option maxHeartbeats 3200000 in
theorem bwrite_any {A : Option Addr} {m : Nat} (c : Nat) {x : List UInt8} (h : Bf w T R b q G l) (hl : 1 ≤ l.length) (hs : SlB w A m x) (hA : ob A ≠ some b) (hm : 1 ≤ m) (hlim : l.length + m ≤ 140737488355328) :
    Calls Tryz.prog 41 #[.pointer (some ⟨b, q, none⟩), .slice A m c] w fun e w' => e = .returned (.tuple #[.int .i64 m, .nilIface]) ∧ Wr w w' T R b q G (l ++ x) := by
  obtain ⟨lr, ⟨_, rfl, _⟩ | ⟨g, cap, cur, rfl, h3, hg, hnc, hcm, hcs, htk, hgb⟩⟩ := h.cases
  · simp at hl
  · have hsl : SlB (w.setCell ⟨b, q + 2, none⟩ (.int .i8 0)) A m x := (KeepS.setCell w b (q + 2) _).slb hs fun k hk e => hA (by rw [hk, e])
    have h3' := h3.set2 (.int .i8 0)
    have hg' : (w.setCell ⟨b, q + 2, none⟩ (.int .i8 0)).heap[g]? = some (.cells cur 5 (0, 0)) := (Below.heap_setCell w _ _ _ hgb).trans hg
    have c2 := h3.c2
    have f2 := h3.f (q + 2)
    have c0 := h3'.c0
    have f0 := h3'.f q
    have hxl := hs.len
    have hcm' := hcm
    unfold maxLen at hcm'
    obtain ⟨n, hn⟩ : ∃ n, n = l.length := ⟨_, rfl⟩
    have HN := Lib.hid hn
    rw [← hn] at c0 hnc hlim hl
    have hX := Lib.hid hxl
    clear hxl hn
    go_enter Tryz.func41, Tryz.ntmps41
    by_cases hroom : n + m ≤ cap
    · skip
      go_wp2_with (first
        | (go_at_call 53; refine Hid.out ?_))
      refine Hid.mk_ ((Any.Buffer_tryGrow_room_at { Tryz.laysWrite with } b q (some ⟨g, 0, none⟩) n cap m _ c0 f0 hnc hcm (by omega)).mono ?_)
      rintro e w1 ⟨rfl, hw1⟩
      have hR : Rm (w.setCell ⟨b, q + 2, none⟩ (.int .i8 0)) w1 T R b q (some g) l m := by
        rw [hw1, HN.out]
        rw [HN.out] at hroom
        exact rm_room h3' hg' hroom hcm hcs htk hgb
      clear hw1
      obtain ⟨g', cap', cur', lr', h31, hg1, hnc1, hcm1, hcs1, htk1, hgb1, hG1, hk1⟩ := hR
      have hs1 := hk1.slb hsl fun k hk e => hA (by rw [hk, e])
      obtain ⟨a, rfl⟩ : ∃ a, A = some a := by
        obtain ⟨ad, e, _⟩ := hs.rd.2 (by omega)
        exact ⟨ad, e⟩
      have hsrc1 : ∀ j v, (x.map bv)[j]? = some v → w1.cell? (a.add j) = some v := by
        obtain ⟨ad, e, _, hc⟩ := hs1.rd.2 (by omega)
        injection e with e
        subst e
        exact hc
      have d0 := h31.c0
      have hcp := run_copy_row (P := Tryz.prog) w1 22 22 3 5 g' l.length m (cap' - l.length) a m c cur' 5 (x.map bv) Tryz.underlying22 infoS_u8 hg1 (by rw [List.length_map, ← hX.out]; exact (Nat.min_self m).symm) hsrc1 (by rw [List.length_map, ← hX.out]; omega) (bv_one x)
      rw [List.length_map, ← hX.out] at hcp
      have hcm1' := hcm1
      unfold maxLen at hcm1'
      have hfin := Lib.hid (Rm.copied h31 hg1 hnc1 hcm1 hcs1 htk1 hgb1 hG1 hk1 hX.out.symm)
      rw [← HN.out] at d0 hcp hnc1
      have hne : ¬ cap' = n := by omega
      clear hs1 hsrc1
      go_wp2
      go_ret2
      have hf := hfin.out
      rw [← HN.out, List.append_assoc] at hf
      exact ⟨rfl, Wr.last hf⟩
    · skip
      go_wp2_with (first
        | (go_at_call 53; refine Hid.out ?_))
      refine Hid.mk_ ((Any.Buffer_tryGrow_none_at { Tryz.laysWrite with } b q (some ⟨g, 0, none⟩) n cap m _ c0 hnc hcm (by omega)).mono ?_)
      rintro e w1 ⟨rfl, hw1⟩
      subst hw1
      go_wp2_with (first
        | (go_at_call 54; refine Hid.out ?_))
      refine Hid.mk_ ((bufgrow_row h3' hg' (by rw [← HN.out]; exact hnc) hcm hcs htk hgb (by rw [← HN.out]; exact hl) hm (by rw [← HN.out]; omega) (by rw [← HN.out]; exact hlim)).mono ?_)
      rintro e w1 ⟨rfl, hR⟩
      rw [← HN.out]
      obtain ⟨g', cap', cur', lr', h31, hg1, hnc1, hcm1, hcs1, htk1, hgb1, hG1, hk1⟩ := hR
      have hs1 := hk1.slb hsl fun k hk e => hA (by rw [hk, e])
      obtain ⟨a, rfl⟩ : ∃ a, A = some a := by
        obtain ⟨ad, e, _⟩ := hs.rd.2 (by omega)
        exact ⟨ad, e⟩
      have hsrc1 : ∀ j v, (x.map bv)[j]? = some v → w1.cell? (a.add j) = some v := by
        obtain ⟨ad, e, _, hc⟩ := hs1.rd.2 (by omega)
        injection e with e
        subst e
        exact hc
      have d0 := h31.c0
      have hcp := run_copy_row (P := Tryz.prog) w1 22 22 3 5 g' l.length m (cap' - l.length) a m c cur' 5 (x.map bv) Tryz.underlying22 infoS_u8 hg1 (by rw [List.length_map, ← hX.out]; exact (Nat.min_self m).symm) hsrc1 (by rw [List.length_map, ← hX.out]; omega) (bv_one x)
      rw [List.length_map, ← hX.out] at hcp
      have hcm1' := hcm1
      unfold maxLen at hcm1'
      have hfin := Lib.hid (Rm.copied h31 hg1 hnc1 hcm1 hcs1 htk1 hgb1 hG1 hk1 hX.out.symm)
      rw [← HN.out] at d0 hcp hnc1
      have hne : ¬ cap' = n := by omega
      clear hs1 hsrc1
      go_wp2
      go_ret2
      have hf := hfin.out
      rw [← HN.out, List.append_assoc] at hf
      exact ⟨rfl, Wr.last hf⟩
set_option maxHeartbeats 3200000 in
theorem bwrites_any (s : ByteArray) (h : Bf w T R b q G l) (hl : 1 ≤ l.length) (hm : 1 ≤ s.size) (hlim : l.length + s.size ≤ 140737488355328) :
    Calls Tryz.prog 34 #[.pointer (some ⟨b, q, none⟩), .string s] w fun e w' => e = .returned (.tuple #[.int .i64 s.size, .nilIface]) ∧ Wr w w' T R b q G (l ++ bys s) := by
  obtain ⟨lr, ⟨_, rfl, _⟩ | ⟨g, cap, cur, rfl, h3, hg, hnc, hcm, hcs, htk, hgb⟩⟩ := h.cases
  · simp at hl
  · have h3' := h3.set2 (.int .i8 0)
    have hg' : (w.setCell ⟨b, q + 2, none⟩ (.int .i8 0)).heap[g]? = some (.cells cur 5 (0, 0)) := (Below.heap_setCell w _ _ _ hgb).trans hg
    have c2 := h3.c2
    have f2 := h3.f (q + 2)
    have c0 := h3'.c0
    have f0 := h3'.f q
    obtain ⟨m, hmm⟩ : ∃ m, m = s.size := ⟨_, rfl⟩
    have hxl : m = (bys s).length := by rw [bys_len]; exact hmm
    rw [← hmm] at hm hlim ⊢
    have hms := hmm.symm
    have hcm' := hcm
    unfold maxLen at hcm'
    obtain ⟨n, hn⟩ : ∃ n, n = l.length := ⟨_, rfl⟩
    have HN := Lib.hid hn
    rw [← hn] at c0 hnc hlim hl
    have hX := Lib.hid hxl
    clear hxl hn hmm
    go_enter Tryz.func34, Tryz.ntmps34
    by_cases hroom : n + m ≤ cap
    · skip
      go_wp2_with (first
        | (go_at_call 53; refine Hid.out ?_))
      refine Hid.mk_ ((Any.Buffer_tryGrow_room_at { Tryz.laysWrite with } b q (some ⟨g, 0, none⟩) n cap m _ c0 f0 hnc hcm (by omega)).mono ?_)
      rintro e w1 ⟨rfl, hw1⟩
      have hR : Rm (w.setCell ⟨b, q + 2, none⟩ (.int .i8 0)) w1 T R b q (some g) l m := by
        rw [hw1, HN.out]
        rw [HN.out] at hroom
        exact rm_room h3' hg' hroom hcm hcs htk hgb
      clear hw1
      obtain ⟨g', cap', cur', lr', h31, hg1, hnc1, hcm1, hcs1, htk1, hgb1, hG1, hk1⟩ := hR
      have d0 := h31.c0
      have hcp := Lib.run_copy_row_string (P := Tryz.prog) w1 22 9 3 5 g' l.length m (cap' - l.length) s cur' 5 Tryz.underlying22 infoS_u8 hg1 (by rw [hms]; exact Nat.le_refl _) (by rw [hms]; omega)
      rw [hms, byteCells_bys] at hcp
      have hcm1' := hcm1
      unfold maxLen at hcm1'
      have hfin := Lib.hid (Rm.copied h31 hg1 hnc1 hcm1 hcs1 htk1 hgb1 hG1 hk1 hX.out.symm)
      rw [← HN.out] at d0 hcp hnc1
      have hne : ¬ cap' = n := by omega
      go_wp2
      go_ret2
      have hf := hfin.out
      rw [← HN.out, List.append_assoc] at hf
      exact ⟨rfl, Wr.last hf⟩
    · skip
      go_wp2_with (first
        | (go_at_call 53; refine Hid.out ?_))
      refine Hid.mk_ ((Any.Buffer_tryGrow_none_at { Tryz.laysWrite with } b q (some ⟨g, 0, none⟩) n cap m _ c0 hnc hcm (by omega)).mono ?_)
      rintro e w1 ⟨rfl, hw1⟩
      subst hw1
      go_wp2_with (first
        | (go_at_call 54; refine Hid.out ?_))
      refine Hid.mk_ ((bufgrow_row h3' hg' (by rw [← HN.out]; exact hnc) hcm hcs htk hgb (by rw [← HN.out]; exact hl) hm (by rw [← HN.out]; omega) (by rw [← HN.out]; exact hlim)).mono ?_)
      rintro e w1 ⟨rfl, hR⟩
      rw [← HN.out]
      obtain ⟨g', cap', cur', lr', h31, hg1, hnc1, hcm1, hcs1, htk1, hgb1, hG1, hk1⟩ := hR
      have d0 := h31.c0
      have hcp := Lib.run_copy_row_string (P := Tryz.prog) w1 22 9 3 5 g' l.length m (cap' - l.length) s cur' 5 Tryz.underlying22 infoS_u8 hg1 (by rw [hms]; exact Nat.le_refl _) (by rw [hms]; omega)
      rw [hms, byteCells_bys] at hcp
      have hcm1' := hcm1
      unfold maxLen at hcm1'
      have hfin := Lib.hid (Rm.copied h31 hg1 hnc1 hcm1 hcs1 htk1 hgb1 hG1 hk1 hX.out.symm)
      rw [← HN.out] at d0 hcp hnc1
      have hne : ¬ cap' = n := by omega
      go_wp2
      go_ret2
      have hf := hfin.out
      rw [← HN.out, List.append_assoc] at hf
      exact ⟨rfl, Wr.last hf⟩
set_option maxHeartbeats 3200000 in
/-- The first text that a nil buffer takes. -/
theorem bwrites_nil (s : ByteArray) (h : Bf w T R b q none []) (hm : 1 ≤ s.size) (hlim : s.size ≤ 64) :
    Calls Tryz.prog 34 #[.pointer (some ⟨b, q, none⟩), .string s] w fun e w' => e = .returned (.tuple #[.int .i64 s.size, .nilIface]) ∧ Wr w w' T R b q none ([] ++ bys s) := by
  obtain ⟨lr, ⟨_, _, h3⟩ | ⟨g, cap, cur, hx, _⟩⟩ := h.cases
  · have h3' := h3.set2 (.int .i8 0)
    have c2 := h3.c2
    have f2 := h3.f (q + 2)
    have c0 := h3'.c0
    obtain ⟨l, hl⟩ : ∃ l : List UInt8, l = [] := ⟨_, rfl⟩
    rw [← hl]
    obtain ⟨m, hmm⟩ : ∃ m, m = s.size := ⟨_, rfl⟩
    have hxl : m = (bys s).length := by rw [bys_len]; exact hmm
    rw [← hmm] at hm hlim ⊢
    have hms := hmm.symm
    obtain ⟨n, hn⟩ : ∃ n, n = l.length := ⟨_, rfl⟩
    have HL := Lib.hid hl
    have HN := Lib.hid hn
    have hX := Lib.hid hxl
    have hle : n ≤ 0 := by rw [hn, hl]; exact Nat.le_refl _
    clear hxl hn hmm hl
    go_enter Tryz.func34, Tryz.ntmps34
    go_wp2_with (first
      | (go_at_call 53; refine Hid.out ?_))
    refine Hid.mk_ ((Any.Buffer_tryGrow_none_at { Tryz.laysWrite with } b q none 0 0 m _ c0 (Nat.le_refl _) (by unfold maxLen; omega) (by omega)).mono ?_)
    rintro e w1 ⟨rfl, hw1⟩
    subst hw1
    go_wp2_with (first
      | (go_at_call 54; refine Hid.out ?_))
    refine Hid.mk_ ((bufgrow_nil h3' hm hlim).mono ?_)
    rintro e w1 ⟨rfl, hR⟩
    rw [← HL.out] at hR ⊢
    rw [← HN.out]
    obtain ⟨g', cap', cur', lr', h31, hg1, hnc1, hcm1, hcs1, htk1, hgb1, hG1, hk1⟩ := hR
    have d0 := h31.c0
    have hcp := Lib.run_copy_row_string (P := Tryz.prog) w1 22 9 3 5 g' l.length m (cap' - l.length) s cur' 5 Tryz.underlying22 infoS_u8 hg1 (by rw [hms]; exact Nat.le_refl _) (by rw [hms]; omega)
    rw [hms, byteCells_bys] at hcp
    have hcm1' := hcm1
    unfold maxLen at hcm1'
    have hfin := Lib.hid (Rm.copied h31 hg1 hnc1 hcm1 hcs1 htk1 hgb1 hG1 hk1 hX.out.symm)
    rw [← HN.out] at d0 hcp hnc1
    have hne : ¬ cap' = n := by omega
    go_wp2
    go_ret2
    have hf := hfin.out
    rw [← HN.out, List.append_assoc] at hf
    exact ⟨rfl, Wr.last hf⟩
  · cases hx
end

end Go.Proofs.YtoghaehcmbonnaaGreatDoor
