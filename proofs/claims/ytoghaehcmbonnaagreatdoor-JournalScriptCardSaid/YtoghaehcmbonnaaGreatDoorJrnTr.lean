/- Truncate of a journal. -/
import Derived.Test.YtoghaehcmbonnaaGreatDoorJrnX
import Derived.IntWalk
namespace Go.Proofs.YtoghaehcmbonnaaGreatDoor
open Go.RowKit
set_option maxRecDepth 100000
attribute [local go_sem] ext_refl_t ext_alloc_t ext_drew_t ext_drewN_t ext_alloc2_t ext_alloc3_t ext_alloc4_t ext_alloc5_t ext_alloc6_t ext_alloc7_t ext_alloc8_t ext_alloc1d_t ext_alloc2d_t ext_alloc3d_t ext_alloc4d_t
theorem runJ_pre3 (t : List Ev) : ∀ u : List Ev, ∃ re rk r, (runJ (u ++ t)).es = (runJ u).es ++ re ∧ (runJ (u ++ t)).ks = (runJ u).ks ++ rk ∧ (runJ (u ++ t)).bs = (runJ u).bs ++ r := by
  induction t with
  | nil => intro u; rw [List.append_nil]; exact ⟨[], [], [], by simp, by simp, by simp⟩
  | cons x t ih =>
    intro u
    obtain ⟨re, rk, r, h1, h2, h3⟩ := ih (u ++ [x])
    rw [List.append_assoc, List.singleton_append] at h1 h2 h3
    rw [h1, h2, h3, runJ_snoc]
    unfold stepJ
    exact ⟨_, _, _, List.append_assoc _ _ _, List.append_assoc _ _ _, List.append_assoc _ _ _⟩
theorem runJ_take (l : List Ev) (n : Nat) (h : n ≤ l.length) : (runJ (l.take n)).es = (runJ l).es.take n ∧ (runJ (l.take n)).ks = (runJ l).ks.take n ∧ (runJ (l.take n)).bs = (runJ l).bs.take (runJ (l.take n)).bs.length ∧ (runJ (l.take n)).bs.length ≤ (runJ l).bs.length := by
  obtain ⟨re, rk, r, h1, h2, h3⟩ := runJ_pre3 (l.drop n) (l.take n)
  rw [List.take_append_drop] at h1 h2 h3
  obtain ⟨_, e1, e2, _⟩ := runJ_st (l.take n)
  have hn : (l.take n).length = n := by rw [List.length_take]; omega
  rw [hn] at e1 e2
  refine ⟨?_, ?_, ?_, ?_⟩
  · rw [h1, List.take_left' e1]
  · rw [h2, List.take_left' e2]
  · rw [h3, List.take_left]
  · rw [h3, List.length_append]; omega
theorem runJ_key (l : List Ev) (n : Nat) (h : n < l.length) : (runJ l).ks[n]? = some (runJ (l.take n)).k := by
  obtain ⟨_, _, e2, _⟩ := runJ_st (l.take n)
  have hn : (l.take n).length = n := by rw [List.length_take]; omega
  rw [hn] at e2
  have h2 := (runJ_take l (n + 1) h).2.1
  rw [runJ_next l n h] at h2
  have h3 : ((runJ l).ks.take (n + 1))[n]? = some (runJ (l.take n)).k := by
    rw [← h2]
    unfold stepJ
    show ((runJ (l.take n)).ks ++ [(runJ (l.take n)).k])[n]? = _
    rw [List.getElem?_append_right (by omega), e2, Nat.sub_self]
    rfl
  rw [List.getElem?_take_of_lt (Nat.lt_succ_self n)] at h3
  exact h3
theorem runJ_end (l : List Ev) (n : Nat) (h : n < l.length) : (runJ l).es[n]? = some ((runJ (l.take (n + 1))).bs.length : Int) := by
  obtain ⟨_, e1, _, _⟩ := runJ_st (l.take n)
  have hn : (l.take n).length = n := by rw [List.length_take]; omega
  rw [hn] at e1
  have h2 := (runJ_take l (n + 1) h).1
  rw [runJ_next l n h] at h2 ⊢
  have h3 : ((runJ l).es.take (n + 1))[n]? = some ((stepJ (runJ (l.take n)) l[n]).bs.length : Int) := by
    rw [← h2]
    unfold stepJ
    show ((runJ (l.take n)).es ++ [_])[n]? = _
    rw [List.getElem?_append_right (by omega), e1, Nat.sub_self]
    rfl
  rw [List.getElem?_take_of_lt (Nat.lt_succ_self n)] at h3
  exact h3
section
variable {w : World} {T : TypeId} {R : Nat → Option Value} {b q : Nat} {G : Option Nat} {l : List UInt8}
/-- The buffer keeps its first n bytes. -/
theorem Bf.cut {g cap : Nat} {cur : Array Value} {lr : Int} {n : Nat} (h3 : LibA.Three w b q T R (.slice (some ⟨g, 0, none⟩) n cap) (.int .i64 0) (.int .i8 lr)) (hg : w.heap[g]? = some (.cells cur 5 (0, 0))) (hnl : n ≤ l.length) (hnc : l.length ≤ cap) (hcm : cap ≤ maxLen) (hcs : cur.size = cap)
    (htk : cur.toList.take l.length = l.map bv) (hgb : g ≠ b) : Bf w T R b q (some g) (l.take n) := by
  have h4 := LibA.isBuffer_mk (B := 0) (Nat.zero_le _) h3 (Nat.zero_le _) hg (by omega) hcm hcs hgb
  have h5 : cur.toList.take n = (l.take n).map bv := by
    rw [List.map_take, ← htk, List.take_take, Nat.min_eq_left hnl]
  rw [h5] at h4
  exact ⟨h4, _, h3.c0, rfl⟩
theorem Bf.heap {w w' : World} {T : TypeId} {R : Nat → Option Value} {b q : Nat} {G : Option Nat} {l : List UInt8} (h : Bf w T R b q G l) (e : w'.heap = w.heap) : Bf w' T R b q G l := by
  obtain ⟨lr, ⟨rfl, rfl, h3⟩ | ⟨g, cap, cur, rfl, h3, hg, hnc, hcm, hcs, htk, hgb⟩⟩ := h.cases
  · have h3' := h3.of_heap (w' := w') (by rw [e])
    exact ⟨LibA.zero_isBuffer (Nat.zero_le _) h3', _, h3'.c0, rfl⟩
  · have h3' := h3.of_heap (w' := w') (by rw [e])
    have h4 := LibA.isBuffer_mk (B := 0) (Nat.zero_le _) h3' (Nat.zero_le _) (by rw [e]; exact hg) hnc hcm hcs hgb
    rw [htk] at h4
    exact ⟨h4, _, h3'.c0, rfl⟩
theorem cutB_h (W : World) (kh : IntKind) (A : Option Addr) {m c j : Nat} (hj : j ≤ c) (hA : ∃ g, A = some ⟨g, 0, none⟩) : (Instr.sliceAt 22 (.slice A m c) none (some (.int kh (j : Int))) none).run Tryz.prog W = .ok (.slice A j c) W ∧
    (Instr.slice 22 (.slice A m c) none (some (.int kh (j : Int))) none).run Tryz.prog W = .ok (.slice A j c) W := by
  obtain ⟨i0, hi0, hz0, hz1, hz2⟩ := info_parts info_u8
  have e1 : (Tryz.prog.elem 22) = 5 := by kernel_rfl
  obtain ⟨g, rfl⟩ := hA
  apply sliceAtB
  rw [run_slice_h W _ _ _ _ Tryz.underlying22 _ _ (by omega) (by omega), e1]
  by_cases hc : c = 0
  · simp [sizeOf, typeInfo, hi0, hz1, sliced, hc]
  · simp [sizeOf, typeInfo, hi0, hz1, sliced, hc, Addr.add]
theorem cutC_hm {t e : TypeId} {k by_ : Nat} (I : EInfo t e k by_) (W : World) (kh km : IntKind) (A : Option Addr) {m c j : Nat} (hj : j ≤ c) (hA : ∃ g, A = some ⟨g, 0, none⟩) :
    (Instr.slice t (.slice A m c) none (some (.int kh (j : Int))) (some (.int km (j : Int)))).run Tryz.prog W = .ok (.slice A j j) W := by
  obtain ⟨i0, z, hi0, hz0, hz1, _, hz3⟩ := I.i
  have e1 : (Tryz.prog.elem t) = e := by simp [Program.elem, I.u]
  have hu : Tryz.prog.underlying t = some (.slice (Tryz.prog.elem t)) := by rw [e1]; exact I.u
  obtain ⟨g, rfl⟩ := hA
  rw [run_slice_hm W _ _ _ _ hu _ _ _ _ (by omega) (by omega) (by omega), e1]
  by_cases hc : j = 0
  · simp [sizeOf, typeInfo, hi0, hz1, sliced, hc]
  · simp [sizeOf, typeInfo, hi0, hz1, sliced, hc, Addr.add]
theorem bflen_any (hB : Bf w T R b q G l) : Calls Tryz.prog 23 #[.pointer (some ⟨b, q, none⟩)] w fun e w' => e = .returned (.int .i64 (l.length : Int)) ∧ ∃ k, w' = w.drewN k := by
  have h1 := Any.Buffer_Len_at Tryz.laysBLen T _ 0 b q _ w hB.isb
  rw [List.length_map] at h1
  refine h1.mono ?_
  rintro e w' ⟨rfl, q, rfl⟩
  exact ⟨rfl, q, rfl⟩
set_option maxHeartbeats 3200000 in
theorem jbtrunc_any (hB : Bf w T R b q G l) (n : Nat) (hn : 0 < n) (hnl : n ≤ l.length) (hl : l.length ≤ 1000000000000) :
    Calls Tryz.prog 33 #[.pointer (some ⟨b, q, none⟩), .int .i64 (n : Int)] w fun e w' => e = .returned (.tuple #[]) ∧ Bf w' T R b q G (l.take n) ∧ KeepS (fun g => g = b) w w' := by
  obtain ⟨lr, ⟨_, rfl, _⟩ | ⟨g, cap, cur, rfl, h3, hg, hnc, hcm, hcs, htk, hgb⟩⟩ := hB.cases
  · exact absurd hnl (by simp; omega)
  have c2 := h3.c2
  have f2 := h3.f (q + 2)
  have h3' := h3.set2 (.int .i8 0)
  have hB1 := hB.setLast 0
  have hK1 := KeepS.setCell w b (q + 2) (.int .i8 0)
  have hg1 : (w.setCell ⟨b, q + 2, none⟩ (.int .i8 0)).heap[g]? = some (.cells cur 5 (0, 0)) := (Below.heap_setCell w _ _ _ hgb).trans hg
  obtain ⟨W1, hW1⟩ : ∃ W1, W1 = w.setCell ⟨b, q + 2, none⟩ (.int .i8 0) := ⟨_, rfl⟩
  rw [← hW1] at hB1 hK1 h3' hg1
  have hlen := bflen_any hB1
  obtain ⟨m, hm⟩ : ∃ m, m = l.length := ⟨_, rfl⟩
  have HM := Lib.hid hm
  have hnm : n ≤ m := by omega
  have hn0 : ¬ (n : Int) < 0 := by omega
  have hn1 : ((n : Int) == 0) = false := by simp; omega
  have hn2 : ¬ (n : Int) = 0 := by omega
  have hnm2 : ¬ (m : Int) < (n : Int) := by omega
  rw [← hm] at hlen h3' hnc
  have HW := Lib.hid hW1
  clear h3 hB hB1 hm hg hW1 hl
  go_enter Tryz.func33, Tryz.ntmps33
  go_wp2_with (first
    | (go_at_call 23; refine Hid.out ?_))
  rw [← HW.out]
  refine Hid.mk_ (hlen.mono ?_)
  rintro e w2 ⟨rfl, k, rfl⟩
  have d0 : (W1.drewN k).cell? ⟨b, q, none⟩ = some (.slice (some ⟨g, 0, none⟩) m cap) := h3'.c0
  have d1 : (W1.drewN k).cell? ⟨b, q + 1, none⟩ = some (.int .i64 0) := h3'.c1
  have fq : (W1.drewN k).frozen? ⟨b, q, none⟩ = false := h3'.f q
  obtain ⟨W2, hW2⟩ : ∃ W2, W2 = W1.drewN k := ⟨_, rfl⟩
  have hq1 := fun W => (cutB_h W .i64 (some ⟨g, 0, none⟩) (m := m) (c := cap) (j := n) (by omega) ⟨g, rfl⟩).2
  have h32 : LibA.Three W2 b q T R (.slice (some ⟨g, 0, none⟩) m cap) (.int .i64 0) (.int .i8 0) := by rw [hW2]; exact h3'.of_heap rfl
  have hg2 : W2.heap[g]? = some (.cells cur 5 (0, 0)) := by rw [hW2]; exact hg1
  have hK2 : KeepS (fun g => g = b) w W2 := by rw [hW2]; exact hK1.ext ((Ext.refl _).drewN k)
  rw [← hW2] at d0 d1 fq ⊢
  clear hW2 hlen h3' hg1 hK1 c2 f2
  have H32 := Lib.hid h32
  have HG2 := Lib.hid hg2
  have HK2 := Lib.hid hK2
  clear h32 hg2 hK2
  have hcI : (n : Int) ≤ (cap : Int) := by omega
  have hn00 : (0 : Int) ≤ (n : Int) := by omega
  have hwn : IntKind.i64.wrap (n : Int) = (n : Int) := IntWalk.i64_in _ (by unfold maxLen at hcm; omega)
  go_wp2
  go_region_law (go_simp)
  all_goals
    have HF : Hid (Bf (W2.setCell ⟨b, q, none⟩ (.slice (some ⟨g, 0, none⟩) n cap)) T R b q (some g) (l.take n)) :=
      Bf.cut (H32.out.set0 _) ((Below.heap_setCell W2 _ _ _ hgb).trans HG2.out) hnl (by rw [← HM.out]; exact hnc) hcm hcs htk hgb
    have HKF : Hid (KeepS (fun g => g = b) w (W2.setCell ⟨b, q, none⟩ (.slice (some ⟨g, 0, none⟩) n cap))) := HK2.out.trans (KeepS.setCell W2 b q _) fun _ _ e => e
    go_wp2
    go_end0
    exact ⟨rfl, HF.out.heap rfl, HKF.out.ext (Ext.refl _).drew⟩
end
/-- The first n elements, and no room behind them. -/
theorem OsF.cutF {α : Type} {cs : α → List Value} {e : TypeId} {k : Nat} {w : World} {base : Nat} {A : Option Addr} {m c : Nat} {L : List α} (h : OsF cs e k w base A m c L) {n : Nat} (hn : n < m) : OsF cs e k w base A n n (L.take n) ∧ ∃ g, A = some ⟨g, 0, none⟩ := by
  rcases h with h | ⟨h1, h2, _, g, rfl, hg, ht⟩
  · obtain ⟨g, cur, rfl, hg, hh, _⟩ := h.row (by omega)
    exact ⟨.inr ⟨h.sl.take_ (Nat.le_of_lt hn), h.cell, rfl, g, rfl, hg, cur, _, hh⟩, g, rfl⟩
  · exact ⟨.inr ⟨h1.take_ (Nat.le_of_lt hn), h2, rfl, g, rfl, hg, ht⟩, g, rfl⟩
section
variable {w w' : World} {j : Nat} {S : Nat → Prop} {R : Nat → Option Value} {Ae : Option Addr} {me ce : Nat} {An : Option Addr} {mn cn : Nat} {Ak : Option Addr} {mk ck : Nat} {G : Option Nat} {l : List Ev} {es : List Int} {ks : List Nat} {bs bs' : List UInt8}
theorem JrX.bufk (h : JrX w j S R Ae me ce An mn cn Ak mk ck G l es ks bs) (hB : Bf w' 63 R j 1 G bs') (hK : KeepS (fun g => g = j) w w') : JrX w' j S R Ae me ce An mn cn Ak mk ck G l es ks bs' := by
  have hb := h.buf.tgb
  refine ⟨hB, h.ev.keep hK fun g hg e => ?_, h.en.keep hK fun g hg e => ?_, h.ky.keep hK fun g hg e => ?_, h.sj, h.sg, h.se, h.sn, h.sk⟩
  · subst e; exact absurd ((h.ev.tg hg).eq hb) (by decide)
  · subst e; exact absurd ((h.en.tg hg).eq hb) (by decide)
  · subst e; exact absurd ((h.ky.tg hg).eq hb) (by decide)
/-- The three slices are cut. -/
theorem JrX.cuts (h : JrX w j S R Ae me ce An mn cn Ak mk ck G l es ks bs) {n : Nat} (h1 : n < me) (h2 : n < mn) (h3 : n < mk) : JrX w j S R Ae n n An n n Ak n n G (l.take n) (es.take n) (ks.take n) bs :=
  ⟨h.buf, (h.ev.cutF h1).1, (h.en.cutF h2).1, (h.ky.cutF h3).1, h.sj, h.sg, h.se, h.sn, h.sk⟩
variable {k : Nat}
set_option maxHeartbeats 800000 in
theorem jtruncBad_any (hJ : Jr w j S l es k ks bs) (hl : l.length ≤ 1000000) (n : Int) (hn : n < 0 ∨ (l.length : Int) < n) : Calls Tryz.prog 19 #[.pointer (some ⟨j, 0, none⟩), .int .i64 n] w fun e w' => e = .returned (.int .i64 2) ∧ Ext w w' := by
  obtain ⟨Ae, me, ce, An, mn, cn, Ak, mk, ck, G, h⟩ := hJ
  have x0 : w.cell? ⟨j, 0, none⟩ = some (.slice Ae me ce) := h.c 0 (by omega) rfl
  have hm := h.ev.len
  rcases hn with hn | hn
  · clear hm h
    go_enter Tryz.func19, Tryz.ntmps19
    go_wp2
    go_ret
    exact ⟨rfl, Ext.refl w⟩
  · have h0 : ¬ n < 0 := by omega
    have h1 : (me : Int) < n := by omega
    clear hm h hn
    go_enter Tryz.func19, Tryz.ntmps19
    go_wp2
    go_ret
    exact ⟨rfl, Ext.refl w⟩
set_option maxHeartbeats 800000 in
theorem jtruncAll_any (hJ : Jr w j S l es k ks bs) (hl : l.length ≤ 1000000) : Calls Tryz.prog 19 #[.pointer (some ⟨j, 0, none⟩), .int .i64 (l.length : Int)] w fun e w' => e = .returned (.int .i64 0) ∧ Ext w w' := by
  obtain ⟨Ae, me, ce, An, mn, cn, Ak, mk, ck, G, h⟩ := hJ
  have x0 : w.cell? ⟨j, 0, none⟩ = some (.slice Ae me ce) := h.c 0 (by omega) rfl
  have hm := h.ev.len
  rw [← hm] at hl ⊢
  have h0 : ¬ (me : Int) < 0 := by omega
  clear hm h
  go_enter Tryz.func19, Tryz.ntmps19
  go_wp2
  go_ret
  exact ⟨rfl, Ext.refl w⟩
end
theorem jR046 (a b c d x y z : Value) : (fun q => if q = 6 then some z else if q = 4 then some y else if q = 0 then some x else jR a b c d q) = jR x y c z := by
  funext q
  unfold jR
  by_cases h0 : q = 0
  · subst h0; rfl
  by_cases h4 : q = 4
  · subst h4; rfl
  by_cases h5 : q = 5
  · subst h5; rfl
  by_cases h6 : q = 6
  · subst h6; rfl
  simp [h0, h4, h5, h6]
section
variable {w : World} {j : Nat} {S : Nat → Prop} {l : List Ev}
set_option maxHeartbeats 6400000 in
theorem jtrunc_any (hJ : Jr w j S l (runJ l).es (runJ l).k (runJ l).ks (runJ l).bs) (hl : l.length ≤ 1000000) (hbl : (runJ l).bs.length ≤ 1000000000) (n : Nat) (hn : n < l.length) :
    Calls Tryz.prog 19 #[.pointer (some ⟨j, 0, none⟩), .int .i64 (n : Int)] w fun e w' => e = .returned (.int .i64 0) ∧ Jr w' j S (l.take n) (runJ (l.take n)).es (runJ (l.take n)).k (runJ (l.take n)).ks (runJ (l.take n)).bs ∧ KeepS S w w' := by
  obtain ⟨Ae, me, ce, An, mn, cn, Ak, mk, ck, G, h⟩ := hJ
  obtain ⟨hk, hes, hks, hbs⟩ := runJ_st l
  obtain ⟨t1, t2, t3, t4⟩ := runJ_take l n (Nat.le_of_lt hn)
  have hme : me = l.length := h.ev.len
  have hmn : mn = l.length := by rw [h.en.len, hes]
  have hmk : mk = l.length := by rw [h.ky.len, hks]
  obtain ⟨_, ge, rfl⟩ := h.ev.cutF (n := n) (by omega)
  obtain ⟨_, gn, rfl⟩ := h.en.cutF (n := n) (by omega)
  obtain ⟨_, gk, rfl⟩ := h.ky.cutF (n := n) (by omega)
  have hce := h.ev.cap
  have hcn := h.en.cap
  have hck := h.ky.cap
  obtain ⟨e, he⟩ : ∃ e, e = (runJ (l.take n)).bs.length := ⟨_, rfl⟩
  have he5 : 5 ≤ e := by have := (runJ_st (l.take n)).2.2.2; omega
  obtain ⟨kn, hkn⟩ : ∃ kn, kn = (runJ (l.take n)).k := ⟨_, rfl⟩
  have x0 : w.cell? ⟨j, 0, none⟩ = some (.slice (some ⟨ge, 0, none⟩) me ce) := h.c 0 (by omega) rfl
  have x4 : w.cell? ⟨j, 4, none⟩ = some (.slice (some ⟨gn, 0, none⟩) mn cn) := h.c 4 (by omega) rfl
  have htr := jbtrunc_any (q := 1) h.buf e (by omega) (by rw [he]; exact t4) (by omega)
  rw [he, ← t3, ← he] at htr
  have hn0 : ¬ (n : Int) < 0 := by omega
  have hnm : ¬ (me : Int) < (n : Int) := by omega
  have hne : ((n : Int) == (me : Int)) = false := by rw [beq_eq_false_iff_ne]; omega
  have HT1 := Lib.hid t1
  have HT2 := Lib.hid t2
  have HKN := Lib.hid hkn
  have hnme : n < me := by omega
  have hnmn : n < mn := by omega
  have hnmk : n < mk := by omega
  have HEE := Lib.hid he
  have HES := Lib.hid hes
  have HKS := Lib.hid hks
  have hnN := Lib.hid hn
  clear t1 t2 t3 t4 hk hbs hbl hme hmn hmk hkn
  by_cases h0 : n = 0
  · have e0 : (e : Int) = 5 := by
      rw [he, h0, List.take_zero]
      rfl
    have hn9 : ¬ (0 : Int) < (n : Int) := by omega
    rw [e0] at htr
    clear e0 h0 he hes hks hn
    go_enter Tryz.func19, Tryz.ntmps19
    go_wp2_with (first
      | (go_at_call 33; refine Hid.out ?_))
    refine Hid.mk_ ((htr).mono ?_)
    rintro e' w1 ⟨rfl, hB1, hK1⟩
    have h1 := h.bufk hB1 hK1
    have x6 : w1.cell? ⟨j, 6, none⟩ = some (.slice (some ⟨gk, 0, none⟩) mk ck) := h1.c 6 (by omega) rfl
    have y5 : w1.cell? ⟨j, 5, none⟩ = some (.int .u64 ((runJ l).k : Int)) := h1.c 5 (by omega) rfl
    have f5 := h1.f 5
    obtain ⟨bk, ok, eA, _, hck6⟩ := h1.ky.sl.at_ (show n < mk by omega) (by omega)
    injection eA with eA
    injection eA with e1 e2
    subst e1 e2
    have xk := hck6 n (by rw [HKS.out]; exact hnN.out) 0 (by omega)
    have hkv : (runJ l).ks[n]'(by rw [HKS.out]; exact hnN.out) = kn := by
      have h9 := runJ_key l n hnN.out
      rw [List.getElem?_eq_getElem (by rw [HKS.out]; exact hnN.out), ← HKN.out] at h9
      exact Option.some.inj h9
    simp only [hkv, keyC, List.getElem_cons_zero, Nat.mul_one, Nat.add_zero, Nat.zero_add] at xk
    have hnkI : (n : Int) < (mk : Int) := by omega
    have HKJ := Lib.hid (hK1.mono (S' := S) fun g _ e => by rw [e]; exact h1.sj)
    have h2 := h1.set_ 5 (by omega) rfl (.int .u64 (kn : Int))
    rw [jR5] at h2
    obtain ⟨W2, hW2⟩ : ∃ W2, W2 = w1.setCell ⟨j, 5, none⟩ (.int .u64 (kn : Int)) := ⟨_, rfl⟩
    have HK2 : Hid (KeepS S w W2) := by
      show KeepS S w W2
      rw [hW2]
      exact HKJ.out.trans (KeepS.setCell w1 j 5 _) fun g _ e => by rw [e]; exact h1.sj
    rw [← hW2] at h2
    have HW2 := Lib.hid hW2
    have HH2 := Lib.hid h2
    clear hck6 hkv hW2 h1 hB1 hK1 h htr h2 x0 x4
    go_upto_region 12 with fail
    rw [← HW2.out]
    clear x6 y5 f5 xk
    have z0 : W2.cell? ⟨j, 0, none⟩ = some (.slice (some ⟨ge, 0, none⟩) me ce) := HH2.out.c 0 (by omega) rfl
    have z4 : W2.cell? ⟨j, 4, none⟩ = some (.slice (some ⟨gn, 0, none⟩) mn cn) := HH2.out.c 4 (by omega) rfl
    have z6 : W2.cell? ⟨j, 6, none⟩ = some (.slice (some ⟨gk, 0, none⟩) mk ck) := HH2.out.c 6 (by omega) rfl
    have f0 := HH2.out.f 0
    have f4 := HH2.out.f 4
    have f6 := HH2.out.f 6
    have q0 := fun W => cutC_hm einfo_ev W .i64 .i64 (some ⟨ge, 0, none⟩) (m := me) (c := ce) (j := n) (by omega) ⟨ge, rfl⟩
    have q4 := fun W => cutC_hm einfo_in W .i64 .i64 (some ⟨gn, 0, none⟩) (m := mn) (c := cn) (j := n) (by omega) ⟨gn, rfl⟩
    have q6 := fun W => cutC_hm einfo_ky W .i64 .i64 (some ⟨gk, 0, none⟩) (m := mk) (c := ck) (j := n) (by omega) ⟨gk, rfl⟩
    have HE3 : Hid (Jr (((W2.setCell ⟨j, 0, none⟩ (.slice (some ⟨ge, 0, none⟩) n n)).setCell ⟨j, 4, none⟩ (.slice (some ⟨gn, 0, none⟩) n n)).setCell ⟨j, 6, none⟩ (.slice (some ⟨gk, 0, none⟩) n n)) j S (l.take n) ((runJ l).es.take n) kn ((runJ l).ks.take n) (runJ (l.take n)).bs) := by
      have h3 := (((HH2.out.cuts (n := n) (by omega) (by omega) (by omega)).set_ 0 (by omega) rfl (.slice (some ⟨ge, 0, none⟩) n n)).set_ 4 (by omega) rfl (.slice (some ⟨gn, 0, none⟩) n n)).set_ 6 (by omega) rfl (.slice (some ⟨gk, 0, none⟩) n n)
      rw [jR046] at h3
      exact ⟨_, _, _, _, _, _, _, _, _, _, h3⟩
    have HK3 : Hid (KeepS S w (((W2.setCell ⟨j, 0, none⟩ (.slice (some ⟨ge, 0, none⟩) n n)).setCell ⟨j, 4, none⟩ (.slice (some ⟨gn, 0, none⟩) n n)).setCell ⟨j, 6, none⟩ (.slice (some ⟨gk, 0, none⟩) n n))) :=
      ((HK2.out.trans (KeepS.setCell W2 j 0 _) fun g _ e => by rw [e]; exact HH2.out.sj).trans (KeepS.setCell _ j 4 _) fun g _ e => by rw [e]; exact HH2.out.sj).trans (KeepS.setCell _ j 6 _) fun g _ e => by rw [e]; exact HH2.out.sj
    clear hce hcn hck he5
    go_wp2
    go_region_law (go_simp)
    all_goals
      go_wp2
      go_ret
      refine ⟨rfl, ?_, HK3.out.ext (Ext.refl _).drew⟩
      rw [HT1.out, HT2.out]
      rw [HKN.out] at HE3
      exact HE3.out.ext (Ext.refl _).drew
  · have hn9 : (0 : Int) < (n : Int) := by omega
    obtain ⟨p, hp⟩ : ∃ p, n = p + 1 := ⟨n - 1, by omega⟩
    have hpI : (n : Int) - 1 = (p : Int) := by omega
    have hpm : (p : Int) < (mn : Int) := by omega
    have hp0 : (0 : Int) ≤ (p : Int) := by omega
    have hp6 : p ≤ 1000000 := by omega
    obtain ⟨bn, on_, eA, _, hcn6⟩ := h.en.sl.at_ (show p < mn by omega) (by omega)
    injection eA with eA
    injection eA with e1 e2
    subst e1 e2
    have xn := hcn6 p (by rw [hes]; omega) 0 (by omega)
    have hev : (runJ l).es[p]'(by rw [hes]; omega) = (e : Int) := by
      have h9 := runJ_end l p (by omega)
      rw [List.getElem?_eq_getElem (by rw [hes]; omega), ← hp, ← he] at h9
      exact Option.some.inj h9
    simp only [hev, intC, List.getElem_cons_zero, Nat.mul_one, Nat.add_zero, Nat.zero_add] at xn
    clear hcn6 hev h0 hp he hes hks hn
    go_enter Tryz.func19, Tryz.ntmps19
    go_wp2_with (first
      | (go_at_call 33; refine Hid.out ?_))
    refine Hid.mk_ ((htr).mono ?_)
    rintro e' w1 ⟨rfl, hB1, hK1⟩
    have h1 := h.bufk hB1 hK1
    have x6 : w1.cell? ⟨j, 6, none⟩ = some (.slice (some ⟨gk, 0, none⟩) mk ck) := h1.c 6 (by omega) rfl
    have y5 : w1.cell? ⟨j, 5, none⟩ = some (.int .u64 ((runJ l).k : Int)) := h1.c 5 (by omega) rfl
    have f5 := h1.f 5
    obtain ⟨bk, ok, eA, _, hck6⟩ := h1.ky.sl.at_ (show n < mk by omega) (by omega)
    injection eA with eA
    injection eA with e1 e2
    subst e1 e2
    have xk := hck6 n (by rw [HKS.out]; exact hnN.out) 0 (by omega)
    have hkv : (runJ l).ks[n]'(by rw [HKS.out]; exact hnN.out) = kn := by
      have h9 := runJ_key l n hnN.out
      rw [List.getElem?_eq_getElem (by rw [HKS.out]; exact hnN.out), ← HKN.out] at h9
      exact Option.some.inj h9
    simp only [hkv, keyC, List.getElem_cons_zero, Nat.mul_one, Nat.add_zero, Nat.zero_add] at xk
    have hnkI : (n : Int) < (mk : Int) := by omega
    have HKJ := Lib.hid (hK1.mono (S' := S) fun g _ e => by rw [e]; exact h1.sj)
    have h2 := h1.set_ 5 (by omega) rfl (.int .u64 (kn : Int))
    rw [jR5] at h2
    obtain ⟨W2, hW2⟩ : ∃ W2, W2 = w1.setCell ⟨j, 5, none⟩ (.int .u64 (kn : Int)) := ⟨_, rfl⟩
    have HK2 : Hid (KeepS S w W2) := by
      show KeepS S w W2
      rw [hW2]
      exact HKJ.out.trans (KeepS.setCell w1 j 5 _) fun g _ e => by rw [e]; exact h1.sj
    rw [← hW2] at h2
    have HW2 := Lib.hid hW2
    have HH2 := Lib.hid h2
    clear hck6 hkv hW2 h1 hB1 hK1 h htr h2 x0 x4
    go_upto_region 12 with fail
    rw [← HW2.out]
    clear x6 y5 f5 xk
    have z0 : W2.cell? ⟨j, 0, none⟩ = some (.slice (some ⟨ge, 0, none⟩) me ce) := HH2.out.c 0 (by omega) rfl
    have z4 : W2.cell? ⟨j, 4, none⟩ = some (.slice (some ⟨gn, 0, none⟩) mn cn) := HH2.out.c 4 (by omega) rfl
    have z6 : W2.cell? ⟨j, 6, none⟩ = some (.slice (some ⟨gk, 0, none⟩) mk ck) := HH2.out.c 6 (by omega) rfl
    have f0 := HH2.out.f 0
    have f4 := HH2.out.f 4
    have f6 := HH2.out.f 6
    have q0 := fun W => cutC_hm einfo_ev W .i64 .i64 (some ⟨ge, 0, none⟩) (m := me) (c := ce) (j := n) (by omega) ⟨ge, rfl⟩
    have q4 := fun W => cutC_hm einfo_in W .i64 .i64 (some ⟨gn, 0, none⟩) (m := mn) (c := cn) (j := n) (by omega) ⟨gn, rfl⟩
    have q6 := fun W => cutC_hm einfo_ky W .i64 .i64 (some ⟨gk, 0, none⟩) (m := mk) (c := ck) (j := n) (by omega) ⟨gk, rfl⟩
    have HE3 : Hid (Jr (((W2.setCell ⟨j, 0, none⟩ (.slice (some ⟨ge, 0, none⟩) n n)).setCell ⟨j, 4, none⟩ (.slice (some ⟨gn, 0, none⟩) n n)).setCell ⟨j, 6, none⟩ (.slice (some ⟨gk, 0, none⟩) n n)) j S (l.take n) ((runJ l).es.take n) kn ((runJ l).ks.take n) (runJ (l.take n)).bs) := by
      have h3 := (((HH2.out.cuts (n := n) (by omega) (by omega) (by omega)).set_ 0 (by omega) rfl (.slice (some ⟨ge, 0, none⟩) n n)).set_ 4 (by omega) rfl (.slice (some ⟨gn, 0, none⟩) n n)).set_ 6 (by omega) rfl (.slice (some ⟨gk, 0, none⟩) n n)
      rw [jR046] at h3
      exact ⟨_, _, _, _, _, _, _, _, _, _, h3⟩
    have HK3 : Hid (KeepS S w (((W2.setCell ⟨j, 0, none⟩ (.slice (some ⟨ge, 0, none⟩) n n)).setCell ⟨j, 4, none⟩ (.slice (some ⟨gn, 0, none⟩) n n)).setCell ⟨j, 6, none⟩ (.slice (some ⟨gk, 0, none⟩) n n))) :=
      ((HK2.out.trans (KeepS.setCell W2 j 0 _) fun g _ e => by rw [e]; exact HH2.out.sj).trans (KeepS.setCell _ j 4 _) fun g _ e => by rw [e]; exact HH2.out.sj).trans (KeepS.setCell _ j 6 _) fun g _ e => by rw [e]; exact HH2.out.sj
    clear hce hcn hck he5
    go_wp2
    go_region_law (go_simp)
    all_goals
      go_wp2
      go_ret
      refine ⟨rfl, ?_, HK3.out.ext (Ext.refl _).drew⟩
      rw [HT1.out, HT2.out]
      rw [HKN.out] at HE3
      exact HE3.out.ext (Ext.refl _).drew
end
end Go.Proofs.YtoghaehcmbonnaaGreatDoor
