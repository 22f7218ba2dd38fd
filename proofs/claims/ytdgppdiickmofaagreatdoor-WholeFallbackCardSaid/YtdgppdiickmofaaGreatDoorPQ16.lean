/- The program's tags: slices.Equal of strings, Equal. -/
import Derived.Test.YtdgppdiickmofaaGreatDoorPQ13
import Derived.Test.YtdgppdiickmofaaGreatDoorPQ14
import Derived.Test.YtdgppdiickmofaaGreatDoorPQ15
import Derived.Shelf.SlicesG.Equal
import Derived.Laws.ResultCell
import Derived.Laws.Rows
import Derived.Shelf.SlicesG.CompactS
import Derived.Shelf.SortG.Plain
import Derived.Shelf.SortG.SortNone
namespace Go.Proofs.YtdgppdiickmofaaGreatDoor
open Go.RowKit Go.Shelf
set_option maxRecDepth 100000
theorem str_inj {a b : List UInt8} : str a = str b ↔ a = b := ⟨fun h => by have := congrArg bys h; rwa [bys_str, bys_str] at this, fun h => by rw [h]⟩
theorem map_str_inj {l m : List (List UInt8)} : l.map str = m.map str ↔ l = m := ⟨fun h => by
  have := congrArg (List.map bys) h
  rwa [List.map_map, List.map_map, show bys ∘ str = id from funext bys_str, List.map_id, List.map_id] at this, fun h => by rw [h]⟩
section
variable {w : World}
theorem getD_cells {b off : Nat} {L : List ByteArray} (h : ∀ (j : Nat) x, L[j]? = some x → w.cell? ⟨b, off + j, none⟩ = some (.string x)) : ∀ j, j < L.length → w.cell? ⟨b, off + j, none⟩ = some (.string (L.getD j ByteArray.empty)) := fun j hj => by
  rw [h j L[j] (List.getElem?_eq_getElem hj), List.getD_eq_getElem?_getD, List.getElem?_eq_getElem hj]
  rfl
theorem eqs_any {A B : Option Addr} {m n c d : Nat} {l k : List (List UInt8)} (hs : SlC strF 1 w A m (l.map str)) (ht : SlC strF 1 w B n (k.map str)) :
    Calls Tryz.prog 76 #[.slice A m c, .slice B n d] w fun e w' => e = .returned (.bool (decide (l = k))) ∧ Ext w w' := by
  have hl := hs.len
  have hk := ht.len
  have hle := hs.le
  have hle2 := ht.le
  rw [List.length_map] at hl hk
  rcases Nat.eq_zero_or_pos m with h0 | h0
  · subst h0
    have e1 : l = [] := List.eq_nil_of_length_eq_zero hl.symm
    subst e1
    refine (AnyG.slices_Equal_string_empty Tryz.eqS A B c n d w (by omega)).mono fun e w' ⟨he, hw⟩ => ⟨?_, by rw [hw]; exact Ext.refl _⟩
    rw [he]
    congr 2
    apply decide_eq_decide.2
    rw [hk]
    exact ⟨fun h => (List.eq_nil_of_length_eq_zero h).symm, fun h => by rw [← h]; rfl⟩
  · obtain ⟨b1, o1, rfl, hb1, hc1⟩ := strs_cells hs h0
    rcases Nat.eq_zero_or_pos n with h1 | h1
    · subst h1
      have e1 : k = [] := List.eq_nil_of_length_eq_zero hk.symm
      subst e1
      have hne : ¬ (m : Int) = 0 := by omega
      have HF : Hid (decide (l = []) = false) := by
        show _ = _
        apply decide_eq_false
        intro e
        rw [e] at hl
        simp at hl
        omega
      clear hs ht hc1 hb1 hl hk hle hle2
      go_enter Tryz.func76, Tryz.ntmps76
      go_wp2
      go_ret
      exact ⟨by rw [HF.out]; rfl, Ext.refl _⟩
    · obtain ⟨b2, o2, rfl, hb2, hc2⟩ := strs_cells ht h1
      refine (AnyG.slices_Equal_string Tryz.eqS b1 o1 m c b2 o2 n d (l.map str) (k.map str) w (by rw [List.length_map]; omega) (by rw [List.length_map]; omega) (by omega) (by omega) (getD_cells hc1) (getD_cells hc2)).mono fun e w' ⟨he, q, hw⟩ => ⟨?_, by rw [hw]; exact (Ext.refl w).drewN q⟩
      rw [he, List.take_of_length_le (by rw [List.length_map]; omega), List.take_of_length_le (by rw [List.length_map]; omega)]
      congr 2
      exact decide_eq_decide.2 map_str_inj
set_option maxHeartbeats 3200000 in
theorem tequal_any {h k : SlH} {t u : Tg} (hs : TgW w h t) (ht : TgW w k u) :
    Calls Tryz.prog 100 #[tgV h t, tgV k u] w fun e w' => e = .returned (.bool (eqT t u)) ∧ Ext w w' := by
  obtain ⟨A, m, c⟩ := h
  obtain ⟨B, n, d⟩ := k
  obtain ⟨l1, h1⟩ : ∃ x, x = str t.lang := ⟨_, rfl⟩
  obtain ⟨l2, h2⟩ : ∃ x, x = str t.scr := ⟨_, rfl⟩
  obtain ⟨l3, h3⟩ : ∃ x, x = str t.reg := ⟨_, rfl⟩
  obtain ⟨k1, g1⟩ : ∃ x, x = str u.lang := ⟨_, rfl⟩
  obtain ⟨k2, g2⟩ : ∃ x, x = str u.scr := ⟨_, rfl⟩
  obtain ⟨k3, g3⟩ : ∃ x, x = str u.reg := ⟨_, rfl⟩
  unfold tgV
  rw [← h1, ← h2, ← h3, ← g1, ← g2, ← g3]
  have e1 : (l1.toList = k1.toList) ↔ t.lang = u.lang := by rw [h1, g1, str_toList, str_toList]
  have e2 : (l2.toList = k2.toList) ↔ t.scr = u.scr := by rw [h2, g2, str_toList, str_toList]
  have e3 : (l3.toList = k3.toList) ↔ t.reg = u.reg := by rw [h3, g3, str_toList, str_toList]
  have E1 := Lib.hid e1
  have E2 := Lib.hid e2
  have E3 := Lib.hid e3
  have HQ : Hid (eqT t u = (decide (t.lang = u.lang) && (decide (t.scr = u.scr) && (decide (t.reg = u.reg) && decide (t.vars = u.vars))))) := rfl
  have HK : Hid (∀ w2, Ext w w2 → Calls Tryz.prog 76 #[.slice A m c, .slice B n d] w2 fun e w' => e = .returned (.bool (decide (t.vars = u.vars))) ∧ Ext w2 w') := fun w2 hE => eqs_any (hs.sl.ext hE) (ht.sl.ext hE)
  clear h1 h2 h3 g1 g2 g3 e1 e2 e3 hs ht
  dsimp only
  have hE0 : Ext w ((w.alloc (.cells #[.string l1, .string l2, .string l3, .slice A m c] 108)).alloc (.cells #[.string k1, .string k2, .string k3, .slice B n d] 108)) := ((Ext.refl w).alloc _).alloc _
  by_cases c1 : l1.toList = k1.toList
  · have d1 := decide_eq_true (E1.out.1 c1)
    by_cases c2 : l2.toList = k2.toList
    · have d2 := decide_eq_true (E2.out.1 c2)
      by_cases c3 : l3.toList = k3.toList
      · have d3 := decide_eq_true (E3.out.1 c3)
        rw [d1, d2, d3] at HQ
        clear d1 d2 d3
        go_enter Tryz.func100, Tryz.ntmps100
        go_wp2_with (first
          | (go_at_call 76; refine Hid.out ?_))
        refine Hid.mk_ ((HK.out _ hE0).mono ?_)
        rintro e w2 ⟨rfl, hE2⟩
        go_wp2
        go_ret
        exact ⟨by rw [HQ.out]; rfl, hE0.trans hE2⟩
      · have d3 := decide_eq_false (fun e => c3 (E3.out.2 e))
        rw [d1, d2, d3] at HQ
        clear d1 d2 d3
        go_enter Tryz.func100, Tryz.ntmps100
        go_wp2
        go_ret
        exact ⟨by rw [HQ.out]; rfl, hE0⟩
    · have d2 := decide_eq_false (fun e => c2 (E2.out.2 e))
      rw [d1, d2] at HQ
      clear d1 d2
      go_enter Tryz.func100, Tryz.ntmps100
      go_wp2
      go_ret
      exact ⟨by rw [HQ.out]; rfl, hE0⟩
  · have d1 := decide_eq_false (fun e => c1 (E1.out.2 e))
    rw [d1] at HQ
    clear d1
    go_enter Tryz.func100, Tryz.ntmps100
    go_wp2
    go_ret
    exact ⟨by rw [HQ.out]; rfl, hE0⟩
end
end Go.Proofs.YtdgppdiickmofaaGreatDoor

/- The program's tags: clones of strings, parent. -/
namespace Go.Proofs.YtdgppdiickmofaaGreatDoor
open Go.RowKit
set_option maxRecDepth 100000
theorem eql_nil_ss (w : World) (A : Option Addr) (n c n' c' : Nat) : (binOp .eql 27 (.slice A n c) (.slice none n' c')).run Tryz.prog w = .ok (.bool A.isNone) w :=
  Lib.run_eql_slice_nil w _ 9 A n c n' c' Tryz.underlying27
attribute [local go_sem] eql_nil_ss
theorem info_tg4 : (Tryz.prog.info? 108).map (·.size) = some 4 := by kernel_rfl
theorem results_cell_row_tmpT {P : Program} {fn : Func} {p u : Tmp} {ty : TypeId} (h : fn.results = #[.cell p ty, .tmp u]) (tmps : Array Value) (w : World) (g : Nat) (t : TypeId) (cs : Array Value) (fr : Nat × Nat) (d : TypeDesc)
    (hp : tmps.getD p undef = .pointer (some ⟨g, 0, none⟩)) (hg : w.heap[g]? = some (.cells cs t fr))
    (hu : P.underlying ty = some d) (hd : (match d with | .struct _ | .array _ _ => true | _ => false) = true) (hi : (P.info? ty).map (·.size) = some cs.size) :
    (results fn tmps).run P w = .ok (.tuple #[.agg cs, tmps.getD u undef]) w := by
  rw [results_cell_tmp h, hp]
  simp [asAddr, run_loadVar_row w g t ty cs fr d hg hu hd hi, Result.andThen]
/-- The zero tag in memory. -/
theorem tg0_W (w : World) : TgW w ⟨none, 0, 0⟩ tg0 := ⟨SlC.nil_ strF_len, Nat.le_refl _, by simp [tg0], by simp [tg0], by simp [tg0], by simp [tg0], by simp [tg0]⟩
section
variable {w : World}
set_option maxHeartbeats 400000 in
theorem tclone_any {A : Option Addr} {m c : Nat} {l : List _} (h0 : SlC strF 1 w A m l) (hbd : m * 16 ≤ 140737488351232) :
    Calls Tryz.prog 56 #[.slice A m c] w fun e w' => ∃ h' : SlH, e = .returned (.slice h'.A h'.m h'.c) ∧ OsC strF 9 1 w' w.heap.size h'.A h'.m h'.c l ∧ Ext w w' := by
  go_enter Tryz.func56, Tryz.ntmps56
  rcases A with _ | ad
  · have hl : l = [] := by
      rcases Nat.eq_zero_or_pos m with hm | hm
      · exact List.eq_nil_of_length_eq_zero (by rw [← h0.len, hm])
      · obtain ⟨ad, h, _⟩ := h0.rd.2 hm
        cases h
    subst hl
    go_wp2
    go_ret
    exact ⟨⟨none, 0, 0⟩, rfl, OsC.nil_ strF_len strF_cell, Ext.refl _⟩
  · have hm8 : m ≤ 17592186044416 := by have := Nat.mul_le_mul_left m (show 8 ≤ 16 by omega); omega
    have hb0 : (0 + m) * 16 ≤ 140737488355328 := by rw [Nat.zero_add]; omega
    go_wp2_with (first
      | (at_builtin; refine appC einfo_ss rfl _ _ rfl (OsC.new0 w w.heap.size (Nat.le_refl _) strF_len strF_cell) rfl (h0.ext ((Ext.refl w).alloc _)) rfl hb0 (by simp) ?_; intro A' m' c' w1 ho hg hat))
    go_ret
    exact ⟨⟨A', m', c'⟩, rfl, ho, ((Ext.refl w).alloc _).grown hg (by simp [ob])⟩
theorem blk2 (w : World) (cs ds : Array Value) : Blk ((w.alloc (.cells cs 108)).alloc (.cells ds 108)) (w.heap.size + 1) 108 ds := by
  have h := Blk.new (w.alloc (.cells cs 108)) 108 ds
  rwa [show (w.alloc (.cells cs 108)).heap.size = w.heap.size + 1 by simp] at h
theorem tgw_of {w : World} {h : SlH} {t u : Tg} (hh : TgW w h t) (e : u.vars = t.vars) (h1 : u.lang.length ≤ 1000) (h2 : u.scr.length ≤ 1000) (h3 : u.reg.length ≤ 1000) : TgW w h u :=
  ⟨by rw [e]; exact hh.sl, hh.cap, by rw [e]; exact hh.n, by rw [e]; exact hh.sz, h1, h2, h3⟩
/-- What parent returns. -/
def ParR (t : Tg) (h' : SlH) (t' : Tg) (ok : Bool) : Prop := match parentT t with
  | none => ok = false ∧ t' = tg0 ∧ h' = ⟨none, 0, 0⟩
  | some p => ok = true ∧ t' = p
def ParPost (w : World) (h : SlH) (t : Tg) (e : Ending) (w' : World) : Prop := ∃ h' t' ok, e = .returned (.tuple #[tgV h' t', .bool ok]) ∧ ParR t h' t' ok ∧ TgW w' h' t' ∧ (h' = h ∨ ∀ k, ob h'.A = some k → w.heap.size ≤ k)
set_option maxHeartbeats 6400000 in
theorem tparent_any {h : SlH} {t : Tg} (hs : TgW w h t) :
    Calls Tryz.prog 109 #[tgV h t] w fun e w' => ParPost w h t e w' ∧ Ext w w' := by
  obtain ⟨A, m, c⟩ := h
  obtain ⟨lang, hla⟩ : ∃ x, x = str t.lang := ⟨_, rfl⟩
  obtain ⟨scr, hsc⟩ : ∃ x, x = str t.scr := ⟨_, rfl⟩
  obtain ⟨reg, hrg⟩ : ∃ x, x = str t.reg := ⟨_, rfl⟩
  have HL : Hid (m = t.vars.length) := by have := hs.sl.len; rw [List.length_map] at this; exact this
  have hn : m ≤ 1000 := by have := hs.n; have := HL.out; omega
  have hmc : m ≤ c := hs.cap
  have HS := Lib.hid hs
  have HLA := Lib.hid hla
  have HSC := Lib.hid hsc
  have HRG := Lib.hid hrg
  unfold tgV
  rw [← hla, ← hsc, ← hrg]
  clear hla hsc hrg hs
  dsimp only
  obtain ⟨W0, hW0⟩ : ∃ W0, W0 = (w.alloc (.cells #[.string lang, .string scr, .string reg, .slice A m c] 108)).alloc (.cells #[.string ⟨#[]⟩, .string ⟨#[]⟩, .string ⟨#[]⟩, .slice none 0 0] 108) := ⟨_, rfl⟩
  have hE0 : Ext w W0 := by rw [hW0]; exact ((Ext.refl w).alloc _).alloc _
  have hb0 : Blk W0 w.heap.size 108 #[.string lang, .string scr, .string reg, .slice A m c] := by rw [hW0]; exact (Blk.new w _ _).alloc _
  have hr0 : Blk W0 (w.heap.size + 1) 108 #[.string ⟨#[]⟩, .string ⟨#[]⟩, .string ⟨#[]⟩, .slice none 0 0] := by
    rw [hW0]
    have h := Blk.new (w.alloc (.cells #[.string lang, .string scr, .string reg, .slice A m c] 108)) 108 #[.string ⟨#[]⟩, .string ⟨#[]⟩, .string ⟨#[]⟩, .slice none 0 0]
    rwa [show (w.alloc (.cells #[.string lang, .string scr, .string reg, .slice A m c] 108)).heap.size = w.heap.size + 1 by simp] at h
  have y3 := hb0.cell 3
  simp only [List.getElem?_toArray, List.getElem?_cons_zero, List.getElem?_cons_succ] at y3
  by_cases hm0 : 0 < m
  · have hi1 : (0 : Int) < (m : Int) := by omega
    go_enter Tryz.func109, Tryz.ntmps109
    have hm1 : (m : Int) - 1 = ((m - 1 : Nat) : Int) := by omega
    have hs1 : SlC strF 1 W0 A (m - 1) ((t.vars.take (m - 1)).map str) := by
      have h := (HS.out.sl.ext hE0).take_ (i := m - 1) (by show m - 1 ≤ m; omega)
      rwa [← List.map_take] at h
    have HKC := Lib.hid (tclone_any (c := c) hs1 (by omega))
    have hlt0 := hb0.lt
    have hlt1 := hr0.lt
    go_wp2_with (first
      | (go_at_call 56; refine Hid.out ?_))
    rw [← hW0]
    clear hW0
    refine Hid.mk_ (HKC.out.mono ?_)
    rintro e w1 ⟨⟨A1, m1, c1⟩, rfl, ho1, hE1⟩
    have hb1 := hb0.below hE1 hlt0
    have hr1 := hr0.below hE1 hlt1
    have k0 := (hb1).cell 0
    have k1 := (hb1).cell 1
    have k2 := (hb1).cell 2
    have k3 := (hb1).cell 3
    have f0 := (hb1).frozen 3
    have q0 := (hr1).cell 0
    have q1 := (hr1).cell 1
    have q2 := (hr1).cell 2
    have q3 := (hr1).cell 3
    have g0 := (hr1).frozen 0
    have g1 := (hr1).frozen 1
    have g2 := (hr1).frozen 2
    have g3 := (hr1).frozen 3
    simp only [List.getElem?_toArray, List.getElem?_cons_zero, List.getElem?_cons_succ] at k0 k1 k2 k3 q0 q1 q2 q3
    have HBX := Lib.hid (hb1)
    have HRX := Lib.hid (hr1)
    dsimp only at ho1 ⊢
    go_wp2
    refine bodyPost_ret (results_cell_row_tmpT rfl _ _ (w.heap.size + 1) 108 _ (0, 0) _ rfl (((((HRX.out.far (by simp) _).set_ 0 _).set_ 1 _).set_ 2 _).set_ 3 _) Tryz.underlying108 rfl info_tg4) rfl ?_
    have hEf : Ext w (((((w1.setCell ⟨w.heap.size, 3, none⟩ (.slice A1 m1 c1)).setCell ⟨w.heap.size + 1, 0, none⟩ (.string lang)).setCell ⟨w.heap.size + 1, 1, none⟩ (.string scr)).setCell ⟨w.heap.size + 1, 2, none⟩ (.string reg)).setCell ⟨w.heap.size + 1, 3, none⟩ (.slice A1 m1 c1)) := by
      iterate 5 refine Ext.set_ ?_ (by show w.heap.size ≤ _; dsimp only; omega) _
      exact hE0.trans hE1
    have hne : ∀ b, b < W0.heap.size → ob A1 = none ∨ ob A1 ≠ some b := fun b hb => by
      cases hA : ob A1 with
      | none => exact .inl rfl
      | some k =>
        refine .inr fun e => ?_
        injection e with e
        have := ho1.ge k hA
        omega
    have hlen1 := ho1.len
    refine ⟨⟨⟨A1, m1, c1⟩, { t with vars := t.vars.take (m - 1) }, true, ?_, ?_, ?_, Or.inr fun k hk => Nat.le_trans hE0.size_le (ho1.ge k hk)⟩, hEf⟩
    · show _ = Ending.returned (.tuple #[.agg #[.string (str t.lang), .string (str t.scr), .string (str t.reg), .slice A1 m1 c1], .bool true])
      rw [← HLA.out, ← HSC.out, ← HRG.out]
      rfl
    · unfold ParR
      rw [show parentT t = some { t with vars := t.vars.take (m - 1) } by
        unfold parentT
        rw [if_pos (fun e => by have := HL.out; rw [e] at this; simp at this; omega), HL.out]]
      exact ⟨rfl, rfl⟩
    · have h2 := ((((ho1.kept (grown_setM w1 w.heap.size 3 (.slice A1 m1 c1)) (hne _ hlt0)).kept (grown_setM _ (w.heap.size + 1) 0 (.string lang)) (hne _ hlt1)).kept (grown_setM _ (w.heap.size + 1) 1 (.string scr)) (hne _ hlt1)).kept (grown_setM _ (w.heap.size + 1) 2 (.string reg)) (hne _ hlt1)).kept (grown_setM _ (w.heap.size + 1) 3 (.slice A1 m1 c1)) (hne _ hlt1)
      exact ⟨h2.sl, ho1.cap, by simp only [List.length_take]; have := HS.out.n; omega, fun x hx => HS.out.sz x (List.mem_of_mem_take hx), HS.out.ln, HS.out.sn, HS.out.rn⟩
  · have hi1 : ¬ (0 : Int) < (m : Int) := by omega
    have HV : Hid (t.vars = []) := List.eq_nil_of_length_eq_zero (by have := HL.out; omega)
    have hR : reg.toList = t.reg := by rw [HRG.out, str_toList]
    have hC : scr.toList = t.scr := by rw [HSC.out, str_toList]
    have hA : lang.toList = t.lang := by rw [HLA.out, str_toList]
    have HR := Lib.hid hR
    have HC := Lib.hid hC
    have HA := Lib.hid hA
    clear hR hC hA y3
    have HVN : Hid (¬ t.vars ≠ []) := fun e => e HV.out
    cases hr : reg.toList.isEmpty with
    | false =>
      have HR1 : Hid (t.reg ≠ []) := fun e => by rw [HR.out, e] at hr; cases hr
      go_enter Tryz.func109, Tryz.ntmps109
      clear hE0 hb0 hr0 hW0
      go_wp2
      refine bodyPost_ret (results_cell_row_tmpT rfl _ _ (w.heap.size + 1) 108 _ (0, 0) _ rfl (blk2 w _ _) Tryz.underlying108 rfl info_tg4) rfl ?_
      have hEf : ∀ cs ds, Ext w ((w.alloc (.cells cs 108)).alloc (.cells ds 108)) := fun _ _ => ((Ext.refl w).alloc _).alloc _
      refine ⟨⟨⟨A, m, c⟩, { t with reg := [] }, true, ?_, ?_, ?_, .inl rfl⟩, hEf _ _⟩
      · show _ = Ending.returned (.tuple #[.agg #[.string (str t.lang), .string (str t.scr), .string ⟨#[]⟩, .slice A m c], .bool true])
        rw [HLA.out, HSC.out, HRG.out]
        rfl
      · unfold ParR
        rw [show parentT t = some { t with reg := [] } by
          unfold parentT
          rw [if_neg HVN.out, if_pos HR1.out]]
        exact ⟨rfl, rfl⟩
      · exact tgw_of (HS.out.ext (hEf _ _)) rfl (by first | exact HS.out.ln | simp) (by first | exact HS.out.sn | simp) (by first | exact HS.out.rn | simp)
    | true =>
      have HR1 : Hid (¬ t.reg ≠ []) := fun e => e (by rw [HR.out] at hr; exact List.isEmpty_iff.1 hr)
      cases hc : scr.toList.isEmpty with
      | false =>
        have HC1 : Hid (t.scr ≠ []) := fun e => by rw [HC.out, e] at hc; cases hc
        go_enter Tryz.func109, Tryz.ntmps109
        clear hE0 hb0 hr0 hW0
        go_wp2
        refine bodyPost_ret (results_cell_row_tmpT rfl _ _ (w.heap.size + 1) 108 _ (0, 0) _ rfl (blk2 w _ _) Tryz.underlying108 rfl info_tg4) rfl ?_
        have hEf : ∀ cs ds, Ext w ((w.alloc (.cells cs 108)).alloc (.cells ds 108)) := fun _ _ => ((Ext.refl w).alloc _).alloc _
        refine ⟨⟨⟨A, m, c⟩, { t with scr := [] }, true, ?_, ?_, ?_, .inl rfl⟩, hEf _ _⟩
        · show _ = Ending.returned (.tuple #[.agg #[.string (str t.lang), .string ⟨#[]⟩, .string (str t.reg), .slice A m c], .bool true])
          rw [HLA.out, HSC.out, HRG.out]
          rfl
        · unfold ParR
          rw [show parentT t = some { t with scr := [] } by
            unfold parentT
            rw [if_neg HVN.out, if_neg HR1.out, if_pos HC1.out]]
          exact ⟨rfl, rfl⟩
        · exact tgw_of (HS.out.ext (hEf _ _)) rfl (by first | exact HS.out.ln | simp) (by first | exact HS.out.sn | simp) (by first | exact HS.out.rn | simp)
      | true =>
        have HC1 : Hid (¬ t.scr ≠ []) := fun e => e (by rw [HC.out] at hc; exact List.isEmpty_iff.1 hc)
        cases hl : (lang.toList == [117, 110, 100]) with
        | false =>
          have HA1 : Hid (t.lang ≠ [117, 110, 100]) := fun e => by rw [HA.out, e] at hl; simp at hl
          go_enter Tryz.func109, Tryz.ntmps109
          clear hE0 hb0 hr0 hW0
          go_wp2
          refine bodyPost_ret (results_cell_row_tmpT rfl _ _ (w.heap.size + 1) 108 _ (0, 0) _ rfl (blk2 w _ _) Tryz.underlying108 rfl info_tg4) rfl ?_
          have hEf : ∀ cs ds, Ext w ((w.alloc (.cells cs 108)).alloc (.cells ds 108)) := fun _ _ => ((Ext.refl w).alloc _).alloc _
          refine ⟨⟨⟨A, m, c⟩, { t with lang := [117, 110, 100] }, true, ?_, ?_, ?_, .inl rfl⟩, hEf _ _⟩
          · show _ = Ending.returned (.tuple #[.agg #[.string ⟨#[117, 110, 100]⟩, .string (str t.scr), .string (str t.reg), .slice A m c], .bool true])
            rw [HLA.out, HSC.out, HRG.out]
            rfl
          · unfold ParR
            rw [show parentT t = some { t with lang := [117, 110, 100] } by
              unfold parentT
              rw [if_neg HVN.out, if_neg HR1.out, if_neg HC1.out, if_pos HA1.out]]
            exact ⟨rfl, rfl⟩
          · exact tgw_of (HS.out.ext (hEf _ _)) rfl (by first | exact HS.out.ln | simp) (by first | exact HS.out.sn | simp) (by first | exact HS.out.rn | simp)
        | true =>
          have HA1 : Hid (¬ t.lang ≠ [117, 110, 100]) := fun e => e (by rw [HA.out] at hl; exact beq_iff_eq.1 hl)
          go_enter Tryz.func109, Tryz.ntmps109
          clear hE0 hb0 hr0 hW0
          go_wp2
          refine bodyPost_ret (results_cell_row_tmpT rfl _ _ (w.heap.size + 1) 108 _ (0, 0) _ rfl (blk2 w _ _) Tryz.underlying108 rfl info_tg4) rfl ?_
          refine ⟨⟨⟨none, 0, 0⟩, tg0, false, rfl, ?_, tg0_W _, .inr fun k hk => by cases hk⟩, ((Ext.refl w).alloc _).alloc _⟩
          unfold ParR
          rw [show parentT t = none by
            unfold parentT
            rw [if_neg HVN.out, if_neg HR1.out, if_neg HC1.out, if_neg HA1.out]]
          exact ⟨rfl, rfl, rfl⟩
end
end Go.Proofs.YtdgppdiickmofaaGreatDoor

/- The program's tags: how long the parts of a text are; slices.Sort, slices.Compact of strings. -/
namespace Go.Proofs.YtdgppdiickmofaaGreatDoor
open Go.RowKit Go.Shelf Go.Sort
set_option maxRecDepth 100000
theorem replK_len {old new : List UInt8} (h : new.length ≤ old.length) : ∀ (k : Nat) (s : List UInt8), (Lib.replaceK old new k s).length ≤ s.length
  | 0, _ => Nat.le_refl _
  | k + 1, s => by
    rw [Lib.replaceK]
    split
    · exact Nat.le_refl _
    · rename_i h1
      have h2 := Lib.index_ge s old
      have h3 : Lib.index s old ≠ -1 := fun e => h1 (beq_iff_eq.2 e)
      have h4 := Lib.index_room s old (by omega)
      have ih := replK_len h k (s.drop ((Lib.index s old).toNat + old.length))
      rw [List.length_drop] at ih
      rw [List.length_append, List.length_append, List.length_take]
      omega
theorem repl_len (s : List UInt8) : (Lib.replaceAll s [95] [45]).length ≤ s.length := by
  unfold Lib.replaceAll Lib.replace
  split
  · exact Nat.le_refl _
  · exact replK_len (by simp) _ _
theorem splitK_len (sep : List UInt8) : ∀ (k : Nat) (s : List UInt8), (Lib.splitK sep 0 k s).length ≤ k + 1 ∧ ∀ x ∈ Lib.splitK sep 0 k s, x.length ≤ s.length
  | 0, s => ⟨by simp [Lib.splitK], fun x hx => by
    rw [Lib.splitK, List.mem_singleton] at hx
    rw [hx]; exact Nat.le_refl _⟩
  | k + 1, s => by
    rw [Lib.splitK]
    split
    · refine ⟨by simp, fun x hx => ?_⟩
      rw [List.mem_singleton] at hx
      rw [hx]; exact Nat.le_refl _
    · obtain ⟨h1, h2⟩ := splitK_len sep k (s.drop ((Lib.index s sep).toNat + sep.length))
      refine ⟨by rw [List.length_cons]; omega, fun x hx => ?_⟩
      rcases List.mem_cons.1 hx with rfl | hx
      · rw [List.length_take]; omega
      · have := h2 x hx
        rw [List.length_drop] at this
        omega
theorem pcs_len {s : List UInt8} {N : Nat} (hs : s.length ≤ N) : (pcs s).length ≤ N + 1 ∧ ∀ x ∈ pcs s, x.length ≤ N := by
  have h1 := repl_len s
  obtain ⟨h2, h3⟩ := splitK_len [45] (Lib.count (Lib.replaceAll s [95] [45]) [45]) (Lib.replaceAll s [95] [45])
  have h4 : Lib.count (Lib.replaceAll s [95] [45]) [45] ≤ (Lib.replaceAll s [95] [45]).length := by
    rw [Lib.count_one]
    exact List.count_le_length
  unfold pcs Lib.split
  exact ⟨by omega, fun x hx => by have := h3 x hx; omega⟩
section
variable {w : World} {base : Nat} {A : Option Addr} {m c : Nat} {l : List (List UInt8)}
theorem enc_str (x : List UInt8) : encStr x = .string (str x) := rfl
theorem OsC.holds_s (h : OsC strF 9 1 w base A m c (l.map str)) {g : Nat} (hA : A = some ⟨g, 0, none⟩) : Holds encStr w g 0 l.toArray := by
  subst hA
  intro j hj
  have hj' : j < l.length := by simpa using hj
  have hl := h.len
  rw [List.length_map] at hl
  refine ⟨?_, World.ownsRow.frozenAt h.own _⟩
  rw [World.ownsRow.cellAt h.own _ (by omega), flat_str]
  simp [hj', enc_str]
theorem slc_of_holds_s {W : World} {g m : Nat} {l : List (List UInt8)} (h : Holds encStr W g 0 l.toArray) (hm : m = l.length) (hg : g < W.heap.size) (hle : m ≤ 17592186044416) : SlC strF 1 W (some ⟨g, 0, none⟩) m (l.map str) := by
  refine ⟨⟨by rw [flat_str]; simp [hm], fun _ => ⟨_, rfl, hg, fun j u hu => ?_⟩⟩, fun _ => rfl, by simp [hm], by omega⟩
  rw [flat_str, List.getElem?_map, List.getElem?_map] at hu
  have hj : j < l.length := by
    rcases Nat.lt_or_ge j l.length with h1 | h1
    · exact h1
    · rw [List.getElem?_eq_none h1] at hu; cases hu
  rw [List.getElem?_eq_getElem hj] at hu
  have h1 := (h j (by simpa using hj)).1
  rw [Addr.add_lit, h1, enc_str]
  simp [hj] at hu ⊢
  exact hu
theorem holds_ahead {W : World} {g : Nat} {d : Array (List UInt8)} (h : Holds encStr W g 0 d) (q : Nat) : Holds encStr (Sort.ahead W q) g 0 d := h
theorem grown_put {g n : Nat} {os : Array Obj} (d : Array (List UInt8)) : w.grownBy (grow (putRow encStr (Sort.ahead w n) g 0 d) os) (some g) := by
  refine ⟨rfl, rfl, rfl, by simp, fun k hk hne => ?_⟩
  rw [heap_grow_old _ _ (by simpa using hk)]
  have : g ≠ k := fun e => hne (by rw [e])
  simp [putRow, mapBlock, Sort.ahead, Array.getElem?_modify, this]
theorem grown_put0 {g n : Nat} (d : Array (List UInt8)) : w.grownBy (putRow encStr (Sort.ahead w n) g 0 d) (some g) := by
  have h := grown_put (w := w) (g := g) (n := n) (os := #[]) d
  rwa [grow_empty] at h
theorem holds_grow {W : World} {g : Nat} {d : Array (List UInt8)} {os : Array Obj} (h : Holds encStr W g 0 d) (hg : g < W.heap.size) : Holds encStr (grow W os) g 0 d := fun j hj => by
  obtain ⟨h1, h2⟩ := h j hj
  have h3 := heap_grow_old (w := W) os (k := g) hg
  refine ⟨?_, ?_⟩
  · rw [← h1]; exact World.cell?_of_block h3
  · rw [← h2]; exact World.frozen?_of_block h3
/-- slices.Sort and then slices.Compact of a row of strings of the call's own. -/
theorem sorts_any (h : OsC strF 9 1 w base A m c (l.map str)) :
    Calls Tryz.prog 95 #[.slice A m c] w fun e w' => e = .returned (.tuple #[]) ∧ (SlC strF 1 w' A m ((sortV l).map str) ∧ ∀ g, A = some ⟨g, 0, none⟩ → 0 < m → Holds encStr w' g 0 (sortV l).toArray ∧ g < w'.heap.size) ∧ w.grownBy w' (ob A) := by
  have hl := h.len
  rw [List.length_map] at hl
  rcases Nat.eq_zero_or_pos m with h0 | h0
  · subst h0
    have e1 : l = [] := List.eq_nil_of_length_eq_zero hl.symm
    subst e1
    refine (AnyG.slices_Sort_string_none Tryz.sortS A c w).mono ?_
    rintro e w' ⟨rfl, rfl⟩
    exact ⟨rfl, ⟨by rw [show sortV [] = [] by simp [sortV]]; exact h.sl, fun _ _ h1 => absurd h1 (by omega)⟩, (Ext.refl _).grownBy _⟩
  · obtain ⟨g, cur, hA, hg, hh, hmc, hcm, hsz, htk⟩ := h.row h0
    have hlt : g < w.heap.size := (Array.getElem?_eq_some_iff.1 hh).1
    have hle := h.le
    have hH := h.holds_s hA
    have h1 := AnyG.slices_Sort_string Tryz.sortS g 0 c l w hH hlt (by omega)
    subst hA
    rw [← hl] at h1
    refine h1.mono ?_
    rintro e w' ⟨rfl, n, os, rfl⟩
    have hlt2 : g < (putRow encStr (Sort.ahead w n) g 0 (sortV l).toArray).heap.size := by simpa [putRow, mapBlock, Sort.ahead] using hlt
    have hh2 : Holds encStr (grow (putRow encStr (Sort.ahead w n) g 0 (sortV l).toArray) os) g 0 (sortV l).toArray :=
      holds_grow (holds_putRow encStr (Sort.ahead w n) g 0 l.toArray (sortV l).toArray (holds_ahead hH n) (by simp [sortV])) hlt2
    have hlt3 : g < (grow (putRow encStr (Sort.ahead w n) g 0 (sortV l).toArray) os).heap.size := Nat.lt_of_lt_of_le hlt2 (by simp [grow])
    refine ⟨rfl, ⟨slc_of_holds_s hh2 (by rw [sortV_len]; exact hl) hlt3 hle, fun g' hg' _ => ?_⟩, grown_put _⟩
    injection hg' with hg'
    injection hg' with hg'
    subst hg'
    exact ⟨hh2, hlt3⟩
theorem comps_any {k : Nat} {l : List (List UInt8)} (hl : m = l.length) (hle : m ≤ 17592186044416) (hmc : m ≤ c) (hsl : SlC strF 1 w A m (l.map str)) (hH : ∀ g, A = some ⟨g, 0, none⟩ → 0 < m → Holds encStr w g 0 l.toArray ∧ g < w.heap.size) (hA : 0 < m → ∃ g, A = some ⟨g, 0, none⟩) (hk : k = (Lib.compact l).length) :
    Calls Tryz.prog 96 #[.slice A m c] w fun e w' => e = .returned (.slice A k c) ∧ SlC strF 1 w' A k ((Lib.compact l).map str) ∧ w.grownBy w' (ob A) := by
  rcases Nat.eq_zero_or_pos m with h0 | h0
  · subst h0
    have e1 : l = [] := List.eq_nil_of_length_eq_zero hl.symm
    subst e1
    have hk0 : k = 0 := hk
    subst hk0
    refine (AnyG.slices_Compact_string_empty Tryz.compS A c w).mono ?_
    rintro e w' ⟨rfl, rfl⟩
    exact ⟨rfl, hsl, (Ext.refl _).grownBy _⟩
  · obtain ⟨g, rfl⟩ := hA h0
    obtain ⟨hH, hlt⟩ := hH g rfl h0
    have h1 := AnyG.slices_Compact_string Tryz.compS g 0 c l w hH (by omega) (by omega)
    rw [← hl, ← hk] at h1
    refine h1.mono ?_
    rintro e w' ⟨rfl, q, rfl⟩
    have hkm : (Lib.compact l).length ≤ l.length := by
      unfold Lib.compact Lib.compactUpTo
      rw [List.length_map]
      refine Nat.le_trans (List.length_filter_le _ _) ?_
      simp
    have hh2 := holds_putRow encStr (Sort.ahead w q) g 0 l.toArray ((Lib.compact l) ++ List.replicate (m - k) []).toArray (holds_ahead hH q) (by simp; omega)
    have hlt2 : g < (putRow encStr (Sort.ahead w q) g 0 ((Lib.compact l) ++ List.replicate (m - k) []).toArray).heap.size := by simpa [putRow, mapBlock, Sort.ahead] using hlt
    refine ⟨rfl, slc_of_holds_s (fun j hj => ?_) hk hlt2 (by omega), grown_put0 _⟩
    have hj' : j < (Lib.compact l).length := by simpa using hj
    obtain ⟨h5, h6⟩ := hh2 j (by simp; omega)
    refine ⟨?_, h6⟩
    rw [h5]
    congr 1
    rw [getElem!_pos _ _ (by simp; omega), getElem!_pos _ _ (by simpa using hj')]
    simp [hj']
end
end Go.Proofs.YtdgppdiickmofaaGreatDoor
