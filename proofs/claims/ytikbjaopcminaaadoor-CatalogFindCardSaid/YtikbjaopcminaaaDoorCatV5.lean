/- The program's check of a catalog. -/
import Derived.Test.YtikbjaopcminaaaDoorCatV4
import Derived.Maps.Own
import Derived.Maps.OwnSet
import Derived.Maps.Views
namespace Go.Proofs.YtikbjaopcminaaaDoor
open Go.RowKit Go.Maps
set_option maxRecDepth 100000
attribute [local go_sem] ext_refl_t ext_alloc_t ext_drew_t ext_drewN_t ext_alloc2_t ext_alloc3_t ext_alloc4_t ext_alloc5_t ext_alloc6_t ext_alloc7_t ext_alloc8_t ext_alloc1d_t ext_alloc2d_t ext_alloc3d_t ext_alloc4d_t

theorem keyedS : Keyed Tryd.prog 9 := string_keyed Tryd.underlying9
theorem keyS (s : ByteArray) (h : s.size ≤ maxLen) : keyOf Tryd.prog 9 (.string s) = some (.string s.data.toList) := by
  simp [keyOf, Tryd.underlying9, mapKey, h]
theorem zero_b (w : World) : (zeroValue 4).run Tryd.prog w = .ok (.bool false) w := by kernel_rfl
open Classical in
/-- Block bm is a set of at most n strings, S, as a map to true. -/
def SM (w : World) (bm n : Nat) (S : List ByteArray) : Prop :=
  ∃ D : DataW Unit, w.ownsMap Tryd.prog 9 (plainElem Tryd.prog 4) bm n D ∧ ∀ s : ByteArray, s.size ≤ maxLen → D.atKey (.string s.data.toList) (.lit (.bool false)) = .lit (.bool (decide (s ∈ S)))
section
variable {w w' : World} {bm n : Nat} {S : List ByteArray}
theorem SM.lt (h : SM w bm n S) : bm < w.heap.size := by obtain ⟨D, ho, _⟩ := h; exact ho.lt
theorem SM.kept {r : Option Nat} (h : SM w bm n S) (hg : w.grownBy w' r) (hr : some bm ≠ r) : SM w' bm n S := by
  obtain ⟨D, ho, hv⟩ := h
  exact ⟨D, ho.kept hg hr, hv⟩
theorem SM.ext (h : SM w bm n S) (hE : Ext w w') : SM w' bm n S := h.kept (hE.grownBy none) (by simp)
open Classical in
theorem SM.made (w : World) : SM (w.alloc (.map #[] 0)) w.heap.size 0 [] :=
  ⟨.map [], World.ownsMap_made _ _ _ _, fun _ _ => by rw [decide_eq_false (by simp)]; rfl⟩
open Classical in
theorem SM.look (h : SM w bm n S) (s : ByteArray) (hs : s.size ≤ maxLen) : (Instr.lookup 61 (.map (some bm)) (.string s) false).run Tryd.prog w = .ok (.bool (decide (s ∈ S))) w := by
  obtain ⟨D, ho, hv⟩ := h
  obtain ⟨v, ps, hrun, hR⟩ := ho.lookup keyedS Tryd.underlying61 (zero_b w) (plainElem_bool Tryd.underlying4 false) (keyS s hs)
  rw [hv s hs] at hR
  have e : v = .bool (decide (s ∈ S)) := by
    unfold plainElem at hR
    rw [Tryd.underlying4] at hR
    cases v <;> simp at hR
    rw [hR.1]
  rw [← e]
  exact hrun
open Classical in
theorem SM.store (h : SM w bm n S) (hn : n < maxLen) (s : ByteArray) (hs : s.size ≤ maxLen) :
    ∃ w', (Instr.mapUpdate 61 (.map (some bm)) (.string s) (.bool true)).run Tryd.prog w = .ok () w' ∧ SM w' bm (n + 1) (S ++ [s]) ∧ w.grownBy w' (some bm) := by
  obtain ⟨D, ho, hv⟩ := h
  obtain ⟨w', hrun, ho', hg⟩ := ho.update keyedS Tryd.underlying61 hn (keyS s hs) (plainElem_bool Tryd.underlying4 true)
  refine ⟨w', hrun, ⟨_, ho', fun t ht => ?_⟩, hg⟩
  by_cases hk : t = s
  · subst hk
    rw [atKey_put_same ho.isMap (keyedS.key (keyS t hs))]
    rw [decide_eq_true (show t ∈ S ++ [t] by simp)]
  · have hne : (Lit.string t.data.toList) ≠ Lit.string s.data.toList := fun e => by
      injection e with e
      exact hk (bys_inj e)
    rw [atKey_put_other hne, hv t ht]
    by_cases hm : t ∈ S
    · rw [decide_eq_true hm, decide_eq_true (show t ∈ S ++ [s] by simp [hm])]
    · rw [decide_eq_false hm, decide_eq_false (show ¬ t ∈ S ++ [s] by simp [hm, hk])]
end

/-- A catalog as a value. -/
def catV (x : Cat) : Value := .agg #[.string x.tag, .slice x.c.A x.c.m x.c.c, .slice x.d.A x.d.m x.d.c, .slice x.e.A x.e.m x.e.c]
section
variable {w : World}
open Classical in
set_option maxHeartbeats 6400000 in
theorem valid_any' {x : Cat} (hx : CatW w x) (hT : Tabs w) :
    Calls Tryd.prog 21 #[catV x] w fun e w' => e = .returned (.bool (validC x.p)) ∧ Ext w w' := by
  obtain ⟨tag, com, fd, es, hc, hd, ⟨eA, em, ec⟩⟩ := x
  obtain ⟨gtag, kc, kd, ke⟩ := hx
  unfold catV
  dsimp only at *
  have hb := Blk.new w 28 #[.string tag, .slice hc.A hc.m hc.c, .slice hd.A hd.m hd.c, .slice eA em ec]
  have hW0 : Ext w (w.alloc (Obj.cells #[.string tag, .slice hc.A hc.m hc.c, .slice hd.A hd.m hd.c, .slice eA em ec] 28)) := (Ext.refl w).alloc _
  have X0 := laters (show _ = some (.string tag) from hb.cell 0)
  have X1 := laters (show _ = some (.slice hc.A hc.m hc.c) from hb.cell 1)
  have X2 := laters (show _ = some (.slice hd.A hd.m hd.c) from hb.cell 2)
  have X3 := laters (show _ = some (.slice eA em ec) from hb.cell 3)
  clear hb
  unfold GoodStr at gtag
  have gt2 : tag.size ≤ 140737488355328 := by omega
  have HL := Lib.hid ke.sl.len
  dsimp only at HL
  have HV : Hid (∀ b : Bool, (tagL (bys tag) && textsP com && fieldsP fd && decide (es.length ≤ 1000) && decide (EsOk (es.map Ent.p))) = b → validC (Cat.p ⟨tag, com, fd, es, hc, hd, ⟨eA, em, ec⟩⟩) = b) := fun b hb => by
    rw [← hb]
    show validC _ = _
    unfold validC headP Cat.p
    dsimp only
    rw [List.length_map]
  go_enter Tryd.func21, Tryd.ntmps21
  go_wp2_with (first
    | (go_at_call 15; refine Hid.out ?_))
  refine Hid.mk_ ((validTag_any tag gt2).mono ?_)
  rintro e w1 ⟨rfl, hE1⟩
  have hE01 := hW0.trans hE1
  cases ct : tagL (bys tag) with
  | false =>
    have HF := Lib.hid (HV.out false (by rw [ct]; simp))
    clear ct
    go_wp2
    go_ret
    exact ⟨by rw [HF.out]; first | done | rfl, hE01⟩
  | true =>
  have Z1 := Lib.hid ct
  clear ct
  go_wp2_with (first
    | (go_at_call 57; refine Hid.out ?_))
  refine Hid.mk_ ((texts_any (kc.ext hE01) (hT.ext hE01)).mono ?_)
  rintro e w2 ⟨rfl, hE2⟩
  have hE12 := hE1.trans hE2
  have hE02 := hE01.trans hE2
  cases ct : textsP com with
  | false =>
    have HF := Lib.hid (HV.out false (by rw [ct]; simp))
    clear ct
    go_wp2
    go_ret
    exact ⟨by rw [HF.out]; first | done | rfl, hE02⟩
  | true =>
  have Z2 := Lib.hid ct
  clear ct
  go_wp2_with (first
    | (go_at_call 58; refine Hid.out ?_))
  refine Hid.mk_ ((fields_any (kd.ext hE02) (hT.ext hE02)).mono ?_)
  rintro e w3 ⟨rfl, hE3⟩
  have hE13 := hE12.trans hE3
  have hE03 := hE02.trans hE3
  cases ct : fieldsP fd with
  | false =>
    have HF := Lib.hid (HV.out false (by rw [ct]; simp))
    clear ct
    go_wp2
    go_ret
    exact ⟨by rw [HF.out]; first | done | rfl, hE03⟩
  | true =>
  have Z3 := Lib.hid ct
  clear ct
  by_cases c4 : 1000 < em
  · have c4i : (1000 : Int) < (em : Int) := by omega
    have HF := Lib.hid (HV.out false (by rw [decide_eq_false (show ¬ es.length ≤ 1000 by have := HL.out; omega)]; simp))
    go_wp2
    go_ret
    exact ⟨by rw [HF.out]; first | done | rfl, hE03⟩
  have c4i : ¬ (1000 : Int) < (em : Int) := by omega
  have HV2 : Hid (∀ b : Bool, decide (EsOk (es.map Ent.p)) = b → validC (Cat.p ⟨tag, com, fd, es, hc, hd, ⟨eA, em, ec⟩⟩) = b) := fun b hb => HV.out b (by
    rw [Z1.out, Z2.out, Z3.out, decide_eq_true (show es.length ≤ 1000 by have := HL.out; omega), hb]; rfl)
  have hmm := @run_makeMap Tryd.prog
  have hm0 := SM.made w3
  have hEm : Ext w3 (w3.alloc (.map #[] 0)) := (Ext.refl _).alloc _
  have hE13' := hE13.trans hEm
  have hE03' := hE03.trans hEm
  go_wp2
  obtain ⟨W4, hW4⟩ : ∃ W4, W4 = w3.alloc (.map #[] 0) := ⟨_, rfl⟩
  rw [← hW4] at hm0 hE03' ⊢
  obtain ⟨bm, hbm⟩ : ∃ bm, bm = w3.heap.size := ⟨_, rfl⟩
  rw [← hbm] at hm0 ⊢
  have hbmw : w.heap.size ≤ bm := by rw [hbm]; exact hE03.size_le
  clear hmm hW4 hbm hEm hE13' X0 X1 X2 X3 hE13 hE12 hE1 hE2 hE3 hE01 hE02
  go_loopw [5, 32] (fun _ i wr => ∃ q : Nat, q ≤ em ∧ i = .int .i64 q ∧ Ext w wr ∧ SM wr bm q ((es.take q).map fun y => y.p.id) ∧ Hid (∀ i (_ : i < q) (h : i < es.length), validE es[i].p = true ∧ ∀ j (_ : j < i), (es[j]'(by omega)).p.id ≠ es[i].p.id)) (fun _ i _ => em - (intOf i).toNat)
  case atStart => exact ⟨0, Nat.zero_le _, rfl, hE03', by simpa using hm0, fun j hj _ => absurd hj (by omega)⟩
  case round =>
    obtain ⟨q, hq, rfl, hE, hS, HC⟩ := hrel
    by_cases hlt : q < em
    · have hi1 : (q : Int) < (em : Int) := by omega
      obtain ⟨b, off, e0, hbl, hcs⟩ := (ke.sl.ext hE).at_ hlt (by omega)
      dsimp only at e0
      subst e0
      have hlt1 : q < es.length := by rw [← HL.out]; exact hlt
      obtain ⟨y, hyq⟩ : ∃ y, y = es[q] := ⟨_, rfl⟩
      have hy := ke.good _ (List.getElem_mem hlt1)
      rw [← hyq] at hy
      have hyE := hy.ext hE
      have gid := hy.id
      have y0 := hcs q hlt1 0 (by omega)
      have y1 := hcs q hlt1 1 (by omega)
      have y2 := hcs q hlt1 2 (by omega)
      have y3 := hcs q hlt1 3 (by omega)
      have y4 := hcs q hlt1 4 (by omega)
      have y5 := hcs q hlt1 5 (by omega)
      have y6 := hcs q hlt1 6 (by omega)
      simp only [← hyq, entC, List.getElem_cons_zero, List.getElem_cons_succ, Nat.add_zero, ← Nat.add_assoc] at y0 y1 y2 y3 y4 y5 y6
      have HY := Lib.hid hyq
      have HBAD : Hid (¬ (validE y.p = true ∧ ∀ j (_ : j < q), (es[j]'(by omega)).p.id ≠ y.p.id) → decide (EsOk (es.map Ent.p)) = false) := fun hb => by
        apply decide_eq_false
        intro hall
        have h1 := hall q (by rw [List.length_map]; exact hlt1)
        simp only [List.getElem_map] at h1
        rw [← HY.out] at h1
        exact hb ⟨h1.1, fun j hj => h1.2 j hj⟩
      clear hcs hyq
      obtain ⟨⟨id, src, tgt, com', fl, st, fd'⟩, hc', hf', hd'⟩ := y
      dsimp only at y0 y1 y2 y3 y4 y5 y6 gid
      unfold GoodStr at gid
      have gidm : id.size ≤ maxLen := by unfold maxLen; omega
      have hEx : Ext wr (wr.alloc (Obj.cells #[.string id, .string src, .string tgt, .slice hc'.A hc'.m hc'.c, .slice hf'.A hf'.m hf'.c, .int .i64 st, .slice hd'.A hd'.m hd'.c] 30)) := (Ext.refl _).alloc _
      have hSx := hS.ext hEx
      have l1 := hSx.look id gidm
      have hbx := Blk.new wr 30 #[.string id, .string src, .string tgt, .slice hc'.A hc'.m hc'.c, .slice hf'.A hf'.m hf'.c, .int .i64 st, .slice hd'.A hd'.m hd'.c]
      have hmem : (id ∈ (es.take q).map fun y => y.p.id) ↔ ∃ j, ∃ hj : j < q, (es[j]'(by omega)).p.id = id := by
        constructor
        · intro h
          obtain ⟨z, hz, rfl⟩ := List.mem_map.1 h
          obtain ⟨j, hj, rfl⟩ := List.mem_iff_getElem.1 hz
          rw [List.length_take] at hj
          exact ⟨j, by omega, by rw [List.getElem_take]⟩
        · rintro ⟨j, hj, e⟩
          exact List.mem_map.2 ⟨es[j]'(by omega), List.mem_iff_getElem.2 ⟨j, by rw [List.length_take]; omega, by rw [List.getElem_take]⟩, e⟩
      by_cases hin : id ∈ (es.take q).map fun y => y.p.id
      · rw [decide_eq_true hin] at l1
        have HF := Lib.hid (HV2.out false (HBAD.out (fun hh => by
          obtain ⟨j, hj, e⟩ := hmem.1 hin
          exact hh.2 j hj e)))
        clear hin hmem hbx
        go_wp2
        go_ret
        exact ⟨by rw [HF.out]; first | done | rfl, hE.trans hEx⟩
      · rw [decide_eq_false hin] at l1
        have HNIN : Hid (∀ j (hj : j < q), (es[j]'(by omega)).p.id ≠ id) := fun j hj e => hin (hmem.2 ⟨j, hj, e⟩)
        clear hin hmem
        go_wp2_with (first
          | (go_at_call 23; refine Hid.out ?_))
        refine Hid.mk_ ((validEntry_any (x := ⟨⟨id, src, tgt, com', fl, st, fd'⟩, hc', hf', hd'⟩) (hyE.ext hEx) ((hT.ext hE).ext hEx)).mono ?_)
        rintro e w5 ⟨rfl, hE5⟩
        have hE15 := hEx.trans hE5
        have hE05 := hE.trans hE15
        dsimp only
        cases cv : validE ⟨id, src, tgt, com', fl, st, fd'⟩ with
        | false =>
          have HF := Lib.hid (HV2.out false (HBAD.out (fun hh => by rw [cv] at hh; cases hh.1)))
          clear cv hbx
          go_wp2
          go_ret
          exact ⟨by rw [HF.out]; first | done | rfl, hE05⟩
        | true =>
          have HCV := Lib.hid cv
          clear cv
          have hb5 := hbx.below hE5 hbx.lt
          have z0 : w5.cell? ⟨wr.heap.size, 0, none⟩ = some (.string id) := hb5.cell 0
          obtain ⟨w6, hupd, hS6, hg6⟩ := (hS.ext hE15).store (show q < maxLen by unfold maxLen; omega) id gidm
          have hE06 : Ext w w6 := hE05.grown hg6 (fun k hk => by injection hk with hk; omega)
          have HS6 : Hid (SM w6 bm (q + 1) ((es.take (q + 1)).map fun y => y.p.id)) := by
            show SM _ _ _ _
            rw [List.take_succ_eq_append_getElem hlt1, List.map_append, ← HY.out]
            exact hS6
          have HC6 : Hid (∀ i (_ : i < q + 1) (h : i < es.length), validE es[i].p = true ∧ ∀ j (_ : j < i), (es[j]'(by omega)).p.id ≠ es[i].p.id) := fun i hi h => by
            rcases Nat.lt_or_ge i q with h3 | h3
            · exact HC.out i h3 h
            · obtain rfl : i = q := by omega
              rw [← HY.out]
              exact ⟨HCV.out, fun j hj => HNIN.out j hj⟩
          clear hbx hb5 hS6 hg6
          go_wp2
          go_roundw
          case rel => exact ⟨q + 1, by omega, by go_num, hE06, HS6.out, HC6⟩
          case measure => simp [intOf]; omega
    · have hi1 : ¬ (q : Int) < (em : Int) := by omega
      have HF := Lib.hid (HV2.out true (decide_eq_true (fun i hi => by
        rw [List.length_map] at hi
        have h1 := HC.out i (by have := HL.out; omega) hi
        simp only [List.getElem_map]
        exact ⟨h1.1, fun j hj => h1.2 j hj⟩)))
      go_wp2
      go_ret
      exact ⟨by rw [HF.out]; first | done | rfl, hE⟩
end

end Go.Proofs.YtikbjaopcminaaaDoor
