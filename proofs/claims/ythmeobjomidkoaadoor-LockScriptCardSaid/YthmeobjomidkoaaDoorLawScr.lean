/- After every call of any sequence, the results are the specified ones. No condition. -/
import Derived.Test.YthmeobjomidkoaaDoorScrE
import Derived.Test.YthmeobjomidkoaaDoorLockAwake
import Derived.Test.YthmeobjomidkoaaDoorLockCard
import Derived.ProofKit
import Derived.OpenShut
import Derived.ShutString
import Derived.ChangeOld
import Derived.SizedLaws
namespace Go.Proofs.YthmeobjomidkoaaDoor
open Go.ChangeShapes Go.WideShapes Go.ChangeAt Go.RowKit
set_option maxRecDepth 100000
attribute [local go_sem] ext_refl_t ext_alloc_t ext_drew_t ext_drewN_t ext_alloc2_t ext_alloc3_t ext_alloc4_t ext_alloc5_t ext_alloc6_t ext_alloc7_t ext_alloc8_t ext_alloc1d_t ext_alloc2d_t ext_alloc3d_t ext_alloc4d_t
theorem Tab.none_ : Tab (fun _ _ => none) [] := ⟨List.Pairwise.nil, fun x => ⟨fun h => (by cases h), fun h => (by cases h)⟩⟩
theorem Tab.list {F : LF} {l L : List Lk} {t : Int} (hT : Tab F l) (hL : IsList F t L) : L = l.filter (heldB t) := by
  refine sorted_unique hL.1 (hT.srt.filter _) fun x => ?_
  rw [hL.2, List.mem_filter, hT.mem]
  unfold heldB
  rw [decide_eq_true_eq]
  exact ⟨fun h => heldF_some h, fun h => heldF_of h.1 h.2⟩
theorem Tab.purge_ {F : LF} {l : List Lk} {now : Int} (hT : Tab F l) : Tab (purge F now) (l.filter (heldB now)) := by
  refine ⟨hT.srt.filter _, fun x => ?_⟩
  rw [List.mem_filter, hT.mem]
  unfold heldB purge
  rw [decide_eq_true_eq]
  exact ⟨fun h => heldF_of h.1 h.2, fun h => heldF_some h⟩
theorem Tab.cnt {F : LF} {l : List Lk} (hT : Tab F l) (hK : KeyOk F) : CntF F l.length := by
  refine ⟨l.map fun x => (x.name, x.id), ?_, List.length_map _, fun p => ?_⟩
  · rw [List.Nodup, List.pairwise_map]
    refine hT.srt.imp fun {p q} h e => ?_
    injection e with e1 e2
    rw [(kL_key ⟨e1, e2⟩).1, kL_irrefl] at h
    cases h
  · obtain ⟨a, b⟩ := p
    constructor
    · intro hm
      obtain ⟨z, hz, he⟩ := List.mem_map.1 hm
      injection he with e1 e2
      have h1 := (hT.mem z).1 hz
      obtain ⟨_, _, h2, h3⟩ := hK _ _ _ h1
      rw [e1, e2] at h1
      rw [e1] at h2
      rw [e2] at h3
      exact ⟨h2, h3, by show (F a b).isSome = true; rw [h1]; rfl⟩
    · rintro ⟨_, _, hs⟩
      obtain ⟨z, hz⟩ := Option.isSome_iff_exists.1 hs
      have hz : F a b = some z := hz
      obtain ⟨e1, e2, _⟩ := hK _ _ _ hz
      exact List.mem_map.2 ⟨z, (hT.mem z).2 (by rw [e1, e2]; exact hz), by rw [e1, e2]⟩
theorem slc_kept {α : Type} {cs : α → List Value} {k : Nat} {w w' : World} {A : Option Addr} {m bm n : Nat} {l : List α} {F : LF} (h : SlC cs k w A m l) (hk : 0 < k) (hl : LM w bm n F) (hg : w.grownBy w' (some bm)) : SlC cs k w' A m l := by
  rcases Nat.eq_zero_or_pos m with h0 | h0
  · subst h0
    have hl0 : l = [] := List.eq_nil_of_length_eq_zero h.len.symm
    subst hl0
    exact ⟨⟨by simp, fun hn => absurd hn (by omega)⟩, h.one, rfl, by omega⟩
  · obtain ⟨b, off, e, _, hcs⟩ := h.at_ h0 hk
    have hc := hcs 0 (by rw [← h.len]; exact h0) 0 hk
    exact h.kept hg (.inr (by rw [e]; exact (hl.not_cell ⟨b, off + (0 * k + 0), none⟩ _ hc : some b ≠ some bm)))
section
variable {w : World} {A : Option Addr} {m : Nat} {l : List LStep}
set_option maxHeartbeats 25600000 in
theorem script_walk (c : Nat) (at_ : Int) (hs : SlC lsC 6 w A m l) (hgood : ∀ s ∈ l, GoodS s) (hmc : m * 72 ≤ 140737488351232) (hT : Tabs w) :
    Calls Tryd.prog 6 #[.slice A m c, .int .i64 at_] w fun e w' => e = .returned (.bool true) ∧ Ext w w' := by
  go_enter Tryd.func6, Tryd.ntmps6
  go_wp2_with (first
    | (go_at_call 9; refine Hid.out ?_))
  refine Hid.mk_ ((awake_lk _ hT).mono ?_)
  rintro e w1 ⟨rfl, hE1⟩
  go_wp2_with (first
    | (go_at_call 10; refine Hid.out ?_))
  refine Hid.mk_ ((few_lk c (hs.ext hE1) hgood).mono ?_)
  rintro e w2 ⟨rfl, hE2⟩
  have hE02 := hE1.trans hE2
  cases hfew : fewL l with
  | false =>
    clear hfew
    go_wp2
    go_ret
    exact ⟨rfl, hE02⟩
  | true =>
  have hlen40 : l.length ≤ 40 := by
    have h1 := hfew
    unfold fewL at h1
    simp only [Bool.and_eq_true, decide_eq_true_eq] at h1
    exact h1.2
  clear hfew
  have HL := Lib.hid hs.len
  have HG := Lib.hid hgood
  have hm40 : m ≤ 40 := by rw [HL.out]; exact hlen40
  have hs2 := hs.ext hE02
  clear hgood hlen40
  go_wp2_with (first
    | (go_at_call 11; refine Hid.out ?_))
  refine Hid.mk_ ((new_any w2).mono ?_)
  rintro e w3 ⟨g, bm, rfl, hl3, hE3, hg, hb⟩
  go_wp2
  go_loopw [6, 7] (fun b i wr => ∃ (q n : Nat) (F : LF) (B : Option Addr) (k d : Nat) (R : List Lk), q ≤ m ∧ i = .int .i64 q ∧ n ≤ q ∧ k ≤ q ∧ b = .slice B k d ∧ Lks wr g bm n F ∧ SlC lkC 4 wr B k R ∧ Hid (Tab F R ∧ KeyOk F) ∧ Ext w2 wr) (fun _ i _ => m - (intOf i).toNat)
  case atStart => exact ⟨0, 0, _, none, 0, 0, [], Nat.zero_le _, rfl, Nat.le_refl _, Nat.le_refl _, rfl, hl3, SlC.nil_ lkC_len4, ⟨Tab.none_, KeyOk.none_⟩, hE3⟩
  case round =>
    obtain ⟨q, n, F, B, k, d, R, hq, rfl, hnq, hkq, rfl, hl, hr, HT, hE⟩ := hrel
    by_cases hlt : q < m
    · obtain ⟨b, off, hA, hbl, hcs⟩ := (hs2.ext hE).at_ hlt (by omega)
      have hlt1 : q < l.length := by rw [← HL.out]; exact hlt
      have hgs := HG.out _ (List.getElem_mem hlt1)
      obtain ⟨s, hsq⟩ : ∃ s, s = l[q] := ⟨_, rfl⟩
      rw [← hsq] at hgs
      have y0 := hcs q hlt1 0 (by omega)
      have y1 := hcs q hlt1 1 (by omega)
      have y2 := hcs q hlt1 2 (by omega)
      have y3 := hcs q hlt1 3 (by omega)
      have y4 := hcs q hlt1 4 (by omega)
      have y5 := hcs q hlt1 5 (by omega)
      simp only [← hsq, lsC, List.getElem_cons_zero, List.getElem_cons_succ, ← Nat.add_assoc, Nat.add_zero] at y0 y1 y2 y3 y4 y5
      clear hcs hsq
      have hi1 : (q : Int) < (m : Int) := by omega
      obtain ⟨op, x, now⟩ := s
      dsimp only at y0 y1 y2 y3 y4 y5 hgs
      have HA := Lib.hid hA
      obtain ⟨W0, hW0⟩ : ∃ W0, W0 = (wr.alloc (Obj.cells #[.int .i64 op, .string x.name, .string x.id, .string x.who, .int .i64 x.til, .int .i64 now] 29)).alloc (Obj.cells #[.string x.name, .string x.id, .string x.who, .int .i64 x.til] 24) := ⟨_, rfl⟩
      have hbS : Blk W0 wr.heap.size 29 #[.int .i64 op, .string x.name, .string x.id, .string x.who, .int .i64 x.til, .int .i64 now] := by rw [hW0]; exact (Blk.new wr _ _).alloc _
      have hbX : Blk W0 (wr.heap.size + 1) 24 #[.string x.name, .string x.id, .string x.who, .int .i64 x.til] := by
        have h9 := Blk.new (wr.alloc (Obj.cells #[.int .i64 op, .string x.name, .string x.id, .string x.who, .int .i64 x.til, .int .i64 now] 29)) 24 #[.string x.name, .string x.id, .string x.who, .int .i64 x.til]
        rw [hW0]; simpa using h9
      have hEr0 : Ext wr W0 := by rw [hW0]; exact ((Ext.refl wr).alloc _).alloc _
      obtain ⟨gs, hgsd⟩ : ∃ gs, gs = wr.heap.size := ⟨_, rfl⟩
      obtain ⟨gx, hgxd⟩ : ∃ gx, gx = gs + 1 := ⟨_, rfl⟩
      rw [← hgsd] at hbS hbX
      rw [← hgxd] at hbX
      have hbml : bm < wr.heap.size := hl.map.lt
      have hsb : some gs ≠ some bm := fun e => by injection e with e; omega
      have hxb : some gx ≠ some bm := fun e => by injection e with e; omega
      have hl0 := hl.ext hEr0
      have hr0 := hr.ext hEr0
      have hE0 := hE.trans hEr0
      have HGS := Lib.hid hgs
      have gL : GoodL x := hgs.1
      have hnow1 : -9223372036854775808 ≤ now := hgs.2.1
      have hnow2 : now ≤ 9223372036854775807 := hgs.2.2
      clear hgs
      have hxn : x.name.size ≤ Go.maxLen := by unfold Go.maxLen; have := gL.1; omega
      have hxi : x.id.size ≤ Go.maxLen := by unfold Go.maxLen; have := gL.2.1; omega
      have HTT := hT.ext (hE02.trans hE0)
      by_cases k0 : op = 0
      · subst k0
        go_wp2_with (first
          | (go_at_call 17; refine Hid.out ?_))
        rw [← hW0, ← hgsd, ← hgxd]
        clear hW0 hgsd hgxd hA
        refine Hid.mk_ ((racquire_lk d hr0 (by omega) HT.out.1 HT.out.2 x gL now hnow1 hnow2).mono ?_)
        rintro e w4 ⟨⟨B2, k2, d2, code, F2, R2, rfl, hr2, hT2, hA2, hk2⟩, hE4⟩
        have HT2 := Lib.hid hT2
        have HA2 := Lib.hid hA2
        clear hT2 hA2
        replace hbS := hbS.below hE4 hbS.lt
        replace hbX := hbX.below hE4 hbX.lt
        have hl4 := hl0.ext hE4
        have xs0 : w4.cell? ⟨gx, 0, none⟩ = some (.string x.name) := hbX.cell 0
        have xs1 : w4.cell? ⟨gx, 1, none⟩ = some (.string x.id) := hbX.cell 1
        have xs2 : w4.cell? ⟨gx, 2, none⟩ = some (.string x.who) := hbX.cell 2
        have xs3 : w4.cell? ⟨gx, 3, none⟩ = some (.int .i64 x.til) := hbX.cell 3
        have xs5 : w4.cell? ⟨gs, 5, none⟩ = some (.int .i64 now) := hbS.cell 5
        go_wp2_with (first
          | (go_at_call 13; refine Hid.out ?_))
        refine Hid.mk_ ((acquire_any x.who x.name x.id now x.til hl4 hxn hxi (by unfold Go.maxLen; omega) (HTT.ext hE4) (by have := gL.2.2.1; omega) (by have := gL.1; omega) hnow1 hnow2 gL.2.2.2.1 gL.2.2.2.2).mono ?_)
        rintro e w5 ⟨F3, n3, hn3, ⟨code3, rfl, hA3⟩, hl5, hg5⟩
        obtain ⟨hcc, hFF⟩ := HA2.out.uniq hA3
        subst hcc
        subst hFF
        have HK2 := Lib.hid (HT.out.2.acq HA2.out hxn hxi)
        have hr5 := slc_kept hr2 (by omega) hl4.map hg5
        replace hbS := hbS.grown hg5 hsb
        replace hbX := hbX.grown hg5 hxb
        have hE5 : Ext w2 w5 := (hE0.trans hE4).grown hg5 (fun j hj => by cases hj; exact hb)
        have hcd : (code != code) = false := by simp
        clear hA3 hg5 hr2 hl4 xs0 xs1 xs2 xs3 xs5 hl0 hr0 hr hl
        have xs0 : w5.cell? ⟨gx, 0, none⟩ = some (.string x.name) := hbX.cell 0
        have xs1 : w5.cell? ⟨gx, 1, none⟩ = some (.string x.id) := hbX.cell 1
        have xs2 : w5.cell? ⟨gx, 2, none⟩ = some (.string x.who) := hbX.cell 2
        have xs3 : w5.cell? ⟨gx, 3, none⟩ = some (.int .i64 x.til) := hbX.cell 3
        have xs5 : w5.cell? ⟨gs, 5, none⟩ = some (.int .i64 now) := hbS.cell 5
        have hho := holder_any x.name x.id at_ hl5 hxn hxi
        obtain ⟨is, his⟩ : ∃ is, is = (heldF F2 x.name x.id at_).isSome := ⟨_, rfl⟩
        obtain ⟨hy, hhy⟩ : ∃ y, y = (heldF F2 x.name x.id at_).getD lk0 := ⟨_, rfl⟩
        rw [← his, ← hhy] at hho
        obtain ⟨ya, yb, yc, yt⟩ := hy
        unfold lkV at hho
        dsimp only at hho
        go_wp2_with (first
          | (go_at_call 14; refine Hid.out ?_))
        refine Hid.mk_ ((hho).mono ?_)
        rintro e w6 ⟨rfl, hE6⟩
        clear hho
        have hE26 := hE5.trans hE6
        replace hbS := hbS.below hE6 hbS.lt
        replace hbX := hbX.below hE6 hbX.lt
        have hE6a : Ext w6 (w6.alloc (Obj.cells #[.string ya, .string yb, .string yc, .int .i64 yt] 35)) := (Ext.refl _).alloc _
        have hrh := rholder_lk (F := F2) d2 ((hr5.ext hE6).ext hE6a) HT2.out HK2.out x.name x.id at_
        rw [← his, ← hhy] at hrh
        unfold lkV at hrh
        dsimp only at hrh
        clear his hhy
        obtain ⟨W6, hW6⟩ : ∃ W6, W6 = w6.alloc (Obj.cells #[.string ya, .string yb, .string yc, .int .i64 yt] 35) := ⟨_, rfl⟩
        obtain ⟨g6, hg6⟩ : ∃ g6, g6 = w6.heap.size := ⟨_, rfl⟩
        have hb6 : Blk W6 g6 35 #[.string ya, .string yb, .string yc, .int .i64 yt] := by rw [hW6, hg6]; exact Blk.new w6 _ _
        have hxc := laters (show w6.cell? ⟨gx, 0, none⟩ = some (.string x.name) from hbX.cell 0)
        have hxd := laters (show w6.cell? ⟨gx, 1, none⟩ = some (.string x.id) from hbX.cell 1)
        clear xs0 xs1 xs2 xs3 xs5
        go_wp2_with (first
          | (go_at_call 21; refine Hid.out ?_))
        rw [← hW6, ← hg6]
        rw [← hW6] at hrh hE6a
        clear hW6 hg6
        refine Hid.mk_ (hrh.mono ?_)
        clear hrh
        rintro e w7 ⟨rfl, hE7⟩
        have hE27 := (hE26.trans hE6a).trans hE7
        have hE67 := hE6a.trans hE7
        have hb67 := hb6.below hE7 hb6.lt
        replace hbS := hbS.below hE67 hbS.lt
        obtain ⟨W7, hW7⟩ : ∃ W7, W7 = w7.alloc (Obj.cells #[.string ya, .string yb, .string yc, .int .i64 yt] 24) := ⟨_, rfl⟩
        obtain ⟨g7, hg7⟩ : ∃ g7, g7 = w7.heap.size := ⟨_, rfl⟩
        have hb7 : Blk W7 g7 24 #[.string ya, .string yb, .string yc, .int .i64 yt] := by rw [hW7, hg7]; exact Blk.new w7 _ _
        have hE7a : Ext w7 W7 := by rw [hW7]; exact (Ext.refl _).alloc _
        have hb6' := hb67.below hE7a hb67.lt
        have hbS' := hbS.below hE7a hbS.lt
        have hE27a := hE27.trans hE7a
        have hl7 := (hl5.ext hE6).ext (hE67.trans hE7a)
        have hr7 := (hr5.ext hE6).ext (hE67.trans hE7a)
        have A0 := laters (show W7.cell? ⟨g6, 0, none⟩ = some (.string ya) from hb6'.cell 0)
        have A1 := laters (show W7.cell? ⟨g6, 1, none⟩ = some (.string yb) from hb6'.cell 1)
        have A2 := laters (show W7.cell? ⟨g6, 2, none⟩ = some (.string yc) from hb6'.cell 2)
        have A3 := laters (show W7.cell? ⟨g6, 3, none⟩ = some (.int .i64 yt) from hb6'.cell 3)
        have C0 := laters (show W7.cell? ⟨g7, 0, none⟩ = some (.string ya) from hb7.cell 0)
        have C1 := laters (show W7.cell? ⟨g7, 1, none⟩ = some (.string yb) from hb7.cell 1)
        have C2 := laters (show W7.cell? ⟨g7, 2, none⟩ = some (.string yc) from hb7.cell 2)
        have C3 := laters (show W7.cell? ⟨g7, 3, none⟩ = some (.int .i64 yt) from hb7.cell 3)
        have S5 := laters (show W7.cell? ⟨gs, 5, none⟩ = some (.int .i64 now) from hbS'.cell 5)
        have hii : (is != is) = false := by simp
        have hEd : Ext W7 W7.drew := (Ext.refl _).drew
        have hEs : Ext W7 W7 := Ext.refl _
        have HLI : Hid (∀ (t : Int) (W : World), Ext W7 W → Calls Tryd.prog 16 #[.pointer (some ⟨g, 0, none⟩), .int .i64 t] W fun e w' => (∃ A m c, e = .returned (.slice A m c) ∧ SlC lkC 4 w' A m (R2.filter (heldB t))) ∧ Ext W w') := fun t W hW => (list_any t (hl7.ext hW) (by omega) HK2.out).mono (by
          rintro e w' ⟨⟨A, m, c, L, rfl, h1, h2, _, _⟩, h3⟩
          exact ⟨⟨A, m, c, rfl, by rw [← HT2.out.list h2]; exact h1⟩, h3⟩)
        have HRI : Hid (∀ (t : Int) (W : World), Ext W7 W → Calls Tryd.prog 19 #[.slice B2 k2 d2, .int .i64 t] W fun e w' => (∃ A m c, e = .returned (.slice A m c) ∧ SlC lkC 4 w' A m (R2.filter (heldB t))) ∧ Ext W w') := fun t W hW => (rlist_lk d2 (hr7.ext hW) (by omega) t).mono (by
          rintro e w' ⟨⟨A, m, c, rfl, h1⟩, h3⟩
          exact ⟨⟨A, m, c, rfl, h1.sl⟩, h3⟩)
        clear hxc hxd hbS hbX hb6 hb67 hb6' hbS' hb7
        go_wp2
        rw [← hW7, ← hg7]
        clear hW7 hg7
        go_region_held3 (fun w' => w'.cell? ⟨g6, 0, none⟩ = some (.string ya) ∧ w'.cell? ⟨g6, 1, none⟩ = some (.string yb) ∧ w'.cell? ⟨g6, 2, none⟩ = some (.string yc) ∧ w'.cell? ⟨g6, 3, none⟩ = some (.int .i64 yt) ∧ w'.cell? ⟨g7, 0, none⟩ = some (.string ya) ∧ w'.cell? ⟨g7, 1, none⟩ = some (.string yb) ∧ w'.cell? ⟨g7, 2, none⟩ = some (.string yc) ∧ w'.cell? ⟨g7, 3, none⟩ = some (.int .i64 yt) ∧ w'.cell? ⟨gs, 5, none⟩ = some (.int .i64 now))
          (exact ⟨A0 _ (by assumption), A1 _ (by assumption), A2 _ (by assumption), A3 _ (by assumption), C0 _ (by assumption), C1 _ (by assumption), C2 _ (by assumption), C3 _ (by assumption), S5 _ (by assumption)⟩)
          (first
            | (go_at_call 22; (with_reducible refine (same_lk _ _ (hsp.ext hEz) hsz).mono ?_); rintro e wn ⟨rfl, hEn⟩; have hEWn : Ext W7 wn := Ext.trans hEWz hEn)
            | (go_at_call 22; (with_reducible refine (same_lk _ _ (hsu.ext hEv) hsv).mono ?_); rintro e wm ⟨rfl, hEm⟩; have hEWm : Ext W7 wm := Ext.trans hEWv hEm)
            | (go_at_call 16; (with_reducible refine (HLI.out now _ (by assumption)).mono ?_); rintro e wu ⟨⟨aU, mu, cu, rfl, hsu⟩, hEu⟩; have hEWu : Ext W7 wu := Ext.trans (by assumption) hEu)
            | (go_at_call 16; (with_reducible refine (HLI.out at_ _ (by assumption)).mono ?_); rintro e wp ⟨⟨aP, mp, cp, rfl, hsp⟩, hEp⟩; have hEWp : Ext W7 wp := Ext.trans (by assumption) hEp)
            | (go_at_call 19; (with_reducible refine (HRI.out now _ (by assumption)).mono ?_); rintro e wv ⟨⟨aV, mv, cv, rfl, hsv⟩, hEv⟩; have hEWv : Ext W7 wv := Ext.trans (by assumption) hEv)
            | (go_at_call 19; (with_reducible refine (HRI.out at_ _ (by assumption)).mono ?_); rintro e wz ⟨⟨aZ, mz, cz, rfl, hsz⟩, hEz⟩; have hEWz : Ext W7 wz := Ext.trans (by assumption) hEz)
            | fail)
        all_goals
          have hE2n : Ext w2 wn := hE27a.trans hEWn
          have hln := hl7.ext hEWn
          have hrn := hr7.ext hEWn
          have HTN : Hid (Tab F2 R2 ∧ KeyOk F2) := ⟨HT2.out, HK2.out⟩
          clear A0 A1 A2 A3 C0 C1 C2 C3 S5 HLI HRI
          go_wp2
          go_roundw
          case rel => exact ⟨q + 1, n3, F2, B2, k2, d2, R2, by omega, by go_num, by omega, by omega, rfl, hln, hrn, HTN, hE2n⟩
          case measure => simp [intOf]; omega
      have k0' : (op == 0) = false := by rw [beq_eq_false_iff_ne]; exact k0
      by_cases k1 : op = 1
      · subst k1
        go_wp2_with (first
          | (go_at_call 18; refine Hid.out ?_))
        rw [← hW0, ← hgsd, ← hgxd]
        clear hW0 hgsd hgxd hA
        refine Hid.mk_ ((rrelease_lk d hr0 (by omega) HT.out.1 HT.out.2 x.who x.name x.id now).mono ?_)
        rintro e w4 ⟨⟨B2, k2, d2, code, F2, R2, rfl, hr2, hT2, hA2, hk2⟩, hE4⟩
        have HT2 := Lib.hid hT2
        have HA2 := Lib.hid hA2
        clear hT2 hA2
        replace hbS := hbS.below hE4 hbS.lt
        replace hbX := hbX.below hE4 hbX.lt
        have hl4 := hl0.ext hE4
        have xs0 : w4.cell? ⟨gx, 0, none⟩ = some (.string x.name) := hbX.cell 0
        have xs1 : w4.cell? ⟨gx, 1, none⟩ = some (.string x.id) := hbX.cell 1
        have xs2 : w4.cell? ⟨gx, 2, none⟩ = some (.string x.who) := hbX.cell 2
        have xs3 : w4.cell? ⟨gx, 3, none⟩ = some (.int .i64 x.til) := hbX.cell 3
        have xs5 : w4.cell? ⟨gs, 5, none⟩ = some (.int .i64 now) := hbS.cell 5
        go_wp2_with (first
          | (go_at_call 15; refine Hid.out ?_))
        refine Hid.mk_ ((release_any x.who x.name x.id now hl4 hxn hxi).mono ?_)
        rintro e w5 ⟨F3, ⟨code3, rfl, hA3⟩, hl5', hg5⟩
        obtain ⟨hcc, hFF⟩ := HA2.out.uniq hA3
        subst hcc
        subst hFF
        obtain ⟨n3, hn3, hl5⟩ : ∃ n3, n3 ≤ n + 1 ∧ Lks w5 g bm n3 F2 := ⟨n, by omega, hl5'⟩
        have HK2 := Lib.hid (HT.out.2.rel HA2.out)
        have hr5 := slc_kept hr2 (by omega) hl4.map hg5
        replace hbS := hbS.grown hg5 hsb
        replace hbX := hbX.grown hg5 hxb
        have hE5 : Ext w2 w5 := (hE0.trans hE4).grown hg5 (fun j hj => by cases hj; exact hb)
        have hcd : (code != code) = false := by simp
        clear hA3 hg5 hr2 hl4 xs0 xs1 xs2 xs3 xs5 hl0 hr0 hr hl hl5' k0'
        have xs0 : w5.cell? ⟨gx, 0, none⟩ = some (.string x.name) := hbX.cell 0
        have xs1 : w5.cell? ⟨gx, 1, none⟩ = some (.string x.id) := hbX.cell 1
        have xs2 : w5.cell? ⟨gx, 2, none⟩ = some (.string x.who) := hbX.cell 2
        have xs3 : w5.cell? ⟨gx, 3, none⟩ = some (.int .i64 x.til) := hbX.cell 3
        have xs5 : w5.cell? ⟨gs, 5, none⟩ = some (.int .i64 now) := hbS.cell 5
        have hho := holder_any x.name x.id at_ hl5 hxn hxi
        obtain ⟨is, his⟩ : ∃ is, is = (heldF F2 x.name x.id at_).isSome := ⟨_, rfl⟩
        obtain ⟨hy, hhy⟩ : ∃ y, y = (heldF F2 x.name x.id at_).getD lk0 := ⟨_, rfl⟩
        rw [← his, ← hhy] at hho
        obtain ⟨ya, yb, yc, yt⟩ := hy
        unfold lkV at hho
        dsimp only at hho
        go_wp2_with (first
          | (go_at_call 14; refine Hid.out ?_))
        refine Hid.mk_ ((hho).mono ?_)
        rintro e w6 ⟨rfl, hE6⟩
        clear hho
        have hE26 := hE5.trans hE6
        replace hbS := hbS.below hE6 hbS.lt
        replace hbX := hbX.below hE6 hbX.lt
        have hE6a : Ext w6 (w6.alloc (Obj.cells #[.string ya, .string yb, .string yc, .int .i64 yt] 35)) := (Ext.refl _).alloc _
        have hrh := rholder_lk (F := F2) d2 ((hr5.ext hE6).ext hE6a) HT2.out HK2.out x.name x.id at_
        rw [← his, ← hhy] at hrh
        unfold lkV at hrh
        dsimp only at hrh
        clear his hhy
        obtain ⟨W6, hW6⟩ : ∃ W6, W6 = w6.alloc (Obj.cells #[.string ya, .string yb, .string yc, .int .i64 yt] 35) := ⟨_, rfl⟩
        obtain ⟨g6, hg6⟩ : ∃ g6, g6 = w6.heap.size := ⟨_, rfl⟩
        have hb6 : Blk W6 g6 35 #[.string ya, .string yb, .string yc, .int .i64 yt] := by rw [hW6, hg6]; exact Blk.new w6 _ _
        have hxc := laters (show w6.cell? ⟨gx, 0, none⟩ = some (.string x.name) from hbX.cell 0)
        have hxd := laters (show w6.cell? ⟨gx, 1, none⟩ = some (.string x.id) from hbX.cell 1)
        clear xs0 xs1 xs2 xs3 xs5
        go_wp2_with (first
          | (go_at_call 21; refine Hid.out ?_))
        rw [← hW6, ← hg6]
        rw [← hW6] at hrh hE6a
        clear hW6 hg6
        refine Hid.mk_ (hrh.mono ?_)
        clear hrh
        rintro e w7 ⟨rfl, hE7⟩
        have hE27 := (hE26.trans hE6a).trans hE7
        have hE67 := hE6a.trans hE7
        have hb67 := hb6.below hE7 hb6.lt
        replace hbS := hbS.below hE67 hbS.lt
        obtain ⟨W7, hW7⟩ : ∃ W7, W7 = w7.alloc (Obj.cells #[.string ya, .string yb, .string yc, .int .i64 yt] 24) := ⟨_, rfl⟩
        obtain ⟨g7, hg7⟩ : ∃ g7, g7 = w7.heap.size := ⟨_, rfl⟩
        have hb7 : Blk W7 g7 24 #[.string ya, .string yb, .string yc, .int .i64 yt] := by rw [hW7, hg7]; exact Blk.new w7 _ _
        have hE7a : Ext w7 W7 := by rw [hW7]; exact (Ext.refl _).alloc _
        have hb6' := hb67.below hE7a hb67.lt
        have hbS' := hbS.below hE7a hbS.lt
        have hE27a := hE27.trans hE7a
        have hl7 := (hl5.ext hE6).ext (hE67.trans hE7a)
        have hr7 := (hr5.ext hE6).ext (hE67.trans hE7a)
        have A0 := laters (show W7.cell? ⟨g6, 0, none⟩ = some (.string ya) from hb6'.cell 0)
        have A1 := laters (show W7.cell? ⟨g6, 1, none⟩ = some (.string yb) from hb6'.cell 1)
        have A2 := laters (show W7.cell? ⟨g6, 2, none⟩ = some (.string yc) from hb6'.cell 2)
        have A3 := laters (show W7.cell? ⟨g6, 3, none⟩ = some (.int .i64 yt) from hb6'.cell 3)
        have C0 := laters (show W7.cell? ⟨g7, 0, none⟩ = some (.string ya) from hb7.cell 0)
        have C1 := laters (show W7.cell? ⟨g7, 1, none⟩ = some (.string yb) from hb7.cell 1)
        have C2 := laters (show W7.cell? ⟨g7, 2, none⟩ = some (.string yc) from hb7.cell 2)
        have C3 := laters (show W7.cell? ⟨g7, 3, none⟩ = some (.int .i64 yt) from hb7.cell 3)
        have S5 := laters (show W7.cell? ⟨gs, 5, none⟩ = some (.int .i64 now) from hbS'.cell 5)
        have hii : (is != is) = false := by simp
        have hEd : Ext W7 W7.drew := (Ext.refl _).drew
        have hEs : Ext W7 W7 := Ext.refl _
        have HLI : Hid (∀ (t : Int) (W : World), Ext W7 W → Calls Tryd.prog 16 #[.pointer (some ⟨g, 0, none⟩), .int .i64 t] W fun e w' => (∃ A m c, e = .returned (.slice A m c) ∧ SlC lkC 4 w' A m (R2.filter (heldB t))) ∧ Ext W w') := fun t W hW => (list_any t (hl7.ext hW) (by omega) HK2.out).mono (by
          rintro e w' ⟨⟨A, m, c, L, rfl, h1, h2, _, _⟩, h3⟩
          exact ⟨⟨A, m, c, rfl, by rw [← HT2.out.list h2]; exact h1⟩, h3⟩)
        have HRI : Hid (∀ (t : Int) (W : World), Ext W7 W → Calls Tryd.prog 19 #[.slice B2 k2 d2, .int .i64 t] W fun e w' => (∃ A m c, e = .returned (.slice A m c) ∧ SlC lkC 4 w' A m (R2.filter (heldB t))) ∧ Ext W w') := fun t W hW => (rlist_lk d2 (hr7.ext hW) (by omega) t).mono (by
          rintro e w' ⟨⟨A, m, c, rfl, h1⟩, h3⟩
          exact ⟨⟨A, m, c, rfl, h1.sl⟩, h3⟩)
        clear hxc hxd hbS hbX hb6 hb67 hb6' hbS' hb7
        go_wp2
        rw [← hW7, ← hg7]
        clear hW7 hg7
        go_region_held3 (fun w' => w'.cell? ⟨g6, 0, none⟩ = some (.string ya) ∧ w'.cell? ⟨g6, 1, none⟩ = some (.string yb) ∧ w'.cell? ⟨g6, 2, none⟩ = some (.string yc) ∧ w'.cell? ⟨g6, 3, none⟩ = some (.int .i64 yt) ∧ w'.cell? ⟨g7, 0, none⟩ = some (.string ya) ∧ w'.cell? ⟨g7, 1, none⟩ = some (.string yb) ∧ w'.cell? ⟨g7, 2, none⟩ = some (.string yc) ∧ w'.cell? ⟨g7, 3, none⟩ = some (.int .i64 yt) ∧ w'.cell? ⟨gs, 5, none⟩ = some (.int .i64 now))
          (exact ⟨A0 _ (by assumption), A1 _ (by assumption), A2 _ (by assumption), A3 _ (by assumption), C0 _ (by assumption), C1 _ (by assumption), C2 _ (by assumption), C3 _ (by assumption), S5 _ (by assumption)⟩)
          (first
            | (go_at_call 22; (with_reducible refine (same_lk _ _ (hsp.ext hEz) hsz).mono ?_); rintro e wn ⟨rfl, hEn⟩; have hEWn : Ext W7 wn := Ext.trans hEWz hEn)
            | (go_at_call 22; (with_reducible refine (same_lk _ _ (hsu.ext hEv) hsv).mono ?_); rintro e wm ⟨rfl, hEm⟩; have hEWm : Ext W7 wm := Ext.trans hEWv hEm)
            | (go_at_call 16; (with_reducible refine (HLI.out now _ (by assumption)).mono ?_); rintro e wu ⟨⟨aU, mu, cu, rfl, hsu⟩, hEu⟩; have hEWu : Ext W7 wu := Ext.trans (by assumption) hEu)
            | (go_at_call 16; (with_reducible refine (HLI.out at_ _ (by assumption)).mono ?_); rintro e wp ⟨⟨aP, mp, cp, rfl, hsp⟩, hEp⟩; have hEWp : Ext W7 wp := Ext.trans (by assumption) hEp)
            | (go_at_call 19; (with_reducible refine (HRI.out now _ (by assumption)).mono ?_); rintro e wv ⟨⟨aV, mv, cv, rfl, hsv⟩, hEv⟩; have hEWv : Ext W7 wv := Ext.trans (by assumption) hEv)
            | (go_at_call 19; (with_reducible refine (HRI.out at_ _ (by assumption)).mono ?_); rintro e wz ⟨⟨aZ, mz, cz, rfl, hsz⟩, hEz⟩; have hEWz : Ext W7 wz := Ext.trans (by assumption) hEz)
            | fail)
        all_goals
          have hE2n : Ext w2 wn := hE27a.trans hEWn
          have hln := hl7.ext hEWn
          have hrn := hr7.ext hEWn
          have HTN : Hid (Tab F2 R2 ∧ KeyOk F2) := ⟨HT2.out, HK2.out⟩
          clear A0 A1 A2 A3 C0 C1 C2 C3 S5 HLI HRI
          go_wp2
          go_roundw
          case rel => exact ⟨q + 1, n3, F2, B2, k2, d2, R2, by omega, by go_num, by omega, by omega, rfl, hln, hrn, HTN, hE2n⟩
          case measure => simp [intOf]; omega
      · have k1' : (op == 1) = false := by rw [beq_eq_false_iff_ne]; exact k1
        clear k0 k1
        go_wp2_with (first
          | (go_at_call 19; refine Hid.out ?_))
        rw [← hW0, ← hgsd, ← hgxd]
        clear hW0 hgsd hgxd hA
        refine Hid.mk_ ((rlist_lk d hr0 (by omega) now).mono ?_)
        rintro e w4 ⟨⟨B2, k2, d2, rfl, ho2⟩, hE4⟩
        obtain ⟨F2, hF2⟩ : ∃ F2, F2 = purge F now := ⟨_, rfl⟩
        obtain ⟨R2, hR2⟩ : ∃ R2, R2 = R.filter (heldB now) := ⟨_, rfl⟩
        have HT2 : Hid (Tab F2 R2) := by show Tab _ _; rw [hF2, hR2]; exact HT.out.1.purge_
        have HK2 : Hid (KeyOk F2) := by show KeyOk _; rw [hF2]; exact HT.out.2.purge_
        have hr2 : SlC lkC 4 w4 B2 k2 R2 := by rw [hR2]; exact ho2.sl
        have hk2 : k2 ≤ k := by
          have h1 := ho2.len
          have h2 := List.length_filter_le (heldB now) R
          have h3 := hr0.len
          omega
        have hkl := hr0.len
        have hk2l := hr2.len
        have HKL := Lib.hid hkl
        have HK2L := Lib.hid hk2l
        have HF2 := Lib.hid hF2
        clear ho2 hR2 hF2 hkl hk2l
        replace hbS := hbS.below hE4 hbS.lt
        replace hbX := hbX.below hE4 hbX.lt
        have hl4 := hl0.ext hE4
        have xs0 : w4.cell? ⟨gx, 0, none⟩ = some (.string x.name) := hbX.cell 0
        have xs1 : w4.cell? ⟨gx, 1, none⟩ = some (.string x.id) := hbX.cell 1
        have xs2 : w4.cell? ⟨gx, 2, none⟩ = some (.string x.who) := hbX.cell 2
        have xs3 : w4.cell? ⟨gx, 3, none⟩ = some (.int .i64 x.til) := hbX.cell 3
        have xs5 : w4.cell? ⟨gs, 5, none⟩ = some (.int .i64 now) := hbS.cell 5
        go_wp2_with (first
          | (go_at_call 20; refine Hid.out ?_))
        refine Hid.mk_ ((expire_any now hl4 (by unfold Go.maxLen; omega)).mono ?_)
        rintro e w5 ⟨⟨z, rfl, hz⟩, hl5', hg5⟩
        have hzz : z = (k : Int) - (k2 : Int) := by
          obtain ⟨a, b, h1, h2, h3⟩ := hz
          rw [← HF2.out] at h2
          have e1 := h1.uniq (HT.out.1.cnt HT.out.2)
          have e2 := h2.uniq (HT2.out.cnt HK2.out)
          rw [h3, e1, e2, HKL.out, HK2L.out]
        subst hzz
        rw [← HF2.out] at hl5'
        obtain ⟨n3, hn3, hl5⟩ : ∃ n3, n3 ≤ n + 1 ∧ Lks w5 g bm n3 F2 := ⟨n, by omega, hl5'⟩
        have hr5 := slc_kept hr2 (by omega) hl4.map hg5
        replace hbS := hbS.grown hg5 hsb
        replace hbX := hbX.grown hg5 hxb
        have hE5 : Ext w2 w5 := (hE0.trans hE4).grown hg5 (fun j hj => by cases hj; exact hb)
        have hcd : ((k : Int) - (k2 : Int) != (k : Int) - (k2 : Int)) = false := by simp
        clear hz hg5 hr2 hl4 xs0 xs1 xs2 xs3 xs5 hl0 hr0 hr hl hl5' k0' k1'
        have xs0 : w5.cell? ⟨gx, 0, none⟩ = some (.string x.name) := hbX.cell 0
        have xs1 : w5.cell? ⟨gx, 1, none⟩ = some (.string x.id) := hbX.cell 1
        have xs2 : w5.cell? ⟨gx, 2, none⟩ = some (.string x.who) := hbX.cell 2
        have xs3 : w5.cell? ⟨gx, 3, none⟩ = some (.int .i64 x.til) := hbX.cell 3
        have xs5 : w5.cell? ⟨gs, 5, none⟩ = some (.int .i64 now) := hbS.cell 5
        have hho := holder_any x.name x.id at_ hl5 hxn hxi
        obtain ⟨is, his⟩ : ∃ is, is = (heldF F2 x.name x.id at_).isSome := ⟨_, rfl⟩
        obtain ⟨hy, hhy⟩ : ∃ y, y = (heldF F2 x.name x.id at_).getD lk0 := ⟨_, rfl⟩
        rw [← his, ← hhy] at hho
        obtain ⟨ya, yb, yc, yt⟩ := hy
        unfold lkV at hho
        dsimp only at hho
        go_wp2_with (first
          | (go_at_call 14; refine Hid.out ?_))
        refine Hid.mk_ ((hho).mono ?_)
        rintro e w6 ⟨rfl, hE6⟩
        clear hho
        have hE26 := hE5.trans hE6
        replace hbS := hbS.below hE6 hbS.lt
        replace hbX := hbX.below hE6 hbX.lt
        have hE6a : Ext w6 (w6.alloc (Obj.cells #[.string ya, .string yb, .string yc, .int .i64 yt] 35)) := (Ext.refl _).alloc _
        have hrh := rholder_lk (F := F2) d2 ((hr5.ext hE6).ext hE6a) HT2.out HK2.out x.name x.id at_
        rw [← his, ← hhy] at hrh
        unfold lkV at hrh
        dsimp only at hrh
        clear his hhy
        obtain ⟨W6, hW6⟩ : ∃ W6, W6 = w6.alloc (Obj.cells #[.string ya, .string yb, .string yc, .int .i64 yt] 35) := ⟨_, rfl⟩
        obtain ⟨g6, hg6⟩ : ∃ g6, g6 = w6.heap.size := ⟨_, rfl⟩
        have hb6 : Blk W6 g6 35 #[.string ya, .string yb, .string yc, .int .i64 yt] := by rw [hW6, hg6]; exact Blk.new w6 _ _
        have hxc := laters (show w6.cell? ⟨gx, 0, none⟩ = some (.string x.name) from hbX.cell 0)
        have hxd := laters (show w6.cell? ⟨gx, 1, none⟩ = some (.string x.id) from hbX.cell 1)
        clear xs0 xs1 xs2 xs3 xs5
        go_wp2_with (first
          | (go_at_call 21; refine Hid.out ?_))
        rw [← hW6, ← hg6]
        rw [← hW6] at hrh hE6a
        clear hW6 hg6
        refine Hid.mk_ (hrh.mono ?_)
        clear hrh
        rintro e w7 ⟨rfl, hE7⟩
        have hE27 := (hE26.trans hE6a).trans hE7
        have hE67 := hE6a.trans hE7
        have hb67 := hb6.below hE7 hb6.lt
        replace hbS := hbS.below hE67 hbS.lt
        obtain ⟨W7, hW7⟩ : ∃ W7, W7 = w7.alloc (Obj.cells #[.string ya, .string yb, .string yc, .int .i64 yt] 24) := ⟨_, rfl⟩
        obtain ⟨g7, hg7⟩ : ∃ g7, g7 = w7.heap.size := ⟨_, rfl⟩
        have hb7 : Blk W7 g7 24 #[.string ya, .string yb, .string yc, .int .i64 yt] := by rw [hW7, hg7]; exact Blk.new w7 _ _
        have hE7a : Ext w7 W7 := by rw [hW7]; exact (Ext.refl _).alloc _
        have hb6' := hb67.below hE7a hb67.lt
        have hbS' := hbS.below hE7a hbS.lt
        have hE27a := hE27.trans hE7a
        have hl7 := (hl5.ext hE6).ext (hE67.trans hE7a)
        have hr7 := (hr5.ext hE6).ext (hE67.trans hE7a)
        have A0 := laters (show W7.cell? ⟨g6, 0, none⟩ = some (.string ya) from hb6'.cell 0)
        have A1 := laters (show W7.cell? ⟨g6, 1, none⟩ = some (.string yb) from hb6'.cell 1)
        have A2 := laters (show W7.cell? ⟨g6, 2, none⟩ = some (.string yc) from hb6'.cell 2)
        have A3 := laters (show W7.cell? ⟨g6, 3, none⟩ = some (.int .i64 yt) from hb6'.cell 3)
        have C0 := laters (show W7.cell? ⟨g7, 0, none⟩ = some (.string ya) from hb7.cell 0)
        have C1 := laters (show W7.cell? ⟨g7, 1, none⟩ = some (.string yb) from hb7.cell 1)
        have C2 := laters (show W7.cell? ⟨g7, 2, none⟩ = some (.string yc) from hb7.cell 2)
        have C3 := laters (show W7.cell? ⟨g7, 3, none⟩ = some (.int .i64 yt) from hb7.cell 3)
        have S5 := laters (show W7.cell? ⟨gs, 5, none⟩ = some (.int .i64 now) from hbS'.cell 5)
        have hii : (is != is) = false := by simp
        have hEd : Ext W7 W7.drew := (Ext.refl _).drew
        have hEs : Ext W7 W7 := Ext.refl _
        have HLI : Hid (∀ (t : Int) (W : World), Ext W7 W → Calls Tryd.prog 16 #[.pointer (some ⟨g, 0, none⟩), .int .i64 t] W fun e w' => (∃ A m c, e = .returned (.slice A m c) ∧ SlC lkC 4 w' A m (R2.filter (heldB t))) ∧ Ext W w') := fun t W hW => (list_any t (hl7.ext hW) (by omega) HK2.out).mono (by
          rintro e w' ⟨⟨A, m, c, L, rfl, h1, h2, _, _⟩, h3⟩
          exact ⟨⟨A, m, c, rfl, by rw [← HT2.out.list h2]; exact h1⟩, h3⟩)
        have HRI : Hid (∀ (t : Int) (W : World), Ext W7 W → Calls Tryd.prog 19 #[.slice B2 k2 d2, .int .i64 t] W fun e w' => (∃ A m c, e = .returned (.slice A m c) ∧ SlC lkC 4 w' A m (R2.filter (heldB t))) ∧ Ext W w') := fun t W hW => (rlist_lk d2 (hr7.ext hW) (by omega) t).mono (by
          rintro e w' ⟨⟨A, m, c, rfl, h1⟩, h3⟩
          exact ⟨⟨A, m, c, rfl, h1.sl⟩, h3⟩)
        clear hxc hxd hbS hbX hb6 hb67 hb6' hbS' hb7
        go_wp2
        rw [← hW7, ← hg7]
        clear hW7 hg7
        go_region_held3 (fun w' => w'.cell? ⟨g6, 0, none⟩ = some (.string ya) ∧ w'.cell? ⟨g6, 1, none⟩ = some (.string yb) ∧ w'.cell? ⟨g6, 2, none⟩ = some (.string yc) ∧ w'.cell? ⟨g6, 3, none⟩ = some (.int .i64 yt) ∧ w'.cell? ⟨g7, 0, none⟩ = some (.string ya) ∧ w'.cell? ⟨g7, 1, none⟩ = some (.string yb) ∧ w'.cell? ⟨g7, 2, none⟩ = some (.string yc) ∧ w'.cell? ⟨g7, 3, none⟩ = some (.int .i64 yt) ∧ w'.cell? ⟨gs, 5, none⟩ = some (.int .i64 now))
          (exact ⟨A0 _ (by assumption), A1 _ (by assumption), A2 _ (by assumption), A3 _ (by assumption), C0 _ (by assumption), C1 _ (by assumption), C2 _ (by assumption), C3 _ (by assumption), S5 _ (by assumption)⟩)
          (first
            | (go_at_call 22; (with_reducible refine (same_lk _ _ (hsp.ext hEz) hsz).mono ?_); rintro e wn ⟨rfl, hEn⟩; have hEWn : Ext W7 wn := Ext.trans hEWz hEn)
            | (go_at_call 22; (with_reducible refine (same_lk _ _ (hsu.ext hEv) hsv).mono ?_); rintro e wm ⟨rfl, hEm⟩; have hEWm : Ext W7 wm := Ext.trans hEWv hEm)
            | (go_at_call 16; (with_reducible refine (HLI.out now _ (by assumption)).mono ?_); rintro e wu ⟨⟨aU, mu, cu, rfl, hsu⟩, hEu⟩; have hEWu : Ext W7 wu := Ext.trans (by assumption) hEu)
            | (go_at_call 16; (with_reducible refine (HLI.out at_ _ (by assumption)).mono ?_); rintro e wp ⟨⟨aP, mp, cp, rfl, hsp⟩, hEp⟩; have hEWp : Ext W7 wp := Ext.trans (by assumption) hEp)
            | (go_at_call 19; (with_reducible refine (HRI.out now _ (by assumption)).mono ?_); rintro e wv ⟨⟨aV, mv, cv, rfl, hsv⟩, hEv⟩; have hEWv : Ext W7 wv := Ext.trans (by assumption) hEv)
            | (go_at_call 19; (with_reducible refine (HRI.out at_ _ (by assumption)).mono ?_); rintro e wz ⟨⟨aZ, mz, cz, rfl, hsz⟩, hEz⟩; have hEWz : Ext W7 wz := Ext.trans (by assumption) hEz)
            | fail)
        all_goals
          have hE2n : Ext w2 wn := hE27a.trans hEWn
          have hln := hl7.ext hEWn
          have hrn := hr7.ext hEWn
          have HTN : Hid (Tab F2 R2 ∧ KeyOk F2) := ⟨HT2.out, HK2.out⟩
          clear A0 A1 A2 A3 C0 C1 C2 C3 S5 HLI HRI
          go_wp2
          go_roundw
          case rel => exact ⟨q + 1, n3, F2, B2, k2, d2, R2, by omega, by go_num, by omega, by omega, rfl, hln, hrn, HTN, hE2n⟩
          case measure => simp [intOf]; omega
    · have hi1 : ¬ (q : Int) < (m : Int) := by omega
      go_wp2
      go_ret
      exact ⟨rfl, hE02.trans hE⟩
end

set_option maxRecDepth 100000 in
theorem liftedLockScript (os : Os) (started : os.Started) (H : Type) (enc : TypeId × Value → H) :
    ReturnsInHanded {} Tryd.checked os 6 .any (fun w args => (Rows.lockScriptSpec.pre enc Tryd.prog Tryd.f6 [] false w args ∧ laidMetH Tryd.prog laidL w) ∧ sizedMet enc Tryd.prog Tryd.f6 (OpenSpec.ofChange Rows.lockScriptSpec) false w args) (Rows.lockScriptSpec.post enc Tryd.prog Tryd.f6 false true false false) := by
  refine returnsInHanded_of_change_and (C := Tryd.checked) (X := fun w _ => laidMetH Tryd.prog laidL w) (fun _ _ _ hh h => h.of_heap hh) ownK started (by kernel_rfl) Tryd.func6
    (ChangeSpec.witness_shaped (enc := enc) (C := Tryd.checked) (os := os) (X := fun w _ => laidMetH Tryd.prog laidL w) false (World.laidAll Tryd.prog os laidL) #[.slice none 0 0, .int .i64 0] 8 (World.laidAll_os _ _ _)
      (World.shaped_of_ZipB (by kernel_rfl) (by kernel_rfl)) (by kernel_rfl) (by kernel_rfl) (by kernel_rfl)
      (by rw [MakeChecks.laidMetH_plain _ _ _ (by kernel_rfl)]; exact laidMet_laidAll _ (by kernel_rfl) (by kernel_rfl))) ?_
  intro W base args ds gs before hval0 hW hcnd hsz0 hL _
  have hT := tabs_of_laid hL
  have hval : ∀ (j : Nat) t v, Tryd.f6.params[j]? = some t → args[j]? = some v → Value.okWide Tryd.prog W .any base t v := hval0
  have hW' := hW
  obtain ⟨p, q, hA0, hV, rfl, hfz, hnd⟩ := hW
  have hA : DataW.TrodAll enc Tryd.prog W 0 (fun _ => true) true Tryd.f6.params.toList args.toList ds p := hA0
  have hsz : (DataW.weightsEach Tryd.prog (Tryd.f6.params.toList ++ Rows.lockScriptSpec.plain.varTypes Tryd.prog) (ds ++ gs)).all (· ≤ reachBytes) = true := hsz0
  rw [Tryd.params6] at hA hval hsz
  obtain ⟨v0, vs0, d0, ds0, p0, q0, hargs0, rfl, rfl, h0, r0⟩ := trodAll_cons hA
  obtain ⟨v1, vs1, d1, ds1, p1, q1, hargs1, rfl, rfl, h1, r1⟩ := trodAll_cons r0
  obtain ⟨rfl, rfl, rfl⟩ := trodAll_nil r1
  obtain rfl : args = #[v0, v1] := by cases args; simp_all
  obtain ⟨rfl, rfl⟩ := trodVars_none hV
  have k0 := h0
  have lt0 : ∀ x ∈ p0, x.block < W.heap.size := by obtain ⟨m, hm⟩ := k0; exact DataW.trod_lt m _ _ _ hm
  obtain ⟨A0, m0, c0, l0, rfl, w0, hg0, hmc0, hcb0⟩ := opn_top_slice Tryd.underlying22 opn_steps (hval 0 22 v0 rfl rfl) h0 (WOk.top hsz (j := 0) rfl rfl)
  obtain ⟨a1, rfl, rfl, rfl, w1⟩ := open_int Tryd.underlying3 (hval 1 3 v1 rfl rfl) h1
  clear hA0 hval0
  have hm72 : m0 * 72 ≤ 140737488351232 := Nat.le_trans (Nat.mul_le_mul_right _ hmc0) hcb0
  refine (script_walk c0 a1 w0 hg0 hm72 hT).mono fun e W' ⟨he, bel⟩ => ?_
  subst he
  exact ⟨_, rfl, _, _, _, [], _, [], hW', trodAll_mk1 (shut_bool Tryd.underlying4 _), (trodAll_cons_mk (Below.trod laidK (by kernel_rfl) (of_decide_eq_true (by kernel_rfl)) k0 bel lt0) (trodAll_cons_mk (shut_int Tryd.underlying3 w1) trodAll_mk0)), rfl, Below.frame bel _, fun h => by cases h⟩
theorem LockScript_row : Rows.LockScriptSaid :=
  OpenClaim.holds_of_wide 6 Tryd.f6 rfl rfl rfl rfl rfl rfl rfl ⟨rfl, rfl, rfl, rfl, rfl⟩ rfl rfl rfl rfl rfl (by kernel_rfl) Tryd.func6 (by kernel_rfl)
    (of_decide_eq_true (by kernel_rfl)) (by unfold Func.isWrapper; rw [if_neg (of_decide_eq_false (by kernel_rfl))]; exact ⟨rfl, rfl⟩)
    (fun os started H enc _ => liftedLockScript os started H enc)
theorem LockScript_holds : Rows.LockScriptCardSaid :=
  Claim7.holds_tied_plain_at .later [] Rows.lockScriptCard.laidKinds true Rows.lockScriptCard.stood.harness Rows.lockScriptCard.stood.looks
    LockScript_row (fun _ h => by cases h) (by kernel_rfl) (fun _ h => by cases h) lockScript_row_tie rfl ⟨rfl, rfl⟩ (by kernel_rfl) rfl
    (fun f fn hf hfn => by
      obtain rfl : f = 6 := Option.some.inj ((show Tryd.prog.funcNamed Rows.lockScriptRow.func = some 6 by kernel_rfl).symm.trans hf) |>.symm
      obtain rfl : fn = Tryd.f6 := (Option.some.inj (Tryd.func6.symm.trans hfn)).symm
      exact ⟨by kernel_rfl, fun j t ht => by
        rw [Tryd.params6] at ht
        have hm : t ∈ [22, 3] := by simpa using Array.mem_of_getElem? ht
        have hall : ([22, 3].all fun u => !Tryd.prog.wantsStandIn u) = true := by kernel_rfl
        exact (show Tryd.prog.wantsStandIn t = false by simpa using List.all_eq_true.1 hall t hm)⟩)
    (by kernel_rfl)
#print axioms LockScript_holds

end Go.Proofs.YthmeobjomidkoaaDoor
