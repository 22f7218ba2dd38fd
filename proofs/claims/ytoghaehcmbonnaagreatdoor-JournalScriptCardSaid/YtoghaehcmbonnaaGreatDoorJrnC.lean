/- The journal's Append, Len, Events and Bytes. -/
import Derived.Test.YtoghaehcmbonnaaGreatDoorJrnB
import Derived.Test.YtoghaehcmbonnaaGreatDoorPackW
namespace Go.Proofs.YtoghaehcmbonnaaGreatDoor
open Go.RowKit
set_option maxRecDepth 100000
theorem eql_nil_ev (w : World) (A : Option Addr) (n c n' c' : Nat) : (binOp .eql 28 (.slice A n c) (.slice none n' c')).run Tryz.prog w = .ok (.bool A.isNone) w :=
  Lib.run_eql_slice_nil w _ 46 A n c n' c' Tryz.underlying28
theorem eql_nil_by (w : World) (A : Option Addr) (n c n' c' : Nat) : (binOp .eql 22 (.slice A n c) (.slice none n' c')).run Tryz.prog w = .ok (.bool A.isNone) w :=
  Lib.run_eql_slice_nil w _ 5 A n c n' c' Tryz.underlying22
attribute [local go_sem] eql_nil_ev eql_nil_by
section
variable {w : World}
set_option maxHeartbeats 400000 in
theorem cloneE_any {A : Option Addr} {m : Nat} (c : Nat) {l : List Ev} (h0 : SlC evC 8 w A m l) (hm : m ≤ 1000000) :
    Calls Tryz.prog 27 #[.slice A m c] w fun e w' => ∃ A' m' c', e = .returned (.slice A' m' c') ∧ OsC evC 46 8 w' w.heap.size A' m' c' l ∧ Ext w w' := by
  go_enter Tryz.func27, Tryz.ntmps27
  rcases A with _ | ad
  · have hl : l = [] := by
      rcases Nat.eq_zero_or_pos m with hm | hm
      · exact List.eq_nil_of_length_eq_zero (by rw [← h0.len, hm])
      · obtain ⟨ad, h, _⟩ := h0.rd.2 hm
        cases h
    subst hl
    go_wp2
    go_ret
    exact ⟨none, 0, 0, rfl, OsC.nil_ evC_len evC_one, Ext.refl _⟩
  · have hb0 : (0 + m) * 96 ≤ 140737488355328 := by rw [Nat.zero_add]; omega
    go_wp2_with (first
      | (at_builtin; refine appC einfo_ev rfl _ _ rfl (OsC.new0 w w.heap.size (Nat.le_refl _) evC_len evC_one) rfl (h0.ext ((Ext.refl w).alloc _)) rfl hb0 (by simp) ?_; intro A' m' c' w1 ho hg hat))
    go_ret
    exact ⟨A', m', c', rfl, ho, ((Ext.refl w).alloc _).grown hg (by simp [ob])⟩
variable {j : Nat} {S : Nat → Prop} {l : List Ev} {es : List Int} {k : Nat} {ks : List Nat} {bs : List UInt8}
set_option maxHeartbeats 800000 in
theorem jlen_any (hJ : Jr w j S l es k ks bs) : Calls Tryz.prog 16 #[.pointer (some ⟨j, 0, none⟩)] w fun e w' => e = .returned (.int .i64 (l.length : Int)) ∧ Ext w w' := by
  obtain ⟨Ae, me, ce, An, mn, cn, Ak, mk, ck, G, h⟩ := hJ
  have x0 : w.cell? ⟨j, 0, none⟩ = some (.slice Ae me ce) := h.c 0 (by omega) rfl
  have HM : Hid ((me : Int) = (l.length : Int)) := by show _ = _; rw [h.ev.len]
  go_enter Tryz.func16, Tryz.ntmps16
  go_wp2
  go_ret
  exact ⟨by rw [HM.out]; rfl, Ext.refl w⟩
set_option maxHeartbeats 800000 in
theorem jevents_any (hJ : Jr w j S l es k ks bs) (hl : l.length ≤ 1000000) : Calls Tryz.prog 11 #[.pointer (some ⟨j, 0, none⟩)] w fun e w' => ∃ A' m' c', e = .returned (.slice A' m' c') ∧ OsC evC 46 8 w' w.heap.size A' m' c' l ∧ Ext w w' := by
  obtain ⟨Ae, me, ce, An, mn, cn, Ak, mk, ck, G, h⟩ := hJ
  have x0 : w.cell? ⟨j, 0, none⟩ = some (.slice Ae me ce) := h.c 0 (by omega) rfl
  have hm6 : me ≤ 1000000 := by rw [h.ev.len]; exact hl
  go_enter Tryz.func11, Tryz.ntmps11
  go_wp2_with (first
    | (go_at_call 27; refine Hid.out ?_))
  refine Hid.mk_ ((cloneE_any ce h.ev.sl hm6).mono ?_)
  rintro e w1 ⟨A1, m1, c1, rfl, ho1, hE1⟩
  have HO := Lib.hid ho1
  clear ho1 x0
  go_wp2
  go_ret
  exact ⟨A1, m1, c1, rfl, HO.out, hE1⟩
set_option maxHeartbeats 800000 in
theorem bufbytes_any {R : Nat → Option Value} {G : Option Nat} (hB : Bf w 63 R j 1 G bs) (hbl : bs.length ≤ 100000000) : Calls Tryz.prog 29 #[.pointer (some ⟨j, 1, none⟩)] w fun e w' => ∃ A' m' c', e = .returned (.slice A' m' c') ∧ SlB w' A' m' bs ∧ m' ≤ c' ∧ Ext w w' := by
  obtain ⟨hBB, v, lr, h3, hown, hne⟩ := hB.isb
  rw [List.length_map] at hown
  obtain ⟨lr', hc⟩ := hB.cases
  have hv : ∃ A c, v = .slice A bs.length c ∧ bs.length ≤ c ∧ bs.length ≤ 140737488355328 := by
    rcases hc with ⟨_, rfl, h3'⟩ | ⟨g, cap, cur, _, h3', _, hnc, _⟩
    · exact ⟨none, 0, Option.some.inj (h3.c0.symm.trans h3'.c0), Nat.le_refl _, by simp⟩
    · exact ⟨_, cap, Option.some.inj (h3.c0.symm.trans h3'.c0), hnc, by omega⟩
  obtain ⟨A, c, rfl, hmc, hm⟩ := hv
  have hs : SlB w A bs.length bs := OsB.sl (base := 0) (c := c) ⟨hown, rfl, hm⟩
  have e1 : w.cell? ⟨j, 1, none⟩ = some (.slice A bs.length c) := h3.c0
  have e2 : w.cell? ⟨j, 2, none⟩ = some (.int .i64 0) := h3.c1
  obtain ⟨A2, u1, u2, u3, hsm, _⟩ := cut_run hs (i := 0) (j := bs.length) (Nat.zero_le _) (Nat.le_refl _) hmc
  obtain ⟨m, hmm⟩ : ∃ m, m = bs.length := ⟨_, rfl⟩
  have q1 : ∀ W, (Instr.sliceAt 22 (.slice A bs.length c) (some (.int .i64 0)) none none).run Tryz.prog W = .ok (.slice A2 (bs.length - 0) (c - 0)) W := fun W => (u2 W .i64 0 rfl rfl).1
  have q2 : ∀ W, (Instr.slice 22 (.slice A bs.length c) (some (.int .i64 0)) none none).run Tryz.prog W = .ok (.slice A2 (bs.length - 0) (c - 0)) W := fun W => (u2 W .i64 0 rfl rfl).2
  rw [Nat.sub_zero, Nat.sub_zero] at q1 q2
  rw [Nat.sub_zero, List.drop_zero, List.take_length] at hsm
  rw [← hmm] at q1 q2 e1 hsm hmc
  have HSM := Lib.hid hsm
  have HMC := Lib.hid hmc
  clear u1 u2 u3 hc hown hs h3 hne hmm hsm hmc hm
  go_enter Tryz.func29, Tryz.ntmps29
  go_wp2_with fail
  go_quiet (fail)
  go_wp2
  go_ret
  exact ⟨A2, m, c, rfl, HSM.out.ext ((Ext.refl w).drewN _), HMC.out, (Ext.refl w).drewN _⟩
set_option maxHeartbeats 800000 in
theorem bclone_any {A : Option Addr} {m : Nat} (c : Nat) {l : List UInt8} (hs : SlB w A m l) (hm : m ≤ 100000000) (hA : ∃ ad, A = some ad) :
    Calls Tryz.prog 28 #[.slice A m c] w fun e w' => ∃ A' m' c', e = .returned (.slice A' m' c') ∧ OsB w' w.heap.size A' m' c' l ∧ Ext w w' := by
  obtain ⟨ad, rfl⟩ := hA
  go_enter Tryz.func28, Tryz.ntmps28
  have hE : Ext w (w.alloc (Obj.cells #[] 5)) := (Ext.refl w).alloc _
  go_wp2_with (first
    | (at_builtin; refine Hid.out ?_))
  refine Hid.mk_ ?_
  refine appB rfl _ _ rfl (OsB.new_ w w.heap.size (Nat.le_refl _) [] (by decide) _ rfl 0 rfl) rfl (hs.ext hE) rfl (by omega) hE.size_le ?_
  intro A7 m7 c7 w7 ho7 hg7 hN7
  rw [List.nil_append] at ho7
  have HO := Lib.hid ho7
  have hE7 : Ext w w7 := hE.grown hg7 (fun j hj => Nat.le_of_eq (Option.some.inj hj))
  clear ho7 hg7 hN7
  go_wp2
  go_ret
  exact ⟨A7, m7, c7, rfl, HO.out, hE7⟩
set_option maxHeartbeats 800000 in
theorem jbytes_any (hJ : Jr w j S l es k ks bs) (h1 : 1 ≤ bs.length) (h2 : bs.length ≤ 100000000) : Calls Tryz.prog 12 #[.pointer (some ⟨j, 0, none⟩)] w fun e w' => ∃ A' m' c', e = .returned (.slice A' m' c') ∧ OsB w' w.heap.size A' m' c' bs ∧ Ext w w' := by
  obtain ⟨Ae, me, ce, An, mn, cn, Ak, mk, ck, G, h⟩ := hJ
  go_enter Tryz.func12, Tryz.ntmps12
  go_wp2_with (first
    | (go_at_call 29; refine Hid.out ?_))
  refine Hid.mk_ ((bufbytes_any h.buf h2).mono ?_)
  rintro e w1 ⟨A1, m1, c1, rfl, hs1, hc1, hE1⟩
  have hm1 : m1 = bs.length := hs1.len
  have hA1 : ∃ ad, A1 = some ad := by
    obtain ⟨b, off, hA, _⟩ := hs1.at_ (show 0 < m1 by omega)
    exact ⟨_, hA⟩
  have hm8 : m1 ≤ 100000000 := by omega
  clear hm1
  go_wp2_with (first
    | (go_at_call 28; refine Hid.out ?_))
  refine Hid.mk_ ((bclone_any c1 hs1 hm8 hA1).mono ?_)
  rintro e w2 ⟨A2, m2, c2, rfl, ho2, hE2⟩
  have HO := Lib.hid (ho2.mono hE1.size_le)
  clear ho2
  go_wp2
  go_ret
  exact ⟨A2, m2, c2, rfl, HO.out, hE1.trans hE2⟩
set_option maxHeartbeats 1600000 in
theorem jappend_any (x : Ev) (hJ : Jr w j S l es k ks bs) (hk : k < 18446744073709551616) (hg : GoodE x) (hs : ShortE x) (hle : (encE x).length ≤ 300000) (hb1 : 1 ≤ bs.length) (hb2 : bs.length ≤ 1000000000000) (hl : l.length ≤ 1000000) (hes : es.length ≤ 1000000) (hks : ks.length ≤ 1000000) (hT : PT w) :
    Calls Tryz.prog 18 #[.pointer (some ⟨j, 0, none⟩), evV x] w fun e w' => e = .returned (.int .i64 0) ∧
      Jr w' j (fun g => S g ∨ w.heap.size ≤ g) (l ++ [x]) (es ++ [((bs ++ (frameH (encE x).length ++ sealL k (encE x))).length : Int)]) (sealN k (encE x)) (ks ++ [k]) (bs ++ (frameH (encE x).length ++ sealL k (encE x))) ∧ KeepS S w w' := by
  obtain ⟨Ae, me, ce, An, mn, cn, Ak, mk, ck, G, h⟩ := hJ
  obtain ⟨S0, h0, hS0, hS0l⟩ := h.tight
  have hJ0 : Jr w j S0 l es k ks bs := ⟨Ae, me, ce, An, mn, cn, Ak, mk, ck, G, h0⟩
  obtain ⟨le, hle2⟩ : ∃ le, le = encE x := ⟨_, rfl⟩
  have HENC : Hid (∀ W : World, Calls Tryz.prog 32 #[evV x] W fun e w' => ∃ A m c, e = .returned (.slice A m c) ∧ OsB w' W.heap.size A m c le ∧ Ext W w') := fun W => by rw [hle2]; exact jenc_any x hg hs
  have HADD : Hid (∀ (W : World) (A : Option Addr) (m c : Nat), Jr W j S0 l es k ks bs → SlB W A m le → m < 100000000 → PT W → Calls Tryz.prog 24 #[.pointer (some ⟨j, 0, none⟩), evV x, .slice A m c] W fun e w' => e = .returned (.tuple #[]) ∧
      Jr w' j (fun g => S0 g ∨ W.heap.size ≤ g) (l ++ [x]) (es ++ [((bs ++ (frameH m ++ sealL k le)).length : Int)]) (sealN k le) (ks ++ [k]) (bs ++ (frameH m ++ sealL k le)) ∧ KeepS S0 W w') := fun W A m c a1 a2 a4 a6 => jadd_any c x a1 hk a2 a4 hb1 hb2 hl hes hks a6
  rw [← hle2] at hle ⊢
  have HS0 := Lib.hid hS0
  clear hle2 h h0 hg hs hS0l hS0 hk hb1 hb2 hl hes hks
  obtain ⟨kd, who, nam, id, txt, xa, xb, xt⟩ := x
  unfold evV at HENC HADD
  unfold evV
  have hE1 : Ext w (w.alloc (Obj.cells #[.int .i64 kd, .string who, .string nam, .string id, .string txt, .int .i64 xa, .int .i64 xb, .int .i64 xt] 46)) := (Ext.refl w).alloc _
  have hbx := Blk.new w 46 #[.int .i64 kd, .string who, .string nam, .string id, .string txt, .int .i64 xa, .int .i64 xb, .int .i64 xt]
  go_enter Tryz.func18, Tryz.ntmps18
  go_wp2_with (first
    | (go_at_call 32; refine Hid.out ?_))
  refine Hid.mk_ ((HENC.out _).mono ?_)
  rintro e w2 ⟨A2, m2, c2, rfl, ho2, hE2⟩
  have hE02 := hE1.trans hE2
  have hb2 := hbx.below hE2 hbx.lt
  have hm2 : m2 ≤ 300000 := by rw [ho2.len]; exact hle
  have hi1 : ¬ (300000 : Int) < (m2 : Int) := by omega
  have x0 : w2.cell? ⟨w.heap.size, 0, none⟩ = some (.int .i64 kd) := hb2.cell 0
  have x1 : w2.cell? ⟨w.heap.size, 1, none⟩ = some (.string who) := hb2.cell 1
  have x2 : w2.cell? ⟨w.heap.size, 2, none⟩ = some (.string nam) := hb2.cell 2
  have x3 : w2.cell? ⟨w.heap.size, 3, none⟩ = some (.string id) := hb2.cell 3
  have x4 : w2.cell? ⟨w.heap.size, 4, none⟩ = some (.string txt) := hb2.cell 4
  have x5 : w2.cell? ⟨w.heap.size, 5, none⟩ = some (.int .i64 xa) := hb2.cell 5
  have x6 : w2.cell? ⟨w.heap.size, 6, none⟩ = some (.int .i64 xb) := hb2.cell 6
  have x7 : w2.cell? ⟨w.heap.size, 7, none⟩ = some (.int .i64 xt) := hb2.cell 7
  have HM2 := Lib.hid ho2.len
  go_wp2_with (first
    | (go_at_call 24; refine Hid.out ?_))
  refine Hid.mk_ ((HADD.out w2 A2 m2 c2 (hJ0.ext hE02) ho2.sl (by omega) (hT.ext hE02)).mono ?_)
  rintro e w3 ⟨rfl, hJ3, hK3⟩
  rw [HM2.out] at hJ3
  have HJ := Lib.hid (hJ3.mono (S' := fun g => S g ∨ w.heap.size ≤ g) fun g hg => hg.imp (HS0.out g) fun h => Nat.le_trans hE02.size_le h)
  have HK := Lib.hid ((KeepS.of_ext S hE02).trans hK3 fun g _ e => HS0.out g e)
  clear hJ3 hK3 ho2 x0 x1 x2 x3 x4 x5 x6 x7 hb2
  go_wp2
  go_ret
  exact ⟨rfl, HJ.out, HK.out⟩
end
end Go.Proofs.YtoghaehcmbonnaaGreatDoor
