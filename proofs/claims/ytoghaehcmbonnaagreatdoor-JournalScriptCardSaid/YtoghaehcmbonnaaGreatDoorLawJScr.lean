/- After any appends and truncations, the events are those of a plain list, and each append only adds bytes. No condition. -/
import Derived.Test.YtoghaehcmbonnaaGreatDoorJrnTr
import Derived.Test.YtoghaehcmbonnaaGreatDoorJrnV
import Derived.Test.YtoghaehcmbonnaaGreatDoorJrnK
import Derived.Test.YtoghaehcmbonnaaGreatDoorTie
import Derived.Test.YtoghaehcmbonnaaGreatDoorCards
import Derived.Laws.OwnMore
import Derived.ProofKit
import Derived.OpenShut
import Derived.ShutString
import Derived.ChangeOld
import Derived.SizedLaws
namespace Go.Proofs.YtoghaehcmbonnaaGreatDoor
open Go.ChangeShapes Go.WideShapes Go.ChangeAt Go.RowKit
set_option maxRecDepth 100000
attribute [local go_sem] ext_refl_t ext_alloc_t ext_drew_t ext_drewN_t ext_alloc2_t ext_alloc3_t ext_alloc4_t ext_alloc5_t ext_alloc6_t ext_alloc7_t ext_alloc8_t ext_alloc1d_t ext_alloc2d_t ext_alloc3d_t ext_alloc4d_t
/-- A step. -/
structure Stp where
  ev : Ev
  cut : Bool
  n : Int
def stpC (s : Stp) : List Value := evC s.ev ++ [.bool s.cut, .int .i64 s.n]
theorem stpC_len (s : Stp) : (stpC s).length = 10 := rfl
def GdS (s : Stp) : Prop := GdE s.ev ∧ InR s.n
theorem cells_bJ : Tryz.prog.cellsOf 4 = 1 := by kernel_rfl
theorem cells_stJ : Tryz.prog.cellsOf 48 = 10 := by kernel_rfl
theorem bytes_stJ : Tryz.prog.bytesOf 48 = 112 := by kernel_rfl
section
variable {H : Type} {enc : TypeId × Value → H} {W : World}
theorem opn_stp : Opn enc W 48 stpC GdS := by
  intro n cs x h hw
  obtain ⟨hl, hp⟩ := opn_part Tryz.underlying48 h hw
  rw [cells_stJ] at hl
  obtain ⟨y0, e0, g0⟩ := hp 0 _ rfl opn_ev
  obtain ⟨y1, e1, g1⟩ := hp 1 _ rfl (opn_bool Tryz.underlying4)
  obtain ⟨y2, e2, g2⟩ := hp 2 _ rfl (opn_int Tryz.underlying3)
  refine ⟨⟨y0, y1, y2⟩, ?_, g0, bounds_i64 g2⟩
  match cs, hl with
  | [a, b, c, d, e, f, g, i, j, k], _ =>
    simp [cells_eJ, cells_bJ, cells_iJ, boolF, intF] at e0 e1 e2
    subst e1 e2
    simp [stpC, ← e0]
theorem opn_stps : Opn enc W 43 slF (GoodSl W stpC 10 112 GdS) :=
  opn_slice Tryz.underlying43 cells_stJ bytes_stJ (by omega) (by omega) stpC_len opn_stp
end
theorem few_ok {l : List Ev} (hf : fewJ l = true) : (∀ x ∈ l, sumE x ≤ 2000) ∧ l.length ≤ 20 := by
  unfold fewJ at hf
  rw [Bool.and_eq_true, decide_eq_true_iff, decide_eq_true_iff] at hf
  exact hf
theorem few_okE {l : List Ev} (hf : ∀ x ∈ l, sumE x ≤ 2000) (hg : ∀ x ∈ l, GoodE x) : ∀ x ∈ l, OkE x := fun x hx => ⟨hg x hx, by
  have h1 := hf x hx
  have h2 := encE_len x
  unfold sumE at h1
  omega⟩
/-- The journal of the script: its blocks are new and apart from a row. -/
def JrT (w : World) (j : Nat) (L : List Ev) (A : Option Addr) (B : Nat) : Prop :=
  ∃ S : Nat → Prop, Jr w j S L (runJ L).es (runJ L).k (runJ L).ks (runJ L).bs ∧ (∀ g, S g → B ≤ g) ∧ (∀ g, S g → g < w.heap.size) ∧ ∀ g, ob A = some g → ¬ S g
theorem Jr.tight {w : World} {j : Nat} {S : Nat → Prop} {l : List Ev} {es : List Int} {k : Nat} {ks : List Nat} {bs : List UInt8} (h : Jr w j S l es k ks bs) : ∃ S0 : Nat → Prop, Jr w j S0 l es k ks bs ∧ (∀ g, S0 g → S g) ∧ ∀ g, S0 g → g < w.heap.size := by
  obtain ⟨Ae, me, ce, An, mn, cn, Ak, mk, ck, G, h⟩ := h
  obtain ⟨S0, h0, h1, h2⟩ := h.tight
  exact ⟨S0, ⟨Ae, me, ce, An, mn, cn, Ak, mk, ck, G, h0⟩, h1, h2⟩
theorem runJ_len40 {L : List Ev} (h1 : ∀ x ∈ L, sumE x ≤ 2000) (h2 : L.length ≤ 40) : L.length ≤ 1000000 ∧ 1 ≤ (runJ L).bs.length ∧ (runJ L).bs.length ≤ 100000000 := by
  obtain ⟨_, _, _, h5, h6⟩ := runJ_ok L h1
  omega
section
variable {w : World}
set_option maxHeartbeats 25600000 in
theorem scr_walk {A : Option Addr} {m : Nat} (c : Nat) {l : List Ev} (hs : SlC evC 8 w A m l) (hg : ∀ x ∈ l, GdE x) (_hmc : m ≤ c) {B : Option Addr} {n : Nat} (d : Nat) {st : List Stp} (ht : SlC stpC 10 w B n st) (hgs : ∀ x ∈ st, GdS x) (hTN : PT w ∧ NS w) :
    Calls Tryz.prog 6 #[.slice A m c, .slice B n d] w fun e w' => e = .returned (.bool true) ∧ Ext w w' := by
  obtain ⟨hT, hN⟩ := hTN
  have HG := Lib.hid hg
  have HGS := Lib.hid hgs
  have HL := Lib.hid hs.len
  have HLT := Lib.hid ht.len
  clear hg hgs
  go_enter Tryz.func6, Tryz.ntmps6
  go_wp2_with (first
    | (go_at_call 7; refine Hid.out ?_))
  refine Hid.mk_ ((awake_jrn hT).mono ?_)
  rintro e w1 ⟨rfl, hE1⟩
  go_wp2_with (first
    | (go_at_call 13; refine Hid.out ?_))
  refine Hid.mk_ ((jfew_any c (hs.ext hE1) (fun x hx => (HG.out x hx).2)).mono ?_)
  rintro e w2 ⟨rfl, hE2⟩
  have hE02 := hE1.trans hE2
  cases hf : fewJ l with
  | false =>
    clear hf
    go_wp2
    go_ret
    exact ⟨rfl, hE02⟩
  | true =>
  by_cases hn20 : 20 < n
  · have hi20 : (20 : Int) < (n : Int) := by omega
    clear hf
    go_wp2
    go_ret
    exact ⟨rfl, hE02⟩
  have hi20 : ¬ (20 : Int) < (n : Int) := by omega
  have HF := Lib.hid (few_ok hf)
  have HGE : Hid (∀ x ∈ l, GoodE x) := fun x hx => (HG.out x hx).1
  have hm20 : m ≤ 20 := by rw [HL.out]; exact HF.out.2
  have HB40 := Lib.hid (runJ_len40 HF.out.1 (by have := HF.out.2; omega))
  have hbl := runJ_ok l HF.out.1
  have hbl2 := HF.out.2
  clear hf
  go_wp2_with (first
    | (go_at_call 17; refine Hid.out ?_))
  refine Hid.mk_ ((rbytes40_any c (hs.ext hE02) ⟨HF.out.1, by omega⟩ HGE.out).mono ?_)
  rintro e w3 ⟨A3, m3, c3, rfl, hs3, hmc3, hE3⟩
  have hE03 := hE02.trans hE3
  have hm3 : m3 ≤ 100000 := by rw [hs3.len]; omega
  clear hbl hbl2
  go_wp2_with (first
    | (go_at_call 8; refine Hid.out ?_))
  refine Hid.mk_ ((jopen_any c3 hs3 hmc3 (by omega) (hT.ext hE03) (hN.ext hE03)).mono ?_)
  rintro e w4 ⟨⟨j, L0, used, code, rfl, hO4, hJ4⟩, hE4⟩
  have hE04 := hE03.trans hE4
  have hfin := FinJ.all l (few_okE HF.out.1 HGE.out)
  have hO : L0 = l ∧ code = 0 := by
    rcases hO4 with ⟨h1, _⟩ | ⟨h1, _⟩
    · exact h1.uniq hfin
    · exact absurd hfin.1.1 h1
  obtain ⟨rfl, rfl⟩ := hO
  obtain ⟨S4, hJ4', hS4, hS4l⟩ := hJ4.tight
  have HJ4 := Lib.hid hJ4'
  have HS4 : Hid (∀ g, S4 g → w.heap.size ≤ g) := fun g hgg => Nat.le_trans hE03.size_le (hS4 g hgg)
  have HS4L := Lib.hid hS4l
  have hE5 : Ext w4 (w4.alloc (Obj.cells #[] 46)) := (Ext.refl w4).alloc _
  have hE05 := hE04.trans hE5
  clear hfin hO4 hJ4 hJ4' hS4 hS4l hs3 hmc3 hm3
  go_wp2_with (first
    | (at_builtin; refine Hid.out ?_))
  refine Hid.mk_ ?_
  refine appC einfo_ev rfl _ _ rfl (OsC.new0 w4 w4.heap.size (Nat.le_refl _) evC_len evC_one) rfl (hs.ext hE05) rfl (by omega) hE5.size_le ?_
  intro A6 m6 c6 w6 ho6 hg6 hN6
  rw [List.nil_append] at ho6
  have hE46 : Ext w4 w6 := hE5.grown hg6 (fun g hgg => Nat.le_of_eq (Option.some.inj hgg))
  have HE06 := Lib.hid (hE04.trans hE46)
  have HP6 : Hid (OsC evC 46 8 w6 w.heap.size A6 m6 c6 L0) := ho6.mono hE04.size_le
  have HJ6 : Hid (JrT w6 j L0 A6 w.heap.size) := ⟨S4, HJ4.out.ext hE46, HS4.out, fun g hgg => Nat.lt_of_lt_of_le (HS4L.out g hgg) hE46.size_le, fun g hgg hS => by
    have h1 := ho6.ge g hgg
    have h2 := HS4L.out g hS
    omega⟩
  clear ho6 hg6 hN6 hE05 hE5 hE46 hE04 hE03 hE02 hs
  go_wp2
  go_loopw [9, 8] (fun v p wr => ∃ (q : Nat) (Ap : Option Addr) (mp cp : Nat) (L : List Ev), q ≤ n ∧ v = .int .i64 q ∧ p = .slice Ap mp cp ∧ Hid (OsC evC 46 8 wr w.heap.size Ap mp cp L) ∧ Hid (JrT wr j L Ap w.heap.size) ∧ Hid (L.length ≤ 20 + q) ∧ Hid (∀ x ∈ L, sumE x ≤ 2000) ∧ Hid (∀ x ∈ L, GoodE x) ∧ Hid (Ext w wr)) (fun v _ _ => n - (intOf v).toNat)
  case atStart => exact ⟨0, A6, m6, c6, L0, Nat.zero_le _, rfl, rfl, HP6.out, HJ6.out, HF.out.2, HF.out.1, HGE.out, HE06.out⟩
  case round =>
    obtain ⟨q, Ap, mp, cp, L, hq, rfl, rfl, HP, HJ, HLL, HLS, HLGE, HE⟩ := hrel
    by_cases hlt : q < n
    · obtain ⟨S, hJ, hSge, hSlt, hSnp⟩ := HJ.out
      obtain ⟨bq, off, eB, hbl, hcs⟩ := (ht.ext HE.out).at_ hlt (by omega)
      subst eB
      have hlt1 : q < st.length := by rw [← HLT.out]; exact hlt
      obtain ⟨sx, hsx⟩ : ∃ sx, sx = st[q] := ⟨_, rfl⟩
      have x0 := hcs q hlt1 0 (by omega)
      have x1 := hcs q hlt1 1 (by omega)
      have x2 := hcs q hlt1 2 (by omega)
      have x3 := hcs q hlt1 3 (by omega)
      have x4 := hcs q hlt1 4 (by omega)
      have x5 := hcs q hlt1 5 (by omega)
      have x6 := hcs q hlt1 6 (by omega)
      have x7 := hcs q hlt1 7 (by omega)
      have x8 := hcs q hlt1 8 (by omega)
      have x9 := hcs q hlt1 9 (by omega)
      simp only [← hsx, stpC, evC, List.cons_append, List.nil_append, List.getElem_cons_zero, List.getElem_cons_succ, Nat.add_zero, ← Nat.add_assoc] at x0 x1 x2 x3 x4 x5 x6 x7 x8 x9
      have hgx := HGS.out sx (by rw [hsx]; exact List.getElem_mem hlt1)
      have hi1 : (q : Int) < (n : Int) := by omega
      have hLF := runJ_len40 HLS.out (by have := HLL.out; omega)
      have hok := runJ_ok L HLS.out
      have hL40 : L.length < 40 := by have := HLL.out; omega
      have HML := Lib.hid HP.out.len
      have hmp : mp < 40 := by rw [HML.out]; exact hL40
      clear hcs hsx
      obtain ⟨⟨kd, who, nam, id, txt, xa, xb, xt⟩, cutb, N⟩ := sx
      dsimp only at x0 x1 x2 x3 x4 x5 x6 x7 x8 x9 hgx
      obtain ⟨W1, hW1⟩ : ∃ W1, W1 = wr.alloc (Obj.cells #[.int .i64 kd, .string who, .string nam, .string id, .string txt, .int .i64 xa, .int .i64 xb, .int .i64 xt, .bool cutb, .int .i64 N] 48) := ⟨_, rfl⟩
      have hb1 : Blk W1 wr.heap.size 48 #[.int .i64 kd, .string who, .string nam, .string id, .string txt, .int .i64 xa, .int .i64 xb, .int .i64 xt, .bool cutb, .int .i64 N] := by rw [hW1]; exact Blk.new wr _ _
      have hEr1 : Ext wr W1 := by rw [hW1]; exact (Ext.refl _).alloc _
      have hby := jbytes_any (hJ.ext hEr1) hLF.2.1 hLF.2.2
      obtain ⟨gs, hgs⟩ : ∃ gs, gs = wr.heap.size := ⟨_, rfl⟩
      rw [← hgs] at hb1
      have HSLT0 := Lib.hid hSlt
      have HSGE := Lib.hid hSge
      have HSNP0 := Lib.hid hSnp
      have HJ0 := Lib.hid hJ
      have HOK := Lib.hid hok
      have HLF0 := Lib.hid hLF
      have HGX := Lib.hid hgx
      have HL40 := Lib.hid hL40
      clear hSlt hSge hSnp hJ hok hLF hgx hL40
      go_wp2_with (first
        | (go_at_call 12; refine Hid.out ?_))
      rw [← hW1, ← hgs]
      have HGS0 := Lib.hid hgs
      clear hgs hW1 x0 x1 x2 x3 x4 x5 x6 x7 x8 x9
      refine Hid.mk_ (hby.mono ?_)
      rintro e w4 ⟨A4, m4, c4, rfl, ho4, hE4⟩
      have hb4 := hb1.below hE4 hb1.lt
      have hEr4 := hEr1.trans hE4
      have hcv := conv_str ho4.sl c4
      obtain ⟨SB, hSB⟩ : ∃ SB, SB = str (runJ L).bs := ⟨_, rfl⟩
      rw [← hSB] at hcv
      have HSB := Lib.hid hSB
      have K0 := laters (show _ = some (.int .i64 kd) from hb4.cell 0)
      have K1 := laters (show _ = some (.string who) from hb4.cell 1)
      have K2 := laters (show _ = some (.string nam) from hb4.cell 2)
      have K3 := laters (show _ = some (.string id) from hb4.cell 3)
      have K4 := laters (show _ = some (.string txt) from hb4.cell 4)
      have K5 := laters (show _ = some (.int .i64 xa) from hb4.cell 5)
      have K6 := laters (show _ = some (.int .i64 xb) from hb4.cell 6)
      have K7 := laters (show _ = some (.int .i64 xt) from hb4.cell 7)
      have K8 := laters (show _ = some (.bool cutb) from hb4.cell 8)
      have K9 := laters (show _ = some (.int .i64 N) from hb4.cell 9)
      have hEw4 := HE.out.trans hEr4
      clear hSB ho4 hb1 hb4 hby hE4 hEr1
      cases cutb with
      | false =>
        have hEn : Ext w4 (w4.alloc (Obj.cells #[.int .i64 kd, .string who, .string nam, .string id, .string txt, .int .i64 xa, .int .i64 xb, .int .i64 xt] 46)) := (Ext.refl _).alloc _
        have hsx1 := slc_evb kd who nam id txt xa xb xt (Blk.new w4 46 #[.int .i64 kd, .string who, .string nam, .string id, .string txt, .int .i64 xa, .int .i64 xb, .int .i64 xt])
        go_wp2_with (first
          | (go_at_call 13; refine Hid.out ?_))
        refine Hid.mk_ ((jfew_any 1 hsx1 (fun y hy => by obtain rfl := List.mem_singleton.1 hy; exact HGX.out.1.2)).mono ?_)
        rintro e w5 ⟨rfl, hE5⟩
        have hEr5 := (hEr4.trans hEn).trans hE5
        have hE45 := hEn.trans hE5
        clear hsx1 hEn hE5
        cases hfx : fewJ [(⟨kd, who, nam, id, txt, xa, xb, xt⟩ : Ev)] with
        | false =>
          clear hfx
          have HE5 := Lib.hid (HE.out.trans hEr5)
          go_wp2
          go_ret
          exact ⟨rfl, HE5.out⟩
        | true =>
        have HFX := Lib.hid ((few_ok hfx).1 _ (List.mem_singleton.2 rfl))
        clear hfx
        have hEn2 : Ext w5 (w5.alloc (Obj.cells #[.int .i64 kd, .string who, .string nam, .string id, .string txt, .int .i64 xa, .int .i64 xb, .int .i64 xt] 46)) := (Ext.refl _).alloc _
        have hsx2 := slc_evb kd who nam id txt xa xb xt (Blk.new w5 46 #[.int .i64 kd, .string who, .string nam, .string id, .string txt, .int .i64 xa, .int .i64 xb, .int .i64 xt])
        have hErn := hEr5.trans hEn2
        have M0 := fun W hW => K0 W (hE45.trans hW)
        have M1 := fun W hW => K1 W (hE45.trans hW)
        have M2 := fun W hW => K2 W (hE45.trans hW)
        have M3 := fun W hW => K3 W (hE45.trans hW)
        have M4 := fun W hW => K4 W (hE45.trans hW)
        have M5 := fun W hW => K5 W (hE45.trans hW)
        have M6 := fun W hW => K6 W (hE45.trans hW)
        have M7 := fun W hW => K7 W (hE45.trans hW)
        clear K0 K1 K2 K3 K4 K5 K6 K7 K8 K9 hcv
        go_wp2_with (first
          | (at_builtin; refine Hid.out ?_))
        refine Hid.mk_ ?_
        refine appC einfo_ev rfl _ _ rfl (HP.out.ext hErn) rfl hsx2 rfl (by omega) (HE.out.trans hErn).size_le ?_
        intro Aq mq cq w6 ho6 hg6 hN6
        have hK6 := KeepS.grown hg6
        have hszn := hErn.size_le
        have hJ6 := (HJ0.out.ext hErn).keep hK6 (fun g hgS e => HSNP0.out g e hgS)
        have HNQ : Hid (∀ g, ob Aq = some g → ¬ S g) := fun g hgg hgS => by
          rcases hN6 g hgg with h1 | h1
          · have h2 := HSLT0.out g hgS; omega
          · exact HSNP0.out g h1 hgS
        have HE6 : Hid (Ext w w6) := Below.grown (HE.out.trans hErn) hg6 (HE.out.trans hErn).size_le fun g hgg => HP.out.ge g hgg
        have Q6 : Hid (∀ W, Ext w5 W → W.grownBy w6 (ob Ap) → True) := fun _ _ _ => trivial
        have HB6 : Hid (Ext wr (w5.alloc (Obj.cells #[.int .i64 kd, .string who, .string nam, .string id, .string txt, .int .i64 xa, .int .i64 xb, .int .i64 xt] 46))) := hErn
        have hgsr : gs < (w5.alloc (Obj.cells #[.int .i64 kd, .string who, .string nam, .string id, .string txt, .int .i64 xa, .int .i64 xb, .int .i64 xt] 46)).heap.size := by
          have h1 := World.block_lt_of_cell? _ _ (M0 _ hEn2)
          exact h1
        have hgsp : ob Ap ≠ some gs := fun e => by
          have h1 := HP.out.lt gs e
          rw [HGS0.out] at h1
          omega
        have hkeep : ∀ (o : Nat) (v : Value), (w5.alloc (Obj.cells #[.int .i64 kd, .string who, .string nam, .string id, .string txt, .int .i64 xa, .int .i64 xb, .int .i64 xt] 46)).cell? ⟨gs, o, none⟩ = some v → w6.cell? ⟨gs, o, none⟩ = some v := fun o v hv => hK6.cell (p := ⟨gs, o, none⟩) hgsp hv
        have n0 := hkeep 0 _ (M0 _ hEn2)
        have n1 := hkeep 1 _ (M1 _ hEn2)
        have n2 := hkeep 2 _ (M2 _ hEn2)
        have n3 := hkeep 3 _ (M3 _ hEn2)
        have n4 := hkeep 4 _ (M4 _ hEn2)
        have n5 := hkeep 5 _ (M5 _ hEn2)
        have n6 := hkeep 6 _ (M6 _ hEn2)
        have n7 := hkeep 7 _ (M7 _ hEn2)
        have happ := jappend_any ⟨kd, who, nam, id, txt, xa, xb, xt⟩ hJ6 HOK.out.1 HGX.out.1.1 (by have := HFX.out; unfold sumE at this; unfold ShortE; dsimp only at this ⊢; omega) (by have := HFX.out; have h9 := encE_len ⟨kd, who, nam, id, txt, xa, xb, xt⟩; unfold sumE at this; dsimp only at this h9; omega) (by have := HOK.out; omega) (by have := HLF0.out; omega) (by have := HLF0.out; omega) (by have := HOK.out; have := HLF0.out; omega) (by have := HOK.out; have := HLF0.out; omega) (hT.ext HE6.out)
        unfold evV at happ
        dsimp only at happ
        have HO6 := Lib.hid ho6
        clear M0 M1 M2 M3 M4 M5 M6 M7 ho6 hg6 hN6 hJ6 hK6 hkeep hEn2 hErn hsx2 hE45 hszn Q6 hgsr hgsp
        go_wp2_with (first
          | (go_at_call 18; refine Hid.out ?_))
        refine Hid.mk_ ((happ).mono ?_)
        rintro e w8 ⟨rfl, hJ8, hK8⟩
        obtain ⟨LQ, hLQ⟩ : ∃ LQ, LQ = L ++ [(⟨kd, who, nam, id, txt, xa, xb, xt⟩ : Ev)] := ⟨_, rfl⟩
        have HLQ := Lib.hid hLQ
        have hst : stepJ (runJ L) ⟨kd, who, nam, id, txt, xa, xb, xt⟩ = runJ LQ := by rw [hLQ, runJ_snoc]
        have hJ8' : Jr w8 j (fun g => S g ∨ w6.heap.size ≤ g) LQ (runJ LQ).es (runJ LQ).k (runJ LQ).ks (runJ LQ).bs := by rw [← hst, hLQ]; exact hJ8
        obtain ⟨SQ, hJq, hSq, hSql⟩ := hJ8'.tight
        have HQL : Hid (LQ.length ≤ 20 + (q + 1)) := by have := HLL.out; show _ ≤ _; rw [hLQ, List.length_append]; simp; omega
        have HLG : Hid ((∀ x ∈ LQ, sumE x ≤ 2000) ∧ LQ.length ≤ 40) := ⟨fun y hy => by
          rw [hLQ] at hy
          rcases List.mem_append.1 hy with hy | hy
          · exact HLS.out y hy
          · obtain rfl := List.mem_singleton.1 hy; exact HFX.out, by have := HQL.out; omega⟩
        have HGQ : Hid (∀ x ∈ LQ, GoodE x) := fun y hy => by
          rw [hLQ] at hy
          rcases List.mem_append.1 hy with hy | hy
          · exact HLGE.out y hy
          · obtain rfl := List.mem_singleton.1 hy; exact HGX.out.1.1
        have HLF := Lib.hid (runJ_len40 HLG.out.1 HLG.out.2)
        have HP8 : Hid (OsC evC 46 8 w8 w.heap.size Aq mq cq LQ) := by
          show OsC _ _ _ _ _ _ _ _ _
          rw [hLQ]
          exact HO6.out.keep hK8 HNQ.out
        have HSNP : Hid (∀ g, ob Aq = some g → ¬ SQ g) := fun g hgg hgS => by
          rcases hSq g hgS with h1 | h1
          · exact HNQ.out g hgg h1
          · have h2 := HO6.out.lt g hgg; omega
        have HSGE2 : Hid (∀ g, SQ g → w.heap.size ≤ g) := fun g hgS => by
          rcases hSq g hgS with h1 | h1
          · exact HSGE.out g h1
          · exact Nat.le_trans HE6.out.size_le h1
        have HE8 : Hid (Ext w w8) := Below.trans HE6.out (hK8.toBelow HE6.out.size_le HSGE.out)
        have HJ8 := Lib.hid hJq
        have HSL8 := Lib.hid hSql
        obtain ⟨fr, hfr⟩ : ∃ fr, (runJ LQ).bs = (runJ L).bs ++ fr := by
          refine ⟨frameH (encE ⟨kd, who, nam, id, txt, xa, xb, xt⟩).length ++ sealL (runJ L).k (encE ⟨kd, who, nam, id, txt, xa, xb, xt⟩), ?_⟩
          rw [← hst]
          rfl
        have HFR := Lib.hid hfr
        clear hJ8 hJ8' hK8 hJq hSq hSql hst hLQ happ n0 n1 n2 n3 n4 n5 n6 n7 hfr
        go_wp2_with (first
          | (go_at_call 12; refine Hid.out ?_))
        refine Hid.mk_ ((jbytes_any HJ8.out HLF.out.2.1 HLF.out.2.2).mono ?_)
        rintro e w9 ⟨A9, m9, c9, rfl, ho9, hE9⟩
        have hbsz : SB.size = (runJ L).bs.length := by rw [HSB.out, str_size]
        have h9l : m9 = (runJ L).bs.length + fr.length := by rw [ho9.len, HFR.out, List.length_append]
        obtain ⟨sb, hsb⟩ : ∃ sb, SB.size = sb := ⟨_, rfl⟩
        have hlt9 : ¬ (m9 : Int) < (sb : Int) := by omega
        have hsb8 : sb ≤ 100000000 := by have := HLF0.out.2.2; omega
        have hsbm : sb ≤ m9 := by omega
        have HSBL : Hid (sb = (runJ L).bs.length) := by show _ = _; omega
        have HM9 := Lib.hid h9l
        clear hbsz h9l ho9
        go_wp2_with (first
          | (go_at_call 12; refine Hid.out ?_))
        refine Hid.mk_ ((jbytes_any (HJ8.out.ext hE9) HLF.out.2.1 HLF.out.2.2).mono ?_)
        rintro e wq ⟨A10, m10, c10, rfl, ho10, hE10⟩
        have h10l : m10 = (runJ LQ).bs.length := ho10.len
        have hs10m : sb ≤ m10 := by rw [h10l, HFR.out, List.length_append, ← HSBL.out]; omega
        obtain ⟨A11, _, _, u11, hs11, _⟩ := cut_run ho10.sl (i := 0) (j := sb) (Nat.zero_le _) hs10m ho10.cap
        have q11 := fun W => u11 W .i64 (sb : Int) rfl rfl
        rw [Nat.sub_zero, List.drop_zero] at hs11
        simp only [Nat.sub_zero] at q11
        have htk : (runJ LQ).bs.take sb = (runJ L).bs := by rw [HFR.out, HSBL.out, List.take_left]
        rw [htk] at hs11
        have hcv11 := conv_str hs11 c10
        rw [← HSB.out] at hcv11
        have hs10I : (sb : Int) ≤ (c10 : Int) := by have := ho10.cap; omega
        have hE810 := hE9.trans hE10
        have HPQ := Lib.hid (HP8.out.ext hE810)
        have HJT := Lib.hid (HJ8.out.ext hE810)
        have HSLT : Hid (∀ g, SQ g → g < wq.heap.size) := fun g hgS => Nat.lt_of_lt_of_le (HSL8.out g hgS) hE810.size_le
        have HEQ := Lib.hid (HE8.out.trans hE810)
        have HSGE0 := HSGE2
        clear HSGE
        have HSGE := HSGE2
        obtain ⟨SL, hSL⟩ : ∃ SL, SL = str (runJ LQ).bs := ⟨_, rfl⟩
        have HSL := Lib.hid hSL
        clear hSL htk u11 h10l ho10 hE810 hE9 hE10
        go_upto_region 26 with fail
        clear q11 hcv11 hs11 hs10I hs10m hsbm hlt9 hsb
        go_wp2
        go_region_law
          (go_simp
           first
            | (go_at_call 11; refine (jevents_any (HJT.out.ext (by first | exact Ext.refl _ | exact (Ext.refl _).drew)) HLF.out.1).mono ?_; rintro e w7 ⟨A7, m7, c7, rfl, ho7, hE7'⟩; have hE7 := Ext.trans (by first | exact Ext.refl wq | exact (Ext.refl wq).drew) hE7')
            | (go_at_call 10; refine (jsame_eq c7 cq (ho7.sl.ext (by first | exact Ext.refl _ | exact (Ext.refl _).drew)) (HPQ.out.sl.ext (hE7.trans (by first | exact Ext.refl _ | exact (Ext.refl _).drew)))).mono ?_; rintro e w8 ⟨rfl, hE8'⟩; have hE8 := hE7.trans (Ext.trans (by first | exact Ext.refl w7 | exact (Ext.refl w7).drew) hE8'))
            | (go_at_call 12; refine (jbytes_any (HJT.out.ext (hE8.trans (by first | exact Ext.refl _ | exact (Ext.refl _).drew))) HLF.out.2.1 HLF.out.2.2).mono ?_; rintro e wa ⟨Aa, ma, ca, rfl, hoa, hEa'⟩; have hEa := hE8.trans (Ext.trans (by first | exact Ext.refl w8 | exact (Ext.refl w8).drew) hEa'); have HCA : ∀ W, Ext wa W → (convert 22 9 (.slice Aa ma ca)).run Tryz.prog W = .ok (.string SL) W := fun W hE => by rw [HSL.out]; exact conv_str (hoa.sl.ext hE) _)
            | (go_at_call 17; refine (rbytes40_any cq (HPQ.out.sl.ext (hEa.trans (by first | exact Ext.refl _ | exact (Ext.refl _).drew))) HLG.out HGQ.out).mono ?_; rintro e wb ⟨Ab, mb, cb, rfl, hsb, _, hEb'⟩; have hEb := hEa.trans (Ext.trans (by first | exact Ext.refl wa | exact (Ext.refl wa).drew) hEb'); have HCB : ∀ W, Ext wb W → (convert 22 9 (.slice Ab mb cb)).run Tryz.prog W = .ok (.string SL) W := fun W hE => by rw [HSL.out]; exact conv_str (hsb.ext hE) _)
            | fail)
        all_goals
          have HPB : Hid (∀ W, Ext wb W → OsC evC 46 8 W w.heap.size Aq mq cq LQ) := fun W hW => HPQ.out.ext (hEb.trans hW)
          have HJB : Hid (∀ W, Ext wb W → JrT W j LQ Aq w.heap.size) := fun W hW => ⟨SQ, HJT.out.ext (hEb.trans hW), HSGE.out, fun g hg => Nat.lt_of_lt_of_le (HSLT.out g hg) (hEb.trans hW).size_le, HSNP.out⟩
          have HEB : Hid (∀ W, Ext wb W → Ext w W) := fun W hW => (HEQ.out.trans hEb).trans hW
          clear ho7 hoa hsb hE7 hE7' hE8 hE8' hEa hEa' hEb hEb'
          go_wp2
          go_roundw
          case rel =>
            first
            | exact ⟨q + 1, Aq, mq, cq, LQ, by omega, by go_num, rfl, HPB.out _ (by first | exact Ext.refl _ | exact (Ext.refl _).drew), HJB.out _ (by first | exact Ext.refl _ | exact (Ext.refl _).drew), HQL, HLG.out.1, HGQ, HEB.out _ (by first | exact Ext.refl _ | exact (Ext.refl _).drew)⟩
            | (repeat apply Exists.intro
               refine ⟨?rl, ?fr⟩
               case fr => exact rfl
               case rl => exact ⟨q + 1, Aq, mq, cq, LQ, by omega, by go_num, rfl, HPB.out _ (by first | exact Ext.refl _ | exact (Ext.refl _).drew), HJB.out _ (by first | exact Ext.refl _ | exact (Ext.refl _).drew), HQL, HLG.out.1, HGQ, HEB.out _ (by first | exact Ext.refl _ | exact (Ext.refl _).drew)⟩)
          case measure => simp [intOf]; omega
      | true =>
        have hcpc := HP.out.cap
        by_cases hbad : N < 0 ∨ (mp : Int) < N
        · have hbad2 : N < 0 ∨ (L.length : Int) < N := by rw [← HML.out]; exact hbad
          have htr := jtruncBad_any (HJ0.out.ext hEr4) HLF0.out.1 N hbad2
          have hi2 : (decide (N < 0) || decide ((mp : Int) < N)) = true := by
            rcases hbad with h | h
            · rw [decide_eq_true h]; rfl
            · rw [decide_eq_true h, Bool.or_true]
          clear hbad2
          obtain ⟨Aq, rfl⟩ : ∃ Aq, Aq = Ap := ⟨_, rfl⟩
          obtain ⟨mq, rfl⟩ : ∃ mq, mq = mp := ⟨_, rfl⟩
          obtain ⟨cq, rfl⟩ : ∃ cq, cq = cp := ⟨_, rfl⟩
          obtain ⟨LQ, rfl⟩ : ∃ LQ, LQ = L := ⟨_, rfl⟩
          obtain ⟨SQ, rfl⟩ : ∃ SQ, SQ = S := ⟨_, rfl⟩
          have hall : ∀ wq, Ext w4 wq → Hid (OsC evC 46 8 wq w.heap.size Aq mq cq LQ) ∧ Hid (Jr wq j SQ LQ (runJ LQ).es (runJ LQ).k (runJ LQ).ks (runJ LQ).bs) ∧ Hid (∀ g, SQ g → g < wq.heap.size) ∧ Hid (Ext w wq) := fun wq hE =>
            ⟨HP.out.ext (hEr4.trans hE), HJ0.out.ext (hEr4.trans hE), fun g hg => Nat.lt_of_lt_of_le (HSLT0.out g hg) (hEr4.trans hE).size_le, hEw4.trans hE⟩
          have HALL := Lib.hid hall
          have HQL : Hid (LQ.length ≤ 20 + (q + 1)) := by have := HLL.out; show _ ≤ _; omega
          have HLG : Hid ((∀ x ∈ LQ, sumE x ≤ 2000) ∧ LQ.length ≤ 40) := ⟨HLS.out, by have := HL40.out; omega⟩
          have HGQ := HLGE
          have HLF := HLF0
          have HSNP := HSNP0
          obtain ⟨SL, hSL⟩ : ∃ SL, SL = str (runJ LQ).bs := ⟨_, rfl⟩
          have HSL := Lib.hid hSL
          clear hall hSL
          rcases hbad with hb | hb
          · clear hi2
            go_wp2_with (first
              | (go_at_call 19; refine Hid.out ?_))
            refine Hid.mk_ ((htr).mono ?_)
            rintro e wq ⟨rfl, hE5⟩
            obtain ⟨HPQ, HJT, HSLT, HEQ⟩ := HALL.out wq hE5
            clear htr hE5 hcv K0 K1 K2 K3 K4 K5 K6 K7 K8 K9
            go_wp2
            go_region_law
              (go_simp
               first
                | (go_at_call 11; refine (jevents_any (HJT.out.ext (by first | exact Ext.refl _ | exact (Ext.refl _).drew)) HLF.out.1).mono ?_; rintro e w7 ⟨A7, m7, c7, rfl, ho7, hE7'⟩; have hE7 := Ext.trans (by first | exact Ext.refl wq | exact (Ext.refl wq).drew) hE7')
                | (go_at_call 10; refine (jsame_eq c7 cq (ho7.sl.ext (by first | exact Ext.refl _ | exact (Ext.refl _).drew)) (HPQ.out.sl.ext (hE7.trans (by first | exact Ext.refl _ | exact (Ext.refl _).drew)))).mono ?_; rintro e w8 ⟨rfl, hE8'⟩; have hE8 := hE7.trans (Ext.trans (by first | exact Ext.refl w7 | exact (Ext.refl w7).drew) hE8'))
                | (go_at_call 12; refine (jbytes_any (HJT.out.ext (hE8.trans (by first | exact Ext.refl _ | exact (Ext.refl _).drew))) HLF.out.2.1 HLF.out.2.2).mono ?_; rintro e wa ⟨Aa, ma, ca, rfl, hoa, hEa'⟩; have hEa := hE8.trans (Ext.trans (by first | exact Ext.refl w8 | exact (Ext.refl w8).drew) hEa'); have HCA : ∀ W, Ext wa W → (convert 22 9 (.slice Aa ma ca)).run Tryz.prog W = .ok (.string SL) W := fun W hE => by rw [HSL.out]; exact conv_str (hoa.sl.ext hE) _)
                | (go_at_call 17; refine (rbytes40_any cq (HPQ.out.sl.ext (hEa.trans (by first | exact Ext.refl _ | exact (Ext.refl _).drew))) HLG.out HGQ.out).mono ?_; rintro e wb ⟨Ab, mb, cb, rfl, hsb, _, hEb'⟩; have hEb := hEa.trans (Ext.trans (by first | exact Ext.refl wa | exact (Ext.refl wa).drew) hEb'); have HCB : ∀ W, Ext wb W → (convert 22 9 (.slice Ab mb cb)).run Tryz.prog W = .ok (.string SL) W := fun W hE => by rw [HSL.out]; exact conv_str (hsb.ext hE) _)
                | fail)
            all_goals
              have HPB : Hid (∀ W, Ext wb W → OsC evC 46 8 W w.heap.size Aq mq cq LQ) := fun W hW => HPQ.out.ext (hEb.trans hW)
              have HJB : Hid (∀ W, Ext wb W → JrT W j LQ Aq w.heap.size) := fun W hW => ⟨SQ, HJT.out.ext (hEb.trans hW), HSGE.out, fun g hg => Nat.lt_of_lt_of_le (HSLT.out g hg) (hEb.trans hW).size_le, HSNP.out⟩
              have HEB : Hid (∀ W, Ext wb W → Ext w W) := fun W hW => (HEQ.out.trans hEb).trans hW
              clear ho7 hoa hsb hE7 hE7' hE8 hE8' hEa hEa' hEb hEb'
              go_wp2
              go_roundw
              case rel =>
                first
                | exact ⟨q + 1, Aq, mq, cq, LQ, by omega, by go_num, rfl, HPB.out _ (by first | exact Ext.refl _ | exact (Ext.refl _).drew), HJB.out _ (by first | exact Ext.refl _ | exact (Ext.refl _).drew), HQL, HLG.out.1, HGQ, HEB.out _ (by first | exact Ext.refl _ | exact (Ext.refl _).drew)⟩
                | (repeat apply Exists.intro
                   refine ⟨?rl, ?fr⟩
                   case fr => exact rfl
                   case rl => exact ⟨q + 1, Aq, mq, cq, LQ, by omega, by go_num, rfl, HPB.out _ (by first | exact Ext.refl _ | exact (Ext.refl _).drew), HJB.out _ (by first | exact Ext.refl _ | exact (Ext.refl _).drew), HQL, HLG.out.1, HGQ, HEB.out _ (by first | exact Ext.refl _ | exact (Ext.refl _).drew)⟩)
              case measure => simp [intOf]; omega
          · have hb0 : ¬ N < 0 := by omega
            clear hi2
            go_wp2_with (first
              | (go_at_call 19; refine Hid.out ?_))
            refine Hid.mk_ ((htr).mono ?_)
            rintro e wq ⟨rfl, hE5⟩
            obtain ⟨HPQ, HJT, HSLT, HEQ⟩ := HALL.out wq hE5
            clear htr hE5 hcv K0 K1 K2 K3 K4 K5 K6 K7 K8 K9
            go_wp2
            go_region_law
              (go_simp
               first
                | (go_at_call 11; refine (jevents_any (HJT.out.ext (by first | exact Ext.refl _ | exact (Ext.refl _).drew)) HLF.out.1).mono ?_; rintro e w7 ⟨A7, m7, c7, rfl, ho7, hE7'⟩; have hE7 := Ext.trans (by first | exact Ext.refl wq | exact (Ext.refl wq).drew) hE7')
                | (go_at_call 10; refine (jsame_eq c7 cq (ho7.sl.ext (by first | exact Ext.refl _ | exact (Ext.refl _).drew)) (HPQ.out.sl.ext (hE7.trans (by first | exact Ext.refl _ | exact (Ext.refl _).drew)))).mono ?_; rintro e w8 ⟨rfl, hE8'⟩; have hE8 := hE7.trans (Ext.trans (by first | exact Ext.refl w7 | exact (Ext.refl w7).drew) hE8'))
                | (go_at_call 12; refine (jbytes_any (HJT.out.ext (hE8.trans (by first | exact Ext.refl _ | exact (Ext.refl _).drew))) HLF.out.2.1 HLF.out.2.2).mono ?_; rintro e wa ⟨Aa, ma, ca, rfl, hoa, hEa'⟩; have hEa := hE8.trans (Ext.trans (by first | exact Ext.refl w8 | exact (Ext.refl w8).drew) hEa'); have HCA : ∀ W, Ext wa W → (convert 22 9 (.slice Aa ma ca)).run Tryz.prog W = .ok (.string SL) W := fun W hE => by rw [HSL.out]; exact conv_str (hoa.sl.ext hE) _)
                | (go_at_call 17; refine (rbytes40_any cq (HPQ.out.sl.ext (hEa.trans (by first | exact Ext.refl _ | exact (Ext.refl _).drew))) HLG.out HGQ.out).mono ?_; rintro e wb ⟨Ab, mb, cb, rfl, hsb, _, hEb'⟩; have hEb := hEa.trans (Ext.trans (by first | exact Ext.refl wa | exact (Ext.refl wa).drew) hEb'); have HCB : ∀ W, Ext wb W → (convert 22 9 (.slice Ab mb cb)).run Tryz.prog W = .ok (.string SL) W := fun W hE => by rw [HSL.out]; exact conv_str (hsb.ext hE) _)
                | fail)
            all_goals
              have HPB : Hid (∀ W, Ext wb W → OsC evC 46 8 W w.heap.size Aq mq cq LQ) := fun W hW => HPQ.out.ext (hEb.trans hW)
              have HJB : Hid (∀ W, Ext wb W → JrT W j LQ Aq w.heap.size) := fun W hW => ⟨SQ, HJT.out.ext (hEb.trans hW), HSGE.out, fun g hg => Nat.lt_of_lt_of_le (HSLT.out g hg) (hEb.trans hW).size_le, HSNP.out⟩
              have HEB : Hid (∀ W, Ext wb W → Ext w W) := fun W hW => (HEQ.out.trans hEb).trans hW
              clear ho7 hoa hsb hE7 hE7' hE8 hE8' hEa hEa' hEb hEb'
              go_wp2
              go_roundw
              case rel =>
                first
                | exact ⟨q + 1, Aq, mq, cq, LQ, by omega, by go_num, rfl, HPB.out _ (by first | exact Ext.refl _ | exact (Ext.refl _).drew), HJB.out _ (by first | exact Ext.refl _ | exact (Ext.refl _).drew), HQL, HLG.out.1, HGQ, HEB.out _ (by first | exact Ext.refl _ | exact (Ext.refl _).drew)⟩
                | (repeat apply Exists.intro
                   refine ⟨?rl, ?fr⟩
                   case fr => exact rfl
                   case rl => exact ⟨q + 1, Aq, mq, cq, LQ, by omega, by go_num, rfl, HPB.out _ (by first | exact Ext.refl _ | exact (Ext.refl _).drew), HJB.out _ (by first | exact Ext.refl _ | exact (Ext.refl _).drew), HQL, HLG.out.1, HGQ, HEB.out _ (by first | exact Ext.refl _ | exact (Ext.refl _).drew)⟩)
              case measure => simp [intOf]; omega
        · obtain ⟨k, hk⟩ : ∃ k : Nat, N = (k : Int) := ⟨N.toNat, by omega⟩
          subst hk
          have hb0 : ¬ (k : Int) < 0 := by omega
          have hb1 : ¬ (mp : Int) < (k : Int) := by omega
          have hkm : k ≤ mp := by omega
          have hkc : k ≤ cp := by omega
          have hk40 : k ≤ 40 := by omega
          have qk := fun (W : World) => (cut_runC einfo_ev (A := Ap) (m := mp) (c := cp)).2.1 W .i64 k hkc
          have hEn : Ext w4 (w4.alloc (Obj.cells #[] 46)) := (Ext.refl _).alloc _
          have hst2 : SlC evC 8 (w4.alloc (Obj.cells #[] 46)) Ap k (L.take k) := (HP.out.sl.ext (hEr4.trans hEn)).take_ hkm
          clear hbad
          go_wp2_with (first
            | (at_builtin; refine Hid.out ?_))
          refine Hid.mk_ ?_
          refine appC einfo_ev rfl _ _ rfl (OsC.new0 w4 w.heap.size hEw4.size_le evC_len evC_one) rfl hst2 rfl (by omega) (hEw4.trans hEn).size_le ?_
          intro Aq mq cq w6 ho6 hg6 hN6
          rw [List.nil_append] at ho6
          have hE46 : Ext w4 w6 := hEn.grown hg6 (fun g hgg => Nat.le_of_eq (Option.some.inj hgg))
          have HNQ : Hid (∀ g, ob Aq = some g → w4.heap.size ≤ g) := fun g hgg => by
            rcases hN6 g hgg with h1 | h1
            · have h2 := hEn.size_le; omega
            · exact Nat.le_of_eq (Option.some.inj h1)
          obtain ⟨LQ, hLQ⟩ : ∃ LQ, LQ = L.take k := ⟨_, rfl⟩
          rw [← hLQ] at ho6
          have HQL : Hid (LQ.length ≤ 20 + (q + 1)) := by have := HLL.out; show _ ≤ _; rw [hLQ, List.length_take]; omega
          have HLG : Hid ((∀ x ∈ LQ, sumE x ≤ 2000) ∧ LQ.length ≤ 40) := ⟨fun y hy => HLS.out y (by rw [hLQ] at hy; exact List.mem_of_mem_take hy), by rw [hLQ, List.length_take]; omega⟩
          have HGQ : Hid (∀ x ∈ LQ, GoodE x) := fun y hy => HLGE.out y (by rw [hLQ] at hy; exact List.mem_of_mem_take hy)
          have HLF := Lib.hid (runJ_len40 HLG.out.1 HLG.out.2)
          have HLQ := Lib.hid hLQ
          have HO6 := Lib.hid ho6
          have HE6 := Lib.hid (hEw4.trans hE46)
          have HJ6 := Lib.hid (HJ0.out.ext (hEr4.trans hE46))
          have HS6 : Hid (∀ g, S g → g < w6.heap.size) := fun g hg => Nat.lt_of_lt_of_le (HSLT0.out g hg) (hEr4.trans hE46).size_le
          have HSNP : Hid (∀ g, ob Aq = some g → ¬ S g) := fun g hgg hgS => by
            have h1 := HNQ.out g hgg
            have h2 := HSLT0.out g hgS
            have h3 := hEr4.size_le
            omega
          obtain ⟨SL, hSL⟩ : ∃ SL, SL = str (runJ LQ).bs := ⟨_, rfl⟩
          have HSL := Lib.hid hSL
          obtain ⟨SQ, rfl⟩ : ∃ SQ, SQ = S := ⟨_, rfl⟩
          have P9 := fun W hW => K9 W (hE46.trans hW)
          clear K0 K1 K2 K3 K4 K5 K6 K7 K8 K9 hcv ho6 hg6 hN6 hst2 qk hE46 hSL hLQ hEn
          by_cases hkm2 : k = mp
          · have hkL : (k : Int) = (L.length : Int) := by rw [hkm2, HML.out]
            have htr := jtruncAll_any HJ6.out HLF0.out.1
            rw [← hkL] at htr
            have HLL2 : Hid (LQ = L) := by show _ = _; rw [HLQ.out, List.take_of_length_le (by rw [← HML.out]; omega)]
            clear hkL hkm2
            go_wp2_with (first
              | (go_at_call 19; refine Hid.out ?_))
            refine Hid.mk_ ((htr).mono ?_)
            rintro e wq ⟨rfl, hE7⟩
            have HPQ := Lib.hid (HO6.out.ext hE7)
            have HJT : Hid (Jr wq j SQ LQ (runJ LQ).es (runJ LQ).k (runJ LQ).ks (runJ LQ).bs) := by
              show Jr _ _ _ _ _ _ _ _
              rw [HLL2.out]
              exact HJ6.out.ext hE7
            have HSLT : Hid (∀ g, SQ g → g < wq.heap.size) := fun g hg => Nat.lt_of_lt_of_le (HS6.out g hg) hE7.size_le
            have HEQ := Lib.hid (HE6.out.trans hE7)
            clear htr hE7 P9
            go_wp2
            go_region_law
              (go_simp
               first
                | (go_at_call 11; refine (jevents_any (HJT.out.ext (by first | exact Ext.refl _ | exact (Ext.refl _).drew)) HLF.out.1).mono ?_; rintro e w7 ⟨A7, m7, c7, rfl, ho7, hE7'⟩; have hE7 := Ext.trans (by first | exact Ext.refl wq | exact (Ext.refl wq).drew) hE7')
                | (go_at_call 10; refine (jsame_eq c7 cq (ho7.sl.ext (by first | exact Ext.refl _ | exact (Ext.refl _).drew)) (HPQ.out.sl.ext (hE7.trans (by first | exact Ext.refl _ | exact (Ext.refl _).drew)))).mono ?_; rintro e w8 ⟨rfl, hE8'⟩; have hE8 := hE7.trans (Ext.trans (by first | exact Ext.refl w7 | exact (Ext.refl w7).drew) hE8'))
                | (go_at_call 12; refine (jbytes_any (HJT.out.ext (hE8.trans (by first | exact Ext.refl _ | exact (Ext.refl _).drew))) HLF.out.2.1 HLF.out.2.2).mono ?_; rintro e wa ⟨Aa, ma, ca, rfl, hoa, hEa'⟩; have hEa := hE8.trans (Ext.trans (by first | exact Ext.refl w8 | exact (Ext.refl w8).drew) hEa'); have HCA : ∀ W, Ext wa W → (convert 22 9 (.slice Aa ma ca)).run Tryz.prog W = .ok (.string SL) W := fun W hE => by rw [HSL.out]; exact conv_str (hoa.sl.ext hE) _)
                | (go_at_call 17; refine (rbytes40_any cq (HPQ.out.sl.ext (hEa.trans (by first | exact Ext.refl _ | exact (Ext.refl _).drew))) HLG.out HGQ.out).mono ?_; rintro e wb ⟨Ab, mb, cb, rfl, hsb, _, hEb'⟩; have hEb := hEa.trans (Ext.trans (by first | exact Ext.refl wa | exact (Ext.refl wa).drew) hEb'); have HCB : ∀ W, Ext wb W → (convert 22 9 (.slice Ab mb cb)).run Tryz.prog W = .ok (.string SL) W := fun W hE => by rw [HSL.out]; exact conv_str (hsb.ext hE) _)
                | fail)
            all_goals
              have HPB : Hid (∀ W, Ext wb W → OsC evC 46 8 W w.heap.size Aq mq cq LQ) := fun W hW => HPQ.out.ext (hEb.trans hW)
              have HJB : Hid (∀ W, Ext wb W → JrT W j LQ Aq w.heap.size) := fun W hW => ⟨SQ, HJT.out.ext (hEb.trans hW), HSGE.out, fun g hg => Nat.lt_of_lt_of_le (HSLT.out g hg) (hEb.trans hW).size_le, HSNP.out⟩
              have HEB : Hid (∀ W, Ext wb W → Ext w W) := fun W hW => (HEQ.out.trans hEb).trans hW
              clear ho7 hoa hsb hE7 hE7' hE8 hE8' hEa hEa' hEb hEb'
              go_wp2
              go_roundw
              case rel =>
                first
                | exact ⟨q + 1, Aq, mq, cq, LQ, by omega, by go_num, rfl, HPB.out _ (by first | exact Ext.refl _ | exact (Ext.refl _).drew), HJB.out _ (by first | exact Ext.refl _ | exact (Ext.refl _).drew), HQL, HLG.out.1, HGQ, HEB.out _ (by first | exact Ext.refl _ | exact (Ext.refl _).drew)⟩
                | (repeat apply Exists.intro
                   refine ⟨?rl, ?fr⟩
                   case fr => exact rfl
                   case rl => exact ⟨q + 1, Aq, mq, cq, LQ, by omega, by go_num, rfl, HPB.out _ (by first | exact Ext.refl _ | exact (Ext.refl _).drew), HJB.out _ (by first | exact Ext.refl _ | exact (Ext.refl _).drew), HQL, HLG.out.1, HGQ, HEB.out _ (by first | exact Ext.refl _ | exact (Ext.refl _).drew)⟩)
              case measure => simp [intOf]; omega
          · have htr := jtrunc_any HJ6.out HLF0.out.1 (by have := HLF0.out.2.2; omega) k (by rw [← HML.out]; omega)
            clear hkm2
            go_wp2_with (first
              | (go_at_call 19; refine Hid.out ?_))
            refine Hid.mk_ ((htr).mono ?_)
            rintro e wq ⟨rfl, hJ7, hK7⟩
            have HPQ : Hid (OsC evC 46 8 wq w.heap.size Aq mq cq LQ) := HO6.out.keep hK7 HSNP.out
            have HJT : Hid (Jr wq j SQ LQ (runJ LQ).es (runJ LQ).k (runJ LQ).ks (runJ LQ).bs) := by
              show Jr _ _ _ _ _ _ _ _
              rw [HLQ.out]
              exact hJ7
            have HSLT : Hid (∀ g, SQ g → g < wq.heap.size) := fun g hg => Nat.lt_of_lt_of_le (HS6.out g hg) hK7.size
            have HEQ : Hid (Ext w wq) := Below.trans HE6.out (hK7.toBelow HE6.out.size_le HSGE.out)
            clear htr hJ7 hK7 P9
            go_wp2
            go_region_law
              (go_simp
               first
                | (go_at_call 11; refine (jevents_any (HJT.out.ext (by first | exact Ext.refl _ | exact (Ext.refl _).drew)) HLF.out.1).mono ?_; rintro e w7 ⟨A7, m7, c7, rfl, ho7, hE7'⟩; have hE7 := Ext.trans (by first | exact Ext.refl wq | exact (Ext.refl wq).drew) hE7')
                | (go_at_call 10; refine (jsame_eq c7 cq (ho7.sl.ext (by first | exact Ext.refl _ | exact (Ext.refl _).drew)) (HPQ.out.sl.ext (hE7.trans (by first | exact Ext.refl _ | exact (Ext.refl _).drew)))).mono ?_; rintro e w8 ⟨rfl, hE8'⟩; have hE8 := hE7.trans (Ext.trans (by first | exact Ext.refl w7 | exact (Ext.refl w7).drew) hE8'))
                | (go_at_call 12; refine (jbytes_any (HJT.out.ext (hE8.trans (by first | exact Ext.refl _ | exact (Ext.refl _).drew))) HLF.out.2.1 HLF.out.2.2).mono ?_; rintro e wa ⟨Aa, ma, ca, rfl, hoa, hEa'⟩; have hEa := hE8.trans (Ext.trans (by first | exact Ext.refl w8 | exact (Ext.refl w8).drew) hEa'); have HCA : ∀ W, Ext wa W → (convert 22 9 (.slice Aa ma ca)).run Tryz.prog W = .ok (.string SL) W := fun W hE => by rw [HSL.out]; exact conv_str (hoa.sl.ext hE) _)
                | (go_at_call 17; refine (rbytes40_any cq (HPQ.out.sl.ext (hEa.trans (by first | exact Ext.refl _ | exact (Ext.refl _).drew))) HLG.out HGQ.out).mono ?_; rintro e wb ⟨Ab, mb, cb, rfl, hsb, _, hEb'⟩; have hEb := hEa.trans (Ext.trans (by first | exact Ext.refl wa | exact (Ext.refl wa).drew) hEb'); have HCB : ∀ W, Ext wb W → (convert 22 9 (.slice Ab mb cb)).run Tryz.prog W = .ok (.string SL) W := fun W hE => by rw [HSL.out]; exact conv_str (hsb.ext hE) _)
                | fail)
            all_goals
              have HPB : Hid (∀ W, Ext wb W → OsC evC 46 8 W w.heap.size Aq mq cq LQ) := fun W hW => HPQ.out.ext (hEb.trans hW)
              have HJB : Hid (∀ W, Ext wb W → JrT W j LQ Aq w.heap.size) := fun W hW => ⟨SQ, HJT.out.ext (hEb.trans hW), HSGE.out, fun g hg => Nat.lt_of_lt_of_le (HSLT.out g hg) (hEb.trans hW).size_le, HSNP.out⟩
              have HEB : Hid (∀ W, Ext wb W → Ext w W) := fun W hW => (HEQ.out.trans hEb).trans hW
              clear ho7 hoa hsb hE7 hE7' hE8 hE8' hEa hEa' hEb hEb'
              go_wp2
              go_roundw
              case rel =>
                first
                | exact ⟨q + 1, Aq, mq, cq, LQ, by omega, by go_num, rfl, HPB.out _ (by first | exact Ext.refl _ | exact (Ext.refl _).drew), HJB.out _ (by first | exact Ext.refl _ | exact (Ext.refl _).drew), HQL, HLG.out.1, HGQ, HEB.out _ (by first | exact Ext.refl _ | exact (Ext.refl _).drew)⟩
                | (repeat apply Exists.intro
                   refine ⟨?rl, ?fr⟩
                   case fr => exact rfl
                   case rl => exact ⟨q + 1, Aq, mq, cq, LQ, by omega, by go_num, rfl, HPB.out _ (by first | exact Ext.refl _ | exact (Ext.refl _).drew), HJB.out _ (by first | exact Ext.refl _ | exact (Ext.refl _).drew), HQL, HLG.out.1, HGQ, HEB.out _ (by first | exact Ext.refl _ | exact (Ext.refl _).drew)⟩)
              case measure => simp [intOf]; omega
    · have hi1 : ¬ (q : Int) < (n : Int) := by omega
      go_wp2
      go_ret
      exact ⟨rfl, HE.out⟩
end
set_option maxRecDepth 100000 in
theorem liftedJournalScript (os : Os) (started : os.Started) (H : Type) (enc : TypeId × Value → H) :
    ReturnsInHanded {} Tryz.checked os 6 .any (fun w args => (Rows.journalScriptSpec.pre enc Tryz.prog Tryz.f6 [] false w args ∧ laidMetH Tryz.prog laidZ w) ∧ sizedMet enc Tryz.prog Tryz.f6 (OpenSpec.ofChange Rows.journalScriptSpec) false w args) (Rows.journalScriptSpec.post enc Tryz.prog Tryz.f6 false true false false) := by
  refine returnsInHanded_of_change_and (C := Tryz.checked) (X := fun w _ => laidMetH Tryz.prog laidZ w) (fun _ _ _ hh h => h.of_heap hh) ownK started (by kernel_rfl) Tryz.func6
    (ChangeSpec.witness_shaped (enc := enc) (C := Tryz.checked) (os := os) (X := fun w _ => laidMetH Tryz.prog laidZ w) false (World.laidAll Tryz.prog os laidZ) #[.slice none 0 0, .slice none 0 0] 8 (World.laidAll_os _ _ _)
      (World.shaped_of_ZipB (by kernel_rfl) (by kernel_rfl)) (by kernel_rfl) (by kernel_rfl) (by kernel_rfl)
      (by rw [MakeChecks.laidMetH_plain _ _ _ (by kernel_rfl)]; exact laidMet_laidAll _ (by kernel_rfl) (by kernel_rfl))) ?_
  intro W base args ds gs before hval0 hW hcnd hsz0 hL _
  have hT := ptns_of_laid hL
  have hval : ∀ (j : Nat) t v, Tryz.f6.params[j]? = some t → args[j]? = some v → Value.okWide Tryz.prog W .any base t v := hval0
  have hW' := hW
  obtain ⟨p, q, hA0, hV, rfl, hfz, hnd⟩ := hW
  have hA : DataW.TrodAll enc Tryz.prog W 0 (fun _ => true) true Tryz.f6.params.toList args.toList ds p := hA0
  have hsz : (DataW.weightsEach Tryz.prog (Tryz.f6.params.toList ++ Rows.journalScriptSpec.plain.varTypes Tryz.prog) (ds ++ gs)).all (· ≤ reachBytes) = true := hsz0
  rw [Tryz.params6] at hA hval hsz
  obtain ⟨v0, vs0, d0, ds0, p0, q0, hargs0, rfl, rfl, h0, r0⟩ := trodAll_cons hA
  obtain ⟨v1, vs1, d1, ds1, p1, q1, hargs1, rfl, rfl, h1, r1⟩ := trodAll_cons r0
  obtain ⟨rfl, rfl, rfl⟩ := trodAll_nil r1
  obtain rfl : args = #[v0, v1] := by cases args; simp_all
  obtain ⟨rfl, rfl⟩ := trodVars_none hV
  have k0 := h0
  have lt0 : ∀ x ∈ p0, x.block < W.heap.size := by obtain ⟨m, hm⟩ := k0; exact DataW.trod_lt m _ _ _ hm
  have k1 := h1
  have lt1 : ∀ x ∈ p1, x.block < W.heap.size := by obtain ⟨m, hm⟩ := k1; exact DataW.trod_lt m _ _ _ hm
  obtain ⟨A0, m0, c0, l0, rfl, w0, hg0, hmc0, hcb0⟩ := opn_top_slice Tryz.underlying28 opn_evs (hval 0 28 v0 rfl rfl) h0 (WOk.top hsz (j := 0) rfl rfl)
  obtain ⟨A1, m1, c1, l1, rfl, w1, hg1, hmc1, hcb1⟩ := opn_top_slice Tryz.underlying43 opn_stps (hval 1 43 v1 rfl rfl) h1 (WOk.top hsz (j := 1) rfl rfl)
  clear hA0 hval0
  refine (scr_walk c0 w0 hg0 hmc0 c1 w1 hg1 hT).mono fun e W' ⟨he, bel⟩ => ?_
  subst he
  exact ⟨_, rfl, _, _, _, [], _, [], hW', trodAll_mk1 (shut_bool Tryz.underlying4 _), (trodAll_cons_mk (Below.trod laidK (by kernel_rfl) (of_decide_eq_true (by kernel_rfl)) k0 bel lt0) (trodAll_cons_mk (Below.trod laidK (by kernel_rfl) (of_decide_eq_true (by kernel_rfl)) k1 bel lt1) trodAll_mk0)), rfl, Below.frame bel _, fun h => by cases h⟩
theorem JournalScript_row : Rows.JournalScriptSaid :=
  OpenClaim.holds_of_wide 6 Tryz.f6 rfl rfl rfl rfl rfl rfl rfl ⟨rfl, rfl, rfl, rfl, rfl⟩ rfl rfl rfl rfl rfl (by kernel_rfl) Tryz.func6 (by kernel_rfl)
    (of_decide_eq_true (by kernel_rfl)) (by unfold Func.isWrapper; rw [if_neg (of_decide_eq_false (by kernel_rfl))]; exact ⟨rfl, rfl⟩)
    (fun os started H enc _ => liftedJournalScript os started H enc)
theorem JournalScript_holds : Rows.JournalScriptCardSaid :=
  Claim7.holds_tied_plain_at .later [] Rows.journalScriptCard.laidKinds true Rows.journalScriptCard.stood.harness Rows.journalScriptCard.stood.looks
    JournalScript_row (fun _ h => by cases h) (by kernel_rfl) (fun _ h => by cases h) journalScript_row_tie rfl ⟨rfl, rfl⟩ (by kernel_rfl) rfl
    (fun f fn hf hfn => by
      obtain rfl : f = 6 := Option.some.inj ((show Tryz.prog.funcNamed Rows.journalScriptRow.func = some 6 by kernel_rfl).symm.trans hf) |>.symm
      obtain rfl : fn = Tryz.f6 := (Option.some.inj (Tryz.func6.symm.trans hfn)).symm
      exact ⟨by kernel_rfl, fun j t ht => by
        rw [Tryz.params6] at ht
        have hm : t ∈ [28, 43] := by simpa using Array.mem_of_getElem? ht
        have hall : ([28, 43].all fun u => !Tryz.prog.wantsStandIn u) = true := by kernel_rfl
        exact (show Tryz.prog.wantsStandIn t = false by simpa using List.all_eq_true.1 hall t hm)⟩)
    (by kernel_rfl)
#print axioms JournalScript_holds
end Go.Proofs.YtoghaehcmbonnaaGreatDoor
