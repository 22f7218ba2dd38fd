/- The reference's Pack, Seal and Sizes; contents that came in. -/
import Derived.Test.YtghndnacmpckbaaGreatDoorPatRa
import Derived.Test.YtghndnacmpckbaaGreatDoorReadB
import Derived.Test.YtghndnacmpckbaaGreatDoorRefW
import Derived.Deep.Cut
namespace Go.Proofs.YtghndnacmpckbaaGreatDoor
open Go.RowKit Go.WideShapes
set_option maxRecDepth 100000
attribute [local go_sem] ext_refl_t ext_alloc_t ext_drew_t ext_drewN_t ext_alloc2_t ext_alloc3_t ext_alloc4_t ext_alloc5_t ext_alloc6_t ext_alloc7_t ext_alloc8_t ext_alloc1d_t ext_alloc2d_t ext_alloc3d_t ext_alloc4d_t
/-- An operation, field by field. -/
structure GOp where
  i : Bool
  o : Int
  n : Int
  h : SlH
def gopC (x : GOp) : List Value := [.bool x.i, .int .i64 x.o, .int .i64 x.n, .slice x.h.A x.h.m x.h.c]
def I64 (n : Int) : Prop := -9223372036854775808 ≤ n ∧ n ≤ 9223372036854775807
def gopG (W : World) (x : GOp) : Prop := I64 x.o ∧ I64 x.n ∧ (∃ s, SlB W x.h.A x.h.m s) ∧ x.h.m ≤ x.h.c
theorem cells_gop : Tryz.prog.cellsOf 29 = 4 := by kernel_rfl
theorem bytes_gop : Tryz.prog.bytesOf 29 = 48 := by kernel_rfl
theorem cells_gcon : Tryz.prog.cellsOf 25 = 5 := by kernel_rfl
theorem cells_gstr : Tryz.prog.cellsOf 9 = 1 := by kernel_rfl
theorem cells_gint : Tryz.prog.cellsOf 3 = 1 := by kernel_rfl
theorem cells_gbool : Tryz.prog.cellsOf 4 = 1 := by kernel_rfl
theorem cells_gu8s : Tryz.prog.cellsOf 22 = 1 := by kernel_rfl
theorem cells_gops : Tryz.prog.cellsOf 23 = 1 := by kernel_rfl
section
variable {H : Type} {enc : TypeId × Value → H} {W : World}
theorem opn_gu8s : Opn enc W 22 slF (GoodSl W (fun b : UInt8 => [bv b]) 1 1 (fun _ => True)) :=
  opn_slice Tryz.underlying22 cells_u8b bytes_u8b (by omega) (by omega) (fun _ => rfl) opn_byte
theorem opn_gop : Opn enc W 29 gopC (gopG W) := by
  intro n cs x h hw
  obtain ⟨hl, hp⟩ := opn_part Tryz.underlying29 h hw
  rw [cells_gop] at hl
  match cs, hl with
  | [a, b, c, d], _ =>
    obtain ⟨y0, e0, g0⟩ := hp 0 _ rfl (opn_bool Tryz.underlying4)
    obtain ⟨y1, e1, g1⟩ := hp 1 _ rfl (opn_int Tryz.underlying3)
    obtain ⟨y2, e2, g2⟩ := hp 2 _ rfl (opn_int Tryz.underlying3)
    obtain ⟨y3, e3, g3⟩ := hp 3 _ rfl opn_gu8s
    simp [cells_gbool, cells_gint, cells_gu8s, boolF, intF, slF] at e0 e1 e2 e3
    subst e0 e1 e2 e3
    obtain ⟨l, h1, _, h3, _⟩ := g3
    exact ⟨⟨y0, y1, y2, y3⟩, rfl, bounds_i64 g1, bounds_i64 g2, ⟨l, SlB.of_slc h1⟩, h3⟩
theorem opn_gops : Opn enc W 23 slF (GoodSl W gopC 4 48 (gopG W)) :=
  opn_slice Tryz.underlying23 cells_gop bytes_gop (by omega) (by omega) (fun _ => rfl) opn_gop
structure GCon where
  old : Int
  new : Int
  os : ByteArray
  ns : ByteArray
  h : SlH
def conC (x : GCon) : List Value := [.int .i64 x.old, .int .i64 x.new, .string x.os, .string x.ns, .slice x.h.A x.h.m x.h.c]
theorem opn_gcon : Opn enc W 25 conC (fun x => I64 x.old ∧ I64 x.new ∧ GoodStr x.os ∧ GoodStr x.ns ∧ GoodSl W gopC 4 48 (gopG W) x.h) := by
  intro n cs x h hw
  obtain ⟨hl, hp⟩ := opn_part Tryz.underlying25 h hw
  rw [cells_gcon] at hl
  match cs, hl with
  | [a, b, c, d, e], _ =>
    obtain ⟨y0, e0, g0⟩ := hp 0 _ rfl (opn_int Tryz.underlying3)
    obtain ⟨y1, e1, g1⟩ := hp 1 _ rfl (opn_int Tryz.underlying3)
    obtain ⟨y2, e2, g2⟩ := hp 2 _ rfl (opn_string Tryz.underlying9)
    obtain ⟨y3, e3, g3⟩ := hp 3 _ rfl (opn_string Tryz.underlying9)
    obtain ⟨y4, e4, g4⟩ := hp 4 _ rfl opn_gops
    simp [cells_gstr, cells_gint, cells_gops, strF, intF, slF] at e0 e1 e2 e3 e4
    subst e0 e1 e2 e3 e4
    exact ⟨⟨y0, y1, y2, y3, y4⟩, rfl, bounds_i64 g0, bounds_i64 g1, g2, g3, g4⟩
end
theorem encS_lenG (s : ByteArray) : (encS (bys s)).length ≤ 9 + s.size := by
  unfold encS
  rw [List.length_append, bys_len]
  have := encI_length_le ((bys s).length : Int)
  rw [bys_len] at this
  omega
/- append(append(out, F1), F2): out is hoQ at the world wr, the start is w0; the block gx is read. -/
section
variable {w : World}
set_option maxHeartbeats 12800000 in
theorem rpack_any {A : Option Addr} {m c : Nat} {old new : Int} {os ns : ByteArray} {L : List GOp} (hs : SlC gopC 4 w A m L) (hG : ∀ x ∈ L, gopG w x ∧ x.h.m ≤ 100) (hm : m ≤ 30) (hos : os.size ≤ 100) (hns : ns.size ≤ 100) (ho : I64 old) (hn : I64 new) :
    Calls Tryz.prog 14 #[.agg #[.int .i64 old, .int .i64 new, .string os, .string ns, .slice A m c]] w fun e w' => ∃ A' m' c' l, e = .returned (.slice A' m' c') ∧ OsB w' w.heap.size A' m' c' l ∧ m' ≤ 10000 ∧ Ext w w' := by
  obtain ⟨ho1, ho2⟩ := ho
  obtain ⟨hn1, hn2⟩ := hn
  have HL := Lib.hid hs.len
  obtain ⟨w0, hw0⟩ : ∃ w0, w0 = w.alloc (Obj.cells #[.int .i64 old, .int .i64 new, .string os, .string ns, .slice A m c] 25) := ⟨_, rfl⟩
  have hE0 : Ext w w0 := by rw [hw0]; exact (Ext.refl w).alloc _
  have hb0 : Blk w0 w.heap.size 25 #[.int .i64 old, .int .i64 new, .string os, .string ns, .slice A m c] := by rw [hw0]; exact Blk.new w _ _
  obtain ⟨gx, hgx⟩ : ∃ g, g = w.heap.size := ⟨_, rfl⟩
  rw [← hgx] at hb0
  have hs0 := hs.ext hE0
  have HG := Lib.hid (fun x hx => hG x hx)
  go_enter Tryz.func14, Tryz.ntmps14
  go_wp2_with (first
    | (go_at_call 29; refine Hid.out ?_))
  rw [← hw0, ← hgx]
  clear hw0 hG hs hgx
  refine Hid.mk_ ((refStr ⟨#[99, 97, 108, 113, 117, 101, 45, 112, 97, 116, 99, 104]⟩ (by decide)).mono ?_)
  rintro e wr ⟨AQ, mQ, cQ, rfl, ho1', hE⟩
  have hmQ : mQ ≤ 21 := by have h1 := ho1'.len; have h2 := encS_lenG ⟨#[99, 97, 108, 113, 117, 101, 45, 112, 97, 116, 99, 104]⟩; have h3 : (⟨#[99, 97, 108, 113, 117, 101, 45, 112, 97, 116, 99, 104]⟩ : ByteArray).size = 12 := rfl; omega
  obtain ⟨lq, hoQ⟩ : ∃ lq, OsB wr w0.heap.size AQ mQ cQ lq := ⟨_, ho1'⟩
  clear ho1'
  have zo := encS_lenG os
  have zn := encS_lenG ns
  have KX : Hid (∀ W, Blk W gx 25 #[.int .i64 old, .int .i64 new, .string os, .string ns, .slice A m c] → W.cell? ⟨gx, 0, none⟩ = some (.int .i64 old) ∧ W.cell? ⟨gx, 1, none⟩ = some (.int .i64 new) ∧ W.cell? ⟨gx, 2, none⟩ = some (.string os) ∧ W.cell? ⟨gx, 3, none⟩ = some (.string ns) ∧ W.cell? ⟨gx, 4, none⟩ = some (.slice A m c)) := fun W h => ⟨h.cell 0, h.cell 1, h.cell 2, h.cell 3, h.cell 4⟩
  have hgl : gx < w0.heap.size := hb0.lt
  have hErd : Ext wr wr.drew := (Ext.refl wr).drew
  have hkd := hb0.below (hE.trans hErd) hb0.lt
  have hbQ : w0.heap.size ≤ wr.heap.size := hE.size_le
  have hneQ : ob AQ ≠ some gx := fun e => by have := hoQ.ge gx e; omega
  go_upto_region 2 with fail
  go_cut [3] from 7 to 15 (fun v wx => ∃ A7 m7 c7 l7, v = .slice A7 m7 c7 ∧ OsB wx w0.heap.size A7 m7 c7 l7 ∧ m7 ≤ 140 ∧ Ext w0 wx)
  case first =>
    go_region_held3 (fun w' => w'.cell? ⟨gx, 0, none⟩ = some (.int .i64 old) ∧ w'.cell? ⟨gx, 2, none⟩ = some (.string os)) (exact ⟨(KX.out _ (by assumption)).1, (KX.out _ (by assumption)).2.2.1⟩) (first
        | (refine step_appB rfl _ _ rfl (ho5.ext hE6) rfl ho6.sl rfl (by have h1 := ho5.len; rw [List.length_append] at h1; have h2 := hoQ.len; have h3 := ho6.len; have h4 := ho4.len; have h5 := encI_length_le old; omega) (Nat.le_trans hsz5 hE6.size_le) ?_
           intro A7 m7 c7 w7 ho7 hg7 hat7
           have hE07 : Ext w0 w7 := Ext.grown hE06 hg7 (fun k hk => ho5.ge k hk)
           have hsz7 : w0.heap.size ≤ w7.heap.size := hE07.size_le
           have hk7 := hk6.grown hg7 (fun e => hne5 e.symm)
           have hne7 : ob A7 ≠ some gx := (fun e => (hat7 _ e).elim (fun h9 => by have := hk6.lt; omega) hne5))
        | (go_at_call 29
           (with_reducible refine (refStr os (by omega)).mono ?_)
           rintro e w6 ⟨A6, m6, c6, rfl, ho6, hE6⟩
           have hE06 : Ext w0 w6 := hE05.trans hE6
           have hk6 := hk5.below hE6 hk5.lt)
        | (refine step_appB rfl _ _ rfl (hoQ.ext hEr4) rfl ho4.sl rfl (by have h3 := ho4.len; have h5 := encI_length_le old; omega) (Nat.le_trans hbQ hEr4.size_le) ?_
           intro A5 m5 c5 w5 ho5 hg5 hat5
           have hE05 : Ext w0 w5 := Ext.grown hE04 hg5 (fun k hk => hoQ.ge k hk)
           have hsz5 : w0.heap.size ≤ w5.heap.size := hE05.size_le
           have hk5 := hk4.grown hg5 (fun e => hneQ e.symm)
           have hne5 : ob A5 ≠ some gx := (fun e => (hat5 _ e).elim (fun h9 => by have := hk4.lt; omega) hneQ))
        | (go_at_call 30
           (with_reducible refine (refInt old ho1 ho2).mono ?_)
           rintro e w4 ⟨A4, m4, c4, rfl, ho4, hE4⟩
           have hEr4 : Ext wr w4 := Ext.trans hErd hE4
           have hE04 : Ext w0 w4 := hE.trans hEr4
           have hk4 := hkd.below hE4 hkd.lt)
            | fail)
    all_goals
      have hm7 : m7 ≤ 140 := by have h1 := ho5.len; rw [List.length_append] at h1; have h2 := hoQ.len; have h3 := ho6.len; have h4 := ho4.len; have h5 := encI_length_le old; have h6 := ho7.len; simp only [List.length_append] at h6; omega
      go_wp2
      go_meet
      exact ⟨A7, m7, c7, _, rfl, ho7, hm7, hE07⟩
  case rest =>
  clear hoQ hE hErd hkd hbQ hneQ hmQ
  obtain ⟨AQ, mQ, cQ, lq, rfl, hoQ, hmQ, hE⟩ := hcut
  obtain ⟨wr, rfl⟩ : ∃ v, v = wc := ⟨_, rfl⟩
  have hErd : Ext wr wr.drew := (Ext.refl wr).drew
  have hkd := hb0.below (hE.trans hErd) hb0.lt
  have hbQ : w0.heap.size ≤ wr.heap.size := hE.size_le
  have hneQ : ob AQ ≠ some gx := fun e => by have := hoQ.ge gx e; omega
  go_upto_region 3 with fail
  go_cut [3] from 16 to 24 (fun v wx => ∃ A7 m7 c7 l7, v = .slice A7 m7 c7 ∧ OsB wx w0.heap.size A7 m7 c7 l7 ∧ m7 ≤ 260 ∧ Ext w0 wx)
  case first =>
    go_region_held3 (fun w' => w'.cell? ⟨gx, 1, none⟩ = some (.int .i64 new) ∧ w'.cell? ⟨gx, 3, none⟩ = some (.string ns)) (exact ⟨(KX.out _ (by assumption)).2.1, (KX.out _ (by assumption)).2.2.2.1⟩) (first
        | (refine step_appB rfl _ _ rfl (ho5.ext hE6) rfl ho6.sl rfl (by have h1 := ho5.len; rw [List.length_append] at h1; have h2 := hoQ.len; have h3 := ho6.len; have h4 := ho4.len; have h5 := encI_length_le new; omega) (Nat.le_trans hsz5 hE6.size_le) ?_
           intro A7 m7 c7 w7 ho7 hg7 hat7
           have hE07 : Ext w0 w7 := Ext.grown hE06 hg7 (fun k hk => ho5.ge k hk)
           have hsz7 : w0.heap.size ≤ w7.heap.size := hE07.size_le
           have hk7 := hk6.grown hg7 (fun e => hne5 e.symm)
           have hne7 : ob A7 ≠ some gx := (fun e => (hat7 _ e).elim (fun h9 => by have := hk6.lt; omega) hne5))
        | (go_at_call 29
           (with_reducible refine (refStr ns (by omega)).mono ?_)
           rintro e w6 ⟨A6, m6, c6, rfl, ho6, hE6⟩
           have hE06 : Ext w0 w6 := hE05.trans hE6
           have hk6 := hk5.below hE6 hk5.lt)
        | (refine step_appB rfl _ _ rfl (hoQ.ext hEr4) rfl ho4.sl rfl (by have h3 := ho4.len; have h5 := encI_length_le new; omega) (Nat.le_trans hbQ hEr4.size_le) ?_
           intro A5 m5 c5 w5 ho5 hg5 hat5
           have hE05 : Ext w0 w5 := Ext.grown hE04 hg5 (fun k hk => hoQ.ge k hk)
           have hsz5 : w0.heap.size ≤ w5.heap.size := hE05.size_le
           have hk5 := hk4.grown hg5 (fun e => hneQ e.symm)
           have hne5 : ob A5 ≠ some gx := (fun e => (hat5 _ e).elim (fun h9 => by have := hk4.lt; omega) hneQ))
        | (go_at_call 30
           (with_reducible refine (refInt new hn1 hn2).mono ?_)
           rintro e w4 ⟨A4, m4, c4, rfl, ho4, hE4⟩
           have hEr4 : Ext wr w4 := Ext.trans hErd hE4
           have hE04 : Ext w0 w4 := hE.trans hEr4
           have hk4 := hkd.below hE4 hkd.lt)
            | fail)
    all_goals
      have hm7 : m7 ≤ 260 := by have h1 := ho5.len; rw [List.length_append] at h1; have h2 := hoQ.len; have h3 := ho6.len; have h4 := ho4.len; have h5 := encI_length_le new; have h6 := ho7.len; simp only [List.length_append] at h6; omega
      go_wp2
      go_meet
      exact ⟨A7, m7, c7, _, rfl, ho7, hm7, hE07⟩
  case rest =>
  clear hoQ hE hErd hkd hbQ hneQ hmQ
  obtain ⟨AQ, mQ, cQ, lq, rfl, hoQ, hmQ, hE⟩ := hcut
  obtain ⟨wr, rfl⟩ : ∃ v, v = wc := ⟨_, rfl⟩
  have k4 := (KX.out _ (hb0.below hE hb0.lt)).2.2.2.2
  go_wp2_with (first
    | (go_at_call 30; refine Hid.out ?_))
  refine Hid.mk_ ((refInt (m : Int) (by omega) (by omega)).mono ?_)
  rintro e w2 ⟨A2, m2, c2, rfl, ho2x, hE2⟩
  have hm2 : m2 ≤ 9 := by have h1 := ho2x.len; have h2 := encI_length_le (m : Int); omega
  have hE02 := hE.trans hE2
  have k4 := (KX.out _ (hb0.below hE02 hb0.lt)).2.2.2.2
  go_wp2_with (first
    | (at_builtin; refine Hid.out ?_))
  refine Hid.mk_ ?_
  refine appB rfl _ _ rfl (hoQ.ext hE2) rfl ho2x.sl rfl (by omega) hE02.size_le ?_
  intro A3 m3 c3 w3 ho3 hg3 hat3
  have hm3 : m3 ≤ 269 := by have h1 := ho3.len; rw [List.length_append] at h1; have h2 := hoQ.len; have h3 := ho2x.len; omega
  have hE03 : Ext w0 w3 := hE02.grown hg3 (fun k hk => hoQ.ge k hk)
  obtain ⟨l3, hO3⟩ : ∃ l3, OsB w3 w0.heap.size A3 m3 c3 l3 := ⟨_, ho3⟩
  clear ho3 hg3 hat3 ho2x hoQ hE hE2 hE02 hmQ hm2 k4
  go_wp2
  go_loopw [3, 4, 5] (fun v i _ wx => ∃ (q : Nat) (AQ : Option Addr) (mQ cQ : Nat) (lq : List UInt8), q ≤ m ∧ i = .int .i64 q ∧ v = .slice AQ mQ cQ ∧ Hid (OsB wx w0.heap.size AQ mQ cQ lq) ∧ Hid (mQ ≤ 270 + q * 130) ∧ Hid (Ext w0 wx)) (fun _ i _ _ => m - (intOf i).toNat)
  case atStart => exact ⟨0, A3, m3, c3, l3, Nat.zero_le _, rfl, rfl, hO3, by show _ ≤ _; omega, hE03⟩
  case round =>
    obtain ⟨q, AQ, mQ, cQ, lq, hq, rfl, rfl, HO, HM, HE⟩ := hrel
    have k4 := (KX.out _ (hb0.below HE.out hb0.lt)).2.2.2.2
    by_cases hlt : q < m
    · obtain ⟨bq, off, eA, hbl, hcs⟩ := (hs0.ext HE.out).at_ hlt (by omega)
      subst eA
      have hlt1 : q < L.length := by rw [← HL.out]; exact hlt
      obtain ⟨x, hx⟩ : ∃ x, x = L[q] := ⟨_, rfl⟩
      have hgx2 : gopG w x ∧ x.h.m ≤ 100 := by rw [hx]; exact HG.out _ (List.getElem_mem hlt1)
      have x0 := hcs q hlt1 0 (by omega)
      have x1 := hcs q hlt1 1 (by omega)
      have x2 := hcs q hlt1 2 (by omega)
      have x3 := hcs q hlt1 3 (by omega)
      simp only [← hx, gopC, List.getElem_cons_zero, List.getElem_cons_succ, Nat.add_zero, ← Nat.add_assoc] at x0 x1 x2 x3
      have hi1 : (q : Int) < (m : Int) := by omega
      clear hcs hx
      obtain ⟨xi, xo, xn, ⟨Ah, mh, ch⟩⟩ := x
      obtain ⟨⟨⟨o1, o2⟩, ⟨n1, n2⟩, ⟨sb, hsb⟩, hch⟩, hm100⟩ := hgx2
      dsimp only at x0 x1 x2 x3 o1 o2 n1 n2 hsb hch hm100
      obtain ⟨wy, hwy⟩ : ∃ wy, wy = wr.alloc (Obj.cells #[.bool xi, .int .i64 xo, .int .i64 xn, .slice Ah mh ch] 29) := ⟨_, rfl⟩
      have hby : Blk wy wr.heap.size 29 #[.bool xi, .int .i64 xo, .int .i64 xn, .slice Ah mh ch] := by rw [hwy]; exact Blk.new wr _ _
      have hEy : Ext wr wy := by rw [hwy]; exact (Ext.refl wr).alloc _
      obtain ⟨gy, hgy⟩ : ∃ g, g = wr.heap.size := ⟨_, rfl⟩
      rw [← hgy] at hby
      have hneQ : ob AQ ≠ some gy := fun e => by have := HO.out.lt gy e; omega
      have hoQ := HO.out.ext hEy
      have hE : Ext w0 wy := HE.out.trans hEy
      have hErd : Ext wy wy.drew := (Ext.refl wy).drew
      have hkd := hby.below hErd hby.lt
      have hbQ : w0.heap.size ≤ wy.heap.size := hE.size_le
      have hmQ : mQ ≤ 5000 := by have := HM.out; omega
      have KY : Hid (∀ W, Blk W gy 29 #[.bool xi, .int .i64 xo, .int .i64 xn, .slice Ah mh ch] → W.cell? ⟨gy, 1, none⟩ = some (.int .i64 xo) ∧ W.cell? ⟨gy, 2, none⟩ = some (.int .i64 xn) ∧ W.cell? ⟨gy, 3, none⟩ = some (.slice Ah mh ch)) := fun W h => ⟨h.cell 1, h.cell 2, h.cell 3⟩
      cases xi with
      | true =>
        obtain ⟨rs, hrs⟩ : ∃ rs, rs = str sb := ⟨_, rfl⟩
        have hcv : ∀ W, Ext w0 W → (convert 22 9 (.slice Ah mh ch)).run Tryz.prog W = .ok (.string rs) W := fun W hW => by rw [hrs]; exact conv_str ((hsb.ext hE0).ext hW) _
        have hrz : rs.size ≤ 100 := by rw [hrs, str_size, ← hsb.len]; exact hm100
        have zs := encS_lenG rs
        have hE0d : Ext w0 wy.drew := hE.drew
        have HCV := Lib.hid hcv
        clear hrs hcv
        go_upto_region 10 with fail
        rw [← hwy, ← hgy]
        clear hwy hgy
        go_region_held3 (fun w' => w'.cell? ⟨gy, 3, none⟩ = some (.slice Ah mh ch) ∧ (convert 22 9 (.slice Ah mh ch)).run Tryz.prog w' = .ok (.string rs) w') (exact ⟨(KY.out _ (by assumption)).2.2, HCV.out _ (by assumption)⟩) (first
            | (refine step_appB rfl _ _ rfl (ho5.ext hE6) rfl ho6.sl rfl (by have h1 := ho5.len; rw [List.length_append] at h1; have h2 := hoQ.len; have h3 := ho6.len; have h4 := ho4.len; have h5 := encI_length_le 1; omega) (Nat.le_trans hsz5 hE6.size_le) ?_
               intro A7 m7 c7 w7 ho7 hg7 hat7
               have hE07 : Ext w0 w7 := Ext.grown hE06 hg7 (fun k hk => ho5.ge k hk)
               have hsz7 : w0.heap.size ≤ w7.heap.size := hE07.size_le
               have hk7 := hk6.grown hg7 (fun e => hne5 e.symm)
               have hne7 : ob A7 ≠ some gy := (fun e => (hat7 _ e).elim (fun h9 => by have := hk6.lt; omega) hne5))
            | (go_at_call 29
               (with_reducible refine (refStr rs (by omega)).mono ?_)
               rintro e w6 ⟨A6, m6, c6, rfl, ho6, hE6⟩
               have hE06 : Ext w0 w6 := hE05.trans hE6
               have hk6 := hk5.below hE6 hk5.lt)
            | (refine step_appB rfl _ _ rfl (hoQ.ext hEr4) rfl ho4.sl rfl (by have h3 := ho4.len; have h5 := encI_length_le 1; omega) (Nat.le_trans hbQ hEr4.size_le) ?_
               intro A5 m5 c5 w5 ho5 hg5 hat5
               have hE05 : Ext w0 w5 := Ext.grown hE04 hg5 (fun k hk => hoQ.ge k hk)
               have hsz5 : w0.heap.size ≤ w5.heap.size := hE05.size_le
               have hk5 := hk4.grown hg5 (fun e => hneQ e.symm)
               have hne5 : ob A5 ≠ some gy := (fun e => (hat5 _ e).elim (fun h9 => by have := hk4.lt; omega) hneQ))
            | (go_at_call 30
               (with_reducible refine (refInt 1 (by omega) (by omega)).mono ?_)
               rintro e w4 ⟨A4, m4, c4, rfl, ho4, hE4⟩
               have hEr4 : Ext wy w4 := Ext.trans hErd hE4
               have hE04 : Ext w0 w4 := hE.trans hEr4
               have hk4 := hkd.below hE4 hkd.lt)
            | fail)
        all_goals
          have HM7 : Hid (m7 ≤ 270 + (q + 1) * 130) := by
            show _ ≤ _
            have h0 := HM.out
            have h1 := ho5.len; rw [List.length_append] at h1; have h2 := hoQ.len; have h3 := ho6.len; have h4 := ho4.len; have h5 := encI_length_le 1; have h6 := ho7.len; simp only [List.length_append] at h6; omega
          have HO7 := Lib.hid ho7
          have HE7 := Lib.hid hE07
          clear ho4 ho5 ho6 ho7 hg5 hg7 hat5 hat7 hk4 hk5 hk6 hk7 hE04 hE05 hE06 hE07
          go_wp2
          go_roundw
          case rel =>
            first
            | exact ⟨q + 1, A7, m7, c7, _, by omega, by go_num, rfl, HO7.out, HM7.out, HE7.out⟩
            | (repeat apply Exists.intro
               refine ⟨?rl, ?fr⟩
               case fr => exact rfl
               case rl => exact ⟨q + 1, A7, m7, c7, _, by omega, by go_num, rfl, HO7.out, HM7.out, HE7.out⟩)
          case measure => simp [intOf]; omega
      | false =>
        go_upto_region 11 with fail
        rw [← hwy, ← hgy]
        clear hwy hgy
        go_region_held3 (fun w' => w'.cell? ⟨gy, 1, none⟩ = some (.int .i64 xo) ∧ w'.cell? ⟨gy, 2, none⟩ = some (.int .i64 xn)) (exact ⟨(KY.out _ (by assumption)).1, (KY.out _ (by assumption)).2.1⟩) (first
            | (refine step_appB rfl _ _ rfl (ho7.ext hE8) rfl ho8.sl rfl (by have h1 := ho5.len; rw [List.length_append] at h1; have h2 := hoQ.len; have h3 := ho6.len; have h4 := ho4.len; have h5 := encI_length_le 0; have h6 := ho7.len; simp only [List.length_append] at h6; have h7 := encI_length_le xo; have h8 := encI_length_le xn; have h9 := ho8.len; omega) (Nat.le_trans hsz7 hE8.size_le) ?_
               intro A9 m9 c9 w9 ho9 hg9 hat9
               have hE09 : Ext w0 w9 := Ext.grown hE08 hg9 (fun k hk => ho7.ge k hk)
               have hk9 := hk8.grown hg9 (fun e => hne7 e.symm))
            | (go_at_call 30
               (with_reducible refine (refInt xn n1 n2).mono ?_)
               rintro e w8 ⟨A8, m8, c8, rfl, ho8, hE8⟩
               have hE08 : Ext w0 w8 := hE07.trans hE8
               have hk8 := hk7.below hE8 hk7.lt)
            | (refine step_appB rfl _ _ rfl (ho5.ext hE6) rfl ho6.sl rfl (by have h1 := ho5.len; rw [List.length_append] at h1; have h2 := hoQ.len; have h3 := ho6.len; have h4 := ho4.len; have h5 := encI_length_le 0; have h7 := encI_length_le xo; omega) (Nat.le_trans hsz5 hE6.size_le) ?_
               intro A7 m7 c7 w7 ho7 hg7 hat7
               have hE07 : Ext w0 w7 := Ext.grown hE06 hg7 (fun k hk => ho5.ge k hk)
               have hsz7 : w0.heap.size ≤ w7.heap.size := hE07.size_le
               have hk7 := hk6.grown hg7 (fun e => hne5 e.symm)
               have hne7 : ob A7 ≠ some gy := (fun e => (hat7 _ e).elim (fun h9 => by have := hk6.lt; omega) hne5))
            | (go_at_call 30
               (with_reducible refine (refInt xo o1 o2).mono ?_)
               rintro e w6 ⟨A6, m6, c6, rfl, ho6, hE6⟩
               have hE06 : Ext w0 w6 := hE05.trans hE6
               have hk6 := hk5.below hE6 hk5.lt)
            | (refine step_appB rfl _ _ rfl (hoQ.ext hEr4) rfl ho4.sl rfl (by have h3 := ho4.len; have h5 := encI_length_le 0; omega) (Nat.le_trans hbQ hEr4.size_le) ?_
               intro A5 m5 c5 w5 ho5 hg5 hat5
               have hE05 : Ext w0 w5 := Ext.grown hE04 hg5 (fun k hk => hoQ.ge k hk)
               have hsz5 : w0.heap.size ≤ w5.heap.size := hE05.size_le
               have hk5 := hk4.grown hg5 (fun e => hneQ e.symm)
               have hne5 : ob A5 ≠ some gy := (fun e => (hat5 _ e).elim (fun h9 => by have := hk4.lt; omega) hneQ))
            | (go_at_call 30
               (with_reducible refine (refInt 0 (by omega) (by omega)).mono ?_)
               rintro e w4 ⟨A4, m4, c4, rfl, ho4, hE4⟩
               have hEr4 : Ext wy w4 := Ext.trans hErd hE4
               have hE04 : Ext w0 w4 := hE.trans hEr4
               have hk4 := hkd.below hE4 hkd.lt)
            | fail)
        all_goals
          have HM7 : Hid (m9 ≤ 270 + (q + 1) * 130) := by
            show _ ≤ _
            have h0 := HM.out
            have h1 := ho5.len; rw [List.length_append] at h1; have h2 := hoQ.len; have h3 := ho6.len; have h4 := ho4.len; have h5 := encI_length_le 0; have h6 := ho7.len; simp only [List.length_append] at h6; have h7 := encI_length_le xo; have h8 := encI_length_le xn; have h9 := ho8.len; have h10 := ho9.len; simp only [List.length_append] at h10; omega
          have HO7 := Lib.hid ho9
          have HE7 := Lib.hid hE09
          clear ho4 ho5 ho6 ho7 ho8 ho9 hg5 hg7 hg9 hat5 hat7 hat9 hk4 hk5 hk6 hk7 hk8 hk9 hE04 hE05 hE06 hE07 hE08 hE09
          go_wp2
          go_roundw
          case rel =>
            first
            | exact ⟨q + 1, A9, m9, c9, _, by omega, by go_num, rfl, HO7.out, HM7.out, HE7.out⟩
            | (repeat apply Exists.intro
               refine ⟨?rl, ?fr⟩
               case fr => exact rfl
               case rl => exact ⟨q + 1, A9, m9, c9, _, by omega, by go_num, rfl, HO7.out, HM7.out, HE7.out⟩)
          case measure => simp [intOf]; omega
    · have hi1 : ¬ (q : Int) < (m : Int) := by omega
      go_wp2
      go_ret
      have hq30 : mQ ≤ 10000 := by have := HM.out; omega
      exact ⟨AQ, mQ, cQ, rfl, ⟨lq, HO.out.mono hE0.size_le⟩, hq30, hE0.trans HE.out⟩
set_option maxHeartbeats 1600000 in
theorem rseal_any {A : Option Addr} {m c : Nat} {old new : Int} {os ns : ByteArray} {L : List GOp} (hs : SlC gopC 4 w A m L) (hG : ∀ x ∈ L, gopG w x ∧ x.h.m ≤ 100) (hm : m ≤ 30) (hos : os.size ≤ 100) (hns : ns.size ≤ 100) (ho : I64 old) (hn : I64 new) :
    Calls Tryz.prog 6 #[.agg #[.int .i64 old, .int .i64 new, .string os, .string ns, .slice A m c]] w fun e w' => ∃ A' m' c' l, e = .returned (.slice A' m' c') ∧ OsB w' w.heap.size A' m' c' l ∧ m' ≤ 11000 ∧ Ext w w' := by
  have hE0 : Ext w (w.alloc (Obj.cells #[.int .i64 old, .int .i64 new, .string os, .string ns, .slice A m c] 25)) := (Ext.refl w).alloc _
  go_enter Tryz.func6, Tryz.ntmps6
  go_wp2_with (first
    | (go_at_call 14; refine Hid.out ?_))
  refine Hid.mk_ ((rpack_any (hs.ext hE0) (fun x hx => ⟨⟨(hG x hx).1.1, (hG x hx).1.2.1, (hG x hx).1.2.2.1.imp fun _ h => h.ext hE0, (hG x hx).1.2.2.2⟩, (hG x hx).2⟩) hm hos hns ho hn).mono ?_)
  rintro e w1 ⟨A1, m1, c1, l1, rfl, ho1, hm1, hE1⟩
  go_wp2_with (first
    | (go_at_call 7; refine Hid.out ?_))
  refine Hid.mk_ ((refSeal_key c1 ho1.sl (by omega)).mono ?_)
  rintro e w2 ⟨A2, m2, c2, rfl, ho2, hE2⟩
  have hm2 : m2 ≤ 11000 := by have h1 := ho2.len; rw [sealL_len] at h1; have h2 := ho1.len; omega
  have hE02 := (hE0.trans hE1).trans hE2
  have HO2 := Lib.hid (ho2.mono (hE0.trans hE1).size_le)
  clear ho1 ho2
  go_wp2
  go_ret
  exact ⟨A2, m2, c2, _, rfl, HO2.out, hm2, hE02⟩
set_option maxHeartbeats 3200000 in
theorem rsizes_any {B : Option Addr} {k : Nat} (d : Nat) {p : List UInt8} (hp : SlB w B k p) (hkd : k ≤ d) (hk : k ≤ 1000000) :
    Calls Tryz.prog 11 #[.slice B k d] w fun e w' => (∃ (o n : Int) (code : Nat), e = .returned (.tuple #[.int .i64 o, .int .i64 n, .int .i64 (code : Int)]) ∧ SzR p o n code) ∧ Ext w w' := by
  go_enter Tryz.func11, Tryz.ntmps11
  go_wp2_with (first
    | (go_at_call 19; refine Hid.out ?_))
  refine Hid.mk_ ((rread_any d hp hkd hk).mono ?_)
  rintro e w1 ⟨⟨cells, code, rfl, hO⟩, hE1⟩
  rcases hO with ⟨h0, rfl, rfl⟩ | ⟨h0, ⟨hd, rfl, rfl⟩ | ⟨dd, a, b, Ad, md, cd, L, hd, hLm, rfl, hs, hw, hc, rfl⟩⟩
  · obtain ⟨oc, hoc⟩ : ∃ oc, oc = (openR pkey p).2 := ⟨_, rfl⟩
    rw [← hoc] at h0
    have HR : Hid (SzR p 0 0 oc) := .inl ⟨by rw [← hoc]; exact h0, rfl, rfl, hoc⟩
    rw [← hoc]
    unfold zeroRC
    clear hoc h0
    go_wp2_with fail
    go_quiet (fail)
    go_wp2
    refine bodyPost_ret (results_tmp3 rfl _ _ _) rfl ?_
    exact ⟨⟨0, 0, oc, rfl, HR.out⟩, (hE1.alloc _).drewN _⟩
  · have HR : Hid (SzR p 0 0 4) := .inr ⟨h0, none, hd, rfl, rfl, rfl⟩
    unfold zeroRC
    clear hd h0
    go_wp2_with fail
    go_quiet (fail)
    go_wp2
    refine bodyPost_ret (results_tmp3 rfl _ _ _) rfl ?_
    exact ⟨⟨0, 0, 4, rfl, HR.out⟩, (hE1.alloc _).drewN _⟩
  · obtain ⟨old, os, new, ns, ops⟩ := dd
    have HR : Hid (SzR p old new 0) := .inr ⟨h0, _, hd, rfl, rfl, rfl⟩
    clear hd h0 hs hw hLm
    go_wp2_with fail
    go_quiet (fail)
    go_wp2
    refine bodyPost_ret (results_tmp3 rfl _ _ _) rfl ?_
    exact ⟨⟨old, new, 0, rfl, HR.out⟩, (hE1.alloc _).drewN _⟩
end
end Go.Proofs.YtghndnacmpckbaaGreatDoor
