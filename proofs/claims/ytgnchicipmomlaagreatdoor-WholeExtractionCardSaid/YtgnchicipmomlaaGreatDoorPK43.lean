/- Update: what the program computes, walked. -/
import Derived.Test.YtgnchicipmomlaaGreatDoorPK42
namespace Go.Proofs.YtgnchicipmomlaaGreatDoor
open Go.RowKit
set_option maxRecDepth 100000
attribute [local go_sem] ext_refl_t ext_alloc_t ext_drew_t ext_drewN_t ext_alloc2_t ext_alloc3_t ext_alloc4_t ext_alloc5_t ext_alloc6_t ext_alloc7_t ext_alloc8_t ext_alloc1d_t ext_alloc2d_t ext_alloc3d_t ext_alloc4d_t
theorem UpdR_ext {w wr : World} {g4 g5 : Nat} {tag : ByteArray} {hc hd he : SlH} {R : Nat → SlH} (hE : Ext w wr) (h4 : w.heap.size ≤ g4) (h5 : w.heap.size ≤ g5) : Ext w (repR (catR wr g4 tag hc hd he) g5 R) :=
  Below.trans hE (((KpS.catR wr g4 tag hc hd he).mono (S' := fun g => g = g4 ∨ g = g5) fun _ _ e => .inl e).trans (KpS.repR _ g5 R) (fun _ _ e => .inr e) |>.toBelow hE.size_le fun j e => by rcases e with e | e <;> omega)
theorem UpdR.zeros {w wr : World} {g4 g5 : Nat} {x : Cat} {ps : List Ep} {k : Int} {t1 t2 t3 t4 r0 r1 r2 r3 r4 r5 r6 : Value} (h4 : Blk wr g4 32 #[t1, t2, t3, t4]) (h5 : Blk wr g5 34 #[r0, r1, r2, r3, r4, r5, r6]) (hne : g4 ≠ g5) (h4g : w.heap.size ≤ g4) (h5g : w.heap.size ≤ g5)
    (h : updP x.p ps = (cp0, rep0, k)) (hE : Ext w wr) :
    Blk (repR (catR wr g4 ⟨#[]⟩ nilH nilH nilH) g5 R0) g4 32 (catA ⟨#[]⟩ nilH nilH nilH) ∧ Blk (repR (catR wr g4 ⟨#[]⟩ nilH nilH nilH) g5 R0) g5 34 (repA R0) ∧
    UpdR w (repR (catR wr g4 ⟨#[]⟩ nilH nilH nilH) g5 R0) x ps (.returned (.tuple #[.agg (catA ⟨#[]⟩ nilH nilH nilH), .agg (repA R0), .int .i64 k])) :=
  ⟨(KpS.repR (catR wr g4 ⟨#[]⟩ nilH nilH nilH) g5 R0).blk (h4.catR ⟨#[]⟩ nilH nilH nilH) hne, ((KpS.catR wr g4 ⟨#[]⟩ nilH nilH nilH).blk h5 (fun e => hne e.symm)).repR R0, UpdR.bad h (UpdR_ext hE h4g h5g)⟩
theorem rest_le {tk : List ByteArray} {es : List Ep} {r : Rep} {n m2 : Nat} {L2 : List Ent} (h1 : m2 = L2.length) (h2 : L2.map Ent.p = (restN tk es r n).es) (hn : n ≤ es.length) : m2 ≤ n := by
  have h3 := restN_es tk es r n hn
  have h4 := congrArg List.length h2
  rw [List.length_map] at h4
  omega
theorem UpdR.good {w W3 wo wr : World} {g4 g5 gC U : Nat} {x : Cat} {ps : List Ep} {R : Nat → SlH} {bi ni bt nt : Nat} {F : ByteArray → Option Nat} {es : List Ep} {rp : Rep} {tk : List ByteArray} {kc kd : SlH} {A : Option Addr} {m cc : Nat} {L : List Ent} {cs4 cs5 : Array Value}
    (hI : UpI wo wr W3.heap.size gC U x R bi ni bt nt F ⟨es, rp, tk⟩ x.tag kc kd A m cc L) (hW : CatW wr ⟨x.tag, x.com, x.fd, L, kc, kd, ⟨A, m, cc⟩⟩) (h4 : Blk wr g4 32 cs4) (h5 : Blk wr g5 34 cs5) (hne : g4 ≠ g5) (g4w : w.heap.size ≤ g4) (g5w : w.heap.size ≤ g5) (h43 : g4 < W3.heap.size) (h53 : g5 < W3.heap.size)
    (hsz : W3.heap.size ≤ wo.heap.size) (nc : ∀ k, ob kc.A = some k → W3.heap.size ≤ k) (nd : ∀ k, ob kd.A = some k → W3.heap.size ≤ k) (hE : Ext w wr) (hU : updP x.p ps = (x.p.w es, rp, 0)) :
    Blk (wr.setRow g4 (catA x.tag kc kd ⟨A, m, cc⟩)) g4 32 (catA x.tag kc kd ⟨A, m, cc⟩) ∧ Blk ((wr.setRow g4 (catA x.tag kc kd ⟨A, m, cc⟩)).setRow g5 (repA R)) g4 32 (catA x.tag kc kd ⟨A, m, cc⟩) ∧ Blk ((wr.setRow g4 (catA x.tag kc kd ⟨A, m, cc⟩)).setRow g5 (repA R)) g5 34 (repA R) ∧
    Blk (wr.setRow g4 (catA x.tag kc kd ⟨A, m, cc⟩)) g5 34 cs5 ∧ KpS (fun g => g = g4 ∨ g = g5) wr (wr.setRow g4 (catA x.tag kc kd ⟨A, m, cc⟩)) ∧ KpS (fun g => g = g4 ∨ g = g5) wr ((wr.setRow g4 (catA x.tag kc kd ⟨A, m, cc⟩)).setRow g5 (repA R)) ∧
    UpdR w ((wr.setRow g4 (catA x.tag kc kd ⟨A, m, cc⟩)).setRow g5 (repA R)) x ps (.returned (.tuple #[.agg (catA x.tag kc kd ⟨A, m, cc⟩), .agg (repA R), .int .i64 0])) := by
  have hk4 : KpS (fun k => k = g4) wr (wr.setRow g4 (catA x.tag kc kd ⟨A, m, cc⟩)) := (KpS.grown (grown_setRow _ _ _)).mono fun k _ e => (Option.some.inj e).symm
  have hk5 : KpS (fun k => k = g5) (wr.setRow g4 (catA x.tag kc kd ⟨A, m, cc⟩)) ((wr.setRow g4 (catA x.tag kc kd ⟨A, m, cc⟩)).setRow g5 (repA R)) := (KpS.grown (grown_setRow _ _ _)).mono fun k _ e => (Option.some.inj e).symm
  have hk4' : KpS (fun g => g = g4 ∨ g = g5) wr (wr.setRow g4 (catA x.tag kc kd ⟨A, m, cc⟩)) := hk4.mono fun _ _ e => .inl e
  have hk : KpS (fun g => g = g4 ∨ g = g5) wr ((wr.setRow g4 (catA x.tag kc kd ⟨A, m, cc⟩)).setRow g5 (repA R)) := hk4'.trans hk5 fun _ _ e => .inr e
  have b4 : Blk (wr.setRow g4 (catA x.tag kc kd ⟨A, m, cc⟩)) g4 32 (catA x.tag kc kd ⟨A, m, cc⟩) := setRow_heap _ _ _ _ _ _ h4
  have b5 := hk4.blk h5 (fun e => hne e.symm)
  have hlt : ∀ g, g = g4 ∨ g = g5 → g < W3.heap.size := fun g e => by rcases e with e | e <;> omega
  refine ⟨b4, hk5.blk b4 hne, setRow_heap _ _ _ _ _ _ b5, b5, hk4', hk, ⟨x.tag, x.com, x.fd, L, kc, kd, ⟨A, m, cc⟩⟩, R, rp, 0, rfl, ?_, ⟨hW.tag, HW.kp hk hW.c (ApS.of_ge nc hlt), HW.kp hk hW.d (ApS.of_ge nd hlt), ⟨hk.slc hW.e.sl (.inr fun g hg e => ?_), hW.e.cap, hW.e.bd, fun z hz => EntW.kp hk (hW.e.good z hz) (EntS.of_ent fun g hg => hI.old z hz g (hlt g hg))⟩⟩, fun i hi => ?_, Below.trans hE (hk.toBelow hE.size_le fun j e => by rcases e with e | e <;> omega)⟩
  · rw [hU]
    exact congrArg (fun l => ((⟨x.tag, x.com, x.fd, l⟩ : Cp), rp, (0 : Int))) hI.es
  · have h1 := hI.out.row.ge g hg
    have h2 := hlt g e
    omega
  · have h1 := hk.osc (hI.upd.rows i hi) fun g hg e => by
      have h2 := hI.upd.ge (.inr (.inr (.inr ⟨i, hi, hg⟩)))
      have h3 := hlt g e
      omega
    exact ⟨h1.sl, h1.cap⟩
/-- The catalog that Update makes, in a block. -/
structure OutC (w8 wx : World) (g : Nat) (tag : ByteArray) (com : List ByteArray) (fd : List Fd) (kc kd : SlH) : Prop where
  blk : Blk wx g 32 (catA tag kc kd nilH)
  c : StrsW wx kc com
  d : FdsW wx kd fd
  ge : w8.heap.size ≤ g
  nc : ∀ k, ob kc.A = some k → w8.heap.size ≤ k
  nd : ∀ k, ob kd.A = some k → w8.heap.size ≤ k
  ac : Apart (some g) kc
  ad : Apart (some g) kd
  ext : Ext w8 wx
theorem out_cut {w8 w5 w6 wz : World} {g : Nat} {com : List ByteArray} {fd : List Fd} {h5 h6 : SlH} (tag : ByteArray) (hE5 : Ext w8 w5) (hE56 : Ext w5 w6) (hE6z : Ext w6 wz) (hb : Blk wz g 32 #[.string ⟨#[]⟩, .slice none 0 0, .slice none 0 0, .slice none 0 0])
    (k5 : StrsW w5 h5 com) (n5 : ∀ k, ob h5.A = some k → w8.heap.size ≤ k) (k6 : FdsW w6 h6 fd) (n6 : ∀ k, ob h6.A = some k → w8.heap.size ≤ k) (a5 : Apart (some g) h5) (a6 : Apart (some g) h6) (hg : w8.heap.size ≤ g) :
    OutC w8 (wz.setRow g (catA tag h5 h6 nilH)) g tag com fd h5 h6 := by
  have hk : KpS (fun k => k = g) wz (wz.setRow g (catA tag h5 h6 nilH)) := (KpS.grown (grown_setRow _ _ _)).mono fun k _ e => (Option.some.inj e).symm
  have hEz := (hE5.trans hE56).trans hE6z
  exact ⟨setRow_heap _ _ _ _ _ _ hb, HW.kp hk (k5.ext (hE56.trans hE6z)) (ApS.of_apart fun g' e => by rw [e]; exact a5), HW.kp hk (k6.ext hE6z) (ApS.of_apart fun g' e => by rw [e]; exact a6), hg, n5, n6, a5, a6, Below.trans hEz (hk.toBelow hEz.size_le fun j e => by rw [e]; exact hg)⟩
theorem proper_parts {c : Cp} {xs : List Ep} (h : properP c xs = true) : validC c = true ∧ validC ⟨c.tag, [], [], xs⟩ = true := by
  unfold properP at h
  rw [Bool.and_eq_true, Bool.and_eq_true] at h
  exact h.2
theorem valid_len {c : Cp} (h : validC c = true) : c.es.length ≤ 1000 := (validC_parts.1 h).2.1
theorem valid_fd {c : Cp} (h : validC c = true) (y : Ep) (hy : y ∈ c.es) : y.fd.length ≤ 20 := by
  obtain ⟨_, _, h3⟩ := validC_parts.1 h
  have h4 := (esOk_iff.1 h3).1 y hy
  unfold validE at h4
  rw [Bool.and_eq_true] at h4
  have h5 := h4.2
  unfold fieldsP at h5
  rw [Bool.and_eq_true] at h5
  exact of_decide_eq_true h5.2
theorem proper_fd {c : Cp} {xs : List Ep} (h : properP c xs = true) (y : Ep) (hy : y ∈ c.es) : y.fd.length ≤ 20 := valid_fd (proper_parts h).1 y hy
theorem proper_fs {c : Cp} {xs : List Ep} (h : properP c xs = true) (y : Ep) (hy : y ∈ xs) : y.fd.length ≤ 20 := valid_fd (proper_parts h).2 y hy
theorem proper_lc {c : Cp} {xs : List Ep} (h : properP c xs = true) : c.es.length ≤ 1000 := valid_len (proper_parts h).1
theorem proper_ls {c : Cp} {xs : List Ep} (h : properP c xs = true) : xs.length ≤ 1000 := valid_len (proper_parts h).2
theorem proper_nd {c : Cp} {xs : List Ep} (h : properP c xs = true) : (c.es.map Ep.id).Nodup := (esOk_iff.1 (validC_parts.1 (proper_parts h).1).2.2).2
set_option maxHeartbeats 25600000 in
theorem update_any {w : World} {x : Cat} (hx : CatW w x) {h : SlH} {es : List Ent} (hs : EntsW w h es) (hT : Tabs w) (hcs : ∀ y ∈ x.es, y.p.src.size ≤ 1000000) (hss : ∀ y ∈ es, y.p.src.size ≤ 1000000) :
    Calls Tryz.prog 4 #[catV x, .slice h.A h.m h.c] w fun e w' => UpdR w w' x (es.map Ent.p) e := by
  obtain ⟨tag, com, fd, ces, hc, hd, he⟩ := x
  have HX := Lib.hid hx
  have HS := Lib.hid hs
  have HTT := Lib.hid hT
  have HCS := Lib.hid hcs
  have HSS := Lib.hid hss
  have hle := hs.sl.le
  have hle2 := hx.e.sl.le
  have HL := Lib.hid hs.sl.len
  have HL2 := Lib.hid hx.e.sl.len
  dsimp only at hle2 HL2
  unfold catV
  dsimp only
  clear hx hs hT hcs hss
  obtain ⟨wa, hwa⟩ : ∃ wa, wa = w.alloc (Obj.cells #[.string tag, .slice hc.A hc.m hc.c, .slice hd.A hd.m hd.c, .slice he.A he.m he.c] 32) := ⟨_, rfl⟩
  obtain ⟨wb, hwb⟩ : ∃ wb, wb = wa.alloc (Obj.cells #[.string ⟨#[]⟩, .slice none 0 0, .slice none 0 0, .slice none 0 0] 32) := ⟨_, rfl⟩
  obtain ⟨W3, hW3⟩ : ∃ W3, W3 = wb.alloc (Obj.cells #[.slice none 0 0, .slice none 0 0, .slice none 0 0, .slice none 0 0, .slice none 0 0, .slice none 0 0, .slice none 0 0] 34) := ⟨_, rfl⟩
  have sa : wa.heap.size = w.heap.size + 1 := by rw [hwa]; simp
  have sb : wb.heap.size = w.heap.size + 1 + 1 := by rw [hwb, ← sa]; simp
  have hE3 : Ext w W3 := by rw [hW3, hwb, hwa]; exact (((Ext.refl w).alloc _).alloc _).alloc _
  have hb2 := Blk.new w 32 #[.string tag, .slice hc.A hc.m hc.c, .slice hd.A hd.m hd.c, .slice he.A he.m he.c]
  have hb4 := Blk.new wa 32 #[.string ⟨#[]⟩, .slice none 0 0, .slice none 0 0, .slice none 0 0]
  have hb5 := Blk.new wb 34 #[.slice none 0 0, .slice none 0 0, .slice none 0 0, .slice none 0 0, .slice none 0 0, .slice none 0 0, .slice none 0 0]
  rw [← hwa] at hb2
  rw [← hwb, sa] at hb4
  rw [← hW3, sb] at hb5
  have hb4' : Blk W3 (w.heap.size + 1) 32 #[.string ⟨#[]⟩, .slice none 0 0, .slice none 0 0, .slice none 0 0] := by rw [hW3]; exact hb4.alloc _
  have hb2' : Blk W3 w.heap.size 32 #[.string tag, .slice hc.A hc.m hc.c, .slice hd.A hd.m hd.c, .slice he.A he.m he.c] := by rw [hW3, hwb]; exact (hb2.alloc _).alloc _
  obtain ⟨g2, hg2⟩ : ∃ g2, g2 = w.heap.size := ⟨_, rfl⟩
  obtain ⟨g4, hg4⟩ : ∃ g4, g4 = w.heap.size + 1 := ⟨_, rfl⟩
  obtain ⟨g5, hg5⟩ : ∃ g5, g5 = w.heap.size + 1 + 1 := ⟨_, rfl⟩
  rw [← hg5] at hb5
  rw [← hg4] at hb4'
  rw [← hg2] at hb2'
  have HB2 := Lib.hid hb2'
  have HB4 := Lib.hid hb4'
  have HB5 := Lib.hid hb5
  have HG45 : Hid (w.heap.size ≤ g4 ∧ w.heap.size ≤ g5) := ⟨by omega, by omega⟩
  have HNE : Hid (g4 ≠ g5) := by show _ ≠ _; omega
  have X0 := laters (show _ = some (.string tag) from hb2'.cell 0)
  have X1 := laters (show _ = some (.slice hc.A hc.m hc.c) from hb2'.cell 1)
  have X2 := laters (show _ = some (.slice hd.A hd.m hd.c) from hb2'.cell 2)
  have X3 := laters (show _ = some (.slice he.A he.m he.c) from hb2'.cell 3)
  clear hb2 hb4 hb5 hb4' hb2' sa sb
  go_enter Tryz.func4, Tryz.ntmps4
  go_upto_region 1 with fail
  rw [← hwa, ← hwb, ← hW3, ← hg5, ← hg4, ← hg2]
  clear hwa hwb hW3 hg2 hg4 hg5
  have HE3 := Lib.hid hE3
  have hE33 := Ext.refl W3
  have hp := proper_any (HX.out.ext hE3) (EntsW.ext HS.out hE3) (HTT.out.ext hE3)
  unfold catV at hp
  dsimp only at hp
  go_wp2_with (first
    | (go_at_call 11; refine Hid.out ?_))
  refine Hid.mk_ ((hp).mono ?_)
  rintro e w4 ⟨rfl, hE4⟩
  clear hp
  have HE4 := Lib.hid hE4
  have HB4R := Lib.hid (HB4.out.below hE4 HB4.out.lt)
  have HB5R := Lib.hid (HB5.out.below hE4 HB5.out.lt)
  have HE0R := Lib.hid (hE3.trans hE4)
  cases hpp : properP (Cat.p ⟨tag, com, fd, ces, hc, hd, he⟩) (es.map Ent.p) with
  | false =>
    have HBAD : Hid (updP (Cat.p ⟨tag, com, fd, ces, hc, hd, he⟩) (es.map Ent.p) = (cp0, rep0, 1)) := by show _ = _; unfold updP; rw [hpp]; rfl
    clear hpp
    have n0 : (w4).cell? ⟨g4, 0, none⟩ = some (.string ⟨#[]⟩) := (HB4R.out).cell 0
    have n1 : (w4).cell? ⟨g4, 1, none⟩ = some (.slice none 0 0) := (HB4R.out).cell 1
    have n2 : (w4).cell? ⟨g4, 2, none⟩ = some (.slice none 0 0) := (HB4R.out).cell 2
    have n3 : (w4).cell? ⟨g4, 3, none⟩ = some (.slice none 0 0) := (HB4R.out).cell 3
    have f0 := (HB4R.out).frozen 0
    have f1 := (HB4R.out).frozen 1
    have f2 := (HB4R.out).frozen 2
    have f3 := (HB4R.out).frozen 3
    have p0 : (w4).cell? ⟨g5, 0, none⟩ = some (.slice none 0 0) := (HB5R.out).cell 0
    have p1 : (w4).cell? ⟨g5, 1, none⟩ = some (.slice none 0 0) := (HB5R.out).cell 1
    have p2 : (w4).cell? ⟨g5, 2, none⟩ = some (.slice none 0 0) := (HB5R.out).cell 2
    have p3 : (w4).cell? ⟨g5, 3, none⟩ = some (.slice none 0 0) := (HB5R.out).cell 3
    have p4 : (w4).cell? ⟨g5, 4, none⟩ = some (.slice none 0 0) := (HB5R.out).cell 4
    have p5 : (w4).cell? ⟨g5, 5, none⟩ = some (.slice none 0 0) := (HB5R.out).cell 5
    have p6 : (w4).cell? ⟨g5, 6, none⟩ = some (.slice none 0 0) := (HB5R.out).cell 6
    have o0 := (HB5R.out).frozen 0
    have o1 := (HB5R.out).frozen 1
    have o2 := (HB5R.out).frozen 2
    have o3 := (HB5R.out).frozen 3
    have o4 := (HB5R.out).frozen 4
    have o5 := (HB5R.out).frozen 5
    have o6 := (HB5R.out).frozen 6
    have hne1 : ¬ g4 = g5 := HNE.out
    have hne2 : ¬ g5 = g4 := fun e => HNE.out e.symm
    go_wp2
    have HZ := Lib.hid (UpdR.zeros (k := 1) HB4R.out HB5R.out HNE.out HG45.out.1 HG45.out.2 HBAD.out HE0R.out)
    change bodyPost _ _ _ _ _ (repR (catR w4 g4 ⟨#[]⟩ nilH nilH nilH) g5 R0)
    generalize repR (catR w4 g4 ⟨#[]⟩ nilH nilH nilH) g5 R0 = wF at HZ ⊢
    obtain ⟨z4, z5, hz⟩ := HZ.out
    refine bodyPost_ret (results_rows2 rfl _ _ g4 g5 32 34 _ _ (0, 0) (0, 0) _ _ rfl z4 Tryz.underlying32 rfl info_cat4 rfl z5 Tryz.underlying34 rfl info_rep7) rfl ?_
    go_simp
  | true =>
  have HP := Lib.hid hpp
  have HFD : Hid (∀ y ∈ ces, y.p.fd.length ≤ 20) := by
    show ∀ y ∈ ces, _
    intro y hy
    exact proper_fd HP.out y.p (List.mem_map_of_mem hy)
  have HFS : Hid (∀ y ∈ es, y.p.fd.length ≤ 20) := by
    show ∀ y ∈ es, _
    intro y hy
    exact proper_fs HP.out y.p (List.mem_map_of_mem hy)
  have hm1 : he.m ≤ 1000 := by have h1 := proper_lc HP.out; have h2 := HL2.out; rw [show (Cat.p ⟨tag, com, fd, ces, hc, hd, he⟩).es = ces.map Ent.p from rfl, List.length_map] at h1; omega
  have hm2 : h.m ≤ 1000 := by have h1 := proper_ls HP.out; have h2 := HL.out; rw [List.length_map] at h1; omega
  have HND : Hid ((ces.map Ent.p).map Ep.id).Nodup := proper_nd HP.out
  clear hpp
  have hmm := @run_makeMap Tryz.prog
  obtain ⟨wi, hwi⟩ : ∃ wi, wi = w4.alloc (.map #[] 0) := ⟨_, rfl⟩
  obtain ⟨wt, hwt⟩ : ∃ wt, wt = wi.alloc (.map #[] 0) := ⟨_, rfl⟩
  obtain ⟨bi, hbi⟩ : ∃ bi, bi = w4.heap.size := ⟨_, rfl⟩
  obtain ⟨bt, hbt⟩ : ∃ bt, bt = w4.heap.size + 1 := ⟨_, rfl⟩
  obtain ⟨U, hU⟩ : ∃ U, U = w4.heap.size + 1 + 1 := ⟨_, rfl⟩
  obtain ⟨W6, hW6⟩ : ∃ W6, W6 = wt.alloc (Obj.cells #[.string tag, .slice hc.A hc.m hc.c, .slice hd.A hd.m hd.c, .slice he.A he.m he.c, .slice none 0 0, .slice none 0 0, .slice none 0 0, .slice none 0 0, .slice none 0 0, .slice none 0 0, .slice none 0 0, .map (some bi), .map (some bt)] 52) := ⟨_, rfl⟩
  have si : wi.heap.size = w4.heap.size + 1 := by rw [hwi]; simp
  have st : wt.heap.size = w4.heap.size + 1 + 1 := by rw [hwt, ← si]; simp
  have him : IM W6 bi 0 fun _ => none := by
    rw [hW6, hwt, hwi, hbi]
    exact (IM.made w4).ext (((Ext.refl _).alloc _).alloc _)
  have hsm : SM W6 bt 0 [] := by
    have h1 := SM.made wi
    rw [si, ← hbt, ← hwt] at h1
    rw [hW6]
    exact h1.ext ((Ext.refl _).alloc _)
  have hbU : Blk W6 U 52 (updA ⟨tag, com, fd, ces, hc, hd, he⟩ R0 bi bt) := by
    have h1 := Blk.new wt 52 #[.string tag, .slice hc.A hc.m hc.c, .slice hd.A hd.m hd.c, .slice he.A he.m he.c, .slice none 0 0, .slice none 0 0, .slice none 0 0, .slice none 0 0, .slice none 0 0, .slice none 0 0, .slice none 0 0, .map (some bi), .map (some bt)]
    rw [← hW6, st, ← hU] at h1
    exact h1
  have hsz4 := hE4.size_le
  have HU6 : Hid (UpS W6 W3.heap.size U ⟨tag, com, fd, ces, hc, hd, he⟩ R0 bi 0 bt 0 (fun _ => none) rep0 []) := UpS.start hbU him hsm (by omega) (by omega) (by omega) (by omega)
  have HE46 : Hid (Ext w4 W6) := by show Ext _ _; rw [hW6, hwt, hwi]; exact (((Ext.refl w4).alloc _).alloc _).alloc _
  clear him hsm hbU si st hsz4
  go_upto_region 4 with fail
  rw [← hU, ← hbt, ← hbi, ← hwi, ← hwt, ← hW6]
  have HG6 : Hid (W3.heap.size ≤ bi ∧ W3.heap.size ≤ bt ∧ W3.heap.size ≤ U) := by have := hE4.size_le; exact ⟨by omega, by omega, by omega⟩
  have HE6 := Lib.hid (hE4.trans HE46.out)
  have hE6 := HE6.out
  have hE66 := Ext.refl W6
  clear hwi hwt hbi hbt hU hW6 hmm hE4 hE3 hE33 HE4 HE46 HB4R HB5R
  go_wp2
  clear hE6 hE66
  go_loopw [31] (fun v wr => ∃ q : Nat, q ≤ he.m ∧ v = .int .i64 q ∧ Hid (UpS wr W3.heap.size U ⟨tag, com, fd, ces, hc, hd, he⟩ R0 bi q bt 0 (idxF (ces.map Ent.p) q) rep0 []) ∧ Hid (KpS (fun g => g = U ∨ g = bi ∨ g = bt) W6 wr)) (fun v _ => he.m - (intOf v).toNat)
  case atStart => exact ⟨0, Nat.zero_le _, rfl, HU6.out, KpS.refl _ _⟩
  case round =>
    obtain ⟨q, hq, rfl, HU, HK⟩ := hrel
    have hE0 : Ext W3 wr := Below.trans HE6.out (HK.out.toBelow HE6.out.size_le fun g hg => by have h6 := HG6.out; rcases hg with e | e | e <;> omega)
    by_cases hlt : q < he.m
    · have hskip : True := trivial
      --S[ l1
      obtain ⟨b, off, eA, _, hcs⟩ := ((HX.out.ext (HE3.out.trans hE0)).e).sl.at_ hlt (by omega)
      have hlt1 : q < (ces).length := by rw [← (HL2).out]; exact hlt
      obtain ⟨y, hyq⟩ : ∃ y, y = (ces)[q] := ⟨_, rfl⟩
      have y0 := hcs q hlt1 0 (by omega)
      have y1 := hcs q hlt1 1 (by omega)
      have y2 := hcs q hlt1 2 (by omega)
      have y3 := hcs q hlt1 3 (by omega)
      have y4 := hcs q hlt1 4 (by omega)
      have y5 := hcs q hlt1 5 (by omega)
      have y6 := hcs q hlt1 6 (by omega)
      simp only [← hyq, entC, List.getElem_cons_zero, List.getElem_cons_succ, Nat.add_zero, ← Nat.add_assoc] at y0 y1 y2 y3 y4 y5 y6
      have HYM : Hid (y ∈ ces) := by show _ ∈ _; rw [hyq]; exact List.getElem_mem hlt1
      have HYW : Hid (EntW wr y) := ((HX.out.ext (HE3.out.trans hE0)).e).good y HYM.out
      have HYQ : Hid ((ces)[q]? = some y) := by show _ = _; rw [List.getElem?_eq_getElem hlt1, hyq]
      have hi1 : (q : Int) < ((he).m : Int) := by omega
      have hq4 : q ≤ 1000 := by omega
      clear hcs hyq
      obtain ⟨⟨yid, ysrc, ytgt, ycom, yfl, yst, yfd⟩, yhc, yhf, yhd⟩ := y
      dsimp only at y0 y1 y2 y3 y4 y5 y6
      have hbY := Blk.new wr 39 #[.string yid, .string ysrc, .string ytgt, .slice yhc.A yhc.m yhc.c, .slice yhf.A yhf.m yhf.c, .int .i64 yst, .slice yhd.A yhd.m yhd.c]
      obtain ⟨W1, hW1⟩ : ∃ W1, W1 = wr.alloc (Obj.cells #[.string yid, .string ysrc, .string ytgt, .slice yhc.A yhc.m yhc.c, .slice yhf.A yhf.m yhf.c, .int .i64 yst, .slice yhd.A yhd.m yhd.c] 39) := ⟨_, rfl⟩
      rw [← hW1] at hbY
      have hE1 : Ext wr W1 := by rw [hW1]; exact (Ext.refl _).alloc _
      obtain ⟨g9, hg9⟩ : ∃ g9, g9 = wr.heap.size := ⟨_, rfl⟩
      rw [← hg9] at hbY
      have hid9 : yid.size ≤ maxLen := by have h1 := HYW.out.id; unfold GoodStr at h1; unfold maxLen; dsimp only at h1; omega
      rw [eA]
      go_upto_region 7 with fail
      rw [← hW1, ← hg9]
      have hU8 := HU.out.ext (hE1.trans (Ext.refl W1).drew)
      obtain ⟨w9, hrun, him9, hg99⟩ := hU8.im.store (by unfold maxLen; omega) yid hid9 q (by omega)
      obtain ⟨hU9, hk9⟩ := hU8.index him9 hg99
      have HK9 : Hid (KpS (fun g => g = U ∨ g = bi ∨ g = bt) W6 w9) := ((HK.out.ext hE1).ext (Ext.refl W1).drew).trans (hk9.mono fun g _ e => UpB_R0 e) fun _ _ e => e
      have hq9 : q < (ces.map Ent.p).length := by rw [List.length_map]; exact hlt1
      have HU9 : Hid (UpS w9 W3.heap.size U ⟨tag, com, fd, ces, hc, hd, he⟩ R0 bi (q + 1) bt 0 (idxF (ces.map Ent.p) (q + 1)) rep0 []) := by
        show UpS _ _ _ _ _ _ _ _ _ _ _ _
        rw [idxF_succ _ q hq9, List.getElem_map, List.getElem?_eq_some_iff.1 HYQ.out |>.2]
        exact hU9
      have v0 := laters (show W1.cell? ⟨g9, 0, none⟩ = some (.string yid) from hbY.cell 0)
      have vu := laters (show W1.cell? ⟨U, 11, none⟩ = some (.map (some bi)) from (HU.out.ext hE1).blk.cell 11)
      have hE11 := Ext.refl W1
      clear hW1 hg9 hbY hE1 hE0 y0 y1 y2 y3 y4 y5 y6 hid9 hU8 him9 hg99 hU9 hk9 hq9
      go_region_law (go_simp)
      all_goals
        clear v0 vu hE11 hrun
        go_wp2
        go_roundw
        case rel => exact ⟨q + 1, by omega, by go_num, HU9.out, HK9.out⟩
        case measure => simp [intOf]; omega
      --S]
    · have hi1 : ¬ (q : Int) < (he.m : Int) := by omega
      have hqe : q = he.m := by omega
      have HU5 : Hid (UpS wr W3.heap.size U ⟨tag, com, fd, ces, hc, hd, he⟩ R0 bi he.m bt 0 (idxF (ces.map Ent.p) (ces.map Ent.p).length) rep0 []) := by
        have h1 := HU.out
        rw [hqe] at h1
        rw [List.length_map, ← HL2.out]
        exact h1
      obtain ⟨w7, rfl⟩ : ∃ w7 : World, w7 = wr := ⟨_, rfl⟩
      have HK7 := HK
      clear hqe hE0 HU HK
      go_wp2
      go_loopw [46] (fun v wr => ∃ q : Nat, q ≤ h.m ∧ v = .int .i64 q ∧ Hid (UpS wr W3.heap.size U ⟨tag, com, fd, ces, hc, hd, he⟩ R0 bi he.m bt q (idxF (ces.map Ent.p) (ces.map Ent.p).length) rep0 (((es.map Ent.p).map Ep.id).take q)) ∧ Hid (KpS (fun g => g = U ∨ g = bi ∨ g = bt) W6 wr)) (fun v _ => h.m - (intOf v).toNat)
      case atStart => exact ⟨0, Nat.zero_le _, rfl, HU5.out, HK7.out⟩
      case round =>
        obtain ⟨q, hq, rfl, HU, HK⟩ := hrel
        have hE0 : Ext W3 wr := Below.trans HE6.out (HK.out.toBelow HE6.out.size_le fun g hg => by have h6 := HG6.out; rcases hg with e | e | e <;> omega)
        by_cases hlt : q < h.m
        · have hskip : True := trivial
          --S[ l2
          obtain ⟨b, off, eA, _, hcs⟩ := ((EntsW.ext HS.out (HE3.out.trans hE0))).sl.at_ hlt (by omega)
          have hlt1 : q < (es).length := by rw [← (HL).out]; exact hlt
          obtain ⟨y, hyq⟩ : ∃ y, y = (es)[q] := ⟨_, rfl⟩
          have y0 := hcs q hlt1 0 (by omega)
          have y1 := hcs q hlt1 1 (by omega)
          have y2 := hcs q hlt1 2 (by omega)
          have y3 := hcs q hlt1 3 (by omega)
          have y4 := hcs q hlt1 4 (by omega)
          have y5 := hcs q hlt1 5 (by omega)
          have y6 := hcs q hlt1 6 (by omega)
          simp only [← hyq, entC, List.getElem_cons_zero, List.getElem_cons_succ, Nat.add_zero, ← Nat.add_assoc] at y0 y1 y2 y3 y4 y5 y6
          have HYM : Hid (y ∈ es) := by show _ ∈ _; rw [hyq]; exact List.getElem_mem hlt1
          have HYW : Hid (EntW wr y) := ((EntsW.ext HS.out (HE3.out.trans hE0))).good y HYM.out
          have HYQ : Hid ((es)[q]? = some y) := by show _ = _; rw [List.getElem?_eq_getElem hlt1, hyq]
          have hi1 : (q : Int) < ((h).m : Int) := by omega
          have hq4 : q ≤ 1000 := by omega
          clear hcs hyq
          obtain ⟨⟨yid, ysrc, ytgt, ycom, yfl, yst, yfd⟩, yhc, yhf, yhd⟩ := y
          dsimp only at y0 y1 y2 y3 y4 y5 y6
          have hbY := Blk.new wr 39 #[.string yid, .string ysrc, .string ytgt, .slice yhc.A yhc.m yhc.c, .slice yhf.A yhf.m yhf.c, .int .i64 yst, .slice yhd.A yhd.m yhd.c]
          obtain ⟨W1, hW1⟩ : ∃ W1, W1 = wr.alloc (Obj.cells #[.string yid, .string ysrc, .string ytgt, .slice yhc.A yhc.m yhc.c, .slice yhf.A yhf.m yhf.c, .int .i64 yst, .slice yhd.A yhd.m yhd.c] 39) := ⟨_, rfl⟩
          rw [← hW1] at hbY
          have hE1 : Ext wr W1 := by rw [hW1]; exact (Ext.refl _).alloc _
          obtain ⟨g9, hg9⟩ : ∃ g9, g9 = wr.heap.size := ⟨_, rfl⟩
          rw [← hg9] at hbY
          have hid9 : yid.size ≤ maxLen := by have h1 := HYW.out.id; unfold GoodStr at h1; unfold maxLen; dsimp only at h1; omega
          rw [eA]
          go_upto_region 12 with fail
          rw [← hW1, ← hg9]
          have hU8 := HU.out.ext (hE1.trans (Ext.refl W1).drew)
          obtain ⟨w9, hrun, hsm9, hg99⟩ := hU8.sm.stores (by unfold maxLen; omega) yid hid9
          obtain ⟨hU9, hk9⟩ := hU8.take_ hsm9 hg99
          have HK9 : Hid (KpS (fun g => g = U ∨ g = bi ∨ g = bt) W6 w9) := ((HK.out.ext hE1).ext (Ext.refl W1).drew).trans (hk9.mono fun g _ e => UpB_R0 e) fun _ _ e => e
          have hq9 : q < ((es.map Ent.p).map Ep.id).length := by rw [List.length_map, List.length_map]; exact hlt1
          have HU9 : Hid (UpS w9 W3.heap.size U ⟨tag, com, fd, ces, hc, hd, he⟩ R0 bi he.m bt (q + 1) (idxF (ces.map Ent.p) (ces.map Ent.p).length) rep0 (((es.map Ent.p).map Ep.id).take (q + 1))) := by
            show UpS _ _ _ _ _ _ _ _ _ _ _ _
            rw [List.take_succ_eq_append_getElem hq9, List.getElem_map, List.getElem_map, List.getElem?_eq_some_iff.1 HYQ.out |>.2]
            exact hU9
          have v0 := laters (show W1.cell? ⟨g9, 0, none⟩ = some (.string yid) from hbY.cell 0)
          have vu := laters (show W1.cell? ⟨U, 12, none⟩ = some (.map (some bt)) from (HU.out.ext hE1).blk.cell 12)
          have hE11 := Ext.refl W1
          clear hW1 hg9 hbY hE1 hE0 y0 y1 y2 y3 y4 y5 y6 hid9 hU8 hsm9 hg99 hU9 hk9 hq9
          go_region_law (go_simp)
          all_goals
            clear v0 vu hE11 hrun
            go_wp2
            go_roundw
            case rel => exact ⟨q + 1, by omega, by go_num, HU9.out, HK9.out⟩
            case measure => simp [intOf]; omega
          --S]
        · have hi1 : ¬ (q : Int) < (h.m : Int) := by omega
          have hqe : q = h.m := by omega
          have HU5 : Hid (UpS wr W3.heap.size U ⟨tag, com, fd, ces, hc, hd, he⟩ R0 bi he.m bt h.m (idxF (ces.map Ent.p) (ces.map Ent.p).length) rep0 ((es.map Ent.p).map Ep.id)) := by
            have h1 := HU.out
            rw [hqe, List.take_of_length_le (by rw [List.length_map, List.length_map, HL.out]; exact Nat.le_refl _)] at h1
            exact h1
          obtain ⟨w8, rfl⟩ : ∃ w8 : World, w8 = wr := ⟨_, rfl⟩
          have HK8 := HK
          have HE8 := Lib.hid hE0
          clear hqe hE0 HU HK
          go_upto_region 14 with fail
          have HX8 := Lib.hid (HX.out.ext (HE3.out.trans HE8.out))
          have X08 := X0 w8 HE8.out
          have X18 := X1 w8 HE8.out
          have X28 := X2 w8 HE8.out
          have X0a := laters X08
          have X1a := laters X18
          have X2a := laters X28
          go_cut [12] from 57 (fun a wx => ∃ (gC : Nat) (kc kd : SlH), a = .pointer (some ⟨gC, 0, none⟩) ∧ OutC w8 wx gC tag com fd kc kd)
          case first =>
            --S[ cf
            refine wp_region_held_drew (S := fun w' => Ext w8 w') (by kernel_rfl) (Ext.refl w8).drew ?_
            intro hHeld
            refine wpAnyH_takeD (i := 0) (d := 57) (v := ?_) rfl rfl (by kernel_rfl) (by kernel_rfl) (by kernel_rfl) (fun _ _ _ h => h) (Or.inl ⟨by rfl, ?_⟩) hHeld ?_
            rotate_left
            · rintro w hS4; go_simp; try with_reducible rfl
            simp only [Act.put, List.setIfInBounds_toArray, List.set_cons_zero, List.set_cons_succ]
            refine wpAnyH_takeD (i := 1) (d := 58) (v := ?_) rfl rfl (by kernel_rfl) (by kernel_rfl) (by kernel_rfl) (fun _ _ _ h => h) (Or.inl ⟨by rfl, ?_⟩) hHeld ?_
            rotate_left
            · rintro w hS4; go_simp; try with_reducible rfl
            simp only [Act.put, List.setIfInBounds_toArray, List.set_cons_zero, List.set_cons_succ]
            refine wpAnyH_takeD (i := 2) (d := 59) (v := ?_) rfl rfl (by kernel_rfl) (by kernel_rfl) (by kernel_rfl) (fun _ _ _ h => h) (Or.inl ⟨by rfl, ?_⟩) hHeld ?_
            rotate_left
            · rintro w hS4; go_simp; try with_reducible rfl
            simp only [Act.put, List.setIfInBounds_toArray, List.set_cons_zero, List.set_cons_succ]
            refine wpAnyH_takeD (i := 3) (d := 60) (v := ?_) rfl rfl (by kernel_rfl) (by kernel_rfl) (by kernel_rfl) (fun _ _ _ h => h) (Or.inl ⟨by rfl, ?_⟩) hHeld ?_
            rotate_left
            · rintro w hS4; go_simp; try with_reducible rfl
            simp only [Act.put, List.setIfInBounds_toArray, List.set_cons_zero, List.set_cons_succ]
            refine wpAnyH_takeD (i := 5) (d := 62) (v := ?_) rfl rfl (by kernel_rfl) (by kernel_rfl) (by kernel_rfl) (fun _ _ _ h => h) (Or.inl ⟨by rfl, ?_⟩) hHeld ?_
            rotate_left
            · rintro w hS4; go_simp; try with_reducible rfl
            simp only [Act.put, List.setIfInBounds_toArray, List.set_cons_zero, List.set_cons_succ]
            refine wpAnyH_takeD (i := 6) (d := 63) (v := ?_) rfl rfl (by kernel_rfl) (by kernel_rfl) (by kernel_rfl) (fun _ _ _ h => h) (Or.inl ⟨by rfl, ?_⟩) hHeld ?_
            rotate_left
            · rintro w hS4; go_simp; try with_reducible rfl
            simp only [Act.put, List.setIfInBounds_toArray, List.set_cons_zero, List.set_cons_succ]
            have hEd : Ext w8 w8.drew := (Ext.refl w8).drew
            refine wpAnyH_ready (rs := [4, 9]) (by kernel_rfl) (by simp) ?_
            refine AllReadyH.cons rfl (fun K hK => ?_) (AllReadyH.cons rfl (fun K hK => ?_) AllReadyH.nil)
            · go_simp
              go_at_call 12
              refine (cloneS_any (HX8.out.c.ext hEd)).mono ?_
              rintro e w5 ⟨⟨a5, m5, c5⟩, rfl, k5, o5, hE5⟩
              have hE35 : Ext w8 w5 := Ext.trans hEd hE5
              refine hK.out _ _ hE35 (fun _ => ?_)
              clear hK K hHeld
              have hHeld : Ext w8 w5 := hE35
              refine wpAnyH_ready (rs := [7, 9]) (by kernel_rfl) (by simp) ?_
              refine AllReadyH.cons rfl (fun K hK => ?_) (AllReadyH.cons rfl (fun K hK => ?_) AllReadyH.nil)
              · go_simp
                go_at_call 13
                refine (cloneF_any (HX8.out.d.ext (hE35.trans (Ext.refl w5)))).mono ?_
                rintro e w6 ⟨⟨a6, m6, c6⟩, rfl, k6, o6, hE6⟩
                have hE56 : Ext w5 w6 := Ext.trans (Ext.refl w5) hE6
                have hE36 := hE35.trans hE56
                refine hK.out _ _ hE36 (fun _ => ?_)
                clear hK K hHeld
                have hHeld : Ext w8 w6 := hE36
                refine wpAnyH_takeD (i := 8) (d := 65) (v := ?_) rfl rfl (by kernel_rfl) (by kernel_rfl) (by kernel_rfl) (fun _ _ _ h => h) (Or.inl ⟨by rfl, ?_⟩) hHeld ?_
                rotate_left
                · rintro w hS4; go_simp; try with_reducible rfl
                simp only [Act.put, List.setIfInBounds_toArray, List.set_cons_zero, List.set_cons_succ]
                refine wpAnyH_ready (rs := [9]) (by kernel_rfl) (by simp) ?_
                refine AllReadyH.cons rfl (fun K hK => ?_) AllReadyH.nil
                go_simp
                refine hK.out _ _ (Ext.alloc hE36 (.cells #[.string ⟨#[]⟩, .slice none 0 0, .slice none 0 0, .slice none 0 0] 32)) (fun _ => ?_)
                clear hK K hHeld
                have hHeld : Ext w8 ((w6).alloc (.cells #[.string ⟨#[]⟩, .slice none 0 0, .slice none 0 0, .slice none 0 0] 32)) := Ext.alloc hE36 _
                have hbz : Blk ((w6.alloc (.cells #[.string ⟨#[]⟩, .slice none 0 0, .slice none 0 0, .slice none 0 0] 32))) (w6.heap.size) 32 #[.string ⟨#[]⟩, .slice none 0 0, .slice none 0 0, .slice none 0 0] := (Blk.new w6 32 _)
                have hcut := out_cut (g := w6.heap.size) (h5 := ⟨a5, m5, c5⟩) (h6 := ⟨a6, m6, c6⟩) tag hE35 hE56 ((Ext.refl w6).alloc _) hbz k5 (fun k hk => Nat.le_trans (by simp) (o5.ge k hk)) k6 (fun k hk => Nat.le_trans (Nat.le_trans hE35.size_le (by simp)) (o6.ge k hk)) (k5.lt' (Nat.le_refl _) hE56.size_le) (k6.lt fun g hg => by injection hg with hg; omega) hE36.size_le
                refine wpAnyH_storeR (i := 10) (g := w6.heap.size) (cells := catA tag ⟨a5, m5, c5⟩ ⟨a6, m6, c6⟩ nilH) (by kernel_rfl) rfl rfl rfl rfl rfl rfl hbz info_cat4 rfl (by simp [catA, Value.oneCell']) hcut.ext ?_
                have HCUT := Lib.hid hcut
                clear hcut hbz hHeld
                refine wpAnyH_done (by kernel_rfl) ?_ _
                go_wp2
                go_meet
                case rel => exact ⟨_, _, _, rfl, HCUT.out⟩
              · go_simp
                refine hK.out _ _ (Ext.alloc hE35 (.cells #[.string ⟨#[]⟩, .slice none 0 0, .slice none 0 0, .slice none 0 0] 32)) (fun _ => ?_)
                clear hK K hHeld
                have hHeld : Ext w8 ((w5).alloc (.cells #[.string ⟨#[]⟩, .slice none 0 0, .slice none 0 0, .slice none 0 0] 32)) := Ext.alloc hE35 _
                refine wpAnyH_ready (rs := [7]) (by kernel_rfl) (by simp) ?_
                refine AllReadyH.cons rfl (fun K hK => ?_) AllReadyH.nil
                go_simp
                go_at_call 13
                refine (cloneF_any (HX8.out.d.ext (hE35.trans ((Ext.refl w5).alloc _)))).mono ?_
                rintro e w6 ⟨⟨a6, m6, c6⟩, rfl, k6, o6, hE6⟩
                have hE56 : Ext w5 w6 := Ext.trans ((Ext.refl w5).alloc _) hE6
                have hE36 := hE35.trans hE56
                refine hK.out _ _ hE36 (fun _ => ?_)
                clear hK K hHeld
                have hHeld : Ext w8 w6 := hE36
                refine wpAnyH_takeD (i := 8) (d := 65) (v := ?_) rfl rfl (by kernel_rfl) (by kernel_rfl) (by kernel_rfl) (fun _ _ _ h => h) (Or.inl ⟨by rfl, ?_⟩) hHeld ?_
                rotate_left
                · rintro w hS4; go_simp; try with_reducible rfl
                simp only [Act.put, List.setIfInBounds_toArray, List.set_cons_zero, List.set_cons_succ]
                have hbz : Blk (w6) (w5.heap.size) 32 #[.string ⟨#[]⟩, .slice none 0 0, .slice none 0 0, .slice none 0 0] := ((Blk.new w5 32 _).below hE6 (by simp))
                have hcut := out_cut (g := w5.heap.size) (h5 := ⟨a5, m5, c5⟩) (h6 := ⟨a6, m6, c6⟩) tag hE35 hE56 (Ext.refl w6) hbz k5 (fun k hk => Nat.le_trans (by simp) (o5.ge k hk)) k6 (fun k hk => Nat.le_trans (Nat.le_trans hE35.size_le (by simp)) (o6.ge k hk)) (k5.lt fun g hg => by injection hg with hg; omega) (Apart.of_ge (fun k hk => o6.ge k hk) (by simp)) hE35.size_le
                refine wpAnyH_storeR (i := 10) (g := w5.heap.size) (cells := catA tag ⟨a5, m5, c5⟩ ⟨a6, m6, c6⟩ nilH) (by kernel_rfl) rfl rfl rfl rfl rfl rfl hbz info_cat4 rfl (by simp [catA, Value.oneCell']) hcut.ext ?_
                have HCUT := Lib.hid hcut
                clear hcut hbz hHeld
                refine wpAnyH_done (by kernel_rfl) ?_ _
                go_wp2
                go_meet
                case rel => exact ⟨_, _, _, rfl, HCUT.out⟩
            · go_simp
              refine hK.out _ _ (Ext.alloc hEd (.cells #[.string ⟨#[]⟩, .slice none 0 0, .slice none 0 0, .slice none 0 0] 32)) (fun _ => ?_)
              clear hK K hHeld
              have hHeld : Ext w8 ((w8.drew).alloc (.cells #[.string ⟨#[]⟩, .slice none 0 0, .slice none 0 0, .slice none 0 0] 32)) := Ext.alloc hEd _
              refine wpAnyH_ready (rs := [4]) (by kernel_rfl) (by simp) ?_
              refine AllReadyH.cons rfl (fun K hK => ?_) AllReadyH.nil
              go_simp
              go_at_call 12
              refine (cloneS_any (HX8.out.c.ext hHeld)).mono ?_
              rintro e w5 ⟨⟨a5, m5, c5⟩, rfl, k5, o5, hE5⟩
              have hE35 : Ext w8 w5 := Ext.trans hHeld hE5
              refine hK.out _ _ hE35 (fun _ => ?_)
              clear hK K hHeld
              have hHeld : Ext w8 w5 := hE35
              refine wpAnyH_ready (rs := [7]) (by kernel_rfl) (by simp) ?_
              refine AllReadyH.cons rfl (fun K hK => ?_) AllReadyH.nil
              go_simp
              go_at_call 13
              refine (cloneF_any (HX8.out.d.ext (hE35.trans (Ext.refl w5)))).mono ?_
              rintro e w6 ⟨⟨a6, m6, c6⟩, rfl, k6, o6, hE6⟩
              have hE56 : Ext w5 w6 := Ext.trans (Ext.refl w5) hE6
              have hE36 := hE35.trans hE56
              refine hK.out _ _ hE36 (fun _ => ?_)
              clear hK K hHeld
              have hHeld : Ext w8 w6 := hE36
              refine wpAnyH_takeD (i := 8) (d := 65) (v := ?_) rfl rfl (by kernel_rfl) (by kernel_rfl) (by kernel_rfl) (fun _ _ _ h => h) (Or.inl ⟨by rfl, ?_⟩) hHeld ?_
              rotate_left
              · rintro w hS4; go_simp; try with_reducible rfl
              simp only [Act.put, List.setIfInBounds_toArray, List.set_cons_zero, List.set_cons_succ]
              have hb5 := (show Blk (w8.drew.alloc (.cells #[.string ⟨#[]⟩, .slice none 0 0, .slice none 0 0, .slice none 0 0] 32)) w8.heap.size _ _ from Blk.new w8.drew _ _).below hE5 (by simp)
              have hbz : Blk (w6) (w8.heap.size) 32 #[.string ⟨#[]⟩, .slice none 0 0, .slice none 0 0, .slice none 0 0] := (hb5.below hE6 hb5.lt)
              have hcut := out_cut (g := w8.heap.size) (h5 := ⟨a5, m5, c5⟩) (h6 := ⟨a6, m6, c6⟩) tag hE35 hE56 (Ext.refl w6) hbz k5 (fun k hk => Nat.le_trans (by simp) (o5.ge k hk)) k6 (fun k hk => Nat.le_trans (Nat.le_trans hE35.size_le (by simp)) (o6.ge k hk)) (Apart.of_ge (fun k hk => o5.ge k hk) (by simp)) (Apart.of_ge (fun k hk => o6.ge k hk) hb5.lt) (Nat.le_refl _)
              refine wpAnyH_storeR (i := 10) (g := w8.heap.size) (cells := catA tag ⟨a5, m5, c5⟩ ⟨a6, m6, c6⟩ nilH) (by kernel_rfl) rfl rfl rfl rfl rfl rfl hbz info_cat4 rfl (by simp [catA, Value.oneCell']) hcut.ext ?_
              have HCUT := Lib.hid hcut
              clear hcut hbz hHeld
              refine wpAnyH_done (by kernel_rfl) ?_ _
              go_wp2
              go_meet
              case rel => exact ⟨_, _, _, rfl, HCUT.out⟩
            --S]
          obtain ⟨gC, kc, kd, rfl, hOC⟩ := hcut
          obtain ⟨wo, rfl⟩ : ∃ wo : World, wo = wc := ⟨_, rfl⟩
          have HOC := Lib.hid hOC
          clear hOC X0a X1a X2a X08 X18 X28
          have HUO := Lib.hid (HU5.out.ext HOC.out.ext)
          have HEO := Lib.hid (HE8.out.trans HOC.out.ext)
          have hEO := HEO.out
          have HGC : Hid ((gC < wo.heap.size ∧ gC ≠ U ∧ gC ≠ bi ∧ gC ≠ bt) ∧ W3.heap.size ≤ gC) := by
            have h0 := HOC.out.ge
            have h1 := HU5.out.lt (g := U) (.inl rfl)
            have h2 := HU5.out.lt (g := bi) (.inr (.inl rfl))
            have h3 := HU5.out.lt (g := bt) (.inr (.inr (.inl rfl)))
            have h4 := HE8.out.size_le
            exact ⟨⟨HOC.out.blk.lt, by omega, by omega, by omega⟩, by omega⟩
          have HUL : Hid (U < w8.heap.size ∧ bi < w8.heap.size ∧ bt < w8.heap.size) := ⟨HU5.out.lt (.inl rfl), HU5.out.lt (.inr (.inl rfl)), HU5.out.lt (.inr (.inr (.inl rfl)))⟩
          clear HU5 HK8
          go_wp2
          clear hEO
          go_loopw [68] (fun v wr => ∃ (q : Nat) (A : Option Addr) (m cc : Nat) (L : List Ent) (R : Nat → SlH) (nt : Nat), q ≤ h.m ∧ v = .int .i64 q ∧ nt ≤ h.m + q ∧ Hid (UpI wo wr W3.heap.size gC U ⟨tag, com, fd, ces, hc, hd, he⟩ R bi he.m bt nt (idxF (ces.map Ent.p) (ces.map Ent.p).length) (upN (ces.map Ent.p) (es.map Ent.p) q) tag kc kd A m cc L)) (fun v _ => h.m - (intOf v).toNat)
          case atStart => exact ⟨0, none, 0, 0, [], R0, h.m, Nat.zero_le _, rfl, Nat.le_refl _, ⟨HOC.out.blk, OutL.nil_, fun _ e => (by cases e), HUO.out, fun g e => .inl (UpB_R0 e), KpS.refl _ _, rfl, HGC.out.1, fun _ e => (by cases e)⟩⟩
          case round =>
            obtain ⟨q, A, m, cc, L, R, nt, hq, rfl, hnt, HI⟩ := hrel
            have hE0 : Ext W3 wr := Below.trans HEO.out (HI.out.kp.toBelow HEO.out.size_le fun g hg => by have h6 := HG6.out; have h7 := HGC.out.2; rcases hg with e | e | e | e <;> omega)
            by_cases hlt : q < h.m
            · have hskip : True := trivial
              --S[ l3
              obtain ⟨b, off, eA, _, hcs⟩ := ((EntsW.ext HS.out (HE3.out.trans hE0))).sl.at_ hlt (by omega)
              have hlt1 : q < (es).length := by rw [← (HL).out]; exact hlt
              obtain ⟨y, hyq⟩ : ∃ y, y = (es)[q] := ⟨_, rfl⟩
              have y0 := hcs q hlt1 0 (by omega)
              have y1 := hcs q hlt1 1 (by omega)
              have y2 := hcs q hlt1 2 (by omega)
              have y3 := hcs q hlt1 3 (by omega)
              have y4 := hcs q hlt1 4 (by omega)
              have y5 := hcs q hlt1 5 (by omega)
              have y6 := hcs q hlt1 6 (by omega)
              simp only [← hyq, entC, List.getElem_cons_zero, List.getElem_cons_succ, Nat.add_zero, ← Nat.add_assoc] at y0 y1 y2 y3 y4 y5 y6
              have HYM : Hid (y ∈ es) := by show _ ∈ _; rw [hyq]; exact List.getElem_mem hlt1
              have HYW : Hid (EntW wr y) := ((EntsW.ext HS.out (HE3.out.trans hE0))).good y HYM.out
              have HYQ : Hid ((es)[q]? = some y) := by show _ = _; rw [List.getElem?_eq_getElem hlt1, hyq]
              have hi1 : (q : Int) < ((h).m : Int) := by omega
              have hq4 : q ≤ 1000 := by omega
              clear hcs hyq
              obtain ⟨⟨yid, ysrc, ytgt, ycom, yfl, yst, yfd⟩, yhc, yhf, yhd⟩ := y
              dsimp only at y0 y1 y2 y3 y4 y5 y6
              have hbY := Blk.new wr 39 #[.string yid, .string ysrc, .string ytgt, .slice yhc.A yhc.m yhc.c, .slice yhf.A yhf.m yhf.c, .int .i64 yst, .slice yhd.A yhd.m yhd.c]
              obtain ⟨W1, hW1⟩ : ∃ W1, W1 = wr.alloc (Obj.cells #[.string yid, .string ysrc, .string ytgt, .slice yhc.A yhc.m yhc.c, .slice yhf.A yhf.m yhf.c, .int .i64 yst, .slice yhd.A yhd.m yhd.c] 39) := ⟨_, rfl⟩
              rw [← hW1] at hbY
              have hE1 : Ext wr W1 := by rw [hW1]; exact (Ext.refl _).alloc _
              obtain ⟨g9, hg9⟩ : ∃ g9, g9 = wr.heap.size := ⟨_, rfl⟩
              rw [← hg9] at hbY
              have hid9 : yid.size ≤ maxLen := by have h1 := HYW.out.id; unfold GoodStr at h1; unfold maxLen; dsimp only at h1; omega
              rw [eA]
              go_upto_region 18 with fail
              rw [← hW1, ← hg9]
              have HI1 := Lib.hid (HI.out.ext hE1)
              have HBY := Lib.hid hbY
              have HE01 := Lib.hid (hE0.trans hE1)
              have HYW1 := Lib.hid (HYW.out.ext hE1)
              have HSN : Hid (upN (ces.map Ent.p) (es.map Ent.p) (q + 1) = stepU (ces.map Ent.p) (upN (ces.map Ent.p) (es.map Ent.p) q) ⟨yid, ysrc, ytgt, ycom, yfl, yst, yfd⟩) := by
                show _ = _
                rw [upN_succ _ _ q (by rw [List.length_map]; exact hlt1), List.getElem_map, (List.getElem?_eq_some_iff.1 HYQ.out).2]
              have v0 := laters (show W1.cell? ⟨g9, 0, none⟩ = some (.string yid) from hbY.cell 0)
              have vu := laters (show W1.cell? ⟨U, 11, none⟩ = some (.map (some bi)) from HI1.out.upd.blk.cell 11)
              have hEr1 := Ext.refl W1
              have HID9 := Lib.hid hid9
              clear hW1 hg9 hbY hE1 hE0 y0 y1 y2 y3 y4 y5 y6 hid9 HI HYW
              rcases idxF_find HND.out yid with ⟨k, hk, hkl, hfe⟩ | ⟨hk, hfe⟩
              · have KL : ∀ W, Ext W1 W → (Instr.lookup 49 (.map (some bi)) (.string yid) true).run Tryz.prog W = .ok (.tuple #[.int .i64 ((k : Nat) : Int), .bool true]) W := fun W hE => by
                  have h1 := (HI1.out.upd.ext hE).im.look yid HID9.out
                  rw [hk] at h1
                  exact h1
                clear hk
                go_quiet (fail)
                obtain ⟨W2, hW2⟩ : ∃ W2, W2 = W1.drewN nq := ⟨_, rfl⟩
                have hE12 : Ext W1 W2 := by rw [hW2]; exact (Ext.refl _).drewN _
                rw [← hW2]
                clear hW2 KL v0 vu hEr1
                have HI2 := Lib.hid (HI1.out.ext hE12)
                have hkl' : k < ces.length := by rw [List.length_map] at hkl; exact hkl
                have HCW2 := Lib.hid (HX.out.ext (HE3.out.trans (HE01.out.trans hE12)))
                have hkm : k < he.m := by rw [HL2.out]; exact hkl'
                obtain ⟨b2, off2, eA2, _, hcs2⟩ := HCW2.out.e.sl.at_ hkm (by omega)
                obtain ⟨z, hzq⟩ : ∃ z, z = ces[k] := ⟨_, rfl⟩
                have t0 := hcs2 k hkl' 0 (by omega)
                have t1 := hcs2 k hkl' 1 (by omega)
                have t2 := hcs2 k hkl' 2 (by omega)
                have t3 := hcs2 k hkl' 3 (by omega)
                have t4 := hcs2 k hkl' 4 (by omega)
                have t5 := hcs2 k hkl' 5 (by omega)
                have t6 := hcs2 k hkl' 6 (by omega)
                simp only [← hzq, entC, List.getElem_cons_zero, List.getElem_cons_succ, Nat.add_zero, ← Nat.add_assoc] at t0 t1 t2 t3 t4 t5 t6
                have HZM : Hid (z ∈ ces) := by show _ ∈ _; rw [hzq]; exact List.getElem_mem hkl'
                have HZW : Hid (EntW W2 z) := HCW2.out.e.good z HZM.out
                have HZF : Hid (findE (ces.map Ent.p) yid = some z.p) := by show _ = _; rw [hfe, List.getElem_map, hzq]
                have hi2 : (k : Int) < (he.m : Int) := by omega
                have hi0 : (0 : Int) ≤ (k : Int) := by omega
                have G3 := X3 W2 (HE01.out.trans hE12)
                rw [eA2] at G3
                obtain ⟨⟨nid, nsrc, ntgt, ncom, nfl, nst, nfd⟩, nhc, nhf, nhd⟩ := z
                dsimp only at t0 t1 t2 t3 t4 t5 t6
                clear hcs2 hzq hfe hkl
                have T0 := laters t0
                have T1 := laters t1
                have T2 := laters t2
                have T3 := laters t3
                have T4 := laters t4
                have T5 := laters t5
                have T6 := laters t6
                have G3L := laters G3
                have HB2Y := Lib.hid (HBY.out.below hE12 HBY.out.lt)
                have P0 := laters (show W2.cell? ⟨g9, 0, none⟩ = some (.string yid) from HB2Y.out.cell 0)
                have P1 := laters (show W2.cell? ⟨g9, 1, none⟩ = some (.string ysrc) from HB2Y.out.cell 1)
                have P2 := laters (show W2.cell? ⟨g9, 2, none⟩ = some (.string ytgt) from HB2Y.out.cell 2)
                have P3 := laters (show W2.cell? ⟨g9, 3, none⟩ = some (.slice yhc.A yhc.m yhc.c) from HB2Y.out.cell 3)
                have P4 := laters (show W2.cell? ⟨g9, 4, none⟩ = some (.slice yhf.A yhf.m yhf.c) from HB2Y.out.cell 4)
                have P5 := laters (show W2.cell? ⟨g9, 5, none⟩ = some (.int .i64 yst) from HB2Y.out.cell 5)
                have P6 := laters (show W2.cell? ⟨g9, 6, none⟩ = some (.slice yhd.A yhd.m yhd.c) from HB2Y.out.cell 6)
                have Q3 := laters (show W2.cell? ⟨gC, 3, none⟩ = some (.slice A m cc) from HI2.out.blk.cell 3)
                have hE22 := Ext.refl W2
                have HRL : Hid (∀ i, i < 7 → (repL (upN (ces.map Ent.p) (es.map Ent.p) q).rp i).length ≤ 100000) := fun i hi => by
                  have h1 := upN_rep (ces.map Ent.p) (es.map Ent.p) q (by rw [List.length_map]; omega) i hi
                  omega
                have hm1000 : m ≤ 1000 := by
                  have h1 := HI2.out.out.row.len
                  have h2 := congrArg List.length HI2.out.es
                  rw [List.length_map, upN_es _ _ q (by rw [List.length_map]; omega)] at h2
                  omega
                have hkn := fun (W : World) (hW : Ext W2 W) => known_any (HI2.out.upd.ext hW) ((HE01.out.trans hE12).trans hW).size_le ((HYW1.out.ext hE12).ext hW) (HZW.out.ext hW) (HFS.out _ HYM.out) (HFD.out _ HZM.out) HRL.out
                unfold entV at hkn
                dsimp only at hkn
                have hkn' := hkn
                clear t0 t1 t2 t3 t4 t5 t6 G3
                go_upto_region 20 with fail
                go_region_law (first
                  | (go_simp; go_at_call 14; refine (hkn _ (by first | exact Ext.refl _ | exact (Ext.refl _).drew)).mono ?_; rintro e w5 ⟨⟨⟨aid, asrc, atgt, acom, afl, ast, afd⟩, ahc, ahf, ahd⟩, R5, rfl, hzp, hzW, hzS, hzO', hU5, hsub5', hkp5'⟩; have hzO : ∀ g, g < W2.heap.size → EntA (some g) _ := hzO'; have hsub5 : ∀ g, UpB U bi bt R5 g → UpB U bi bt R g ∨ W2.heap.size ≤ g := hsub5'; have hkp5 : KpS (UpB U bi bt R) W2 w5 := (KpS.of_ext _ (by first | exact Ext.refl W2 | exact (Ext.refl W2).drew)).trans hkp5' fun _ _ e => e; dsimp only; have HI5 := Lib.hid (HI2.out.call (s' := ⟨(upN (ces.map Ent.p) (es.map Ent.p) q).es, addR (upN (ces.map Ent.p) (es.map Ent.p) q).rp (knI ⟨yid, ysrc, ytgt, ycom, yfl, yst, yfd⟩ ⟨nid, nsrc, ntgt, ncom, nfl, nst, nfd⟩) yid, (upN (ces.map Ent.p) (es.map Ent.p) q).tk⟩) hkp5 hU5 hsub5 rfl); have Q3b := laters (show w5.cell? ⟨gC, 3, none⟩ = some (.slice A m cc) from HI5.out.blk.cell 3); have hEw5 : Ext w5 (w5.alloc (Obj.cells #[.string aid, .string asrc, .string atgt, .slice ahc.A ahc.m ahc.c, .slice ahf.A ahf.m ahf.c, .int .i64 ast, .slice ahd.A ahd.m ahd.c] 39)) := (Ext.refl _).alloc _; have hE55 := Ext.refl w5)
                  | (refine step_appC einfo_ent rfl _ _ rfl (HI5.out.out.row.ext hEw5) rfl (SlC.new_ w5 [(⟨⟨aid, asrc, atgt, acom, afl, ast, afd⟩, ahc, ahf, ahd⟩ : Ent)] entC_len (by simp) #[.string aid, .string asrc, .string atgt, .slice ahc.A ahc.m ahc.c, .slice ahf.A ahf.m ahf.c, .int .i64 ast, .slice ahd.A ahd.m ahd.c] rfl (0, 0) 1 rfl _) rfl (by omega) (Nat.le_trans HI5.out.kp.size hEw5.size_le) ?_; intro A7 m7 c7 w7 ho7 hg7 hN7; have hb7 := (KpS.grown hg7).blk (HI5.out.ext hEw5).blk (fun e => (HI5.out.ext hEw5).row gC e rfl); have d7 : w7.cell? ⟨gC, 3, none⟩ = some (.slice A m cc) := hb7.cell 3; have f7 := hb7.frozen 3)
                  | fail)
                all_goals
                  have HNEW : Hid ((upN (ces.map Ent.p) (es.map Ent.p) (q + 1)).es = (upN (ces.map Ent.p) (es.map Ent.p) q).es ++ [(⟨⟨aid, asrc, atgt, acom, afl, ast, afd⟩, ahc, ahf, ahd⟩ : Ent)].map Ent.p) := by
                    show _ = _
                    rw [HSN.out, stepU_known (x := ⟨yid, ysrc, ytgt, ycom, yfl, yst, yfd⟩) HZF.out]
                    show _ ++ [knownP _ _] = _ ++ [_]
                    rw [← hzp]
                  have HI6 : Hid (UpI wo w5 W3.heap.size gC U ⟨tag, com, fd, ces, hc, hd, he⟩ R5 bi he.m bt nt (idxF (ces.map Ent.p) (ces.map Ent.p).length) ⟨(upN (ces.map Ent.p) (es.map Ent.p) q).es, (upN (ces.map Ent.p) (es.map Ent.p) (q + 1)).rp, (upN (ces.map Ent.p) (es.map Ent.p) (q + 1)).tk⟩ tag kc kd A m cc L) := by
                    show UpI _ _ _ _ _ _ _ _ _ _ _ _ _ _ _ _ _ _ _ _
                    rw [HSN.out, stepU_known (x := ⟨yid, ysrc, ytgt, ycom, yfl, yst, yfd⟩) HZF.out]
                    exact HI5.out
                  have hEA : EntA (ob A) ⟨⟨aid, asrc, atgt, acom, afl, ast, afd⟩, ahc, ahf, ahd⟩ := by
                    cases hA : ob A with
                    | none => exact EntA_none _
                    | some g => exact hzO g (HI2.out.out.row.lt g hA)
                  have HOL : Hid (∀ g, g < W3.heap.size → EntA (some g) ⟨⟨aid, asrc, atgt, acom, afl, ast, afd⟩, ahc, ahf, ahd⟩) := fun g hg => hzO g (Nat.lt_of_lt_of_le hg (HE01.out.trans hE12).size_le)
                  have HI8 : Hid (UpI wo (w7.setCell ⟨gC, 3, none⟩ (.slice A7 m7 c7)) W3.heap.size gC U ⟨tag, com, fd, ces, hc, hd, he⟩ R5 bi he.m bt nt (idxF (ces.map Ent.p) (ces.map Ent.p).length) (upN (ces.map Ent.p) (es.map Ent.p) (q + 1)) tag kc kd A7 m7 c7 (L ++ [⟨⟨aid, asrc, atgt, acom, afl, ast, afd⟩, ahc, ahf, ahd⟩])) :=
                    ((HI6.out.ext hEw5).app ho7 hg7 hN7 (fun z hz => by
                      obtain rfl := List.mem_singleton.1 hz
                      exact ⟨hzW.ext hEw5, hzS, hEA, hzO gC HI2.out.blk.lt⟩) (fun z hz g hg => by
                      obtain rfl := List.mem_singleton.1 hz
                      exact HOL.out g hg) HNEW.out rfl rfl).2
                  have hnu : nt ≤ h.m + (q + 1) := by omega
                  clear hEA hzW hzS hzO hzO' hU5 hsub5 hsub5' hkp5 hkp5' ho7 hg7 hN7 hb7 d7 f7 Q3b hEw5 hE55 hE22 P0 P1 P2 P3 P4 P5 P6 Q3 hzp
                  go_wp2
                  go_roundw
                  case rel => exact ⟨q + 1, _, _, _, _, _, _, by omega, by go_num, hnu, HI8.out⟩
                  case measure => simp [intOf]; omega
              · have KL : ∀ W, Ext W1 W → (Instr.lookup 49 (.map (some bi)) (.string yid) true).run Tryz.prog W = .ok (.tuple #[.int .i64 0, .bool false]) W := fun W hE => by
                  have h1 := (HI1.out.upd.ext hE).im.look yid HID9.out
                  rw [hk] at h1
                  exact h1
                clear hk
                go_quiet (fail)
                obtain ⟨W2, hW2⟩ : ∃ W2, W2 = W1.drewN nq := ⟨_, rfl⟩
                have hE12 : Ext W1 W2 := by rw [hW2]; exact (Ext.refl _).drewN _
                rw [← hW2]
                clear hW2 KL v0 vu hEr1
                have HI2 := Lib.hid (HI1.out.ext hE12)
                have HZF : Hid (findE (ces.map Ent.p) yid = none) := hfe
                have HST := Lib.hid (stepU_fresh (c := (ces.map Ent.p)) (s := upN (ces.map Ent.p) (es.map Ent.p) q) (x := ⟨yid, ysrc, ytgt, ycom, yfl, yst, yfd⟩) hfe)
                clear hfe
                have HB2Y := Lib.hid (HBY.out.below hE12 HBY.out.lt)
                have P0 := laters (show W2.cell? ⟨g9, 0, none⟩ = some (.string yid) from HB2Y.out.cell 0)
                have P1 := laters (show W2.cell? ⟨g9, 1, none⟩ = some (.string ysrc) from HB2Y.out.cell 1)
                have P2 := laters (show W2.cell? ⟨g9, 2, none⟩ = some (.string ytgt) from HB2Y.out.cell 2)
                have P3 := laters (show W2.cell? ⟨g9, 3, none⟩ = some (.slice yhc.A yhc.m yhc.c) from HB2Y.out.cell 3)
                have P4 := laters (show W2.cell? ⟨g9, 4, none⟩ = some (.slice yhf.A yhf.m yhf.c) from HB2Y.out.cell 4)
                have P5 := laters (show W2.cell? ⟨g9, 5, none⟩ = some (.int .i64 yst) from HB2Y.out.cell 5)
                have P6 := laters (show W2.cell? ⟨g9, 6, none⟩ = some (.slice yhd.A yhd.m yhd.c) from HB2Y.out.cell 6)
                have Q3 := laters (show W2.cell? ⟨gC, 3, none⟩ = some (.slice A m cc) from HI2.out.blk.cell 3)
                have hE22 := Ext.refl W2
                have HRL : Hid (∀ i, i < 7 → (repL (upN (ces.map Ent.p) (es.map Ent.p) q).rp i).length ≤ 100000) := fun i hi => by
                  have h1 := upN_rep (ces.map Ent.p) (es.map Ent.p) q (by rw [List.length_map]; omega) i hi
                  omega
                have hm1000 : m ≤ 1000 := by
                  have h1 := HI2.out.out.row.len
                  have h2 := congrArg List.length HI2.out.es
                  rw [List.length_map, upN_es _ _ q (by rw [List.length_map]; omega)] at h2
                  omega
                have HN5 : Hid (nt ≤ 100000) := by show _ ≤ _; omega
                have hfr := fun (W : World) (hW : Ext W2 W) => fresh_any (HI2.out.upd.ext hW) (HX.out.ext HE3.out) ((HE01.out.trans hE12).trans hW) (Nat.le_refl _) ((HE01.out.trans hE12).trans hW).size_le ((HYW1.out.ext hE12).ext hW) (HFS.out _ HYM.out) (HSS.out _ HYM.out) HCS.out HRL.out HN5.out
                unfold entV at hfr
                dsimp only at hfr
                go_upto_region 21 with fail
                go_region_law (first
                  | (go_simp; go_at_call 15; refine (hfr _ (by first | exact Ext.refl _ | exact (Ext.refl _).drew)).mono ?_; rintro e w5 ⟨⟨⟨aid, asrc, atgt, acom, afl, ast, afd⟩, ahc, ahf, ahd⟩, rfl, R5, nt5, hzp, hzW, hzS, hzO', hU5, hsub5', hkp5', hnt5⟩; have hzO : ∀ g, g < W2.heap.size → EntA (some g) _ := hzO'; have hsub5 : ∀ g, UpB U bi bt R5 g → UpB U bi bt R g ∨ W2.heap.size ≤ g := hsub5'; have hkp5 : KpS (UpB U bi bt R) W2 w5 := (KpS.of_ext _ (by first | exact Ext.refl W2 | exact (Ext.refl W2).drew)).trans hkp5' fun _ _ e => e; dsimp only; have HI5 := Lib.hid (HI2.out.call (s' := ⟨(upN (ces.map Ent.p) (es.map Ent.p) q).es, _, _⟩) hkp5 hU5 hsub5 rfl); have Q3b := laters (show w5.cell? ⟨gC, 3, none⟩ = some (.slice A m cc) from HI5.out.blk.cell 3); have hEw5 : Ext w5 (w5.alloc (Obj.cells #[.string aid, .string asrc, .string atgt, .slice ahc.A ahc.m ahc.c, .slice ahf.A ahf.m ahf.c, .int .i64 ast, .slice ahd.A ahd.m ahd.c] 39)) := (Ext.refl _).alloc _; have hE55 := Ext.refl w5)
                  | (refine step_appC einfo_ent rfl _ _ rfl (HI5.out.out.row.ext hEw5) rfl (SlC.new_ w5 [(⟨⟨aid, asrc, atgt, acom, afl, ast, afd⟩, ahc, ahf, ahd⟩ : Ent)] entC_len (by simp) #[.string aid, .string asrc, .string atgt, .slice ahc.A ahc.m ahc.c, .slice ahf.A ahf.m ahf.c, .int .i64 ast, .slice ahd.A ahd.m ahd.c] rfl (0, 0) 1 rfl _) rfl (by omega) (Nat.le_trans HI5.out.kp.size hEw5.size_le) ?_; intro A7 m7 c7 w7 ho7 hg7 hN7; have hb7 := (KpS.grown hg7).blk (HI5.out.ext hEw5).blk (fun e => (HI5.out.ext hEw5).row gC e rfl); have d7 : w7.cell? ⟨gC, 3, none⟩ = some (.slice A m cc) := hb7.cell 3; have f7 := hb7.frozen 3)
                  | fail)
                all_goals
                  have HNEW : Hid ((upN (ces.map Ent.p) (es.map Ent.p) (q + 1)).es = (upN (ces.map Ent.p) (es.map Ent.p) q).es ++ [(⟨⟨aid, asrc, atgt, acom, afl, ast, afd⟩, ahc, ahf, ahd⟩ : Ent)].map Ent.p) := by
                    show _ = _
                    rw [HSN.out, HST.out]
                    show _ ++ [freshP _ _] = _ ++ [_]
                    exact congrArg (fun t => (upN (ces.map Ent.p) (es.map Ent.p) q).es ++ [t]) hzp.symm
                  have HI6 : Hid (UpI wo w5 W3.heap.size gC U ⟨tag, com, fd, ces, hc, hd, he⟩ R5 bi he.m bt nt5 (idxF (ces.map Ent.p) (ces.map Ent.p).length) ⟨(upN (ces.map Ent.p) (es.map Ent.p) q).es, (upN (ces.map Ent.p) (es.map Ent.p) (q + 1)).rp, (upN (ces.map Ent.p) (es.map Ent.p) (q + 1)).tk⟩ tag kc kd A m cc L) := by
                    show UpI _ _ _ _ _ _ _ _ _ _ _ _ _ _ _ _ _ _ _ _
                    rw [HSN.out, HST.out]
                    exact HI5.out
                  have hEA : EntA (ob A) ⟨⟨aid, asrc, atgt, acom, afl, ast, afd⟩, ahc, ahf, ahd⟩ := by
                    cases hA : ob A with
                    | none => exact EntA_none _
                    | some g => exact hzO g (HI2.out.out.row.lt g hA)
                  have HOL : Hid (∀ g, g < W3.heap.size → EntA (some g) ⟨⟨aid, asrc, atgt, acom, afl, ast, afd⟩, ahc, ahf, ahd⟩) := fun g hg => hzO g (Nat.lt_of_lt_of_le hg (HE01.out.trans hE12).size_le)
                  have HI8 : Hid (UpI wo (w7.setCell ⟨gC, 3, none⟩ (.slice A7 m7 c7)) W3.heap.size gC U ⟨tag, com, fd, ces, hc, hd, he⟩ R5 bi he.m bt nt5 (idxF (ces.map Ent.p) (ces.map Ent.p).length) (upN (ces.map Ent.p) (es.map Ent.p) (q + 1)) tag kc kd A7 m7 c7 (L ++ [⟨⟨aid, asrc, atgt, acom, afl, ast, afd⟩, ahc, ahf, ahd⟩])) :=
                    ((HI6.out.ext hEw5).app ho7 hg7 hN7 (fun z hz => by
                      obtain rfl := List.mem_singleton.1 hz
                      exact ⟨hzW.ext hEw5, hzS, hEA, hzO gC HI2.out.blk.lt⟩) (fun z hz g hg => by
                      obtain rfl := List.mem_singleton.1 hz
                      exact HOL.out g hg) HNEW.out rfl rfl).2
                  have hnu : nt5 ≤ h.m + (q + 1) := by omega
                  clear hEA hzW hzS hzO hzO' hU5 hsub5 hsub5' hkp5 hkp5' ho7 hg7 hN7 hb7 d7 f7 Q3b hEw5 hE55 hE22 P0 P1 P2 P3 P4 P5 P6 Q3 hzp
                  go_wp2
                  go_roundw
                  case rel => exact ⟨q + 1, _, _, _, _, _, _, by omega, by go_num, hnu, HI8.out⟩
                  case measure => simp [intOf]; omega
              --S]
            · have hi1 : ¬ (q : Int) < (h.m : Int) := by omega
              have hqe : q = h.m := by omega
              have HI5 : Hid (UpI wo wr W3.heap.size gC U ⟨tag, com, fd, ces, hc, hd, he⟩ R bi he.m bt nt (idxF (ces.map Ent.p) (ces.map Ent.p).length) (updU1 (ces.map Ent.p) (es.map Ent.p)) tag kc kd A m cc L) := by
                have h1 := HI.out
                have e : upN (ces.map Ent.p) (es.map Ent.p) h.m = updU1 (ces.map Ent.p) (es.map Ent.p) := by rw [← upN_all, List.length_map, ← HL.out]
                rw [hqe, e] at h1
                exact h1
              obtain ⟨wp, rfl⟩ : ∃ wp : World, wp = wr := ⟨_, rfl⟩
              have HE0 := Lib.hid hE0
              clear hqe hE0 HI hnt
              have hm1000 : m ≤ 1000 := by
                have h1 := HI5.out.out.row.len
                have h2 := congrArg List.length HI5.out.es
                rw [List.length_map, ← upN_all, upN_es _ _ _ (Nat.le_refl _), List.length_map, ← HL.out] at h2
                omega
              have HRL : Hid (∀ i, i < 7 → (repL (updU1 (ces.map Ent.p) (es.map Ent.p)).rp i).length ≤ 90000) := fun i hi => by
                have h1 := upN_rep (ces.map Ent.p) (es.map Ent.p) (es.map Ent.p).length (Nat.le_refl _) i hi
                rw [upN_all, List.length_map, ← HL.out] at h1
                omega
              have HUD : Hid ((updU (ces.map Ent.p) (es.map Ent.p)).es = (updU1 (ces.map Ent.p) (es.map Ent.p)).es ++ (restN (updU1 (ces.map Ent.p) (es.map Ent.p)).tk (ces.map Ent.p) (updU1 (ces.map Ent.p) (es.map Ent.p)).rp ces.length).es ∧ (updU (ces.map Ent.p) (es.map Ent.p)).rp = (restN (updU1 (ces.map Ent.p) (es.map Ent.p)).tk (ces.map Ent.p) (updU1 (ces.map Ent.p) (es.map Ent.p)).rp ces.length).rp) := by
                have h1 := restN_all (updU1 (ces.map Ent.p) (es.map Ent.p)).tk (ces.map Ent.p) (updU1 (ces.map Ent.p) (es.map Ent.p)).rp (updU1 (ces.map Ent.p) (es.map Ent.p)).es (updU1 (ces.map Ent.p) (es.map Ent.p)) rfl
                rw [List.length_map] at h1
                exact h1
              have HCL : Hid (ces.length ≤ (ces.map Ent.p).length ∧ ces.length ≤ 1000) := ⟨by rw [List.length_map]; exact Nat.le_refl _, by rw [← HL2.out]; exact hm1⟩
              have hrs := fun (W : World) (hW : Ext wp W) => rest_any (HI5.out.upd.ext hW) (HX.out.ext HE3.out) (HE0.out.trans hW) (Nat.le_refl _) (HE0.out.trans hW).size_le hm1 HRL.out
              have Q3 := laters (show wp.cell? ⟨gC, 3, none⟩ = some (.slice A m cc) from HI5.out.blk.cell 3)
              have hEpp := Ext.refl wp
              go_upto_region 23 with fail
              go_cut [] from 105 (fun wx => ∃ (A7 : Option Addr) (m7 c7 : Nat) (L7 : List Ent) (R7 : Nat → SlH), UpI wo wx W3.heap.size gC U ⟨tag, com, fd, ces, hc, hd, he⟩ R7 bi he.m bt nt (idxF (ces.map Ent.p) (ces.map Ent.p).length) ⟨(updU (ces.map Ent.p) (es.map Ent.p)).es, (updU (ces.map Ent.p) (es.map Ent.p)).rp, (updU1 (ces.map Ent.p) (es.map Ent.p)).tk⟩ tag kc kd A7 m7 c7 L7 ∧ m7 ≤ 2000)
              case first =>
                --S[ r23
                go_region_law (first
                  | (go_simp; go_at_call 16; refine (hrs _ (by first | exact Ext.refl _ | exact (Ext.refl _).drew)).mono ?_; rintro e w5 ⟨A2, m2, c2, L2, R5, rfl, hLp, hO5, hU5, hsub5', hkp5', hold5'⟩; have hold : ∀ z ∈ L2, ∀ g, g < wp.heap.size → EntA (some g) z := hold5'; have hsub5 : ∀ g, UpB U bi bt R5 g → UpB U bi bt R g ∨ wp.heap.size ≤ g := hsub5'; have hkp5 : KpS (UpB U bi bt R) wp w5 := (KpS.of_ext _ (by first | exact Ext.refl wp | exact (Ext.refl wp).drew)).trans hkp5' fun _ _ e => e; have HI6 := Lib.hid (HI5.out.call (s' := ⟨(updU1 (ces.map Ent.p) (es.map Ent.p)).es, _, _⟩) hkp5 hU5 hsub5 rfl); have Q3b := laters (show w5.cell? ⟨gC, 3, none⟩ = some (.slice A m cc) from HI6.out.blk.cell 3); have hE55 := Ext.refl w5; have hm2k : m2 ≤ 1000 := Nat.le_trans (rest_le hO5.row.len hLp HCL.out.1) HCL.out.2)
                  | (refine step_appC einfo_ent rfl _ _ rfl HI6.out.out.row rfl hO5.row.sl rfl (by omega) HI6.out.kp.size ?_; intro A7 m7 c7 w7 ho7 hg7 hN7; have hb7 := (KpS.grown hg7).blk HI6.out.blk (fun e => HI6.out.row gC e rfl); have d7 : w7.cell? ⟨gC, 3, none⟩ = some (.slice A m cc) := hb7.cell 3; have f7 := hb7.frozen 3)
                  | fail)
                all_goals
                  have HNEW : Hid ((updU (ces.map Ent.p) (es.map Ent.p)).es = (updU1 (ces.map Ent.p) (es.map Ent.p)).es ++ L2.map Ent.p) := by
                    show _ = _
                    rw [HUD.out.1]
                    exact congrArg (fun t => (updU1 (ces.map Ent.p) (es.map Ent.p)).es ++ t) hLp.symm
                  have HI7 : Hid (UpI wo w5 W3.heap.size gC U ⟨tag, com, fd, ces, hc, hd, he⟩ R5 bi he.m bt nt (idxF (ces.map Ent.p) (ces.map Ent.p).length) ⟨(updU1 (ces.map Ent.p) (es.map Ent.p)).es, (updU (ces.map Ent.p) (es.map Ent.p)).rp, (updU1 (ces.map Ent.p) (es.map Ent.p)).tk⟩ tag kc kd A m cc L) := by
                    show UpI _ _ _ _ _ _ _ _ _ _ _ _ _ _ _ _ _ _ _ _
                    rw [HUD.out.2]
                    exact HI6.out
                  have HM7 : Hid (m7 ≤ 2000) := by
                    have h1 := ho7.len
                    have h2 := HI6.out.out.row.len
                    have h3 := hO5.row.len
                    rw [List.length_append] at h1
                    show _ ≤ _
                    omega
                  have HI8 : Hid (UpI wo (w7.setCell ⟨gC, 3, none⟩ (.slice A7 m7 c7)) W3.heap.size gC U ⟨tag, com, fd, ces, hc, hd, he⟩ R5 bi he.m bt nt (idxF (ces.map Ent.p) (ces.map Ent.p).length) ⟨(updU (ces.map Ent.p) (es.map Ent.p)).es, (updU (ces.map Ent.p) (es.map Ent.p)).rp, (updU1 (ces.map Ent.p) (es.map Ent.p)).tk⟩ tag kc kd A7 m7 c7 (L ++ L2)) :=
                    (HI7.out.app (s' := ⟨(updU (ces.map Ent.p) (es.map Ent.p)).es, (updU (ces.map Ent.p) (es.map Ent.p)).rp, (updU1 (ces.map Ent.p) (es.map Ent.p)).tk⟩) ho7 hg7 hN7 (fun z hz => ⟨(hO5.ents z hz).1, (hO5.ents z hz).2.1, (by
                      cases hA : ob A with
                      | none => exact EntA_none _
                      | some g => exact hold z hz g (HI5.out.out.row.lt g hA)), hold z hz gC HI5.out.blk.lt⟩) (fun z hz g hg => hold z hz g (Nat.lt_of_lt_of_le hg HE0.out.size_le)) HNEW.out rfl rfl).2
                  clear hold hold5' hO5 hU5 hsub5 hsub5' hkp5 hkp5' ho7 hg7 hN7 hb7 d7 f7 Q3b hE55 Q3 hEpp hLp hrs
                  go_wp2
                  go_meet
                  case rel => exact ⟨_, _, _, _, _, HI8.out, HM7.out⟩
                --S]
              case rest =>
                obtain ⟨A7, m7, c7, L7, R7, hI, hM7⟩ := hcut
                obtain ⟨wk, rfl⟩ : ∃ wk : World, wk = wc := ⟨_, rfl⟩
                have HI := Lib.hid hI
                have HM7 := Lib.hid hM7
                clear hI hM7 Q3 hEpp hrs HI5 HE0
                have HEK : Hid (Ext W3 wk) := Below.trans HEO.out (HI.out.kp.toBelow HEO.out.size_le fun g hg => by have h6 := HG6.out; have h7 := HGC.out.2; rcases hg with e | e | e | e <;> omega)
                have HCO : Hid (CatW wk ⟨tag, com, fd, L7, kc, kd, ⟨A7, m7, c7⟩⟩) := by
                  have h1 := HOC.out
                  have h2 := HUL.out
                  have h3 := HI.out
                  refine ⟨HX.out.tag, HW.kp h3.kp h1.c (ApS.of_apart fun g hg => ?_), HW.kp h3.kp h1.d (ApS.of_apart fun g hg => ?_), ⟨h3.out.row.sl, h3.out.row.cap, ?_, fun z hz => (h3.out.ents z hz).1⟩⟩
                  · rcases hg with e | e | e | e
                    · exact Apart.of_ge h1.nc (by omega)
                    · exact Apart.of_ge h1.nc (by omega)
                    · exact Apart.of_ge h1.nc (by omega)
                    · rw [e]; exact h1.ac
                  · rcases hg with e | e | e | e
                    · exact Apart.of_ge h1.nd (by omega)
                    · exact Apart.of_ge h1.nd (by omega)
                    · exact Apart.of_ge h1.nd (by omega)
                    · rw [e]; exact h1.ad
                  · have h4 := HM7.out
                    show m7 * 128 ≤ _
                    omega
                have q0 : wk.cell? ⟨gC, 0, none⟩ = some (.string tag) := HI.out.blk.cell 0
                have q1 : wk.cell? ⟨gC, 1, none⟩ = some (.slice kc.A kc.m kc.c) := HI.out.blk.cell 1
                have q2 : wk.cell? ⟨gC, 2, none⟩ = some (.slice kd.A kd.m kd.c) := HI.out.blk.cell 2
                have q3 : wk.cell? ⟨gC, 3, none⟩ = some (.slice A7 m7 c7) := HI.out.blk.cell 3
                have hv := valid_any' HCO.out (HTT.out.ext (HE3.out.trans HEK.out))
                unfold catV at hv
                dsimp only at hv
                go_wp2_with (first
                  | (go_at_call 17; refine Hid.out ?_))
                refine Hid.mk_ ((hv).mono ?_)
                rintro e wv ⟨rfl, hEv⟩
                clear q0 q1 q2 q3 hv
                have HE0R : Hid (Ext w wv) := (HE3.out.trans HEK.out).trans hEv
                have hE3v := HEK.out.trans hEv
                have HB4R := Lib.hid (HB4.out.below hE3v HB4.out.lt)
                have HB5R := Lib.hid (HB5.out.below hE3v HB5.out.lt)
                have HPE : Hid (Cat.p ⟨tag, com, fd, L7, kc, kd, ⟨A7, m7, c7⟩⟩ = (Cat.p ⟨tag, com, fd, ces, hc, hd, he⟩).w (updU (Cat.p ⟨tag, com, fd, ces, hc, hd, he⟩).es (es.map Ent.p)).es) := congrArg (fun l => (⟨tag, com, fd, l⟩ : Cp)) HI.out.es
                cases hvv : validC (Cat.p ⟨tag, com, fd, L7, kc, kd, ⟨A7, m7, c7⟩⟩) with
                | false =>
                  --S[ bad
                  have HBAD : Hid (updP (Cat.p ⟨tag, com, fd, ces, hc, hd, he⟩) (es.map Ent.p) = (cp0, rep0, 6)) := by
                    show _ = _
                    unfold updP
                    rw [if_pos HP.out, ← HPE.out, hvv]
                    rfl
                  clear hvv hE3v hEv
                  have n0 : (wv).cell? ⟨g4, 0, none⟩ = some (.string ⟨#[]⟩) := (HB4R.out).cell 0
                  have n1 : (wv).cell? ⟨g4, 1, none⟩ = some (.slice none 0 0) := (HB4R.out).cell 1
                  have n2 : (wv).cell? ⟨g4, 2, none⟩ = some (.slice none 0 0) := (HB4R.out).cell 2
                  have n3 : (wv).cell? ⟨g4, 3, none⟩ = some (.slice none 0 0) := (HB4R.out).cell 3
                  have f0 := (HB4R.out).frozen 0
                  have f1 := (HB4R.out).frozen 1
                  have f2 := (HB4R.out).frozen 2
                  have f3 := (HB4R.out).frozen 3
                  have p0 : (wv).cell? ⟨g5, 0, none⟩ = some (.slice none 0 0) := (HB5R.out).cell 0
                  have p1 : (wv).cell? ⟨g5, 1, none⟩ = some (.slice none 0 0) := (HB5R.out).cell 1
                  have p2 : (wv).cell? ⟨g5, 2, none⟩ = some (.slice none 0 0) := (HB5R.out).cell 2
                  have p3 : (wv).cell? ⟨g5, 3, none⟩ = some (.slice none 0 0) := (HB5R.out).cell 3
                  have p4 : (wv).cell? ⟨g5, 4, none⟩ = some (.slice none 0 0) := (HB5R.out).cell 4
                  have p5 : (wv).cell? ⟨g5, 5, none⟩ = some (.slice none 0 0) := (HB5R.out).cell 5
                  have p6 : (wv).cell? ⟨g5, 6, none⟩ = some (.slice none 0 0) := (HB5R.out).cell 6
                  have o0 := (HB5R.out).frozen 0
                  have o1 := (HB5R.out).frozen 1
                  have o2 := (HB5R.out).frozen 2
                  have o3 := (HB5R.out).frozen 3
                  have o4 := (HB5R.out).frozen 4
                  have o5 := (HB5R.out).frozen 5
                  have o6 := (HB5R.out).frozen 6
                  have hne1 : ¬ g4 = g5 := HNE.out
                  have hne2 : ¬ g5 = g4 := fun e => HNE.out e.symm
                  go_wp2
                  have HZ := Lib.hid (UpdR.zeros (k := 6) HB4R.out HB5R.out HNE.out HG45.out.1 HG45.out.2 HBAD.out HE0R.out)
                  change bodyPost _ _ _ _ _ (repR (catR wv g4 ⟨#[]⟩ nilH nilH nilH) g5 R0)
                  generalize repR (catR wv g4 ⟨#[]⟩ nilH nilH nilH) g5 R0 = wF at HZ ⊢
                  obtain ⟨z4, z5, hz⟩ := HZ.out
                  refine bodyPost_ret (results_rows2 rfl _ _ g4 g5 32 34 _ _ (0, 0) (0, 0) _ _ rfl z4 Tryz.underlying32 rfl info_cat4 rfl z5 Tryz.underlying34 rfl info_rep7) rfl ?_
                  go_simp
                  --S]
                | true =>
                  have HGOOD : Hid (updP (Cat.p ⟨tag, com, fd, ces, hc, hd, he⟩) (es.map Ent.p) = ((Cat.p ⟨tag, com, fd, ces, hc, hd, he⟩).w (updU (Cat.p ⟨tag, com, fd, ces, hc, hd, he⟩).es (es.map Ent.p)).es, (updU (Cat.p ⟨tag, com, fd, ces, hc, hd, he⟩).es (es.map Ent.p)).rp, 0)) := by
                    show _ = _
                    unfold updP
                    rw [if_pos HP.out, ← HPE.out, hvv]
                    rfl
                  have HIV := Lib.hid (HI.out.ext hEv)
                  have HCV := Lib.hid (HCO.out.ext hEv)
                  clear hvv hE3v hEv
                  have HSTO := Lib.hid (UpdR.good (HIV.out.ext (Ext.refl wv).drew) (HCV.out.ext (Ext.refl wv).drew) (HB4R.out.below (Ext.refl wv).drew HB4R.out.lt) (HB5R.out.below (Ext.refl wv).drew HB5R.out.lt) HNE.out HG45.out.1 HG45.out.2 HB4.out.lt HB5.out.lt HEO.out.size_le (fun k hk => Nat.le_trans HE8.out.size_le (HOC.out.nc k hk)) (fun k hk => Nat.le_trans HE8.out.size_le (HOC.out.nd k hk)) (HE0R.out.trans (Ext.refl wv).drew) HGOOD.out)
                  have hEd : KpS (fun g => g = g4 ∨ g = g5) wv wv.drew := KpS.of_ext _ (Ext.refl wv).drew
                  have HNG : Hid (¬ (gC = g4 ∨ gC = g5) ∧ ¬ (U = g4 ∨ U = g5)) := by
                    have h1 := HGC.out.2
                    have h2 := HG6.out.2.2
                    have h3 := HB4.out.lt
                    have h4 := HB5.out.lt
                    exact ⟨fun e => by rcases e with e | e <;> omega, fun e => by rcases e with e | e <;> omega⟩
                  have K0 : ∀ W, KpS (fun g => g = g4 ∨ g = g5) wv W → W.cell? ⟨gC, 0, none⟩ = some (.string tag) := fun W hW => hW.cell (p := ⟨gC, 0, none⟩) HNG.out.1 (HIV.out.blk.cell 0)
                  have K1 : ∀ W, KpS (fun g => g = g4 ∨ g = g5) wv W → W.cell? ⟨gC, 1, none⟩ = some (.slice kc.A kc.m kc.c) := fun W hW => hW.cell (p := ⟨gC, 1, none⟩) HNG.out.1 (HIV.out.blk.cell 1)
                  have K2 : ∀ W, KpS (fun g => g = g4 ∨ g = g5) wv W → W.cell? ⟨gC, 2, none⟩ = some (.slice kd.A kd.m kd.c) := fun W hW => hW.cell (p := ⟨gC, 2, none⟩) HNG.out.1 (HIV.out.blk.cell 2)
                  have K3 : ∀ W, KpS (fun g => g = g4 ∨ g = g5) wv W → W.cell? ⟨gC, 3, none⟩ = some (.slice A7 m7 c7) := fun W hW => hW.cell (p := ⟨gC, 3, none⟩) HNG.out.1 (HIV.out.blk.cell 3)
                  have V0 : ∀ W, KpS (fun g => g = g4 ∨ g = g5) wv W → W.cell? ⟨U, 4, none⟩ = some (.slice (R7 0).A (R7 0).m (R7 0).c) := fun W hW => hW.cell (p := ⟨U, 4, none⟩) HNG.out.2 (HIV.out.upd.blk.cell 4)
                  have V1 : ∀ W, KpS (fun g => g = g4 ∨ g = g5) wv W → W.cell? ⟨U, 5, none⟩ = some (.slice (R7 1).A (R7 1).m (R7 1).c) := fun W hW => hW.cell (p := ⟨U, 5, none⟩) HNG.out.2 (HIV.out.upd.blk.cell 5)
                  have V2 : ∀ W, KpS (fun g => g = g4 ∨ g = g5) wv W → W.cell? ⟨U, 6, none⟩ = some (.slice (R7 2).A (R7 2).m (R7 2).c) := fun W hW => hW.cell (p := ⟨U, 6, none⟩) HNG.out.2 (HIV.out.upd.blk.cell 6)
                  have V3 : ∀ W, KpS (fun g => g = g4 ∨ g = g5) wv W → W.cell? ⟨U, 7, none⟩ = some (.slice (R7 3).A (R7 3).m (R7 3).c) := fun W hW => hW.cell (p := ⟨U, 7, none⟩) HNG.out.2 (HIV.out.upd.blk.cell 7)
                  have V4 : ∀ W, KpS (fun g => g = g4 ∨ g = g5) wv W → W.cell? ⟨U, 8, none⟩ = some (.slice (R7 4).A (R7 4).m (R7 4).c) := fun W hW => hW.cell (p := ⟨U, 8, none⟩) HNG.out.2 (HIV.out.upd.blk.cell 8)
                  have V5 : ∀ W, KpS (fun g => g = g4 ∨ g = g5) wv W → W.cell? ⟨U, 9, none⟩ = some (.slice (R7 5).A (R7 5).m (R7 5).c) := fun W hW => hW.cell (p := ⟨U, 9, none⟩) HNG.out.2 (HIV.out.upd.blk.cell 9)
                  have V6 : ∀ W, KpS (fun g => g = g4 ∨ g = g5) wv W → W.cell? ⟨U, 10, none⟩ = some (.slice (R7 6).A (R7 6).m (R7 6).c) := fun W hW => hW.cell (p := ⟨U, 10, none⟩) HNG.out.2 (HIV.out.upd.blk.cell 10)
                  go_upto_region 26 with fail
                  refine wp_region_held_drew (S := fun w' => KpS (fun g => g = g4 ∨ g = g5) wv w') (by kernel_rfl) hEd ?_
                  intro hHeld
                  refine wpAnyH_takeD (i := 0) (d := 116) (v := ?_) rfl rfl (by kernel_rfl) (by kernel_rfl) (by kernel_rfl) (fun _ _ _ h => h) (Or.inl ⟨by rfl, ?_⟩) hHeld ?_
                  rotate_left
                  · rintro w hS4; go_simp; try with_reducible rfl
                  simp only [Act.put, List.setIfInBounds_toArray, List.set_cons_zero, List.set_cons_succ]
                  refine wpAnyH_takeD (i := 1) (d := 117) (v := ?_) rfl rfl (by kernel_rfl) (by kernel_rfl) (by kernel_rfl) (fun _ _ _ h => h) (Or.inl ⟨by rfl, ?_⟩) hHeld ?_
                  rotate_left
                  · rintro w hS4; go_simp; try with_reducible rfl
                  simp only [Act.put, List.setIfInBounds_toArray, List.set_cons_zero, List.set_cons_succ]
                  refine wpAnyH_takeD (i := 2) (d := 118) (v := ?_) rfl rfl (by kernel_rfl) (by kernel_rfl) (by kernel_rfl) (fun _ _ _ h => h) (Or.inl ⟨by rfl, ?_⟩) hHeld ?_
                  rotate_left
                  · rintro w hS4; go_simp; try with_reducible rfl
                  simp only [Act.put, List.setIfInBounds_toArray, List.set_cons_zero, List.set_cons_succ]
                  refine wpAnyH_takeD (i := 3) (d := 119) (v := ?_) rfl rfl (by kernel_rfl) (by kernel_rfl) (by kernel_rfl) (fun _ _ _ h => h) (Or.inl ⟨by rfl, ?_⟩) hHeld ?_
                  rotate_left
                  · rintro w hS4; go_simp; try with_reducible rfl
                  simp only [Act.put, List.setIfInBounds_toArray, List.set_cons_zero, List.set_cons_succ]
                  refine wpAnyH_takeD (i := 4) (d := 120) (v := ?_) rfl rfl (by kernel_rfl) (by kernel_rfl) (by kernel_rfl) (fun _ _ _ h => h) (Or.inl ⟨by rfl, ?_⟩) hHeld ?_
                  rotate_left
                  · rintro w hS4; go_simp; try with_reducible rfl
                  simp only [Act.put, List.setIfInBounds_toArray, List.set_cons_zero, List.set_cons_succ]
                  have b4d := HB4R.out.below (Ext.refl wv).drew HB4R.out.lt
                  refine wpAnyH_storeR (i := 5) (g := g4) (cells := catA tag kc kd ⟨A7, m7, c7⟩) (by kernel_rfl) rfl rfl rfl rfl rfl rfl b4d info_cat4 rfl (by simp [catA, Value.oneCell']) (hEd.trans HSTO.out.2.2.2.2.1 fun _ _ e => e) ?_
                  refine wpAnyH_storeR (i := 6) (g := g5) (cells := repA R7) (by kernel_rfl) rfl rfl rfl rfl rfl rfl HSTO.out.2.2.2.1 info_rep7 rfl (by simp [repA, Value.oneCell']) (hEd.trans HSTO.out.2.2.2.2.2.1 fun _ _ e => e) ?_
                  clear hHeld
                  have hHeld := hEd.trans HSTO.out.2.2.2.2.2.1 fun _ _ e => e
                  refine wpAnyH_takeD (i := 7) (d := 6) (v := ?_) rfl rfl (by kernel_rfl) (by kernel_rfl) (by kernel_rfl) (fun _ _ _ h => h) (Or.inl ⟨by rfl, ?_⟩) hHeld ?_
                  rotate_left
                  · rintro w hS4; go_simp; try with_reducible rfl
                  simp only [Act.put, List.setIfInBounds_toArray, List.set_cons_zero, List.set_cons_succ]
                  refine wpAnyH_done (by kernel_rfl) ?_ _
                  clear K0 K1 K2 K3 V0 V1 V2 V3 V4 V5 V6 hHeld b4d hEd
                  go_wp2
                  change bodyPost _ _ _ _ _ ((wv.drew.setRow g4 (catA tag kc kd ⟨A7, m7, c7⟩)).setRow g5 (repA R7))
                  obtain ⟨_, z4, z5, _, _, _, hz⟩ := HSTO.out
                  refine bodyPost_ret (results_rows2 rfl _ _ g4 g5 32 34 _ _ (0, 0) (0, 0) _ _ rfl z4 Tryz.underlying32 rfl info_cat4 rfl z5 Tryz.underlying34 rfl info_rep7) rfl ?_
                  exact hz
end Go.Proofs.YtgnchicipmomlaaGreatDoor
