/- The reference's Find. -/
import Derived.Test.YtgnchicipmomlaaGreatDoorPK19
import Derived.Test.YtgnchicipmomlaaGreatDoorPK11
import Derived.Test.YtgnchicipmomlaaGreatDoorPK14
import Derived.Test.YtgnchicipmomlaaGreatDoorPK15
import Derived.Test.YtgnchicipmomlaaGreatDoorPK03
import Derived.Test.YtgnchicipmomlaaGreatDoorPK02
namespace Go.Proofs.YtgnchicipmomlaaGreatDoor
open Go.RowKit
set_option maxRecDepth 100000

section
variable {w : World}
end

end Go.Proofs.YtgnchicipmomlaaGreatDoor

/- The reference's size: how many bytes strings and fields have. -/
namespace Go.Proofs.YtgnchicipmomlaaGreatDoor
open Go.RowKit
set_option maxRecDepth 100000

/-- What size counts: it stops at 1 << 40. -/
def szS : List ByteArray → Nat → Nat
  | [], z => z
  | x :: t, z => if z < 1099511627776 then szS t (z + x.size) else z
def szF : List Fd → Nat → Nat
  | [], z => z
  | x :: t, z => if z < 1099511627776 then szF t (z + x.1.size + x.2.size) else z
def sizeN (l : List ByteArray) (f : List Fd) : Nat := szF f (szS l (l.length + f.length))
theorem szS_stop (l : List ByteArray) {z : Nat} (h : ¬ z < 1099511627776) : szS l z = z := by cases l with
  | nil => rfl
  | cons x t => unfold szS; rw [if_neg h]
theorem szF_stop (l : List Fd) {z : Nat} (h : ¬ z < 1099511627776) : szF l z = z := by cases l with
  | nil => rfl
  | cons x t => unfold szF; rw [if_neg h]
section
variable {w : World}
set_option maxHeartbeats 3200000 in
theorem size_any {h h' : SlH} {l : List ByteArray} {f : List Fd} (hs : StrsW w h l) (hf : FdsW w h' f) :
    Calls Tryz.prog 22 #[.slice h.A h.m h.c, .slice h'.A h'.m h'.c] w fun e w' => e = .returned (.int .i64 (sizeN l f)) ∧ sizeN l f ≤ 562949953421312 ∧ Ext w w' := by
  obtain ⟨A, m, c⟩ := h
  obtain ⟨B, m', c'⟩ := h'
  have HL := Lib.hid hs.sl.len
  have HL' := Lib.hid hf.sl.len
  have hle := hs.bd
  have hle' := hf.bd
  have HG := Lib.hid hs.good
  have HG' := Lib.hid hf.good
  dsimp only at HL HL' hle hle' ⊢
  have hm1 : m ≤ 8796093022208 := by omega
  have hm2 : m' ≤ 8796093022208 := by omega
  clear hle hle'
  go_enter Tryz.func22, Tryz.ntmps22
  go_wp2
  go_loopw [5, 6] (fun n i wr => ∃ (q : Nat) (z : Nat), q ≤ m ∧ i = .int .i64 q ∧ n = .int .i64 z ∧ m + m' ≤ z ∧ z ≤ 281474976710656 ∧ Ext w wr ∧ Hid (szS l (m + m') = szS (l.drop q) z)) (fun _ i _ => m - (intOf i).toNat)
  case atStart => exact ⟨0, m + m', Nat.zero_le _, rfl, by go_num, Nat.le_refl _, by omega, Ext.refl _, Lib.hid (by rw [List.drop_zero])⟩
  case round =>
    obtain ⟨q, z, hq, rfl, rfl, hz1, hz2, hE, HC⟩ := hrel
    by_cases hlt : q < m ∧ z < 1099511627776
    · obtain ⟨hlt, hz3⟩ := hlt
      have hz4 : (z : Int) < 1099511627776 := by omega
      obtain ⟨b, off, e0, hbl, hcs⟩ := (hs.sl.ext hE).at_ hlt (by omega)
      dsimp only at e0
      subst e0
      have hlt1 : q < l.length := by rw [← HL.out]; exact hlt
      obtain ⟨x, hxq⟩ : ∃ x, x = l[q] := ⟨_, rfl⟩
      have hgs := HG.out _ (List.getElem_mem hlt1)
      rw [← hxq] at hgs
      unfold GoodStr at hgs
      have x0 := hcs q hlt1 0 (by omega)
      simp only [← hxq, strF, List.getElem_cons_zero, Nat.mul_one, Nat.add_zero] at x0
      have hi1 : (q : Int) < (m : Int) := by omega
      have HN : Hid (szS l (m + m') = szS (l.drop (q + 1)) (z + x.size)) := by
        show _ = _
        rw [HC.out, List.drop_eq_getElem_cons hlt1, ← hxq]
        conv => lhs; unfold szS
        rw [if_pos hz3]
      clear hcs hxq
      go_wp2
      go_roundw
      case rel => exact ⟨q + 1, z + x.size, by omega, by go_num, by go_num, by omega, by omega, hE, HN⟩
      case measure => simp [intOf]; omega
    · have HS1 : Hid (szS l (m + m') = z) := by
        show _ = _
        rw [HC.out]
        by_cases hz3 : z < 1099511627776
        · rw [List.drop_eq_nil_of_le (by have := HL.out; omega)]
          rfl
        · exact szS_stop _ hz3
      have hor : ¬ (q : Int) < (m : Int) ∨ ((q : Int) < (m : Int) ∧ ¬ (z : Int) < 1099511627776) := by omega
      clear hlt HC
      rcases hor with hi | ⟨hi, hi2⟩
      all_goals
        go_wp2
        go_loopw [5, 7] (fun n i wr2 => ∃ (p : Nat) (y : Nat), p ≤ m' ∧ i = .int .i64 p ∧ n = .int .i64 y ∧ z ≤ y ∧ y ≤ 562949953421312 ∧ Ext wr wr2 ∧ Hid (szF f z = szF (f.drop p) y)) (fun _ i _ => m' - (intOf i).toNat)
        case atStart => exact ⟨0, z, Nat.zero_le _, rfl, rfl, Nat.le_refl _, by omega, Ext.refl _, Lib.hid (by rw [List.drop_zero])⟩
        case round =>
          obtain ⟨p, y, hp, rfl, rfl, hy1, hy2, hE2, HC2⟩ := hrel
          by_cases hlt2 : p < m' ∧ y < 1099511627776
          · obtain ⟨hlt2, hy3⟩ := hlt2
            have hy4 : (y : Int) < 1099511627776 := by omega
            obtain ⟨b2, off2, e0, hbl2, hcs2⟩ := (hf.sl.ext (hE.trans hE2)).at_ hlt2 (by omega)
            dsimp only at e0
            subst e0
            have hlt3 : p < f.length := by rw [← HL'.out]; exact hlt2
            obtain ⟨x, hxq⟩ : ∃ x, x = f[p] := ⟨_, rfl⟩
            have hgs := HG'.out _ (List.getElem_mem hlt3)
            rw [← hxq] at hgs
            obtain ⟨na, va⟩ := x
            obtain ⟨hg1, hg2⟩ := hgs
            unfold GoodStr at hg1 hg2
            dsimp only at hg1 hg2
            have x0 := hcs2 p hlt3 0 (by omega)
            have x1 := hcs2 p hlt3 1 (by omega)
            simp only [← hxq, fdC, List.getElem_cons_zero, List.getElem_cons_succ, Nat.add_zero, ← Nat.add_assoc] at x0 x1
            have hi3 : (p : Int) < (m' : Int) := by omega
            have HN : Hid (szF f z = szF (f.drop (p + 1)) (y + na.size + va.size)) := by
              show _ = _
              rw [HC2.out, List.drop_eq_getElem_cons hlt3, ← hxq]
              conv => lhs; unfold szF
              rw [if_pos hy3]
            clear hcs2 hxq
            go_wp2
            go_quiet (fail)
            go_wp2
            go_roundw
            case rel => exact ⟨p + 1, y + na.size + va.size, by omega, by go_num, by go_num, by omega, by omega, Ext.drewN hE2 _, HN⟩
            case measure => simp [intOf]; omega
          · have HP : Hid (sizeN l f = y) := by
              show _ = _
              unfold sizeN
              rw [← HL.out, ← HL'.out, HS1.out, HC2.out]
              by_cases hy3 : y < 1099511627776
              · rw [List.drop_eq_nil_of_le (by have := HL'.out; omega)]
                rfl
              · exact szF_stop _ hy3
            have hor2 : ¬ (p : Int) < (m' : Int) ∨ ((p : Int) < (m' : Int) ∧ ¬ (y : Int) < 1099511627776) := by omega
            rcases hor2 with hj | ⟨hj, hj2⟩
            all_goals
              go_wp2
              go_ret
              exact ⟨by rw [HP.out]; rfl, by rw [HP.out]; omega, hE.trans hE2⟩
end

end Go.Proofs.YtgnchicipmomlaaGreatDoor

/- The reference's FewEntry. -/
namespace Go.Proofs.YtgnchicipmomlaaGreatDoor
open Go.RowKit
set_option maxRecDepth 100000

/-- An entry of at most 6000 bytes. -/
def fewE (x : Ep) : Bool := decide (x.id.size + x.src.size + x.tgt.size ≤ 6000) && decide (sizeN x.com x.fd + sizeN x.fl [] ≤ 6000)
theorem szS_ub (l : List ByteArray) (hg : ∀ s ∈ l, GoodStr s) (z : Nat) (hz : z ≤ 281474976710656) : szS l z ≤ 281474976710656 := by
  induction l generalizing z with
  | nil => exact hz
  | cons x t ih =>
    have h1 := hg x (.head _)
    unfold GoodStr at h1
    unfold szS
    by_cases h : z < 1099511627776
    · rw [if_pos h]
      exact ih (fun s hs => hg s (.tail _ hs)) _ (by omega)
    · rw [if_neg h]
      exact hz
theorem szF_ub (l : List Fd) (hg : ∀ s ∈ l, GoodFd s) (z : Nat) (hz : z ≤ 562949953421312) : szF l z ≤ 562949953421312 := by
  induction l generalizing z with
  | nil => exact hz
  | cons x t ih =>
    obtain ⟨h1, h2⟩ := hg x (.head _)
    unfold GoodStr at h1 h2
    unfold szF
    by_cases h : z < 1099511627776
    · rw [if_pos h]
      exact ih (fun s hs => hg s (.tail _ hs)) _ (by omega)
    · rw [if_neg h]
      exact hz
theorem sizeN_ub {w : World} {h h' : SlH} {l : List ByteArray} {f : List Fd} (hs : StrsW w h l) (hf : FdsW w h' f) : sizeN l f ≤ 562949953421312 := by
  have h1 := hs.sl.len
  have h2 := hf.sl.len
  have h3 := hs.bd
  have h4 := hf.bd
  exact szF_ub f hf.good _ (Nat.le_trans (szS_ub l hs.good _ (by omega)) (by omega))
section
variable {w : World}
set_option maxHeartbeats 3200000 in
theorem fewEntry_any {x : Ent} (hx : EntW w x) :
    Calls Tryz.prog 23 #[entV x] w fun e w' => e = .returned (.bool (fewE x.p)) ∧ Ext w w' := by
  obtain ⟨⟨id, src, tgt, com, fl, st, fd⟩, hc, hf, hd⟩ := x
  obtain ⟨kc, kf, kd, gid, gsrc, gtgt, gst1, gst2⟩ := hx
  unfold entV
  dsimp only at *
  unfold GoodStr at gid gsrc gtgt
  obtain ⟨W0, hW⟩ : ∃ W0, W0 = w.alloc (Obj.cells #[.string id, .string src, .string tgt, .slice hc.A hc.m hc.c, .slice hf.A hf.m hf.c, .int .i64 st, .slice hd.A hd.m hd.c] 39) := ⟨_, rfl⟩
  have hb : Blk W0 w.heap.size 39 #[.string id, .string src, .string tgt, .slice hc.A hc.m hc.c, .slice hf.A hf.m hf.c, .int .i64 st, .slice hd.A hd.m hd.c] := by rw [hW]; exact Blk.new w _ _
  have hW0 : Ext w W0 := by rw [hW]; exact (Ext.refl w).alloc _
  obtain ⟨n1, hn1⟩ : ∃ n1, n1 = sizeN com fd := ⟨_, rfl⟩
  obtain ⟨n2, hn2⟩ : ∃ n2, n2 = sizeN fl [] := ⟨_, rfl⟩
  have HV1 : Hid (∀ u : ExtOf W0, Calls Tryz.prog 22 #[.slice hc.A hc.m hc.c, .slice hd.A hd.m hd.c] u.1 fun e w' => e = .returned (.int .i64 n1) ∧ Ext u.1 w') := fun u => (size_any (HW.ext kc (hW0.trans u.ext)) (HW.ext kd (hW0.trans u.ext))).mono fun e w' h => ⟨by rw [hn1]; exact h.1, h.2.2⟩
  have HV2 : Hid (∀ u : ExtOf W0, Calls Tryz.prog 22 #[.slice hf.A hf.m hf.c, .slice none 0 0] u.1 fun e w' => e = .returned (.int .i64 n2) ∧ Ext u.1 w') := fun u => (size_any (h' := ⟨none, 0, 0⟩) (HW.ext kf (hW0.trans u.ext)) (HW.nil_ fdC_len)).mono fun e w' h => ⟨by rw [hn2]; exact h.1, h.2.2⟩
  have b1 : n1 ≤ 562949953421312 := by rw [hn1]; exact sizeN_ub kc kd
  have b2 : n2 ≤ 562949953421312 := by rw [hn2]; exact sizeN_ub (h' := ⟨none, 0, 0⟩) (w := w) kf (HW.nil_ fdC_len)
  have HE : Hid (fewE ⟨id, src, tgt, com, fl, st, fd⟩ = (decide (id.size + src.size + tgt.size ≤ 6000) && decide (n1 + n2 ≤ 6000))) := by
    show fewE _ = _
    unfold fewE
    rw [hn1, hn2]
  have b1i : (n1 : Int) ≤ 562949953421312 := by omega
  have b2i : (n2 : Int) ≤ 562949953421312 := by omega
  have B1 := Lib.hid b1
  have B2 := Lib.hid b2
  clear hn1 hn2 kc kf kd gst1 gst2 b1 b2
  have hs1 : W0.heap.size = w.heap.size + 1 := by rw [hW]; simp
  go_enter Tryz.func23, Tryz.ntmps23
  go_wp2
  rw [← hW]
  obtain ⟨g, hg⟩ : ∃ g, g = w.heap.size := ⟨_, rfl⟩
  rw [← hg] at hb hs1 ⊢
  have X0 := latersU (show _ = some (.string id) from hb.cell 0)
  have X1 := latersU (show _ = some (.string src) from hb.cell 1)
  have X2 := latersU (show _ = some (.string tgt) from hb.cell 2)
  have X3 := latersU (show _ = some (.slice hc.A hc.m hc.c) from hb.cell 3)
  have X4 := latersU (show _ = some (.slice hf.A hf.m hf.c) from hb.cell 4)
  have X6 := latersU (show _ = some (.slice hd.A hd.m hd.c) from hb.cell 6)
  clear hb hW hg hs1
  by_cases c1 : id.size + src.size + tgt.size ≤ 6000
  · have c1i : (id.size : Int) + src.size + tgt.size ≤ 6000 := by omega
    by_cases c2 : n1 + n2 ≤ 6000
    · have c2i : (n1 : Int) + n2 ≤ 6000 := by omega
      have HF : Hid (fewE ⟨id, src, tgt, com, fl, st, fd⟩ = true) := by show _ = _; rw [HE.out, decide_eq_true c1, decide_eq_true c2]; rfl
      refine wp_region_ext_lit (by kernel_rfl) (by kernel_rfl) ?_
      try dsimp only [List.append]
      repeat (go_big_quiet_step (first | (go_at_call 22; with_reducible exact Calls.quiet_ext (HV1.out _)) | (go_at_call 22; with_reducible exact Calls.quiet_ext (HV2.out _))))
      refine wpQuiet_nil ?_
      rintro w5 ⟨⟨_, h5⟩, rfl⟩
      try dsimp only
      go_wp2
      go_ret
      exact ⟨by rw [HF.out]; first | done | rfl, hW0.trans h5⟩
    · have c2i : ¬ (n1 : Int) + n2 ≤ 6000 := by omega
      have HF : Hid (fewE ⟨id, src, tgt, com, fl, st, fd⟩ = false) := by show _ = _; rw [HE.out, decide_eq_true c1, decide_eq_false c2]; rfl
      refine wp_region_ext_lit (by kernel_rfl) (by kernel_rfl) ?_
      try dsimp only [List.append]
      repeat (go_big_quiet_step (first | (go_at_call 22; with_reducible exact Calls.quiet_ext (HV1.out _)) | (go_at_call 22; with_reducible exact Calls.quiet_ext (HV2.out _))))
      refine wpQuiet_nil ?_
      rintro w5 ⟨⟨_, h5⟩, rfl⟩
      try dsimp only
      go_wp2
      go_ret
      exact ⟨by rw [HF.out]; first | done | rfl, hW0.trans h5⟩
  · have c1i : ¬ (id.size : Int) + src.size + tgt.size ≤ 6000 := by omega
    have HF : Hid (fewE ⟨id, src, tgt, com, fl, st, fd⟩ = false) := by show _ = _; rw [HE.out, decide_eq_false c1]; rfl
    refine wp_region_ext_lit (by kernel_rfl) (by kernel_rfl) ?_
    try dsimp only [List.append]
    repeat (go_big_quiet_step (fail))
    refine wpQuiet_nil ?_
    rintro w5 ⟨⟨_, h5⟩, rfl⟩
    try dsimp only
    go_wp2
    go_ret
    exact ⟨by rw [HF.out]; first | done | rfl, hW0.trans h5⟩
end

end Go.Proofs.YtgnchicipmomlaaGreatDoor

/- The reference's Few. -/
namespace Go.Proofs.YtgnchicipmomlaaGreatDoor
open Go.RowKit
set_option maxRecDepth 100000

/-- A catalog of few entries and few bytes. -/
def fewC (c : Cp) : Bool := decide (c.tag.size ≤ 100) && decide (sizeN c.com c.fd ≤ 6000) && decide (c.es.length ≤ 12) && c.es.all fewE
section
variable {w : World}
set_option maxHeartbeats 3200000 in
theorem few_any {x : Cat} (hx : CatW w x) :
    Calls Tryz.prog 8 #[catV x] w fun e w' => e = .returned (.bool (fewC x.p)) ∧ Ext w w' := by
  obtain ⟨tag, com, fd, es, hc, hd, ⟨A, m, c⟩⟩ := x
  have hs := hx.e
  have kc := hx.c
  have kd := hx.d
  unfold catV
  dsimp only at *
  have HL := Lib.hid hs.sl.len
  have hle := hs.sl.le
  dsimp only at HL hle
  have HFC : Hid (fewC (Cat.p ⟨tag, com, fd, es, hc, hd, ⟨A, m, c⟩⟩) = (decide (tag.size ≤ 100) && decide (sizeN com fd ≤ 6000) && decide (m ≤ 12) && es.all fun y => fewE y.p)) := by
    show _ = _
    unfold fewC Cat.p
    dsimp only
    rw [List.length_map, List.all_map, HL.out]
    rfl
  obtain ⟨W0, hW0⟩ : ∃ W0, W0 = w.alloc (Obj.cells #[.string tag, .slice hc.A hc.m hc.c, .slice hd.A hd.m hd.c, .slice A m c] 32) := ⟨_, rfl⟩
  have hb : Blk W0 w.heap.size 32 #[.string tag, .slice hc.A hc.m hc.c, .slice hd.A hd.m hd.c, .slice A m c] := by rw [hW0]; exact Blk.new w _ _
  have hE0 : Ext w W0 := by rw [hW0]; exact (Ext.refl w).alloc _
  clear hx
  go_enter Tryz.func8, Tryz.ntmps8
  by_cases c1 : 100 < tag.size
  · have c1i : (100 : Int) < (tag.size : Int) := by omega
    have HF : Hid (fewC (Cat.p ⟨tag, com, fd, es, hc, hd, ⟨A, m, c⟩⟩) = false) := by show _ = _; rw [HFC.out, decide_eq_false (show ¬ tag.size ≤ 100 by omega)]; rfl
    clear hb hW0
    go_wp2
    go_ret
    exact ⟨by rw [HF.out]; rfl, (Ext.refl w).alloc _⟩
  have c1i : ¬ (100 : Int) < (tag.size : Int) := by omega
  have Z1 := Lib.hid (decide_eq_true (show tag.size ≤ 100 by omega))
  go_wp2_with (first
    | (go_at_call 22; refine Hid.out ?_))
  refine Hid.mk_ ((size_any (HW.ext kc (hW0 ▸ hE0)) (HW.ext kd (hW0 ▸ hE0))).mono ?_)
  rintro e w1 ⟨rfl, hn, hE1⟩
  rw [← hW0] at hE1
  have hE01 := hE0.trans hE1
  have hb1 := hb.below hE1 hb.lt
  clear hb hW0
  obtain ⟨g, hg⟩ : ∃ g, g = w.heap.size := ⟨_, rfl⟩
  rw [← hg] at hb1 ⊢
  have d3 : w1.cell? ⟨g, 3, none⟩ = some (.slice A m c) := hb1.cell 3
  have HB := Lib.hid d3
  clear hg hb1
  obtain ⟨n, hn9⟩ : ∃ n, n = sizeN com fd := ⟨_, rfl⟩
  rw [← hn9] at hn HFC ⊢
  clear hn9
  by_cases c2 : 6000 < n
  · have c2i : (6000 : Int) < (n : Int) := by omega
    have HF : Hid (fewC (Cat.p ⟨tag, com, fd, es, hc, hd, ⟨A, m, c⟩⟩) = false) := by show _ = _; rw [HFC.out, Z1.out, decide_eq_false (show ¬ n ≤ 6000 by omega)]; rfl
    go_wp2
    go_ret
    exact ⟨by rw [HF.out]; rfl, hE01⟩
  have c2i : ¬ (6000 : Int) < (n : Int) := by omega
  have Z2 := Lib.hid (decide_eq_true (show n ≤ 6000 by omega))
  by_cases c3 : 12 < m
  · have c3i : (12 : Int) < (m : Int) := by omega
    have HF : Hid (fewC (Cat.p ⟨tag, com, fd, es, hc, hd, ⟨A, m, c⟩⟩) = false) := by show _ = _; rw [HFC.out, decide_eq_false (show ¬ m ≤ 12 by omega)]; simp
    go_wp2
    go_ret
    exact ⟨by rw [HF.out]; rfl, hE01⟩
  have c3i : ¬ (12 : Int) < (m : Int) := by omega
  have Z3 := Lib.hid (decide_eq_true (show m ≤ 12 by omega))
  go_wp2
  go_loopw [3] (fun i wr => ∃ q : Nat, q ≤ m ∧ i = .int .i64 q ∧ Ext w1 wr ∧ Hid ((es.all fun y => fewE y.p) = (es.drop q).all fun y => fewE y.p)) (fun i _ => m - (intOf i).toNat)
  case atStart => exact ⟨0, Nat.zero_le _, rfl, Ext.refl _, Lib.hid (by rw [List.drop_zero])⟩
  case round =>
    obtain ⟨q, hq, rfl, hE, HC⟩ := hrel
    have h3 := later hE HB.out
    by_cases hlt : q < m
    · obtain ⟨b, off, e0, hbl, hcs⟩ := (hs.sl.ext (hE01.trans hE)).at_ hlt (by omega)
      dsimp only at e0
      subst e0
      have hlt1 : q < es.length := by rw [← HL.out]; exact hlt
      obtain ⟨y, hyq⟩ : ∃ y, y = es[q] := ⟨_, rfl⟩
      have y0 := hcs q hlt1 0 (by omega)
      have y1 := hcs q hlt1 1 (by omega)
      have y2 := hcs q hlt1 2 (by omega)
      have y3 := hcs q hlt1 3 (by omega)
      have y4 := hcs q hlt1 4 (by omega)
      have y5 := hcs q hlt1 5 (by omega)
      have y6 := hcs q hlt1 6 (by omega)
      simp only [← hyq, entC, List.getElem_cons_zero, List.getElem_cons_succ, Nat.add_zero, ← Nat.add_assoc] at y0 y1 y2 y3 y4 y5 y6
      have hi1 : (q : Int) < (m : Int) := by omega
      have hyW : EntW wr y := by rw [hyq]; exact (EntsW.ext hs (hE01.trans hE)).good _ (List.getElem_mem hlt1)
      have HY := Lib.hid hyq
      clear hcs hyq
      go_wp2_with (first
        | (go_at_call 23; refine Hid.out ?_))
      refine Hid.mk_ ((fewEntry_any hyW).mono ?_)
      rintro e w2 ⟨rfl, hE2⟩
      cases hfe : fewE y.p with
      | false =>
        have HF : Hid (fewC (Cat.p ⟨tag, com, fd, es, hc, hd, ⟨some ⟨b, off, none⟩, m, c⟩⟩) = false) := by
          show _ = _
          rw [HFC.out, HC.out, List.drop_eq_getElem_cons hlt1, List.all_cons, ← HY.out, hfe]
          simp
        clear hfe
        go_wp2
        go_ret
        exact ⟨by rw [HF.out]; rfl, (hE01.trans hE).trans hE2⟩
      | true =>
        have HN : Hid ((es.all fun y => fewE y.p) = (es.drop (q + 1)).all fun y => fewE y.p) := by
          show _ = _
          rw [HC.out, List.drop_eq_getElem_cons hlt1, List.all_cons, ← HY.out, hfe, Bool.true_and]
        clear hfe
        go_wp2
        go_roundw
        case rel => exact ⟨q + 1, by omega, by go_num, hE.trans hE2, HN⟩
        case measure => simp [intOf]; omega
    · have hi1 : ¬ (q : Int) < (m : Int) := by omega
      have HF : Hid (fewC (Cat.p ⟨tag, com, fd, es, hc, hd, ⟨A, m, c⟩⟩) = true) := by
        show _ = _
        rw [HFC.out, Z1.out, Z2.out, Z3.out, HC.out, List.drop_eq_nil_of_le (by have := HL.out; omega)]
        rfl
      go_wp2
      go_ret
      exact ⟨by rw [HF.out]; rfl, hE01.trans hE⟩
end

end Go.Proofs.YtgnchicipmomlaaGreatDoor

/- What the table says of slices of strings, fields, entries. -/
namespace Go.Proofs.YtgnchicipmomlaaGreatDoor
open Go.RowKit
set_option maxRecDepth 100000
theorem einfo_ss : EInfo 28 9 1 16 := EInfo.mk_ (z := .string ⟨#[]⟩) Tryz.underlying28 (by kernel_rfl) rfl (by omega) (by omega)
theorem einfo_fd : EInfo 29 56 2 32 := EInfo.mk_ (z := .agg #[.string ⟨#[]⟩, .string ⟨#[]⟩]) Tryz.underlying29 (by kernel_rfl) rfl (by omega) (by omega)
def ent0 : Ent := ⟨⟨⟨#[]⟩, ⟨#[]⟩, ⟨#[]⟩, [], [], 0, []⟩, ⟨none, 0, 0⟩, ⟨none, 0, 0⟩, ⟨none, 0, 0⟩⟩
theorem einfo_ent : EInfo 30 39 7 128 := EInfo.mk_ (z := entV ent0) Tryz.underlying30 (by kernel_rfl) rfl (by omega) (by omega)
end Go.Proofs.YtgnchicipmomlaaGreatDoor

/- The reference's equality of fields, entries, catalogs. -/
namespace Go.Proofs.YtgnchicipmomlaaGreatDoor
open Go.RowKit
set_option maxRecDepth 100000
attribute [local go_sem] ext_refl_t ext_alloc_t ext_drew_t ext_drewN_t ext_alloc2_t ext_alloc3_t ext_alloc4_t ext_alloc5_t ext_alloc6_t ext_alloc7_t ext_alloc8_t ext_alloc1d_t ext_alloc2d_t ext_alloc3d_t ext_alloc4d_t
instance : DecidableEq Ep := fun a b => decidable_of_iff (a.id = b.id ∧ a.src = b.src ∧ a.tgt = b.tgt ∧ a.st = b.st ∧ a.com = b.com ∧ a.fl = b.fl ∧ a.fd = b.fd) (by
  obtain ⟨a1, a2, a3, a4, a5, a6, a7⟩ := a
  obtain ⟨b1, b2, b3, b4, b5, b6, b7⟩ := b
  simp only [Ep.mk.injEq]
  constructor <;> (rintro ⟨h1, h2, h3, h4, h5, h6, h7⟩; exact ⟨h1, h2, h3, by assumption, by assumption, by assumption, by assumption⟩))
/-- Equal but for their entries. -/
def eqH (a b : Cp) : Bool := decide (a.tag = b.tag) && decide (a.com = b.com) && decide (a.fd = b.fd)
def eqC (a b : Cp) : Bool := eqH a b && decide (a.es = b.es)
theorem eqC_iff {a b : Cp} : eqC a b = true ↔ a = b := by
  obtain ⟨a1, a2, a3, a4⟩ := a
  obtain ⟨b1, b2, b3, b4⟩ := b
  simp only [eqC, eqH, Bool.and_eq_true, decide_eq_true_eq, Cp.mk.injEq]
  constructor
  · rintro ⟨⟨⟨h1, h2⟩, h3⟩, h4⟩; exact ⟨h1, h2, h3, h4⟩
  · rintro ⟨h1, h2, h3, h4⟩; exact ⟨⟨⟨h1, h2⟩, h3⟩, h4⟩
section
variable {w : World}
set_option maxHeartbeats 3200000 in
theorem rsameF_any {h h' : SlH} {l m : List Fd} (hs : FdsW w h l) (hs' : FdsW w h' m) :
    Calls Tryz.prog 54 #[.slice h.A h.m h.c, .slice h'.A h'.m h'.c] w fun e w' => e = .returned (.bool (decide (l = m))) ∧ Ext w w' := by
  obtain ⟨A, n, c⟩ := h
  obtain ⟨B, n', d⟩ := h'
  have HL1 := Lib.hid hs.sl.len
  have HL2 := Lib.hid hs'.sl.len
  have hle := hs.sl.le
  have hle' := hs'.sl.le
  dsimp only at HL1 HL2 hle hle' ⊢
  by_cases hlen : n = n'
  · subst hlen
    have e0 : ((n : Int) != (n : Int)) = false := by simp
    go_enter Tryz.func54, Tryz.ntmps54
    go_wp2
    go_loopw [5] (fun i wr => ∃ k : Nat, k ≤ n ∧ i = .int .i64 k ∧ Hid (l.take k = m.take k) ∧ Ext w wr) (fun i _ => n - (intOf i).toNat)
    case atStart => exact ⟨0, Nat.zero_le _, rfl, Lib.hid rfl, Ext.refl _⟩
    case round =>
      obtain ⟨k, hk, rfl, HP, hE⟩ := hrel
      by_cases hlt : k < n
      · obtain ⟨b, off, e1, _, hc⟩ := (hs.sl.ext hE).at_ hlt (by omega)
        obtain ⟨b', off', e2, _, hc'⟩ := (hs'.sl.ext hE).at_ hlt (by omega)
        dsimp only at e1 e2
        subst e1 e2
        have hlt1 : k < l.length := by rw [← HL1.out]; exact hlt
        have hlt2 : k < m.length := by rw [← HL2.out]; exact hlt
        obtain ⟨x, hxq⟩ : ∃ x, x = l[k] := ⟨_, rfl⟩
        obtain ⟨y, hyq⟩ : ∃ y, y = m[k] := ⟨_, rfl⟩
        obtain ⟨s, s2⟩ := x
        obtain ⟨t, t2⟩ := y
        have x0 := hc k hlt1 0 (by omega)
        have x1 := hc k hlt1 1 (by omega)
        have y0 := hc' k hlt2 0 (by omega)
        have y1 := hc' k hlt2 1 (by omega)
        simp only [← hxq, ← hyq, fdC, List.getElem_cons_zero, List.getElem_cons_succ, Nat.add_zero, ← Nat.add_assoc] at x0 x1 y0 y1
        have hi1 : (k : Int) < (n : Int) := by omega
        have HX := Lib.hid hxq
        have HY := Lib.hid hyq
        clear hc hc' hxq hyq
        have Y0 := latersU x0
        have Y1 := latersU x1
        have Y2 := latersU y0
        have Y3 := latersU y1
        by_cases heq : s = t ∧ s2 = t2
        · have hb1 : (s.toList == t.toList) = true := by simp [heq.1]
          have hb2 : (s2.toList == t2.toList) = true := by simp [heq.2]
          have Heq := Lib.hid heq; clear heq
          go_wp2
          refine wp_region_ext_lit (by kernel_rfl) (by kernel_rfl) ?_
          try dsimp only [List.append]
          repeat (go_big_quiet_step (fail))
          refine wpQuiet_nil ?_
          rintro w5 ⟨⟨_, h5⟩, rfl⟩
          try dsimp only
          go_wp2
          go_roundw
          case rel => exact ⟨k + 1, by omega, by go_num, by show _ = _; rw [List.take_succ_eq_append_getElem hlt1, List.take_succ_eq_append_getElem hlt2, HP.out, ← HX.out, ← HY.out, Heq.out.1, Heq.out.2], hE.trans h5⟩
          case measure => simp [intOf]; omega
        · have HF : Hid (decide (l = m) = false) := by
            show _ = _
            simp only [decide_eq_false_iff_not]
            rintro rfl
            have h9 := HX.out.trans HY.out.symm
            injection h9 with h91 h92
            exact heq ⟨h91, h92⟩
          by_cases h1 : s = t
          · have hb1 : (s.toList == t.toList) = true := by simp [h1]
            have hb2 : (s2.toList == t2.toList) = false := by
              rw [beq_eq_false_iff_ne]
              exact fun hh => heq ⟨h1, toList_inj hh⟩
            clear heq h1
            go_wp2
            refine wp_region_ext_lit (by kernel_rfl) (by kernel_rfl) ?_
            try dsimp only [List.append]
            repeat (go_big_quiet_step (fail))
            refine wpQuiet_nil ?_
            rintro w5 ⟨⟨_, h5⟩, rfl⟩
            try dsimp only
            go_wp2
            go_ret
            exact ⟨by rw [HF.out]; first | done | rfl, hE.trans h5⟩
          · have hb1 : (s.toList == t.toList) = false := by
              rw [beq_eq_false_iff_ne]
              exact fun hh => h1 (toList_inj hh)
            clear heq h1
            go_wp2
            refine wp_region_ext_lit (by kernel_rfl) (by kernel_rfl) ?_
            try dsimp only [List.append]
            repeat (go_big_quiet_step (fail))
            refine wpQuiet_nil ?_
            rintro w5 ⟨⟨_, h5⟩, rfl⟩
            try dsimp only
            go_wp2
            go_ret
            exact ⟨by rw [HF.out]; first | done | rfl, hE.trans h5⟩
      · have HF : Hid (decide (l = m) = true) := by
          show _ = _
          simp only [decide_eq_true_eq]
          have := HP.out
          rwa [List.take_of_length_le (by rw [← HL1.out]; omega), List.take_of_length_le (by rw [← HL2.out]; omega)] at this
        have hi1 : ¬ (k : Int) < (n : Int) := by omega
        go_wp2
        go_ret
        exact ⟨by rw [HF.out]; first | done | rfl, hE⟩
  · have hne : ((n : Int) != (n' : Int)) = true := by simp only [bne_iff_ne, ne_eq]; omega
    have HF : Hid (decide (l = m) = false) := by
      show _ = _
      simp only [decide_eq_false_iff_not]
      rintro rfl
      exact hlen (HL1.out.trans HL2.out.symm)
    go_enter Tryz.func54, Tryz.ntmps54
    go_wp2
    go_ret
    exact ⟨by rw [HF.out]; first | done | rfl, Ext.refl _⟩
end

end Go.Proofs.YtgnchicipmomlaaGreatDoor

/- Equality of lists of strings and fields, of entries: the program's and the reference's. -/
namespace Go.Proofs.YtgnchicipmomlaaGreatDoor
open Go.RowKit
set_option maxRecDepth 100000
attribute [local go_sem] ext_refl_t ext_alloc_t ext_drew_t ext_drewN_t ext_alloc2_t ext_alloc3_t ext_alloc4_t ext_alloc5_t ext_alloc6_t ext_alloc7_t ext_alloc8_t ext_alloc1d_t ext_alloc2d_t ext_alloc3d_t ext_alloc4d_t
theorem HW.sls {w : World} {h : SlH} {l : List ByteArray} (hh : StrsW w h l) : SlS w h.A h.m l := hh.sl.sls (by have := hh.bd; omega)
section
variable {w : World}
theorem rsameS_any {h h' : SlH} {l m : List ByteArray} (hs : StrsW w h l) (hs' : StrsW w h' m) :
    Calls Tryz.prog 53 #[.slice h.A h.m h.c, .slice h'.A h'.m h'.c] w fun e w' => e = .returned (.bool (decide (l = m))) ∧ Ext w w' := same5 _ _ hs.sls hs'.sls
end

end Go.Proofs.YtgnchicipmomlaaGreatDoor

/- Equality of entries: the program's and the reference's. -/
namespace Go.Proofs.YtgnchicipmomlaaGreatDoor
open Go.RowKit
set_option maxRecDepth 100000
attribute [local go_sem] ext_refl_t ext_alloc_t ext_drew_t ext_drewN_t ext_alloc2_t ext_alloc3_t ext_alloc4_t ext_alloc5_t ext_alloc6_t ext_alloc7_t ext_alloc8_t ext_alloc1d_t ext_alloc2d_t ext_alloc3d_t ext_alloc4d_t
section
variable {w : World}
set_option maxHeartbeats 6400000 in
theorem reqE_any {x y : Ent} (hx : EntW w x) (hy : EntW w y) :
    Calls Tryz.prog 55 #[entV x, entV y] w fun e w' => e = .returned (.bool (decide (x.p = y.p))) ∧ Ext w w' := by
  obtain ⟨⟨aid, asrc, atgt, acom, afl, ast, afd⟩, ahc, ahf, ahd⟩ := x
  obtain ⟨⟨bid, bsrc, btgt, bcom, bfl, bst, bfd⟩, bhc, bhf, bhd⟩ := y
  obtain ⟨akc, akf, akd, _, _, _, _, _⟩ := hx
  obtain ⟨bkc, bkf, bkd, _, _, _, _, _⟩ := hy
  unfold entV
  dsimp only at *
  have hb0 : Blk ((w.alloc (Obj.cells #[.string aid, .string asrc, .string atgt, .slice ahc.A ahc.m ahc.c, .slice ahf.A ahf.m ahf.c, .int .i64 ast, .slice ahd.A ahd.m ahd.c] 39)).alloc (Obj.cells #[.string bid, .string bsrc, .string btgt, .slice bhc.A bhc.m bhc.c, .slice bhf.A bhf.m bhf.c, .int .i64 bst, .slice bhd.A bhd.m bhd.c] 39)) w.heap.size 39 #[.string aid, .string asrc, .string atgt, .slice ahc.A ahc.m ahc.c, .slice ahf.A ahf.m ahf.c, .int .i64 ast, .slice ahd.A ahd.m ahd.c] := (Blk.new w _ _).alloc _
  have hb1 : Blk ((w.alloc (Obj.cells #[.string aid, .string asrc, .string atgt, .slice ahc.A ahc.m ahc.c, .slice ahf.A ahf.m ahf.c, .int .i64 ast, .slice ahd.A ahd.m ahd.c] 39)).alloc (Obj.cells #[.string bid, .string bsrc, .string btgt, .slice bhc.A bhc.m bhc.c, .slice bhf.A bhf.m bhf.c, .int .i64 bst, .slice bhd.A bhd.m bhd.c] 39)) (w.heap.size + 1) 39 #[.string bid, .string bsrc, .string btgt, .slice bhc.A bhc.m bhc.c, .slice bhf.A bhf.m bhf.c, .int .i64 bst, .slice bhd.A bhd.m bhd.c] := by
    have h := Blk.new (w.alloc (Obj.cells #[.string aid, .string asrc, .string atgt, .slice ahc.A ahc.m ahc.c, .slice ahf.A ahf.m ahf.c, .int .i64 ast, .slice ahd.A ahd.m ahd.c] 39)) 39 #[.string bid, .string bsrc, .string btgt, .slice bhc.A bhc.m bhc.c, .slice bhf.A bhf.m bhf.c, .int .i64 bst, .slice bhd.A bhd.m bhd.c]
    simpa using h
  have hE0 : Ext w ((w.alloc (Obj.cells #[.string aid, .string asrc, .string atgt, .slice ahc.A ahc.m ahc.c, .slice ahf.A ahf.m ahf.c, .int .i64 ast, .slice ahd.A ahd.m ahd.c] 39)).alloc (Obj.cells #[.string bid, .string bsrc, .string btgt, .slice bhc.A bhc.m bhc.c, .slice bhf.A bhf.m bhf.c, .int .i64 bst, .slice bhd.A bhd.m bhd.c] 39)) := ((Ext.refl w).alloc _).alloc _
  have HNE : Hid (¬ (aid = bid ∧ asrc = bsrc ∧ atgt = btgt ∧ ast = bst ∧ acom = bcom ∧ afl = bfl ∧ afd = bfd) → decide ((⟨aid, asrc, atgt, acom, afl, ast, afd⟩ : Ep) = ⟨bid, bsrc, btgt, bcom, bfl, bst, bfd⟩) = false) := fun h => decide_eq_false (fun e => h (by injection e with h1 h2 h3 h4 h5 h6 h7; exact ⟨h1, h2, h3, h6, h4, h5, h7⟩))
  have HEQ : Hid (aid = bid ∧ asrc = bsrc ∧ atgt = btgt ∧ ast = bst ∧ acom = bcom ∧ afl = bfl → decide ((⟨aid, asrc, atgt, acom, afl, ast, afd⟩ : Ep) = ⟨bid, bsrc, btgt, bcom, bfl, bst, bfd⟩) = decide (afd = bfd)) := fun ⟨h1, h2, h3, h4, h5, h6⟩ => by
    subst h1 h2 h3 h4 h5 h6
    by_cases h7 : afd = bfd
    · subst h7; simp
    · rw [decide_eq_false h7]; exact decide_eq_false (fun e => h7 (by injection e))
  have Xa0 := laters (show _ = some (.string aid) from hb0.cell 0)
  have Xb0 := laters (show _ = some (.string bid) from hb1.cell 0)
  have Xa1 := laters (show _ = some (.string asrc) from hb0.cell 1)
  have Xb1 := laters (show _ = some (.string bsrc) from hb1.cell 1)
  have Xa2 := laters (show _ = some (.string atgt) from hb0.cell 2)
  have Xb2 := laters (show _ = some (.string btgt) from hb1.cell 2)
  have Xa3 := laters (show _ = some (.slice ahc.A ahc.m ahc.c) from hb0.cell 3)
  have Xb3 := laters (show _ = some (.slice bhc.A bhc.m bhc.c) from hb1.cell 3)
  have Xa4 := laters (show _ = some (.slice ahf.A ahf.m ahf.c) from hb0.cell 4)
  have Xb4 := laters (show _ = some (.slice bhf.A bhf.m bhf.c) from hb1.cell 4)
  have Xa5 := laters (show _ = some (.int .i64 ast) from hb0.cell 5)
  have Xb5 := laters (show _ = some (.int .i64 bst) from hb1.cell 5)
  have Xa6 := laters (show _ = some (.slice ahd.A ahd.m ahd.c) from hb0.cell 6)
  have Xb6 := laters (show _ = some (.slice bhd.A bhd.m bhd.c) from hb1.cell 6)
  clear hb0 hb1
  by_cases hq : aid = bid
  case neg =>
    have hbq : (aid.toList == bid.toList) = false := by rw [beq_eq_false_iff_ne]; exact fun hh => hq (toList_inj hh)
    have HF := Lib.hid (HNE.out (fun h => hq h.1))
    clear hq
    go_enter Tryz.func55, Tryz.ntmps55
    go_wp2
    go_ret
    exact ⟨by rw [HF.out]; first | done | rfl, hE0⟩
  have hbaid : (aid.toList == bid.toList) = true := by rw [hq]; simp
  have Haid := Lib.hid hq
  clear hq
  by_cases hq : asrc = bsrc
  case neg =>
    have hbq : (asrc.toList == bsrc.toList) = false := by rw [beq_eq_false_iff_ne]; exact fun hh => hq (toList_inj hh)
    have HF := Lib.hid (HNE.out (fun h => hq h.2.1))
    clear hq
    go_enter Tryz.func55, Tryz.ntmps55
    go_wp2
    go_ret
    exact ⟨by rw [HF.out]; first | done | rfl, hE0⟩
  have hbasrc : (asrc.toList == bsrc.toList) = true := by rw [hq]; simp
  have Hasrc := Lib.hid hq
  clear hq
  by_cases hq : atgt = btgt
  case neg =>
    have hbq : (atgt.toList == btgt.toList) = false := by rw [beq_eq_false_iff_ne]; exact fun hh => hq (toList_inj hh)
    have HF := Lib.hid (HNE.out (fun h => hq h.2.2.1))
    clear hq
    go_enter Tryz.func55, Tryz.ntmps55
    go_wp2
    go_ret
    exact ⟨by rw [HF.out]; first | done | rfl, hE0⟩
  have hbatgt : (atgt.toList == btgt.toList) = true := by rw [hq]; simp
  have Hatgt := Lib.hid hq
  clear hq
  by_cases hq : ast = bst
  case neg =>
    have hbq : (ast == bst) = false := by rw [beq_eq_false_iff_ne]; exact hq
    have HF := Lib.hid (HNE.out (fun h => hq h.2.2.2.1))
    clear hq
    go_enter Tryz.func55, Tryz.ntmps55
    go_wp2
    go_ret
    exact ⟨by rw [HF.out]; first | done | rfl, hE0⟩
  have hbast : (ast == bst) = true := by rw [hq]; simp
  have Hast := Lib.hid hq
  clear hq
  go_enter Tryz.func55, Tryz.ntmps55
  go_wp2_with (first
    | (go_at_call 53; refine Hid.out ?_))
  refine Hid.mk_ ((rsameS_any (akc.ext hE0) (bkc.ext hE0)).mono ?_)
  rintro e w1 ⟨rfl, hE1⟩
  have hE01 := hE0.trans hE1
  by_cases hq : acom = bcom
  case neg =>
    rw [decide_eq_false hq]
    have HF := Lib.hid (HNE.out (fun h => hq h.2.2.2.2.1))
    clear hq
    go_wp2
    go_ret
    exact ⟨by rw [HF.out]; first | done | rfl, hE01⟩
  rw [decide_eq_true hq]
  have Hacom := Lib.hid hq
  clear hq
  go_wp2_with (first
    | (go_at_call 53; refine Hid.out ?_))
  refine Hid.mk_ ((rsameS_any (akf.ext hE01) (bkf.ext hE01)).mono ?_)
  rintro e w2 ⟨rfl, hE2⟩
  have hE12 := hE1.trans hE2
  have hE02 := hE01.trans hE2
  by_cases hq : afl = bfl
  case neg =>
    rw [decide_eq_false hq]
    have HF := Lib.hid (HNE.out (fun h => hq h.2.2.2.2.2.1))
    clear hq
    go_wp2
    go_ret
    exact ⟨by rw [HF.out]; first | done | rfl, hE02⟩
  rw [decide_eq_true hq]
  have HF := Lib.hid (HEQ.out ⟨Haid.out, Hasrc.out, Hatgt.out, Hast.out, Hacom.out, hq⟩)
  clear hq
  go_wp2_with (first
    | (go_at_call 54; refine Hid.out ?_))
  refine Hid.mk_ ((rsameF_any (akd.ext hE02) (bkd.ext hE02)).mono ?_)
  rintro e w3 ⟨rfl, hE3⟩
  go_wp2
  go_ret
  exact ⟨by rw [HF.out]; first | done | rfl | simp, hE02.trans hE3⟩
end

end Go.Proofs.YtgnchicipmomlaaGreatDoor

/- Equality of lists of entries. -/
namespace Go.Proofs.YtgnchicipmomlaaGreatDoor
open Go.RowKit
set_option maxRecDepth 100000
attribute [local go_sem] ext_refl_t ext_alloc_t ext_drew_t ext_drewN_t ext_alloc2_t ext_alloc3_t ext_alloc4_t ext_alloc5_t ext_alloc6_t ext_alloc7_t ext_alloc8_t ext_alloc1d_t ext_alloc2d_t ext_alloc3d_t ext_alloc4d_t
section
variable {w : World}
set_option maxHeartbeats 6400000 in
theorem rsameEs_any {h h' : SlH} {l m : List Ent} (hs : EntsW w h l) (hs' : EntsW w h' m) :
    Calls Tryz.prog 28 #[.slice h.A h.m h.c, .slice h'.A h'.m h'.c] w fun e w' => e = .returned (.bool (decide (l.map Ent.p = m.map Ent.p))) ∧ Ext w w' := by
  obtain ⟨A, n, c⟩ := h
  obtain ⟨B, n', d⟩ := h'
  have HL1 := Lib.hid hs.sl.len
  have HL2 := Lib.hid hs'.sl.len
  have hle := hs.sl.le
  have hle' := hs'.sl.le
  dsimp only at HL1 HL2 hle hle' ⊢
  by_cases hlen : n = n'
  case neg =>
    have hne : ((n : Int) != (n' : Int)) = true := by simp only [bne_iff_ne, ne_eq]; omega
    have HF : Hid (decide (l.map Ent.p = m.map Ent.p) = false) := by
      show _ = _
      simp only [decide_eq_false_iff_not]
      intro e
      have e2 := congrArg List.length e
      rw [List.length_map, List.length_map] at e2
      exact hlen (HL1.out.trans (e2.trans HL2.out.symm))
    go_enter Tryz.func28, Tryz.ntmps28
    go_wp2
    go_ret
    exact ⟨by rw [HF.out]; first | done | rfl, Ext.refl _⟩
  subst hlen
  have e0 : ((n : Int) != (n : Int)) = false := by simp
  go_enter Tryz.func28, Tryz.ntmps28
  go_wp2
  go_loopw [5] (fun i wr => ∃ k : Nat, k ≤ n ∧ i = .int .i64 k ∧ Hid ((l.map Ent.p).take k = (m.map Ent.p).take k) ∧ Ext w wr) (fun i _ => n - (intOf i).toNat)
  case atStart => exact ⟨0, Nat.zero_le _, rfl, Lib.hid rfl, Ext.refl _⟩
  case round =>
    obtain ⟨k, hk, rfl, HP, hE⟩ := hrel
    by_cases hlt : k < n
    · obtain ⟨b, off, e1, _, hc⟩ := (hs.sl.ext hE).at_ hlt (by omega)
      obtain ⟨b', off', e2, _, hc'⟩ := (hs'.sl.ext hE).at_ hlt (by omega)
      dsimp only at e1 e2
      subst e1 e2
      have hlt1 : k < l.length := by rw [← HL1.out]; exact hlt
      have hlt2 : k < m.length := by rw [← HL2.out]; exact hlt
      obtain ⟨x, hxq⟩ : ∃ x, x = l[k] := ⟨_, rfl⟩
      obtain ⟨y, hyq⟩ : ∃ y, y = m[k] := ⟨_, rfl⟩
      have hx := hs.good _ (List.getElem_mem hlt1)
      rw [← hxq] at hx
      have hy := hs'.good _ (List.getElem_mem hlt2)
      rw [← hyq] at hy
      have x0 := hc k hlt1 0 (by omega)
      have y0 := hc' k hlt2 0 (by omega)
      have x1 := hc k hlt1 1 (by omega)
      have y1 := hc' k hlt2 1 (by omega)
      have x2 := hc k hlt1 2 (by omega)
      have y2 := hc' k hlt2 2 (by omega)
      have x3 := hc k hlt1 3 (by omega)
      have y3 := hc' k hlt2 3 (by omega)
      have x4 := hc k hlt1 4 (by omega)
      have y4 := hc' k hlt2 4 (by omega)
      have x5 := hc k hlt1 5 (by omega)
      have y5 := hc' k hlt2 5 (by omega)
      have x6 := hc k hlt1 6 (by omega)
      have y6 := hc' k hlt2 6 (by omega)
      simp only [← hxq, ← hyq, entC, List.getElem_cons_zero, List.getElem_cons_succ, Nat.add_zero, ← Nat.add_assoc] at x0 y0 x1 y1 x2 y2 x3 y3 x4 y4 x5 y5 x6 y6
      have hi1 : (k : Int) < (n : Int) := by omega
      have HX := Lib.hid hxq
      have HY := Lib.hid hyq
      clear hc hc' hxq hyq
      have HNE : Hid (x.p ≠ y.p → decide (l.map Ent.p = m.map Ent.p) = false) := fun hne => decide_eq_false (fun e => hne (by
        rw [HX.out, HY.out]
        have h1 : (l.map Ent.p)[k]'(by rw [List.length_map]; exact hlt1) = (m.map Ent.p)[k]'(by rw [List.length_map]; exact hlt2) := by simp only [e]
        rwa [List.getElem_map, List.getElem_map] at h1))
      have HST : Hid (x.p = y.p → (l.map Ent.p).take (k + 1) = (m.map Ent.p).take (k + 1)) := fun e => by
        rw [List.take_succ_eq_append_getElem (by rw [List.length_map]; exact hlt1), List.take_succ_eq_append_getElem (by rw [List.length_map]; exact hlt2), HP.out, List.getElem_map, List.getElem_map, ← HX.out, ← HY.out, e]
      have hcall : ∀ u : ExtOf wr, Calls Tryz.prog 55 #[.agg #[.string x.p.id, .string x.p.src, .string x.p.tgt, .slice x.c.A x.c.m x.c.c, .slice x.f.A x.f.m x.f.c, .int .i64 x.p.st, .slice x.d.A x.d.m x.d.c], .agg #[.string y.p.id, .string y.p.src, .string y.p.tgt, .slice y.c.A y.c.m y.c.c, .slice y.f.A y.f.m y.f.c, .int .i64 y.p.st, .slice y.d.A y.d.m y.d.c]] u.1 fun e w' => e = .returned (.bool (decide (x.p = y.p))) ∧ Ext u.1 w' := fun u => reqE_any (hx.ext (hE.trans u.ext)) (hy.ext (hE.trans u.ext))
      have X0 := latersU x0
      have Y0 := latersU y0
      have X1 := latersU x1
      have Y1 := latersU y1
      have X2 := latersU x2
      have Y2 := latersU y2
      have X3 := latersU x3
      have Y3 := latersU y3
      have X4 := latersU x4
      have Y4 := latersU y4
      have X5 := latersU x5
      have Y5 := latersU y5
      have X6 := latersU x6
      have Y6 := latersU y6
      obtain ⟨r, hr⟩ : ∃ r, r = decide (x.p = y.p) := ⟨_, rfl⟩
      rw [← hr] at hcall
      have HV := Lib.hid hcall
      have HR := Lib.hid hr
      clear hcall hr
      cases r with
      | false =>
        have HF := Lib.hid (HNE.out (of_decide_eq_false HR.out.symm))
        go_wp2
        refine wp_region_ext_lit (by kernel_rfl) (by kernel_rfl) ?_
        try dsimp only [List.append]
        repeat (go_big_quiet_step ((go_at_call 55; with_reducible exact Calls.quiet_ext (HV.out _))))
        refine wpQuiet_nil ?_
        rintro w5 ⟨⟨_, h5⟩, rfl⟩
        try dsimp only
        go_wp2
        go_ret
        exact ⟨by rw [HF.out]; first | done | rfl, hE.trans h5⟩
      | true =>
        have HN := Lib.hid (HST.out (of_decide_eq_true HR.out.symm))
        go_wp2
        refine wp_region_ext_lit (by kernel_rfl) (by kernel_rfl) ?_
        try dsimp only [List.append]
        repeat (go_big_quiet_step ((go_at_call 55; with_reducible exact Calls.quiet_ext (HV.out _))))
        refine wpQuiet_nil ?_
        rintro w5 ⟨⟨_, h5⟩, rfl⟩
        try dsimp only
        go_wp2
        go_roundw
        case rel => exact ⟨k + 1, by omega, by go_num, HN, hE.trans h5⟩
        case measure => simp [intOf]; omega
    · have HF : Hid (decide (l.map Ent.p = m.map Ent.p) = true) := by
        show _ = _
        simp only [decide_eq_true_eq]
        have := HP.out
        rwa [List.take_of_length_le (by rw [List.length_map, ← HL1.out]; omega), List.take_of_length_le (by rw [List.length_map, ← HL2.out]; omega)] at this
      have hi1 : ¬ (k : Int) < (n : Int) := by omega
      go_wp2
      go_ret
      exact ⟨by rw [HF.out]; first | done | rfl, hE⟩
end

end Go.Proofs.YtgnchicipmomlaaGreatDoor

/- Equality of catalogs; IDs; Count. -/
namespace Go.Proofs.YtgnchicipmomlaaGreatDoor
open Go.RowKit
set_option maxRecDepth 100000
attribute [local go_sem] ext_refl_t ext_alloc_t ext_drew_t ext_drewN_t ext_alloc2_t ext_alloc3_t ext_alloc4_t ext_alloc5_t ext_alloc6_t ext_alloc7_t ext_alloc8_t ext_alloc1d_t ext_alloc2d_t ext_alloc3d_t ext_alloc4d_t
section
variable {w : World}
set_option maxHeartbeats 6400000 in
theorem reqH_any {x y : Cat} (hx : CatW w x) (hy : CatW w y) :
    Calls Tryz.prog 27 #[catV x, catV y] w fun e w' => e = .returned (.bool (eqH x.p y.p)) ∧ Ext w w' := by
  have HX := Lib.hid hx
  have HY := Lib.hid hy
  obtain ⟨atag, acom, afd, aes, ahc, ahd, ahe⟩ := x
  obtain ⟨btag, bcom, bfd, bes, bhc, bhd, bhe⟩ := y
  obtain ⟨_, akc, akd, ake⟩ := hx
  obtain ⟨_, bkc, bkd, bke⟩ := hy
  have HCA : Hid (catV ⟨atag, acom, afd, aes, ahc, ahd, ahe⟩ = .agg #[.string atag, .slice ahc.A ahc.m ahc.c, .slice ahd.A ahd.m ahd.c, .slice ahe.A ahe.m ahe.c]) := rfl
  have HCB : Hid (catV ⟨btag, bcom, bfd, bes, bhc, bhd, bhe⟩ = .agg #[.string btag, .slice bhc.A bhc.m bhc.c, .slice bhd.A bhd.m bhd.c, .slice bhe.A bhe.m bhe.c]) := rfl
  rw [HCA.out, HCB.out]
  dsimp only at *
  have hb0 : Blk ((w.alloc (Obj.cells #[.string atag, .slice ahc.A ahc.m ahc.c, .slice ahd.A ahd.m ahd.c, .slice ahe.A ahe.m ahe.c] 32)).alloc (Obj.cells #[.string btag, .slice bhc.A bhc.m bhc.c, .slice bhd.A bhd.m bhd.c, .slice bhe.A bhe.m bhe.c] 32)) w.heap.size 32 #[.string atag, .slice ahc.A ahc.m ahc.c, .slice ahd.A ahd.m ahd.c, .slice ahe.A ahe.m ahe.c] := (Blk.new w _ _).alloc _
  have hb1 : Blk ((w.alloc (Obj.cells #[.string atag, .slice ahc.A ahc.m ahc.c, .slice ahd.A ahd.m ahd.c, .slice ahe.A ahe.m ahe.c] 32)).alloc (Obj.cells #[.string btag, .slice bhc.A bhc.m bhc.c, .slice bhd.A bhd.m bhd.c, .slice bhe.A bhe.m bhe.c] 32)) (w.heap.size + 1) 32 #[.string btag, .slice bhc.A bhc.m bhc.c, .slice bhd.A bhd.m bhd.c, .slice bhe.A bhe.m bhe.c] := by
    have h := Blk.new (w.alloc (Obj.cells #[.string atag, .slice ahc.A ahc.m ahc.c, .slice ahd.A ahd.m ahd.c, .slice ahe.A ahe.m ahe.c] 32)) 32 #[.string btag, .slice bhc.A bhc.m bhc.c, .slice bhd.A bhd.m bhd.c, .slice bhe.A bhe.m bhe.c]
    simpa using h
  have hE0 : Ext w ((w.alloc (Obj.cells #[.string atag, .slice ahc.A ahc.m ahc.c, .slice ahd.A ahd.m ahd.c, .slice ahe.A ahe.m ahe.c] 32)).alloc (Obj.cells #[.string btag, .slice bhc.A bhc.m bhc.c, .slice bhd.A bhd.m bhd.c, .slice bhe.A bhe.m bhe.c] 32)) := ((Ext.refl w).alloc _).alloc _
  have HV : Hid (∀ b : Bool, eqH (Cat.p ⟨atag, acom, afd, aes, ahc, ahd, ahe⟩) (Cat.p ⟨btag, bcom, bfd, bes, bhc, bhd, bhe⟩) = b → eqH (Cat.p ⟨atag, acom, afd, aes, ahc, ahd, ahe⟩) (Cat.p ⟨btag, bcom, bfd, bes, bhc, bhd, bhe⟩) = b) := fun _ h => h
  have Xa0 := laters (show _ = some (.string atag) from hb0.cell 0)
  have Xb0 := laters (show _ = some (.string btag) from hb1.cell 0)
  have Xa1 := laters (show _ = some (.slice ahc.A ahc.m ahc.c) from hb0.cell 1)
  have Xb1 := laters (show _ = some (.slice bhc.A bhc.m bhc.c) from hb1.cell 1)
  have Xa2 := laters (show _ = some (.slice ahd.A ahd.m ahd.c) from hb0.cell 2)
  have Xb2 := laters (show _ = some (.slice bhd.A bhd.m bhd.c) from hb1.cell 2)
  have Xa3 := laters (show _ = some (.slice ahe.A ahe.m ahe.c) from hb0.cell 3)
  have Xb3 := laters (show _ = some (.slice bhe.A bhe.m bhe.c) from hb1.cell 3)
  clear hb0 hb1
  by_cases hq : atag = btag
  case neg =>
    have hbq : (atag.toList == btag.toList) = false := by rw [beq_eq_false_iff_ne]; exact fun hh => hq (toList_inj hh)
    have HF := Lib.hid (HV.out false (by show eqH _ _ = false; unfold eqH Cat.p; dsimp only; rw [decide_eq_false hq]; simp))
    clear hq
    go_enter Tryz.func27, Tryz.ntmps27
    go_wp2
    go_ret
    exact ⟨by rw [HF.out]; first | done | rfl, hE0⟩
  have hba : (atag.toList == btag.toList) = true := by rw [hq]; simp
  have HQ1 := Lib.hid hq
  clear hq
  go_enter Tryz.func27, Tryz.ntmps27
  go_wp2_with (first
    | (go_at_call 53; refine Hid.out ?_))
  refine Hid.mk_ ((rsameS_any (akc.ext hE0) (bkc.ext hE0)).mono ?_)
  rintro e w1 ⟨rfl, hE1⟩
  have hE01 := hE0.trans hE1
  by_cases hq : acom = bcom
  case neg =>
    rw [decide_eq_false hq]
    have HF := Lib.hid (HV.out false (by show eqH _ _ = false; unfold eqH Cat.p; dsimp only; rw [decide_eq_false hq]; simp))
    clear hq
    go_wp2
    go_ret
    exact ⟨by rw [HF.out]; first | done | rfl, hE01⟩
  rw [decide_eq_true hq]
  have HQ2 := Lib.hid hq
  clear hq
  go_wp2_with (first
    | (go_at_call 54; refine Hid.out ?_))
  refine Hid.mk_ ((rsameF_any (akd.ext hE01) (bkd.ext hE01)).mono ?_)
  rintro e w2 ⟨rfl, hE2⟩
  have hE12 := hE1.trans hE2
  have hE02 := hE01.trans hE2
  have HF := Lib.hid (HV.out (decide (afd = bfd)) (by show eqH _ _ = _; unfold eqH Cat.p; dsimp only; rw [decide_eq_true HQ1.out, decide_eq_true HQ2.out]; simp))
  go_wp2
  go_ret
  exact ⟨by rw [HF.out]; first | done | rfl | simp, hE02⟩
set_option maxHeartbeats 6400000 in
theorem reqC_any {x y : Cat} (hx : CatW w x) (hy : CatW w y) :
    Calls Tryz.prog 10 #[catV x, catV y] w fun e w' => e = .returned (.bool (eqC x.p y.p)) ∧ Ext w w' := by
  have HX := Lib.hid hx
  have HY := Lib.hid hy
  obtain ⟨atag, acom, afd, aes, ahc, ahd, ahe⟩ := x
  obtain ⟨btag, bcom, bfd, bes, bhc, bhd, bhe⟩ := y
  obtain ⟨_, akc, akd, ake⟩ := hx
  obtain ⟨_, bkc, bkd, bke⟩ := hy
  have HCA : Hid (catV ⟨atag, acom, afd, aes, ahc, ahd, ahe⟩ = .agg #[.string atag, .slice ahc.A ahc.m ahc.c, .slice ahd.A ahd.m ahd.c, .slice ahe.A ahe.m ahe.c]) := rfl
  have HCB : Hid (catV ⟨btag, bcom, bfd, bes, bhc, bhd, bhe⟩ = .agg #[.string btag, .slice bhc.A bhc.m bhc.c, .slice bhd.A bhd.m bhd.c, .slice bhe.A bhe.m bhe.c]) := rfl
  rw [HCA.out, HCB.out]
  dsimp only at *
  have hb0 : Blk ((w.alloc (Obj.cells #[.string atag, .slice ahc.A ahc.m ahc.c, .slice ahd.A ahd.m ahd.c, .slice ahe.A ahe.m ahe.c] 32)).alloc (Obj.cells #[.string btag, .slice bhc.A bhc.m bhc.c, .slice bhd.A bhd.m bhd.c, .slice bhe.A bhe.m bhe.c] 32)) w.heap.size 32 #[.string atag, .slice ahc.A ahc.m ahc.c, .slice ahd.A ahd.m ahd.c, .slice ahe.A ahe.m ahe.c] := (Blk.new w _ _).alloc _
  have hb1 : Blk ((w.alloc (Obj.cells #[.string atag, .slice ahc.A ahc.m ahc.c, .slice ahd.A ahd.m ahd.c, .slice ahe.A ahe.m ahe.c] 32)).alloc (Obj.cells #[.string btag, .slice bhc.A bhc.m bhc.c, .slice bhd.A bhd.m bhd.c, .slice bhe.A bhe.m bhe.c] 32)) (w.heap.size + 1) 32 #[.string btag, .slice bhc.A bhc.m bhc.c, .slice bhd.A bhd.m bhd.c, .slice bhe.A bhe.m bhe.c] := by
    have h := Blk.new (w.alloc (Obj.cells #[.string atag, .slice ahc.A ahc.m ahc.c, .slice ahd.A ahd.m ahd.c, .slice ahe.A ahe.m ahe.c] 32)) 32 #[.string btag, .slice bhc.A bhc.m bhc.c, .slice bhd.A bhd.m bhd.c, .slice bhe.A bhe.m bhe.c]
    simpa using h
  have hE0 : Ext w ((w.alloc (Obj.cells #[.string atag, .slice ahc.A ahc.m ahc.c, .slice ahd.A ahd.m ahd.c, .slice ahe.A ahe.m ahe.c] 32)).alloc (Obj.cells #[.string btag, .slice bhc.A bhc.m bhc.c, .slice bhd.A bhd.m bhd.c, .slice bhe.A bhe.m bhe.c] 32)) := ((Ext.refl w).alloc _).alloc _
  have HV : Hid (∀ b : Bool, eqC (Cat.p ⟨atag, acom, afd, aes, ahc, ahd, ahe⟩) (Cat.p ⟨btag, bcom, bfd, bes, bhc, bhd, bhe⟩) = b → eqC (Cat.p ⟨atag, acom, afd, aes, ahc, ahd, ahe⟩) (Cat.p ⟨btag, bcom, bfd, bes, bhc, bhd, bhe⟩) = b) := fun _ h => h
  have Xa0 := laters (show _ = some (.string atag) from hb0.cell 0)
  have Xb0 := laters (show _ = some (.string btag) from hb1.cell 0)
  have Xa1 := laters (show _ = some (.slice ahc.A ahc.m ahc.c) from hb0.cell 1)
  have Xb1 := laters (show _ = some (.slice bhc.A bhc.m bhc.c) from hb1.cell 1)
  have Xa2 := laters (show _ = some (.slice ahd.A ahd.m ahd.c) from hb0.cell 2)
  have Xb2 := laters (show _ = some (.slice bhd.A bhd.m bhd.c) from hb1.cell 2)
  have Xa3 := laters (show _ = some (.slice ahe.A ahe.m ahe.c) from hb0.cell 3)
  have Xb3 := laters (show _ = some (.slice bhe.A bhe.m bhe.c) from hb1.cell 3)
  clear hb0 hb1
  have hh := reqH_any (HX.out.ext hE0) (HY.out.ext hE0)
  rw [HCA.out, HCB.out] at hh
  go_enter Tryz.func10, Tryz.ntmps10
  go_wp2_with (first
    | (go_at_call 27; refine Hid.out ?_))
  refine Hid.mk_ ((hh).mono ?_)
  rintro e w1 ⟨rfl, hE1⟩
  have hE01 := hE0.trans hE1
  clear hh
  cases hq : eqH (Cat.p ⟨atag, acom, afd, aes, ahc, ahd, ahe⟩) (Cat.p ⟨btag, bcom, bfd, bes, bhc, bhd, bhe⟩) with
  | false =>
    have HF := Lib.hid (HV.out false (by unfold eqC; rw [hq]; rfl))
    clear hq
    go_wp2
    go_ret
    exact ⟨by rw [HF.out]; first | done | rfl, hE01⟩
  | true =>
  have HF := Lib.hid (HV.out (decide (aes.map Ent.p = bes.map Ent.p)) (by show eqC _ _ = _; unfold eqC; rw [hq]; rfl))
  clear hq
  go_wp2_with (first
    | (go_at_call 28; refine Hid.out ?_))
  refine Hid.mk_ ((rsameEs_any (EntsW.ext ake hE01) (EntsW.ext bke hE01)).mono ?_)
  rintro e w3 ⟨rfl, hE3⟩
  go_wp2
  go_ret
  exact ⟨by rw [HF.out]; first | done | rfl | simp, hE01.trans hE3⟩
end

end Go.Proofs.YtgnchicipmomlaaGreatDoor
