/- The reference's Find. -/
import Derived.Test.YtcdpmgdocgddcaaDoorCatFi
import Derived.Test.YtcdpmgdocgddcaaDoorSameS
import Derived.Test.YtcdpmgdocgddcaaDoorCatV
namespace Go.Proofs.YtcdpmgdocgddcaaDoor
open Go.RowKit
set_option maxRecDepth 100000

section
variable {w : World}
set_option maxHeartbeats 3200000 in
theorem refFind_any {x : Cat} (hx : CatW w x) (id : ByteArray) :
    Calls Tryd.prog 17 #[catV x, .string id] w fun e w' => (∃ z, FindZ x.p.es id z ∧ e = .returned (FindV z)) ∧ Ext w w' := by
  obtain ⟨tag, com, fd, es, hc, hd, ⟨A, m, c⟩⟩ := x
  have hs := hx.e
  unfold catV
  dsimp only at *
  have HL := Lib.hid hs.sl.len
  have hle := hs.sl.le
  dsimp only at HL hle
  obtain ⟨W0, hW0⟩ : ∃ W0, W0 = w.alloc (Obj.cells #[.string tag, .slice hc.A hc.m hc.c, .slice hd.A hd.m hd.c, .slice A m c] 26) := ⟨_, rfl⟩
  have hb : Blk W0 w.heap.size 26 #[.string tag, .slice hc.A hc.m hc.c, .slice hd.A hd.m hd.c, .slice A m c] := by rw [hW0]; exact Blk.new w _ _
  have hE0 : Ext w W0 := by rw [hW0]; exact (Ext.refl w).alloc _
  clear hx
  go_enter Tryd.func17, Tryd.ntmps17
  go_wp2
  rw [← hW0]
  obtain ⟨g, hg⟩ : ∃ g, g = w.heap.size := ⟨_, rfl⟩
  rw [← hg] at hb ⊢
  have HB := Lib.hid (show W0.cell? ⟨g, 3, none⟩ = some (.slice A m c) from hb.cell 3)
  clear hW0 hg hb
  go_loopw [6] (fun i wr => ∃ q : Nat, q ≤ m ∧ i = .int .i64 q ∧ Ext W0 wr ∧ Hid (∀ j (_ : j < q) (h : j < es.length), es[j].p.id ≠ id)) (fun i _ => m - (intOf i).toNat)
  case atStart => exact ⟨0, Nat.zero_le _, rfl, Ext.refl _, fun j hj _ => absurd hj (by omega)⟩
  case round =>
    obtain ⟨q, hq, rfl, hE, HC⟩ := hrel
    have h3 := later hE HB.out
    by_cases hlt : q < m
    · obtain ⟨b, off, e0, hbl, hcs⟩ := (hs.sl.ext (hE0.trans hE)).at_ hlt (by omega)
      dsimp only at e0
      subst e0
      have hlt1 : q < es.length := by rw [← HL.out]; exact hlt
      obtain ⟨y, hyq⟩ : ∃ y, y = es[q] := ⟨_, rfl⟩
      have y0 := hcs q hlt1 0 (by omega)
      simp only [← hyq, entC, List.getElem_cons_zero, Nat.add_zero] at y0
      have hi1 : (q : Int) < (m : Int) := by omega
      have HY := Lib.hid hyq
      clear hcs hyq
      by_cases hid : y.p.id = id
      · have HF : Hid (FindZ (es.map Ent.p) id (q : Int)) := .inr ⟨q, rfl, by rw [List.length_map]; exact hlt1, by simp only [List.getElem_map]; rw [← HY.out]; exact hid, fun j hj => by simp only [List.getElem_map]; exact HC.out j hj (by omega)⟩
        have HV : Hid (FindV (q : Int) = .tuple #[.int .i64 q, .bool true]) := by show FindV _ = _; unfold FindV; rw [if_pos (by omega), decide_eq_true (by omega)]
        have hbq : (y.p.id.toList == id.toList) = true := by rw [hid]; simp
        clear hid
        go_wp2
        go_ret2
        exact ⟨⟨q, HF.out, by rw [HV.out]; first | done | rfl | simp⟩, hE0.trans hE⟩
      · have HN : Hid (∀ j (_ : j < q + 1) (h : j < es.length), es[j].p.id ≠ id) := fun j hj h => by
          rcases Nat.lt_or_ge j q with h2 | h2
          · exact HC.out j h2 h
          · obtain rfl : j = q := by omega
            rw [← HY.out]; exact hid
        have hbq : (y.p.id.toList == id.toList) = false := by
          rw [beq_eq_false_iff_ne]
          exact fun hh => hid (toList_inj hh)
        clear hid
        go_wp2
        go_roundw
        case rel => exact ⟨q + 1, by omega, by go_num, hE, HN⟩
        case measure => simp [intOf]; omega
    · have hi1 : ¬ (q : Int) < (m : Int) := by omega
      have HF : Hid (FindZ (es.map Ent.p) id (-1)) := .inl ⟨rfl, fun j hj => by
        simp only [List.getElem_map]
        rw [List.length_map] at hj
        exact HC.out j (by have := HL.out; omega) hj⟩
      go_wp2
      go_ret2
      exact ⟨⟨-1, HF.out, rfl⟩, hE0.trans hE⟩
end

end Go.Proofs.YtcdpmgdocgddcaaDoor

/- The reference's size: how many bytes strings and fields have. -/
namespace Go.Proofs.YtcdpmgdocgddcaaDoor
open Go.RowKit
set_option maxRecDepth 100000

/-- What size counts: it stops at 1 << 40. -/
def szS : List ByteArray → Nat → Nat
  | [], z => z
  | x :: t, z => if z < 1099511627776 then szS t (z + x.size) else z
def szF : List Fd → Nat → Nat
  | [], z => z
  | x :: t, z => if z < 1099511627776 then szF t (z + x.1.size + x.2.size) else z
def sizeN (l : List ByteArray) (f : List Fd) : Nat := szF f (szS l (l.length + f.length))
theorem szS_le (l : List ByteArray) (z : Nat) : z ≤ szS l z ∧ (szS l z ≤ 6000 → ∀ s ∈ l, s.size ≤ szS l z) := by
  induction l generalizing z with
  | nil => exact ⟨Nat.le_refl _, fun _ s h => by cases h⟩
  | cons x t ih =>
    unfold szS
    by_cases h : z < 1099511627776
    · rw [if_pos h]
      obtain ⟨h1, h2⟩ := ih (z + x.size)
      refine ⟨by omega, fun h3 s hs => ?_⟩
      rcases List.mem_cons.1 hs with rfl | hs
      · omega
      · exact h2 h3 s hs
    · rw [if_neg h]
      exact ⟨Nat.le_refl _, fun h3 => by omega⟩
theorem szF_le (l : List Fd) (z : Nat) : z ≤ szF l z ∧ (szF l z ≤ 6000 → ∀ s ∈ l, s.1.size ≤ szF l z ∧ s.2.size ≤ szF l z) := by
  induction l generalizing z with
  | nil => exact ⟨Nat.le_refl _, fun _ s h => by cases h⟩
  | cons x t ih =>
    unfold szF
    by_cases h : z < 1099511627776
    · rw [if_pos h]
      obtain ⟨h1, h2⟩ := ih (z + x.1.size + x.2.size)
      refine ⟨by omega, fun h3 s hs => ?_⟩
      rcases List.mem_cons.1 hs with rfl | hs
      · exact ⟨by omega, by omega⟩
      · exact h2 h3 s hs
    · rw [if_neg h]
      exact ⟨Nat.le_refl _, fun h3 => by omega⟩
/-- What is known where it is small. -/
theorem sizeN_le {l : List ByteArray} {f : List Fd} (h : sizeN l f ≤ 6000) : l.length + f.length ≤ sizeN l f ∧ (∀ s ∈ l, s.size ≤ sizeN l f) ∧ ∀ x ∈ f, x.1.size ≤ sizeN l f ∧ x.2.size ≤ sizeN l f := by
  unfold sizeN at *
  obtain ⟨h1, h2⟩ := szF_le f (szS l (l.length + f.length))
  obtain ⟨h3, h4⟩ := szS_le l (l.length + f.length)
  exact ⟨by omega, fun s hs => by have := h4 (by omega) s hs; omega, h2 h⟩
theorem szS_stop (l : List ByteArray) {z : Nat} (h : ¬ z < 1099511627776) : szS l z = z := by cases l with
  | nil => rfl
  | cons x t => unfold szS; rw [if_neg h]
theorem szF_stop (l : List Fd) {z : Nat} (h : ¬ z < 1099511627776) : szF l z = z := by cases l with
  | nil => rfl
  | cons x t => unfold szF; rw [if_neg h]
section
variable {w : World}
set_option maxHeartbeats 3200000 in
theorem size_any {h h' : SlH} {l : List ByteArray} {f : List Fd} (hs : StrsW w h l) (hf : FdsW w h' f) :
    Calls Tryd.prog 43 #[.slice h.A h.m h.c, .slice h'.A h'.m h'.c] w fun e w' => e = .returned (.int .i64 (sizeN l f)) ∧ sizeN l f ≤ 562949953421312 ∧ Ext w w' := by
  obtain ⟨A, m, c⟩ := h
  obtain ⟨B, m', c'⟩ := h'
  have HL := Lib.hid hs.sl.len
  have HL' := Lib.hid hf.sl.len
  have hle := hs.bd
  have hle' := hf.bd
  have HG := Lib.hid hs.good
  have HG' := Lib.hid hf.good
  dsimp only at HL HL' hle hle' ⊢
  have hm1 : m ≤ 8796093022208 := by omega
  have hm2 : m' ≤ 8796093022208 := by omega
  clear hle hle'
  go_enter Tryd.func43, Tryd.ntmps43
  go_wp2
  go_loopw [5, 6] (fun n i wr => ∃ (q : Nat) (z : Nat), q ≤ m ∧ i = .int .i64 q ∧ n = .int .i64 z ∧ m + m' ≤ z ∧ z ≤ 281474976710656 ∧ Ext w wr ∧ Hid (szS l (m + m') = szS (l.drop q) z)) (fun _ i _ => m - (intOf i).toNat)
  case atStart => exact ⟨0, m + m', Nat.zero_le _, rfl, by go_num, Nat.le_refl _, by omega, Ext.refl _, Lib.hid (by rw [List.drop_zero])⟩
  case round =>
    obtain ⟨q, z, hq, rfl, rfl, hz1, hz2, hE, HC⟩ := hrel
    by_cases hlt : q < m ∧ z < 1099511627776
    · obtain ⟨hlt, hz3⟩ := hlt
      have hz4 : (z : Int) < 1099511627776 := by omega
      obtain ⟨b, off, e0, hbl, hcs⟩ := (hs.sl.ext hE).at_ hlt (by omega)
      dsimp only at e0
      subst e0
      have hlt1 : q < l.length := by rw [← HL.out]; exact hlt
      obtain ⟨x, hxq⟩ : ∃ x, x = l[q] := ⟨_, rfl⟩
      have hgs := HG.out _ (List.getElem_mem hlt1)
      rw [← hxq] at hgs
      unfold GoodStr at hgs
      have x0 := hcs q hlt1 0 (by omega)
      simp only [← hxq, strF, List.getElem_cons_zero, Nat.mul_one, Nat.add_zero] at x0
      have hi1 : (q : Int) < (m : Int) := by omega
      have HN : Hid (szS l (m + m') = szS (l.drop (q + 1)) (z + x.size)) := by
        show _ = _
        rw [HC.out, List.drop_eq_getElem_cons hlt1, ← hxq]
        conv => lhs; unfold szS
        rw [if_pos hz3]
      clear hcs hxq
      go_wp2
      go_roundw
      case rel => exact ⟨q + 1, z + x.size, by omega, by go_num, by go_num, by omega, by omega, hE, HN⟩
      case measure => simp [intOf]; omega
    · have HS1 : Hid (szS l (m + m') = z) := by
        show _ = _
        rw [HC.out]
        by_cases hz3 : z < 1099511627776
        · rw [List.drop_eq_nil_of_le (by have := HL.out; omega)]
          rfl
        · exact szS_stop _ hz3
      have hor : ¬ (q : Int) < (m : Int) ∨ ((q : Int) < (m : Int) ∧ ¬ (z : Int) < 1099511627776) := by omega
      clear hlt HC
      rcases hor with hi | ⟨hi, hi2⟩
      all_goals
        go_wp2
        go_loopw [5, 7] (fun n i wr2 => ∃ (p : Nat) (y : Nat), p ≤ m' ∧ i = .int .i64 p ∧ n = .int .i64 y ∧ z ≤ y ∧ y ≤ 562949953421312 ∧ Ext wr wr2 ∧ Hid (szF f z = szF (f.drop p) y)) (fun _ i _ => m' - (intOf i).toNat)
        case atStart => exact ⟨0, z, Nat.zero_le _, rfl, rfl, Nat.le_refl _, by omega, Ext.refl _, Lib.hid (by rw [List.drop_zero])⟩
        case round =>
          obtain ⟨p, y, hp, rfl, rfl, hy1, hy2, hE2, HC2⟩ := hrel
          by_cases hlt2 : p < m' ∧ y < 1099511627776
          · obtain ⟨hlt2, hy3⟩ := hlt2
            have hy4 : (y : Int) < 1099511627776 := by omega
            obtain ⟨b2, off2, e0, hbl2, hcs2⟩ := (hf.sl.ext (hE.trans hE2)).at_ hlt2 (by omega)
            dsimp only at e0
            subst e0
            have hlt3 : p < f.length := by rw [← HL'.out]; exact hlt2
            obtain ⟨x, hxq⟩ : ∃ x, x = f[p] := ⟨_, rfl⟩
            have hgs := HG'.out _ (List.getElem_mem hlt3)
            rw [← hxq] at hgs
            obtain ⟨na, va⟩ := x
            obtain ⟨hg1, hg2⟩ := hgs
            unfold GoodStr at hg1 hg2
            dsimp only at hg1 hg2
            have x0 := hcs2 p hlt3 0 (by omega)
            have x1 := hcs2 p hlt3 1 (by omega)
            simp only [← hxq, fdC, List.getElem_cons_zero, List.getElem_cons_succ, Nat.add_zero, ← Nat.add_assoc] at x0 x1
            have hi3 : (p : Int) < (m' : Int) := by omega
            have HN : Hid (szF f z = szF (f.drop (p + 1)) (y + na.size + va.size)) := by
              show _ = _
              rw [HC2.out, List.drop_eq_getElem_cons hlt3, ← hxq]
              conv => lhs; unfold szF
              rw [if_pos hy3]
            clear hcs2 hxq
            go_wp2
            go_quiet (fail)
            go_wp2
            go_roundw
            case rel => exact ⟨p + 1, y + na.size + va.size, by omega, by go_num, by go_num, by omega, by omega, Ext.drewN hE2 _, HN⟩
            case measure => simp [intOf]; omega
          · have HP : Hid (sizeN l f = y) := by
              show _ = _
              unfold sizeN
              rw [← HL.out, ← HL'.out, HS1.out, HC2.out]
              by_cases hy3 : y < 1099511627776
              · rw [List.drop_eq_nil_of_le (by have := HL'.out; omega)]
                rfl
              · exact szF_stop _ hy3
            have hor2 : ¬ (p : Int) < (m' : Int) ∨ ((p : Int) < (m' : Int) ∧ ¬ (y : Int) < 1099511627776) := by omega
            rcases hor2 with hj | ⟨hj, hj2⟩
            all_goals
              go_wp2
              go_ret
              exact ⟨by rw [HP.out]; rfl, by rw [HP.out]; omega, hE.trans hE2⟩
end

end Go.Proofs.YtcdpmgdocgddcaaDoor

/- The reference's FewEntry. -/
namespace Go.Proofs.YtcdpmgdocgddcaaDoor
open Go.RowKit
set_option maxRecDepth 100000

/-- An entry of at most 6000 bytes. -/
def fewE (x : Ep) : Bool := decide (x.id.size + x.src.size + x.tgt.size ≤ 6000) && decide (sizeN x.com x.fd + sizeN x.fl [] ≤ 6000)
theorem szS_ub (l : List ByteArray) (hg : ∀ s ∈ l, GoodStr s) (z : Nat) (hz : z ≤ 281474976710656) : szS l z ≤ 281474976710656 := by
  induction l generalizing z with
  | nil => exact hz
  | cons x t ih =>
    have h1 := hg x (.head _)
    unfold GoodStr at h1
    unfold szS
    by_cases h : z < 1099511627776
    · rw [if_pos h]
      exact ih (fun s hs => hg s (.tail _ hs)) _ (by omega)
    · rw [if_neg h]
      exact hz
theorem szF_ub (l : List Fd) (hg : ∀ s ∈ l, GoodFd s) (z : Nat) (hz : z ≤ 562949953421312) : szF l z ≤ 562949953421312 := by
  induction l generalizing z with
  | nil => exact hz
  | cons x t ih =>
    obtain ⟨h1, h2⟩ := hg x (.head _)
    unfold GoodStr at h1 h2
    unfold szF
    by_cases h : z < 1099511627776
    · rw [if_pos h]
      exact ih (fun s hs => hg s (.tail _ hs)) _ (by omega)
    · rw [if_neg h]
      exact hz
theorem sizeN_ub {w : World} {h h' : SlH} {l : List ByteArray} {f : List Fd} (hs : StrsW w h l) (hf : FdsW w h' f) : sizeN l f ≤ 562949953421312 := by
  have h1 := hs.sl.len
  have h2 := hf.sl.len
  have h3 := hs.bd
  have h4 := hf.bd
  exact szF_ub f hf.good _ (Nat.le_trans (szS_ub l hs.good _ (by omega)) (by omega))
section
variable {w : World}
set_option maxHeartbeats 3200000 in
theorem fewEntry_any {x : Ent} (hx : EntW w x) :
    Calls Tryd.prog 44 #[entV x] w fun e w' => e = .returned (.bool (fewE x.p)) ∧ Ext w w' := by
  obtain ⟨⟨id, src, tgt, com, fl, st, fd⟩, hc, hf, hd⟩ := x
  obtain ⟨kc, kf, kd, gid, gsrc, gtgt, gst1, gst2⟩ := hx
  unfold entV
  dsimp only at *
  unfold GoodStr at gid gsrc gtgt
  obtain ⟨W0, hW⟩ : ∃ W0, W0 = w.alloc (Obj.cells #[.string id, .string src, .string tgt, .slice hc.A hc.m hc.c, .slice hf.A hf.m hf.c, .int .i64 st, .slice hd.A hd.m hd.c] 35) := ⟨_, rfl⟩
  have hb : Blk W0 w.heap.size 35 #[.string id, .string src, .string tgt, .slice hc.A hc.m hc.c, .slice hf.A hf.m hf.c, .int .i64 st, .slice hd.A hd.m hd.c] := by rw [hW]; exact Blk.new w _ _
  have hW0 : Ext w W0 := by rw [hW]; exact (Ext.refl w).alloc _
  obtain ⟨n1, hn1⟩ : ∃ n1, n1 = sizeN com fd := ⟨_, rfl⟩
  obtain ⟨n2, hn2⟩ : ∃ n2, n2 = sizeN fl [] := ⟨_, rfl⟩
  have HV1 : Hid (∀ u : ExtOf W0, Calls Tryd.prog 43 #[.slice hc.A hc.m hc.c, .slice hd.A hd.m hd.c] u.1 fun e w' => e = .returned (.int .i64 n1) ∧ Ext u.1 w') := fun u => (size_any (HW.ext kc (hW0.trans u.ext)) (HW.ext kd (hW0.trans u.ext))).mono fun e w' h => ⟨by rw [hn1]; exact h.1, h.2.2⟩
  have HV2 : Hid (∀ u : ExtOf W0, Calls Tryd.prog 43 #[.slice hf.A hf.m hf.c, .slice none 0 0] u.1 fun e w' => e = .returned (.int .i64 n2) ∧ Ext u.1 w') := fun u => (size_any (h' := ⟨none, 0, 0⟩) (HW.ext kf (hW0.trans u.ext)) (HW.nil_ fdC_len)).mono fun e w' h => ⟨by rw [hn2]; exact h.1, h.2.2⟩
  have b1 : n1 ≤ 562949953421312 := by rw [hn1]; exact sizeN_ub kc kd
  have b2 : n2 ≤ 562949953421312 := by rw [hn2]; exact sizeN_ub (h' := ⟨none, 0, 0⟩) (w := w) kf (HW.nil_ fdC_len)
  have HE : Hid (fewE ⟨id, src, tgt, com, fl, st, fd⟩ = (decide (id.size + src.size + tgt.size ≤ 6000) && decide (n1 + n2 ≤ 6000))) := by
    show fewE _ = _
    unfold fewE
    rw [hn1, hn2]
  have b1i : (n1 : Int) ≤ 562949953421312 := by omega
  have b2i : (n2 : Int) ≤ 562949953421312 := by omega
  have B1 := Lib.hid b1
  have B2 := Lib.hid b2
  clear hn1 hn2 kc kf kd gst1 gst2 b1 b2
  have hs1 : W0.heap.size = w.heap.size + 1 := by rw [hW]; simp
  go_enter Tryd.func44, Tryd.ntmps44
  go_wp2
  rw [← hW]
  obtain ⟨g, hg⟩ : ∃ g, g = w.heap.size := ⟨_, rfl⟩
  rw [← hg] at hb hs1 ⊢
  have X0 := latersU (show _ = some (.string id) from hb.cell 0)
  have X1 := latersU (show _ = some (.string src) from hb.cell 1)
  have X2 := latersU (show _ = some (.string tgt) from hb.cell 2)
  have X3 := latersU (show _ = some (.slice hc.A hc.m hc.c) from hb.cell 3)
  have X4 := latersU (show _ = some (.slice hf.A hf.m hf.c) from hb.cell 4)
  have X6 := latersU (show _ = some (.slice hd.A hd.m hd.c) from hb.cell 6)
  clear hb hW hg hs1
  by_cases c1 : id.size + src.size + tgt.size ≤ 6000
  · have c1i : (id.size : Int) + src.size + tgt.size ≤ 6000 := by omega
    by_cases c2 : n1 + n2 ≤ 6000
    · have c2i : (n1 : Int) + n2 ≤ 6000 := by omega
      have HF : Hid (fewE ⟨id, src, tgt, com, fl, st, fd⟩ = true) := by show _ = _; rw [HE.out, decide_eq_true c1, decide_eq_true c2]; rfl
      refine wp_region_ext_lit (by kernel_rfl) (by kernel_rfl) ?_
      try dsimp only [List.append]
      repeat (go_big_quiet_step (first | (go_at_call 43; with_reducible exact Calls.quiet_ext (HV1.out _)) | (go_at_call 43; with_reducible exact Calls.quiet_ext (HV2.out _))))
      refine wpQuiet_nil ?_
      rintro w5 ⟨⟨_, h5⟩, rfl⟩
      try dsimp only
      go_wp2
      go_ret
      exact ⟨by rw [HF.out]; first | done | rfl, hW0.trans h5⟩
    · have c2i : ¬ (n1 : Int) + n2 ≤ 6000 := by omega
      have HF : Hid (fewE ⟨id, src, tgt, com, fl, st, fd⟩ = false) := by show _ = _; rw [HE.out, decide_eq_true c1, decide_eq_false c2]; rfl
      refine wp_region_ext_lit (by kernel_rfl) (by kernel_rfl) ?_
      try dsimp only [List.append]
      repeat (go_big_quiet_step (first | (go_at_call 43; with_reducible exact Calls.quiet_ext (HV1.out _)) | (go_at_call 43; with_reducible exact Calls.quiet_ext (HV2.out _))))
      refine wpQuiet_nil ?_
      rintro w5 ⟨⟨_, h5⟩, rfl⟩
      try dsimp only
      go_wp2
      go_ret
      exact ⟨by rw [HF.out]; first | done | rfl, hW0.trans h5⟩
  · have c1i : ¬ (id.size : Int) + src.size + tgt.size ≤ 6000 := by omega
    have HF : Hid (fewE ⟨id, src, tgt, com, fl, st, fd⟩ = false) := by show _ = _; rw [HE.out, decide_eq_false c1]; rfl
    refine wp_region_ext_lit (by kernel_rfl) (by kernel_rfl) ?_
    try dsimp only [List.append]
    repeat (go_big_quiet_step (fail))
    refine wpQuiet_nil ?_
    rintro w5 ⟨⟨_, h5⟩, rfl⟩
    try dsimp only
    go_wp2
    go_ret
    exact ⟨by rw [HF.out]; first | done | rfl, hW0.trans h5⟩
end

end Go.Proofs.YtcdpmgdocgddcaaDoor

/- The reference's Few. -/
namespace Go.Proofs.YtcdpmgdocgddcaaDoor
open Go.RowKit
set_option maxRecDepth 100000

/-- A catalog of few entries and few bytes. -/
def fewC (c : Cp) : Bool := decide (c.tag.size ≤ 100) && decide (sizeN c.com c.fd ≤ 6000) && decide (c.es.length ≤ 12) && c.es.all fewE
section
variable {w : World}
set_option maxHeartbeats 3200000 in
theorem few_any {x : Cat} (hx : CatW w x) :
    Calls Tryd.prog 24 #[catV x] w fun e w' => e = .returned (.bool (fewC x.p)) ∧ Ext w w' := by
  obtain ⟨tag, com, fd, es, hc, hd, ⟨A, m, c⟩⟩ := x
  have hs := hx.e
  have kc := hx.c
  have kd := hx.d
  unfold catV
  dsimp only at *
  have HL := Lib.hid hs.sl.len
  have hle := hs.sl.le
  dsimp only at HL hle
  have HFC : Hid (fewC (Cat.p ⟨tag, com, fd, es, hc, hd, ⟨A, m, c⟩⟩) = (decide (tag.size ≤ 100) && decide (sizeN com fd ≤ 6000) && decide (m ≤ 12) && es.all fun y => fewE y.p)) := by
    show _ = _
    unfold fewC Cat.p
    dsimp only
    rw [List.length_map, List.all_map, HL.out]
    rfl
  obtain ⟨W0, hW0⟩ : ∃ W0, W0 = w.alloc (Obj.cells #[.string tag, .slice hc.A hc.m hc.c, .slice hd.A hd.m hd.c, .slice A m c] 26) := ⟨_, rfl⟩
  have hb : Blk W0 w.heap.size 26 #[.string tag, .slice hc.A hc.m hc.c, .slice hd.A hd.m hd.c, .slice A m c] := by rw [hW0]; exact Blk.new w _ _
  have hE0 : Ext w W0 := by rw [hW0]; exact (Ext.refl w).alloc _
  clear hx
  go_enter Tryd.func24, Tryd.ntmps24
  by_cases c1 : 100 < tag.size
  · have c1i : (100 : Int) < (tag.size : Int) := by omega
    have HF : Hid (fewC (Cat.p ⟨tag, com, fd, es, hc, hd, ⟨A, m, c⟩⟩) = false) := by show _ = _; rw [HFC.out, decide_eq_false (show ¬ tag.size ≤ 100 by omega)]; rfl
    clear hb hW0
    go_wp2
    go_ret
    exact ⟨by rw [HF.out]; rfl, (Ext.refl w).alloc _⟩
  have c1i : ¬ (100 : Int) < (tag.size : Int) := by omega
  have Z1 := Lib.hid (decide_eq_true (show tag.size ≤ 100 by omega))
  go_wp2_with (first
    | (go_at_call 43; refine Hid.out ?_))
  refine Hid.mk_ ((size_any (HW.ext kc (hW0 ▸ hE0)) (HW.ext kd (hW0 ▸ hE0))).mono ?_)
  rintro e w1 ⟨rfl, hn, hE1⟩
  rw [← hW0] at hE1
  have hE01 := hE0.trans hE1
  have hb1 := hb.below hE1 hb.lt
  clear hb hW0
  obtain ⟨g, hg⟩ : ∃ g, g = w.heap.size := ⟨_, rfl⟩
  rw [← hg] at hb1 ⊢
  have d3 : w1.cell? ⟨g, 3, none⟩ = some (.slice A m c) := hb1.cell 3
  have HB := Lib.hid d3
  clear hg hb1
  obtain ⟨n, hn9⟩ : ∃ n, n = sizeN com fd := ⟨_, rfl⟩
  rw [← hn9] at hn HFC ⊢
  clear hn9
  by_cases c2 : 6000 < n
  · have c2i : (6000 : Int) < (n : Int) := by omega
    have HF : Hid (fewC (Cat.p ⟨tag, com, fd, es, hc, hd, ⟨A, m, c⟩⟩) = false) := by show _ = _; rw [HFC.out, Z1.out, decide_eq_false (show ¬ n ≤ 6000 by omega)]; rfl
    go_wp2
    go_ret
    exact ⟨by rw [HF.out]; rfl, hE01⟩
  have c2i : ¬ (6000 : Int) < (n : Int) := by omega
  have Z2 := Lib.hid (decide_eq_true (show n ≤ 6000 by omega))
  by_cases c3 : 12 < m
  · have c3i : (12 : Int) < (m : Int) := by omega
    have HF : Hid (fewC (Cat.p ⟨tag, com, fd, es, hc, hd, ⟨A, m, c⟩⟩) = false) := by show _ = _; rw [HFC.out, decide_eq_false (show ¬ m ≤ 12 by omega)]; simp
    go_wp2
    go_ret
    exact ⟨by rw [HF.out]; rfl, hE01⟩
  have c3i : ¬ (12 : Int) < (m : Int) := by omega
  have Z3 := Lib.hid (decide_eq_true (show m ≤ 12 by omega))
  go_wp2
  go_loopw [3] (fun i wr => ∃ q : Nat, q ≤ m ∧ i = .int .i64 q ∧ Ext w1 wr ∧ Hid ((es.all fun y => fewE y.p) = (es.drop q).all fun y => fewE y.p)) (fun i _ => m - (intOf i).toNat)
  case atStart => exact ⟨0, Nat.zero_le _, rfl, Ext.refl _, Lib.hid (by rw [List.drop_zero])⟩
  case round =>
    obtain ⟨q, hq, rfl, hE, HC⟩ := hrel
    have h3 := later hE HB.out
    by_cases hlt : q < m
    · obtain ⟨b, off, e0, hbl, hcs⟩ := (hs.sl.ext (hE01.trans hE)).at_ hlt (by omega)
      dsimp only at e0
      subst e0
      have hlt1 : q < es.length := by rw [← HL.out]; exact hlt
      obtain ⟨y, hyq⟩ : ∃ y, y = es[q] := ⟨_, rfl⟩
      have y0 := hcs q hlt1 0 (by omega)
      have y1 := hcs q hlt1 1 (by omega)
      have y2 := hcs q hlt1 2 (by omega)
      have y3 := hcs q hlt1 3 (by omega)
      have y4 := hcs q hlt1 4 (by omega)
      have y5 := hcs q hlt1 5 (by omega)
      have y6 := hcs q hlt1 6 (by omega)
      simp only [← hyq, entC, List.getElem_cons_zero, List.getElem_cons_succ, Nat.add_zero, ← Nat.add_assoc] at y0 y1 y2 y3 y4 y5 y6
      have hi1 : (q : Int) < (m : Int) := by omega
      have hyW : EntW wr y := by rw [hyq]; exact (EntsW.ext hs (hE01.trans hE)).good _ (List.getElem_mem hlt1)
      have HY := Lib.hid hyq
      clear hcs hyq
      go_wp2_with (first
        | (go_at_call 44; refine Hid.out ?_))
      refine Hid.mk_ ((fewEntry_any hyW).mono ?_)
      rintro e w2 ⟨rfl, hE2⟩
      cases hfe : fewE y.p with
      | false =>
        have HF : Hid (fewC (Cat.p ⟨tag, com, fd, es, hc, hd, ⟨some ⟨b, off, none⟩, m, c⟩⟩) = false) := by
          show _ = _
          rw [HFC.out, HC.out, List.drop_eq_getElem_cons hlt1, List.all_cons, ← HY.out, hfe]
          simp
        clear hfe
        go_wp2
        go_ret
        exact ⟨by rw [HF.out]; rfl, (hE01.trans hE).trans hE2⟩
      | true =>
        have HN : Hid ((es.all fun y => fewE y.p) = (es.drop (q + 1)).all fun y => fewE y.p) := by
          show _ = _
          rw [HC.out, List.drop_eq_getElem_cons hlt1, List.all_cons, ← HY.out, hfe, Bool.true_and]
        clear hfe
        go_wp2
        go_roundw
        case rel => exact ⟨q + 1, by omega, by go_num, hE.trans hE2, HN⟩
        case measure => simp [intOf]; omega
    · have hi1 : ¬ (q : Int) < (m : Int) := by omega
      have HF : Hid (fewC (Cat.p ⟨tag, com, fd, es, hc, hd, ⟨A, m, c⟩⟩) = true) := by
        show _ = _
        rw [HFC.out, Z1.out, Z2.out, Z3.out, HC.out, List.drop_eq_nil_of_le (by have := HL.out; omega)]
        rfl
      go_wp2
      go_ret
      exact ⟨by rw [HF.out]; rfl, hE01.trans hE⟩
end

end Go.Proofs.YtcdpmgdocgddcaaDoor
