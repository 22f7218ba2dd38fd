/- The reference's Find. -/
import Derived.Test.YtngpajaghadhdaaGreatDoorCatFi
import Derived.Test.YtngpajaghadhdaaGreatDoorSameS
import Derived.Test.YtngpajaghadhdaaGreatDoorCatV
namespace Go.Proofs.YtngpajaghadhdaaGreatDoor
open Go.RowKit
set_option maxRecDepth 100000

section
variable {w : World}
set_option maxHeartbeats 3200000 in
theorem refFind_any {x : Cat} (hx : CatW w x) (id : ByteArray) :
    Calls Tryz.prog 41 #[catV x, .string id] w fun e w' => (∃ z, FindZ x.p.es id z ∧ e = .returned (FindV z)) ∧ Ext w w' := by
  obtain ⟨tag, com, fd, es, hc, hd, ⟨A, m, c⟩⟩ := x
  have hs := hx.e
  unfold catV
  dsimp only at *
  have HL := Lib.hid hs.sl.len
  have hle := hs.sl.le
  dsimp only at HL hle
  obtain ⟨W0, hW0⟩ : ∃ W0, W0 = w.alloc (Obj.cells #[.string tag, .slice hc.A hc.m hc.c, .slice hd.A hd.m hd.c, .slice A m c] 28) := ⟨_, rfl⟩
  have hb : Blk W0 w.heap.size 28 #[.string tag, .slice hc.A hc.m hc.c, .slice hd.A hd.m hd.c, .slice A m c] := by rw [hW0]; exact Blk.new w _ _
  have hE0 : Ext w W0 := by rw [hW0]; exact (Ext.refl w).alloc _
  clear hx
  go_enter Tryz.func41, Tryz.ntmps41
  go_wp2
  rw [← hW0]
  obtain ⟨g, hg⟩ : ∃ g, g = w.heap.size := ⟨_, rfl⟩
  rw [← hg] at hb ⊢
  have HB := Lib.hid (show W0.cell? ⟨g, 3, none⟩ = some (.slice A m c) from hb.cell 3)
  clear hW0 hg hb
  go_loopw [6] (fun i wr => ∃ q : Nat, q ≤ m ∧ i = .int .i64 q ∧ Ext W0 wr ∧ Hid (∀ j (_ : j < q) (h : j < es.length), es[j].p.id ≠ id)) (fun i _ => m - (intOf i).toNat)
  case atStart => exact ⟨0, Nat.zero_le _, rfl, Ext.refl _, fun j hj _ => absurd hj (by omega)⟩
  case round =>
    obtain ⟨q, hq, rfl, hE, HC⟩ := hrel
    have h3 := later hE HB.out
    by_cases hlt : q < m
    · obtain ⟨b, off, e0, hbl, hcs⟩ := (hs.sl.ext (hE0.trans hE)).at_ hlt (by omega)
      dsimp only at e0
      subst e0
      have hlt1 : q < es.length := by rw [← HL.out]; exact hlt
      obtain ⟨y, hyq⟩ : ∃ y, y = es[q] := ⟨_, rfl⟩
      have y0 := hcs q hlt1 0 (by omega)
      simp only [← hyq, entC, List.getElem_cons_zero, Nat.add_zero] at y0
      have hi1 : (q : Int) < (m : Int) := by omega
      have HY := Lib.hid hyq
      clear hcs hyq
      by_cases hid : y.p.id = id
      · have HF : Hid (FindZ (es.map Ent.p) id (q : Int)) := .inr ⟨q, rfl, by rw [List.length_map]; exact hlt1, by simp only [List.getElem_map]; rw [← HY.out]; exact hid, fun j hj => by simp only [List.getElem_map]; exact HC.out j hj (by omega)⟩
        have HV : Hid (FindV (q : Int) = .tuple #[.int .i64 q, .bool true]) := by show FindV _ = _; unfold FindV; rw [if_pos (by omega), decide_eq_true (by omega)]
        have hbq : (y.p.id.toList == id.toList) = true := by rw [hid]; simp
        clear hid
        go_wp2
        go_ret2
        exact ⟨⟨q, HF.out, by rw [HV.out]; first | done | rfl | simp⟩, hE0.trans hE⟩
      · have HN : Hid (∀ j (_ : j < q + 1) (h : j < es.length), es[j].p.id ≠ id) := fun j hj h => by
          rcases Nat.lt_or_ge j q with h2 | h2
          · exact HC.out j h2 h
          · obtain rfl : j = q := by omega
            rw [← HY.out]; exact hid
        have hbq : (y.p.id.toList == id.toList) = false := by
          rw [beq_eq_false_iff_ne]
          exact fun hh => hid (toList_inj hh)
        clear hid
        go_wp2
        go_roundw
        case rel => exact ⟨q + 1, by omega, by go_num, hE, HN⟩
        case measure => simp [intOf]; omega
    · have hi1 : ¬ (q : Int) < (m : Int) := by omega
      have HF : Hid (FindZ (es.map Ent.p) id (-1)) := .inl ⟨rfl, fun j hj => by
        simp only [List.getElem_map]
        rw [List.length_map] at hj
        exact HC.out j (by have := HL.out; omega) hj⟩
      go_wp2
      go_ret2
      exact ⟨⟨-1, HF.out, rfl⟩, hE0.trans hE⟩
end

end Go.Proofs.YtngpajaghadhdaaGreatDoor

/- The reference's size: how many bytes strings and fields have. -/
namespace Go.Proofs.YtngpajaghadhdaaGreatDoor
open Go.RowKit
set_option maxRecDepth 100000

/-- What size counts: it stops at 1 << 40. -/
def szS : List ByteArray → Nat → Nat
  | [], z => z
  | x :: t, z => if z < 1099511627776 then szS t (z + x.size) else z
def szF : List Fd → Nat → Nat
  | [], z => z
  | x :: t, z => if z < 1099511627776 then szF t (z + x.1.size + x.2.size) else z
def sizeN (l : List ByteArray) (f : List Fd) : Nat := szF f (szS l (l.length + f.length))
theorem szS_le (l : List ByteArray) (z : Nat) : z ≤ szS l z ∧ (szS l z ≤ 6000 → ∀ s ∈ l, s.size ≤ szS l z) := by
  induction l generalizing z with
  | nil => exact ⟨Nat.le_refl _, fun _ s h => by cases h⟩
  | cons x t ih =>
    unfold szS
    by_cases h : z < 1099511627776
    · rw [if_pos h]
      obtain ⟨h1, h2⟩ := ih (z + x.size)
      refine ⟨by omega, fun h3 s hs => ?_⟩
      rcases List.mem_cons.1 hs with rfl | hs
      · omega
      · exact h2 h3 s hs
    · rw [if_neg h]
      exact ⟨Nat.le_refl _, fun h3 => by omega⟩
theorem szF_le (l : List Fd) (z : Nat) : z ≤ szF l z ∧ (szF l z ≤ 6000 → ∀ s ∈ l, s.1.size ≤ szF l z ∧ s.2.size ≤ szF l z) := by
  induction l generalizing z with
  | nil => exact ⟨Nat.le_refl _, fun _ s h => by cases h⟩
  | cons x t ih =>
    unfold szF
    by_cases h : z < 1099511627776
    · rw [if_pos h]
      obtain ⟨h1, h2⟩ := ih (z + x.1.size + x.2.size)
      refine ⟨by omega, fun h3 s hs => ?_⟩
      rcases List.mem_cons.1 hs with rfl | hs
      · exact ⟨by omega, by omega⟩
      · exact h2 h3 s hs
    · rw [if_neg h]
      exact ⟨Nat.le_refl _, fun h3 => by omega⟩
/-- What is known where it is small. -/
theorem sizeN_le {l : List ByteArray} {f : List Fd} (h : sizeN l f ≤ 6000) : l.length + f.length ≤ sizeN l f ∧ (∀ s ∈ l, s.size ≤ sizeN l f) ∧ ∀ x ∈ f, x.1.size ≤ sizeN l f ∧ x.2.size ≤ sizeN l f := by
  unfold sizeN at *
  obtain ⟨h1, h2⟩ := szF_le f (szS l (l.length + f.length))
  obtain ⟨h3, h4⟩ := szS_le l (l.length + f.length)
  exact ⟨by omega, fun s hs => by have := h4 (by omega) s hs; omega, h2 h⟩
theorem szS_stop (l : List ByteArray) {z : Nat} (h : ¬ z < 1099511627776) : szS l z = z := by cases l with
  | nil => rfl
  | cons x t => unfold szS; rw [if_neg h]
theorem szF_stop (l : List Fd) {z : Nat} (h : ¬ z < 1099511627776) : szF l z = z := by cases l with
  | nil => rfl
  | cons x t => unfold szF; rw [if_neg h]
section
variable {w : World}
end

end Go.Proofs.YtngpajaghadhdaaGreatDoor

/- The reference's FewEntry. -/
namespace Go.Proofs.YtngpajaghadhdaaGreatDoor
open Go.RowKit
set_option maxRecDepth 100000

/-- An entry of at most 6000 bytes. -/
def fewE (x : Ep) : Bool := decide (x.id.size + x.src.size + x.tgt.size ≤ 6000) && decide (sizeN x.com x.fd + sizeN x.fl [] ≤ 6000)
theorem szS_ub (l : List ByteArray) (hg : ∀ s ∈ l, GoodStr s) (z : Nat) (hz : z ≤ 281474976710656) : szS l z ≤ 281474976710656 := by
  induction l generalizing z with
  | nil => exact hz
  | cons x t ih =>
    have h1 := hg x (.head _)
    unfold GoodStr at h1
    unfold szS
    by_cases h : z < 1099511627776
    · rw [if_pos h]
      exact ih (fun s hs => hg s (.tail _ hs)) _ (by omega)
    · rw [if_neg h]
      exact hz
theorem szF_ub (l : List Fd) (hg : ∀ s ∈ l, GoodFd s) (z : Nat) (hz : z ≤ 562949953421312) : szF l z ≤ 562949953421312 := by
  induction l generalizing z with
  | nil => exact hz
  | cons x t ih =>
    obtain ⟨h1, h2⟩ := hg x (.head _)
    unfold GoodStr at h1 h2
    unfold szF
    by_cases h : z < 1099511627776
    · rw [if_pos h]
      exact ih (fun s hs => hg s (.tail _ hs)) _ (by omega)
    · rw [if_neg h]
      exact hz
theorem sizeN_ub {w : World} {h h' : SlH} {l : List ByteArray} {f : List Fd} (hs : StrsW w h l) (hf : FdsW w h' f) : sizeN l f ≤ 562949953421312 := by
  have h1 := hs.sl.len
  have h2 := hf.sl.len
  have h3 := hs.bd
  have h4 := hf.bd
  exact szF_ub f hf.good _ (Nat.le_trans (szS_ub l hs.good _ (by omega)) (by omega))
section
variable {w : World}
end

end Go.Proofs.YtngpajaghadhdaaGreatDoor

/- The reference's Few. -/
namespace Go.Proofs.YtngpajaghadhdaaGreatDoor
open Go.RowKit
set_option maxRecDepth 100000

/-- A catalog of few entries and few bytes. -/
def fewC (c : Cp) : Bool := decide (c.tag.size ≤ 100) && decide (sizeN c.com c.fd ≤ 6000) && decide (c.es.length ≤ 12) && c.es.all fewE
section
variable {w : World}
end

end Go.Proofs.YtngpajaghadhdaaGreatDoor
