/- Slices of strings: what it means that one holds a list of strings. -/
import Derived.Test.YtgnchicipmomlaaGreatDoorPK01
namespace Go.Proofs.YtgnchicipmomlaaGreatDoor
open Go.RowKit
set_option maxRecDepth 100000

/-- The slice value (A, m, _) holds the strings l. -/
structure SlS (w : World) (A : Option Addr) (m : Nat) (l : List ByteArray) : Prop where
  rd : Reads w w.heap.size 1 A m (l.map Value.string)
  len : m = l.length
  le : m ≤ 8796093022208
section
variable {w w' : World} {A : Option Addr} {m c : Nat} {l : List ByteArray} {base : Nat}
theorem SlS.ext (h : SlS w A m l) (hE : Ext w w') : SlS w' A m l := ⟨Reads.more (Reads.below h.rd hE) hE.size_le, h.len, h.le⟩
theorem SlS.at_ {k : Nat} (h : SlS w A m l) (hk : k < m) : ∃ b off, A = some ⟨b, off, none⟩ ∧ b < w.heap.size ∧ ∀ j (hj : j < l.length), w.cell? ⟨b, off + j, none⟩ = some (.string l[j]) := by
  have hl := h.len
  obtain ⟨⟨b, off, sp⟩, hA, hbl, hc⟩ := h.rd.2 (by omega)
  have h0 := hc 0 (Value.string l[0]) (by simp [List.getElem?_eq_getElem (show 0 < l.length by omega)])
  have hsp : sp = none := by
    cases sp with
    | none => rfl
    | some s =>
      simp only [Addr.add, if_pos, World.cell?] at h0
      split at h0
      · simp at h0
      · cases h0
  subst hsp
  refine ⟨b, off, hA, hbl, fun j hj => ?_⟩
  have := hc j (Value.string l[j]) (by simp [hj])
  rw [Addr.add_lit] at this
  exact this
end

end Go.Proofs.YtgnchicipmomlaaGreatDoor

/- Same on two byte slices. -/
namespace Go.Proofs.YtgnchicipmomlaaGreatDoor
open Go.RowKit

theorem take_snoc' {α : Type} (l : List α) (k : Nat) (h : k < l.length) : l.take (k + 1) = l.take k ++ [l[k]] := by
  rw [List.take_succ_eq_append_getElem h]

end Go.Proofs.YtgnchicipmomlaaGreatDoor

/- SameStrings. -/
namespace Go.Proofs.YtgnchicipmomlaaGreatDoor
open Go.RowKit

theorem toList_inj {s t : ByteArray} (h : s.toList = t.toList) : s = t := by
  rw [ByteArray.toList_eq, ByteArray.toList_eq] at h
  exact bys_inj h
set_option maxHeartbeats 400000 in
theorem same5 {A B : Option Addr} {n n' : Nat} (c d : Nat) {l m : List ByteArray} {w : World} (ha : SlS w A n l) (hb : SlS w B n' m) :
    Calls Tryz.prog 53 #[.slice A n c, .slice B n' d] w fun e w' => e = .returned (.bool (decide (l = m))) ∧ Ext w w' := by
  have HL1 := Lib.hid ha.len
  have HL2 := Lib.hid hb.len
  have hle := ha.le
  have hle' := hb.le
  by_cases hlen : n = n'
  · subst hlen
    go_enter Tryz.func53, Tryz.ntmps53
    go_wp2
    go_loopw [5] (fun i wr => ∃ k : Nat, k ≤ n ∧ i = .int .i64 k ∧ l.take k = m.take k ∧ Ext w wr) (fun i _ => n - (intOf i).toNat)
    case atStart => exact ⟨0, Nat.zero_le _, rfl, rfl, Ext.refl _⟩
    case round =>
      obtain ⟨k, hk, rfl, hp, hE⟩ := hrel
      have HP := Lib.hid hp; clear hp
      by_cases hlt : k < n
      · obtain ⟨b, off, rfl, _, hc⟩ := (ha.ext hE).at_ hlt
        obtain ⟨b', off', rfl, _, hc'⟩ := (hb.ext hE).at_ hlt
        have hlt1 : k < l.length := by rw [← HL1.out]; exact hlt
        have hlt2 : k < m.length := by rw [← HL2.out]; exact hlt
        obtain ⟨s, hs⟩ : ∃ s, s = l[k] := ⟨_, rfl⟩
        obtain ⟨t, ht⟩ : ∃ t, t = m[k] := ⟨_, rfl⟩
        have h1 := hc k hlt1
        have h2 := hc' k hlt2
        rw [← hs] at h1
        rw [← ht] at h2
        have hi1 : (k : Int) < (n : Int) := by omega
        have HS := Lib.hid hs
        have HT := Lib.hid ht
        clear hc hc' hs ht
        by_cases heq : s = t
        · have hbq : (s.toList == t.toList) = true := by simp [heq]
          have Heq := Lib.hid heq; clear heq
          go_wp2
          go_quiet (fail)
          go_wp2
          go_roundw
          case rel => exact ⟨k + 1, by omega, by go_num, by rw [take_snoc' _ _ hlt1, take_snoc' _ _ hlt2, HP.out, ← HS.out, ← HT.out, Heq.out], Ext.drewN hE _⟩
          case measure => simp [intOf]; omega
        · have hbq : (s.toList == t.toList) = false := by
            rw [beq_eq_false_iff_ne]
            exact fun hh => heq (toList_inj hh)
          have hfin : decide (l = m) = false := by
            simp only [decide_eq_false_iff_not]
            rintro rfl
            exact heq (HS.out.trans HT.out.symm)
          have Hf := Lib.hid hfin; clear hfin heq
          go_wp2
          go_quiet (fail)
          go_wp2
          go_ret
          exact ⟨by rw [Hf.out]; rfl, Ext.drewN hE _⟩
      · have hfin : decide (l = m) = true := by
          simp only [decide_eq_true_eq]
          have := HP.out
          rwa [List.take_of_length_le (by rw [← HL1.out]; omega), List.take_of_length_le (by rw [← HL2.out]; omega)] at this
        have Hf := Lib.hid hfin; clear hfin
        go_wp2
        go_ret
        exact ⟨by rw [Hf.out]; rfl, hE⟩
  · have hne : ((n : Int) != (n' : Int)) = true := by simp only [bne_iff_ne, ne_eq]; omega
    have hfin : decide (l = m) = false := by
      simp only [decide_eq_false_iff_not]
      rintro rfl
      exact hlen (HL1.out.trans HL2.out.symm)
    have Hf := Lib.hid hfin; clear hfin
    go_enter Tryz.func53, Tryz.ntmps53
    go_wp2
    go_ret
    exact ⟨by rw [Hf.out]; rfl, Ext.refl _⟩

end Go.Proofs.YtgnchicipmomlaaGreatDoor
