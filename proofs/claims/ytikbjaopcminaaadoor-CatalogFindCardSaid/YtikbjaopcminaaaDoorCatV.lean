/- The program's checks of texts, flags, fields, entries. -/
import Derived.Test.YtikbjaopcminaaaDoorCatP
import Derived.Test.YtikbjaopcminaaaDoorTag
import Derived.Test.YtikbjaopcminaaaDoorExtS
import Derived.Test.YtikbjaopcminaaaDoorQExt
namespace Go.Proofs.YtikbjaopcminaaaDoor
open Go.RowKit
set_option maxRecDepth 100000

/-- The call returned an int of which P holds. -/
def RetI (P : Int → Prop) (e : Ending) : Prop := ∃ z, e = .returned (.int .i64 z) ∧ P z
section
variable {w : World}
set_option maxHeartbeats 400000 in
theorem notText_any (s : ByteArray) (hT : Tabs w) :
    Calls Tryd.prog 87 #[.string s] w fun e w' => e = .returned (.bool (!textL (bys s))) ∧ Ext w w' := by
  go_enter Tryd.func87, Tryd.ntmps87
  go_wp2_with (first
    | (go_at_call 17; refine Hid.out ?_))
  refine Hid.mk_ ((validText_any s hT).mono ?_)
  rintro e w1 ⟨rfl, hE1⟩
  go_wp2
  go_ret
  exact ⟨rfl, hE1⟩

set_option maxHeartbeats 1600000 in
theorem idxText_any {h : SlH} {l : List ByteArray} (hs : StrsW w h l) (hT : Tabs w) :
    Calls Tryd.prog 98 #[.slice h.A h.m h.c, .func (.func 87) #[] #[]] w fun e w' => RetI (fun z => (0 ≤ z ↔ ¬ TxOk l)) e ∧ Ext w w' := by
  obtain ⟨A, m, c⟩ := h
  have HL := Lib.hid hs.sl.len
  have hle := hs.sl.le
  dsimp only at HL hle ⊢
  go_enter Tryd.func98, Tryd.ntmps98
  go_wp2
  go_loopw [5, 8] (fun _ i wr => ∃ q : Nat, q ≤ m ∧ i = .int .i64 q ∧ Ext w wr ∧ Hid (∀ j (_ : j < q) (h : j < l.length), textL (bys l[j]) = true)) (fun _ i _ => m - (intOf i).toNat)
  case atStart => exact ⟨0, Nat.zero_le _, rfl, Ext.refl _, fun j hj _ => absurd hj (by omega)⟩
  case round =>
    obtain ⟨q, hq, rfl, hE, HC⟩ := hrel
    by_cases hlt : q < m
    · obtain ⟨b, off, e0, hbl, hcs⟩ := (hs.sl.ext hE).at_ hlt (by omega)
      dsimp only at e0
      subst e0
      have hlt1 : q < l.length := by rw [← HL.out]; exact hlt
      obtain ⟨s, hsq⟩ : ∃ s, s = l[q] := ⟨_, rfl⟩
      have x0 := hcs q hlt1 0 (by omega)
      simp only [← hsq, strF, List.getElem_cons_zero, Nat.mul_one, Nat.add_zero] at x0
      have hi1 : (q : Int) < (m : Int) := by omega
      have HS := Lib.hid hsq
      clear hcs hsq
      go_wp2_with (first
        | (go_at_call 87; refine Hid.out ?_))
      refine Hid.mk_ ((notText_any s (hT.ext hE)).mono ?_)
      rintro e w2 ⟨rfl, hE2⟩
      cases ht : textL (bys s) with
      | true =>
        have HN : Hid (∀ j (_ : j < q + 1) (h : j < l.length), textL (bys l[j]) = true) := fun j hj h => by
          rcases Nat.lt_or_ge j q with h2 | h2
          · exact HC.out j h2 h
          · obtain rfl : j = q := by omega
            rw [← HS.out]; exact ht
        clear ht
        go_wp2
        go_roundw
        case rel => exact ⟨q + 1, by omega, by go_num, hE.trans hE2, HN⟩
        case measure => simp [intOf]; omega
      | false =>
        have HN : Hid (¬ TxOk l) := fun hall => by
          have := hall q hlt1
          rw [← HS.out, ht] at this
          cases this
        clear ht
        go_wp2
        go_ret
        exact ⟨⟨_, rfl, ⟨fun _ => HN.out, fun _ => by omega⟩⟩, hE.trans hE2⟩
    · have hi1 : ¬ (q : Int) < (m : Int) := by omega
      have HN : Hid (TxOk l) := fun j hj => HC.out j (by have := HL.out; omega) hj
      go_wp2
      go_ret
      exact ⟨⟨_, rfl, ⟨fun h => absurd h (by omega), fun h => absurd HN.out h⟩⟩, hE⟩

set_option maxHeartbeats 400000 in
theorem hasBad_any {h : SlH} {l : List ByteArray} (hs : StrsW w h l) (hT : Tabs w) :
    Calls Tryd.prog 86 #[.slice h.A h.m h.c, .func (.func 87) #[] #[]] w fun e w' => e = .returned (.bool (!decide (TxOk l))) ∧ Ext w w' := by
  go_enter Tryd.func86, Tryd.ntmps86
  go_wp2_with (first
    | (go_at_call 98; refine Hid.out ?_))
  refine Hid.mk_ ((idxText_any hs hT).mono ?_)
  rintro e w2 ⟨⟨z, rfl, hz⟩, hE2⟩
  by_cases h0 : 0 ≤ z
  · have HF := Lib.hid (decide_eq_false (hz.1 h0))
    have hd : decide ((0 : Int) ≤ z) = true := decide_eq_true h0
    clear hz
    go_wp2
    go_ret
    exact ⟨by rw [HF.out]; first | done | rfl, hE2⟩
  · have HF := Lib.hid (decide_eq_true (show TxOk l by
      rcases Decidable.em (TxOk l) with h | h
      · exact h
      · exact absurd (hz.2 h) h0))
    have hd : decide ((0 : Int) ≤ z) = false := decide_eq_false h0
    clear hz h0
    go_wp2
    go_ret
    exact ⟨by rw [HF.out]; first | done | rfl, hE2⟩

set_option maxHeartbeats 400000 in
theorem texts_any {h : SlH} {l : List ByteArray} (hs : StrsW w h l) (hT : Tabs w) :
    Calls Tryd.prog 57 #[.slice h.A h.m h.c] w fun e w' => e = .returned (.bool (textsP l)) ∧ Ext w w' := by
  have hl := hs.sl.len
  by_cases h20 : h.m ≤ 20
  · have i1 : (h.m : Int) ≤ 20 := by omega
    have HF : Hid (textsP l = decide (TxOk l)) := by show _ = _; unfold textsP; rw [decide_eq_true (by omega), Bool.true_and]
    clear hl
    go_enter Tryd.func57, Tryd.ntmps57
    go_wp2_with (first
      | (go_at_call 86; refine Hid.out ?_))
    refine Hid.mk_ ((hasBad_any hs hT).mono ?_)
    rintro e w2 ⟨rfl, hE2⟩
    go_wp2
    go_ret
    exact ⟨by rw [HF.out]; simp, hE2⟩
  · have i1 : ¬ (h.m : Int) ≤ 20 := by omega
    have HF : Hid (textsP l = false) := by show _ = _; unfold textsP; rw [decide_eq_false (by omega), Bool.false_and]
    clear hl
    go_enter Tryd.func57, Tryd.ntmps57
    go_wp2
    go_ret
    exact ⟨by rw [HF.out]; first | done | rfl, Ext.refl _⟩

end

end Go.Proofs.YtikbjaopcminaaaDoor
