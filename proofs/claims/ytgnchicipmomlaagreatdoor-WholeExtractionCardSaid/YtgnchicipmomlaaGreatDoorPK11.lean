/- utf8.Valid by the shelf's contract for ValidString, under Go's two tables. -/
import Derived.Test.YtgnchicipmomlaaGreatDoorPK01
import Derived.Test.YtgnchicipmomlaaGreatDoorPK10
import Derived.Laws.RangeString
import Derived.Laws.RangeAny
namespace Go.Proofs.YtgnchicipmomlaaGreatDoor
open Go.RowKit
set_option maxRecDepth 100000

/-- Go's two tables of package unicode/utf8 lie as its text lays them. -/
def Tabs (w : World) : Prop := Lib.Utf8Tabs (Tryz.laysValid_ren.g 3) (Tryz.laysValid_ren.g 4) w
section
variable {w w' : World}
theorem Tabs.ext (h : Tabs w) (hE : Ext w w') : Tabs w' := by
  obtain ⟨h1, h2⟩ := h
  refine ⟨fun c hc => ?_, fun i hi => ?_⟩
  · exact (Below.cell hE (World.block_lt_of_cell? w _ (h1 c hc))).trans (h1 c hc)
  · exact ⟨(Below.cell hE (World.block_lt_of_cell? w _ (h2 i hi).1)).trans (h2 i hi).1, (Below.cell hE (World.block_lt_of_cell? w _ (h2 i hi).2)).trans (h2 i hi).2⟩
theorem Ext.iter (h : Ext w w') (s : ByteArray) (pos : Nat) : Ext w (w'.iter s pos) := h.alloc _
end

set_option maxHeartbeats 400000 in
theorem valid_any (s : ByteArray) {w : World} (hT : Tabs w) (hs : s.size ≤ 9223372036854775807) :
    Calls Tryz.prog 97 #[.string s] w fun e w' => e = .returned (.bool (Lib.validD (bys s))) ∧ Ext w w' := by
  have hV : Calls Tryz.prog 117 #[.string s] w fun e w' => e = .returned (.bool (Lib.validD (bys s))) ∧ Below w.heap.size w w' := Any.utf8_ValidString Tryz.laysValid s w hs hT
  go_enter Tryz.func97, Tryz.ntmps97
  go_wp2_with (first
    | (go_at_call 117; refine hV.mono ?_; rintro e w1 ⟨rfl, hE1⟩))
  go_ret
  exact ⟨rfl, hE1⟩

end Go.Proofs.YtgnchicipmomlaaGreatDoor

/- catalog.ValidName, ValidTag, ValidText. -/
namespace Go.Proofs.YtgnchicipmomlaaGreatDoor
open Go.RowKit
set_option maxRecDepth 100000

/-- A byte that may stand in a name at an index. -/
def okN (k b : Nat) : Bool := decide ((97 ≤ b ∧ b ≤ 122) ∨ (0 < k ∧ ((48 ≤ b ∧ b ≤ 57) ∨ b = 45 ∨ b = 95 ∨ b = 46)))
def okAll : Nat → List UInt8 → Bool
  | _, [] => true
  | k, b :: t => okN k b.toNat && okAll (k + 1) t
/-- A name. -/
def nameL (l : List UInt8) : Bool := decide (1 ≤ l.length) && decide (l.length ≤ 40) && okAll 0 l
def okT (b : Nat) : Bool := decide ((97 ≤ b ∧ b ≤ 122) ∨ (65 ≤ b ∧ b ≤ 90) ∨ (48 ≤ b ∧ b ≤ 57) ∨ b = 45)
/-- A tag. -/
def tagL (l : List UInt8) : Bool := decide (1 ≤ l.length) && decide (l.length ≤ 40) && l.all fun b => okT b.toNat
/-- A text. -/
def textL (l : List UInt8) : Bool := decide (l.length ≤ 4000) && Lib.validD l

theorem okAll_step {l : List UInt8} {k : Nat} (h : k < l.length) (hb : okN k (l[k]).toNat = true) : okAll k (l.drop k) = okAll (k + 1) (l.drop (k + 1)) := by
  rw [List.drop_eq_getElem_cons h, okAll, hb, Bool.true_and]
theorem okAll_stop {l : List UInt8} {k : Nat} (h : k < l.length) (hb : okN k (l[k]).toNat = false) : okAll k (l.drop k) = false := by
  rw [List.drop_eq_getElem_cons h, okAll, hb, Bool.false_and]
theorem okT_step {l : List UInt8} {k : Nat} (h : k < l.length) (hb : okT (l[k]).toNat = true) : (l.drop k).all (fun b => okT b.toNat) = (l.drop (k + 1)).all fun b => okT b.toNat := by
  rw [List.drop_eq_getElem_cons h, List.all_cons, hb, Bool.true_and]
theorem okT_stop {l : List UInt8} {k : Nat} (h : k < l.length) (hb : okT (l[k]).toNat = false) : (l.drop k).all (fun b => okT b.toNat) = false := by
  rw [List.drop_eq_getElem_cons h, List.all_cons, hb, Bool.false_and]
theorem bys_at (s : ByteArray) (k : Nat) (h : k < s.size) : (bys s)[k]'(by rw [bys_len]; exact h) = s[k]'h := rfl

set_option maxHeartbeats 1600000 in
theorem validName_any (s : ByteArray) {w : World} (hs : s.size ≤ 9223372036854775807) :
    Calls Tryz.prog 66 #[.string s] w fun e w' => e = .returned (.bool (nameL (bys s))) ∧ Ext w w' := by
  have hbl := bys_len s
  go_enter Tryz.func66, Tryz.ntmps66
  go_wp2
  go_loopw [3] (fun i w' => ∃ pos : Nat, w' = w.iter s pos ∧ pos ≤ s.size ∧ okAll 0 (bys s) = okAll pos ((bys s).drop pos)) (fun _ w' => s.size - w'.iterPos w.heap.size)
  case atStart => exact ⟨0, rfl, by omega, by rw [List.drop_zero]⟩
  case round =>
    obtain ⟨pos, rfl, hle, hc⟩ := hrel
    by_cases hp : pos < s.size
    · have hnx : ∀ ty, (Instr.next (.pointer (some ⟨w.heap.size, 0, none⟩)) true ty).run Tryz.prog (w.iter s pos) = _ := fun ty => run_next_any w s pos ty hp
      by_cases ha : (s[pos]'hp).toNat < 128
      · rw [decode_ascii s pos hp ha] at hnx
        obtain ⟨b, hb⟩ : ∃ b, b = (s[pos]'hp).toNat := ⟨_, rfl⟩
        rw [← hb] at hnx ha
        have hlp : pos < (bys s).length := by omega
        have hbb : b = ((bys s)[pos]).toNat := hb
        have HB := Lib.hid hbb
        have HC := Lib.hid hc
        clear hb hbb hc hbl
        go_wp2
        all_goals first
          | (go_roundw
             case rel =>
               refine ⟨pos + 1, rfl, by omega, ?_⟩
               rw [HC.out]
               refine okAll_step hlp ?_
               rw [← HB.out]
               unfold okN
               apply decide_eq_true
               first | omega | (simp only [beq_iff_eq] at *; omega) | (simp only [beq_eq_false_iff_ne] at *; omega)
             case measure => simp; omega)
          | (go_ret
             refine ⟨?_, (Ext.refl w).iter s _⟩
             have hf : okAll pos ((bys s).drop pos) = false := by
               refine okAll_stop hlp ?_
               rw [← HB.out]
               unfold okN
               apply decide_eq_false
               first | omega | (simp only [beq_iff_eq] at *; omega) | (simp only [beq_eq_false_iff_ne] at *; omega)
             unfold nameL
             rw [HC.out, hf, Bool.and_false]
             first | done | rfl)
      · obtain ⟨hr1, hr2⟩ := decode_high s pos hp (by omega)
        have hbb : okN pos ((bys s)[pos]'(by omega)).toNat = false := by
          rw [bys_at s pos hp]
          unfold okN
          apply decide_eq_false
          omega
        have hf := okAll_stop (by omega) hbb
        rw [← hc] at hf
        have HF := Lib.hid hf
        obtain ⟨r, hr⟩ : ∃ r, r = (Utf8.decode s pos).1 := ⟨_, rfl⟩
        rw [← hr] at hnx hr1
        clear hr hbb hc hf hbl ha
        have t1 : ((r : Int) == 45) = false := by rw [beq_eq_false_iff_ne]; omega
        have t2 : ((r : Int) == 95) = false := by rw [beq_eq_false_iff_ne]; omega
        have t3 : ((r : Int) == 46) = false := by rw [beq_eq_false_iff_ne]; omega
        have t4 : ¬ ((r : Int) ≤ 122) := by omega
        have t5 : ¬ ((r : Int) ≤ 57) := by omega
        have t6 : (97 : Int) ≤ (r : Int) := by omega
        have t7 : (48 : Int) ≤ (r : Int) := by omega
        go_wp2
        all_goals
          go_ret
          refine ⟨?_, (Ext.refl w).iter s _⟩
          unfold nameL
          rw [HF.out, Bool.and_false]
          first | done | rfl
    · have hnx : ∀ ty, (Instr.next (.pointer (some ⟨w.heap.size, 0, none⟩)) true ty).run Tryz.prog (w.iter s pos) = _ := fun ty => run_next_end w s pos ty hp
      have hpe : pos = (bys s).length := by omega
      have hf : nameL (bys s) = (decide (1 ≤ s.size) && decide (s.size ≤ 40)) := by
        unfold nameL
        rw [hc, hpe, List.drop_length, okAll, Bool.and_true, hbl]
      have HF := Lib.hid hf
      clear hf hc hpe hbl hp
      by_cases h1 : 1 ≤ s.size
      · have h1' : (1 : Int) ≤ (s.size : Int) := by omega
        by_cases h2 : s.size ≤ 40
        · have h2' : (s.size : Int) ≤ 40 := by omega
          go_wp2
          go_ret
          refine ⟨?_, (Ext.refl w).iter s _⟩
          rw [HF.out, decide_eq_true h1, decide_eq_true h2]
          first | done | rfl
        · have h2' : ¬ (s.size : Int) ≤ 40 := by omega
          go_wp2
          go_ret
          refine ⟨?_, (Ext.refl w).iter s _⟩
          rw [HF.out, decide_eq_true h1, decide_eq_false h2]
          first | done | rfl
      · have h1' : ¬ (1 : Int) ≤ (s.size : Int) := by omega
        go_wp2
        go_ret
        refine ⟨?_, (Ext.refl w).iter s _⟩
        rw [HF.out, decide_eq_false h1]
        first | done | rfl

set_option maxHeartbeats 400000 in
theorem validText_any (s : ByteArray) {w : World} (hT : Tabs w) :
    Calls Tryz.prog 65 #[.string s] w fun e w' => e = .returned (.bool (textL (bys s))) ∧ Ext w w' := by
  by_cases h1 : s.size ≤ 4000
  · have h1' : (s.size : Int) ≤ 4000 := by omega
    have hf : textL (bys s) = Lib.validD (bys s) := by unfold textL; rw [bys_len, decide_eq_true h1, Bool.true_and]
    rw [hf]
    clear hf
    go_enter Tryz.func65, Tryz.ntmps65
    go_wp2_with (first
      | (go_at_call 97; refine (valid_any s hT (by omega)).mono ?_; rintro e w1 ⟨rfl, hE1⟩))
    go_ret
    exact ⟨rfl, hE1⟩
  · have h1' : ¬ (s.size : Int) ≤ 4000 := by omega
    have hf : textL (bys s) = false := by unfold textL; rw [bys_len, decide_eq_false h1, Bool.false_and]
    rw [hf]
    clear hf
    go_enter Tryz.func65, Tryz.ntmps65
    go_wp2
    go_ret
    exact ⟨rfl, Ext.refl w⟩

end Go.Proofs.YtgnchicipmomlaaGreatDoor
