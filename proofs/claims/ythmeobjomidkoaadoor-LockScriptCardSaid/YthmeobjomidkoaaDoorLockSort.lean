/- Locks sorted by their keys: the order, the comparison, slices.SortFunc. -/
import Derived.Test.YthmeobjomidkoaaDoorLockAwake
import Derived.Test.YthmeobjomidkoaaDoorLockOpen
import Derived.Test.YthmeobjomidkoaaDoorMem
import Derived.Test.YthmeobjomidkoaaDoorSlc
import Derived.Test.YthmeobjomidkoaaDoorLaySort
import Derived.Shelf.SlSortCmp.NoneTotal
import Derived.Laws.OwnMore
namespace Go.Proofs.YthmeobjomidkoaaDoor
open Go.RowKit Go.Lib Go.Sort Go.Shelf
set_option maxRecDepth 100000

abbrev bL (a b : List UInt8) : Bool := Op.bytesLess a b
theorem bL_cons (a b : UInt8) (x y : List UInt8) : bL (a :: x) (b :: y) = (decide (a < b) || (decide (a = b) && bL x y)) := by
  show Op.bytesLess (a :: x) (b :: y) = _
  rw [Op.bytesLess]
  by_cases h1 : a < b <;> by_cases h2 : a = b <;> simp [h1, h2]
theorem bL_irrefl : ∀ a : List UInt8, bL a a = false
  | [] => rfl
  | a :: x => by rw [bL_cons, bL_irrefl x]; simp [UInt8.lt_irrefl]
theorem bL_trans : ∀ a b c : List UInt8, bL a b = true → bL b c = true → bL a c = true
  | [], [], _, h, _ => by cases h
  | [], _ :: _, [], _, h => by cases h
  | [], _ :: _, _ :: _, _, _ => rfl
  | _ :: _, [], _, h, _ => by cases h
  | _ :: _, _ :: _, [], _, h => by cases h
  | a :: x, b :: y, c :: z, h1, h2 => by
    rw [bL_cons] at h1 h2 ⊢
    simp only [Bool.or_eq_true, Bool.and_eq_true, decide_eq_true_eq] at h1 h2 ⊢
    rcases h1 with h1 | ⟨rfl, h1⟩ <;> rcases h2 with h2 | ⟨rfl, h2⟩
    · exact .inl (UInt8.lt_trans h1 h2)
    · exact .inl h1
    · exact .inl h2
    · exact .inr ⟨rfl, bL_trans x y z h1 h2⟩
theorem bL_tri : ∀ a b : List UInt8, bL a b = false → bL b a = false → a = b
  | [], [], _, _ => rfl
  | [], _ :: _, h, _ => by cases h
  | _ :: _, [], _, h => by cases h
  | a :: x, b :: y, h1, h2 => by
    rw [bL_cons] at h1 h2
    simp only [Bool.or_eq_false_iff, Bool.and_eq_false_iff, decide_eq_false_iff_not] at h1 h2
    have hab : a = b := by
      have e1 := h1.1
      have e2 := h2.1
      rw [UInt8.lt_iff_toNat_lt] at e1 e2
      exact UInt8.toNat_inj.1 (by omega)
    subst hab
    rw [bL_tri x y (by rcases h1.2 with h | h; exact absurd rfl h; exact h) (by rcases h2.2 with h | h; exact absurd rfl h; exact h)]
/-- Comparing two strings. -/
def cmpS (a b : ByteArray) : Int := if bL a.toList b.toList then -1 else if a = b then 0 else 1
/-- One key before another. -/
def kL (x y : Lk) : Bool := bL x.name.toList y.name.toList || (decide (x.name = y.name) && bL x.id.toList y.id.toList)
def cfL (x y : Lk) : Int := if cmpS x.name y.name = 0 then cmpS x.id y.id else cmpS x.name y.name
theorem cmpS_neg (a b : ByteArray) : cmpS a b < 0 ↔ bL a.toList b.toList = true := by
  unfold cmpS
  split
  · rename_i h
    simp [h]
  · rename_i h
    split <;> simp [h]
theorem cmpS_zero (a b : ByteArray) : cmpS a b = 0 ↔ a = b := by
  unfold cmpS
  split
  · rename_i h
    simp only [reduceCtorEq, false_iff]
    intro e
    subst e
    rw [bL_irrefl] at h
    cases h
  · split <;> simp_all
theorem toList_eq_iff {a b : ByteArray} : a.toList = b.toList ↔ a = b := ⟨fun e => bys_inj (by rw [ByteArray.toList_eq, ByteArray.toList_eq] at e; exact e), fun e => by rw [e]⟩
theorem ltL (x y : Lk) : ltOf cfL x y = kL x y := by
  unfold ltOf cfL kL
  rw [Bool.eq_iff_iff, decide_eq_true_eq, Bool.or_eq_true, Bool.and_eq_true, decide_eq_true_eq]
  by_cases h : x.name = y.name
  · rw [if_pos ((cmpS_zero _ _).2 h), cmpS_neg, h, bL_irrefl]
    simp
  · rw [if_neg (fun e => h ((cmpS_zero _ _).1 e)), cmpS_neg]
    simp [h]
theorem kL_irrefl (x : Lk) : kL x x = false := by unfold kL; rw [bL_irrefl, bL_irrefl]; simp
theorem kL_trans (x y z : Lk) (h1 : kL x y = true) (h2 : kL y z = true) : kL x z = true := by
  unfold kL at *
  simp only [Bool.or_eq_true, Bool.and_eq_true, decide_eq_true_eq] at *
  rcases h1 with h1 | ⟨e1, h1⟩ <;> rcases h2 with h2 | ⟨e2, h2⟩
  · exact .inl (bL_trans _ _ _ h1 h2)
  · rw [← e2]; exact .inl h1
  · rw [e1]; exact .inl h2
  · exact .inr ⟨e1.trans e2, bL_trans _ _ _ h1 h2⟩
theorem kL_tri (x y : Lk) (h1 : kL x y = false) (h2 : kL y x = false) : x.name = y.name ∧ x.id = y.id := by
  unfold kL at *
  simp only [Bool.or_eq_false_iff, Bool.and_eq_false_iff, decide_eq_false_iff_not] at *
  have e : x.name = y.name := toList_eq_iff.1 (bL_tri _ _ h1.1 h2.1)
  refine ⟨e, toList_eq_iff.1 (bL_tri _ _ ?_ ?_)⟩
  · rcases h1.2 with h | h
    · exact absurd e h
    · exact h
  · rcases h2.2 with h | h
    · exact absurd e.symm h
    · exact h
theorem kL_key {x y z : Lk} (h : x.name = y.name ∧ x.id = y.id) : kL x z = kL y z ∧ kL z x = kL z y := by unfold kL; rw [h.1, h.2]; exact ⟨rfl, rfl⟩
theorem swoL : SWO (ltOf cfL) where
  irrefl x := by rw [ltL]; exact kL_irrefl x
  trans x y z h1 h2 := by rw [ltL] at *; exact kL_trans x y z h1 h2
  ntrans x y z h1 h2 := by
    rw [ltL] at *
    cases h : kL x z with
    | false => rfl
    | true =>
      exfalso
      cases h3 : kL y x with
      | true => rw [kL_trans y x z h3 h] at h2; cases h2
      | false =>
        have e := kL_tri x y h1 h3
        rw [(kL_key e).1, h2] at h
        cases h

section
variable {w : World}
theorem isNaN_any (a : ByteArray) : Calls Tryd.prog 43 #[.string a] w fun e w' => e = .returned (.bool false) ∧ w' = w := by
  go_enter Tryd.func43, Tryd.ntmps43
  go_wp2
  go_ret
  exact ⟨by simp, rfl⟩
set_option maxHeartbeats 400000 in
theorem compare_any (a b : ByteArray) : Calls Tryd.prog 30 #[.string a, .string b] w fun e w' => e = .returned (.int .i64 (cmpS a b)) ∧ w' = w := by
  have hc : cmpS a b = if bL a.toList b.toList then -1 else if a = b then 0 else 1 := rfl
  cases h1 : bL a.toList b.toList with
  | true =>
    have h1' : Op.bytesLess a.toList b.toList = true := h1
    have hc2 : cmpS a b = -1 := by rw [hc, h1]; rfl
    rw [hc2]
    clear hc hc2 h1
    go_enter Tryd.func30, Tryd.ntmps30
    go_wp2_with (first | (go_at_call 43; refine (isNaN_any _).mono ?_; rintro e w1 ⟨rfl, rfl⟩))
    go_ret
    exact ⟨rfl, rfl⟩
  | false =>
    have h1' : Op.bytesLess a.toList b.toList = false := h1
    by_cases h2 : a = b
    · have hc2 : cmpS a b = 0 := by rw [hc, h1, if_pos h2]; rfl
      have h2' : (a.toList == b.toList) = true := by rw [h2]; simp
      rw [hc2]
      clear hc hc2 h1 h2
      go_enter Tryd.func30, Tryd.ntmps30
      go_wp2_with (first | (go_at_call 43; refine (isNaN_any _).mono ?_; rintro e w1 ⟨rfl, rfl⟩))
      go_ret
      exact ⟨rfl, rfl⟩
    · have hc2 : cmpS a b = 1 := by rw [hc, h1, if_neg h2]; rfl
      have h2' : (a.toList == b.toList) = false := beq_eq_false_iff_ne.2 (fun e => h2 (toList_eq_iff.1 e))
      rw [hc2]
      clear hc hc2 h1 h2
      go_enter Tryd.func30, Tryd.ntmps30
      go_wp2_with (first | (go_at_call 43; refine (isNaN_any _).mono ?_; rintro e w1 ⟨rfl, rfl⟩))
      go_ret
      exact ⟨rfl, rfl⟩
end
end Go.Proofs.YthmeobjomidkoaaDoor
