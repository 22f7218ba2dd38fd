/- Make, plainly. -/
import Derived.Test.YtghndnacmpckbaaGreatDoorPatP
namespace Go.Proofs.YtghndnacmpckbaaGreatDoor
open Go.RowKit
set_option maxRecDepth 100000

/-- The first b bytes are the same, and the last e of what is behind; and no more. -/
structure MkR (x y : List UInt8) (b e : Nat) : Prop where
  e1 : b + e ≤ x.length
  e2 : b + e ≤ y.length
  pre : x.take b = y.take b
  suf : x.drop (x.length - e) = y.drop (y.length - e)
  bmax : ∀ (h : b < x.length) (h' : b < y.length), x[b] ≠ y[b]
  emax : ∀ (_ : b + e < x.length) (_ : b + e < y.length), x[x.length - 1 - e]? ≠ y[y.length - 1 - e]?
def opB (b : Nat) : List POp := if 0 < b then [.cp 0 b] else []
def opI (m : List UInt8) : List POp := if 0 < m.length then [.ins m] else []
def opE (n e : Nat) : List POp := if 0 < e then [.cp (n : Nat) e] else []
def mkMid (y : List UInt8) (b e : Nat) : List UInt8 := (y.take (y.length - e)).drop b
def mkOps (x y : List UInt8) (b e : Nat) : List POp := opB b ++ opI (mkMid y b e) ++ opE (x.length - e) e
def mkC (x y : List UInt8) (b e : Nat) : PC := ⟨x.length, lowH (sumN x) 16, y.length, lowH (sumN y) 16, mkOps x y b e⟩
theorem mkMid_len {y : List UInt8} {b e : Nat} (h : b + e ≤ y.length) : (mkMid y b e).length = y.length - e - b := by
  unfold mkMid; rw [List.length_drop, List.length_take]; omega
theorem sumN_lt (l : List UInt8) : sumN l < 18446744073709551616 := seal_lt (by decide) l
theorem mkOps_len (x y : List UInt8) (b e : Nat) : (mkOps x y b e).length ≤ 3 := by
  unfold mkOps opB opI opE
  simp only [List.length_append]
  split <;> split <;> split <;> simp
theorem mkC_proper {x y : List UInt8} {b e : Nat} (h : MkR x y b e) (hx : x.length ≤ 1000000) (hy : y.length ≤ 1000000) : ProperC (mkC x y b e) (sumN x) (sumN y) := by
  have e1 := h.e1
  have e2 := h.e2
  have hm := mkMid_len h.e2
  refine ⟨⟨by show (0 : Int) ≤ x.length; omega, by show (x.length : Int) ≤ _; omega⟩, ⟨by show (0 : Int) ≤ y.length; omega, by show (y.length : Int) ≤ _; omega⟩, ⟨sumN_lt x, sumN_lt y⟩, rfl, rfl, by have := mkOps_len x y b e; show (mkOps x y b e).length ≤ _; omega, ?_, ?_⟩
  · intro z hz
    have hz' : z ∈ opB b ∨ z ∈ opI (mkMid y b e) ∨ z ∈ opE (x.length - e) e := by simpa [mkOps] using (show z ∈ mkOps x y b e from hz)
    rcases hz' with hz | hz | hz
    · unfold opB at hz
      split at hz
      · obtain rfl := List.mem_singleton.1 hz
        show (0 : Int) ≤ 0 ∧ (1 : Int) ≤ b ∧ (0 : Int) + b ≤ x.length
        omega
      · cases hz
    · unfold opI at hz
      split at hz
      · rename_i h0
        obtain rfl := List.mem_singleton.1 hz
        exact h0
      · cases hz
    · unfold opE at hz
      split at hz
      · obtain rfl := List.mem_singleton.1 hz
        show (0 : Int) ≤ ((x.length - e : Nat) : Int) ∧ (1 : Int) ≤ e ∧ ((x.length - e : Nat) : Int) + e ≤ x.length
        omega
      · cases hz
  · show sumO (mkOps x y b e) = y.length
    unfold mkOps
    rw [sumO_app, sumO_app]
    have h1 : sumO (opB b) = b := by unfold opB; split <;> simp [sumO, oLen]; omega
    have h2 : sumO (opI (mkMid y b e)) = (mkMid y b e).length := by unfold opI; split <;> simp [sumO, oLen]; omega
    have h3 : sumO (opE (x.length - e) e) = e := by unfold opE; split <;> simp [sumO, oLen]; omega
    rw [h1, h2, h3, hm]
    omega
theorem mk_run {x y : List UInt8} {b e : Nat} (h : MkR x y b e) : (mkOps x y b e).flatMap (runO x) = y := by
  have e1 := h.e1
  have e2 := h.e2
  unfold mkOps
  rw [List.flatMap_append, List.flatMap_append]
  have h1 : (opB b).flatMap (runO x) = y.take b := by
    unfold opB
    split
    · show [(POp.cp 0 b)].flatMap (runO x) = _
      simp only [List.flatMap_cons, List.flatMap_nil, List.append_nil, runO]
      rw [show (0 : Int).toNat = 0 from rfl, List.drop_zero, Int.toNat_natCast, h.pre]
    · rw [show b = 0 by omega]; rfl
  have h2 : (opI (mkMid y b e)).flatMap (runO x) = mkMid y b e := by
    unfold opI
    split
    · simp [runO]
    · rw [show mkMid y b e = [] from List.eq_nil_of_length_eq_zero (by omega)]; rfl
  have h3 : (opE (x.length - e) e).flatMap (runO x) = y.drop (y.length - e) := by
    unfold opE
    split
    · simp only [List.flatMap_cons, List.flatMap_nil, List.append_nil, runO]
      rw [Int.toNat_natCast, Int.toNat_natCast, h.suf, List.take_of_length_le (by rw [List.length_drop]; omega)]
    · rw [show e = 0 by omega, Nat.sub_zero, List.drop_length]; rfl
  rw [h1, h2, h3]
  unfold mkMid
  have h4 : y.take b = (y.take (y.length - e)).take b := by rw [List.take_take, Nat.min_eq_left (by omega)]
  rw [h4, List.take_append_drop, List.take_append_drop]
theorem opB_enc (b : Nat) : ((opB b).flatMap encO).length ≤ 27 := by
  unfold opB
  split
  · simp only [List.flatMap_cons, List.flatMap_nil, List.append_nil, encO, List.length_append]
    have h1 := encI_length_le 0
    have h2 := encI_length_le (b : Int)
    omega
  · simp
theorem opE_enc (n e : Nat) : ((opE n e).flatMap encO).length ≤ 27 := by
  unfold opE
  split
  · simp only [List.flatMap_cons, List.flatMap_nil, List.append_nil, encO, List.length_append]
    have h1 := encI_length_le 0
    have h2 := encI_length_le (n : Int)
    have h3 := encI_length_le (e : Int)
    omega
  · simp
theorem opI_enc (m : List UInt8) : ((opI m).flatMap encO).length ≤ 18 + m.length := by
  unfold opI
  split
  · simp only [List.flatMap_cons, List.flatMap_nil, List.append_nil, encO, encS, List.length_append]
    have h1 := encI_length_le 1
    have h2 := encI_length_le (m.length : Int)
    omega
  · simp
theorem mk_len {x y : List UInt8} {b e : Nat} : (sealL pkey (encP (mkC x y b e))).length ≤ 250 + (mkMid y b e).length := by
  rw [sealL_len]
  unfold encP mkC mkOps
  simp only [List.length_append, List.flatMap_append, encS, lowH_len]
  have h0 := encI_length_le (titleB.length : Int)
  have ht : titleB.length = 12 := rfl
  have h1 := encI_length_le (x.length : Int)
  have h2 := encI_length_le (y.length : Int)
  have h3 := encI_length_le ((16 : Nat) : Int)
  have h4 := encI_length_le (((opB b).length + (opI (mkMid y b e)).length + (opE (x.length - e) e).length : Nat) : Int)
  have h5 := opB_enc b
  have h6 := opE_enc (x.length - e) e
  have h7 := opI_enc (mkMid y b e)
  omega
theorem mk_sealed_ge (l : List UInt8) : 8 ≤ (sealL pkey l).length := by rw [sealL_len]; omega
end Go.Proofs.YtghndnacmpckbaaGreatDoor
