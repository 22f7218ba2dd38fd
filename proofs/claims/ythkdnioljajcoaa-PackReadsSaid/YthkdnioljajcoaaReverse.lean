/- slices.Reverse on a byte slice that the call owns. -/
import Derived.Test.YthkdnioljajcoaaBytes
namespace Go.Proofs.Ythkdnioljajcoaa
open Go.RowKit

/-- l with its first and its last k elements exchanged. -/
def Swp (l m : List UInt8) (k : Nat) : Prop := m.length = l.length ∧ ∀ j, j < l.length → m[j]? = if j < k ∨ l.length ≤ j + k then l[l.length - 1 - j]? else l[j]?
theorem Swp.zero (l : List UInt8) : Swp l l 0 := ⟨rfl, fun j hj => by rw [if_neg (by omega)]⟩
theorem Swp.step {l m : List UInt8} {k q : Nat} (h : Swp l m k) (h1 : k + q + 1 = l.length) (h2 : k < q) (x y : UInt8) (hx : m[q]? = some x) (hy : m[k]? = some y) :
    Swp l ((m.set k x).set q y) (k + 1) := by
  refine ⟨by simp [h.1], fun j hj => ?_⟩
  have hq := h.2 q (by omega)
  have hk := h.2 k (by omega)
  rw [if_neg (by omega)] at hq hk
  have e1 : l.length - 1 - q = k := by omega
  have e2 : l.length - 1 - k = q := by omega
  by_cases hjq : j = q
  · subst hjq
    rw [List.getElem?_set_self (by simp [h.1]; omega), if_pos (by omega), e1, ← hk, hy]
  · rw [List.getElem?_set_ne (by omega)]
    by_cases hjk : j = k
    · subst hjk
      rw [List.getElem?_set_self (by rw [h.1]; omega), if_pos (by omega), e2, ← hq, hx]
    · rw [List.getElem?_set_ne (by omega), h.2 j hj]
      by_cases hc : j < k ∨ l.length ≤ j + k
      · rw [if_pos hc, if_pos (by omega)]
      · rw [if_neg hc, if_neg (by omega)]
theorem Swp.done {l m : List UInt8} {k q : Nat} (h : Swp l m k) (h1 : k + q + 1 = l.length) (h2 : q ≤ k) : m = l.reverse := by
  apply List.ext_getElem?
  intro j
  by_cases hj : j < l.length
  · rw [h.2 j hj, List.getElem?_reverse hj]
    by_cases hc : j < k ∨ l.length ≤ j + k
    · rw [if_pos hc]
    · rw [if_neg hc]
      have : l.length - 1 - j = j := by omega
      rw [this]
  · rw [List.getElem?_eq_none (by rw [h.1]; omega), List.getElem?_eq_none (by simp; omega)]

theorem map_set_bv (m : List UInt8) (k : Nat) (x : UInt8) : (m.map bv).set k (bv x) = (m.set k x).map bv := by rw [List.map_set]

set_option maxHeartbeats 400000 in
theorem reverseB {A : Option Addr} {n c base : Nat} {l : List UInt8} {w : World} (h : OsB w base A n c l) :
    Calls Try.prog 42 #[.slice A n c] w fun e w' => e = .returned (.tuple #[]) ∧ OsB w' base A n c l.reverse ∧ w.grownBy w' (ob A) := by
  have HL := Lib.hid h.len
  have hle := h.le
  by_cases h0 : n = 0
  · have hl : l = [] := List.eq_nil_of_length_eq_zero (by rw [← HL.out]; exact h0)
    subst hl h0
    go_enter Try.func42, Try.ntmps42
    go_wp2
    refine wp_loop_rounds 1 ?_
    rw [rounds_succ]
    go_wp2
    go_end0
    exact ⟨rfl, h, (Ext.refl w).grownBy _⟩
  · obtain ⟨g, hA⟩ : ∃ g, A = some ⟨g, 0, none⟩ := by
      rcases h.own.2 with ⟨hv, hz⟩ | ⟨g, cap, cur, hv, _⟩
      · exact absurd hz h0
      · exact ⟨g, by injection hv⟩
    subst hA
    go_enter Try.func42, Try.ntmps42
    go_wp2
    go_loopw [2, 3] (fun i j wr => ∃ (k q : Nat) (m : List UInt8), k + q + 1 ≤ n ∧ n ≤ k + q + 1 ∧ i = .int .i64 k ∧ j = .int .i64 q ∧ Swp l m k ∧ wr.ownsRow base 5 1 (.slice (some ⟨g, 0, none⟩) n c) n (m.map bv) ∧ w.grownBy wr (some g)) (fun i _ _ => n - (intOf i).toNat)
    case atStart => exact ⟨0, n - 1, l, by omega, by omega, rfl, by go_num, Swp.zero l, h.own, (Ext.refl w).grownBy _⟩
    case round =>
      obtain ⟨k, q, m, h1, h2, rfl, rfl, hs, ho, hg⟩ := hrel
      have hml : m.length = n := hs.1.trans HL.out.symm
      have HS1 := Lib.hid hml; clear hml
      by_cases hlt : k < q
      · obtain ⟨x, hxq⟩ : ∃ x, m[q]? = some x := ⟨_, List.getElem?_eq_getElem (by rw [HS1.out]; omega)⟩
        obtain ⟨y, hxk⟩ : ∃ y, m[k]? = some y := ⟨_, List.getElem?_eq_getElem (by rw [HS1.out]; omega)⟩
        have c1 : wr.cell? ⟨g, q, none⟩ = some (.int .u8 (x.toNat : Int)) := by
          rw [ho.cellAt q (by omega), List.getElem?_map, hxq]; rfl
        have c2 : wr.cell? ⟨g, k, none⟩ = some (.int .u8 (y.toNat : Int)) := by
          rw [ho.cellAt k (by omega), List.getElem?_map, hxk]; rfl
        have f1 := ho.frozenAt q
        have f2 := ho.frozenAt k
        have HS2 := Lib.hid (hs.step (q := q) (by rw [← HL.out]; omega) hlt _ _ hxq hxk)
        have st1 := ho.stored k (bv x)
        have st2 := st1.1.stored q (bv y)
        rw [map_set_bv, map_set_bv] at st2
        have ST := Lib.hid st2.1
        have GR := Lib.hid (grown_step (grown_step hg st1.2 (NewOr.refl _ _)) st2.2 (NewOr.refl _ _))
        have hq1 : (q : Int) < (n : Int) := by omega
        have hk1 : (k : Int) < (n : Int) := by omega
        clear st1 st2 hs hxq hxk ho hg
        go_wp2
        go_region
        all_goals
          go_wp2
          go_roundw
          case rel =>
            refine ⟨k + 1, q - 1, (m.set k x).set q y, by omega, by omega, by go_num, by go_num, HS2.out, ?_, ?_⟩
            · exact ST.out
            · exact grown_drew GR.out
          case measure => simp [intOf]; omega
      · have hfin := Lib.hid (hs.done (q := q) (by rw [← HL.out]; omega) (by omega))
        have HO := Lib.hid ho
        have HG := Lib.hid hg
        clear hs ho hg
        go_wp2
        go_end0
        refine ⟨rfl, ⟨?_, by rw [List.length_reverse]; exact HL.out, hle⟩, HG.out⟩
        rw [← hfin.out]
        exact HO.out

end Go.Proofs.Ythkdnioljajcoaa
