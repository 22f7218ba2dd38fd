/- Plain laws of sealed strings. -/
import Derived.Test.YtoghaehcmbonnaaGreatDoorOpen3
namespace Go.Proofs.YtoghaehcmbonnaaGreatDoor
open Go.RowKit
set_option maxRecDepth 100000
theorem sealL_len (h : Nat) (l : List UInt8) : (sealL h l).length = l.length + 8 := by unfold sealL; rw [List.length_append, eightL_len]
theorem open_seal {h k : Nat} (hh : h < 18446744073709551616) (hk : k < 18446744073709551616) (l : List UInt8) : openR h (sealL k l) = if h = k then (l, 0) else ([], 5) := by
  unfold openR
  rw [sealL_len, if_neg (by omega), show l.length + 8 - 8 = l.length by omega]
  have e1 : (sealL k l).take l.length = l := by unfold sealL; rw [List.take_left']; rfl
  have e2 : (sealL k l).drop l.length = eightL (sealN k l) := by unfold sealL; rw [List.drop_left']; rfl
  rw [e1, e2]
  by_cases e : h = k
  · subst e
    rw [if_pos rfl, if_pos rfl]
  · rw [if_neg e, if_neg]
    intro e3
    exact e ((seal_inj hh hk l).1 (eightL_inj (seal_lt hk l) (seal_lt hh l) e3).symm)
/-- One byte of a sealed string changed. -/
theorem open_damage {h q : Nat} (hh : h < 18446744073709551616) {l : List UInt8} (hq : q < (sealL h l).length) {v : UInt8} (hv : (sealL h l)[q] ≠ v) : openR h ((sealL h l).set q v) = ([], 5) := by
  unfold openR
  rw [List.length_set, sealL_len, if_neg (by omega), show l.length + 8 - 8 = l.length by omega, if_neg]
  intro e
  rw [sealL_len] at hq
  by_cases hlt : q < l.length
  · have e1 : (sealL h l).set q v = l.set q v ++ eightL (sealN h l) := by unfold sealL; rw [List.set_append_left _ _ hlt]
    rw [e1, List.drop_left' (by rw [List.length_set]), List.take_left' (by rw [List.length_set])] at e
    have h1 := eightL_inj (seal_lt hh l) (seal_lt hh _) e
    have h2 := (seal_set hh hlt v).1 h1.symm
    apply hv
    rw [← h2]
    exact List.getElem_append_left hlt
  · have e1 : (sealL h l).set q v = l ++ (eightL (sealN h l)).set (q - l.length) v := by unfold sealL; rw [List.set_append_right _ _ (by omega)]
    rw [e1, List.drop_left' rfl, List.take_left' rfl] at e
    have hq8 : q - l.length < (eightL (sealN h l)).length := by rw [eightL_len]; omega
    have h1 : ((eightL (sealN h l)).set (q - l.length) v)[q - l.length]'(by rw [List.length_set]; exact hq8) = v := List.getElem_set_self _
    have h2 : ((eightL (sealN h l)).set (q - l.length) v)[q - l.length]? = (eightL (sealN h l))[q - l.length]? := by rw [e]
    rw [List.getElem?_eq_getElem (by rw [List.length_set]; exact hq8), List.getElem?_eq_getElem hq8, h1] at h2
    apply hv
    exact (List.getElem_append_right (show l.length ≤ q by omega)).trans (Option.some.inj h2).symm
end Go.Proofs.YtoghaehcmbonnaaGreatDoor
