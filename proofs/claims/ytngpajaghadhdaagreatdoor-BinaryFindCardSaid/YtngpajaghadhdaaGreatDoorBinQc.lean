/- The reference's Decode, plain. -/
import Derived.Test.YtngpajaghadhdaaGreatDoorBinDe
import Derived.Test.YtngpajaghadhdaaGreatDoorRefRd
namespace Go.Proofs.YtngpajaghadhdaaGreatDoor
open Go.RowKit
set_option maxRecDepth 100000
def rhdB (b : List UInt8) : List UInt8 := restB (b.drop 8) (hdN b).2.1 (hdN b).2.2
def rbs (b : List UInt8) : List UInt8 := (rhdB b).drop (8 * (hdN b).1.toNat)
def rbdE (b : List UInt8) := stepEs stepI (rbs b) 0 false (hdN b).1.toNat
def rdecC (b : List UInt8) : Cp := ⟨str (hdT b).1, (hdC b).1.map str, (hdF b).1, (rbdE b).1⟩
/-- What holds of the bytes of a valid catalog. -/
structure RDecY (b : List UInt8) (d : Cp) : Prop where
  l8 : 8 ≤ b.length
  mag : b.take 4 = magicB
  rest : 8 * (hdN b).1.toNat ≤ (rhdB b).length
  dec : rdecC b = d
theorem rdec_yes {b : List UInt8} {d : Cp} (hv : validC d = true) (he : encC d = b) : RDecY b d := by
  subst he
  have hs := validC_short hv
  have R := readsC hs
  have e1 : hdT (encC d) = (bys d.tag, (encS (bys d.tag)).length, false) := R.tag
  have e2 : hdC (encC d) = (d.com.map bys, (encS (bys d.tag) ++ encL (d.com.map bys)).length, false) := by unfold hdC; rw [e1]; exact R.com
  have e3 : hdF (encC d) = (d.fd, (encS (bys d.tag) ++ encL (d.com.map bys) ++ encF d.fd).length, false) := by unfold hdF; rw [e2]; exact R.fd
  have e4 : hdN (encC d) = ((d.es.length : Int), (headE d).length, false) := by unfold hdN; rw [e3]; exact R.n 1000 (by omega)
  have e5 : rhdB (encC d) = dirE d ++ recsE d.es := by
    unfold rhdB
    rw [e4]
    show restB _ (headE d).length false = _
    unfold restB
    rw [if_neg (by simp), List.drop_drop]
    exact R.dir
  have e6 : rbs (encC d) = recsE d.es := by
    unfold rbs
    rw [e5, e4]
    show (dirE d ++ recsE d.es).drop (8 * (d.es.length : Int).toNat) = _
    rw [Int.toNat_natCast, ← dirE_len, List.drop_left]
  have e7 : rbdE (encC d) = (d.es, (recsE d.es).length, false) := by
    have h9 := (stepEs_enc rdOk_I (a := 0) (bs := recsE d.es) (r := []) hs.es.2 (by rw [List.drop_zero, List.append_nil]) d.es.length (Nat.le_refl _)).1
    rw [List.take_length, Nat.zero_add] at h9
    unfold rbdE
    rw [e6, e4]
    exact h9
  refine ⟨R.l8, R.mag, ?_, ?_⟩
  · rw [e5, e4, List.length_append, dirE_len]
    show 8 * (d.es.length : Int).toNat ≤ _
    rw [Int.toNat_natCast]
    omega
  · unfold rdecC
    rw [e1, e2, e3, e7]
    show (⟨str (bys d.tag), (d.com.map bys).map str, d.fd, d.es⟩ : Cp) = d
    rw [str_bys, map_str_bys]
theorem rdec_no {b : List UInt8} (h : ∀ d, validC d = true → encC d = b → RDecY b d → False) : DecR b ⟨⟨#[]⟩, [], [], []⟩ 4 := .inr ⟨rfl, rfl, fun _ hv he => h _ hv he (rdec_yes hv he)⟩
theorem stepI_bd (bs : List UInt8) (a : Nat) (f : Bool) : -9223372036854775808 ≤ (stepI bs a f).1 ∧ (stepI bs a f).1 ≤ 9223372036854775807 := by
  unfold stepI
  split
  · exact ⟨by show (-9223372036854775808 : Int) ≤ 0; omega, by show (0 : Int) ≤ 9223372036854775807; omega⟩
  · split
    · rename_i n k h
      exact (readI_some h).1
    · exact ⟨by show (-9223372036854775808 : Int) ≤ 0; omega, by show (0 : Int) ≤ 9223372036854775807; omega⟩
end Go.Proofs.YtngpajaghadhdaaGreatDoor
