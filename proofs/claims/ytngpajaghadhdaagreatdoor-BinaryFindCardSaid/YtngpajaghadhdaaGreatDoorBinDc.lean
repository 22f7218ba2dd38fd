/- Decode, plain. -/
import Derived.Test.YtngpajaghadhdaaGreatDoorBinD
import Derived.Test.YtngpajaghadhdaaGreatDoorBinL
namespace Go.Proofs.YtngpajaghadhdaaGreatDoor
open Go.RowKit
set_option maxRecDepth 100000
theorem stepS_le (bs : List UInt8) (a : Nat) (f : Bool) : (stepS bs a f).1.length ≤ bs.length := by
  unfold stepS
  split
  · exact Nat.zero_le _
  · split
    · rename_i s k h
      have h1 := (readS_some h).2.2.2.2
      rw [List.length_drop] at h1
      exact Nat.le_trans h1 (Nat.sub_le _ _)
    · exact Nat.zero_le _
theorem flat_mem_le {l : List (List UInt8)} {s : List UInt8} (h : s ∈ l) : (encS s).length ≤ (l.flatMap encS).length := by
  induction l with
  | nil => cases h
  | cons x t ih =>
    rw [List.flatMap_cons, List.length_append]
    rcases List.mem_cons.1 h with rfl | h
    · omega
    · have := ih h; omega
theorem stepL_le (bs : List UInt8) (a : Nat) (f : Bool) (n : Nat) : (stepL n bs a f).1.length ≤ n ∧ ∀ s ∈ (stepL n bs a f).1, s.length ≤ bs.length := by
  unfold stepL
  split
  · exact ⟨Nat.zero_le _, fun s hs => by cases hs⟩
  · split
    · rename_i l k h
      obtain ⟨h1, _, h3, h4⟩ := readL_some h
      refine ⟨by show l.length ≤ n; omega, fun s hs => ?_⟩
      have h5 := flat_mem_le hs
      rw [List.length_drop] at h3
      have h8 : bs.length - a ≤ bs.length := Nat.sub_le _ _
      have h9 : (encI (s.length : Int)).length + s.length ≤ (l.flatMap encS).length := by rw [← List.length_append]; exact h5
      have h6 : (encL l).length = (encI l.length).length + (l.flatMap encS).length := by unfold encL; rw [List.length_append]
      generalize (encI (s.length : Int)).length = u at h9
      rw [h6] at h1
      generalize (encI (l.length : Int)).length = v at h1
      generalize (l.flatMap encS).length = y at h1 h9
      clear h5 h6
      omega
    · exact ⟨Nat.zero_le _, fun s hs => by cases hs⟩
theorem stepB_bd (bs : List UInt8) (a : Nat) (f : Bool) (n : Nat) : 0 ≤ (stepB 0 n bs a f).1 ∧ (stepB 0 n bs a f).1 ≤ n := by
  unfold stepB
  split
  · exact ⟨Int.le_refl _, by show (0 : Int) ≤ n; omega⟩
  · split
    · split
      · rename_i hc
        exact hc
      · exact ⟨Int.le_refl _, by show (0 : Int) ≤ n; omega⟩
    · exact ⟨Int.le_refl _, by show (0 : Int) ≤ n; omega⟩
theorem stepFs_le (bs : List UInt8) (a : Nat) (f : Bool) (q : Nat) : (stepFs bs a f q).1.length = q ∧ ∀ x ∈ (stepFs bs a f q).1, x.1.size ≤ bs.length ∧ x.2.size ≤ bs.length := by
  induction q with
  | zero => exact ⟨rfl, fun x hx => by cases hx⟩
  | succ q ih =>
    unfold stepFs
    refine ⟨by simp [ih.1], fun x hx => ?_⟩
    rcases List.mem_append.1 hx with hx | hx
    · exact ih.2 x hx
    · rw [List.mem_singleton] at hx
      subst hx
      exact ⟨by rw [str_size]; exact stepS_le _ _ _, by rw [str_size]; exact stepS_le _ _ _⟩
theorem stepF_le (bs : List UInt8) (a : Nat) (f : Bool) : (stepF bs a f).1.length ≤ 20 ∧ ∀ x ∈ (stepF bs a f).1, x.1.size ≤ bs.length ∧ x.2.size ≤ bs.length := by
  unfold stepF
  obtain ⟨h1, h2⟩ := stepFs_le bs (stepB 0 20 bs a f).2.1 (stepB 0 20 bs a f).2.2 (stepB 0 20 bs a f).1.toNat
  refine ⟨?_, h2⟩
  have h3 := stepB_bd bs a f 20
  show (stepFs _ _ _ _).1.length ≤ 20
  rw [h1]
  have h4 : (stepB 0 20 bs a f).1 ≤ 20 := h3.2
  omega
/-- The parts of bytes as Decode reads them. -/
def hdT (b : List UInt8) := stepS (b.drop 8) 0 false
def hdC (b : List UInt8) := stepL 20 (b.drop 8) (hdT b).2.1 (hdT b).2.2
def hdF (b : List UInt8) := stepF (b.drop 8) (hdC b).2.1 (hdC b).2.2
def hdN (b : List UInt8) := stepB 0 1000 (b.drop 8) (hdF b).2.1 (hdF b).2.2
def hdA (b : List UInt8) : Nat := 8 + (hdN b).2.1 + 8 * (hdN b).1.toNat
def bdE (b : List UInt8) := stepEs (stepB 0 4) (b.drop (hdA b)) 0 false (hdN b).1.toNat
def decC (b : List UInt8) : Cp := ⟨str (hdT b).1, (hdC b).1.map str, (hdF b).1, (bdE b).1⟩
/-- What holds of the bytes of a valid catalog. -/
structure DecY (b : List UInt8) (d : Cp) : Prop where
  len : LenR b = ((b.length : Int), true)
  at_ : hdA b ≤ b.length
  dec : decC b = d
  end_ : endE (b.length - hdA b) (bdE b).2.1 (bdE b).2.2 = 0
theorem dec_yes {b : List UInt8} {d : Cp} (hv : validC d = true) (he : encC d = b) : DecY b d := by
  subst he
  have hs := validC_short hv
  have R := readsC hs
  have e1 : hdT (encC d) = (bys d.tag, (encS (bys d.tag)).length, false) := R.tag
  have e2 : hdC (encC d) = (d.com.map bys, (encS (bys d.tag) ++ encL (d.com.map bys)).length, false) := by unfold hdC; rw [e1]; exact R.com
  have e3 : hdF (encC d) = (d.fd, (encS (bys d.tag) ++ encL (d.com.map bys) ++ encF d.fd).length, false) := by unfold hdF; rw [e2]; exact R.fd
  have e4 : hdN (encC d) = ((d.es.length : Int), (headE d).length, false) := by unfold hdN; rw [e3]; exact R.n 1000 (by omega)
  have e5 : hdA (encC d) = atE d := by unfold hdA; rw [e4]; rfl
  have e6 := (stepEs_enc rdOk_B (a := 0) (bs := (encC d).drop (atE d)) (r := []) hs.es.2 (by rw [List.drop_zero, List.append_nil]; exact R.rest) d.es.length (Nat.le_refl _)).1
  rw [List.take_length, Nat.zero_add] at e6
  have e7 : bdE (encC d) = (d.es, (recsE d.es).length, false) := by unfold bdE; rw [e5, e4]; exact e6
  refine ⟨?_, ?_, ?_, ?_⟩
  · unfold LenR
    rw [if_pos ⟨R.l8, R.mag⟩, R.num]
  · rw [e5]; exact R.at_
  · unfold decC
    rw [e1, e2, e3, e7]
    show (⟨str (bys d.tag), (d.com.map bys).map str, d.fd, d.es⟩ : Cp) = d
    rw [str_bys, map_str_bys]
  · have hl := R.len
    unfold totE at hl
    rw [e7, e5]
    unfold endE
    rw [if_neg]
    rintro (h | h)
    · cases h
    · exact h (by show (recsE d.es).length = _; omega)
theorem dec_no {b : List UInt8} (h : ∀ d, validC d = true → encC d = b → DecY b d → False) : DecR b ⟨⟨#[]⟩, [], [], []⟩ 4 := .inr ⟨rfl, rfl, fun _ hv he => h _ hv he (dec_yes hv he)⟩
theorem stepEs_len (rd : List UInt8 → Nat → Bool → Int × Nat × Bool) (bs : List UInt8) (a : Nat) (f : Bool) (q : Nat) : (stepEs rd bs a f q).1.length = q := by
  induction q with
  | zero => rfl
  | succ q ih =>
    unfold stepEs
    simp [ih]
theorem stepEs_succ {rd : List UInt8 → Nat → Bool → Int × Nat × Bool} {bs : List UInt8} {a : Nat} {f : Bool} {q : Nat} {l : List Ep} {p : Nat} {ff : Bool} (h : stepEs rd bs a f q = (l, p, ff)) : stepEs rd bs a f (q + 1) = (l ++ [(stepE rd bs p ff).1], (stepE rd bs p ff).2.1, (stepE rd bs p ff).2.2) := by
  rw [stepEs, h]
end Go.Proofs.YtngpajaghadhdaaGreatDoor
