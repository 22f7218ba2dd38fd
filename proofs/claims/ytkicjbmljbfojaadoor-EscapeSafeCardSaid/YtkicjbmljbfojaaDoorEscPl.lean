/- Laws of escape sequences, plainly. -/
import Derived.Test.YtkicjbmljbfojaaDoorEscP
namespace Go.Proofs.YtkicjbmljbfojaaDoor
open Go.RowKit
set_option maxRecDepth 100000

theorem by_toNat (c : UInt8) : by_ c.toNat = c := by unfold by_; simp

/-- How one byte is escaped: as itself, or as a sequence. -/
def shapeB (n b : Nat) (f : Bool) : Bool :=
  if n = 4 then
    (oneL n b f == [by_ b] && !(b == 38) && !forb 4 (by_ b)) ||
      (match oneL n b f with
        | 38 :: nm => nm.dropLast.all (· != 59) && (nm == nm.dropLast ++ [59]) && (nameE nm.dropLast == some [by_ b])
        | _ => false)
  else
    (oneL n b f == [by_ b] && !(b == 92) && !forb n (by_ b)) ||
      (match oneL n b f with
        | [92, x] => readB [92, x] == some ([by_ b], 2)
        | [92, 120, x, y] => readX [x, y] == some ([by_ b], 4)
        | [92, 117, x, y, z, u] => readU [x, y, z, u] == some ([by_ b], 6)
        | _ => false)
theorem shape_all : ((List.range 5).all fun n => (List.range 256).all fun b => (n == 0 || shapeB n b true) && (n == 0 || shapeB n b false)) = true := by kernel_rfl
theorem shape_one (n : Nat) (h1 : 1 ≤ n) (h4 : n ≤ 4) (c : UInt8) (f : Bool) : shapeB n c.toNat f = true := by
  have := all_bytes (p := fun n b f => n == 0 || shapeB n b f) shape_all n h4 c f
  simp only [Bool.or_eq_true, beq_iff_eq] at this
  rcases this with h | h
  · omega
  · exact h
theorem nmOf_app {nm r : List UInt8} (h : nm.all (· != 59) = true) (c : UInt8) : nmOf (c :: (nm ++ 59 :: r)) = nm := by
  unfold nmOf
  rw [List.drop_succ_cons, List.drop_zero, List.takeWhile_append_of_pos (by simpa using h)]
  simp
/-- An escaped byte is read back, whatever follows. -/
theorem stepU_one (n : Nat) (h1 : 1 ≤ n) (h4 : n ≤ 4) (c : UInt8) (f : Bool) (r : List UInt8) : stepU n (oneL n c.toNat f ++ r) = some ([c], (oneL n c.toNat f).length) := by
  have hs := shape_one n h1 h4 c f
  unfold shapeB at hs
  rw [by_toNat] at hs
  split at hs
  · rename_i hn
    rw [Bool.or_eq_true] at hs
    rcases hs with hs | hs
    · simp only [Bool.and_eq_true, beq_iff_eq, Bool.not_eq_true', beq_eq_false_iff_ne] at hs
      obtain ⟨⟨e, hb⟩, hf⟩ := hs
      have hc : c ≠ 38 := fun h => hb (by rw [h]; rfl)
      rw [e, hn]
      simp [stepU, hc, hf]
    · split at hs
      · rename_i nm e
        simp only [Bool.and_eq_true, beq_iff_eq] at hs
        obtain ⟨⟨ha, hl⟩, hv⟩ := hs
        obtain ⟨q, hq⟩ : ∃ q, q = nm.dropLast := ⟨_, rfl⟩
        rw [← hq] at ha hl hv
        rw [e, hl, hn]
        have e1 : 38 :: (q ++ [59]) ++ r = 38 :: (q ++ 59 :: r) := by simp
        rw [e1]
        simp only [stepU, ne_eq, not_true_eq_false, false_and, if_false, true_and, if_true]
        unfold readE
        rw [nmOf_app ha, hv]
        simp
      · cases hs
  · rename_i hn
    rw [Bool.or_eq_true] at hs
    rcases hs with hs | hs
    · simp only [Bool.and_eq_true, beq_iff_eq, Bool.not_eq_true', beq_eq_false_iff_ne] at hs
      obtain ⟨⟨e, hb⟩, hf⟩ := hs
      have hc : c ≠ 92 := fun h => hb (by rw [h]; rfl)
      rw [e]
      simp [stepU, hc, hf, hn]
    · split at hs
      · rename_i x e
        simp only [beq_iff_eq] at hs
        rw [e]
        simp only [List.cons_append, List.nil_append, stepU, ne_eq, hn, not_false_eq_true, and_self, if_true]
        show readB (92 :: x :: r) = some ([c], 2)
        rw [← hs]
        unfold readB
        simp only
        repeat' split
        all_goals first
          | rfl
          | (exfalso; unfold readB at hs; simp_all [readX, readU]; done)
          | (exfalso; unfold readB at hs; simp_all [readX, readU]; exact absurd hs.1 (by decide))
      · rename_i x y e
        simp only [beq_iff_eq] at hs
        rw [e]
        simp only [List.cons_append, List.nil_append, stepU, ne_eq, hn, not_false_eq_true, and_self, if_true]
        exact hs
      · rename_i x y z u e
        simp only [beq_iff_eq] at hs
        rw [e]
        simp only [List.cons_append, List.nil_append, stepU, ne_eq, hn, not_false_eq_true, and_self, if_true]
        exact hs
      · cases hs
theorem oneL_pos (n : Nat) (h1 : 1 ≤ n) (h4 : n ≤ 4) (c : UInt8) (f : Bool) : 1 ≤ (oneL n c.toNat f).length :=
  stepU_pos (stepU_one n h1 h4 c f [])
/-- Reading what was written. -/
theorem unGo_esc (n : Nat) (h1 : 1 ≤ n) (h4 : n ≤ 4) : ∀ (s : List UInt8) (f : Bool) (fu p : Nat) (acc : List UInt8), (escGo n f s).length ≤ fu → unGo n fu acc p (escGo n f s) = (acc ++ s, 0, 0)
  | [], f, fu, p, acc, _ => by
    cases fu <;> simp [escGo, unGo]
  | c :: t, f, fu, p, acc, h => by
    have hp := oneL_pos n h1 h4 c f
    have hs := stepU_one n h1 h4 c f (escGo n false t)
    rw [escGo] at h ⊢
    rw [List.length_append] at h
    cases fu with
    | zero => omega
    | succ fu =>
      cases hl : oneL n c.toNat f ++ escGo n false t with
      | nil =>
        have := congrArg List.length hl
        rw [List.length_append, List.length_nil] at this
        omega
      | cons x y =>
        rw [unGo, ← hl, hs]
        simp only
        rw [List.drop_left' rfl, unGo_esc n h1 h4 t false fu _ _ (by omega)]
        simp
theorem unL_esc (n : Nat) (h1 : 1 ≤ n) (h4 : n ≤ 4) (s : List UInt8) : unL n (escL n s) = (s, 0, 0) := by
  unfold unL escL
  rw [unGo_esc n h1 h4 s true _ 0 [] (Nat.le_refl _)]
  simp

/-- Safe. -/
theorem safe_all : ((List.range 5).all fun n => (List.range 256).all fun b => ((oneL n b true).all (fun x => x != 10 && (n != 4 || x != 60))) && ((oneL n b false).all (fun x => x != 10 && (n != 4 || x != 60)))) = true := by kernel_rfl
theorem escGo_safe (n : Nat) (h4 : n ≤ 4) : ∀ (s : List UInt8) (f : Bool), (escGo n f s).all (fun x => x != 10 && (n != 4 || x != 60)) = true
  | [], _ => rfl
  | c :: t, f => by
    rw [escGo, List.all_append, escGo_safe n h4 t false, Bool.and_true]
    exact all_bytes (p := fun n b f => (oneL n b f).all (fun x => x != 10 && (n != 4 || x != 60))) safe_all n h4 c f
/-- A text is passed over in a search for the end. -/
def pass (n : Nat) (d : UInt8) : Bool → List UInt8 → Option Bool
  | sk, [] => some sk
  | true, _ :: t => pass n d false t
  | false, c :: t => if c = d then none else if n ≠ 4 ∧ c = 92 then pass n d true t else pass n d false t
theorem endGo_pass (n : Nat) (d : UInt8) : ∀ (l : List UInt8) (sk sk' : Bool) (i : Nat) (r : List UInt8), pass n d sk l = some sk' → endGo n d sk i (l ++ r) = endGo n d sk' (i + l.length) r
  | [], sk, sk', i, r, h => by
    cases sk <;> (injection h with h; subst h; rfl)
  | c :: t, true, sk', i, r, h => by
    rw [List.cons_append, endGo, endGo_pass n d t false sk' (i + 1) r h, List.length_cons]
    congr 1; omega
  | c :: t, false, sk', i, r, h => by
    rw [pass] at h
    rw [List.cons_append, endGo, List.length_cons, show i + (t.length + 1) = i + 1 + t.length by omega]
    split at h
    · cases h
    · rename_i h1
      rw [if_neg h1]
      split at h
      · rename_i h2
        rw [if_pos h2, endGo_pass n d t true sk' (i + 1) r h]
      · rename_i h2
        rw [if_neg h2, endGo_pass n d t false sk' (i + 1) r h]
/-- The delimiters of the styles. -/
def delim (n : Nat) (d : UInt8) : Bool := if n = 1 then d == 61 || d == 58 || d == 35 else d == 34
def passAll (n b : Nat) (f : Bool) : Bool := [61, 58, 35, 34].all fun d => !delim n d || n == 0 || pass n d false (oneL n b f) == some false
theorem pass_all : ((List.range 5).all fun n => (List.range 256).all fun b => passAll n b true && passAll n b false) = true := by kernel_rfl
theorem pass_one (n : Nat) (h1 : 1 ≤ n) (h4 : n ≤ 4) {d : UInt8} (hd : delim n d = true) (c : UInt8) (f : Bool) : pass n d false (oneL n c.toNat f) = some false := by
  have h := all_bytes (p := passAll) pass_all n h4 c f
  unfold passAll at h
  have hm : d ∈ [61, 58, 35, 34] := by
    unfold delim at hd
    split at hd
    · simp at hd; simp; rcases hd with (h | h) | h <;> simp [h]
    · simp at hd; simp [hd]
  have h2 := List.all_eq_true.1 h d hm
  rw [hd] at h2
  simp only [Bool.not_true, Bool.false_or, Bool.or_eq_true, beq_iff_eq] at h2
  rcases h2 with h2 | h2
  · omega
  · exact h2
theorem endGo_esc (n : Nat) (h1 : 1 ≤ n) (h4 : n ≤ 4) {d : UInt8} (hd : delim n d = true) : ∀ (s : List UInt8) (f : Bool) (i : Nat) (r : List UInt8), endGo n d false i (escGo n f s ++ r) = endGo n d false (i + (escGo n f s).length) r
  | [], f, i, r => by simp [escGo]
  | c :: t, f, i, r => by
    rw [escGo, List.append_assoc, endGo_pass n d _ false false i _ (pass_one n h1 h4 hd c f), endGo_esc n h1 h4 hd t false _ r, List.length_append]
    congr 1; omega

/-- Joins. -/
theorem first_all : ((List.range 5).all fun n => (List.range 256).all fun b => ((n == 1 && b == 32) || oneL n b true == oneL n b false) && true) = true := by kernel_rfl
theorem oneL_first (n : Nat) (h4 : n ≤ 4) (c : UInt8) (h : ¬ (n = 1 ∧ c = 32)) (f : Bool) : oneL n c.toNat f = oneL n c.toNat false := by
  cases f
  · rfl
  · have h1 := all_bytes (p := fun n b f => if f then ((n == 1 && b == 32) || oneL n b true == oneL n b false) else true) (by simpa using first_all) n h4 c true
    simp only [if_true, Bool.or_eq_true, Bool.and_eq_true, beq_iff_eq] at h1
    rcases h1 with h1 | h1
    · exact absurd ⟨h1.1, UInt8.toNat_inj.1 (by rw [h1.2]; rfl)⟩ h
    · exact h1
theorem escL_join (n : Nat) (h4 : n ≤ 4) (s t : List UInt8) (h : ¬ (n = 1 ∧ t.head? = some 32)) : escL n (s ++ t) = escL n s ++ escL n t := by
  unfold escL
  rw [escGo_app]
  congr 1
  cases t with
  | nil => rfl
  | cons c t =>
    rw [escGo, escGo, oneL_first n h4 c (fun ⟨a, b⟩ => h ⟨a, by rw [b]; rfl⟩) _, oneL_first n h4 c (fun ⟨a, b⟩ => h ⟨a, by rw [b]; rfl⟩) true]

/-- Letters. -/
def letB (b : Nat) : Bool := decide (b = 32 ∨ (48 ≤ b ∧ b ≤ 57) ∨ (65 ≤ b ∧ b ≤ 90) ∨ (97 ≤ b ∧ b ≤ 122))
theorem let_all : ((List.range 5).all fun n => (List.range 256).all fun b => (!letB b || (n == 1 && b == 32) || oneL n b true == [by_ b]) && (!letB b || oneL n b false == [by_ b])) = true := by kernel_rfl
theorem oneL_let (n : Nat) (h4 : n ≤ 4) (c : UInt8) (f : Bool) (h : letB c.toNat = true) (hf : f = true → c ≠ 32) : oneL n c.toNat f = [c] := by
  have h1 := all_bytes (p := fun n b f => !letB b || (f && n == 1 && b == 32) || oneL n b f == [by_ b]) (by simpa using let_all) n h4 c f
  rw [h] at h1
  simp only [Bool.not_true, Bool.false_or, Bool.or_eq_true, Bool.and_eq_true, beq_iff_eq, by_toNat] at h1
  rcases h1 with h1 | h1
  · exact absurd (UInt8.toNat_inj.1 (by rw [h1.2]; rfl)) (hf h1.1.1)
  · exact h1
theorem escGo_let (n : Nat) (h4 : n ≤ 4) : ∀ (s : List UInt8) (f : Bool), s.all (fun c => letB c.toNat) = true → (f = true → s.head? ≠ some 32) → escGo n f s = s
  | [], _, _, _ => rfl
  | c :: t, f, h, hf => by
    rw [List.all_cons, Bool.and_eq_true] at h
    rw [escGo, oneL_let n h4 c f h.1 (fun e hc => hf e (by rw [hc]; rfl)), escGo_let n h4 t false h.2 (by simp)]
    rfl

end Go.Proofs.YtkicjbmljbfojaaDoor
