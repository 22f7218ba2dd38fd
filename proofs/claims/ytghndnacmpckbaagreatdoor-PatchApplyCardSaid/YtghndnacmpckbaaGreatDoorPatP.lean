/- Patches, plainly: contents, their encodings, and how they are read. -/
import Derived.Test.YtghndnacmpckbaaGreatDoorDigPl
import Derived.Test.YtghndnacmpckbaaGreatDoorParseP
import Derived.Test.YtghndnacmpckbaaGreatDoorRefRd
namespace Go.Proofs.YtghndnacmpckbaaGreatDoor
open Go.RowKit
set_option maxRecDepth 100000

/-- An operation: it copies a range, or inserts bytes. -/
inductive POp where
  | cp (o n : Int)
  | ins (s : List UInt8)
/-- The content of a patch. -/
structure PC where
  old : Int
  os : List UInt8
  new : Int
  ns : List UInt8
  ops : List POp
def encO : POp → List UInt8
  | .cp o n => encI 0 ++ (encI o ++ encI n)
  | .ins s => encI 1 ++ encS s
def titleB : List UInt8 := [99, 97, 108, 113, 117, 101, 45, 112, 97, 116, 99, 104]
def encP (c : PC) : List UInt8 := encS titleB ++ (encI c.old ++ (encS c.os ++ (encI c.new ++ (encS c.ns ++ (encI c.ops.length ++ c.ops.flatMap encO)))))
def oLen : POp → Int
  | .cp _ n => n
  | .ins s => s.length
def OpOk (old : Int) : POp → Prop
  | .cp o n => 0 ≤ o ∧ 1 ≤ n ∧ o + n ≤ old
  | .ins s => 1 ≤ s.length
def sumO : List POp → Int
  | [] => 0
  | x :: l => oLen x + sumO l
theorem sumO_app (a b : List POp) : sumO (a ++ b) = sumO a + sumO b := by
  induction a with
  | nil => simp [sumO]
  | cons x a ih => rw [List.cons_append, sumO, sumO, ih]; omega
structure ProperC (c : PC) (a b : Nat) : Prop where
  old : 0 ≤ c.old ∧ c.old ≤ 1000000
  new : 0 ≤ c.new ∧ c.new ≤ 1000000
  lt : a < 18446744073709551616 ∧ b < 18446744073709551616
  os : c.os = lowH a 16
  ns : c.ns = lowH b 16
  few : c.ops.length ≤ 100000
  each : ∀ x ∈ c.ops, OpOk c.old x
  sum : sumO c.ops = c.new
theorem OpOk.pos {old : Int} {x : POp} (h : OpOk old x) : 1 ≤ oLen x := by
  cases x with
  | cp o n => exact h.2.1
  | ins s => have h1 : 1 ≤ s.length := h; show (1 : Int) ≤ s.length; omega
theorem sumO_nonneg {old : Int} {l : List POp} (h : ∀ x ∈ l, OpOk old x) : 0 ≤ sumO l := by
  induction l with
  | nil => exact Int.le_refl _
  | cons x l ih =>
    have h1 := (h x (.head _)).pos
    have h2 := ih (fun y hy => h y (.tail _ hy))
    rw [sumO]
    omega
theorem sumO_mem {old : Int} {l : List POp} (h : ∀ x ∈ l, OpOk old x) {x : POp} (hx : x ∈ l) : oLen x ≤ sumO l := by
  induction l with
  | nil => cases hx
  | cons y l ih =>
    have h2 := sumO_nonneg (fun y hy => h y (.tail _ hy))
    have h3 := (h y (.head _)).pos
    rw [sumO]
    rcases List.mem_cons.1 hx with rfl | hx
    · omega
    · have := ih (fun y hy => h y (.tail _ hy)) hx
      omega
/-- A way to read an integer. -/
structure StOk (st : Int → Int → List UInt8 → Nat → Bool → Int × Nat × Bool) : Prop where
  snd : ∀ {lo hi : Int} {bs : List UInt8} {p : Nat} {f : Bool} {n : Int} {p' : Nat}, st lo hi bs p f = (n, p', false) → f = false ∧ InR n ∧ bs.drop p = encI n ++ bs.drop p'
  cmp : ∀ {lo hi : Int} {bs : List UInt8} {p : Nat} {n : Int} {t : List UInt8}, bs.drop p = encI n ++ t → InR n → lo ≤ n → n ≤ hi → st lo hi bs p false = (n, p + (encI n).length, false)
theorem drop_step {bs x t : List UInt8} {p : Nat} (h : bs.drop p = x ++ t) : bs.drop (p + x.length) = t := by
  rw [← List.drop_drop, h, List.drop_left]
def stI (_ _ : Int) (bs : List UInt8) (p : Nat) (f : Bool) : Int × Nat × Bool := stepI bs p f
theorem stI_ok : StOk stI := by
  constructor
  · intro lo hi bs p f n p' h
    unfold stI stepI at h
    split at h
    · cases h
    · rename_i hf
      split at h
      · rename_i a k hr
        injection h with h1 h2
        injection h2 with h2 _
        subst h1 h2
        refine ⟨by simpa using hf, (readI_some hr).1, ?_⟩
        have := readI_prefix hr
        rw [List.drop_drop] at this
        exact this
      · cases h
  · intro lo hi bs p n t h hn _ _
    unfold stI stepI
    rw [if_neg (by decide), h, readI_enc n hn]
theorem stB_ok : StOk stepB := by
  constructor
  · intro lo hi bs p f n p' h
    unfold stepB at h
    split at h
    · cases h
    · rename_i hf
      split at h
      · rename_i a k hr
        split at h
        · injection h with h1 h2
          injection h2 with h2 _
          subst h1 h2
          refine ⟨by simpa using hf, (readI_some hr).1, ?_⟩
          have := readI_prefix hr
          rw [List.drop_drop] at this
          exact this
        · cases h
      · cases h
  · intro lo hi bs p n t h hn h1 h2
    unfold stepB
    rw [if_neg (by decide), h, readI_enc n hn]
    simp only
    rw [if_pos ⟨h1, h2⟩]
theorem stS_snd {bs : List UInt8} {p : Nat} {f : Bool} {s : List UInt8} {p' : Nat} (h : stepS bs p f = (s, p', false)) : f = false ∧ bs.drop p = encS s ++ bs.drop p' := by
  unfold stepS at h
  split at h
  · cases h
  · rename_i hf
    split at h
    · rename_i a k hr
      injection h with h1 h2
      injection h2 with h2 _
      subst h1 h2
      refine ⟨by simpa using hf, ?_⟩
      have := readS_prefix hr
      rw [List.drop_drop] at this
      exact this
    · cases h
theorem stS_cmp {bs : List UInt8} {p : Nat} {s t : List UInt8} (h : bs.drop p = encS s ++ t) (hs : s.length ≤ 9223372036854775807) : stepS bs p false = (s, p + (encS s).length, false) := by
  unfold stepS
  rw [if_neg (by decide), h, readS_enc s hs]
/-- What the head says, and where it ends. -/
structure HdV where
  t : List UInt8
  old : Int
  os : List UInt8
  new : Int
  ns : List UInt8
  n : Int
  p : Nat
  f : Bool
section
variable (st : Int → Int → List UInt8 → Nat → Bool → Int × Nat × Bool)
def hdv (bs : List UInt8) : HdV :=
  let a := stepS bs 0 false
  let b := st 0 1000000 bs a.2.1 a.2.2
  let c := stepS bs b.2.1 b.2.2
  let d := st 0 1000000 bs c.2.1 c.2.2
  let e := stepS bs d.2.1 d.2.2
  let g := st 0 100000 bs e.2.1 e.2.2
  ⟨a.1, b.1, c.1, d.1, e.1, g.1, g.2.1, g.2.2⟩
end
section
variable {st : Int → Int → List UInt8 → Nat → Bool → Int × Nat × Bool}
theorem hdv_eq {bs : List UInt8} {t : List UInt8} {p1 : Nat} {f1 : Bool} {old : Int} {p2 : Nat} {f2 : Bool} {os : List UInt8} {p3 : Nat} {f3 : Bool} {new : Int} {p4 : Nat} {f4 : Bool} {ns : List UInt8} {p5 : Nat} {f5 : Bool} {n : Int} {p6 : Nat} {f6 : Bool}
    (h1 : stepS bs 0 false = (t, p1, f1)) (h2 : st 0 1000000 bs p1 f1 = (old, p2, f2)) (h3 : stepS bs p2 f2 = (os, p3, f3)) (h4 : st 0 1000000 bs p3 f3 = (new, p4, f4)) (h5 : stepS bs p4 f4 = (ns, p5, f5)) (h6 : st 0 100000 bs p5 f5 = (n, p6, f6)) :
    hdv st bs = ⟨t, old, os, new, ns, n, p6, f6⟩ := by
  unfold hdv
  simp only [h1, h2, h3, h4, h5, h6]
theorem hdv_snd (hs : StOk st) {bs : List UInt8} {v : HdV} (hv : hdv st bs = v) (hf : v.f = false) :
    bs = encS v.t ++ (encI v.old ++ (encS v.os ++ (encI v.new ++ (encS v.ns ++ (encI v.n ++ bs.drop v.p))))) ∧ InR v.n := by
  obtain ⟨t, p1, f1, h1⟩ : ∃ t p f, stepS bs 0 false = (t, p, f) := ⟨_, _, _, rfl⟩
  obtain ⟨old, p2, f2, h2⟩ : ∃ t p f, st 0 1000000 bs p1 f1 = (t, p, f) := ⟨_, _, _, rfl⟩
  obtain ⟨os, p3, f3, h3⟩ : ∃ t p f, stepS bs p2 f2 = (t, p, f) := ⟨_, _, _, rfl⟩
  obtain ⟨new, p4, f4, h4⟩ : ∃ t p f, st 0 1000000 bs p3 f3 = (t, p, f) := ⟨_, _, _, rfl⟩
  obtain ⟨ns, p5, f5, h5⟩ : ∃ t p f, stepS bs p4 f4 = (t, p, f) := ⟨_, _, _, rfl⟩
  obtain ⟨n, p6, f6, h6⟩ : ∃ t p f, st 0 100000 bs p5 f5 = (t, p, f) := ⟨_, _, _, rfl⟩
  rw [hdv_eq h1 h2 h3 h4 h5 h6] at hv
  subst hv
  obtain rfl : f6 = false := hf
  obtain ⟨rfl, k6, e6⟩ := hs.snd h6
  obtain ⟨rfl, e5⟩ := stS_snd h5
  obtain ⟨rfl, _, e4⟩ := hs.snd h4
  obtain ⟨rfl, e3⟩ := stS_snd h3
  obtain ⟨rfl, _, e2⟩ := hs.snd h2
  obtain ⟨_, e1⟩ := stS_snd h1
  rw [List.drop_zero] at e1
  exact ⟨e1.trans (by rw [e2, e3, e4, e5, e6]), k6⟩
theorem InR.of {n : Int} (h0 : 0 ≤ n) (h1 : n ≤ 9223372036854775807) : InR n := ⟨by omega, h1⟩
theorem hdv_cmp (hs : StOk st) {c : PC} {a b : Nat} (hP : ProperC c a b) : ∃ p, hdv st (encP c) = ⟨titleB, c.old, c.os, c.new, c.ns, c.ops.length, p, false⟩ ∧ (encP c).drop p = c.ops.flatMap encO := by
  obtain ⟨bs, hb⟩ : ∃ bs, bs = encP c := ⟨_, rfl⟩
  rw [← hb]
  have e1 : bs.drop 0 = encS titleB ++ _ := hb
  have h1 := stS_cmp e1 (by decide)
  have e2 := drop_step e1
  have h2 := hs.cmp (lo := 0) (hi := 1000000) e2 (.of hP.old.1 (by have := hP.old.2; omega)) hP.old.1 hP.old.2
  have e3 := drop_step e2
  have h3 := stS_cmp e3 (by rw [hP.os, lowH_len]; decide)
  have e4 := drop_step e3
  have h4 := hs.cmp (lo := 0) (hi := 1000000) e4 (.of hP.new.1 (by have := hP.new.2; omega)) hP.new.1 hP.new.2
  have e5 := drop_step e4
  have h5 := stS_cmp e5 (by rw [hP.ns, lowH_len]; decide)
  have e6 := drop_step e5
  have hfew := hP.few
  have h6 := hs.cmp (lo := 0) (hi := 100000) e6 (.of (by omega) (by omega)) (by omega) (by omega)
  have e7 := drop_step e6
  exact ⟨_, hdv_eq h1 h2 h3 h4 h5 h6, e7⟩
/-- q operations were read, to p. -/
structure OInv (bs : List UInt8) (p0 : Nat) (q : Nat) (L : List POp) (p : Nat) (f : Bool) : Prop where
  len : f = false → L.length = q
  snd : f = false → bs.drop p0 = L.flatMap encO ++ bs.drop p
  cmp : ∀ c a b, bs = encP c → ProperC c a b → q ≤ c.ops.length ∧ f = false ∧ L = c.ops.take q ∧ bs.drop p = (c.ops.drop q).flatMap encO
theorem OInv.start (hs : StOk st) {bs : List UInt8} {v : HdV} (hv : hdv st bs = v) : OInv bs v.p 0 [] v.p v.f :=
  ⟨fun _ => rfl, fun _ => rfl, fun c a b e hP => by
    obtain ⟨p, h1, h2⟩ := hdv_cmp hs hP
    rw [← e, hv] at h1
    subst h1
    exact ⟨Nat.zero_le _, rfl, rfl, by rw [e]; exact h2⟩⟩
theorem hdv_ops (hs : StOk st) {bs : List UInt8} {v : HdV} (hv : hdv st bs = v) {c : PC} {a b : Nat} (e : bs = encP c) (hP : ProperC c a b) : v.t = titleB ∧ v.old = c.old ∧ v.os = c.os ∧ v.new = c.new ∧ v.ns = c.ns ∧ v.n = c.ops.length ∧ v.f = false := by
  obtain ⟨p, h1, _⟩ := hdv_cmp hs hP
  rw [← e, hv] at h1
  subst h1
  exact ⟨rfl, rfl, rfl, rfl, rfl, rfl, rfl⟩
theorem OInv.next {bs : List UInt8} {p0 q : Nat} {L : List POp} {p : Nat} {f : Bool} (h : OInv bs p0 q L p f) {c : PC} {a b : Nat} (e : bs = encP c) (hP : ProperC c a b) (hq : q < c.ops.length) :
    ∃ x, x ∈ c.ops ∧ OpOk c.old x ∧ c.ops.take (q + 1) = L ++ [x] ∧ f = false ∧ bs.drop p = encO x ++ (c.ops.drop (q + 1)).flatMap encO := by
  obtain ⟨_, h2, h3, h4⟩ := h.cmp c a b e hP
  refine ⟨c.ops[q], List.getElem_mem hq, hP.each _ (List.getElem_mem hq), ?_, h2, ?_⟩
  · rw [List.take_succ_eq_append_getElem hq, h3]
  · rw [h4, List.drop_eq_getElem_cons hq, List.flatMap_cons]
theorem OInv.ins (hs : StOk st) {bs : List UInt8} {p0 q : Nat} {L : List POp} {p : Nat} {f : Bool} (h : OInv bs p0 q L p f) (hn : ∀ c a b, bs = encP c → ProperC c a b → q < c.ops.length)
    {k : Int} {p1 : Nat} {f1 : Bool} (h1 : st 0 1 bs p f = (k, p1, f1)) (hk : k = 1) {s : List UInt8} {p2 : Nat} {f2 : Bool} (h2 : stepS bs p1 f1 = (s, p2, f2)) : OInv bs p0 (q + 1) (L ++ [.ins s]) p2 f2 := by
  subst hk
  refine ⟨fun hf => ?_, fun hf => ?_, fun c a b e hP => ?_⟩
  · subst hf
    obtain ⟨rfl, _⟩ := stS_snd h2
    obtain ⟨rfl, _⟩ := hs.snd h1
    simp [h.len rfl]
  · subst hf
    obtain ⟨rfl, e2⟩ := stS_snd h2
    obtain ⟨rfl, _, e1⟩ := hs.snd h1
    rw [h.snd rfl, e1, e2]
    simp [encO]
  · have hq := hn c a b e hP
    obtain ⟨x, hm, hx, ht, rfl, hd⟩ := h.next e hP hq
    cases x with
    | cp o n =>
      rw [encO, List.append_assoc] at hd
      have h9 := hs.cmp (lo := 0) (hi := 1) hd (.of (by omega) (by omega)) (by omega) (by omega)
      rw [h1] at h9
      injection h9 with h9 _
      cases h9
    | ins s' =>
      rw [encO, List.append_assoc] at hd
      have h9 := hs.cmp (lo := 0) (hi := 1) hd (.of (by omega) (by omega)) (by omega) (by omega)
      rw [h1] at h9
      injection h9 with _ h9
      injection h9 with h9 h10
      subst h9 h10
      have hd2 := drop_step hd
      have hsl := sumO_mem hP.each hm
      have hnew := hP.new.2
      rw [hP.sum] at hsl
      have hsl' : (s'.length : Int) ≤ c.new := hsl
      have h8 := stS_cmp hd2 (by omega)
      rw [h2] at h8
      injection h8 with h8 h7
      injection h7 with h7 h6
      subst h8 h7 h6
      exact ⟨hq, rfl, ht.symm, drop_step hd2⟩
theorem OInv.cp (hs : StOk st) {bs : List UInt8} {p0 q : Nat} {L : List POp} {p : Nat} {f : Bool} (h : OInv bs p0 q L p f) (hn : ∀ c a b, bs = encP c → ProperC c a b → q < c.ops.length)
    {k : Int} {p1 : Nat} {f1 : Bool} (h1 : st 0 1 bs p f = (k, p1, f1)) (hk : k ≠ 1) (hk0 : f1 = false → k = 0) {o : Int} {p2 : Nat} {f2 : Bool} {old : Int} (ho : ∀ c a b, bs = encP c → ProperC c a b → old = c.old) (h2 : st 0 old bs p1 f1 = (o, p2, f2))
    {n : Int} {p3 : Nat} {f3 : Bool} (h3 : st 0 (old - o) bs p2 f2 = (n, p3, f3)) : OInv bs p0 (q + 1) (L ++ [.cp o n]) p3 f3 := by
  refine ⟨fun hf => ?_, fun hf => ?_, fun c a b e hP => ?_⟩
  · subst hf
    obtain ⟨rfl, _⟩ := hs.snd h3
    obtain ⟨rfl, _⟩ := hs.snd h2
    obtain ⟨rfl, _⟩ := hs.snd h1
    simp [h.len rfl]
  · subst hf
    obtain ⟨rfl, _, e3⟩ := hs.snd h3
    obtain ⟨rfl, _, e2⟩ := hs.snd h2
    obtain ⟨rfl, _, e1⟩ := hs.snd h1
    have hkz := hk0 rfl
    subst hkz
    rw [h.snd rfl, e1, e2, e3]
    simp [encO]
  · have hq := hn c a b e hP
    obtain ⟨x, hm, hx, ht, rfl, hd⟩ := h.next e hP hq
    have hold := ho c a b e hP
    have ho1 := hP.old
    subst hold
    cases x with
    | ins s' =>
      rw [encO, List.append_assoc] at hd
      have h9 := hs.cmp (lo := 0) (hi := 1) hd (.of (by omega) (by omega)) (by omega) (by omega)
      rw [h1] at h9
      injection h9 with h9 _
      exact absurd h9 hk
    | cp o' n' =>
      have hx1 : 0 ≤ o' ∧ 1 ≤ n' ∧ o' + n' ≤ c.old := hx
      rw [encO, List.append_assoc, List.append_assoc] at hd
      have h9 := hs.cmp (lo := 0) (hi := 1) hd (.of (by omega) (by omega)) (by omega) (by omega)
      rw [h1] at h9
      injection h9 with _ h9
      injection h9 with h9 h10
      subst h9 h10
      have hd2 := drop_step hd
      have h8 := hs.cmp (lo := 0) (hi := c.old) hd2 (.of hx1.1 (by omega)) hx1.1 (by omega)
      rw [h2] at h8
      injection h8 with h8 h7
      injection h7 with h7 h6
      subst h8 h7 h6
      have hd3 := drop_step hd2
      have h5 := hs.cmp (lo := 0) (hi := c.old - o) hd3 (.of (by omega) (by omega)) (by omega) (by omega)
      rw [h3] at h5
      injection h5 with h5 h4
      injection h4 with h4 h3'
      subst h5 h4 h3'
      exact ⟨hq, rfl, ht.symm, drop_step hd3⟩
/-- A first number of an operation that is neither 0 nor 1. -/
theorem OInv.bad (hs : StOk st) {bs : List UInt8} {p0 q : Nat} {L : List POp} {p : Nat} {f : Bool} (h : OInv bs p0 q L p f) (hn : ∀ c a b, bs = encP c → ProperC c a b → q < c.ops.length)
    {k : Int} {p1 : Nat} {f1 : Bool} (h1 : st 0 1 bs p f = (k, p1, f1)) (hk : k ≠ 1) (hk0 : k ≠ 0) (q' : Nat) (L' : List POp) (p' : Nat) : OInv bs p0 q' L' p' true := by
  refine ⟨fun hf => (by cases hf), fun hf => (by cases hf), fun c a b e hP => ?_⟩
  obtain ⟨x, hm, hx, ht, rfl, hd⟩ := h.next e hP (hn c a b e hP)
  exfalso
  cases x with
  | ins s' =>
    rw [encO, List.append_assoc] at hd
    have h9 := hs.cmp (lo := 0) (hi := 1) hd (.of (by omega) (by omega)) (by omega) (by omega)
    rw [h1] at h9
    injection h9 with h9 _
    exact hk h9
  | cp o' n' =>
    rw [encO, List.append_assoc] at hd
    have h9 := hs.cmp (lo := 0) (hi := 1) hd (.of (by omega) (by omega)) (by omega) (by omega)
    rw [h1] at h9
    injection h9 with h9 _
    exact hk0 h9
end
theorem InR_op {old : Int} (h0 : old ≤ 1000000) {x : POp} (h : OpOk old x) (hl : oLen x ≤ 1000000) : match x with | .cp o n => InR o ∧ InR n | .ins s => s.length ≤ 9223372036854775807 := by
  cases x with
  | cp o n => have h1 : 0 ≤ o ∧ 1 ≤ n ∧ o + n ≤ old := h; exact ⟨.of (by omega) (by omega), .of (by omega) (by omega)⟩
  | ins s => have h1 : (s.length : Int) ≤ 1000000 := hl; show s.length ≤ _; omega
/-- What bytes mean. -/
def DecO (bs : List UInt8) : Option (PC × Nat × Nat) → Prop
  | some (c, a, b) => bs = encP c ∧ ProperC c a b
  | none => ∀ c a b, bs = encP c → ProperC c a b → False
theorem encP_inj {c c' : PC} {a b a' b' : Nat} (h : ProperC c a b) (h' : ProperC c' a' b') (e : encP c = encP c') : c = c' ∧ a = a' ∧ b = b' := by
  obtain ⟨p, h1, h2⟩ := hdv_cmp stI_ok h
  obtain ⟨p', h1', h2'⟩ := hdv_cmp stI_ok h'
  rw [e, h1'] at h1
  rw [e] at h2
  injection h1 with _ e1 e2 e3 e4 e5 e6 _
  subst e6
  rw [h2'] at h2
  have hops : c.ops = c'.ops := by
    have hlen : c.ops.length = c'.ops.length := by omega
    have k1 : ∀ x ∈ c.ops, OpOk c.old x ∧ oLen x ≤ 1000000 := fun x hx => ⟨h.each x hx, Int.le_trans (sumO_mem h.each hx) (by rw [h.sum]; exact h.new.2)⟩
    have k2 : ∀ x ∈ c'.ops, OpOk c'.old x ∧ oLen x ≤ 1000000 := fun x hx => ⟨h'.each x hx, Int.le_trans (sumO_mem h'.each hx) (by rw [h'.sum]; exact h'.new.2)⟩
    have hold := h.old.2
    have hold' := h'.old.2
    generalize c.ops = l at h2 hlen k1
    generalize c'.ops = l' at h2 hlen k2
    generalize c.old = u at k1 hold
    generalize c'.old = u' at k2 hold'
    clear e1 e2 e3 e4 e5 h1' h2' e h h'
    induction l generalizing l' with
    | nil => cases l' with
      | nil => rfl
      | cons _ _ => simp at hlen
    | cons x l ih => cases l' with
      | nil => simp at hlen
      | cons x' l' =>
        rw [List.flatMap_cons, List.flatMap_cons] at h2
        have i1 := InR_op hold (k1 x (.head _)).1 (k1 x (.head _)).2
        have i2 := InR_op hold' (k2 x' (.head _)).1 (k2 x' (.head _)).2
        have hx : x = x' ∧ l'.flatMap encO = l.flatMap encO := by
          cases x with
          | cp o n => cases x' with
            | cp o' n' =>
              simp only [encO, List.append_assoc] at h2
              have j1 := List.append_cancel_left h2
              have r1 := readI_enc o' i2.1 (encI n' ++ l'.flatMap encO)
              rw [j1, readI_enc o i1.1] at r1
              injection r1 with r1
              injection r1 with r1 _
              subst r1
              have j2 := List.append_cancel_left j1
              have r2 := readI_enc n' i2.2 (l'.flatMap encO)
              rw [j2, readI_enc n i1.2] at r2
              injection r2 with r2
              injection r2 with r2 _
              subst r2
              exact ⟨rfl, List.append_cancel_left j2⟩
            | ins s =>
              simp only [encO, List.append_assoc] at h2
              have r1 := readI_enc 1 (.of (by omega) (by omega)) (encS s ++ l'.flatMap encO)
              rw [h2, readI_enc 0 (.of (by omega) (by omega))] at r1
              cases r1
          | ins s => cases x' with
            | cp o' n' =>
              simp only [encO, List.append_assoc] at h2
              have r1 := readI_enc 1 (.of (by omega) (by omega)) (encS s ++ l.flatMap encO)
              rw [← h2, readI_enc 0 (.of (by omega) (by omega))] at r1
              cases r1
            | ins s' =>
              simp only [encO, List.append_assoc] at h2
              have j1 := List.append_cancel_left h2
              have r1 := readS_enc s' i2 (l'.flatMap encO)
              rw [j1, readS_enc s i1] at r1
              injection r1 with r1
              injection r1 with r1 _
              subst r1
              exact ⟨rfl, List.append_cancel_left j1⟩
        have hl : l = l' := by
          apply ih <;> first
            | exact hx.2
            | exact (by simpa using hlen)
            | exact (fun y hy => k1 y (.tail _ hy))
            | exact (fun y hy => k2 y (.tail _ hy))
        rw [hx.1, hl]
  refine ⟨?_, ?_, ?_⟩
  · cases c
    cases c'
    simp only at e1 e2 e3 e4 hops
    rw [e1, e2, e3, e4, hops]
  · exact lowH_inj 16 a a' (by simpa using h.lt.1) (by simpa using h'.lt.1) (by rw [← h.os, ← h'.os, e2])
  · exact lowH_inj 16 b b' (by simpa using h.lt.2) (by simpa using h'.lt.2) (by rw [← h.ns, ← h'.ns, e4])
theorem DecO.uniq {bs : List UInt8} {r r' : Option (PC × Nat × Nat)} (h : DecO bs r) (h' : DecO bs r') : r = r' := by
  cases r with
  | none => cases r' with
    | none => rfl
    | some y => exact absurd h'.2 (fun k => h y.1 y.2.1 y.2.2 h'.1 k)
  | some x => cases r' with
    | none => exact absurd h.2 (fun k => h' x.1 x.2.1 x.2.2 h.1 k)
    | some y =>
      obtain ⟨c, a, b⟩ := x
      obtain ⟨c', a', b'⟩ := y
      obtain ⟨rfl, rfl, rfl⟩ := encP_inj h.2 h'.2 (h.1.symm.trans h'.1)
      rfl
/-- What an operation gives. -/
def runO (x : List UInt8) : POp → List UInt8
  | .cp o n => (x.drop o.toNat).take n.toNat
  | .ins s => s
def sumN (l : List UInt8) : Nat := sealN dStart l
def pkey : Nat := 482671354728
/-- What Apply returns. -/
def ApR (x p : List UInt8) (r : List UInt8 × Nat) : Prop :=
  ((openR pkey p).2 ≠ 0 ∧ r = ([], (openR pkey p).2)) ∨ ((openR pkey p).2 = 0 ∧ ∃ d, DecO (openR pkey p).1 d ∧ match d with
    | none => r = ([], 4)
    | some (c, a, b) => (¬ ((x.length : Int) = c.old ∧ sumN x = a) ∧ r = ([], 17)) ∨ (((x.length : Int) = c.old ∧ sumN x = a) ∧ ((sumN (c.ops.flatMap (runO x)) ≠ b ∧ r = ([], 5)) ∨ (sumN (c.ops.flatMap (runO x)) = b ∧ r = (c.ops.flatMap (runO x), 0)))))
theorem ApR.uniq {x p : List UInt8} {r r' : List UInt8 × Nat} (h : ApR x p r) (h' : ApR x p r') : r = r' := by
  rcases h with ⟨h1, rfl⟩ | ⟨h1, d, hd, hr⟩ <;> rcases h' with ⟨h1', rfl⟩ | ⟨h1', d', hd', hr'⟩
  · rfl
  · exact absurd h1' h1
  · exact absurd h1 h1'
  · obtain rfl := hd.uniq hd'
    cases d with
    | none => exact hr.trans hr'.symm
    | some y =>
      obtain ⟨c, a, b⟩ := y
      rcases hr with ⟨k1, rfl⟩ | ⟨k1, ⟨k2, rfl⟩ | ⟨k2, rfl⟩⟩ <;> rcases hr' with ⟨j1, rfl⟩ | ⟨j1, ⟨j2, rfl⟩ | ⟨j2, rfl⟩⟩ <;> first | rfl | exact absurd k1 j1 | exact absurd j1 k1 | exact absurd k2 j2 | exact absurd j2 k2
/-- What Sizes returns. -/
def SzR (p : List UInt8) (o n : Int) (e : Nat) : Prop :=
  ((openR pkey p).2 ≠ 0 ∧ o = 0 ∧ n = 0 ∧ e = (openR pkey p).2) ∨ ((openR pkey p).2 = 0 ∧ ∃ d, DecO (openR pkey p).1 d ∧ match d with
    | none => o = 0 ∧ n = 0 ∧ e = 4
    | some (c, _, _) => o = c.old ∧ n = c.new ∧ e = 0)
theorem SzR.uniq {p : List UInt8} {o n o' n' : Int} {e e' : Nat} (h : SzR p o n e) (h' : SzR p o' n' e') : o = o' ∧ n = n' ∧ e = e' := by
  rcases h with ⟨h1, rfl, rfl, rfl⟩ | ⟨h1, d, hd, hr⟩ <;> rcases h' with ⟨h1', rfl, rfl, rfl⟩ | ⟨h1', d', hd', hr'⟩
  · exact ⟨rfl, rfl, rfl⟩
  · exact absurd h1' h1
  · exact absurd h1 h1'
  · obtain rfl := hd.uniq hd'
    cases d with
    | none => obtain ⟨rfl, rfl, rfl⟩ := hr; obtain ⟨rfl, rfl, rfl⟩ := hr'; exact ⟨rfl, rfl, rfl⟩
    | some y => obtain ⟨rfl, rfl, rfl⟩ := hr; obtain ⟨rfl, rfl, rfl⟩ := hr'; exact ⟨rfl, rfl, rfl⟩
end Go.Proofs.YtghndnacmpckbaaGreatDoor
