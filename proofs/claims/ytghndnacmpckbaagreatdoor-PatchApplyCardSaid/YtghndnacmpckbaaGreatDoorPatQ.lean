/- Reading a content, plainly: when it is refused, and when it is taken. -/
import Derived.Test.YtghndnacmpckbaaGreatDoorPatM
namespace Go.Proofs.YtghndnacmpckbaaGreatDoor
open Go.RowKit
set_option maxRecDepth 100000

theorem sumO_take {old : Int} {l : List POp} (h : ∀ x ∈ l, OpOk old x) (q : Nat) : sumO (l.take q) ≤ sumO l := by
  have h1 : sumO (l.take q) + sumO (l.drop q) = sumO l := by rw [← sumO_app, List.take_append_drop]
  have h2 := sumO_nonneg (l := l.drop q) (fun y hy => h y (List.mem_of_mem_drop hy))
  omega
/-- What a digest's text says. -/
theorem ParseOk.ok {s : List UInt8} {n : Nat} (h : ParseOk (str s) (n, 0)) : n < 18446744073709551616 ∧ s = lowH n 16 := by
  rcases h with ⟨k, h1, h2, h3⟩ | ⟨_, h3⟩
  · injection h3 with h3 _
    subst h3
    refine ⟨h1, ?_⟩
    have := congrArg bys h2
    rwa [bys_str, hexT_bys] at this
  · injection h3 with _ h3
    cases h3
theorem ParseOk.no {s : List UInt8} {n m : Nat} (h : ParseOk (str s) (n, m)) (hm : m ≠ 0) {a : Nat} (ha : a < 18446744073709551616) (hs : s = lowH a 16) : False := by
  rcases h with ⟨k, h1, h2, h3⟩ | ⟨h2, h3⟩
  · injection h3 with _ h3
    exact hm h3
  · exact h2 a ha (by rw [hs]; rfl)
theorem ParseOk.code {s : ByteArray} {n m : Nat} (h : ParseOk s (n, m)) : m = 0 ∨ (m = 3 ∧ n = 0) := by
  rcases h with ⟨k, h1, h2, h3⟩ | ⟨h2, h3⟩
  · injection h3 with _ h3
    exact .inl h3
  · injection h3 with h4 h3
    exact .inr ⟨h3, h4⟩
theorem ParseOk.lt {s : ByteArray} {n m : Nat} (h : ParseOk s (n, m)) : n < 18446744073709551616 := by
  rcases h with ⟨k, h1, h2, h3⟩ | ⟨h2, h3⟩
  · injection h3 with h4 _
    omega
  · injection h3 with h4 _
    omega
section
variable {st : Int → Int → List UInt8 → Nat → Bool → Int × Nat × Bool} {bs : List UInt8} {v : HdV}
theorem no_title (hs : StOk st) (hv : hdv st bs = v) (h : v.t ≠ titleB) : DecO bs none := fun _ _ _ e hP => h (hdv_ops hs hv e hP).1
theorem no_os (hs : StOk st) (hv : hdv st bs = v) {n m : Nat} (h : ParseOk (str v.os) (n, m)) (hm : m ≠ 0) : DecO bs none := fun _ _ _ e hP => h.no hm hP.lt.1 ((hdv_ops hs hv e hP).2.2.1.trans hP.os)
theorem no_ns (hs : StOk st) (hv : hdv st bs = v) {n m : Nat} (h : ParseOk (str v.ns) (n, m)) (hm : m ≠ 0) : DecO bs none := fun _ _ _ e hP => h.no hm hP.lt.2 ((hdv_ops hs hv e hP).2.2.2.2.1.trans hP.ns)
theorem hn_of (hs : StOk st) (hv : hdv st bs = v) {q : Nat} (hq : (q : Int) < v.n) : ∀ c a b, bs = encP c → ProperC c a b → q < c.ops.length := fun _ _ _ e hP => by
  have := (hdv_ops hs hv e hP).2.2.2.2.2.1
  omega
theorem ho_of (hs : StOk st) (hv : hdv st bs = v) : ∀ c a b, bs = encP c → ProperC c a b → v.old = c.old := fun _ _ _ e hP => (hdv_ops hs hv e hP).2.1
theorem OInv.refuse (hs : StOk st) (hv : hdv st bs = v) {q : Nat} {L : List POp} {x : POp} {p : Nat} {f : Bool} (h : OInv bs v.p (q + 1) (L ++ [x]) p f) (hb : oLen x < 1 ∨ v.new - sumO L - oLen x < 0) : DecO bs none := fun c a b e hP => by
  obtain ⟨h1, h2, h3, h4⟩ := h.cmp c a b e hP
  have h5 := (hdv_ops hs hv e hP).2.2.2.1
  have h6 : x ∈ c.ops := by
    have : x ∈ c.ops.take (q + 1) := by rw [← h3]; simp
    exact List.mem_of_mem_take this
  have h7 := (hP.each x h6).pos
  have h8 := sumO_take hP.each (q + 1)
  rw [← h3, sumO_app, hP.sum] at h8
  have h9 : sumO [x] = oLen x := by simp [sumO]
  omega
theorem OInv.end_no (hs : StOk st) (hv : hdv st bs = v) {q : Nat} {L : List POp} {p : Nat} {f : Bool} (h : OInv bs v.p q L p f) (hq : (q : Int) = v.n) (hb : f = true ∨ p < bs.length ∨ sumO L ≠ v.new) : DecO bs none := fun c a b e hP => by
  obtain ⟨h1, h2, h3, h4⟩ := h.cmp c a b e hP
  obtain ⟨_, _, _, h5, _, h6, _⟩ := hdv_ops hs hv e hP
  have h7 : q = c.ops.length := by omega
  rw [h7, List.take_length] at h3
  rw [h7, List.drop_length, List.flatMap_nil] at h4
  rcases hb with hb | hb | hb
  · rw [h2] at hb; cases hb
  · have := congrArg List.length h4
    rw [List.length_drop, List.length_nil] at this
    omega
  · exact hb (by rw [h3, hP.sum, h5])
theorem OInv.end_yes (hs : StOk st) (hv : hdv st bs = v) {q : Nat} {L : List POp} {p : Nat} {f : Bool} (h : OInv bs v.p q L p f) (hq : (q : Int) = v.n) (hvf : f = false → v.f = false) (hf : f = false) (hp : bs.length ≤ p) (hsum : sumO L = v.new) (ht : v.t = titleB)
    (ho : 0 ≤ v.old ∧ v.old ≤ 1000000) (hw : 0 ≤ v.new ∧ v.new ≤ 1000000) (hn : v.n ≤ 100000) {a b : Nat} (h1 : ParseOk (str v.os) (a, 0)) (h2 : ParseOk (str v.ns) (b, 0)) (hall : ∀ x ∈ L, OpOk v.old x) :
    DecO bs (some (⟨v.old, v.os, v.new, v.ns, L⟩, a, b)) := by
  obtain ⟨hh, hr⟩ := hdv_snd hs hv (hvf hf)
  have h3 := h.snd hf
  have h4 := h.len hf
  rw [List.drop_eq_nil_of_le hp, List.append_nil] at h3
  have h5 : v.n = (L.length : Int) := by omega
  refine ⟨?_, ho, hw, ⟨h1.ok.1, h2.ok.1⟩, h1.ok.2, h2.ok.2, ?_, hall, hsum⟩
  · rw [hh, h3, ht, h5]
    rfl
  · show L.length ≤ 100000
    omega
end
theorem stepB_rng (bs : List UInt8) (a : Nat) (f : Bool) {hi : Int} (h : 0 ≤ hi) : 0 ≤ (stepB 0 hi bs a f).1 ∧ (stepB 0 hi bs a f).1 ≤ hi := by
  unfold stepB
  split
  · exact ⟨Int.le_refl _, h⟩
  · split
    · split
      · rename_i hh
        exact hh
      · exact ⟨Int.le_refl _, h⟩
    · exact ⟨Int.le_refl _, h⟩
theorem stepS_leP (bs : List UInt8) (a : Nat) (f : Bool) : (stepS bs a f).1.length ≤ bs.length := by
  unfold stepS
  split
  · exact Nat.zero_le _
  · split
    · rename_i s k h
      have h1 := (readS_some h).2.2.2.2
      rw [List.length_drop] at h1
      show s.length ≤ _
      omega
    · exact Nat.zero_le _
theorem stepB_keep {lo hi : Int} {bs : List UInt8} {p : Nat} {f : Bool} {n : Int} {p' : Nat} {f' : Bool} (h : stepB lo hi bs p f = (n, p', f')) : f' = false → f = false := by
  rintro rfl
  exact (stB_ok.snd h).1
theorem stepS_keep {bs : List UInt8} {p : Nat} {f : Bool} {s : List UInt8} {p' : Nat} {f' : Bool} (h : stepS bs p f = (s, p', f')) : f' = false → f = false := by
  rintro rfl
  exact (stS_snd h).1
theorem openR_len (h : Nat) (s : List UInt8) : (openR h s).1.length ≤ s.length := by
  unfold openR
  split
  · simp
  · split
    · simp
    · simp
end Go.Proofs.YtghndnacmpckbaaGreatDoor
