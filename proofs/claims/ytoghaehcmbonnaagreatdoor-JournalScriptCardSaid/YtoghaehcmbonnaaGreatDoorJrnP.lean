/- Events and their encodings, plainly. -/
import Derived.Test.YtoghaehcmbonnaaGreatDoorRStrs
import Derived.Test.YtoghaehcmbonnaaGreatDoorPackW
import Derived.Test.YtoghaehcmbonnaaGreatDoorRefRd
namespace Go.Proofs.YtoghaehcmbonnaaGreatDoor
open Go.RowKit
set_option maxRecDepth 100000

/-- An event. -/
structure Ev where
  kind : Int
  who : ByteArray
  name : ByteArray
  id : ByteArray
  text : ByteArray
  a : Int
  b : Int
  t : Int
def ev0 : Ev := ⟨0, ⟨#[]⟩, ⟨#[]⟩, ⟨#[]⟩, ⟨#[]⟩, 0, 0, 0⟩
def evC (x : Ev) : List Value := [.int .i64 x.kind, .string x.who, .string x.name, .string x.id, .string x.text, .int .i64 x.a, .int .i64 x.b, .int .i64 x.t]
/-- The integers of an event fit. -/
def GoodE (x : Ev) : Prop := InR x.kind ∧ InR x.a ∧ InR x.b ∧ InR x.t
/-- The encoding of an event. -/
def encE (x : Ev) : List UInt8 := encI x.kind ++ (encS (bys x.who) ++ (encS (bys x.name) ++ (encS (bys x.id) ++ (encS (bys x.text) ++ (encI x.a ++ (encI x.b ++ encI x.t))))))
/-- What eight steps of a reader give. -/
def rdE (bs : List UInt8) : Ev × Nat × Bool :=
  let r0 := stepI bs 0 false
  let r1 := stepS bs r0.2.1 r0.2.2
  let r2 := stepS bs r1.2.1 r1.2.2
  let r3 := stepS bs r2.2.1 r2.2.2
  let r4 := stepS bs r3.2.1 r3.2.2
  let r5 := stepI bs r4.2.1 r4.2.2
  let r6 := stepI bs r5.2.1 r5.2.2
  let r7 := stepI bs r6.2.1 r6.2.2
  (⟨r0.1, str r1.1, str r2.1, str r3.1, str r4.1, r5.1, r6.1, r7.1⟩, r7.2.1, r7.2.2)
/-- What Decode returns. -/
def decE (bs : List UInt8) : Ev × Int := if (rdE bs).2.2 = true ∨ (rdE bs).2.1 ≠ bs.length then (ev0, 4) else ((rdE bs).1, 0)

theorem stepI_enc (pre r : List UInt8) (n : Int) (h : InR n) : stepI (pre ++ (encI n ++ r)) pre.length false = (n, pre.length + (encI n).length, false) := by
  unfold stepI
  rw [if_neg (by simp), List.drop_left' rfl, readI_enc n h]
theorem stepS_enc (pre r s : List UInt8) (h : s.length ≤ 9223372036854775807) : stepS (pre ++ (encS s ++ r)) pre.length false = (s, pre.length + (encS s).length, false) := by
  unfold stepS
  rw [if_neg (by simp), List.drop_left' rfl, readS_enc s h]
theorem encE_read (x : Ev) (hg : GoodE x) (hs : x.who.size ≤ 140737488355328 ∧ x.name.size ≤ 140737488355328 ∧ x.id.size ≤ 140737488355328 ∧ x.text.size ≤ 140737488355328) : rdE (encE x) = (x, (encE x).length, false) := by
  obtain ⟨k, who, name, id, text, a, b, t⟩ := x
  obtain ⟨g1, g2, g3, g4⟩ := hg
  obtain ⟨s1, s2, s3, s4⟩ := hs
  simp only at g1 g2 g3 g4 s1 s2 s3 s4
  have l1 : (bys who).length ≤ 9223372036854775807 := by rw [bys_len]; omega
  have l2 : (bys name).length ≤ 9223372036854775807 := by rw [bys_len]; omega
  have l3 : (bys id).length ≤ 9223372036854775807 := by rw [bys_len]; omega
  have l4 : (bys text).length ≤ 9223372036854775807 := by rw [bys_len]; omega
  obtain ⟨e0, h0⟩ : ∃ e, e = encI k := ⟨_, rfl⟩
  obtain ⟨e1, h1⟩ : ∃ e, e = encS (bys who) := ⟨_, rfl⟩
  obtain ⟨e2, h2⟩ : ∃ e, e = encS (bys name) := ⟨_, rfl⟩
  obtain ⟨e3, h3⟩ : ∃ e, e = encS (bys id) := ⟨_, rfl⟩
  obtain ⟨e4, h4⟩ : ∃ e, e = encS (bys text) := ⟨_, rfl⟩
  obtain ⟨e5, h5⟩ : ∃ e, e = encI a := ⟨_, rfl⟩
  obtain ⟨e6, h6⟩ : ∃ e, e = encI b := ⟨_, rfl⟩
  obtain ⟨e7, h7⟩ : ∃ e, e = encI t := ⟨_, rfl⟩
  have hE : encE ⟨k, who, name, id, text, a, b, t⟩ = e0 ++ (e1 ++ (e2 ++ (e3 ++ (e4 ++ (e5 ++ (e6 ++ e7)))))) := by
    unfold encE
    rw [h0, h1, h2, h3, h4, h5, h6, h7]
  rw [hE]
  have q0 := stepI_enc [] (e1 ++ (e2 ++ (e3 ++ (e4 ++ (e5 ++ (e6 ++ e7)))))) k g1
  have q1 := stepS_enc e0 (e2 ++ (e3 ++ (e4 ++ (e5 ++ (e6 ++ e7))))) (bys who) l1
  have q2 := stepS_enc (e0 ++ e1) (e3 ++ (e4 ++ (e5 ++ (e6 ++ e7)))) (bys name) l2
  have q3 := stepS_enc (e0 ++ e1 ++ e2) (e4 ++ (e5 ++ (e6 ++ e7))) (bys id) l3
  have q4 := stepS_enc (e0 ++ e1 ++ e2 ++ e3) (e5 ++ (e6 ++ e7)) (bys text) l4
  have q5 := stepI_enc (e0 ++ e1 ++ e2 ++ e3 ++ e4) (e6 ++ e7) a g2
  have q6 := stepI_enc (e0 ++ e1 ++ e2 ++ e3 ++ e4 ++ e5) e7 b g3
  have q7 := stepI_enc (e0 ++ e1 ++ e2 ++ e3 ++ e4 ++ e5 ++ e6) [] t g4
  rw [← h0] at q0
  rw [← h1] at q1
  rw [← h2] at q2
  rw [← h3] at q3
  rw [← h4] at q4
  rw [← h5] at q5
  rw [← h6] at q6
  rw [← h7] at q7
  simp only [List.append_assoc, List.nil_append, List.length_nil, Nat.zero_add, List.append_nil, List.length_append] at q0 q1 q2 q3 q4 q5 q6 q7
  unfold rdE
  simp only [q0, q1]
  rw [q2]
  simp only [Nat.add_assoc] at q2 q3 q4 q5 q6 q7 ⊢
  rw [q3]
  dsimp only
  rw [q4]
  dsimp only
  rw [q5]
  dsimp only
  rw [q6]
  dsimp only
  rw [q7]
  simp only [str_bys, List.length_append]
theorem stepI_ok {bs : List UInt8} {a : Nat} {f : Bool} (h : (stepI bs a f).2.2 = false) : f = false ∧ bs.drop a = encI (stepI bs a f).1 ++ bs.drop (stepI bs a f).2.1 ∧ InR (stepI bs a f).1 := by
  unfold stepI at h ⊢
  cases f with
  | true => simp at h
  | false =>
    rw [if_neg (by simp)] at h ⊢
    cases hr : readI (bs.drop a) with
    | none => rw [hr] at h; simp at h
    | some p =>
      obtain ⟨n, k⟩ := p
      simp only
      have := readI_prefix hr
      rw [List.drop_drop] at this
      exact ⟨trivial, this, (readI_some hr).1⟩
theorem stepS_ok {bs : List UInt8} {a : Nat} {f : Bool} (h : (stepS bs a f).2.2 = false) : f = false ∧ bs.drop a = encS (stepS bs a f).1 ++ bs.drop (stepS bs a f).2.1 ∧ (stepS bs a f).1.length ≤ bs.length := by
  unfold stepS at h ⊢
  cases f with
  | true => simp at h
  | false =>
    rw [if_neg (by simp)] at h ⊢
    cases hr : readS (bs.drop a) with
    | none => rw [hr] at h; simp at h
    | some p =>
      obtain ⟨n, k⟩ := p
      simp only
      have h1 := readS_prefix hr
      rw [List.drop_drop] at h1
      have h2 := (readS_some hr).2.2.2.2
      rw [List.length_drop] at h2
      exact ⟨trivial, h1, by omega⟩
/-- What was read is the encoding of what was given. -/
theorem rdE_enc {bs : List UInt8} (h : (rdE bs).2.2 = false) (hl : (rdE bs).2.1 = bs.length) : encE (rdE bs).1 = bs ∧ GoodE (rdE bs).1 ∧
    (rdE bs).1.who.size ≤ bs.length ∧ (rdE bs).1.name.size ≤ bs.length ∧ (rdE bs).1.id.size ≤ bs.length ∧ (rdE bs).1.text.size ≤ bs.length := by
  unfold rdE at h hl ⊢
  simp only at h hl ⊢
  obtain ⟨f7, d7, g7⟩ := stepI_ok h
  obtain ⟨f6, d6, g6⟩ := stepI_ok f7
  obtain ⟨f5, d5, g5⟩ := stepI_ok f6
  obtain ⟨f4, d4, g4⟩ := stepS_ok f5
  obtain ⟨f3, d3, g3⟩ := stepS_ok f4
  obtain ⟨f2, d2, g2⟩ := stepS_ok f3
  obtain ⟨f1, d1, g1⟩ := stepS_ok f2
  obtain ⟨_, d0, g0⟩ := stepI_ok f1
  refine ⟨?_, ⟨g0, g5, g6, g7⟩, by rw [str_size]; exact g1, by rw [str_size]; exact g2, by rw [str_size]; exact g3, by rw [str_size]; exact g4⟩
  unfold encE
  simp only [bys_str]
  rw [hl, List.drop_length, List.append_nil] at d7
  rw [← d7, ← d6, ← d5, ← d4, ← d3, ← d2, ← d1, ← d0, List.drop_zero]
theorem decE_enc (x : Ev) (hg : GoodE x) (hs : x.who.size ≤ 140737488355328 ∧ x.name.size ≤ 140737488355328 ∧ x.id.size ≤ 140737488355328 ∧ x.text.size ≤ 140737488355328) : decE (encE x) = (x, 0) := by
  unfold decE
  rw [encE_read x hg hs, if_neg (by simp)]
theorem decE_ok {bs : List UInt8} (h : (decE bs).2 = 0) : encE (decE bs).1 = bs ∧ GoodE (decE bs).1 ∧ (decE bs).1.who.size ≤ bs.length ∧ (decE bs).1.name.size ≤ bs.length ∧ (decE bs).1.id.size ≤ bs.length ∧ (decE bs).1.text.size ≤ bs.length := by
  unfold decE at h ⊢
  by_cases hc : (rdE bs).2.2 = true ∨ (rdE bs).2.1 ≠ bs.length
  · rw [if_pos hc] at h
    simp at h
  · rw [if_neg hc]
    have h1 : (rdE bs).2.2 = false := by cases hq : (rdE bs).2.2 with
      | true => exact absurd (.inl hq) hc
      | false => rfl
    have h2 : (rdE bs).2.1 = bs.length := by
      rcases Decidable.em ((rdE bs).2.1 = bs.length) with e | e
      · exact e
      · exact absurd (.inr e) hc
    exact rdE_enc h1 h2
theorem encE_len (x : Ev) : (encE x).length ≤ 72 + x.who.size + x.name.size + x.id.size + x.text.size := by
  have h1 := encI_length_le x.kind
  have h2 := encS_len x.who
  have h3 := encS_len x.name
  have h4 := encS_len x.id
  have h5 := encS_len x.text
  have h6 := encI_length_le x.a
  have h7 := encI_length_le x.b
  have h8 := encI_length_le x.t
  unfold encE
  simp only [List.length_append]
  omega

end Go.Proofs.YtoghaehcmbonnaaGreatDoor
