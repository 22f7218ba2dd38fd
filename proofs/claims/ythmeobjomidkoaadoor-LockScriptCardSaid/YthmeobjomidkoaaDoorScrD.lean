/- The reference's Acquire: plain. -/
import Derived.Test.YthmeobjomidkoaaDoorScrC
namespace Go.Proofs.YthmeobjomidkoaaDoor
open Go.RowKit Go.Maps
set_option maxRecDepth 100000
/-- The held locks with other keys are as many as the list says. -/
theorem count_list {F : LF} {l : List Lk} (hT : Tab F l) (hK : KeyOk F) (a i : ByteArray) (now : Int) : CountK (OtherHeld F a i now) ((l.filter fun x => !keyB a i x).filter (heldB now)).length := by
  refine ⟨((l.filter fun x => !keyB a i x).filter (heldB now)).map fun x => (x.name, x.id), ?_, by rw [List.length_map], fun x y hm => ?_, fun x y hx hy => ⟨fun h => ?_, fun h => ?_⟩⟩
  · rw [List.Nodup, List.pairwise_map]
    refine ((hT.srt.filter _).filter _).imp fun {p q} h e => ?_
    injection e with e1 e2
    rw [(kL_key ⟨e1, e2⟩).1, kL_irrefl] at h
    cases h
  · obtain ⟨z, hz, he⟩ := List.mem_map.1 hm
    injection he with e1 e2
    have h1 := (hT.mem z).1 (List.mem_filter.1 (List.mem_filter.1 hz).1).1
    obtain ⟨_, _, h2, h3⟩ := hK _ _ _ h1
    rw [e1] at h2
    rw [e2] at h3
    exact ⟨h2, h3⟩
  · obtain ⟨h1, h2⟩ := h
    obtain ⟨z, hz⟩ := Option.isSome_iff_exists.1 h1
    obtain ⟨h3, h4⟩ := heldF_some hz
    obtain ⟨e1, e2, _⟩ := hK _ _ _ h3
    refine List.mem_map.2 ⟨z, ?_, by rw [e1, e2]⟩
    refine List.mem_filter.2 ⟨List.mem_filter.2 ⟨(hT.mem z).2 (by rw [e1, e2]; exact h3), ?_⟩, ?_⟩
    · cases hk : keyB a i z with
      | false => rfl
      | true =>
        obtain ⟨k1, k2⟩ := keyB_iff.1 hk
        exact absurd ⟨e1.symm.trans k1, e2.symm.trans k2⟩ h2
    · unfold heldB; exact decide_eq_true h4
  · obtain ⟨z, hz, he⟩ := List.mem_map.1 h
    injection he with e1 e2
    obtain ⟨hz1, hz2⟩ := List.mem_filter.1 hz
    obtain ⟨hz3, hz4⟩ := List.mem_filter.1 hz1
    have h1 := (hT.mem z).1 hz3
    unfold heldB at hz2
    have h2 := heldF_of h1 (of_decide_eq_true hz2)
    rw [e1, e2] at h2
    refine ⟨by rw [h2]; rfl, fun hk => ?_⟩
    rw [keyB_iff.2 ⟨e1.trans hk.1, e2.trans hk.2⟩] at hz4
    cases hz4
/-- A lock put at its place. -/
theorem Tab.put {F : LF} {l : List Lk} (hT : Tab F l) (x : Lk) {k : Nat} (h1 : ∀ j (_ : j < k) (h : j < (l.filter fun z => !keyB x.name x.id z).length), kL (l.filter fun z => !keyB x.name x.id z)[j] x = true)
    (h2 : ∀ h : k < (l.filter fun z => !keyB x.name x.id z).length, kL (l.filter fun z => !keyB x.name x.id z)[k] x = false) :
    Tab (upd F x.name x.id (some x)) ((l.filter fun z => !keyB x.name x.id z).take k ++ [x] ++ (l.filter fun z => !keyB x.name x.id z).drop k) := by
  obtain ⟨R, hR⟩ : ∃ R, R = l.filter fun z => !keyB x.name x.id z := ⟨_, rfl⟩
  have hTd := hT.drop x.name x.id
  have hne : ∀ z ∈ R, keyB x.name x.id z = false := fun z hz => by
    rw [hR] at hz
    have h9 := (List.mem_filter.1 hz).2
    simpa using h9
  rw [← hR] at h1 h2 hTd ⊢
  have hs := hTd.srt
  have hlo : ∀ z ∈ R.take k, kL z x = true := fun z hz => by
    obtain ⟨j, hj, rfl⟩ := List.getElem_of_mem hz
    rw [List.length_take] at hj
    rw [List.getElem_take]
    exact h1 j (by omega) (by omega)
  have hhi : ∀ z ∈ R.drop k, kL x z = true := fun z hz => by
    obtain ⟨j, hj, rfl⟩ := List.getElem_of_mem hz
    rw [List.length_drop] at hj
    have hk : k < R.length := by omega
    have h3 := h2 hk
    have h4 : kL x R[k] = true := by
      cases hc : kL x R[k] with
      | true => rfl
      | false =>
        have h5 := kL_tri _ _ h3 hc
        have h6 := hne R[k] (List.getElem_mem hk)
        rw [keyB_iff.2 h5] at h6
        cases h6
    rw [List.getElem_drop]
    rcases Nat.eq_zero_or_pos j with h0 | h0
    · subst h0; exact h4
    · rw [List.pairwise_iff_getElem] at hs
      exact kL_trans _ _ _ h4 (hs k (k + j) hk (by omega) (by omega))
  refine ⟨?_, fun z => ?_⟩
  · have hsp : R = R.take k ++ R.drop k := (List.take_append_drop k R).symm
    rw [hsp, List.pairwise_append] at hs
    rw [List.pairwise_append, List.pairwise_append]
    refine ⟨⟨hs.1, by simp, fun a ha b hb => ?_⟩, hs.2.1, fun a ha b hb => ?_⟩
    · rw [List.mem_singleton] at hb; rw [hb]; exact hlo a ha
    · rcases List.mem_append.1 ha with h9 | h9
      · exact hs.2.2 a h9 b hb
      · rw [List.mem_singleton] at h9; rw [h9]; exact hhi b hb
  · have hm : z ∈ R.take k ++ [x] ++ R.drop k ↔ z ∈ R ∨ z = x := by
      rw [List.mem_append, List.mem_append, List.mem_singleton]
      have h9 : z ∈ R ↔ z ∈ R.take k ∨ z ∈ R.drop k := by rw [← List.mem_append, List.take_append_drop]
      rw [h9]
      constructor
      · rintro ((h | h) | h)
        · exact .inl (.inl h)
        · exact .inr h
        · exact .inl (.inr h)
      · rintro ((h | h) | h)
        · exact .inl (.inl h)
        · exact .inr h
        · exact .inl (.inr h)
    rw [hm, hTd.mem]
    unfold upd
    by_cases hk : z.name = x.name ∧ z.id = x.id
    · rw [if_pos hk, if_pos hk]
      constructor
      · rintro (h | h)
        · cases h
        · rw [h]
      · intro h
        injection h with h
        exact .inr h.symm
    · rw [if_neg hk, if_neg hk]
      constructor
      · rintro (h | h)
        · exact h
        · subst h; exact absurd ⟨rfl, rfl⟩ hk
      · exact .inl
theorem put_len (l : List Lk) (x : Lk) (k : Nat) : ((l.filter fun z => !keyB x.name x.id z).take k ++ [x] ++ (l.filter fun z => !keyB x.name x.id z).drop k).length ≤ l.length + 1 := by
  have h := List.length_filter_le (fun z => !keyB x.name x.id z) l
  simp only [List.length_append, List.length_take, List.length_drop, List.length_singleton]
  omega
theorem CountK.uniq {P : ByteArray → ByteArray → Prop} {c d : Nat} (h : CountK P c) (h' : CountK P d) : c = d := by
  obtain ⟨L, n1, rfl, s1, m1⟩ := h
  obtain ⟨M, n2, rfl, s2, m2⟩ := h'
  refine ((List.perm_ext_iff_of_nodup n1 n2).2 fun p => ?_).length_eq
  obtain ⟨x, y⟩ := p
  constructor
  · intro hm
    obtain ⟨hx, hy⟩ := s1 x y hm
    exact (m2 x y hx hy).1 ((m1 x y hx hy).2 hm)
  · intro hm
    obtain ⟨hx, hy⟩ := s2 x y hm
    exact (m1 x y hx hy).1 ((m2 x y hx hy).2 hm)
theorem AcqR.uniq {F F1 F2 : LF} {who name id : ByteArray} {now til c1 c2 : Int} (h : AcqR F who name id now til c1 F1) (h' : AcqR F who name id now til c2 F2) : c1 = c2 ∧ F1 = F2 := by
  rcases h with ⟨a1, rfl, rfl⟩ | ⟨a1, a2, rfl, rfl⟩ | ⟨a1, a2, x, a3, a4, rfl, rfl⟩ | ⟨a1, a2, a3, c, a4, a5⟩ <;>
    rcases h' with ⟨b1, rfl, rfl⟩ | ⟨b1, b2, rfl, rfl⟩ | ⟨b1, b2, y, b3, b4, rfl, rfl⟩ | ⟨b1, b2, b3, d, b4, b5⟩ <;>
    first
    | exact ⟨rfl, rfl⟩
    | (rw [a1] at b1; exact Bool.noConfusion b1)
    | exact absurd a2 b2
    | exact absurd b2 a2
    | exact absurd (b3 _ a3) a4
    | exact absurd (a3 _ b3) b4
    | (have e := a4.uniq b4
       subst e
       rcases a5 with ⟨a5, rfl, rfl⟩ | ⟨a5, rfl, rfl⟩ <;> rcases b5 with ⟨b5, rfl, rfl⟩ | ⟨b5, rfl, rfl⟩ <;> first | exact ⟨rfl, rfl⟩ | omega)
theorem RelR.uniq {F F1 F2 : LF} {who name id : ByteArray} {now c1 c2 : Int} (h : RelR F who name id now c1 F1) (h' : RelR F who name id now c2 F2) : c1 = c2 ∧ F1 = F2 := by
  unfold RelR at h h'
  cases hh : heldF F name id now with
  | none => rw [hh] at h h'; exact ⟨h.1.trans h'.1.symm, h.2.trans h'.2.symm⟩
  | some x =>
    rw [hh] at h h'
    rcases h with ⟨a1, rfl, rfl⟩ | ⟨a1, rfl, rfl⟩ <;> rcases h' with ⟨b1, rfl, rfl⟩ | ⟨b1, rfl, rfl⟩
    · exact ⟨rfl, rfl⟩
    · exact absurd a1 b1
    · exact absurd b1 a1
    · exact ⟨rfl, rfl⟩
end Go.Proofs.YthmeobjomidkoaaDoor
