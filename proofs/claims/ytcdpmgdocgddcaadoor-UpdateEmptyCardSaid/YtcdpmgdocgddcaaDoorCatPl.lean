/- What follows of Put, Remove, Move for the entries; plain. -/
import Derived.Test.YtcdpmgdocgddcaaDoorRPut
namespace Go.Proofs.YtcdpmgdocgddcaaDoor
set_option maxRecDepth 100000
theorem esOk_iff {l : List Ep} : EsOk l ↔ (∀ x ∈ l, validE x = true) ∧ (l.map Ep.id).Nodup := by
  constructor
  · intro h
    refine ⟨fun x hx => ?_, ?_⟩
    · obtain ⟨i, hi, rfl⟩ := List.getElem_of_mem hx
      exact (h i hi).1
    · rw [List.Nodup, List.pairwise_iff_getElem]
      intro i j hi hj hij
      rw [List.getElem_map, List.getElem_map]
      exact (h j (by simpa using hj)).2 i hij
  · rintro ⟨h1, h2⟩ i hi
    refine ⟨h1 _ (List.getElem_mem hi), fun j hj => ?_⟩
    rw [List.Nodup, List.pairwise_iff_getElem] at h2
    have := h2 j i (by rw [List.length_map]; omega) (by rw [List.length_map]; exact hi) hj
    rwa [List.getElem_map, List.getElem_map] at this
theorem EsOk.find {l : List Ep} (h : EsOk l) {k : Nat} (hk : k < l.length) {id : ByteArray} (hid : l[k].id = id) : FindZ l id (k : Int) :=
  .inr ⟨k, rfl, hk, hid, fun j hj => by rw [← hid]; exact (h k hk).2 j hj⟩
theorem EsOk.perm {l m : List Ep} (h : EsOk l) (hp : List.Perm l m) : EsOk m := by
  rw [esOk_iff] at h ⊢
  exact ⟨fun x hx => h.1 x (hp.mem_iff.2 hx), ((hp.map Ep.id).nodup_iff).1 h.2⟩
theorem EsOk.cons {l : List Ep} (h : EsOk l) {x : Ep} (hx : validE x = true) (hn : ∀ y ∈ l, y.id ≠ x.id) : EsOk (x :: l) := by
  rw [esOk_iff] at h ⊢
  refine ⟨fun y hy => ?_, ?_⟩
  · rcases List.mem_cons.1 hy with rfl | hy
    · exact hx
    · exact h.1 y hy
  · rw [List.map_cons, List.nodup_cons]
    refine ⟨fun hm => ?_, h.2⟩
    obtain ⟨y, hy, he⟩ := List.mem_map.1 hm
    exact hn y hy he
theorem EsOk.sub {l m : List Ep} (h : EsOk l) (hs : List.Sublist m l) : EsOk m := by
  rw [esOk_iff] at h ⊢
  exact ⟨fun x hx => h.1 x (hs.subset hx), h.2.sublist (hs.map Ep.id)⟩
theorem ins_perm {α : Type} (l : List α) (x : α) (q : Nat) : List.Perm (x :: l) (l.take q ++ [x] ++ l.drop q) := by
  have h := (List.perm_middle (a := x) (l₁ := l.take q) (l₂ := l.drop q)).symm
  rw [List.take_append_drop] at h
  simpa using h
theorem findZ_none {l : List Ep} {id : ByteArray} (h : FindZ l id (-1)) : ∀ y ∈ l, y.id ≠ id := by
  rcases h with ⟨_, h⟩ | ⟨k, h, _⟩
  · intro y hy
    obtain ⟨i, hi, rfl⟩ := List.getElem_of_mem hy
    exact h i hi
  · omega
theorem findZ_none_of {l : List Ep} {id : ByteArray} (h : ∀ y ∈ l, y.id ≠ id) : FindZ l id (-1) := .inl ⟨rfl, fun _ hj => h _ (List.getElem_mem hj)⟩
theorem findZ_at {l : List Ep} {id : ByteArray} {k : Nat} (h : FindZ l id (k : Int)) (hk : k < l.length) : l[k].id = id := by
  rcases h with ⟨h, _⟩ | ⟨j, h, hj, he, _⟩
  · omega
  · have e : k = j := by omega
    subst e
    exact he
theorem ins_at {α : Type} (l : List α) (x : α) (q : Nat) (hq : q ≤ l.length) : (l.take q ++ [x] ++ l.drop q).length = l.length + 1 ∧ ∀ h, (l.take q ++ [x] ++ l.drop q)[q]'h = x := by
  have h1 : (l.take q).length = q := by rw [List.length_take]; omega
  refine ⟨?_, fun h => ?_⟩
  · simp only [List.length_append, List.length_take, List.length_drop, List.length_cons, List.length_nil]; omega
  · rw [List.getElem_append_left (by simp only [List.length_append, List.length_cons, List.length_nil]; omega), List.getElem_append_right (by omega)]
    simp [h1]
theorem ins_rem {α : Type} (l : List α) (x : α) (q : Nat) (hq : q ≤ l.length) : (l.take q ++ [x] ++ l.drop q).take q ++ (l.take q ++ [x] ++ l.drop q).drop (q + 1) = l := by
  have h1 : (l.take q).length = q := by rw [List.length_take]; omega
  have h2 : (l.take q ++ [x]).length = q + 1 := by rw [List.length_append, h1]; rfl
  have e1 : (l.take q ++ [x] ++ l.drop q).take q = l.take q := by rw [List.append_assoc]; exact List.take_left' h1
  have e2 : (l.take q ++ [x] ++ l.drop q).drop (q + 1) = l.drop q := List.drop_left' h2
  rw [e1, e2, List.take_append_drop]
theorem rem_ins {α : Type} (l : List α) (q : Nat) (hq : q < l.length) : (l.take q ++ l.drop (q + 1)).take q ++ [l[q]] ++ (l.take q ++ l.drop (q + 1)).drop q = l := by
  have h1 : (l.take q).length = q := by rw [List.length_take]; omega
  have e1 : (l.take q ++ l.drop (q + 1)).take q = l.take q := List.take_left' h1
  have e2 : (l.take q ++ l.drop (q + 1)).drop q = l.drop (q + 1) := List.drop_left' h1
  rw [e1, e2, List.append_assoc, List.singleton_append, List.getElem_cons_drop, List.take_append_drop]
theorem rem_len {α : Type} (l : List α) (q : Nat) (hq : q < l.length) : (l.take q ++ l.drop (q + 1)).length = l.length - 1 := by
  rw [List.length_append, List.length_take, List.length_drop]; omega
theorem rem_sub {α : Type} (l : List α) (q : Nat) : List.Sublist (l.take q ++ l.drop (q + 1)) l := by
  have h := List.Sublist.append (List.Sublist.refl (l.take q)) (List.drop_sublist_drop_left l (Nat.le_succ q))
  rwa [List.take_append_drop] at h
theorem rem_perm {α : Type} (l : List α) (q : Nat) (hq : q < l.length) : List.Perm (l[q] :: (l.take q ++ l.drop (q + 1))) l := by
  have h := ins_perm (l.take q ++ l.drop (q + 1)) l[q] q
  rwa [rem_ins l q hq] at h
theorem validC_parts {c : Cp} : validC c = true ↔ headP c = true ∧ c.es.length ≤ 1000 ∧ EsOk c.es := by
  unfold validC
  simp only [Bool.and_eq_true, decide_eq_true_eq, and_assoc]
/-- The catalog with other entries. -/
def Cp.w (c : Cp) (l : List Ep) : Cp := ⟨c.tag, c.com, c.fd, l⟩
theorem Cp.w_self (c : Cp) : c.w c.es = c := rfl
theorem validC_w {c : Cp} {l : List Ep} (h : validC c = true) (hl : l.length ≤ 1000) (he : EsOk l) : validC (c.w l) = true := by
  obtain ⟨h1, _, _⟩ := validC_parts.1 h
  exact validC_parts.2 ⟨h1, hl, he⟩
/-- What is known behind a Put that returned no error. -/
structure PutOk (c : Cp) (x : Ep) (at_ : Int) (a : Cp) (was : Bool) (i : Nat) : Prop where
  hc : validC c = true
  hx : validE x = true
  ha : validC a = true
  lt : i < a.es.length
  get : ∀ h, a.es[i]'h = x
  find : FindZ a.es x.id i
  head : eqH a c = true
  was_ : was = true → FindZ c.es x.id i ∧ i < c.es.length ∧ a.es = c.es.set i x
  new_ : was = false → FindZ c.es x.id (-1) ∧ at_ = i ∧ i ≤ c.es.length ∧ c.es.length < 1000 ∧ a.es = c.es.take i ++ [x] ++ c.es.drop i
  eq : a = c.w a.es
theorem eqH_w (c : Cp) (l : List Ep) : eqH (c.w l) c = true := by simp [eqH, Cp.w]
theorem set_ids {l : List Ep} {k : Nat} (hk : k < l.length) {x : Ep} (h : l[k].id = x.id) : (l.set k x).map Ep.id = l.map Ep.id := by
  rw [List.map_set, ← h]
  have := List.set_getElem_self («as» := l.map Ep.id) (i := k) (by rw [List.length_map]; exact hk)
  rwa [List.getElem_map] at this
theorem PutR.ok {c : Cp} {x : Ep} {at_ : Int} {a : Cp} (h : PutR c x at_ a 0) : ∃ was i, PutOk c x at_ a was i := by
  rcases h with ⟨_, h, _⟩ | ⟨hv, he, ⟨k, h1, h2, _, rfl⟩ | ⟨h1, ⟨_, h, _⟩ | ⟨q, rfl, h3, ⟨_, h, _⟩ | ⟨h4, _, rfl⟩⟩⟩⟩
  · omega
  · obtain ⟨p1, p2, p3⟩ := validC_parts.1 hv
    have hid := findZ_at h1 h2
    have hok : EsOk (c.es.set k x) := by
      rw [esOk_iff] at p3 ⊢
      refine ⟨fun y hy => ?_, by rw [set_ids h2 hid]; exact p3.2⟩
      rcases List.mem_or_eq_of_mem_set hy with h9 | h9
      · exact p3.1 y h9
      · rw [h9]; exact he
    have hlt : k < (c.es.set k x).length := by rw [List.length_set]; exact h2
    have hget : ∀ h, (c.es.set k x)[k]'h = x := fun h => by rw [List.getElem_set_self]
    exact ⟨true, k, hv, he, validC_w hv (by rw [List.length_set]; exact p2) hok, hlt, hget, hok.find hlt (by rw [hget hlt]), eqH_w c _, fun _ => ⟨h1, h2, rfl⟩, fun h => (by cases h), rfl⟩
  · omega
  · omega
  · obtain ⟨p1, p2, p3⟩ := validC_parts.1 hv
    have hok := (p3.cons he (findZ_none h1)).perm (ins_perm c.es x q)
    obtain ⟨hl, hget⟩ := ins_at c.es x q h3
    exact ⟨false, q, hv, he, validC_w hv (by omega) hok, (by show q < (c.es.take q ++ [x] ++ c.es.drop q).length; omega), hget, hok.find (by omega) (by rw [hget]), eqH_w c _, fun h => (by cases h), fun _ => ⟨h1, rfl, h3, h4, rfl⟩, rfl⟩
theorem PutR.fail {c : Cp} {x : Ep} {at_ : Int} {a : Cp} {n : Int} (h : PutR c x at_ a n) (hn : n ≠ 0) : a = cp0 := by
  rcases h with ⟨_, _, h⟩ | ⟨hv, he, ⟨k, h1, h2, h, _⟩ | ⟨h1, ⟨_, _, h⟩ | ⟨q, _, h3, ⟨_, _, h⟩ | ⟨h4, h, _⟩⟩⟩⟩
  · exact h
  · exact absurd h hn
  · exact h
  · exact h
  · exact absurd h hn
/-- Putting the old entry back. -/
theorem PutOk.back {c : Cp} {x : Ep} {at_ : Int} {a : Cp} {k : Nat} (h : PutOk c x at_ a true k) (hk : k < c.es.length) {b : Cp} {n : Int} (hb : PutR a c.es[k] 0 b n) : b = c ∧ n = 0 := by
  obtain ⟨h1, h2, h3⟩ := h.was_ rfl
  obtain ⟨p1, p2, p3⟩ := validC_parts.1 h.hc
  have hid := findZ_at h1 hk
  have hv : validE c.es[k] = true := (p3 k hk).1
  have hf : FindZ a.es c.es[k].id k := by rw [hid]; exact h.find
  have hw : PutR a c.es[k] 0 c 0 := .inr ⟨h.ha, hv, .inl ⟨k, hf, h.lt, rfl, by
    have e : a.es.set k c.es[k] = c.es := by rw [h3, List.set_set, List.set_getElem_self]
    rw [e, h.eq]
    rfl⟩⟩
  have hno : ∀ {P : Prop}, (validC a = false ∨ validE c.es[k] = false) → P := fun h9 => by
    rcases h9 with h9 | h9
    · rw [h.ha] at h9; cases h9
    · rw [hv] at h9; cases h9
  rcases hb with ⟨i1, _⟩ | ⟨_, _, ⟨j, i1, i2, i3, i4⟩ | ⟨i1, _⟩⟩
  · exact hno i1
  · have e : j = k := by have := i1.uniq hf; omega
    subst e
    refine ⟨?_, i3⟩
    rw [i4]
    have e : a.es.set j c.es[j] = c.es := by rw [h3, List.set_set, List.set_getElem_self]
    rw [e, h.eq]
    rfl
  · have := i1.uniq hf; omega
/-- Removing the new entry. -/
theorem PutOk.undo {c : Cp} {x : Ep} {at_ : Int} {a : Cp} {k : Nat} (h : PutOk c x at_ a false k) {b : Cp} {n : Int} (hb : RemR a x.id b n) : b = c ∧ n = 0 := by
  obtain ⟨h1, h2, h3, h4, h5⟩ := h.new_ rfl
  rcases hb with ⟨i1, _⟩ | ⟨_, i1, _⟩ | ⟨_, j, i1, _, i3, i4⟩
  · rw [h.ha] at i1; cases i1
  · have := i1.uniq h.find; omega
  · have e : j = k := by have := i1.uniq h.find; omega
    subst e
    refine ⟨?_, i3⟩
    rw [i4, h5, ins_rem _ _ _ h3, h.eq]
    rfl
theorem PutR.uniq {c : Cp} {x : Ep} {at_ : Int} {a b : Cp} {m n : Int} (h : PutR c x at_ a m) (h' : PutR c x at_ b n) : a = b ∧ m = n := by
  have hno : ∀ {P : Prop}, (validC c = false ∨ validE x = false) → validC c = true → validE x = true → P := fun h1 h2 h3 => by
    rcases h1 with h1 | h1
    · rw [h1] at h2; cases h2
    · rw [h1] at h3; cases h3
  rcases h with ⟨h1, h2, h3⟩ | ⟨hv, he, h⟩
  · rcases h' with ⟨i1, i2, i3⟩ | ⟨iv, ie, _⟩
    · exact ⟨h3.trans i3.symm, h2.trans i2.symm⟩
    · exact hno h1 iv ie
  · rcases h' with ⟨i1, i2, i3⟩ | ⟨iv, ie, h'⟩
    · exact hno i1 hv he
    · rcases h with ⟨k, h1, h2, h3, h4⟩ | ⟨h1, h⟩ <;> rcases h' with ⟨j, i1, i2, i3, i4⟩ | ⟨i1, h'⟩
      · have e : k = j := by have := h1.uniq i1; omega
        subst e
        exact ⟨h4.trans i4.symm, h3.trans i3.symm⟩
      · have := h1.uniq i1; omega
      · have := h1.uniq i1; omega
      · rcases h with ⟨h2, h3, h4⟩ | ⟨q, h2, h3, ⟨h4, h5, h6⟩ | ⟨h4, h5, h6⟩⟩ <;> rcases h' with ⟨i2, i3, i4⟩ | ⟨r, i2, i3, ⟨i4, i5, i6⟩ | ⟨i4, i5, i6⟩⟩
        · exact ⟨h4.trans i4.symm, h3.trans i3.symm⟩
        · omega
        · omega
        · omega
        · exact ⟨h6.trans i6.symm, h5.trans i5.symm⟩
        · omega
        · omega
        · omega
        · have e : q = r := by omega
          subst e
          exact ⟨h6.trans i6.symm, h5.trans i5.symm⟩
theorem PutR.len {c : Cp} {x : Ep} {at_ : Int} {a : Cp} {m : Int} (h : PutR c x at_ a m) : a.es.length ≤ 1000 := by
  rcases h with ⟨_, _, rfl⟩ | ⟨hv, _, ⟨k, _, _, _, rfl⟩ | ⟨_, ⟨_, _, rfl⟩ | ⟨q, _, h3, ⟨_, _, rfl⟩ | ⟨h4, _, rfl⟩⟩⟩⟩
  · exact Nat.zero_le _
  · show (c.es.set k x).length ≤ 1000
    rw [List.length_set]; exact validC_len hv
  · exact Nat.zero_le _
  · exact Nat.zero_le _
  · show (c.es.take q ++ [x] ++ c.es.drop q).length ≤ 1000
    simp only [List.length_append, List.length_take, List.length_drop, List.length_cons, List.length_nil]
    omega
theorem PutR.code {c : Cp} {x : Ep} {at_ : Int} {a : Cp} {n : Int} (h : PutR c x at_ a n) : n = 1 ∨ n = 2 ∨ n = 6 ∨ n = 0 := by
  rcases h with ⟨_, h, _⟩ | ⟨hv, he, ⟨k, h1, h2, h, _⟩ | ⟨h1, ⟨_, h, _⟩ | ⟨q, _, h3, ⟨_, h, _⟩ | ⟨h4, h, _⟩⟩⟩⟩ <;> simp [h]
end Go.Proofs.YtcdpmgdocgddcaaDoor
