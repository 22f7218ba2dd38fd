/- Lists of locks, plainly. -/
import Derived.Test.YthmeobjomidkoaaDoorLockList
import Derived.Test.YthmeobjomidkoaaDoorLockDo
import Derived.Test.YthmeobjomidkoaaDoorLockAwake
namespace Go.Proofs.YthmeobjomidkoaaDoor
open Go.RowKit
set_option maxRecDepth 100000

theorem kL_asymm {x y : Lk} (h : kL x y = true) : ¬ kL y x = true := fun h2 => by
  have := kL_trans _ _ _ h h2
  rw [kL_irrefl] at this
  cases this
theorem sorted_unique : ∀ {l1 l2 : List Lk}, l1.Pairwise (fun x y => kL x y = true) → l2.Pairwise (fun x y => kL x y = true) → (∀ x, x ∈ l1 ↔ x ∈ l2) → l1 = l2
  | [], [], _, _, _ => rfl
  | [], b :: _, _, _, h => absurd ((h b).2 (by simp)) (by simp)
  | a :: _, [], _, _, h => absurd ((h a).1 (by simp)) (by simp)
  | a :: t1, b :: t2, h1, h2, h => by
    obtain ⟨ha, h3⟩ := List.pairwise_cons.1 h1
    obtain ⟨hb, h4⟩ := List.pairwise_cons.1 h2
    have hab : a = b := by
      rcases List.mem_cons.1 ((h a).1 (by simp)) with e | e
      · exact e
      · rcases List.mem_cons.1 ((h b).2 (by simp)) with e2 | e2
        · exact e2.symm
        · exact absurd (ha b e2) (kL_asymm (hb a e))
    subst hab
    refine congrArg (List.cons a) (sorted_unique h3 h4 fun x => ?_)
    constructor
    · intro hx
      rcases List.mem_cons.1 ((h x).1 (List.mem_cons_of_mem _ hx)) with e | e
      · subst e
        have := ha x hx
        rw [kL_irrefl] at this
        cases this
      · exact e
    · intro hx
      rcases List.mem_cons.1 ((h x).2 (List.mem_cons_of_mem _ hx)) with e | e
      · subst e
        have := hb x hx
        rw [kL_irrefl] at this
        cases this
      · exact e
theorem IsList.unique {F : LF} {now : Int} {L1 L2 : List Lk} (h1 : IsList F now L1) (h2 : IsList F now L2) : L1 = L2 := sorted_unique h1.1 h2.1 fun x => by rw [h1.2 x, h2.2 x]

/-- The locks with other keys. -/
def oth (na id : ByteArray) (l : List Lk) : List Lk := l.filter fun x => !decide (x.name = na ∧ x.id = id)
theorem oth_same {F F' : LF} {now : Int} {L L' : List Lk} {na id : ByteArray} (h : IsList F now L) (h' : IsList F' now L') (hs : ∀ x y, ¬ (x = na ∧ y = id) → F' x y = F x y) : oth na id L = oth na id L' := by
  refine sorted_unique (h.1.filter _) (h'.1.filter _) fun x => ?_
  unfold oth
  rw [List.mem_filter, List.mem_filter, h.2 x, h'.2 x]
  by_cases hk : x.name = na ∧ x.id = id
  · simp [hk]
  · have e : heldF F' x.name x.id now = heldF F x.name x.id now := by unfold heldF; rw [hs _ _ hk]
    rw [e]
theorem oth_skip {na id : ByteArray} {l : List Lk} {p : Nat} (h : p < l.length) (hk : l[p].name = na ∧ l[p].id = id) : oth na id (l.drop p) = oth na id (l.drop (p + 1)) := by
  rw [List.drop_eq_getElem_cons h]
  unfold oth
  rw [List.filter_cons_of_neg (by simp [hk])]
theorem oth_take {na id : ByteArray} {l : List Lk} {p : Nat} (h : p < l.length) (hk : ¬ (l[p].name = na ∧ l[p].id = id)) : oth na id (l.drop p) = l[p] :: oth na id (l.drop (p + 1)) := by
  rw [List.drop_eq_getElem_cons h]
  unfold oth
  rw [List.filter_cons_of_pos (by rw [decide_eq_false hk]; rfl)]
theorem oth_end {na id : ByteArray} {l : List Lk} {p : Nat} (h : l.length ≤ p) : oth na id (l.drop p) = [] := by
  rw [List.drop_eq_nil_iff.2 h]
  rfl

theorem upd_other {F : LF} {a b x y : ByteArray} {v : Option Lk} (h : ¬ (x = a ∧ y = b)) : upd F a b v x y = F x y := by
  unfold upd
  rw [if_neg h]
theorem upd_same {F : LF} {a b : ByteArray} {v : Option Lk} : upd F a b v a b = v := by
  unfold upd
  rw [if_pos ⟨rfl, rfl⟩]
theorem acq_F {F F' : LF} {who na id : ByteArray} {now til code : Int} (h : AcqR F who na id now til code F') : F' = F ∨ F' = upd F na id (some ⟨na, id, who, til⟩) := by
  rcases h with ⟨_, _, h⟩ | ⟨_, _, _, h⟩ | ⟨_, _, _, _, _, _, h⟩ | ⟨_, _, _, _, _, ⟨_, _, h⟩ | ⟨_, _, h⟩⟩
  · exact .inl h
  · exact .inl h
  · exact .inl h
  · exact .inl h
  · exact .inr h
theorem rel_F {F F' : LF} {who na id : ByteArray} {now code : Int} (h : RelR F who na id now code F') : F' = F ∨ F' = upd F na id none := by
  unfold RelR at h
  split at h
  · exact .inl h.2
  · rcases h with ⟨_, _, h⟩ | ⟨_, _, h⟩
    · exact .inr h
    · exact .inl h
theorem do_other {F F' : LF} {s : LStep} (h : DoR F s F') (hop : s.1 = 0 ∨ s.1 = 1) (x y : ByteArray) (hk : ¬ (x = s.2.1.name ∧ y = s.2.1.id)) : F' x y = F x y := by
  rcases h with ⟨_, code, h⟩ | ⟨_, code, h⟩ | ⟨h0, h1, _⟩
  · rcases acq_F h with h | h
    · rw [h]
    · rw [h, upd_other hk]
  · rcases rel_F h with h | h
    · rw [h]
    · rw [h, upd_other hk]
  · rcases hop with h | h
    · exact absurd h h0
    · exact absurd h h1
theorem KeyOk.none_ : KeyOk fun _ _ => none := fun _ _ _ h => by cases h
theorem KeyOk.upd_ {F : LF} {a b : ByteArray} {v : Option Lk} (h : KeyOk F) (hv : ∀ x, v = some x → x.name = a ∧ x.id = b ∧ a.size ≤ maxLen ∧ b.size ≤ maxLen) : KeyOk (upd F a b v) := by
  intro p q x hx
  by_cases hk : p = a ∧ q = b
  · obtain ⟨rfl, rfl⟩ := hk
    rw [upd_same] at hx
    exact hv x hx
  · rw [upd_other hk] at hx
    exact h p q x hx
theorem KeyOk.purge_ {F : LF} {now : Int} (h : KeyOk F) : KeyOk (purge F now) := fun a b x hx => h a b x (heldF_some hx).1
theorem KeyOk.acq {F F' : LF} {who na id : ByteArray} {now til code : Int} (hK : KeyOk F) (h : AcqR F who na id now til code F') (h1 : na.size ≤ maxLen) (h2 : id.size ≤ maxLen) : KeyOk F' := by
  rcases acq_F h with h | h
  · rw [h]; exact hK
  · rw [h]; exact hK.upd_ fun x hx => by injection hx with hx; subst hx; exact ⟨rfl, rfl, h1, h2⟩
theorem KeyOk.rel {F F' : LF} {who na id : ByteArray} {now code : Int} (hK : KeyOk F) (h : RelR F who na id now code F') : KeyOk F' := by
  rcases rel_F h with h | h
  · rw [h]; exact hK
  · rw [h]; exact hK.upd_ fun x hx => by cases hx
theorem KeyOk.do_ {F F' : LF} {s : LStep} (hK : KeyOk F) (h : DoR F s F') (hg : GoodS s) : KeyOk F' := by
  rcases h with ⟨_, code, h⟩ | ⟨_, code, h⟩ | ⟨_, _, h⟩
  · have h1 := hg.1.1
    have h2 := hg.1.2.1
    exact hK.acq h (by unfold maxLen; omega) (by unfold maxLen; omega)
  · exact hK.rel h
  · rw [h]; exact hK.purge_
end Go.Proofs.YthmeobjomidkoaaDoor
