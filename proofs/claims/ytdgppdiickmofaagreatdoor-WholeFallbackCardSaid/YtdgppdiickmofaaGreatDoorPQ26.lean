/- The program's effective locales: what merged gives, plain. -/
import Derived.Test.YtdgppdiickmofaaGreatDoorPQ25
import Derived.Shelf.SlSortCmp.NoneTotal
namespace Go.Proofs.YtdgppdiickmofaaGreatDoor
open Go.RowKit Go.Sort
set_option maxRecDepth 100000
theorem sum_le_of_all : ∀ (l : List Nat) (b : Nat), (∀ n ∈ l, n ≤ b) → l.sum ≤ b * l.length
  | [], _, _ => Nat.zero_le _
  | x :: t, b, h => by
    have h1 := sum_le_of_all t b fun n hn => h n (List.mem_cons_of_mem _ hn)
    have h2 := h x (List.mem_cons_self ..)
    rw [List.sum_cons, List.length_cons, Nat.mul_succ]
    omega
section
variable {α κ : Type}
/-- One element more, where its key is new. -/
def addP [DecidableEq κ] (key : α → κ) (out : List α) (x : α) : List α := if key x ∈ out.map key then out else out ++ [x]
def firstsP [DecidableEq κ] (key : α → κ) (l : List α) : List α := l.foldl (addP key) []
theorem firstsP_snoc [DecidableEq κ] (key : α → κ) (l : List α) (x : α) : firstsP key (l ++ [x]) = addP key (firstsP key l) x := by
  unfold firstsP
  rw [List.foldl_append]
  rfl
theorem addP_yes [DecidableEq κ] {key : α → κ} {out : List α} {x : α} (h : key x ∈ out.map key) : addP key out x = out := if_pos h
theorem addP_no [DecidableEq κ] {key : α → κ} {out : List α} {x : α} (h : key x ∉ out.map key) : addP key out x = out ++ [x] := if_neg h
theorem addP_nodup [DecidableEq κ] {key : α → κ} {out : List α} {x : α} (h : (out.map key).Nodup) : ((addP key out x).map key).Nodup := by
  unfold addP
  split
  · exact h
  · rename_i hn
    rw [List.map_append]
    exact List.nodup_append.2 ⟨h, by simp, fun a ha b hb => by rw [List.map_singleton, List.mem_singleton] at hb; subst hb; exact fun e => hn (e ▸ ha)⟩
theorem firstsP_nodup [DecidableEq κ] (key : α → κ) (l : List α) : ((firstsP key l).map key).Nodup := by
  unfold firstsP
  have : ∀ (l o : List α), (o.map key).Nodup → ((l.foldl (addP key) o).map key).Nodup := by
    intro l
    induction l with
    | nil => exact fun _ h => h
    | cons x t ih => exact fun o h => ih _ (addP_nodup h)
  exact this l [] List.nodup_nil
theorem firstsP_len [DecidableEq κ] (key : α → κ) (l : List α) : (firstsP key l).length ≤ l.length := by
  unfold firstsP
  have : ∀ (l o : List α), (l.foldl (addP key) o).length ≤ o.length + l.length := by
    intro l
    induction l with
    | nil => exact fun _ => Nat.le_refl _
    | cons x t ih =>
      intro o
      refine Nat.le_trans (ih _) ?_
      have : (addP key o x).length ≤ o.length + 1 := by unfold addP; split <;> simp
      rw [List.length_cons]
      omega
  simpa using this l []
theorem firstsP_mem [DecidableEq κ] (key : α → κ) {l : List α} {x : α} (h : x ∈ firstsP key l) : x ∈ l := by
  unfold firstsP at h
  have : ∀ (l o : List α), x ∈ l.foldl (addP key) o → x ∈ o ∨ x ∈ l := by
    intro l
    induction l with
    | nil => exact fun _ h => .inl h
    | cons y t ih =>
      intro o h
      rcases ih _ h with h1 | h1
      · unfold addP at h1
        split at h1
        · exact .inl h1
        · rcases List.mem_append.1 h1 with h2 | h2
          · exact .inl h2
          · rw [List.mem_singleton] at h2; subst h2; exact .inr (List.mem_cons_self ..)
      · exact .inr (List.mem_cons_of_mem _ h1)
  rcases this l [] h with h1 | h1
  · cases h1
  · exact h1
/-- What merged gives of the elements l. -/
def MgP [DecidableEq κ] (key : α → κ) (cf : κ → κ → Int) (l r : List α) : Prop := r.Perm (firstsP key l) ∧ r.Pairwise fun x y => ltOf cf (key y) (key x) = false
theorem MgP.uniq [DecidableEq κ] {key : α → κ} {cf : κ → κ → Int} (tri : ∀ a b, ltOf cf a b = false → ltOf cf b a = false → a = b) {l r r' : List α} (h : MgP key cf l r) (h' : MgP key cf l r') : r = r' := by
  have hd := firstsP_nodup key l
  refine List.Perm.eq_of_pairwise (le := fun x y => ltOf cf (key y) (key x) = false) (fun x y hx hy h1 h2 => ?_) h.2 h'.2 (h.1.trans h'.1.symm)
  have hx' := h.1.mem_iff.1 hx
  have hy' := h'.1.mem_iff.1 hy
  have e := tri _ _ h2 h1
  obtain ⟨i, hi, ei⟩ := List.getElem_of_mem hx'
  obtain ⟨j, hj, ej⟩ := List.getElem_of_mem hy'
  rw [List.Nodup, List.pairwise_iff_getElem] at hd
  rcases Nat.lt_trichotomy i j with hlt | hlt | hlt
  · have := hd i j (by rw [List.length_map]; exact hi) (by rw [List.length_map]; exact hj) hlt
    rw [List.getElem_map, List.getElem_map, ei, ej] at this
    exact absurd e this
  · subst hlt; exact ei.symm.trans ej
  · have := hd j i (by rw [List.length_map]; exact hj) (by rw [List.length_map]; exact hi) hlt
    rw [List.getElem_map, List.getElem_map, ei, ej] at this
    exact absurd e.symm this
end
theorem cmpL_neg (a b : List UInt8) : cmpL a b < 0 ↔ Op.bytesLess a b = true := by
  unfold cmpL
  split
  · rename_i h
    simp [h]
  · rename_i h
    split <;> simp [h]
theorem cmpL_zero (a b : List UInt8) : cmpL a b = 0 ↔ a = b := by
  unfold cmpL
  split
  · rename_i h
    simp only [reduceCtorEq, false_iff]
    intro e
    subst e
    rw [bl_irrefl] at h
    cases h
  · split <;> simp_all
theorem ltS_eq (a b : List UInt8) : ltOf cmpL a b = Op.bytesLess a b := by
  unfold ltOf
  rw [Bool.eq_iff_iff, decide_eq_true_eq, cmpL_neg]
theorem ltS_tri (a b : List UInt8) (h1 : ltOf cmpL a b = false) (h2 : ltOf cmpL b a = false) : a = b := by
  rw [ltS_eq] at h1 h2
  exact bl_tri _ _ h1 h2
theorem swo_of {κ : Type} {lt : κ → κ → Bool} (irrefl : ∀ a, lt a a = false) (trans : ∀ a b c, lt a b = true → lt b c = true → lt a c = true) (tri : ∀ a b, lt a b = false → lt b a = false → a = b) {α : Type} (key : α → κ) : SWO fun x y => lt (key x) (key y) where
  irrefl x := irrefl _
  trans x y z h1 h2 := trans _ _ _ h1 h2
  ntrans x y z h1 h2 := by
    cases h : lt (key x) (key z) with
    | false => rfl
    | true =>
      exfalso
      cases h3 : lt (key y) (key x) with
      | true => rw [trans _ _ _ h3 h] at h2; cases h2
      | false =>
        have e := tri _ _ h1 h3
        rw [e, h2] at h
        cases h
theorem swoS {α : Type} (key : α → List UInt8) : SWO (ltOf fun x y => cmpL (key x) (key y)) := by
  have h : (ltOf fun x y => cmpL (key x) (key y)) = fun x y => Op.bytesLess (key x) (key y) := by
    funext x y
    exact ltS_eq _ _
  rw [h]
  exact swo_of bl_irrefl bl_trans bl_tri key
/-- Comparing pairs of strings. -/
def cmpQ (p q : PrP) : Int := if cmpL p.1 q.1 = 0 then cmpL p.2 q.2 else cmpL p.1 q.1
def ltQ (p q : PrP) : Bool := Op.bytesLess p.1 q.1 || (decide (p.1 = q.1) && Op.bytesLess p.2 q.2)
theorem ltQ_eq (p q : PrP) : ltOf cmpQ p q = ltQ p q := by
  unfold ltOf cmpQ ltQ
  rw [Bool.eq_iff_iff, decide_eq_true_eq, Bool.or_eq_true, Bool.and_eq_true, decide_eq_true_eq]
  by_cases h : p.1 = q.1
  · rw [if_pos ((cmpL_zero _ _).2 h), cmpL_neg, h, bl_irrefl]
    simp
  · rw [if_neg (fun e => h ((cmpL_zero _ _).1 e)), cmpL_neg]
    simp [h]
theorem ltQ_irrefl (x : PrP) : ltQ x x = false := by unfold ltQ; rw [bl_irrefl, bl_irrefl]; simp
theorem ltQ_trans (x y z : PrP) (h1 : ltQ x y = true) (h2 : ltQ y z = true) : ltQ x z = true := by
  unfold ltQ at *
  simp only [Bool.or_eq_true, Bool.and_eq_true, decide_eq_true_eq] at *
  rcases h1 with h1 | ⟨e1, h1⟩ <;> rcases h2 with h2 | ⟨e2, h2⟩
  · exact .inl (bl_trans _ _ _ h1 h2)
  · rw [← e2]; exact .inl h1
  · rw [e1]; exact .inl h2
  · exact .inr ⟨e1.trans e2, bl_trans _ _ _ h1 h2⟩
theorem ltQ_tri (x y : PrP) (h1 : ltQ x y = false) (h2 : ltQ y x = false) : x = y := by
  unfold ltQ at *
  simp only [Bool.or_eq_false_iff, Bool.and_eq_false_iff, decide_eq_false_iff_not] at *
  have e : x.1 = y.1 := bl_tri _ _ h1.1 h2.1
  refine Prod.ext e (bl_tri _ _ ?_ ?_)
  · rcases h1.2 with h | h
    · exact absurd e h
    · exact h
  · rcases h2.2 with h | h
    · exact absurd e.symm h
    · exact h
theorem ltQ_tri' (a b : PrP) (h1 : ltOf cmpQ a b = false) (h2 : ltOf cmpQ b a = false) : a = b := by
  rw [ltQ_eq] at h1 h2
  exact ltQ_tri _ _ h1 h2
theorem swoQ {α : Type} (key : α → PrP) : SWO (ltOf fun x y => cmpQ (key x) (key y)) := by
  have h : (ltOf fun x y => cmpQ (key x) (key y)) = fun x y => ltQ (key x) (key y) := by
    funext x y
    exact ltQ_eq _ _
  rw [h]
  exact swo_of ltQ_irrefl ltQ_trans ltQ_tri key
end Go.Proofs.YtdgppdiickmofaaGreatDoor
