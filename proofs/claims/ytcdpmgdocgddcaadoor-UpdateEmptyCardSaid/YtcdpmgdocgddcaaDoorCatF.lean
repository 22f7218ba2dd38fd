/- Fields: found, set, dropped; plain. -/
import Derived.Test.YtcdpmgdocgddcaaDoorCatP
import Derived.Test.YtcdpmgdocgddcaaDoorCatE
import Derived.Test.YtcdpmgdocgddcaaDoorCatV
namespace Go.Proofs.YtcdpmgdocgddcaaDoor
set_option maxRecDepth 100000
/-- The index of the first field with p, or -1. -/
def IxZ (p : Fd → Bool) (l : List Fd) (z : Int) : Prop :=
  (z = -1 ∧ ∀ j (h : j < l.length), p l[j] = false) ∨ ∃ k : Nat, z = k ∧ ∃ h : k < l.length, p l[k] = true ∧ ∀ j (hj : j < k), p (l[j]'(by omega)) = false
theorem IxZ.uniq {p : Fd → Bool} {l : List Fd} {z z' : Int} (h : IxZ p l z) (h' : IxZ p l z') : z = z' := by
  rcases h with ⟨rfl, h⟩ | ⟨k, rfl, hk, h1, h2⟩ <;> rcases h' with ⟨rfl, h'⟩ | ⟨k', rfl, hk', h1', h2'⟩
  · rfl
  · have := h k' hk'; rw [h1'] at this; cases this
  · have := h' k hk; rw [h1] at this; cases this
  · rcases Nat.lt_trichotomy k k' with h9 | h9 | h9
    · have := h2' k h9; rw [h1] at this; cases this
    · rw [h9]
    · have := h2 k' h9; rw [h1'] at this; cases this
theorem IxZ.lt {p : Fd → Bool} {l : List Fd} {k : Nat} (h : IxZ p l k) : k < l.length := by
  rcases h with ⟨h, _⟩ | ⟨j, h, hj, _⟩ <;> omega
theorem IxZ.at_ {p : Fd → Bool} {l : List Fd} {k : Nat} (h : IxZ p l k) (hk : k < l.length) : p l[k] = true := by
  rcases h with ⟨h, _⟩ | ⟨j, h, hj, h1, _⟩
  · omega
  · have e : k = j := by omega
    subst e
    exact h1
theorem IxZ.none_ {p : Fd → Bool} {l : List Fd} (h : IxZ p l (-1)) : ∀ f ∈ l, p f = false := by
  rcases h with ⟨_, h⟩ | ⟨k, h, _⟩
  · intro f hf
    obtain ⟨i, hi, rfl⟩ := List.getElem_of_mem hf
    exact h i hi
  · omega
theorem IxZ.of_none {p : Fd → Bool} {l : List Fd} (h : ∀ f ∈ l, p f = false) : IxZ p l (-1) := .inl ⟨rfl, fun _ hj => h _ (List.getElem_mem hj)⟩
def fdIs (n : ByteArray) (f : Fd) : Bool := decide (f.1 = n)
def fdGt (n : ByteArray) (f : Fd) : Bool := bO n f.1
/-- What Field returns. -/
def FldR (l : List Fd) (n : ByteArray) (o : Option ByteArray) : Prop :=
  (IxZ (fdIs n) l (-1) ∧ o = none) ∨ ∃ k : Nat, IxZ (fdIs n) l k ∧ ∃ h : k < l.length, o = some l[k].2
def FldV (o : Option ByteArray) : Value := .tuple #[.string (o.getD ⟨#[]⟩), .bool o.isSome]
theorem FldR.uniq {l : List Fd} {n : ByteArray} {o o' : Option ByteArray} (h : FldR l n o) (h' : FldR l n o') : o = o' := by
  rcases h with ⟨h, rfl⟩ | ⟨k, h, hk, rfl⟩ <;> rcases h' with ⟨h', rfl⟩ | ⟨k', h', hk', rfl⟩
  · rfl
  · have := h.uniq h'; omega
  · have := h.uniq h'; omega
  · have e : k = k' := by have := h.uniq h'; omega
    subst e
    rfl
/-- The index at which a new field goes in. -/
def GtAt (n : ByteArray) (l : List Fd) (i : Nat) : Prop := i ≤ l.length ∧ (∀ j (_ : j < i) (h : j < l.length), fdGt n l[j] = false) ∧ ∀ h : i < l.length, fdGt n l[i] = true
theorem GtAt.uniq {n : ByteArray} {l : List Fd} {i j : Nat} (h : GtAt n l i) (h' : GtAt n l j) : i = j := by
  obtain ⟨h1, h2, h3⟩ := h
  obtain ⟨i1, i2, i3⟩ := h'
  rcases Nat.lt_trichotomy i j with h9 | h9 | h9
  · have a := i2 i h9 (by omega); rw [h3 (by omega)] at a; cases a
  · exact h9
  · have a := h2 j h9 (by omega); rw [i3 (by omega)] at a; cases a
/-- What SetField returns. -/
def SetR (l : List Fd) (n v : ByteArray) (l' : List Fd) : Prop :=
  (∃ k : Nat, IxZ (fdIs n) l k ∧ l' = l.set k (n, v)) ∨ (IxZ (fdIs n) l (-1) ∧ ∃ i, GtAt n l i ∧ l' = l.take i ++ [(n, v)] ++ l.drop i)
theorem SetR.uniq {l : List Fd} {n v : ByteArray} {a b : List Fd} (h : SetR l n v a) (h' : SetR l n v b) : a = b := by
  rcases h with ⟨k, h, rfl⟩ | ⟨h, i, hi, rfl⟩ <;> rcases h' with ⟨k', h', rfl⟩ | ⟨h', i', hi', rfl⟩
  · have e : k = k' := by have := h.uniq h'; omega
    rw [e]
  · have := h.uniq h'; omega
  · have := h.uniq h'; omega
  · rw [hi.uniq hi']
theorem SetR.len {l : List Fd} {n v : ByteArray} {a : List Fd} (h : SetR l n v a) : a.length ≤ l.length + 1 := by
  rcases h with ⟨k, h, rfl⟩ | ⟨h, i, ⟨hi, _⟩, rfl⟩
  · rw [List.length_set]; omega
  · simp only [List.length_append, List.length_take, List.length_drop, List.length_cons, List.length_nil]; omega
/-- What DropField returns. -/
def dropFd (l : List Fd) (n : ByteArray) : List Fd := l.filter fun f => !fdIs n f

theorem fdOk_iff {l : List Fd} : FdOk l ↔ (∀ f ∈ l, nameL (bys f.1) = true ∧ textL (bys f.2) = true) ∧ (l.map Prod.fst).Pairwise fun a b => bO a b = true := by
  constructor
  · intro h
    refine ⟨fun f hf => ?_, ?_⟩
    · obtain ⟨i, hi, rfl⟩ := List.getElem_of_mem hf
      exact ⟨(h i hi).1, (h i hi).2.1⟩
    · rw [List.pairwise_iff_getElem]
      have key : ∀ d i, ∀ h : i + d + 1 < l.length, bO (l[i]'(by omega)).1 (l[i + d + 1]).1 = true := by
        intro d
        induction d with
        | zero => intro i hi; exact (h (i + 1) hi).2.2 (by omega)
        | succ d ih =>
          intro i hi
          have h1 := ih i (by omega)
          have h2 := (h (i + (d + 1) + 1) hi).2.2 (by omega)
          exact bO_trans h1 h2
      intro i j hi hj hij
      rw [List.length_map] at hi hj
      rw [List.getElem_map, List.getElem_map]
      obtain ⟨d, rfl⟩ : ∃ d, j = i + d + 1 := ⟨j - i - 1, by omega⟩
      exact key d i hj
  · rintro ⟨h1, h2⟩ i hi
    rw [List.pairwise_iff_getElem] at h2
    have a := h1 _ (List.getElem_mem hi)
    refine ⟨a.1, a.2, fun h0 => ?_⟩
    have b := h2 (i - 1) i (by rw [List.length_map]; omega) (by rw [List.length_map]; exact hi) (by omega)
    rwa [List.getElem_map, List.getElem_map] at b
theorem fieldsP_iff {l : List Fd} : fieldsP l = true ↔ FdOk l ∧ l.length ≤ 20 := by
  unfold fieldsP
  simp only [Bool.and_eq_true, decide_eq_true_eq]
theorem filter_set {α : Type} (p : α → Bool) (l : List α) (k : Nat) (hk : k < l.length) (x : α) (h1 : p l[k] = false) (h2 : p x = false) : (l.set k x).filter p = l.filter p := by
  have e1 : l = l.take k ++ l[k] :: l.drop (k + 1) := by rw [List.getElem_cons_drop, List.take_append_drop]
  have e2 : l.set k x = l.take k ++ x :: l.drop (k + 1) := by rw [List.set_eq_take_append_cons_drop, if_pos hk]
  have e3 : l.filter p = (l.take k ++ l[k] :: l.drop (k + 1)).filter p := congrArg _ e1
  rw [e2, e3, List.filter_append, List.filter_append, List.filter_cons_of_neg (by rw [h2]; simp), List.filter_cons_of_neg (by rw [h1]; simp)]
theorem set_fst {l : List Fd} {k : Nat} (hk : k < l.length) {n v : ByteArray} (h : l[k].1 = n) : (l.set k (n, v)).map Prod.fst = l.map Prod.fst := by
  rw [List.map_set]
  have := List.set_getElem_self («as» := l.map Prod.fst) (i := k) (by rw [List.length_map]; exact hk)
  rwa [List.getElem_map, h] at this
theorem fdIs_iff {n : ByteArray} {f : Fd} : fdIs n f = true ↔ f.1 = n := by unfold fdIs; exact decide_eq_true_iff
theorem fdIs_not {n : ByteArray} {f : Fd} : fdIs n f = false ↔ f.1 ≠ n := by unfold fdIs; exact decide_eq_false_iff_not
theorem dropFd_not (l : List Fd) (n : ByteArray) : ∀ f ∈ dropFd l n, fdIs n f = false := by
  intro f hf
  unfold dropFd at hf
  have := (List.mem_filter.1 hf).2
  simpa using this
theorem dropFd_ok {l : List Fd} (h : fieldsP l = true) (n : ByteArray) : fieldsP (dropFd l n) = true := by
  rw [fieldsP_iff, fdOk_iff] at h ⊢
  obtain ⟨⟨h1, h2⟩, h3⟩ := h
  have hs : List.Sublist (dropFd l n) l := List.filter_sublist
  exact ⟨⟨fun f hf => h1 f (hs.subset hf), h2.sublist (hs.map _)⟩, Nat.le_trans hs.length_le h3⟩
/-- What holds behind SetField at proper fields. -/
theorem SetR.sets {l a : List Fd} {n v : ByteArray} (h : SetR l n v a) (hl : fieldsP l = true) (h19 : l.length ≤ 19) (hn : nameL (bys n) = true) (hv : textL (bys v) = true) :
    fieldsP a = true ∧ FldR a n (some v) ∧ dropFd a n = dropFd l n := by
  have hlen := h.len
  rw [fieldsP_iff, fdOk_iff] at hl
  obtain ⟨⟨h1, h2⟩, h3⟩ := hl
  have hnn : fdIs n (n, v) = true := fdIs_iff.2 rfl
  rcases h with ⟨k, hk, rfl⟩ | ⟨hno, i, ⟨hi, hi2, hi3⟩, rfl⟩
  · have hlt := hk.lt
    have hat := fdIs_iff.1 (hk.at_ hlt)
    refine ⟨?_, ?_, ?_⟩
    · rw [fieldsP_iff, fdOk_iff]
      refine ⟨⟨fun f hf => ?_, by rw [set_fst hlt hat]; exact h2⟩, by rw [List.length_set]; exact h3⟩
      rcases List.mem_or_eq_of_mem_set hf with h9 | h9
      · exact h1 f h9
      · rw [h9]; exact ⟨hn, hv⟩
    · have hl' : k < (l.set k (n, v)).length := by rw [List.length_set]; exact hlt
      refine .inr ⟨k, .inr ⟨k, rfl, hl', by rw [List.getElem_set_self]; exact hnn, fun j hj => ?_⟩, hl', by rw [List.getElem_set_self]⟩
      rw [List.getElem_set_ne (by omega)]
      rcases hk with ⟨h9, _⟩ | ⟨q, h9, _, _, h8⟩
      · omega
      · exact h8 j (by omega)
    · unfold dropFd
      exact filter_set _ l k hlt _ (by rw [fdIs_iff.2 hat]; rfl) (by rw [hnn]; rfl)
  · have hno' := hno.none_
    have hlo : ∀ f ∈ l.take i, bO f.1 n = true := by
      intro f hf
      obtain ⟨j, hj, rfl⟩ := List.getElem_of_mem hf
      rw [List.length_take] at hj
      rw [List.getElem_take]
      have a : bO n l[j].1 = false := hi2 j (by omega) (by omega)
      have b := fdIs_not.1 (hno' l[j] (List.getElem_mem _))
      cases hc : bO l[j].1 n with
      | true => rfl
      | false => exact absurd (bO_tri hc a) b
    have hhi : ∀ f ∈ l.drop i, bO n f.1 = true := by
      intro f hf
      obtain ⟨j, hj, rfl⟩ := List.getElem_of_mem hf
      rw [List.length_drop] at hj
      rw [List.getElem_drop]
      have a : bO n l[i].1 = true := hi3 (by omega)
      rcases Nat.eq_zero_or_pos j with h0 | h0
      · subst h0; exact a
      · rw [List.pairwise_iff_getElem] at h2
        have b := h2 i (i + j) (by rw [List.length_map]; omega) (by rw [List.length_map]; omega) (by omega)
        rw [List.getElem_map, List.getElem_map] at b
        exact bO_trans a b
    have hsplit : (l.map Prod.fst) = (l.take i).map Prod.fst ++ (l.drop i).map Prod.fst := by rw [← List.map_append, List.take_append_drop]
    rw [hsplit, List.pairwise_append] at h2
    refine ⟨?_, ?_, ?_⟩
    · rw [fieldsP_iff, fdOk_iff]
      refine ⟨⟨fun f hf => ?_, ?_⟩, by omega⟩
      · rcases List.mem_append.1 hf with h9 | h9
        · rcases List.mem_append.1 h9 with h9 | h9
          · exact h1 f (List.mem_of_mem_take h9)
          · rw [List.mem_singleton] at h9; rw [h9]; exact ⟨hn, hv⟩
        · exact h1 f (List.mem_of_mem_drop h9)
      · rw [List.map_append, List.map_append, List.pairwise_append, List.pairwise_append]
        refine ⟨⟨h2.1, by simp, fun a ha b hb => ?_⟩, h2.2.1, fun a ha b hb => ?_⟩
        · obtain ⟨f, hf, rfl⟩ := List.mem_map.1 ha
          simp only [List.map_cons, List.map_nil, List.mem_singleton] at hb
          rw [hb]; exact hlo f hf
        · obtain ⟨f, hf, rfl⟩ := List.mem_map.1 hb
          rcases List.mem_append.1 ha with h9 | h9
          · exact h2.2.2 a h9 f.1 (List.mem_map.2 ⟨f, hf, rfl⟩)
          · simp only [List.map_cons, List.map_nil, List.mem_singleton] at h9
            rw [h9]; exact hhi f hf
    · have hti : (l.take i).length = i := by rw [List.length_take]; omega
      have hget : ∀ h, (l.take i ++ [(n, v)] ++ l.drop i)[i]'h = (n, v) := fun h => by
        rw [List.getElem_append_left (by simp only [List.length_append, List.length_cons, List.length_nil]; omega), List.getElem_append_right (by omega)]
        simp [hti]
      have hlt : i < (l.take i ++ [(n, v)] ++ l.drop i).length := by simp only [List.length_append, List.length_cons, List.length_nil]; omega
      refine .inr ⟨i, .inr ⟨i, rfl, hlt, by rw [hget]; exact hnn, fun j hj => ?_⟩, hlt, by rw [hget]⟩
      rw [List.getElem_append_left (by simp only [List.length_append, List.length_cons, List.length_nil]; omega), List.getElem_append_left (by omega)]
      exact hno' _ (List.mem_of_mem_take (List.getElem_mem _))
    · unfold dropFd
      rw [List.filter_append, List.filter_append]
      have e : [(n, v)].filter (fun f => !fdIs n f) = [] := by simp [hnn]
      rw [e, List.append_nil, ← List.filter_append, List.take_append_drop]
theorem fldR_dropped (l : List Fd) (n : ByteArray) : FldR (dropFd l n) n none := .inl ⟨IxZ.of_none (dropFd_not l n), rfl⟩
end Go.Proofs.YtcdpmgdocgddcaaDoor

/- The index of a field; the value of a field. -/
namespace Go.Proofs.YtcdpmgdocgddcaaDoor
open Go.RowKit
set_option maxRecDepth 100000
section
variable {w : World}
set_option maxHeartbeats 400000 in
theorem isFd_any (x : Fd) (n : ByteArray) {gb : Nat} (hb : w.cell? ⟨gb, 0, none⟩ = some (.string n)) :
    Calls Tryd.prog 82 #[.agg #[.string x.1, .string x.2], .pointer (some ⟨gb, 0, none⟩)] w fun e w' => e = .returned (.bool (fdIs n x)) ∧ Ext w w' := by
  have hlt := World.block_lt_of_cell? w _ hb
  obtain ⟨a, b⟩ := x
  dsimp only at *
  by_cases h : a = n
  · have hbq : (a.toList == n.toList) = true := by rw [h]; simp
    have HF : Hid (fdIs n (a, b) = true) := fdIs_iff.2 h
    clear h
    go_enter Tryd.func82, Tryd.ntmps82
    go_wp2
    go_ret
    exact ⟨by rw [HF.out]; first | done | rfl, (Ext.refl w).alloc _⟩
  · have hbq : (a.toList == n.toList) = false := by
      rw [beq_eq_false_iff_ne]
      exact fun e => h (toList_iff.1 e)
    have HF : Hid (fdIs n (a, b) = false) := fdIs_not.2 h
    clear h
    go_enter Tryd.func82, Tryd.ntmps82
    go_wp2
    go_ret
    exact ⟨by rw [HF.out]; first | done | rfl, (Ext.refl w).alloc _⟩
set_option maxHeartbeats 400000 in
theorem gtFd_any (x : Fd) (n : ByteArray) {gb : Nat} (hb : w.cell? ⟨gb, 0, none⟩ = some (.string n)) :
    Calls Tryd.prog 68 #[.agg #[.string x.1, .string x.2], .pointer (some ⟨gb, 0, none⟩)] w fun e w' => e = .returned (.bool (fdGt n x)) ∧ Ext w w' := by
  have hlt := World.block_lt_of_cell? w _ hb
  obtain ⟨a, b⟩ := x
  dsimp only at *
  have HF : Hid (fdGt n (a, b) = (!Op.bytesLess a.toList n.toList && !a.toList == n.toList)) := by
    show bO n a = _
    have h9 := congrArg Bool.not (le_not a n)
    rw [Bool.not_not, Bool.not_or] at h9
    exact h9.symm
  go_enter Tryd.func68, Tryd.ntmps68
  go_wp2
  go_ret
  exact ⟨by rw [HF.out]; first | done | rfl, (Ext.refl w).alloc _⟩

set_option maxHeartbeats 3200000 in
theorem idxIs_any {A : Option Addr} {m c : Nat} {l : List Fd} (hs : SlC fdC 2 w A m l) (n : ByteArray) {gb : Nat} (hb : w.cell? ⟨gb, 0, none⟩ = some (.string n)) :
    Calls Tryd.prog 67 #[.slice A m c, .func (.func 82) #[] #[.pointer (some ⟨gb, 0, none⟩)]] w fun e w' => RetZ (IxZ (fdIs n) l) e ∧ Ext w w' := by
  have HL := Lib.hid hs.len
  have hle := hs.le
  have HBC := Lib.hid hb
  clear hb
  go_enter Tryd.func67, Tryd.ntmps67
  go_wp2
  go_loopw [5, 8] (fun _ i wr => ∃ q : Nat, q ≤ m ∧ i = .int .i64 q ∧ Ext w wr ∧ Hid (∀ j (_ : j < q) (h : j < l.length), fdIs n l[j] = false)) (fun _ i _ => m - (intOf i).toNat)
  case atStart => exact ⟨0, Nat.zero_le _, rfl, Ext.refl _, fun j hj _ => absurd hj (by omega)⟩
  case round =>
    obtain ⟨q, hq, rfl, hE, HC⟩ := hrel
    by_cases hlt : q < m
    · obtain ⟨b, off, e0, hbl, hcs⟩ := (hs.ext hE).at_ hlt (by omega)
      subst e0
      have hlt1 : q < l.length := by rw [← HL.out]; exact hlt
      obtain ⟨y, hyq⟩ : ∃ y, y = l[q] := ⟨_, rfl⟩
      have y0 := hcs q hlt1 0 (by omega)
      have y1 := hcs q hlt1 1 (by omega)
      simp only [← hyq, fdC, List.getElem_cons_zero, List.getElem_cons_succ, Nat.add_zero, ← Nat.add_assoc] at y0 y1
      have hi1 : (q : Int) < (m : Int) := by omega
      have HY := Lib.hid hyq
      clear hcs hyq
      go_wp2_with (first
        | (go_at_call 82; refine Hid.out ?_))
      refine Hid.mk_ ((isFd_any y n (later hE HBC.out)).mono ?_)
      rintro e w2 ⟨rfl, hE2⟩
      cases hp : fdIs n y with
      | true =>
        have HF : Hid (IxZ (fdIs n) l (q : Int)) := .inr ⟨q, rfl, hlt1, by rw [← HY.out]; exact hp, fun j hj => HC.out j hj (by omega)⟩
        clear hp
        go_wp2
        go_ret
        exact ⟨⟨_, rfl, HF.out⟩, hE.trans hE2⟩
      | false =>
        have HN : Hid (∀ j (_ : j < q + 1) (h : j < l.length), fdIs n l[j] = false) := fun j hj h => by
          rcases Nat.lt_or_ge j q with h2 | h2
          · exact HC.out j h2 h
          · obtain rfl : j = q := by omega
            rw [← HY.out]; exact hp
        clear hp
        go_wp2
        go_roundw
        case rel => exact ⟨q + 1, by omega, by go_num, hE.trans hE2, HN⟩
        case measure => simp [intOf]; omega
    · have hi1 : ¬ (q : Int) < (m : Int) := by omega
      have HF : Hid (IxZ (fdIs n) l (-1)) := .inl ⟨rfl, fun j hj => HC.out j (by have := HL.out; omega) hj⟩
      go_wp2
      go_ret
      exact ⟨⟨_, rfl, HF.out⟩, hE⟩
set_option maxHeartbeats 3200000 in
theorem idxGt_any {A : Option Addr} {m c : Nat} {l : List Fd} (hs : SlC fdC 2 w A m l) (n : ByteArray) {gb : Nat} (hb : w.cell? ⟨gb, 0, none⟩ = some (.string n)) :
    Calls Tryd.prog 67 #[.slice A m c, .func (.func 68) #[] #[.pointer (some ⟨gb, 0, none⟩)]] w fun e w' => RetZ (IxZ (fdGt n) l) e ∧ Ext w w' := by
  have HL := Lib.hid hs.len
  have hle := hs.le
  have HBC := Lib.hid hb
  clear hb
  go_enter Tryd.func67, Tryd.ntmps67
  go_wp2
  go_loopw [5, 8] (fun _ i wr => ∃ q : Nat, q ≤ m ∧ i = .int .i64 q ∧ Ext w wr ∧ Hid (∀ j (_ : j < q) (h : j < l.length), fdGt n l[j] = false)) (fun _ i _ => m - (intOf i).toNat)
  case atStart => exact ⟨0, Nat.zero_le _, rfl, Ext.refl _, fun j hj _ => absurd hj (by omega)⟩
  case round =>
    obtain ⟨q, hq, rfl, hE, HC⟩ := hrel
    by_cases hlt : q < m
    · obtain ⟨b, off, e0, hbl, hcs⟩ := (hs.ext hE).at_ hlt (by omega)
      subst e0
      have hlt1 : q < l.length := by rw [← HL.out]; exact hlt
      obtain ⟨y, hyq⟩ : ∃ y, y = l[q] := ⟨_, rfl⟩
      have y0 := hcs q hlt1 0 (by omega)
      have y1 := hcs q hlt1 1 (by omega)
      simp only [← hyq, fdC, List.getElem_cons_zero, List.getElem_cons_succ, Nat.add_zero, ← Nat.add_assoc] at y0 y1
      have hi1 : (q : Int) < (m : Int) := by omega
      have HY := Lib.hid hyq
      clear hcs hyq
      go_wp2_with (first
        | (go_at_call 68; refine Hid.out ?_))
      refine Hid.mk_ ((gtFd_any y n (later hE HBC.out)).mono ?_)
      rintro e w2 ⟨rfl, hE2⟩
      cases hp : fdGt n y with
      | true =>
        have HF : Hid (IxZ (fdGt n) l (q : Int)) := .inr ⟨q, rfl, hlt1, by rw [← HY.out]; exact hp, fun j hj => HC.out j hj (by omega)⟩
        clear hp
        go_wp2
        go_ret
        exact ⟨⟨_, rfl, HF.out⟩, hE.trans hE2⟩
      | false =>
        have HN : Hid (∀ j (_ : j < q + 1) (h : j < l.length), fdGt n l[j] = false) := fun j hj h => by
          rcases Nat.lt_or_ge j q with h2 | h2
          · exact HC.out j h2 h
          · obtain rfl : j = q := by omega
            rw [← HY.out]; exact hp
        clear hp
        go_wp2
        go_roundw
        case rel => exact ⟨q + 1, by omega, by go_num, hE.trans hE2, HN⟩
        case measure => simp [intOf]; omega
    · have hi1 : ¬ (q : Int) < (m : Int) := by omega
      have HF : Hid (IxZ (fdGt n) l (-1)) := .inl ⟨rfl, fun j hj => HC.out j (by have := HL.out; omega) hj⟩
      go_wp2
      go_ret
      exact ⟨⟨_, rfl, HF.out⟩, hE⟩

set_option maxHeartbeats 800000 in
theorem place_any {A : Option Addr} {m c : Nat} {l : List Fd} (hs : SlC fdC 2 w A m l) (n : ByteArray) :
    Calls Tryd.prog 66 #[.slice A m c, .string n] w fun e w' => RetZ (IxZ (fdIs n) l) e ∧ Ext w w' := by
  have hEa : Ext w (w.alloc (Obj.cells #[.string n] 9)) := (Ext.refl w).alloc _
  have hb := Blk.new w 9 #[.string n]
  go_enter Tryd.func66, Tryd.ntmps66
  go_wp2_with (first
    | (go_at_call 67; refine Hid.out ?_))
  refine Hid.mk_ ((idxIs_any (hs.ext hEa) n (hb.cell 0)).mono ?_)
  rintro e w2 ⟨⟨z, rfl, hz⟩, hE2⟩
  have HZ := Lib.hid hz
  clear hz
  go_wp2
  go_ret
  exact ⟨⟨z, rfl, HZ.out⟩, hEa.trans hE2⟩

set_option maxHeartbeats 800000 in
theorem pfield_any {A : Option Addr} {m c : Nat} {l : List Fd} (hs : SlC fdC 2 w A m l) (n : ByteArray) :
    Calls Tryd.prog 45 #[.slice A m c, .string n] w fun e w' => (∃ o, FldR l n o ∧ e = .returned (FldV o)) ∧ Ext w w' := by
  have HL := Lib.hid hs.len
  have hle := hs.le
  go_enter Tryd.func45, Tryd.ntmps45
  go_wp2_with (first
    | (go_at_call 66; refine Hid.out ?_))
  refine Hid.mk_ ((place_any hs n).mono ?_)
  rintro e w2 ⟨⟨z, rfl, hz⟩, hE2⟩
  have HZ := Lib.hid hz
  rcases hz with ⟨rfl, _⟩ | ⟨k, rfl, hk, _⟩
  · go_wp2
    go_ret2
    exact ⟨⟨none, .inl ⟨HZ.out, rfl⟩, rfl⟩, hE2⟩
  · have hlt : k < m := by rw [HL.out]; exact hk
    obtain ⟨b, off, e0, hbl, hcs⟩ := (hs.ext hE2).at_ hlt (by omega)
    subst e0
    obtain ⟨y, hyq⟩ : ∃ y, y = l[k] := ⟨_, rfl⟩
    have y0 := hcs k hk 0 (by omega)
    have y1 := hcs k hk 1 (by omega)
    simp only [← hyq, fdC, List.getElem_cons_zero, List.getElem_cons_succ, Nat.add_zero, ← Nat.add_assoc] at y0 y1
    have hi1 : (k : Int) < (m : Int) := by omega
    have HY : Hid (some y.2 = some (l[k]'hk).2) := by rw [hyq]; rfl
    clear hcs hyq hs
    go_wp2
    go_ret2
    exact ⟨⟨some y.2, .inr ⟨k, HZ.out, hk, HY.out⟩, rfl⟩, hE2⟩

set_option maxHeartbeats 1600000 in
theorem rfield_any {A : Option Addr} {m c : Nat} {l : List Fd} (hs : SlC fdC 2 w A m l) (n : ByteArray) :
    Calls Tryd.prog 11 #[.slice A m c, .string n] w fun e w' => (∃ o, FldR l n o ∧ e = .returned (FldV o)) ∧ Ext w w' := by
  have HL := Lib.hid hs.len
  have hle := hs.le
  go_enter Tryd.func11, Tryd.ntmps11
  go_wp2
  go_loopw [6] (fun i wr => ∃ q : Nat, q ≤ m ∧ i = .int .i64 q ∧ Ext w wr ∧ Hid (∀ j (_ : j < q) (h : j < l.length), fdIs n l[j] = false)) (fun i _ => m - (intOf i).toNat)
  case atStart => exact ⟨0, Nat.zero_le _, rfl, Ext.refl _, fun j hj _ => absurd hj (by omega)⟩
  case round =>
    obtain ⟨q, hq, rfl, hE, HC⟩ := hrel
    by_cases hlt : q < m
    · obtain ⟨b, off, e0, hbl, hcs⟩ := (hs.ext hE).at_ hlt (by omega)
      subst e0
      have hlt1 : q < l.length := by rw [← HL.out]; exact hlt
      obtain ⟨y, hyq⟩ : ∃ y, y = l[q] := ⟨_, rfl⟩
      have y0 := hcs q hlt1 0 (by omega)
      have y1 := hcs q hlt1 1 (by omega)
      simp only [← hyq, fdC, List.getElem_cons_zero, List.getElem_cons_succ, Nat.add_zero, ← Nat.add_assoc] at y0 y1
      have hi1 : (q : Int) < (m : Int) := by omega
      have HY := Lib.hid hyq
      clear hcs hyq
      by_cases hp : y.1 = n
      · have hbq : (y.1.toList == n.toList) = true := by rw [hp]; simp
        have HF : Hid (FldR l n (some y.2)) := .inr ⟨q, .inr ⟨q, rfl, hlt1, by rw [← HY.out]; exact fdIs_iff.2 hp, fun j hj => HC.out j hj (by omega)⟩, hlt1, by rw [← HY.out]⟩
        clear hp
        go_wp2
        go_ret2
        exact ⟨⟨_, HF.out, rfl⟩, hE⟩
      · have hbq : (y.1.toList == n.toList) = false := by
          rw [beq_eq_false_iff_ne]
          exact fun e => hp (toList_iff.1 e)
        have HN : Hid (∀ j (_ : j < q + 1) (h : j < l.length), fdIs n l[j] = false) := fun j hj h => by
          rcases Nat.lt_or_ge j q with h2 | h2
          · exact HC.out j h2 h
          · obtain rfl : j = q := by omega
            rw [← HY.out]; exact fdIs_not.2 hp
        clear hp
        go_wp2
        go_roundw
        case rel => exact ⟨q + 1, by omega, by go_num, hE, HN⟩
        case measure => simp [intOf]; omega
    · have hi1 : ¬ (q : Int) < (m : Int) := by omega
      have HF : Hid (FldR l n none) := .inl ⟨.inl ⟨rfl, fun j hj => HC.out j (by have := HL.out; omega) hj⟩, rfl⟩
      go_wp2
      go_ret2
      exact ⟨⟨none, HF.out, rfl⟩, hE⟩
end
end Go.Proofs.YtcdpmgdocgddcaaDoor
