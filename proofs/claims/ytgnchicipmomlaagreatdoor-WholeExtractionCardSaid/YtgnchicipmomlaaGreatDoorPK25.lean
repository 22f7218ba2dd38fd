/- Fields: found, set, dropped; plain. -/
import Derived.Test.YtgnchicipmomlaaGreatDoorPK13
import Derived.Test.YtgnchicipmomlaaGreatDoorPK20
import Derived.Test.YtgnchicipmomlaaGreatDoorPK15
namespace Go.Proofs.YtgnchicipmomlaaGreatDoor
set_option maxRecDepth 100000
/-- The index of the first field with p, or -1. -/
def IxZ (p : Fd → Bool) (l : List Fd) (z : Int) : Prop :=
  (z = -1 ∧ ∀ j (h : j < l.length), p l[j] = false) ∨ ∃ k : Nat, z = k ∧ ∃ h : k < l.length, p l[k] = true ∧ ∀ j (hj : j < k), p (l[j]'(by omega)) = false
theorem IxZ.uniq {p : Fd → Bool} {l : List Fd} {z z' : Int} (h : IxZ p l z) (h' : IxZ p l z') : z = z' := by
  rcases h with ⟨rfl, h⟩ | ⟨k, rfl, hk, h1, h2⟩ <;> rcases h' with ⟨rfl, h'⟩ | ⟨k', rfl, hk', h1', h2'⟩
  · rfl
  · have := h k' hk'; rw [h1'] at this; cases this
  · have := h' k hk; rw [h1] at this; cases this
  · rcases Nat.lt_trichotomy k k' with h9 | h9 | h9
    · have := h2' k h9; rw [h1] at this; cases this
    · rw [h9]
    · have := h2 k' h9; rw [h1'] at this; cases this
theorem IxZ.lt {p : Fd → Bool} {l : List Fd} {k : Nat} (h : IxZ p l k) : k < l.length := by
  rcases h with ⟨h, _⟩ | ⟨j, h, hj, _⟩ <;> omega
theorem IxZ.at_ {p : Fd → Bool} {l : List Fd} {k : Nat} (h : IxZ p l k) (hk : k < l.length) : p l[k] = true := by
  rcases h with ⟨h, _⟩ | ⟨j, h, hj, h1, _⟩
  · omega
  · have e : k = j := by omega
    subst e
    exact h1
theorem IxZ.none_ {p : Fd → Bool} {l : List Fd} (h : IxZ p l (-1)) : ∀ f ∈ l, p f = false := by
  rcases h with ⟨_, h⟩ | ⟨k, h, _⟩
  · intro f hf
    obtain ⟨i, hi, rfl⟩ := List.getElem_of_mem hf
    exact h i hi
  · omega
theorem IxZ.of_none {p : Fd → Bool} {l : List Fd} (h : ∀ f ∈ l, p f = false) : IxZ p l (-1) := .inl ⟨rfl, fun _ hj => h _ (List.getElem_mem hj)⟩
def fdIs (n : ByteArray) (f : Fd) : Bool := decide (f.1 = n)
def fdGt (n : ByteArray) (f : Fd) : Bool := bO n f.1
/-- What Field returns. -/
def FldR (l : List Fd) (n : ByteArray) (o : Option ByteArray) : Prop :=
  (IxZ (fdIs n) l (-1) ∧ o = none) ∨ ∃ k : Nat, IxZ (fdIs n) l k ∧ ∃ h : k < l.length, o = some l[k].2
def FldV (o : Option ByteArray) : Value := .tuple #[.string (o.getD ⟨#[]⟩), .bool o.isSome]
theorem FldR.uniq {l : List Fd} {n : ByteArray} {o o' : Option ByteArray} (h : FldR l n o) (h' : FldR l n o') : o = o' := by
  rcases h with ⟨h, rfl⟩ | ⟨k, h, hk, rfl⟩ <;> rcases h' with ⟨h', rfl⟩ | ⟨k', h', hk', rfl⟩
  · rfl
  · have := h.uniq h'; omega
  · have := h.uniq h'; omega
  · have e : k = k' := by have := h.uniq h'; omega
    subst e
    rfl
/-- The index at which a new field goes in. -/
def GtAt (n : ByteArray) (l : List Fd) (i : Nat) : Prop := i ≤ l.length ∧ (∀ j (_ : j < i) (h : j < l.length), fdGt n l[j] = false) ∧ ∀ h : i < l.length, fdGt n l[i] = true
theorem GtAt.uniq {n : ByteArray} {l : List Fd} {i j : Nat} (h : GtAt n l i) (h' : GtAt n l j) : i = j := by
  obtain ⟨h1, h2, h3⟩ := h
  obtain ⟨i1, i2, i3⟩ := h'
  rcases Nat.lt_trichotomy i j with h9 | h9 | h9
  · have a := i2 i h9 (by omega); rw [h3 (by omega)] at a; cases a
  · exact h9
  · have a := h2 j h9 (by omega); rw [i3 (by omega)] at a; cases a
/-- What SetField returns. -/
def SetR (l : List Fd) (n v : ByteArray) (l' : List Fd) : Prop :=
  (∃ k : Nat, IxZ (fdIs n) l k ∧ l' = l.set k (n, v)) ∨ (IxZ (fdIs n) l (-1) ∧ ∃ i, GtAt n l i ∧ l' = l.take i ++ [(n, v)] ++ l.drop i)
theorem SetR.uniq {l : List Fd} {n v : ByteArray} {a b : List Fd} (h : SetR l n v a) (h' : SetR l n v b) : a = b := by
  rcases h with ⟨k, h, rfl⟩ | ⟨h, i, hi, rfl⟩ <;> rcases h' with ⟨k', h', rfl⟩ | ⟨h', i', hi', rfl⟩
  · have e : k = k' := by have := h.uniq h'; omega
    rw [e]
  · have := h.uniq h'; omega
  · have := h.uniq h'; omega
  · rw [hi.uniq hi']
theorem SetR.len {l : List Fd} {n v : ByteArray} {a : List Fd} (h : SetR l n v a) : a.length ≤ l.length + 1 := by
  rcases h with ⟨k, h, rfl⟩ | ⟨h, i, ⟨hi, _⟩, rfl⟩
  · rw [List.length_set]; omega
  · simp only [List.length_append, List.length_take, List.length_drop, List.length_cons, List.length_nil]; omega
theorem fdOk_iff {l : List Fd} : FdOk l ↔ (∀ f ∈ l, nameL (bys f.1) = true ∧ textL (bys f.2) = true) ∧ (l.map Prod.fst).Pairwise fun a b => bO a b = true := by
  constructor
  · intro h
    refine ⟨fun f hf => ?_, ?_⟩
    · obtain ⟨i, hi, rfl⟩ := List.getElem_of_mem hf
      exact ⟨(h i hi).1, (h i hi).2.1⟩
    · rw [List.pairwise_iff_getElem]
      have key : ∀ d i, ∀ h : i + d + 1 < l.length, bO (l[i]'(by omega)).1 (l[i + d + 1]).1 = true := by
        intro d
        induction d with
        | zero => intro i hi; exact (h (i + 1) hi).2.2 (by omega)
        | succ d ih =>
          intro i hi
          have h1 := ih i (by omega)
          have h2 := (h (i + (d + 1) + 1) hi).2.2 (by omega)
          exact bO_trans h1 h2
      intro i j hi hj hij
      rw [List.length_map] at hi hj
      rw [List.getElem_map, List.getElem_map]
      obtain ⟨d, rfl⟩ : ∃ d, j = i + d + 1 := ⟨j - i - 1, by omega⟩
      exact key d i hj
  · rintro ⟨h1, h2⟩ i hi
    rw [List.pairwise_iff_getElem] at h2
    have a := h1 _ (List.getElem_mem hi)
    refine ⟨a.1, a.2, fun h0 => ?_⟩
    have b := h2 (i - 1) i (by rw [List.length_map]; omega) (by rw [List.length_map]; exact hi) (by omega)
    rwa [List.getElem_map, List.getElem_map] at b
theorem fieldsP_iff {l : List Fd} : fieldsP l = true ↔ FdOk l ∧ l.length ≤ 20 := by
  unfold fieldsP
  simp only [Bool.and_eq_true, decide_eq_true_eq]
theorem fdIs_iff {n : ByteArray} {f : Fd} : fdIs n f = true ↔ f.1 = n := by unfold fdIs; exact decide_eq_true_iff
theorem fdIs_not {n : ByteArray} {f : Fd} : fdIs n f = false ↔ f.1 ≠ n := by unfold fdIs; exact decide_eq_false_iff_not
end Go.Proofs.YtgnchicipmomlaaGreatDoor

/- The index of a field; the value of a field. -/
namespace Go.Proofs.YtgnchicipmomlaaGreatDoor
open Go.RowKit
set_option maxRecDepth 100000
section
variable {w : World}
set_option maxHeartbeats 400000 in
theorem isFd_any (x : Fd) (n : ByteArray) {gb : Nat} (hb : w.cell? ⟨gb, 0, none⟩ = some (.string n)) :
    Calls Tryz.prog 91 #[.agg #[.string x.1, .string x.2], .pointer (some ⟨gb, 0, none⟩)] w fun e w' => e = .returned (.bool (fdIs n x)) ∧ Ext w w' := by
  have hlt := World.block_lt_of_cell? w _ hb
  obtain ⟨a, b⟩ := x
  dsimp only at *
  by_cases h : a = n
  · have hbq : (a.toList == n.toList) = true := by rw [h]; simp
    have HF : Hid (fdIs n (a, b) = true) := fdIs_iff.2 h
    clear h
    go_enter Tryz.func91, Tryz.ntmps91
    go_wp2
    go_ret
    exact ⟨by rw [HF.out]; first | done | rfl, (Ext.refl w).alloc _⟩
  · have hbq : (a.toList == n.toList) = false := by
      rw [beq_eq_false_iff_ne]
      exact fun e => h (toList_iff.1 e)
    have HF : Hid (fdIs n (a, b) = false) := fdIs_not.2 h
    clear h
    go_enter Tryz.func91, Tryz.ntmps91
    go_wp2
    go_ret
    exact ⟨by rw [HF.out]; first | done | rfl, (Ext.refl w).alloc _⟩
set_option maxHeartbeats 400000 in
theorem gtFd_any (x : Fd) (n : ByteArray) {gb : Nat} (hb : w.cell? ⟨gb, 0, none⟩ = some (.string n)) :
    Calls Tryz.prog 58 #[.agg #[.string x.1, .string x.2], .pointer (some ⟨gb, 0, none⟩)] w fun e w' => e = .returned (.bool (fdGt n x)) ∧ Ext w w' := by
  have hlt := World.block_lt_of_cell? w _ hb
  obtain ⟨a, b⟩ := x
  dsimp only at *
  have HF : Hid (fdGt n (a, b) = (!Op.bytesLess a.toList n.toList && !a.toList == n.toList)) := by
    show bO n a = _
    have h9 := congrArg Bool.not (le_not a n)
    rw [Bool.not_not, Bool.not_or] at h9
    exact h9.symm
  go_enter Tryz.func58, Tryz.ntmps58
  go_wp2
  go_ret
  exact ⟨by rw [HF.out]; first | done | rfl, (Ext.refl w).alloc _⟩

set_option maxHeartbeats 3200000 in
theorem idxIs_any {A : Option Addr} {m c : Nat} {l : List Fd} (hs : SlC fdC 2 w A m l) (n : ByteArray) {gb : Nat} (hb : w.cell? ⟨gb, 0, none⟩ = some (.string n)) :
    Calls Tryz.prog 57 #[.slice A m c, .func (.func 91) #[] #[.pointer (some ⟨gb, 0, none⟩)]] w fun e w' => RetZ (IxZ (fdIs n) l) e ∧ Ext w w' := by
  have HL := Lib.hid hs.len
  have hle := hs.le
  have HBC := Lib.hid hb
  clear hb
  go_enter Tryz.func57, Tryz.ntmps57
  go_wp2
  go_loopw [5, 8] (fun _ i wr => ∃ q : Nat, q ≤ m ∧ i = .int .i64 q ∧ Ext w wr ∧ Hid (∀ j (_ : j < q) (h : j < l.length), fdIs n l[j] = false)) (fun _ i _ => m - (intOf i).toNat)
  case atStart => exact ⟨0, Nat.zero_le _, rfl, Ext.refl _, fun j hj _ => absurd hj (by omega)⟩
  case round =>
    obtain ⟨q, hq, rfl, hE, HC⟩ := hrel
    by_cases hlt : q < m
    · obtain ⟨b, off, e0, hbl, hcs⟩ := (hs.ext hE).at_ hlt (by omega)
      subst e0
      have hlt1 : q < l.length := by rw [← HL.out]; exact hlt
      obtain ⟨y, hyq⟩ : ∃ y, y = l[q] := ⟨_, rfl⟩
      have y0 := hcs q hlt1 0 (by omega)
      have y1 := hcs q hlt1 1 (by omega)
      simp only [← hyq, fdC, List.getElem_cons_zero, List.getElem_cons_succ, Nat.add_zero, ← Nat.add_assoc] at y0 y1
      have hi1 : (q : Int) < (m : Int) := by omega
      have HY := Lib.hid hyq
      clear hcs hyq
      go_wp2_with (first
        | (go_at_call 91; refine Hid.out ?_))
      refine Hid.mk_ ((isFd_any y n (later hE HBC.out)).mono ?_)
      rintro e w2 ⟨rfl, hE2⟩
      cases hp : fdIs n y with
      | true =>
        have HF : Hid (IxZ (fdIs n) l (q : Int)) := .inr ⟨q, rfl, hlt1, by rw [← HY.out]; exact hp, fun j hj => HC.out j hj (by omega)⟩
        clear hp
        go_wp2
        go_ret
        exact ⟨⟨_, rfl, HF.out⟩, hE.trans hE2⟩
      | false =>
        have HN : Hid (∀ j (_ : j < q + 1) (h : j < l.length), fdIs n l[j] = false) := fun j hj h => by
          rcases Nat.lt_or_ge j q with h2 | h2
          · exact HC.out j h2 h
          · obtain rfl : j = q := by omega
            rw [← HY.out]; exact hp
        clear hp
        go_wp2
        go_roundw
        case rel => exact ⟨q + 1, by omega, by go_num, hE.trans hE2, HN⟩
        case measure => simp [intOf]; omega
    · have hi1 : ¬ (q : Int) < (m : Int) := by omega
      have HF : Hid (IxZ (fdIs n) l (-1)) := .inl ⟨rfl, fun j hj => HC.out j (by have := HL.out; omega) hj⟩
      go_wp2
      go_ret
      exact ⟨⟨_, rfl, HF.out⟩, hE⟩
set_option maxHeartbeats 3200000 in
theorem idxGt_any {A : Option Addr} {m c : Nat} {l : List Fd} (hs : SlC fdC 2 w A m l) (n : ByteArray) {gb : Nat} (hb : w.cell? ⟨gb, 0, none⟩ = some (.string n)) :
    Calls Tryz.prog 57 #[.slice A m c, .func (.func 58) #[] #[.pointer (some ⟨gb, 0, none⟩)]] w fun e w' => RetZ (IxZ (fdGt n) l) e ∧ Ext w w' := by
  have HL := Lib.hid hs.len
  have hle := hs.le
  have HBC := Lib.hid hb
  clear hb
  go_enter Tryz.func57, Tryz.ntmps57
  go_wp2
  go_loopw [5, 8] (fun _ i wr => ∃ q : Nat, q ≤ m ∧ i = .int .i64 q ∧ Ext w wr ∧ Hid (∀ j (_ : j < q) (h : j < l.length), fdGt n l[j] = false)) (fun _ i _ => m - (intOf i).toNat)
  case atStart => exact ⟨0, Nat.zero_le _, rfl, Ext.refl _, fun j hj _ => absurd hj (by omega)⟩
  case round =>
    obtain ⟨q, hq, rfl, hE, HC⟩ := hrel
    by_cases hlt : q < m
    · obtain ⟨b, off, e0, hbl, hcs⟩ := (hs.ext hE).at_ hlt (by omega)
      subst e0
      have hlt1 : q < l.length := by rw [← HL.out]; exact hlt
      obtain ⟨y, hyq⟩ : ∃ y, y = l[q] := ⟨_, rfl⟩
      have y0 := hcs q hlt1 0 (by omega)
      have y1 := hcs q hlt1 1 (by omega)
      simp only [← hyq, fdC, List.getElem_cons_zero, List.getElem_cons_succ, Nat.add_zero, ← Nat.add_assoc] at y0 y1
      have hi1 : (q : Int) < (m : Int) := by omega
      have HY := Lib.hid hyq
      clear hcs hyq
      go_wp2_with (first
        | (go_at_call 58; refine Hid.out ?_))
      refine Hid.mk_ ((gtFd_any y n (later hE HBC.out)).mono ?_)
      rintro e w2 ⟨rfl, hE2⟩
      cases hp : fdGt n y with
      | true =>
        have HF : Hid (IxZ (fdGt n) l (q : Int)) := .inr ⟨q, rfl, hlt1, by rw [← HY.out]; exact hp, fun j hj => HC.out j hj (by omega)⟩
        clear hp
        go_wp2
        go_ret
        exact ⟨⟨_, rfl, HF.out⟩, hE.trans hE2⟩
      | false =>
        have HN : Hid (∀ j (_ : j < q + 1) (h : j < l.length), fdGt n l[j] = false) := fun j hj h => by
          rcases Nat.lt_or_ge j q with h2 | h2
          · exact HC.out j h2 h
          · obtain rfl : j = q := by omega
            rw [← HY.out]; exact hp
        clear hp
        go_wp2
        go_roundw
        case rel => exact ⟨q + 1, by omega, by go_num, hE.trans hE2, HN⟩
        case measure => simp [intOf]; omega
    · have hi1 : ¬ (q : Int) < (m : Int) := by omega
      have HF : Hid (IxZ (fdGt n) l (-1)) := .inl ⟨rfl, fun j hj => HC.out j (by have := HL.out; omega) hj⟩
      go_wp2
      go_ret
      exact ⟨⟨_, rfl, HF.out⟩, hE⟩

set_option maxHeartbeats 800000 in
theorem place_any {A : Option Addr} {m c : Nat} {l : List Fd} (hs : SlC fdC 2 w A m l) (n : ByteArray) :
    Calls Tryz.prog 56 #[.slice A m c, .string n] w fun e w' => RetZ (IxZ (fdIs n) l) e ∧ Ext w w' := by
  have hEa : Ext w (w.alloc (Obj.cells #[.string n] 9)) := (Ext.refl w).alloc _
  have hb := Blk.new w 9 #[.string n]
  go_enter Tryz.func56, Tryz.ntmps56
  go_wp2_with (first
    | (go_at_call 57; refine Hid.out ?_))
  refine Hid.mk_ ((idxIs_any (hs.ext hEa) n (hb.cell 0)).mono ?_)
  rintro e w2 ⟨⟨z, rfl, hz⟩, hE2⟩
  have HZ := Lib.hid hz
  clear hz
  go_wp2
  go_ret
  exact ⟨⟨z, rfl, HZ.out⟩, hEa.trans hE2⟩

set_option maxHeartbeats 800000 in
theorem pfield_any {A : Option Addr} {m c : Nat} {l : List Fd} (hs : SlC fdC 2 w A m l) (n : ByteArray) :
    Calls Tryz.prog 29 #[.slice A m c, .string n] w fun e w' => (∃ o, FldR l n o ∧ e = .returned (FldV o)) ∧ Ext w w' := by
  have HL := Lib.hid hs.len
  have hle := hs.le
  go_enter Tryz.func29, Tryz.ntmps29
  go_wp2_with (first
    | (go_at_call 56; refine Hid.out ?_))
  refine Hid.mk_ ((place_any hs n).mono ?_)
  rintro e w2 ⟨⟨z, rfl, hz⟩, hE2⟩
  have HZ := Lib.hid hz
  rcases hz with ⟨rfl, _⟩ | ⟨k, rfl, hk, _⟩
  · go_wp2
    go_ret2
    exact ⟨⟨none, .inl ⟨HZ.out, rfl⟩, rfl⟩, hE2⟩
  · have hlt : k < m := by rw [HL.out]; exact hk
    obtain ⟨b, off, e0, hbl, hcs⟩ := (hs.ext hE2).at_ hlt (by omega)
    subst e0
    obtain ⟨y, hyq⟩ : ∃ y, y = l[k] := ⟨_, rfl⟩
    have y0 := hcs k hk 0 (by omega)
    have y1 := hcs k hk 1 (by omega)
    simp only [← hyq, fdC, List.getElem_cons_zero, List.getElem_cons_succ, Nat.add_zero, ← Nat.add_assoc] at y0 y1
    have hi1 : (k : Int) < (m : Int) := by omega
    have HY : Hid (some y.2 = some (l[k]'hk).2) := by rw [hyq]; rfl
    clear hcs hyq hs
    go_wp2
    go_ret2
    exact ⟨⟨some y.2, .inr ⟨k, HZ.out, hk, HY.out⟩, rfl⟩, hE2⟩

end
end Go.Proofs.YtgnchicipmomlaaGreatDoor
