/- Slices of strings: what it means that one holds a list of strings. -/
import Derived.Test.YtcdpmgdocgddcaaDoorBytes
namespace Go.Proofs.YtcdpmgdocgddcaaDoor
open Go.RowKit
set_option maxRecDepth 100000

/-- The slice value (A, m, _) holds the strings l. -/
structure SlS (w : World) (A : Option Addr) (m : Nat) (l : List ByteArray) : Prop where
  rd : Reads w w.heap.size 1 A m (l.map Value.string)
  len : m = l.length
  le : m ≤ 8796093022208
/-- The slice value (A, m, c) is the call's own and holds the strings l. -/
structure OsS (w : World) (base : Nat) (A : Option Addr) (m c : Nat) (l : List ByteArray) : Prop where
  own : w.ownsRow base 9 1 (.slice A m c) m (l.map Value.string)
  len : m = l.length
  le : m ≤ 8796093022208
theorem str_one (l : List ByteArray) : ∀ u ∈ l.map Value.string, u.oneCell' = true := by
  intro u hu
  obtain ⟨b, _, rfl⟩ := List.mem_map.1 hu
  rfl
section
variable {w w' : World} {A : Option Addr} {m c : Nat} {l : List ByteArray} {base : Nat}
theorem SlS.nil_ : SlS w none 0 [] := ⟨Reads.none_, rfl, by omega⟩
theorem SlS.ext (h : SlS w A m l) (hE : Ext w w') : SlS w' A m l := ⟨Reads.more (Reads.below h.rd hE) hE.size_le, h.len, h.le⟩
theorem SlS.at_ {k : Nat} (h : SlS w A m l) (hk : k < m) : ∃ b off, A = some ⟨b, off, none⟩ ∧ b < w.heap.size ∧ ∀ j (hj : j < l.length), w.cell? ⟨b, off + j, none⟩ = some (.string l[j]) := by
  have hl := h.len
  obtain ⟨⟨b, off, sp⟩, hA, hbl, hc⟩ := h.rd.2 (by omega)
  have h0 := hc 0 (Value.string l[0]) (by simp [List.getElem?_eq_getElem (show 0 < l.length by omega)])
  have hsp : sp = none := by
    cases sp with
    | none => rfl
    | some s =>
      simp only [Addr.add, if_pos, World.cell?] at h0
      split at h0
      · simp at h0
      · cases h0
  subst hsp
  refine ⟨b, off, hA, hbl, fun j hj => ?_⟩
  have := hc j (Value.string l[j]) (by simp [hj])
  rw [Addr.add_lit] at this
  exact this
theorem OsS.ge (h : OsS w base A m c l) : ∀ k, ob A = some k → base ≤ k := fun k hk => (World.ownsRow.lt h.own k (by rw [ob_own]; exact hk)).1
theorem OsS.lt (h : OsS w base A m c l) : ∀ k, ob A = some k → k < w.heap.size := fun k hk => (World.ownsRow.lt h.own k (by rw [ob_own]; exact hk)).2
theorem OsS.nil_ : OsS w base none 0 0 [] := ⟨World.ownsRow_nil _ _ _ _, rfl, by omega⟩
theorem OsS.ext (h : OsS w base A m c l) (hE : Ext w w') : OsS w' base A m c l := ⟨World.ownsRow.kept h.own (hE.grownBy none) (by rw [ob_own]; cases hv : ob A <;> simp), h.len, h.le⟩
theorem OsS.kept {row : Option Nat} (h : OsS w base A m c l) (hg : w.grownBy w' row) (hne : ob A = none ∨ ob A ≠ row) : OsS w' base A m c l := ⟨World.ownsRow.kept h.own hg (by rw [ob_own]; exact hne), h.len, h.le⟩
theorem OsS.sl (h : OsS w base A m c l) : SlS w A m l := ⟨Reads.of_own h.own, h.len, h.le⟩
end

theorem info_str : (Tryd.prog.info? 9).map (fun i => (i.zero, i.size, i.bytes)) = some (some (.string ⟨#[]⟩), 1, 16) := by kernel_rfl
/-- append(s, x...) on slices of strings: s is the call's own, x is read. -/
theorem wp_appSs {o : Oper} {a : Act} {K : Act → World → Prop} {Q : Exit → Act → World → Prop} {w : World} (s x : Operand)
    (ho : o.op = .call { callee := .builtin .append, args := #[s, x], argTypes := #[22, 22] })
    {base : Nat} {A : Option Addr} {m c : Nat} {l : List ByteArray} (hown : OsS w base A m c l) (hs : a.eval s = .slice A m c)
    {B : Option Addr} {n d : Nat} {news : List ByteArray} (hr : SlS w B n news) (hx : a.eval x = .slice B n d)
    (hb : m + n ≤ 8796093022208) (hbase : base ≤ w.heap.size)
    (h : ∀ A' m' c' w', OsS w' base A' m' c' (l ++ news) → w.grownBy w' (ob A) → NewOr w.heap.size (ob A) (ob A') →
      K (a.put o.dst (.slice A' m' c')) w') : o.wp Tryd.prog a w K Q := by
  obtain ⟨i0, hi0, hz0, hz1, hz2⟩ := info_parts info_str
  refine wp_append_any w s x _ ho base 9 i0 _ 1 16 Tryd.underlying22 hi0 hz0 hz1 hz2 rfl (by omega) _ m (l.map Value.string) hs hown.own _ B n d (news.map Value.string) hx hr.rd (str_one _) (by simp only [maxLen]; omega) (by omega) hbase ?_
  intro v' w' hown' hg hat
  have hv : ∃ A' c', v' = .slice A' (m + n) c' := by
    rcases hown'.2 with ⟨rfl, h0⟩ | ⟨g, cap, cur, rfl, _⟩
    · exact ⟨none, 0, by rw [h0]⟩
    · exact ⟨_, _, rfl⟩
  obtain ⟨A', c', rfl⟩ := hv
  rw [ob_own] at hg
  rw [ob_own, ob_own] at hat
  refine h A' (m + n) c' w' ⟨by rw [List.map_append]; exact hown', by rw [List.length_append, hown.len, hr.len], hb⟩ hg (fun k hk => ?_)
  rcases hat with h1 | h1
  · exact .inr (h1 ▸ hk)
  · rw [h1] at hk
    injection hk with hk
    exact .inl (by omega)
theorem appSs {ops : Array Oper} {rest : List Oper} {o : Oper} {a : Act} {Q : Exit → Act → World → Prop} {w : World} (hgd : Region.wanted o (yielded ops a.tmps) = true) (s x : Operand)
    (ho : o.op = .call { callee := .builtin .append, args := #[s, x], argTypes := #[22, 22] })
    {base : Nat} {A : Option Addr} {m c : Nat} {l : List ByteArray} (hown : OsS w base A m c l) (hs : a.eval s = .slice A m c)
    {B : Option Addr} {n d : Nat} {news : List ByteArray} (hr : SlS w B n news) (hx : a.eval x = .slice B n d)
    (hb : m + n ≤ 8796093022208) (hbase : base ≤ w.heap.size)
    (h : ∀ A' m' c' w', OsS w' base A' m' c' (l ++ news) → w.grownBy w' (ob A) → NewOr w.heap.size (ob A) (ob A') →
      wpList Tryd.prog ops Q rest (a.put o.dst (.slice A' m' c')) w') : wpList Tryd.prog ops Q (o :: rest) a w :=
  BigFrame.wpList_want hgd fun _ hK => wp_appSs s x ho hown hs hr hx hb hbase fun A' m' c' w' h1 h2 h3 => hK _ _ (h A' m' c' w' h1 h2 h3)
theorem step_appSs {ops : Array Oper} {o : Oper} {a : Act} {K : Act → World → Prop} {Q : Exit → Act → World → Prop} {E : Prop} {w : World} (hgd : Region.wanted o (yielded ops a.tmps) = true) (s x : Operand)
    (ho : o.op = .call { callee := .builtin .append, args := #[s, x], argTypes := #[22, 22] })
    {base : Nat} {A : Option Addr} {m c : Nat} {l : List ByteArray} (hown : OsS w base A m c l) (hs : a.eval s = .slice A m c)
    {B : Option Addr} {n d : Nat} {news : List ByteArray} (hr : SlS w B n news) (hx : a.eval x = .slice B n d)
    (hb : m + n ≤ 8796093022208) (hbase : base ≤ w.heap.size)
    (h : ∀ A' m' c' w', OsS w' base A' m' c' (l ++ news) → w.grownBy w' (ob A) → NewOr w.heap.size (ob A) (ob A') →
      K (a.put o.dst (.slice A' m' c')) w') : if Region.wanted o (yielded ops a.tmps) = true then Oper.wp Tryd.prog o a w K Q else E := by
  rw [if_pos hgd]
  exact wp_appSs s x ho hown hs hr hx hb hbase h
theorem SlS.new_ (w : World) (bs : List ByteArray) (hb : bs.length ≤ 8796093022208) (cs : Array Value) (hcs : cs = (bs.map Value.string).toArray) (fr : Nat × Nat := (0, 0)) (n : Nat) (hn : n = bs.length) (t : TypeId) :
    SlS (w.alloc (.cells cs t fr)) (some ⟨w.heap.size, 0, none⟩) n bs := by
  subst hcs
  subst hn
  refine ⟨⟨by simp, fun _ => ⟨_, rfl, by simp, fun j u hj => ?_⟩⟩, rfl, hb⟩
  rw [Addr.add_lit, Nat.zero_add, cell_of_row _ w.heap.size j _ t fr (heap_alloc_new w _)]
  simpa using hj
/-- append(s, x) of one string. -/
theorem appSs1 {ops : Array Oper} {rest : List Oper} {o : Oper} {a : Act} {Q : Exit → Act → World → Prop} {w : World} (hgd : Region.wanted o (yielded ops a.tmps) = true) (s x : Operand)
    (ho : o.op = .call { callee := .builtin .append, args := #[s, x], argTypes := #[22, 22] })
    {base : Nat} {A : Option Addr} {m c : Nat} {l : List ByteArray} (hown : OsS w base A m c l) (hs : a.eval s = .slice A m c) (t : ByteArray)
    (hx : a.eval x = .slice (some ⟨w.heap.size, 0, none⟩) 1 1)
    (hb : m + 1 ≤ 8796093022208) (hbase : base ≤ w.heap.size)
    (h : ∀ A' m' c' w', OsS w' base A' m' c' (l ++ [t]) → w.grownBy w' (ob A) → NewOr w.heap.size (ob A) (ob A') →
      wpList Tryd.prog ops Q rest (a.put o.dst (.slice A' m' c')) w') :
    wpList Tryd.prog ops Q (o :: rest) a (w.alloc (.cells #[.string t] 9)) := by
  refine appSs hgd s x ho (hown.ext ((Ext.refl w).alloc _)) hs (SlS.new_ w [t] (by simp) _ rfl (0, 0) 1 rfl _) hx hb (by simp; omega) ?_
  intro A' m' c' w' h1 h2 h3
  exact h A' m' c' w' h1 (grown_step ((Ext.refl w).alloc _ |>.grownBy _) h2 (NewOr.refl _ _)) (h3.mono (by simp))

end Go.Proofs.YtcdpmgdocgddcaaDoor

/- Same on two byte slices. -/
namespace Go.Proofs.YtcdpmgdocgddcaaDoor
open Go.RowKit

theorem take_snoc' {α : Type} (l : List α) (k : Nat) (h : k < l.length) : l.take (k + 1) = l.take k ++ [l[k]] := by
  rw [List.take_succ_eq_append_getElem h]

end Go.Proofs.YtcdpmgdocgddcaaDoor

/- SameStrings. -/
namespace Go.Proofs.YtcdpmgdocgddcaaDoor
open Go.RowKit

theorem toList_inj {s t : ByteArray} (h : s.toList = t.toList) : s = t := by
  rw [ByteArray.toList_eq, ByteArray.toList_eq] at h
  exact bys_inj h
set_option maxHeartbeats 400000 in
theorem same5 {A B : Option Addr} {n n' : Nat} (c d : Nat) {l m : List ByteArray} {w : World} (ha : SlS w A n l) (hb : SlS w B n' m) :
    Calls Tryd.prog 14 #[.slice A n c, .slice B n' d] w fun e w' => e = .returned (.bool (decide (l = m))) ∧ Ext w w' := by
  have HL1 := Lib.hid ha.len
  have HL2 := Lib.hid hb.len
  have hle := ha.le
  have hle' := hb.le
  by_cases hlen : n = n'
  · subst hlen
    go_enter Tryd.func14, Tryd.ntmps14
    go_wp2
    go_loopw [5] (fun i wr => ∃ k : Nat, k ≤ n ∧ i = .int .i64 k ∧ l.take k = m.take k ∧ Ext w wr) (fun i _ => n - (intOf i).toNat)
    case atStart => exact ⟨0, Nat.zero_le _, rfl, rfl, Ext.refl _⟩
    case round =>
      obtain ⟨k, hk, rfl, hp, hE⟩ := hrel
      have HP := Lib.hid hp; clear hp
      by_cases hlt : k < n
      · obtain ⟨b, off, rfl, _, hc⟩ := (ha.ext hE).at_ hlt
        obtain ⟨b', off', rfl, _, hc'⟩ := (hb.ext hE).at_ hlt
        have hlt1 : k < l.length := by rw [← HL1.out]; exact hlt
        have hlt2 : k < m.length := by rw [← HL2.out]; exact hlt
        obtain ⟨s, hs⟩ : ∃ s, s = l[k] := ⟨_, rfl⟩
        obtain ⟨t, ht⟩ : ∃ t, t = m[k] := ⟨_, rfl⟩
        have h1 := hc k hlt1
        have h2 := hc' k hlt2
        rw [← hs] at h1
        rw [← ht] at h2
        have hi1 : (k : Int) < (n : Int) := by omega
        have HS := Lib.hid hs
        have HT := Lib.hid ht
        clear hc hc' hs ht
        by_cases heq : s = t
        · have hbq : (s.toList == t.toList) = true := by simp [heq]
          have Heq := Lib.hid heq; clear heq
          go_wp2
          go_quiet (fail)
          go_wp2
          go_roundw
          case rel => exact ⟨k + 1, by omega, by go_num, by rw [take_snoc' _ _ hlt1, take_snoc' _ _ hlt2, HP.out, ← HS.out, ← HT.out, Heq.out], Ext.drewN hE _⟩
          case measure => simp [intOf]; omega
        · have hbq : (s.toList == t.toList) = false := by
            rw [beq_eq_false_iff_ne]
            exact fun hh => heq (toList_inj hh)
          have hfin : decide (l = m) = false := by
            simp only [decide_eq_false_iff_not]
            rintro rfl
            exact heq (HS.out.trans HT.out.symm)
          have Hf := Lib.hid hfin; clear hfin heq
          go_wp2
          go_quiet (fail)
          go_wp2
          go_ret
          exact ⟨by rw [Hf.out]; rfl, Ext.drewN hE _⟩
      · have hfin : decide (l = m) = true := by
          simp only [decide_eq_true_eq]
          have := HP.out
          rwa [List.take_of_length_le (by rw [← HL1.out]; omega), List.take_of_length_le (by rw [← HL2.out]; omega)] at this
        have Hf := Lib.hid hfin; clear hfin
        go_wp2
        go_ret
        exact ⟨by rw [Hf.out]; rfl, hE⟩
  · have hne : ((n : Int) != (n' : Int)) = true := by simp only [bne_iff_ne, ne_eq]; omega
    have hfin : decide (l = m) = false := by
      simp only [decide_eq_false_iff_not]
      rintro rfl
      exact hlen (HL1.out.trans HL2.out.symm)
    have Hf := Lib.hid hfin; clear hfin
    go_enter Tryd.func14, Tryd.ntmps14
    go_wp2
    go_ret
    exact ⟨by rw [Hf.out]; rfl, Ext.refl _⟩

end Go.Proofs.YtcdpmgdocgddcaaDoor
