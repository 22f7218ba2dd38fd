/- Byte slices: what it means that a slice holds a list of bytes; appending, cloning. -/
import Derived.Test.YtcdpmgdocgddcaaDoorMem
namespace Go.Proofs.YtcdpmgdocgddcaaDoor
open Go.RowKit
set_option maxRecDepth 100000

/-- The block in which a slice lies. -/
def ob (A : Option Addr) : Option Nat := A.map Addr.block
theorem ob_own (A : Option Addr) (n c : Nat) : (Value.slice A n c).ownBlock = ob A := by cases A <;> rfl

/-- A byte as a cell's value. -/
def bv (b : UInt8) : Value := .int .u8 (b.toNat : Int)
theorem bv_one (l : List UInt8) : ∀ u ∈ l.map bv, u.oneCell' = true := by
  intro u hu
  obtain ⟨b, _, rfl⟩ := List.mem_map.1 hu
  rfl

/-- The slice value (A, m, _) holds the bytes l. -/
structure SlB (w : World) (A : Option Addr) (m : Nat) (l : List UInt8) : Prop where
  rd : Reads w w.heap.size 1 A m (l.map bv)
  len : m = l.length
  le : m ≤ 140737488355328
/-- The slice value (A, m, c) is the call's own and holds the bytes l. -/
structure OsB (w : World) (base : Nat) (A : Option Addr) (m c : Nat) (l : List UInt8) : Prop where
  own : w.ownsRow base 5 1 (.slice A m c) m (l.map bv)
  len : m = l.length
  le : m ≤ 140737488355328

section
variable {w w' : World} {A : Option Addr} {m c : Nat} {l : List UInt8} {base : Nat}
theorem SlB.nil_ : SlB w none 0 [] := ⟨Reads.none_, rfl, by omega⟩
theorem SlB.ext (h : SlB w A m l) (hE : Ext w w') : SlB w' A m l := ⟨Reads.more (Reads.below h.rd hE) hE.size_le, h.len, h.le⟩
theorem SlB.kept {r : Option Nat} (h : SlB w A m l) (hg : w.grownBy w' r) (h2 : ob A = none ∨ ob A ≠ r) : SlB w' A m l := by
  refine ⟨⟨h.rd.1, fun hn => ?_⟩, h.len, h.le⟩
  obtain ⟨ad, e, hb, hc⟩ := h.rd.2 hn
  refine ⟨ad, e, Nat.lt_of_lt_of_le hb hg.size, fun j u hu => ?_⟩
  have hne : some (ad.add j).block ≠ r := by
    rw [block_of_add]
    subst e
    rcases h2 with h2 | h2
    · cases h2
    · exact h2
  exact hg.cell (hc j u hu) hne
theorem SlB.at_ {k : Nat} (h : SlB w A m l) (hk : k < m) : ∃ b off, A = some ⟨b, off, none⟩ ∧ b < w.heap.size ∧ ∀ j (hj : j < l.length), w.cell? ⟨b, off + j, none⟩ = some (.int .u8 (l[j].toNat : Int)) := by
  have hl := h.len
  obtain ⟨⟨b, off, sp⟩, hA, hbl, hc⟩ := h.rd.2 (by omega)
  have h0 := hc 0 (bv l[0]) (by simp [List.getElem?_eq_getElem (show 0 < l.length by omega)])
  have hsp : sp = none := by
    cases sp with
    | none => rfl
    | some s =>
      simp only [Addr.add, if_pos, World.cell?] at h0
      split at h0
      · simp at h0
      · cases h0
  subst hsp
  refine ⟨b, off, hA, hbl, fun j hj => ?_⟩
  have := hc j (bv l[j]) (by simp [hj])
  rw [Addr.add_lit] at this
  exact this
/-- A cut s[i:j] reads as the cut of the list. -/
theorem SlB.cut (h : SlB w A m l) {i j cap : Nat} (hij : i ≤ j) (hj : j ≤ m) (hc : m ≤ cap) :
    SlB w (if cap = i then A else A.map (·.add i)) (j - i) ((l.take j).drop i) := by
  have hl := h.len
  have h1 := Reads.cut h.rd (k := i) (cap := cap) (by omega) hc
  refine ⟨⟨by simp; omega, fun hn => ?_⟩, by simp; omega, by have := h.le; omega⟩
  obtain ⟨ad, e, hb, hcell⟩ := h1.2 (by omega)
  refine ⟨ad, by simpa using e, hb, fun k u hu => ?_⟩
  refine hcell k u ?_
  rw [← hu]
  have hk : k < j - i := by
    have : k < ((l.take j).drop i).length := by
      rcases Nat.lt_or_ge k ((l.take j).drop i).length with h2 | h2
      · exact h2
      · rw [List.getElem?_eq_none (by simpa using h2)] at hu; cases hu
    simp at this
    omega
  simp [List.getElem?_drop, List.getElem?_map, show i + k < j by omega]
theorem OsB.ge (h : OsB w base A m c l) : ∀ k, ob A = some k → base ≤ k := fun k hk => (World.ownsRow.lt h.own k (by rw [ob_own]; exact hk)).1
theorem OsB.lt (h : OsB w base A m c l) : ∀ k, ob A = some k → k < w.heap.size := fun k hk => (World.ownsRow.lt h.own k (by rw [ob_own]; exact hk)).2
theorem OsB.nil_ : OsB w base none 0 0 [] := ⟨World.ownsRow_nil _ _ _ _, rfl, by omega⟩
theorem OsB.ext (h : OsB w base A m c l) (hE : Ext w w') : OsB w' base A m c l := ⟨World.ownsRow.kept h.own (hE.grownBy none) (by rw [ob_own]; cases hv : ob A <;> simp), h.len, h.le⟩
theorem OsB.kept {row : Option Nat} (h : OsB w base A m c l) (hg : w.grownBy w' row) (hne : ob A = none ∨ ob A ≠ row) : OsB w' base A m c l := ⟨World.ownsRow.kept h.own hg (by rw [ob_own]; exact hne), h.len, h.le⟩
theorem OsB.sl (h : OsB w base A m c l) : SlB w A m l := ⟨Reads.of_own h.own, h.len, h.le⟩
theorem OsB.mono {base' : Nat} (h : OsB w base A m c l) (hb : base' ≤ base) : OsB w base' A m c l := by
  refine ⟨⟨h.own.1, ?_⟩, h.len, h.le⟩
  rcases h.own.2 with hn | ⟨g, cap, cur, hv, hg, r⟩
  · exact .inl hn
  · exact .inr ⟨g, cap, cur, hv, by omega, r⟩
theorem OsB.cap (h : OsB w base A m c l) : m ≤ c := by
  rcases h.own.2 with ⟨hv, h0⟩ | ⟨g, cap, cur, hv, _, _, hn, _⟩
  · injection hv with _ h1 h2
    omega
  · injection hv with _ _ h2
    omega
end

theorem info_u8 : (Tryd.prog.info? 5).map (fun i => (i.zero, i.size, i.bytes)) = some (some (.int .u8 0), 1, 1) := by kernel_rfl
theorem eql_nil_u8 (w : World) (A : Option Addr) (n c n' c' : Nat) : (binOp .eql 103 (.slice A n c) (.slice none n' c')).run Tryd.prog w = .ok (.bool A.isNone) w :=
  Lib.run_eql_slice_nil w _ 5 A n c n' c' Tryd.underlying103
attribute [local go_sem] eql_nil_u8

/-- append(s, x...) on byte slices: s is the call's own, x is read. -/
theorem wp_appB {o : Oper} {a : Act} {K : Act → World → Prop} {Q : Exit → Act → World → Prop} {w : World} (s x : Operand)
    (ho : o.op = .call { callee := .builtin .append, args := #[s, x], argTypes := #[103, 103] })
    {base : Nat} {A : Option Addr} {m c : Nat} {l : List UInt8} (hown : OsB w base A m c l) (hs : a.eval s = .slice A m c)
    {B : Option Addr} {n d : Nat} {news : List UInt8} (hr : SlB w B n news) (hx : a.eval x = .slice B n d)
    (hb : m + n ≤ 140737488355328) (hbase : base ≤ w.heap.size)
    (h : ∀ A' m' c' w', OsB w' base A' m' c' (l ++ news) → w.grownBy w' (ob A) → NewOr w.heap.size (ob A) (ob A') →
      K (a.put o.dst (.slice A' m' c')) w') : o.wp Tryd.prog a w K Q := by
  obtain ⟨i0, hi0, hz0, hz1, hz2⟩ := info_parts info_u8
  refine wp_append_any w s x _ ho base 5 i0 _ 1 1 Tryd.underlying103 hi0 hz0 hz1 hz2 rfl (by omega) _ m (l.map bv) hs hown.own _ B n d (news.map bv) hx hr.rd (bv_one _) (by simp only [maxLen]; omega) (by omega) hbase ?_
  intro v' w' hown' hg hat
  have hv : ∃ A' c', v' = .slice A' (m + n) c' := by
    rcases hown'.2 with ⟨rfl, h0⟩ | ⟨g, cap, cur, rfl, _⟩
    · exact ⟨none, 0, by rw [h0]⟩
    · exact ⟨_, _, rfl⟩
  obtain ⟨A', c', rfl⟩ := hv
  rw [ob_own] at hg
  rw [ob_own, ob_own] at hat
  refine h A' (m + n) c' w' ⟨by rw [List.map_append]; exact hown', by rw [List.length_append, hown.len, hr.len], hb⟩ hg (fun k hk => ?_)
  rcases hat with h1 | h1
  · exact .inr (h1 ▸ hk)
  · rw [h1] at hk
    injection hk with hk
    exact .inl (by omega)
theorem appB {ops : Array Oper} {rest : List Oper} {o : Oper} {a : Act} {Q : Exit → Act → World → Prop} {w : World} (hgd : Region.wanted o (yielded ops a.tmps) = true) (s x : Operand)
    (ho : o.op = .call { callee := .builtin .append, args := #[s, x], argTypes := #[103, 103] })
    {base : Nat} {A : Option Addr} {m c : Nat} {l : List UInt8} (hown : OsB w base A m c l) (hs : a.eval s = .slice A m c)
    {B : Option Addr} {n d : Nat} {news : List UInt8} (hr : SlB w B n news) (hx : a.eval x = .slice B n d)
    (hb : m + n ≤ 140737488355328) (hbase : base ≤ w.heap.size)
    (h : ∀ A' m' c' w', OsB w' base A' m' c' (l ++ news) → w.grownBy w' (ob A) → NewOr w.heap.size (ob A) (ob A') →
      wpList Tryd.prog ops Q rest (a.put o.dst (.slice A' m' c')) w') : wpList Tryd.prog ops Q (o :: rest) a w :=
  BigFrame.wpList_want hgd fun _ hK => wp_appB s x ho hown hs hr hx hb hbase fun A' m' c' w' h1 h2 h3 => hK _ _ (h A' m' c' w' h1 h2 h3)
theorem step_appB {ops : Array Oper} {o : Oper} {a : Act} {K : Act → World → Prop} {Q : Exit → Act → World → Prop} {E : Prop} {w : World} (hgd : Region.wanted o (yielded ops a.tmps) = true) (s x : Operand)
    (ho : o.op = .call { callee := .builtin .append, args := #[s, x], argTypes := #[103, 103] })
    {base : Nat} {A : Option Addr} {m c : Nat} {l : List UInt8} (hown : OsB w base A m c l) (hs : a.eval s = .slice A m c)
    {B : Option Addr} {n d : Nat} {news : List UInt8} (hr : SlB w B n news) (hx : a.eval x = .slice B n d)
    (hb : m + n ≤ 140737488355328) (hbase : base ≤ w.heap.size)
    (h : ∀ A' m' c' w', OsB w' base A' m' c' (l ++ news) → w.grownBy w' (ob A) → NewOr w.heap.size (ob A) (ob A') →
      K (a.put o.dst (.slice A' m' c')) w') : if Region.wanted o (yielded ops a.tmps) = true then Oper.wp Tryd.prog o a w K Q else E := by
  rw [if_pos hgd]
  exact wp_appB s x ho hown hs hr hx hb hbase h
/-- The bytes of a new block. -/
theorem SlB.new_ (w : World) (bs : List UInt8) (hb : bs.length ≤ 140737488355328) (cs : Array Value) (hcs : cs = (bs.map bv).toArray) (fr : Nat × Nat := (0, 0)) (n : Nat) (hn : n = bs.length) (t : TypeId) :
    SlB (w.alloc (.cells cs t fr)) (some ⟨w.heap.size, 0, none⟩) n bs := by
  subst hcs
  subst hn
  refine ⟨⟨by simp, fun _ => ⟨_, rfl, by simp, fun j u hj => ?_⟩⟩, rfl, hb⟩
  rw [Addr.add_lit, Nat.zero_add, cell_of_row _ w.heap.size j _ t fr (heap_alloc_new w _)]
  simpa using hj
theorem OsB.new_ (w : World) (base : Nat) (hbase : base ≤ w.heap.size) (bs : List UInt8) (hb : bs.length ≤ 140737488355328) (cs : Array Value) (hcs : cs = (bs.map bv).toArray) (n : Nat) (hn : n = bs.length) :
    OsB (w.alloc (.cells cs 5)) base (some ⟨w.heap.size, 0, none⟩) n n bs := by
  subst hcs
  subst hn
  have h1 := World.ownsRow_lit (e := 5) (size := 1) w (bs.map bv).toArray bs.length hbase (by simp only [maxLen]; omega) (by simp)
  exact ⟨by simpa using h1, rfl, hb⟩
theorem OsB.new1 (w : World) (base : Nat) (hbase : base ≤ w.heap.size) (b : UInt8) {n : Int} (hn : n = b.toNat) :
    OsB (w.alloc (.cells #[.int .u8 n] 5)) base (some ⟨w.heap.size, 0, none⟩) 1 1 [b] := by
  subst hn
  exact OsB.new_ w base hbase [b] (by simp) _ rfl 1 rfl
/-- append(s, b) of one byte: it lies in a new block of one cell. -/
theorem appB1 {ops : Array Oper} {rest : List Oper} {o : Oper} {a : Act} {Q : Exit → Act → World → Prop} {w : World} (hgd : Region.wanted o (yielded ops a.tmps) = true) (s x : Operand)
    (ho : o.op = .call { callee := .builtin .append, args := #[s, x], argTypes := #[103, 103] })
    {base : Nat} {A : Option Addr} {m c : Nat} {l : List UInt8} (hown : OsB w base A m c l) (hs : a.eval s = .slice A m c) {n : Int} (b : UInt8) (hn : n = b.toNat)
    (hx : a.eval x = .slice (some ⟨w.heap.size, 0, none⟩) 1 1)
    (hb : m + 1 ≤ 140737488355328) (hbase : base ≤ w.heap.size)
    (h : ∀ A' m' c' w', OsB w' base A' m' c' (l ++ [b]) → w.grownBy w' (ob A) → NewOr w.heap.size (ob A) (ob A') →
      wpList Tryd.prog ops Q rest (a.put o.dst (.slice A' m' c')) w') :
    wpList Tryd.prog ops Q (o :: rest) a (w.alloc (.cells #[.int .u8 n] 5)) := by
  subst hn
  refine appB hgd s x ho (hown.ext ((Ext.refl w).alloc _)) hs (SlB.new_ w [b] (by simp) _ rfl (0, 0) 1 rfl _) hx hb (by simp; omega) ?_
  intro A' m' c' w' h1 h2 h3
  exact h A' m' c' w' h1 (grown_step ((Ext.refl w).alloc _ |>.grownBy _) h2 (NewOr.refl _ _)) (h3.mono (by simp))
theorem strCells_bv (s : ByteArray) : Lib.strCells s = s.data.toList.map bv := rfl
theorem size_toList (s : ByteArray) : s.size = s.data.toList.length := (Array.length_toList).symm
/-- append(b, s...) of a string's bytes onto a byte slice of the call's own. -/
theorem wp_appS {o : Oper} {a : Act} {K : Act → World → Prop} {Q : Exit → Act → World → Prop} {w : World} (s x : Operand)
    (ho : o.op = .call { callee := .builtin .append, args := #[s, x], argTypes := #[103, 9] })
    {base : Nat} {A : Option Addr} {m c : Nat} {l : List UInt8} (hown : OsB w base A m c l) (hs : a.eval s = .slice A m c)
    (t : ByteArray) (hx : a.eval x = .string t)
    (hb : m + t.size ≤ 140737488355328) (hbase : base ≤ w.heap.size)
    (h : ∀ A' m' c' w', OsB w' base A' m' c' (l ++ t.data.toList) → w.grownBy w' (ob A) → NewOr w.heap.size (ob A) (ob A') →
      K (a.put o.dst (.slice A' m' c')) w') : o.wp Tryd.prog a w K Q := by
  obtain ⟨i0, hi0, hz0, hz1, hz2⟩ := info_parts info_u8
  obtain ⟨v', w', hr, h2, h3, h4⟩ := run_append_str_at (P := Tryd.prog) w base 103 9 o.type 5 i0 Tryd.underlying103 Tryd.underlying9 hi0 hz0 hz1 hz2 _ m (l.map bv) hown.own t hb hbase
  have hv : ∃ A' c', v' = .slice A' (m + t.size) c' := by
    rcases h2.2 with ⟨rfl, h0⟩ | ⟨g, cap, cur, rfl, _⟩
    · exact ⟨none, 0, by rw [h0]⟩
    · exact ⟨_, _, rfl⟩
  obtain ⟨A', c', rfl⟩ := hv
  rw [ob_own] at h3
  rw [ob_own, ob_own] at h4
  have hfin := h A' (m + t.size) c' w' ⟨by rw [List.map_append]; exact h2, by rw [List.length_append, hown.len, size_toList], hb⟩ h3 h4
  unfold Oper.wp execOp
  simp only [ho, resolve, invoke, builtin, Sem.run_bind, Sem.run_pure, Result.andThen_ok, List.map_toArray, List.map_cons, List.map_nil, hs, hx, hr]
  exact hfin
theorem appS {ops : Array Oper} {rest : List Oper} {o : Oper} {a : Act} {Q : Exit → Act → World → Prop} {w : World} (hgd : Region.wanted o (yielded ops a.tmps) = true) (s x : Operand)
    (ho : o.op = .call { callee := .builtin .append, args := #[s, x], argTypes := #[103, 9] })
    {base : Nat} {A : Option Addr} {m c : Nat} {l : List UInt8} (hown : OsB w base A m c l) (hs : a.eval s = .slice A m c)
    (t : ByteArray) (hx : a.eval x = .string t)
    (hb : m + t.size ≤ 140737488355328) (hbase : base ≤ w.heap.size)
    (h : ∀ A' m' c' w', OsB w' base A' m' c' (l ++ t.data.toList) → w.grownBy w' (ob A) → NewOr w.heap.size (ob A) (ob A') →
      wpList Tryd.prog ops Q rest (a.put o.dst (.slice A' m' c')) w') : wpList Tryd.prog ops Q (o :: rest) a w :=
  BigFrame.wpList_want hgd fun _ hK => wp_appS s x ho hown hs t hx hb hbase fun A' m' c' w' h1 h2 h3 => hK _ _ (h A' m' c' w' h1 h2 h3)
theorem step_appS {ops : Array Oper} {o : Oper} {a : Act} {K : Act → World → Prop} {Q : Exit → Act → World → Prop} {E : Prop} {w : World} (hgd : Region.wanted o (yielded ops a.tmps) = true) (s x : Operand)
    (ho : o.op = .call { callee := .builtin .append, args := #[s, x], argTypes := #[103, 9] })
    {base : Nat} {A : Option Addr} {m c : Nat} {l : List UInt8} (hown : OsB w base A m c l) (hs : a.eval s = .slice A m c)
    (t : ByteArray) (hx : a.eval x = .string t)
    (hb : m + t.size ≤ 140737488355328) (hbase : base ≤ w.heap.size)
    (h : ∀ A' m' c' w', OsB w' base A' m' c' (l ++ t.data.toList) → w.grownBy w' (ob A) → NewOr w.heap.size (ob A) (ob A') →
      K (a.put o.dst (.slice A' m' c')) w') : if Region.wanted o (yielded ops a.tmps) = true then Oper.wp Tryd.prog o a w K Q else E := by
  rw [if_pos hgd]
  exact wp_appS s x ho hown hs t hx hb hbase h

/-- s[i:j]: one run equation, and what the cut holds. -/
theorem SlB.cast {w : World} {A : Option Addr} {m m' : Nat} {l : List UInt8} (h : SlB w A m l) (e : m = m') : SlB w A m' l := e ▸ h
theorem sliceAtB {W : World} {A : Option Addr} {m c : Nat} {lo hi : Option Value} {r : Result Value} (h : (Instr.slice 103 (.slice A m c) lo hi none).run Tryd.prog W = r) :
    (Instr.sliceAt 103 (.slice A m c) lo hi none).run Tryd.prog W = r ∧ (Instr.slice 103 (.slice A m c) lo hi none).run Tryd.prog W = r :=
  ⟨by rw [run_sliceAt_slice W _ _ _ _ _ Tryd.underlying103, h], h⟩
theorem cut_run {w : World} {A : Option Addr} {m c : Nat} {l : List UInt8} (h : SlB w A m l) {i j : Nat} (hij : i ≤ j) (hj : j ≤ m) (hc : m ≤ c) :
    ∃ A2, (∀ (W : World) (kl kh : IntKind) (a b : Int), a = i → b = j → (Instr.sliceAt 103 (.slice A m c) (some (.int kl a)) (some (.int kh b)) none).run Tryd.prog W = .ok (.slice A2 (j - i) (c - i)) W ∧
        (Instr.slice 103 (.slice A m c) (some (.int kl a)) (some (.int kh b)) none).run Tryd.prog W = .ok (.slice A2 (j - i) (c - i)) W) ∧
      (∀ (W : World) (kl : IntKind) (a : Int), a = i → j = m → (Instr.sliceAt 103 (.slice A m c) (some (.int kl a)) none none).run Tryd.prog W = .ok (.slice A2 (j - i) (c - i)) W ∧
        (Instr.slice 103 (.slice A m c) (some (.int kl a)) none none).run Tryd.prog W = .ok (.slice A2 (j - i) (c - i)) W) ∧
      (∀ (W : World) (kh : IntKind) (b : Int), i = 0 → b = j → (Instr.sliceAt 103 (.slice A m c) none (some (.int kh b)) none).run Tryd.prog W = .ok (.slice A2 (j - i) (c - i)) W ∧
        (Instr.slice 103 (.slice A m c) none (some (.int kh b)) none).run Tryd.prog W = .ok (.slice A2 (j - i) (c - i)) W) ∧
      SlB w A2 (j - i) ((l.take j).drop i) ∧ (ob A2 = none ∨ ob A2 = ob A) := by
  obtain ⟨i0, hi0, hz0, hz1, hz2⟩ := info_parts info_u8
  have e1 : (Tryd.prog.elem 103) = 5 := by kernel_rfl
  refine ⟨_, ?_, ?_, ?_, h.cut hij hj hc, ?_⟩
  · rintro W kl kh a b rfl rfl
    apply sliceAtB
    rw [run_slice_lh W _ _ _ _ Tryd.underlying103 _ _ _ _ (by omega) (by omega) (by omega), e1]
    simp [sizeOf, typeInfo, hi0, hz1, sliced]
  · rintro W kl a rfl rfl
    apply sliceAtB
    rw [run_slice_l W _ _ _ _ Tryd.underlying103 _ _ (by omega) (by omega), e1]
    simp [sizeOf, typeInfo, hi0, hz1, sliced]
  · rintro W kh b rfl rfl
    apply sliceAtB
    rw [run_slice_h W _ _ _ _ Tryd.underlying103 _ _ (by omega) (by omega), e1]
    simp [sizeOf, typeInfo, hi0, hz1, sliced]
  · split
    · exact .inr rfl
    · cases A with
      | none => exact .inl rfl
      | some a => right; simp [ob, block_of_add]

/-- A string of bytes, and a string's bytes. -/
def str (l : List UInt8) : ByteArray := ⟨l.toArray⟩
def bys (s : ByteArray) : List UInt8 := s.data.toList
theorem bys_len (s : ByteArray) : (bys s).length = s.size := (size_toList s).symm
theorem bys_str (l : List UInt8) : bys (str l) = l := by simp [bys, str]
theorem str_bys (s : ByteArray) : str (bys s) = s := by simp [bys, str]
theorem str_size (l : List UInt8) : (str l).size = l.length := by rw [← bys_len, bys_str]
theorem bys_inj {s t : ByteArray} (h : bys s = bys t) : s = t := by rw [← str_bys s, ← str_bys t, h]
/-- string(b). -/
theorem conv_str {w : World} {A : Option Addr} {m : Nat} {l : List UInt8} (h : SlB w A m l) (c : Nat) : (convert 103 9 (.slice A m c)).run Tryd.prog w = .ok (.string (str l)) w := by
  rcases Nat.eq_zero_or_pos m with h0 | h0
  · subst h0
    have hl : l = [] := List.eq_nil_of_length_eq_zero h.len.symm
    subst hl
    cases A with
    | none => exact run_convert_bytes_nil w _ _ Tryd.underlying103 Tryd.underlying5 0 c _ Tryd.underlying9
    | some a =>
      rw [run_convert_bytes_string w _ _ _ _ _ _ Tryd.underlying103 Tryd.underlying5 Tryd.underlying9]
      exact run_bytesToString w a 0 c [] (by simp [loadCells, loadCellsFrom])
  · obtain ⟨b, off, rfl, _, hc⟩ := h.at_ h0
    have h1 := run_convert_bytes_arg w 103 5 Tryd.underlying103 Tryd.underlying5 b off m c (l.map fun x => (x.toNat : Int)) (by simp [h.len]) (fun i hi => by
      have hi' : i < l.length := by rw [← h.len]; exact hi
      rw [hc i hi']
      simp [List.getD_eq_getElem?_getD, hi']) _ Tryd.underlying9
    rw [h1]
    congr 2
    apply bys_inj
    rw [bys_str]
    unfold bys
    rw [strOfNums_data, List.map_map]
    have e1 : ((fun n : Int => UInt8.ofNat n.toNat) ∘ fun x : UInt8 => (x.toNat : Int)) = id := by funext x; simp
    rw [e1, List.map_id]

end Go.Proofs.YtcdpmgdocgddcaaDoor
