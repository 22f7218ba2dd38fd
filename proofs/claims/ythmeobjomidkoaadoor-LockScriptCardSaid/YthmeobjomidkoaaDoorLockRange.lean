/- Ranging over the map of locks. -/
import Derived.Test.YthmeobjomidkoaaDoorLockHeld
import Derived.Maps.RangeWalk
namespace Go.Proofs.YthmeobjomidkoaaDoor
open Go.RowKit Go.Maps
set_option maxRecDepth 100000

theorem lits_str {m : Nat} {x : Value} {l : List Lit} (h : Tryd.prog.keyLits m 9 [x] = some l) : ∃ s : ByteArray, x = .string s ∧ s.size ≤ maxLen := by
  cases m with
  | zero => cases h
  | succ m =>
    rw [Program.keyLits.eq_def] at h
    simp only [Tryd.underlying9] at h
    cases x <;> simp at h
    exact ⟨_, rfl, h.1⟩
theorem key_inv {v : Value} {kl : Lit} (h : keyOf Tryd.prog 61 v = some kl) : ∃ a b : ByteArray, v = keyV a b ∧ a.size ≤ maxLen ∧ b.size ≤ maxLen := by
  obtain ⟨n, hn⟩ : ∃ n, Tryd.prog.types.size = n + 1 := ⟨Tryd.prog.types.size - 1, by have := rowM; omega⟩
  have h2 : Tryd.prog.cellsOf 61 = 2 := by kernel_rfl
  have h3 : Tryd.prog.cellsOf 9 = 1 := by kernel_rfl
  unfold keyOf at h
  rw [Tryd.underlying61] at h
  simp only at h
  split at h
  · rename_i hc
    rw [Bool.and_eq_true] at hc
    have hf := hc.2
    cases v <;> simp [Value.formed, Tryd.underlying61] at hf
    rename_i cs
    rw [h2] at hf
    obtain ⟨l⟩ := cs
    match l, hf with
    | [x, y], _ =>
      rw [hn, Program.keyLits.eq_def] at h
      simp only [Tryd.underlying61, h2, h3, Value.cells] at h
      have r2 : List.range 2 = [0, 1] := rfl
      simp [r2] at h
      cases h5 : Tryd.prog.keyLits (n + 1) 9 [x] with
      | none => rw [h5] at h; cases h
      | some l1 =>
        cases h6 : Tryd.prog.keyLits (n + 1) 9 [y] with
        | none => rw [h5, h6] at h; cases h
        | some l2 =>
          obtain ⟨a, rfl, ha⟩ := lits_str h5
          obtain ⟨b, rfl, hb⟩ := lits_str h6
          exact ⟨a, b, rfl, ha, hb⟩
  · cases h

open Classical in
theorem key_eq_run (x y a b : ByteArray) (hx : x.size ≤ maxLen) (hy : y.size ≤ maxLen) (ha : a.size ≤ maxLen) (hb : b.size ≤ maxLen) (w : World) :
    (Op.equalIn 10000 61 (keyV x y) (keyV a b)).run Tryd.prog w = .ok (decide (x = a ∧ y = b)) w := by
  obtain ⟨r, hr, hi⟩ := run_equal_deep w (P := Tryd.prog) (m := 8) (by omega) (by kernel_rfl) (by kernel_rfl) (key_some x y hx hy) (key_some a b ha hb)
  have e : r = decide (x = a ∧ y = b) := by
    rw [Bool.eq_iff_iff, hi, decide_eq_true_eq]
    exact ⟨fun h => key_inj hx hy ha hb h, fun ⟨h1, h2⟩ => by rw [h1, h2]⟩
  rw [← e]
  exact hr

/-- Block r is an iterator over the map of locks F in block bm; lf: the keys that are still to come, cnt of them. -/
def LR (w : World) (bm r n : Nat) (F : LF) (lf : ByteArray → ByteArray → Bool) (cnt : Nat) : Prop :=
  ∃ (D : DataW Unit) (left : Lit → Bool), w.ranges Tryd.prog 61 lkR bm r n D left cnt ∧
    (∀ a b, a.size ≤ maxLen → b.size ≤ maxLen → Maps.has D (keyL a b) = (F a b).isSome ∧ D.atKey (keyL a b) (lkD lk0) = lkD ((F a b).getD lk0)) ∧
    ∀ a b, a.size ≤ maxLen → b.size ≤ maxLen → left (keyL a b) = lf a b
open Classical in
/-- One key less. -/
noncomputable def less (lf : ByteArray → ByteArray → Bool) (a b : ByteArray) : ByteArray → ByteArray → Bool := fun a' b' => if a' = a ∧ b' = b then false else lf a' b'
section
variable {w w' : World} {bm r n cnt : Nat} {F : LF} {lf : ByteArray → ByteArray → Bool}
theorem LR.lm (h : LR w bm r n F lf cnt) : LM w bm n F := by
  obtain ⟨D, left, hr, hv, _⟩ := h
  exact ⟨D, hr.owns, hv⟩
theorem LR.left_eq (h : LR w bm r n F lf cnt) : w.rangeLeft bm r = cnt := by
  obtain ⟨D, left, hr, _⟩ := h
  exact hr.left_eq
theorem LR.kept {row : Option Nat} (h : LR w bm r n F lf cnt) (hg : w.grownBy w' row) (h1 : some bm ≠ row) (h2 : some r ≠ row) : LR w' bm r n F lf cnt := by
  obtain ⟨D, left, hr, hv, hl⟩ := h
  exact ⟨D, left, hr.kept hg h1 h2, hv, hl⟩
theorem LR.ext (h : LR w bm r n F lf cnt) (hE : Ext w w') : LR w' bm r n F lf cnt := h.kept (hE.grownBy none) (by simp) (by simp)
theorem LR.ne_ (h : LR w bm r n F lf cnt) : r ≠ bm := by obtain ⟨D, left, hr, _⟩ := h; exact hr.ne
theorem LR.lt (h : LR w bm r n F lf cnt) : r < w.heap.size := by obtain ⟨D, left, hr, _⟩ := h; exact hr.lt

variable {ops : Array Oper} {rest : List Oper} {o : Oper} {a : Act} {Q : Exit → Act → World → Prop}
theorem wp_range_lk (hg : o.guard = none) (m : Operand) (hop : o.op = Op.range 58 m) (hm : a.eval m = .map (some bm)) (hl : LM w bm n F)
    (hK : ∀ w' cnt, LR w' bm w.heap.size n F (fun x y => (F x y).isSome) cnt → cnt ≤ n → w.grownBy w' none → w'.heap.size = w.heap.size + 1 → wpList Tryd.prog ops Q rest (a.put o.dst (.pointer (some ⟨w.heap.size, 0, none⟩))) w') :
    wpList Tryd.prog ops Q (o :: rest) a w := by
  obtain ⟨D, ho, hv⟩ := hl
  refine wpList_range_own w hg m _ hop 61 35 keyedM Tryd.underlying58 lkR bm n D hm ho fun w' hr hgr hsz => ?_
  exact hK w' _ ⟨D, _, hr, hv, fun x y hx hy => (hv x y hx hy).1⟩ ho.size_le hgr hsz
theorem wp_next_lk (hg : o.guard = none) (it : Operand) (hop : o.op = Op.next it false) (hit : a.eval it = .pointer (some ⟨r, 0, none⟩)) (hl : LR w bm r n F lf cnt)
    (hDone : cnt = 0 → (∀ x y, x.size ≤ maxLen → y.size ≤ maxLen → lf x y = false) → wpList Tryd.prog ops Q rest (a.put o.dst (.tuple #[.bool false])) w)
    (hMore : ∀ (x y : ByteArray) (k : Lk) (w' : World) (cnt' : Nat), x.size ≤ maxLen → y.size ≤ maxLen → lf x y = true → F x y = some k → LR w' bm r n F (less lf x y) cnt' → cnt' < cnt → w.grownBy w' (some r) → w'.heap.size = w.heap.size →
      (Instr.entry (.pointer (some ⟨r, 0, none⟩))).run Tryd.prog w' = .ok (.tuple #[keyV x y, lkV k]) w' → wpList Tryd.prog ops Q rest (a.put o.dst (.tuple #[.bool true, keyV x y, lkV k])) w') :
    wpList Tryd.prog ops Q (o :: rest) a w := by
  obtain ⟨D, left, hr, hv, hlf⟩ := hl
  refine wpList_next_ranges w hg it hop 61 keyedM lkR (fun p : ByteArray × ByteArray => keyV p.1 p.2) lkV (fun key kl hk => ?_) (fun v y hy => ?_) bm r n D left cnt hit hr (fun h0 hl => ?_) (fun p c kl y w' cnt' hkey hlk hR hat hrg hlt hgr hsz hen => ?_)
  · obtain ⟨x, y, rfl, _⟩ := key_inv hk
    exact ⟨(x, y), rfl⟩
  · obtain ⟨x, rfl, _⟩ := lkR_inv hy
    exact ⟨x, rfl⟩
  · exact hDone h0 fun x y hx hy => by rw [← hlf x y hx hy]; exact hl _
  · obtain ⟨x, z⟩ := p
    obtain ⟨x', z', e, hx, hz⟩ := key_inv hkey
    simp only [keyV, Value.agg.injEq] at e
    obtain ⟨rfl, rfl⟩ : x = x' ∧ z = z' := by simpa using e
    obtain rfl : keyL x z = kl := Option.some.inj ((key_some x z hx hz).symm.trans hkey)
    have hlx : lf x z = true := by rw [← hlf x z hx hz]; exact hlk
    have h1 := hat (lkD lk0)
    rw [(hv x z hx hz).2] at h1
    have hh : Maps.has D (keyL x z) = true := has_true_of_atKey hat
    rw [(hv x z hx hz).1] at hh
    obtain ⟨k, hk⟩ := Option.isSome_iff_exists.1 hh
    rw [hk, Option.getD_some] at h1
    rw [lkR_mk c] at hR
    injection hR with hR
    rw [← hR] at h1
    obtain rfl : k = c := lkD_inj h1
    refine hMore x z k w' cnt' hx hz hlx hk ⟨D, _, hrg, hv, fun a' b' ha' hb' => ?_⟩ hlt hgr hsz hen
    unfold less
    by_cases hq : a' = x ∧ b' = z
    · obtain ⟨rfl, rfl⟩ := hq
      rw [if_pos ⟨rfl, rfl⟩]
      simp [Lit.sameKey, keyL]
    · rw [if_neg hq]
      have hne : keyL a' b' ≠ keyL x z := fun e => hq (key_inj ha' hb' hx hz e)
      rw [hlf a' b' ha' hb', sameKey_ne hne]
      simp
end

end Go.Proofs.YthmeobjomidkoaaDoor
