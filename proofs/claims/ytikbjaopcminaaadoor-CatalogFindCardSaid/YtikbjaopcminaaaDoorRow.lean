/- Rows of a call's own, of elements of k cells: cuts, copies, stores, clearing, growth by zeros. -/
import Derived.Test.YtikbjaopcminaaaDoorOsc
import Derived.Laws.CopyRow
import Derived.Lib.AppendZerosOnto
namespace Go.Proofs.YtikbjaopcminaaaDoor
open Go.RowKit
set_option maxRecDepth 100000

section
variable {α : Type} {cs : α → List Value} {t e : TypeId} {k by_ : Nat} {w w' : World} {base : Nat} {A : Option Addr} {m c : Nat} {l : List α}
theorem flat_len (h1 : ∀ x, (cs x).length = k) (l : List α) : (l.flatMap cs).length = l.length * k := by
  induction l with
  | nil => simp
  | cons x t ih => rw [List.flatMap_cons, List.length_append, ih, h1 x, List.length_cons, Nat.succ_mul]; omega
theorem flat_take (h1 : ∀ x, (cs x).length = k) (l : List α) (i : Nat) : (l.flatMap cs).take (i * k) = (l.take i).flatMap cs := by
  induction l generalizing i with
  | nil => simp
  | cons x t ih =>
    cases i with
    | zero => simp
    | succ i =>
      rw [List.flatMap_cons, List.take_succ_cons, List.flatMap_cons, List.take_append, h1 x, List.take_of_length_le (by rw [h1 x, Nat.succ_mul]; omega), show (i + 1) * k - k = i * k by rw [Nat.succ_mul]; omega, ih]
theorem flat_drop (h1 : ∀ x, (cs x).length = k) (l : List α) (i : Nat) : (l.flatMap cs).drop (i * k) = (l.drop i).flatMap cs := by
  induction l generalizing i with
  | nil => simp
  | cons x t ih =>
    cases i with
    | zero => simp
    | succ i =>
      rw [List.flatMap_cons, List.drop_succ_cons, List.drop_append, h1 x, List.drop_eq_nil_of_le (by rw [h1 x, Nat.succ_mul]; omega), show (i + 1) * k - k = i * k by rw [Nat.succ_mul]; omega, ih, List.nil_append]

theorem take_three {β : Type} (X Y Z : List β) (N : Nat) (h : X.length + Y.length ≤ N) : (X ++ Y ++ Z).take N = X ++ (Y ++ Z.take (N - (X.length + Y.length))) := by
  rw [List.take_append, List.take_of_length_le (by rw [List.length_append]; exact h), List.length_append, List.append_assoc]
/-- The row of a slice that holds an element. -/
theorem OsC.row (h : OsC cs e k w base A m c l) (hm : 0 < m) : ∃ g cur, A = some ⟨g, 0, none⟩ ∧ base ≤ g ∧ w.heap[g]? = some (.cells cur e (0, 0)) ∧ m ≤ c ∧ c ≤ maxLen ∧ cur.size = c * k ∧ cur.toList.take (m * k) = l.flatMap cs := by
  rcases h.own.2 with ⟨_, h0⟩ | ⟨g, cap, cur, hv, hg, hh, hn, hc, hsz, htk⟩
  · omega
  · injection hv with e1 _ e3
    subst e3
    exact ⟨g, cur, e1, hg, hh, hn, hc, hsz, htk⟩
theorem OsC.of_row {g : Nat} {cur : Array Value} (hA : A = some ⟨g, 0, none⟩) (hg : base ≤ g) (hh : w.heap[g]? = some (.cells cur e (0, 0))) (hmc : m ≤ c) (hc : c ≤ maxLen) (hsz : cur.size = c * k) (htk : cur.toList.take (m * k) = l.flatMap cs)
    (h1 : ∀ x, (cs x).length = k) (h2 : ∀ x, ∀ u ∈ cs x, u.oneCell' = true) (hl : m = l.length) (hle : m ≤ 17592186044416) : OsC cs e k w base A m c l :=
  ⟨⟨by rw [flat_len h1, hl], .inr ⟨g, c, cur, by rw [hA], hg, hh, hmc, hc, hsz, htk⟩⟩, h1, h2, hl, hle⟩
theorem OsC.take_ (h : OsC cs e k w base A m c l) {i : Nat} (hi : i ≤ m) : OsC cs e k w base A i c (l.take i) := by
  rcases h.own.2 with ⟨hv, h0⟩ | ⟨g, cap, cur, hv, hg, hh, hn, hc, hsz, htk⟩
  · injection hv with e1 e2 e3
    subst e1 e3
    obtain rfl : i = 0 := by omega
    rw [List.take_zero]
    exact OsC.nil_ h.one h.cell
  · injection hv with e1 _ e3
    subst e3
    refine OsC.of_row e1 hg hh (by omega) hc hsz ?_ h.one h.cell (by rw [List.length_take, ← h.len]; omega) (by have := h.le; omega)
    rw [← flat_take h.one, ← htk, List.take_take, Nat.min_eq_left (Nat.mul_le_mul_right _ hi)]
theorem setRow_heap' {g : Nat} {cur : Array Value} (hh : w.heap[g]? = some (.cells cur e (0, 0))) (xs : Array Value) : (w.setRow g xs).heap[g]? = some (.cells xs e (0, 0)) := setRow_heap w g cur xs e (0, 0) hh
theorem setRow_size (w : World) (g : Nat) (xs : Array Value) : (w.setRow g xs).heap.size = w.heap.size := by simp [World.setRow]
theorem grown_setRow (w : World) (g : Nat) (xs : Array Value) : w.grownBy (w.setRow g xs) (some g) := by
  refine ⟨rfl, rfl, rfl, by rw [setRow_size]; exact Nat.le_refl _, fun j _ hne => ?_⟩
  exact setRow_other w g j xs (fun e => hne (by rw [e]))
theorem splice_size {cur : Array Value} {o n : Nat} {xs : List Value} (hx : xs.length = n) (hfit : o + n ≤ cur.size) : (cur.toList.take o ++ xs ++ cur.toList.drop (o + n)).toArray.size = cur.size := by
  simp only [List.size_toArray, List.length_append, List.length_take, List.length_drop, Array.length_toList]
  omega

variable {P : Program}
/-- The cells of a slice, read. -/
theorem run_firstC {W : World} {B : Option Addr} {n d : Nat} {news : List α} (hr : SlC cs k W B n news) : (Builtin.firstCells k n (.slice B n d)).run P W = .ok (news.flatMap cs).toArray W := by
  have hl : (news.flatMap cs).length = n * k := by rw [flat_len hr.one, hr.len]
  cases B with
  | none =>
    have h0 : n = 0 := by
      rcases Nat.eq_zero_or_pos n with h0 | h0
      · exact h0
      · obtain ⟨ad, h, _⟩ := hr.rd.2 h0
        cases h
    have hn : news.flatMap cs = [] := List.eq_nil_of_length_eq_zero (by rw [hl, h0, Nat.zero_mul])
    rw [hn]
    simp [Builtin.firstCells]
  | some a =>
    have hcells : ∀ j u, (news.flatMap cs)[j]? = some u → W.cell? (a.add j) = some u := by
      intro j u hu
      rcases Nat.eq_zero_or_pos n with h0 | h0
      · have hn : news.flatMap cs = [] := List.eq_nil_of_length_eq_zero (by rw [hl, h0, Nat.zero_mul])
        rw [hn] at hu
        simp at hu
      · obtain ⟨ad', h, _, hc⟩ := hr.rd.2 h0
        injection h with h
        subst h
        exact hc j u hu
    have h1 := run_loadCells_list (P := P) W a _ hcells
    rw [hl] at h1
    simpa [Builtin.firstCells] using h1
end

section
variable {α : Type} {cs : α → List Value} {t e : TypeId} {k by_ : Nat} {w w' : World} {base : Nat} {A : Option Addr} {m c : Nat} {l : List α}
theorem EInfo.size_ (I : EInfo t e k by_) (W : World) : (sizeOf e).run Tryd.prog W = .ok k W := by
  obtain ⟨i0, z, hi0, _, hz1, _⟩ := I.i
  simp [sizeOf, typeInfo, hi0, hz1]
/-- copy(s[o:], x): the row afterwards. -/
theorem run_copyC (I : EInfo t e k by_) (ty : TypeId) {W : World} {g : Nat} {cur : Array Value} {o dLen dCap : Nat} {B : Option Addr} {sl d n : Nat} {news : List α} (hh : W.heap[g]? = some (.cells cur e (0, 0)))
    (hr : SlC cs k W B n news) (h2 : ∀ x, ∀ u ∈ cs x, u.oneCell' = true) (hn : Nat.min sl dLen = n) (hfit : (o + n) * k ≤ cur.size) :
    (Builtin.copy_ #[t, t] ty #[.slice (some ⟨g, o * k, none⟩) dLen dCap, .slice B sl d]).run Tryd.prog W = .ok (goInt n) (W.setRow g (cur.toList.take (o * k) ++ news.flatMap cs ++ cur.toList.drop ((o + n) * k)).toArray) := by
  have hl : (news.flatMap cs).length = n * k := by rw [flat_len hr.one, hr.len]
  have hst := run_storeCells_at Tryd.prog g (o * k) e (news.flatMap cs) 0 cur W hh (by rw [hl, Nat.add_zero, ← Nat.add_mul]; exact hfit) (fun u hu => by
    obtain ⟨y, _, hy⟩ := List.mem_flatMap.1 hu
    exact h2 y u hy)
  rw [hl, Nat.add_zero, ← Nat.add_mul] at hst
  have hf : (Builtin.firstCells k n (.slice B sl d)).run Tryd.prog W = .ok (news.flatMap cs).toArray W := by
    have h1 := run_firstC (P := Tryd.prog) (d := d) hr
    cases B <;> simpa [Builtin.firstCells] using h1
  have hsz := I.size_ W
  simp [Builtin.copy_, run_underlying I.u, Builtin.lenOf, hn, hsz, hf, hst]
theorem wp_copyC (I : EInfo t e k by_) {o : Oper} {a : Act} {K : Act → World → Prop} {Q : Exit → Act → World → Prop} (s x : Operand)
    (ho : o.op = .call { callee := .builtin .copy, args := #[s, x], argTypes := #[t, t] })
    {g : Nat} {cur : Array Value} {p dLen dCap : Nat} {B : Option Addr} {sl d n : Nat} {news : List α} (hs : a.eval s = .slice (some ⟨g, p * k, none⟩) dLen dCap) (hx : a.eval x = .slice B sl d)
    (hh : w.heap[g]? = some (.cells cur e (0, 0))) (hr : SlC cs k w B n news) (h2 : ∀ x, ∀ u ∈ cs x, u.oneCell' = true) (hn : Nat.min sl dLen = n) (hfit : (p + n) * k ≤ cur.size)
    (h : K (a.put o.dst (goInt n)) (w.setRow g (cur.toList.take (p * k) ++ news.flatMap cs ++ cur.toList.drop ((p + n) * k)).toArray)) : o.wp Tryd.prog a w K Q := by
  have hrun := run_copyC I o.type (dCap := dCap) (d := d) hh hr h2 hn hfit
  unfold Oper.wp execOp
  simp only [ho, resolve, invoke, builtin, Sem.run_bind, Sem.run_pure, Result.andThen_ok, List.map_toArray, List.map_cons, List.map_nil, hs, hx, hrun]
  exact h
theorem copyC (I : EInfo t e k by_) {ops : Array Oper} {rest : List Oper} {o : Oper} {a : Act} {Q : Exit → Act → World → Prop} (hgd : Region.wanted o (yielded ops a.tmps) = true) (s x : Operand)
    (ho : o.op = .call { callee := .builtin .copy, args := #[s, x], argTypes := #[t, t] })
    {g : Nat} {cur : Array Value} {p dLen dCap : Nat} {B : Option Addr} {sl d n : Nat} {news : List α} (hs : a.eval s = .slice (some ⟨g, p * k, none⟩) dLen dCap) (hx : a.eval x = .slice B sl d)
    (hh : w.heap[g]? = some (.cells cur e (0, 0))) (hr : SlC cs k w B n news) (h2 : ∀ x, ∀ u ∈ cs x, u.oneCell' = true) (hn : Nat.min sl dLen = n) (hfit : (p + n) * k ≤ cur.size)
    (h : wpList Tryd.prog ops Q rest (a.put o.dst (goInt n)) (w.setRow g (cur.toList.take (p * k) ++ news.flatMap cs ++ cur.toList.drop ((p + n) * k)).toArray)) : wpList Tryd.prog ops Q (o :: rest) a w :=
  BigFrame.wpList_want hgd fun _ hK => wp_copyC I s x ho hs hx hh hr h2 hn hfit (hK _ _ h)
theorem step_copyC (I : EInfo t e k by_) {ops : Array Oper} {o : Oper} {a : Act} {K : Act → World → Prop} {Q : Exit → Act → World → Prop} {E : Prop} (hgd : Region.wanted o (yielded ops a.tmps) = true) (s x : Operand)
    (ho : o.op = .call { callee := .builtin .copy, args := #[s, x], argTypes := #[t, t] })
    {g : Nat} {cur : Array Value} {p dLen dCap : Nat} {B : Option Addr} {sl d n : Nat} {news : List α} (hs : a.eval s = .slice (some ⟨g, p * k, none⟩) dLen dCap) (hx : a.eval x = .slice B sl d)
    (hh : w.heap[g]? = some (.cells cur e (0, 0))) (hr : SlC cs k w B n news) (h2 : ∀ x, ∀ u ∈ cs x, u.oneCell' = true) (hn : Nat.min sl dLen = n) (hfit : (p + n) * k ≤ cur.size)
    (h : K (a.put o.dst (goInt n)) (w.setRow g (cur.toList.take (p * k) ++ news.flatMap cs ++ cur.toList.drop ((p + n) * k)).toArray)) :
    if Region.wanted o (yielded ops a.tmps) = true then Oper.wp Tryd.prog o a w K Q else E := by
  rw [if_pos hgd]
  exact wp_copyC I s x ho hs hx hh hr h2 hn hfit h

/-- A struct stored into an element of the row. -/
theorem wp_storeC (I : EInfo t e k by_) {o : Oper} {a : Act} {K : Act → World → Prop} {Q : Exit → Act → World → Prop} (s x : Operand) (ho : o.op = .store e s x)
    {i : Nat} {y : α} (hown : OsC cs e k w base A m c l) (hi : i < m) {g : Nat} (hA : A = some ⟨g, 0, none⟩) (hs : a.eval s = .pointer (some ⟨g, i * k, none⟩)) (hx : a.eval x = .agg (cs y).toArray)
    (h : ∀ w', OsC cs e k w' base A m c (l.set i y) → w.grownBy w' (ob A) → w'.heap.size = w.heap.size → K (a.put o.dst undef) w') : o.wp Tryd.prog a w K Q := by
  obtain ⟨g', cur, hA', hg, hh, hmc, hc, hsz, htk⟩ := hown.row (by omega)
  rw [hA] at hA'
  simp only [Option.some.injEq, Addr.mk.injEq, and_true] at hA'
  subst hA'
  obtain ⟨i0, z, hi0, _, hz1, _⟩ := I.i
  have hyl : (cs y).length = k := hown.one y
  have hik : (i + 1) * k ≤ m * k := Nat.mul_le_mul_right _ hi
  have hmk : m * k ≤ c * k := Nat.mul_le_mul_right _ hmc
  have e1 : (i + 1) * k = i * k + k := Nat.succ_mul _ _
  have hst := run_storeCells_at Tryd.prog g (i * k) e (cs y) 0 cur w hh (by rw [hyl]; omega) (hown.cell y)
  rw [hyl, Nat.add_zero] at hst
  unfold Oper.wp execOp
  simp only [ho, hs, hx, Instr.storeAt, Instr.sureAddr, Sem.run_bind, Sem.run_pure, Result.andThen_ok]
  simp [storeVar, sizeOf, typeInfo, hi0, Value.cells, hz1, hyl, hst]
  refine h _ (OsC.of_row hA hg (setRow_heap' hh _) hmc hc ?_ ?_ hown.one hown.cell (by rw [List.length_set]; exact hown.len) hown.le) (by rw [hA]; exact grown_setRow w g _) (setRow_size _ _ _)
  · have := splice_size (cur := cur) (o := i * k) (n := k) hyl (by omega)
    rw [List.append_assoc] at this
    rw [this, hsz]
  · have hlt : i < l.length := by rw [← hown.len]; exact hi
    have h3 : cur.toList.take (i * k) = (l.take i).flatMap cs := by
      rw [← flat_take hown.one, ← htk, List.take_take, Nat.min_eq_left (by omega)]
    have h4 : (cur.toList.drop (i * k + k)).take (m * k - (i * k + k)) = (l.drop (i + 1)).flatMap cs := by
      rw [← flat_drop hown.one, ← htk, e1, List.drop_take]
    rw [List.set_eq_take_append_cons_drop, if_pos hlt, List.flatMap_append, List.flatMap_cons, h3, ← h4]
    have h5 : ((l.take i).flatMap cs).length = i * k := by rw [flat_len hown.one, List.length_take, Nat.min_eq_left (by omega)]
    have h6 := take_three ((l.take i).flatMap cs) (cs y) (cur.toList.drop (i * k + k)) (m * k) (by rw [h5, hyl]; omega)
    rw [h5, hyl] at h6
    simp only [List.append_assoc] at h6
    exact h6
theorem step_storeC (I : EInfo t e k by_) {ops : Array Oper} {o : Oper} {a : Act} {K : Act → World → Prop} {Q : Exit → Act → World → Prop} {E : Prop} (hgd : Region.wanted o (yielded ops a.tmps) = true) (s x : Operand) (ho : o.op = .store e s x)
    {i : Nat} {y : α} (hown : OsC cs e k w base A m c l) (hi : i < m) {g : Nat} (hA : A = some ⟨g, 0, none⟩) (hs : a.eval s = .pointer (some ⟨g, i * k, none⟩)) (hx : a.eval x = .agg (cs y).toArray)
    (h : ∀ w', OsC cs e k w' base A m c (l.set i y) → w.grownBy w' (ob A) → w'.heap.size = w.heap.size → K (a.put o.dst undef) w') :
    if Region.wanted o (yielded ops a.tmps) = true then Oper.wp Tryd.prog o a w K Q else E := by
  rw [if_pos hgd]
  exact wp_storeC I s x ho hown hi hA hs hx h
theorem storeC (I : EInfo t e k by_) {ops : Array Oper} {rest : List Oper} {o : Oper} {a : Act} {Q : Exit → Act → World → Prop} (hgd : Region.wanted o (yielded ops a.tmps) = true) (s x : Operand) (ho : o.op = .store e s x)
    {i : Nat} {y : α} (hown : OsC cs e k w base A m c l) (hi : i < m) {g : Nat} (hA : A = some ⟨g, 0, none⟩) (hs : a.eval s = .pointer (some ⟨g, i * k, none⟩)) (hx : a.eval x = .agg (cs y).toArray)
    (h : ∀ w', OsC cs e k w' base A m c (l.set i y) → w.grownBy w' (ob A) → w'.heap.size = w.heap.size → wpList Tryd.prog ops Q rest (a.put o.dst undef) w') : wpList Tryd.prog ops Q (o :: rest) a w :=
  BigFrame.wpList_want hgd fun _ hK => wp_storeC I s x ho hown hi hA hs hx fun w' h1 h2 h3 => hK _ _ (h w' h1 h2 h3)

/-- clear(s[p:p+n]) behind the elements. -/
theorem wp_clearC (I : EInfo t e k by_) (hz : ∀ i z, Tryd.prog.info? e = some i → i.zero = some z → ∀ u ∈ z.cells.toList, u.oneCell' = true) {o : Oper} {a : Act} {K : Act → World → Prop} {Q : Exit → Act → World → Prop} (s : Operand)
    (ho : o.op = .call { callee := .builtin .clear, args := #[s], argTypes := #[t] })
    {p n d : Nat} (hown : OsC cs e k w base A m c l) {g : Nat} (hA : A = some ⟨g, 0, none⟩) (hs : a.eval s = .slice (some ⟨g, p * k, none⟩) n d) (hm : m ≤ p) (hp : p + n ≤ c)
    (h : ∀ w', OsC cs e k w' base A m c l → w.grownBy w' (ob A) → w'.heap.size = w.heap.size → K (a.put o.dst (.tuple #[])) w') : o.wp Tryd.prog a w K Q := by
  rcases Nat.eq_zero_or_pos n with h0 | h0
  · subst h0
    unfold Oper.wp
    simp [execOp, ho, resolve, invoke, builtin, hs, Builtin.clear_, run_underlying I.u, Result.andThen]
    exact h w hown (World.grownBy.refl w _) rfl
  · obtain ⟨i0, z, hi0, hz0, hz1, _, hz3⟩ := I.i
    have hrow : ∃ cur, base ≤ g ∧ w.heap[g]? = some (.cells cur e (0, 0)) ∧ m ≤ c ∧ c ≤ maxLen ∧ cur.size = c * k ∧ cur.toList.take (m * k) = l.flatMap cs := by
      rcases hown.own.2 with ⟨hv, _⟩ | ⟨g', cap, cur, hv, hg, hh, hn, hc, hsz, htk⟩
      · injection hv with e1 _ e3
        omega
      · injection hv with e1 _ e3
        rw [hA] at e1
        simp only [Option.some.injEq, Addr.mk.injEq, and_true] at e1
        subst e1 e3
        exact ⟨cur, hg, hh, hn, hc, hsz, htk⟩
    obtain ⟨cur, hg, hh, hmc, hc, hsz, htk⟩ := hrow
    obtain ⟨zs, hzs⟩ : ∃ zs, zs = (Builtin.zeroCells z.cells n).toList := ⟨_, rfl⟩
    have hzl : zs.length = n * k := by rw [hzs]; simp [Builtin.zeroCells, hz3]
    have hz1' : ∀ u ∈ zs, u.oneCell' = true := by
      rw [hzs]
      intro u hu
      simp only [Builtin.zeroCells, Array.toList_map, Array.toList_range, List.mem_map, List.mem_range] at hu
      obtain ⟨j, hj, rfl⟩ := hu
      have hlt : j % z.cells.size < z.cells.size := Nat.mod_lt _ (by rw [hz3]; exact I.kp)
      rw [getElem!_pos z.cells _ hlt]
      exact hz i0 z hi0 hz0 _ (by simp)
    have hpk : p * k + n * k ≤ c * k := by rw [← Nat.add_mul]; exact Nat.mul_le_mul_right _ hp
    have hst := run_storeCells_at Tryd.prog g (p * k) e zs 0 cur w hh (by rw [hzl, hsz, Nat.add_zero]; exact hpk) hz1'
    rw [hzl, Nat.add_zero] at hst
    have hrun : (Builtin.clear_ #[t] o.type #[.slice (some ⟨g, p * k, none⟩) n d]).run Tryd.prog w = .ok (.tuple #[]) (w.setRow g (cur.toList.take (p * k) ++ zs ++ cur.toList.drop (p * k + n * k)).toArray) := by
      obtain ⟨n', rfl⟩ : ∃ n', n = n' + 1 := ⟨n - 1, by omega⟩
      rw [hzs] at hst ⊢
      simp [Builtin.clear_, run_underlying I.u, zeroValue, typeInfo, hi0, hz0] at hst ⊢
      rw [hst]
      rfl
    unfold Oper.wp
    simp [execOp, ho, resolve, invoke, builtin, hs, hrun, Result.andThen]
    have hmk : m * k ≤ p * k := Nat.mul_le_mul_right _ hm
    have key := h _ (OsC.of_row (cur := (cur.toList.take (p * k) ++ zs ++ cur.toList.drop (p * k + n * k)).toArray) hA hg (setRow_heap' hh _) hmc hc (by rw [splice_size hzl (by rw [hsz]; exact hpk), hsz]) ?_ hown.one hown.cell hown.len hown.le) (by rw [hA]; exact grown_setRow w g _) (setRow_size _ _ _)
    · first | exact key | (simp only [List.append_assoc] at key; exact key)
    · show List.take (m * k) (_ ++ _ ++ _) = _
      rw [List.append_assoc, List.take_append_of_le_length (by rw [List.length_take, Array.length_toList, hsz]; omega), List.take_take, Nat.min_eq_left hmk, htk]
theorem clearC (I : EInfo t e k by_) (hz : ∀ i z, Tryd.prog.info? e = some i → i.zero = some z → ∀ u ∈ z.cells.toList, u.oneCell' = true) {ops : Array Oper} {rest : List Oper} {o : Oper} {a : Act} {Q : Exit → Act → World → Prop} (hgd : Region.wanted o (yielded ops a.tmps) = true) (s : Operand)
    (ho : o.op = .call { callee := .builtin .clear, args := #[s], argTypes := #[t] })
    {p n d : Nat} (hown : OsC cs e k w base A m c l) {g : Nat} (hA : A = some ⟨g, 0, none⟩) (hs : a.eval s = .slice (some ⟨g, p * k, none⟩) n d) (hm : m ≤ p) (hp : p + n ≤ c)
    (h : ∀ w', OsC cs e k w' base A m c l → w.grownBy w' (ob A) → w'.heap.size = w.heap.size → wpList Tryd.prog ops Q rest (a.put o.dst (.tuple #[])) w') : wpList Tryd.prog ops Q (o :: rest) a w :=
  BigFrame.wpList_want hgd fun _ hK => wp_clearC I hz s ho hown hA hs hm hp fun w' h1 h2 h3 => hK _ _ (h w' h1 h2 h3)

/-- Where a cut from i on of a slice of capacity c lies. -/
def cutA (A : Option Addr) (c k i : Nat) : Option Addr := if c = i then A else A.map (·.add (i * k))
theorem cutA_lt {g o c k i : Nat} (h : i < c) : cutA (some ⟨g, o, none⟩) c k i = some ⟨g, o + i * k, none⟩ := by
  unfold cutA
  rw [if_neg (by omega), Option.map_some, Addr.add_lit]
theorem cutA_ob (A : Option Addr) (c k i : Nat) : ob (cutA A c k i) = ob A := by
  unfold cutA
  split
  · rfl
  · cases A <;> simp [ob, block_of_add]
theorem SlC.cut {A : Option Addr} {m c : Nat} {l : List α} (h : SlC cs k w A m l) {i : Nat} (hi : i ≤ m) (hc : m ≤ c) : SlC cs k w (cutA A c k i) (m - i) (l.drop i) :=
  ⟨by have := Reads.cut h.rd hi hc; rw [flat_drop h.one] at this; exact this, h.one, by rw [List.length_drop, h.len], by have := h.le; omega⟩
theorem SlC.take_ {A : Option Addr} {m : Nat} {l : List α} (h : SlC cs k w A m l) {i : Nat} (hi : i ≤ m) : SlC cs k w A i (l.take i) := by
  refine ⟨⟨by rw [flat_len h.one, List.length_take, ← h.len, Nat.min_eq_left hi], fun hn => ?_⟩, h.one, by rw [List.length_take, ← h.len, Nat.min_eq_left hi], by have := h.le; omega⟩
  obtain ⟨ad, e1, hb, hcell⟩ := h.rd.2 (by omega)
  refine ⟨ad, e1, hb, fun j u hu => hcell j u ?_⟩
  rw [← flat_take h.one, List.getElem?_take] at hu
  split at hu
  · exact hu
  · cases hu
theorem sliceAtC (I : EInfo t e k by_) {W : World} {A : Option Addr} {m c : Nat} {lo hi : Option Value} {r : Result Value} (h : (Instr.slice t (.slice A m c) lo hi none).run Tryd.prog W = r) :
    (Instr.sliceAt t (.slice A m c) lo hi none).run Tryd.prog W = r ∧ (Instr.slice t (.slice A m c) lo hi none).run Tryd.prog W = r :=
  ⟨by rw [run_sliceAt_slice W _ _ _ _ _ (show Tryd.prog.underlying t = some (.slice (Tryd.prog.elem t)) by rw [show Tryd.prog.elem t = e by simp [Program.elem, I.u]]; exact I.u), h], h⟩
/-- s[i:], s[:j], s[i:j]. -/
theorem cut_runC (I : EInfo t e k by_) {A : Option Addr} {m c : Nat} :
    (∀ (W : World) (kl : IntKind) (i : Nat), i ≤ m → m ≤ c → (Instr.sliceAt t (.slice A m c) (some (.int kl i)) none none).run Tryd.prog W = .ok (.slice (cutA A c k i) (m - i) (c - i)) W ∧
      (Instr.slice t (.slice A m c) (some (.int kl i)) none none).run Tryd.prog W = .ok (.slice (cutA A c k i) (m - i) (c - i)) W) ∧
    (∀ (W : World) (kh : IntKind) (j : Nat), j ≤ c → (Instr.sliceAt t (.slice A m c) none (some (.int kh j)) none).run Tryd.prog W = .ok (.slice A j c) W ∧
      (Instr.slice t (.slice A m c) none (some (.int kh j)) none).run Tryd.prog W = .ok (.slice A j c) W) ∧
    (∀ (W : World) (kl kh : IntKind) (i j : Nat), i ≤ j → j ≤ c → (Instr.sliceAt t (.slice A m c) (some (.int kl i)) (some (.int kh j)) none).run Tryd.prog W = .ok (.slice (cutA A c k i) (j - i) (c - i)) W ∧
      (Instr.slice t (.slice A m c) (some (.int kl i)) (some (.int kh j)) none).run Tryd.prog W = .ok (.slice (cutA A c k i) (j - i) (c - i)) W) := by
  obtain ⟨i0, z, hi0, hz0, hz1, _, hz3⟩ := I.i
  have e1 : (Tryd.prog.elem t) = e := by simp [Program.elem, I.u]
  have hu : Tryd.prog.underlying t = some (.slice (Tryd.prog.elem t)) := by rw [e1]; exact I.u
  refine ⟨fun W kl i hi hm => ?_, fun W kh j hj => ?_, fun W kl kh i j hij hj => ?_⟩
  · apply sliceAtC I
    rw [run_slice_l W _ _ _ _ hu _ _ (by omega) (by omega), e1]
    by_cases hc : c = i
    · simp [sizeOf, typeInfo, hi0, hz1, sliced, hc, cutA]
    · simp [sizeOf, typeInfo, hi0, hz1, sliced, hc, cutA]
  · apply sliceAtC I
    rw [run_slice_h W _ _ _ _ hu _ _ (by omega) (by omega), e1]
    by_cases hc : c = 0
    · simp [sizeOf, typeInfo, hi0, hz1, sliced, hc]
    · cases A <;> simp [sizeOf, typeInfo, hi0, hz1, sliced, hc, Addr.add]
  · apply sliceAtC I
    rw [run_slice_lh W _ _ _ _ hu _ _ _ _ (by omega) (by omega) (by omega), e1]
    by_cases hc : c = i
    · simp [sizeOf, typeInfo, hi0, hz1, sliced, hc, cutA]
    · simp [sizeOf, typeInfo, hi0, hz1, sliced, hc, cutA]
end

end Go.Proofs.YtikbjaopcminaaaDoor
