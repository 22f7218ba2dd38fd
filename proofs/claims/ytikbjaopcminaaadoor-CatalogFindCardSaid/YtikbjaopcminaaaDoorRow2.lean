/- append within the capacity of a row of the call's own: the slice stays where it is. -/
import Derived.Test.YtikbjaopcminaaaDoorRow
namespace Go.Proofs.YtikbjaopcminaaaDoor
open Go.RowKit
set_option maxRecDepth 100000
section
variable {α : Type} {cs : α → List Value} {t e : TypeId} {k by_ : Nat} {w w' : World} {base : Nat} {A : Option Addr} {m c : Nat} {l : List α}
theorem take_mid {β : Type} (X Y Z : List β) (n : Nat) (h : X.length + Y.length = n) : (X ++ Y ++ Z).take n = X ++ Y := by
  rw [List.take_append_of_le_length (by rw [List.length_append]; omega), List.take_of_length_le (by rw [List.length_append]; omega)]
theorem wp_appRoomC (I : EInfo t e k by_) {o : Oper} {a : Act} {K : Act → World → Prop} {Q : Exit → Act → World → Prop} (s x : Operand)
    (ho : o.op = .call { callee := .builtin .append, args := #[s, x], argTypes := #[t, t] })
    {g : Nat} (hown : OsC cs e k w base A m c l) (hA : A = some ⟨g, 0, none⟩) (hs : a.eval s = .slice A m c)
    {B : Option Addr} {n d : Nat} {news : List α} (hr : SlC cs k w B n news) (hx : a.eval x = .slice B n d)
    (hroom : m + n ≤ c) (hle : m + n ≤ 17592186044416)
    (h : ∀ w', OsC cs e k w' base A (m + n) c (l ++ news) → w.grownBy w' (ob A) → w'.heap.size = w.heap.size → K (a.put o.dst (.slice A (m + n) c)) w') : o.wp Tryd.prog a w K Q := by
  have hrow : ∃ cur, base ≤ g ∧ w.heap[g]? = some (.cells cur e (0, 0)) ∧ m ≤ c ∧ c ≤ maxLen ∧ cur.size = c * k ∧ cur.toList.take (m * k) = l.flatMap cs := by
    rcases hown.own.2 with ⟨hv, h0⟩ | ⟨g', cap, cur, hv, hg, hh, hn, hc, hsz, htk⟩
    · injection hv with e1 _ e3
      rw [hA] at e1
      cases e1
    · injection hv with e1 _ e3
      rw [hA] at e1
      simp only [Option.some.injEq, Addr.mk.injEq, and_true] at e1
      subst e1 e3
      exact ⟨cur, hg, hh, hn, hc, hsz, htk⟩
  obtain ⟨cur, hg, hh, hmc, hc, hsz, htk⟩ := hrow
  have hl : (news.flatMap cs).length = n * k := by rw [flat_len hr.one, hr.len]
  have hfit : m * k + n * k ≤ cur.size := by rw [hsz, ← Nat.add_mul]; exact Nat.mul_le_mul_right _ hroom
  have hst := run_storeCells_at Tryd.prog g (m * k) e (news.flatMap cs) 0 cur w hh (by rw [hl, Nat.add_zero]; exact hfit) (fun u hu => by
    obtain ⟨y, _, hy⟩ := List.mem_flatMap.1 hu
    exact hown.cell y u hy)
  rw [hl, Nat.add_zero] at hst
  have hf := run_firstC (P := Tryd.prog) (d := d) hr
  have hsz2 := I.size_ w
  have hrun : (Builtin.append_ #[t, t] o.type #[.slice A m c, .slice B n d]).run Tryd.prog w = .ok (.slice A (m + n) c) (w.setRow g (cur.toList.take (m * k) ++ news.flatMap cs ++ cur.toList.drop (m * k + n * k)).toArray) := by
    subst hA
    simp [Builtin.append_, run_underlying I.u, hsz2, Builtin.lenOf, hroom, hf, Addr.add_lit, hst]
  unfold Oper.wp execOp
  simp only [ho, resolve, invoke, builtin, Sem.run_bind, Sem.run_pure, Result.andThen_ok, List.map_toArray, List.map_cons, List.map_nil, hs, hx, hrun]
  refine h _ (OsC.of_row hA hg (setRow_heap' hh _) hroom hc (by rw [splice_size hl hfit, hsz]) ?_ hown.one hown.cell (by rw [List.length_append, hown.len, hr.len]) hle) (by rw [hA]; exact grown_setRow w g _) (setRow_size _ _ _)
  rw [List.flatMap_append, ← htk]
  show List.take ((m + n) * k) (_ ++ _ ++ _) = _
  exact take_mid _ _ _ _ (by rw [List.length_take, Array.length_toList, hl, Nat.add_mul]; omega)
theorem appRoomC (I : EInfo t e k by_) {ops : Array Oper} {rest : List Oper} {o : Oper} {a : Act} {Q : Exit → Act → World → Prop} (hgd : Region.wanted o (yielded ops a.tmps) = true) (s x : Operand)
    (ho : o.op = .call { callee := .builtin .append, args := #[s, x], argTypes := #[t, t] })
    {g : Nat} (hown : OsC cs e k w base A m c l) (hA : A = some ⟨g, 0, none⟩) (hs : a.eval s = .slice A m c)
    {B : Option Addr} {n d : Nat} {news : List α} (hr : SlC cs k w B n news) (hx : a.eval x = .slice B n d)
    (hroom : m + n ≤ c) (hle : m + n ≤ 17592186044416)
    (h : ∀ w', OsC cs e k w' base A (m + n) c (l ++ news) → w.grownBy w' (ob A) → w'.heap.size = w.heap.size → wpList Tryd.prog ops Q rest (a.put o.dst (.slice A (m + n) c)) w') : wpList Tryd.prog ops Q (o :: rest) a w :=
  BigFrame.wpList_want hgd fun _ hK => wp_appRoomC I s x ho hown hA hs hr hx hroom hle fun w' h1 h2 h3 => hK _ _ (h w' h1 h2 h3)
/-- clear(s[p:p+n]) behind the elements, as a run. -/
theorem run_clearC (I : EInfo t e k by_) (hz : ∀ i z, Tryd.prog.info? e = some i → i.zero = some z → ∀ u ∈ z.cells.toList, u.oneCell' = true) {p n d : Nat} (hown : OsC cs e k w base A m c l) {g : Nat} (hA : A = some ⟨g, 0, none⟩) (hm : m ≤ p) (hp : p + n ≤ c) :
    ∃ w', (∀ ty, (Builtin.clear_ #[t] ty #[.slice (some ⟨g, p * k, none⟩) n d]).run Tryd.prog w = .ok (.tuple #[]) w') ∧ OsC cs e k w' base A m c l ∧ w.grownBy w' (ob A) ∧ w'.heap.size = w.heap.size := by
  rcases Nat.eq_zero_or_pos n with h0 | h0
  · subst h0
    exact ⟨w, fun ty => by simp [Builtin.clear_, run_underlying I.u], hown, World.grownBy.refl w _, rfl⟩
  · obtain ⟨i0, z, hi0, hz0, hz1, _, hz3⟩ := I.i
    have hrow : ∃ cur, base ≤ g ∧ w.heap[g]? = some (.cells cur e (0, 0)) ∧ m ≤ c ∧ c ≤ maxLen ∧ cur.size = c * k ∧ cur.toList.take (m * k) = l.flatMap cs := by
      rcases hown.own.2 with ⟨hv, _⟩ | ⟨g', cap, cur, hv, hg, hh, hn, hc, hsz, htk⟩
      · injection hv with e1 _ e3
        omega
      · injection hv with e1 _ e3
        rw [hA] at e1
        simp only [Option.some.injEq, Addr.mk.injEq, and_true] at e1
        subst e1 e3
        exact ⟨cur, hg, hh, hn, hc, hsz, htk⟩
    obtain ⟨cur, hg, hh, hmc, hc, hsz, htk⟩ := hrow
    obtain ⟨zs, hzs⟩ : ∃ zs, zs = (Builtin.zeroCells z.cells n).toList := ⟨_, rfl⟩
    have hzl : zs.length = n * k := by rw [hzs]; simp [Builtin.zeroCells, hz3]
    have hz1' : ∀ u ∈ zs, u.oneCell' = true := by
      rw [hzs]
      intro u hu
      simp only [Builtin.zeroCells, Array.toList_map, Array.toList_range, List.mem_map, List.mem_range] at hu
      obtain ⟨j, hj, rfl⟩ := hu
      have hlt : j % z.cells.size < z.cells.size := Nat.mod_lt _ (by rw [hz3]; exact I.kp)
      rw [getElem!_pos z.cells _ hlt]
      exact hz i0 z hi0 hz0 _ (by simp)
    have hpk : p * k + n * k ≤ c * k := by rw [← Nat.add_mul]; exact Nat.mul_le_mul_right _ hp
    have hst := run_storeCells_at Tryd.prog g (p * k) e zs 0 cur w hh (by rw [hzl, hsz, Nat.add_zero]; exact hpk) hz1'
    rw [hzl, Nat.add_zero] at hst
    have hmk : m * k ≤ p * k := Nat.mul_le_mul_right _ hm
    refine ⟨_, fun ty => ?_, OsC.of_row (cur := (cur.toList.take (p * k) ++ zs ++ cur.toList.drop (p * k + n * k)).toArray) hA hg (setRow_heap' hh _) hmc hc (by rw [splice_size hzl (by rw [hsz]; exact hpk), hsz]) ?_ hown.one hown.cell hown.len hown.le, by rw [hA]; exact grown_setRow w g _, setRow_size _ _ _⟩
    · obtain ⟨n', rfl⟩ : ∃ n', n = n' + 1 := ⟨n - 1, by omega⟩
      rw [hzs] at hst ⊢
      simp [Builtin.clear_, run_underlying I.u, zeroValue, typeInfo, hi0, hz0] at hst ⊢
      rw [hst]
      rfl
    · show List.take (m * k) (_ ++ _ ++ _) = _
      rw [List.append_assoc, List.take_append_of_le_length (by rw [List.length_take, Array.length_toList, hsz]; omega), List.take_take, Nat.min_eq_left hmk, htk]
end
end Go.Proofs.YtikbjaopcminaaaDoor
