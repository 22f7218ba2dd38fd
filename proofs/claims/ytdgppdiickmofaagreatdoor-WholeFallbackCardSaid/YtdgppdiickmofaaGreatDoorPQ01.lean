/- Words for memory: slices that read as lists, blocks that are known whole, an append onto a row of the call's own; frames.
   (Sections 1 to 3 follow the kit's page of lemmas to copy.) -/
import Derived.Test.YtdgppdiickmofaaGreatDoorRows
import Derived.WalkKit
import Derived.WalkSpells
import Derived.WalkLawsBesides
import Derived.Deep.AppendLies
import Derived.Deep.Draws
import Derived.Deep.QuietTactic
import Derived.Deep.RegionHeld3
import Derived.Deep.LoopGhost
import Derived.Deep.DeepCutAuto
import Derived.BigQuiet
import Derived.Lib.Hide
import Derived.Maps.AppendAt
import Derived.Laws.AppendOwnNone
import Derived.Laws.CopyOwn
import Derived.Lib.AppendStr
import Derived.ProofKit
import Derived.OpenShut
import Derived.SizedLaws
import Derived.StillTail
namespace Go.Proofs.YtdgppdiickmofaaGreatDoor
open Go.RowKit
set_option maxRecDepth 100000

theorem block_of_add (a : Addr) (n : Nat) : (a.add n).block = a.block := by unfold Addr.add; split <;> rfl
theorem add_of_add (a : Addr) (i j : Nat) : (a.add i).add j = a.add (i + j) := by
  unfold Addr.add
  by_cases hi : i = 0 <;> by_cases hj : j = 0 <;> simp [hi, hj, Nat.add_assoc]

def Reads (w : World) (B size : Nat) (A : Option Addr) (n : Nat) (xs : List Value) : Prop :=
  xs.length = n * size ∧ (0 < n → ∃ ad, A = some ad ∧ ad.block < B ∧ ∀ j u, xs[j]? = some u → w.cell? (ad.add j) = some u)

section
variable {w w' : World} {B B' size n : Nat} {A : Option Addr} {xs : List Value}
theorem Reads.none_ : Reads w B size A 0 [] := ⟨by simp, fun h => absurd h (by omega)⟩
theorem Reads.at_ {k : Nat} (h : Reads w B 1 A n xs) (hk : k < n) : ∃ ad u, A = some ad ∧ ad.block < B ∧ xs[k]? = some u ∧ w.cell? (ad.add k) = some u := by
  obtain ⟨ad, e, hb, hc⟩ := h.2 (by omega)
  have hl : k < xs.length := by have := h.1; omega
  exact ⟨ad, xs[k], e, hb, List.getElem?_eq_getElem hl, hc k _ (List.getElem?_eq_getElem hl)⟩
theorem Reads.keep (h : Reads w B size A n xs) (hk : ∀ p : Addr, p.block < B → w'.cell? p = w.cell? p) : Reads w' B size A n xs :=
  ⟨h.1, fun hn => by
    obtain ⟨ad, e, hb, hc⟩ := h.2 hn
    exact ⟨ad, e, hb, fun j u hu => (hk _ (by rw [block_of_add]; exact hb)).trans (hc j u hu)⟩⟩
theorem Reads.more (h : Reads w B size A n xs) (hB : B ≤ B') : Reads w B' size A n xs :=
  ⟨h.1, fun hn => by
    obtain ⟨ad, e, hb, hc⟩ := h.2 hn
    exact ⟨ad, e, by omega, hc⟩⟩
theorem Reads.below (h : Reads w B size A n xs) (hb : Below B w w') : Reads w' B size A n xs := h.keep fun _ hp => hb.cell hp
theorem Reads.drew (h : Reads w B size A n xs) : Reads w.drew B size A n xs := h
theorem Reads.drewN (h : Reads w B size A n xs) (k : Nat) : Reads (w.drewN k) B size A n xs := h
theorem Reads.alloc (h : Reads w B size A n xs) (hB : B ≤ w.heap.size) (o : Obj) : Reads (w.alloc o) B size A n xs := h.keep fun p hp => World.cell?_alloc_lt w o p (by omega)
theorem Reads.setCell (h : Reads w B size A n xs) {p : Addr} (hB : B ≤ p.block) (u : Value) : Reads (w.setCell p u) B size A n xs :=
  h.keep fun q hq => World.cell?_setCell_other w p q u (fun e => by subst e; omega)
theorem Reads.grown (h : Reads w B size A n xs) {row : Option Nat} (hg : w.grownBy w' row) (hB : B ≤ w.heap.size) (hr : ∀ g, row = some g → B ≤ g) : Reads w' B size A n xs :=
  h.keep fun p hp => World.cell?_of_block (hg.block p.block (by omega) (fun e => by have := hr _ e.symm; omega))
theorem Reads.cut (h : Reads w B size A n xs) {k cap : Nat} (hk : k ≤ n) (hc : n ≤ cap) :
    Reads w B size (if cap = k then A else A.map (·.add (k * size))) (n - k) (xs.drop (k * size)) := by
  refine ⟨by rw [List.length_drop, h.1, Nat.sub_mul], fun hn => ?_⟩
  obtain ⟨ad, rfl, hb, hcell⟩ := h.2 (by omega)
  rw [if_neg (by omega)]
  refine ⟨ad.add (k * size), rfl, by rw [block_of_add]; exact hb, fun j u hu => ?_⟩
  rw [add_of_add]
  exact hcell _ u (by rw [← hu, List.getElem?_drop])
theorem Reads.of_own {base : Nat} {e : TypeId} {c : Nat} (h : w.ownsRow base e size (.slice A n c) n xs) : Reads w w.heap.size size A n xs := by
  refine ⟨h.1, fun hn => ?_⟩
  obtain ⟨g, cap, hv, _, hlt⟩ := h.form hn
  have hA : A = some ⟨g, 0, none⟩ := by injection hv
  subst hA
  exact ⟨_, rfl, hlt, h.cells (g := g) rfl⟩
end

def Blk (w : World) (g : Nat) (t : TypeId) (cs : Array Value) : Prop := w.heap[g]? = some (.cells cs t (0, 0))

section
variable {w w' : World} {g : Nat} {t : TypeId} {cs : Array Value}
theorem Blk.lt (h : Blk w g t cs) : g < w.heap.size := by
  rcases Nat.lt_or_ge g w.heap.size with hlt | hge
  · exact hlt
  · unfold Blk at h; rw [Array.getElem?_eq_none hge] at h; cases h
theorem Blk.cell (h : Blk w g t cs) (i : Nat) : w.cell? ⟨g, i, none⟩ = cs[i]? := cell_of_row w g i cs t (0, 0) h
theorem Blk.frozen (h : Blk w g t cs) (i : Nat) : w.frozen? ⟨g, i, none⟩ = false := by
  unfold Blk at h
  simp [World.frozen?, h]
theorem Blk.new (w : World) (t : TypeId) (cs : Array Value) : Blk (w.alloc (.cells cs t)) w.heap.size t cs := heap_alloc_new w _
theorem Blk.drew (h : Blk w g t cs) : Blk w.drew g t cs := h
theorem Blk.drewN (h : Blk w g t cs) (n : Nat) : Blk (w.drewN n) g t cs := h
theorem Blk.alloc (h : Blk w g t cs) (o : Obj) : Blk (w.alloc o) g t cs := (Below.heap_alloc w o g h.lt).trans h
theorem Blk.set_ (h : Blk w g t cs) (i : Nat) (u : Value) : Blk (w.setCell ⟨g, i, none⟩ u) g t (cs.setIfInBounds i u) := by
  unfold Blk at h ⊢
  simp [World.setCell, Array.getElem?_modify, h]
theorem Blk.far (h : Blk w g t cs) {p : Addr} (hp : g ≠ p.block) (u : Value) : Blk (w.setCell p u) g t cs := (Below.heap_setCell w p u g hp).trans h
theorem Blk.below {B : Nat} (h : Blk w g t cs) (hb : Below B w w') (hg : g < B) : Blk w' g t cs := (hb.block g hg).trans h
theorem Blk.grown {row : Option Nat} (h : Blk w g t cs) (hb : w.grownBy w' row) (hg : some g ≠ row) : Blk w' g t cs := (hb.block g h.lt hg).trans h
theorem Blk.ne_ {g' : Nat} {t' : TypeId} {cs' : Array Value} (h : Blk w g t cs) (h' : Blk w g' t' cs') (hne : t ≠ t') : g ≠ g' := by
  rintro rfl
  unfold Blk at h h'
  rw [h] at h'
  injection h' with h'
  injection h' with _ ht
  exact hne ht
theorem own_blk_ne {base : Nat} {e : TypeId} {size n : Nat} {v : Value} {xs : List Value} (h : w.ownsRow base e size v n xs) (hg : Blk w g t cs) (hne : e ≠ t) : v.ownBlock ≠ some g := by
  rcases h.2 with ⟨rfl, _⟩ | ⟨g', cap, cur, rfl, _, hh, _⟩
  · simp [Value.ownBlock]
  · intro he
    have : g' = g := by simpa [Value.ownBlock] using he
    subst this
    exact Blk.ne_ (t := e) hh hg hne rfl
end

section
variable {P : Program} (w : World)

theorem run_append_of_nil (base : Nat) (t ty e : TypeId) (i : TypeInfo) (size : Nat) (ht : P.underlying t = some (.slice e)) (hi : P.info? e = some i)
    (v : Value) (n : Nat) (xs : List Value) (hown : w.ownsRow base e size v n xs) (c : Nat) : (Builtin.append_ #[t, t] ty #[v, .slice none 0 c]).run P w = .ok v w := by
  rcases hown.2 with ⟨rfl, rfl⟩ | ⟨g, cap, cur, rfl, _, _, hnc, _⟩
  · simp [Builtin.append_, run_underlying ht, sizeOf, typeInfo, hi, Builtin.lenOf, Builtin.firstCells]
  · simp [Builtin.append_, run_underlying ht, sizeOf, typeInfo, hi, Builtin.lenOf, Builtin.firstCells, hnc, storeCells]

theorem run_append_any (base : Nat) (t ty e : TypeId) (i : TypeInfo) (z : Value) (size bytes : Nat) (ht : P.underlying t = some (.slice e)) (hi : P.info? e = some i) (hz : i.zero = some z)
    (hsize : i.size = size) (hby : i.bytes = bytes) (hzs : z.cells.size = size) (hsz : 0 < size)
    (v : Value) (n : Nat) (xs : List Value) (hown : w.ownsRow base e size v n xs)
    (B : Nat) (A : Option Addr) (m c : Nat) (news : List Value) (hr : Reads w B size A m news) (h1 : ∀ u ∈ news, u.oneCell' = true)
    (h63 : n + m ≤ maxLen) (hbytes : (n + m) * bytes ≤ 140737488355328) (hbase : base ≤ w.heap.size) :
    ∃ v' w', (Builtin.append_ #[t, t] ty #[v, .slice A m c]).run P w = .ok v' w' ∧ w'.ownsRow base e size v' (n + m) (xs ++ news) ∧ w.grownBy w' v.ownBlock ∧
      (v'.ownBlock = v.ownBlock ∨ v'.ownBlock = some w.heap.size) := by
  rcases A with _ | ad
  · have hm : m = 0 := by
      rcases Nat.eq_zero_or_pos m with h0 | h0
      · exact h0
      · obtain ⟨ad, h, _⟩ := hr.2 h0
        cases h
    subst hm
    have hn : news = [] := List.eq_nil_of_length_eq_zero (by simpa using hr.1)
    subst hn
    exact ⟨v, w, run_append_of_nil w base t ty e i size ht hi v n xs hown c, by simpa using hown, World.grownBy.refl w _, .inl rfl⟩
  · have hcells : ∀ j u, news[j]? = some u → w.cell? (ad.add j) = some u := by
      intro j u hu
      rcases Nat.eq_zero_or_pos m with h0 | h0
      · subst h0
        have hn : news = [] := List.eq_nil_of_length_eq_zero (by simpa using hr.1)
        subst hn
        simp at hu
      · obtain ⟨ad', h, _, hc⟩ := hr.2 h0
        injection h with h
        subst h
        exact hc j u hu
    obtain ⟨v', w', hrun, h2, h3, _, h5⟩ := run_append_own_at (P := P) w base t ty e i z size bytes ht hi hz hsize hby hzs hsz v n xs hown ad m c news hr.1 hcells h1 h63 hbytes hbase
    exact ⟨v', w', hrun, h2, h3, h5⟩

theorem wp_append_any {o : Oper} {a : Act} {K : Act → World → Prop} {Q : Exit → Act → World → Prop} (s x : Operand) (t : TypeId)
    (ho : o.op = .call { callee := .builtin .append, args := #[s, x], argTypes := #[t, t] })
    (base : Nat) (e : TypeId) (i : TypeInfo) (z : Value) (size bytes : Nat) (ht : P.underlying t = some (.slice e)) (hi : P.info? e = some i) (hz : i.zero = some z)
    (hsize : i.size = size) (hby : i.bytes = bytes) (hzs : z.cells.size = size) (hsz : 0 < size)
    (v : Value) (n : Nat) (xs : List Value) (hs : a.eval s = v) (hown : w.ownsRow base e size v n xs)
    (B : Nat) (A : Option Addr) (m c : Nat) (news : List Value) (hx : a.eval x = .slice A m c) (hr : Reads w B size A m news) (h1 : ∀ u ∈ news, u.oneCell' = true)
    (h63 : n + m ≤ maxLen) (hbytes : (n + m) * bytes ≤ 140737488355328) (hbase : base ≤ w.heap.size)
    (h : ∀ v' w', w'.ownsRow base e size v' (n + m) (xs ++ news) → w.grownBy w' v.ownBlock → (v'.ownBlock = v.ownBlock ∨ v'.ownBlock = some w.heap.size) → K (a.put o.dst v') w') : o.wp P a w K Q := by
  obtain ⟨v', w', hrun, h2, h3, h4⟩ := run_append_any (P := P) w base t o.type e i z size bytes ht hi hz hsize hby hzs hsz v n xs hown B A m c news hr h1 h63 hbytes hbase
  unfold Oper.wp execOp
  simp only [ho, resolve, invoke, builtin, Sem.run_bind, Sem.run_pure, Result.andThen_ok, List.map_toArray, List.map_cons, List.map_nil, hs, hx, hrun]
  exact h v' w' h2 h3 h4

theorem wpList_append_any {ops : Array Oper} {rest : List Oper} {o : Oper} {a : Act} {Q : Exit → Act → World → Prop} (hgd : o.guard = none) (s x : Operand) (t : TypeId)
    (ho : o.op = .call { callee := .builtin .append, args := #[s, x], argTypes := #[t, t] })
    (base : Nat) (e : TypeId) (i : TypeInfo) (z : Value) (size bytes : Nat) (ht : P.underlying t = some (.slice e)) (hi : P.info? e = some i) (hz : i.zero = some z)
    (hsize : i.size = size) (hby : i.bytes = bytes) (hzs : z.cells.size = size) (hsz : 0 < size)
    (v : Value) (n : Nat) (xs : List Value) (hs : a.eval s = v) (hown : w.ownsRow base e size v n xs)
    (B : Nat) (A : Option Addr) (m c : Nat) (news : List Value) (hx : a.eval x = .slice A m c) (hr : Reads w B size A m news) (h1 : ∀ u ∈ news, u.oneCell' = true)
    (h63 : n + m ≤ maxLen) (hbytes : (n + m) * bytes ≤ 140737488355328) (hbase : base ≤ w.heap.size)
    (h : ∀ v' w', w'.ownsRow base e size v' (n + m) (xs ++ news) → w.grownBy w' v.ownBlock → (v'.ownBlock = v.ownBlock ∨ v'.ownBlock = some w.heap.size) → wpList P ops Q rest (a.put o.dst v') w') : wpList P ops Q (o :: rest) a w :=
  wpList_plain hgd fun _ hK => wp_append_any w s x t ho base e i z size bytes ht hi hz hsize hby hzs hsz v n xs hs hown B A m c news hx hr h1 h63 hbytes hbase fun v' w' h2 h3 h4 => hK _ _ (h v' w' h2 h3 h4)

theorem step_append_any {ops : Array Oper} {o : Oper} {a : Act} {K : Act → World → Prop} {Q : Exit → Act → World → Prop} {E : Prop} (hgd : o.guard = none) (s x : Operand) (t : TypeId)
    (ho : o.op = .call { callee := .builtin .append, args := #[s, x], argTypes := #[t, t] })
    (base : Nat) (e : TypeId) (i : TypeInfo) (z : Value) (size bytes : Nat) (ht : P.underlying t = some (.slice e)) (hi : P.info? e = some i) (hz : i.zero = some z)
    (hsize : i.size = size) (hby : i.bytes = bytes) (hzs : z.cells.size = size) (hsz : 0 < size)
    (v : Value) (n : Nat) (xs : List Value) (hs : a.eval s = v) (hown : w.ownsRow base e size v n xs)
    (B : Nat) (A : Option Addr) (m c : Nat) (news : List Value) (hx : a.eval x = .slice A m c) (hr : Reads w B size A m news) (h1 : ∀ u ∈ news, u.oneCell' = true)
    (h63 : n + m ≤ maxLen) (hbytes : (n + m) * bytes ≤ 140737488355328) (hbase : base ≤ w.heap.size)
    (h : ∀ v' w', w'.ownsRow base e size v' (n + m) (xs ++ news) → w.grownBy w' v.ownBlock → (v'.ownBlock = v.ownBlock ∨ v'.ownBlock = some w.heap.size) → K (a.put o.dst v') w') :
    if Region.wanted o (yielded ops a.tmps) = true then Oper.wp P o a w K Q else E := by
  have hw : Region.wanted o (yielded ops a.tmps) = true := by simp [Region.wanted, hgd]
  rw [if_pos hw]
  exact wp_append_any w s x t ho base e i z size bytes ht hi hz hsize hby hzs hsz v n xs hs hown B A m c news hx hr h1 h63 hbytes hbase h
end

theorem ret_slice {A : Option Addr} {n m c : Nat} (h : n = m) : Ending.returned (.slice A n c) = Ending.returned (.slice A m c) := by rw [h]
theorem ret_int {k : IntKind} {a b : Int} (h : a = b) : Ending.returned (.int k a) = Ending.returned (.int k b) := by rw [h]
theorem ret_bool {a b : Bool} (h : a = b) : Ending.returned (.bool a) = Ending.returned (.bool b) := by rw [h]
theorem Hid.mk_ {p : Prop} (h : p) : Hid p := h
/-- The call returned a bool of which P holds. -/
def RetB (P : Bool → Prop) (e : Ending) : Prop := ∃ r, e = .returned (.bool r) ∧ P r
/-- All that was there is as it was. -/
def Ext (w w' : World) : Prop := Below w.heap.size w w'
section
variable {w w' w1 w2 : World}
theorem Ext.refl (w : World) : Ext w w := Below.refl _ _
theorem Ext.trans (h : Ext w w1) (k : Ext w1 w2) : Ext w w2 := Below.trans h (Below.mono k h.size)
theorem Ext.drew (h : Ext w w1) : Ext w w1.drew := Below.drew h
theorem Ext.drewN (h : Ext w w1) (n : Nat) : Ext w (w1.drewN n) := ⟨h.os, h.tape, h.output, h.size, h.block⟩
theorem Ext.alloc (h : Ext w w1) (o : Obj) : Ext w (w1.alloc o) := Below.alloc h h.size o
theorem Ext.set_ (h : Ext w w1) {p : Addr} (hp : w.heap.size ≤ p.block) (u : Value) : Ext w (w1.setCell p u) := Below.setCell h hp u
theorem Ext.grown {row : Option Nat} (h : Ext w w1) (hg : w1.grownBy w2 row) (hr : ∀ k, row = some k → w.heap.size ≤ k) : Ext w w2 := Below.grown h hg h.size hr
theorem Ext.of_grown (hg : w.grownBy w1 none) : Ext w w1 := (Ext.refl w).grown hg (by simp)
theorem Ext.size_le (h : Ext w w1) : w.heap.size ≤ w1.heap.size := Below.size h
theorem Ext.grownBy (h : Ext w w1) (row : Option Nat) : w.grownBy w1 row := ⟨h.os, h.tape, h.output, h.size, fun k hk _ => h.block k hk⟩
/-- The row r' is r, or was made at a time when there were B blocks. -/
def NewOr (B : Nat) (r r' : Option Nat) : Prop := ∀ k, r' = some k → B ≤ k ∨ r = some k
theorem NewOr.refl (B : Nat) (r : Option Nat) : NewOr B r r := fun _ h => .inr h
theorem NewOr.trans {B B' : Nat} {r r' r'' : Option Nat} (h : NewOr B r r') (k : NewOr B' r' r'') (hB : B ≤ B') : NewOr B r r'' := fun j hj => by
  rcases k j hj with h1 | h1
  · left; omega
  · exact h j h1
theorem NewOr.of_ge {B : Nat} {r r' : Option Nat} (h : ∀ k, r' = some k → B ≤ k) : NewOr B r r' := fun k hk => .inl (h k hk)
theorem NewOr.ge {B : Nat} {r r' : Option Nat} (h : NewOr B r r') (hr : ∀ k, r = some k → B ≤ k) : ∀ k, r' = some k → B ≤ k := fun k hk => by
  rcases h k hk with h1 | h1
  · exact h1
  · exact hr k h1
theorem NewOr.mono {B B' : Nat} {r r' : Option Nat} (h : NewOr B r r') (hB : B' ≤ B) : NewOr B' r r' := fun j hj => by
  rcases h j hj with h1 | h1
  · left; omega
  · exact .inr h1
/-- A row below B other than r is other than r'. -/
theorem NewOr.ne {B : Nat} {r r' x : Option Nat} (h : NewOr B r r') (hx : ∀ k, x = some k → k < B) (hne : x = none ∨ x ≠ r) : x = none ∨ x ≠ r' := by
  cases x with
  | none => exact .inl rfl
  | some j =>
    right
    intro e
    rcases h j e.symm with h1 | h1
    · have := hx j rfl; omega
    · rcases hne with h2 | h2
      · cases h2
      · exact h2 h1.symm
theorem ne_of_lt {B : Nat} {r x : Option Nat} (hx : ∀ k, x = some k → B ≤ k) (hr : ∀ k, r = some k → k < B) : x = none ∨ x ≠ r := by
  cases x with
  | none => exact .inl rfl
  | some j =>
    right
    intro e
    have h1 := hx j rfl
    have h2 := hr j e.symm
    omega
theorem ne_of_lt' {B : Nat} {r x : Option Nat} (hx : ∀ k, x = some k → k < B) (hr : ∀ k, r = some k → B ≤ k) : x = none ∨ x ≠ r := by
  cases x with
  | none => exact .inl rfl
  | some j =>
    right
    intro e
    have h1 := hx j rfl
    have h2 := hr j e.symm
    omega
theorem ne_lt {B : Nat} {x : Option Nat} (hx : ∀ k, x = some k → k < B) : x = none ∨ x ≠ some B := by
  cases x with
  | none => exact .inl rfl
  | some j =>
    right
    intro e
    injection e with e
    have h1 := hx j rfl
    omega
theorem grown_drew {r : Option Nat} (h : w.grownBy w1 r) : w.grownBy w1.drew r := ⟨h.os, h.tape, h.output, h.size, h.block⟩
theorem grown_drewN {r : Option Nat} (h : w.grownBy w1 r) (n : Nat) : w.grownBy (w1.drewN n) r := ⟨h.os, h.tape, h.output, h.size, h.block⟩
theorem grown_step {r r2 : Option Nat} (h : w.grownBy w1 r) (k : w1.grownBy w2 r2) (hr : NewOr w.heap.size r r2) : w.grownBy w2 r :=
  ⟨k.os.trans h.os, k.tape.trans h.tape, k.output.trans h.output, Nat.le_trans h.size k.size, fun j hj hne =>
    (k.block j (Nat.lt_of_lt_of_le hj h.size) (fun e => by
      rcases hr j e.symm with h1 | h1
      · omega
      · exact hne h1.symm)).trans (h.block j hj hne)⟩
end

section
variable {P : Program} (w : World)
/-- append(b, s...) of a string's bytes: where the row lies afterwards. -/
theorem run_append_str_at (base : Nat) (t u ty e : TypeId) (i : TypeInfo) (ht : P.underlying t = some (.slice e)) (hu : P.underlying u = some .string) (hi : P.info? e = some i) (hz : i.zero = some (.int .u8 0))
    (hsize : i.size = 1) (hby : i.bytes = 1) (v : Value) (n : Nat) (xs : List Value) (hown : w.ownsRow base e 1 v n xs) (s : ByteArray)
    (hb : n + s.size ≤ 140737488355328) (hbase : base ≤ w.heap.size) :
    ∃ v' w', (Builtin.append_ #[t, u] ty #[v, .string s]).run P w = .ok v' w' ∧ w'.ownsRow base e 1 v' (n + s.size) (xs ++ Lib.strCells s) ∧ w.grownBy w' v.ownBlock ∧ NewOr w.heap.size v.ownBlock v'.ownBlock := by
  have h63 : n + s.size ≤ maxLen := by simp only [maxLen]; omega
  obtain ⟨v', w', hr, h2, h3, _⟩ := Lib.run_append_own_string (P := P) w base t u ty e i ht hu hi hz hsize hby v n xs hown s h63 hb hbase
  refine ⟨v', w', hr, h2, h3, ?_⟩
  rcases hown.2 with ⟨rfl, rfl⟩ | ⟨g, cap, cur, rfl, _, hg, hnc, _, hcs, _⟩
  · have hx : xs = [] := List.eq_nil_of_length_eq_zero (by simpa using hown.1)
    subst hx
    obtain ⟨v1, w1, hr1, h5, _⟩ := Lib.run_append_own_string (P := P) w w.heap.size t u ty e i ht hu hi hz hsize hby _ 0 [] (World.ownsRow_nil w w.heap.size e 1) s h63 hb (Nat.le_refl _)
    rw [hr] at hr1
    injection hr1 with hv _
    subst hv
    exact NewOr.of_ge fun k hk => (h5.lt k hk).1
  · by_cases hroom : n + s.size ≤ cap
    · have hr1 := Lib.run_append_room_string (P := P) w t u ty e i ht hu hi hsize g n cap cur hg s hroom (by omega)
      rw [hr] at hr1
      injection hr1 with hv _
      rw [hv]
      exact NewOr.refl _ _
    · have hr1 := Lib.run_append_grow_string (P := P) w t u ty e i (.int .u8 0) ht hu hi hz ⟨g, 0, none⟩ n cap xs (by rw [hsize]; exact hown.1) (hown.cells (g := g) rfl) s (by omega) (by omega) (by rw [hby]; exact growslice_fits (by omega) (by omega))
      rw [hr] at hr1
      injection hr1 with hv _
      rw [hv]
      refine NewOr.of_ge fun k hk => ?_
      simp only [Value.ownBlock, Option.some.injEq] at hk
      omega
end

end Go.Proofs.YtdgppdiickmofaaGreatDoor

/- Two closed facts of the program. -/
namespace Go.Proofs.YtdgppdiickmofaaGreatDoor
open Go.RowKit
theorem ownK : ownKnob Tryz.prog.godebug = none := by kernel_rfl
theorem laidK : laidOutB Tryz.prog = true := by kernel_rfl
theorem later {w w' : World} {a : Addr} {v : Value} (hE : Ext w w') (h : w.cell? a = some v) : w'.cell? a = some v :=
  (Below.cell hE (World.block_lt_of_cell? w _ h)).trans h
end Go.Proofs.YtdgppdiickmofaaGreatDoor

/- Frames as rules of the walk: a cell that was there is as it was. -/
namespace Go.Proofs.YtdgppdiickmofaaGreatDoor
open Go.RowKit
theorem ext_refl_t (w : World) : Ext w w = True := eq_true (Ext.refl w)
theorem ext_alloc_t {w w1 : World} (o : Obj) (h : Ext w w1) : Ext w (w1.alloc o) = True := eq_true (h.alloc o)
theorem ext_drew_t {w w1 : World} (h : Ext w w1) : Ext w w1.drew = True := eq_true h.drew
theorem ext_drewN_t {w w1 : World} (n : Nat) (h : Ext w w1) : Ext w (w1.drewN n) = True := eq_true (h.drewN n)
theorem ext_alloc2_t {w w1 : World} (o0 o1 : Obj) (h : Ext w w1) : Ext w ((w1.alloc o0).alloc o1) = True := eq_true ((h.alloc o0).alloc o1)
theorem ext_alloc2d_t {w w1 : World} (o0 o1 : Obj) (h : Ext w w1) : Ext w ((w1.alloc o0).alloc o1).drew = True := eq_true ((h.alloc o0).alloc o1).drew
theorem ext_alloc3_t {w w1 : World} (o0 o1 o2 : Obj) (h : Ext w w1) : Ext w (((w1.alloc o0).alloc o1).alloc o2) = True := eq_true (((h.alloc o0).alloc o1).alloc o2)
theorem ext_alloc3d_t {w w1 : World} (o0 o1 o2 : Obj) (h : Ext w w1) : Ext w (((w1.alloc o0).alloc o1).alloc o2).drew = True := eq_true (((h.alloc o0).alloc o1).alloc o2).drew
theorem ext_alloc4_t {w w1 : World} (o0 o1 o2 o3 : Obj) (h : Ext w w1) : Ext w ((((w1.alloc o0).alloc o1).alloc o2).alloc o3) = True := eq_true ((((h.alloc o0).alloc o1).alloc o2).alloc o3)
theorem ext_alloc4d_t {w w1 : World} (o0 o1 o2 o3 : Obj) (h : Ext w w1) : Ext w ((((w1.alloc o0).alloc o1).alloc o2).alloc o3).drew = True := eq_true ((((h.alloc o0).alloc o1).alloc o2).alloc o3).drew
theorem ext_alloc5_t {w w1 : World} (o0 o1 o2 o3 o4 : Obj) (h : Ext w w1) : Ext w (((((w1.alloc o0).alloc o1).alloc o2).alloc o3).alloc o4) = True := eq_true (((((h.alloc o0).alloc o1).alloc o2).alloc o3).alloc o4)
theorem ext_alloc6_t {w w1 : World} (o0 o1 o2 o3 o4 o5 : Obj) (h : Ext w w1) : Ext w ((((((w1.alloc o0).alloc o1).alloc o2).alloc o3).alloc o4).alloc o5) = True := eq_true ((((((h.alloc o0).alloc o1).alloc o2).alloc o3).alloc o4).alloc o5)
theorem ext_alloc7_t {w w1 : World} (o0 o1 o2 o3 o4 o5 o6 : Obj) (h : Ext w w1) : Ext w (((((((w1.alloc o0).alloc o1).alloc o2).alloc o3).alloc o4).alloc o5).alloc o6) = True := eq_true (((((((h.alloc o0).alloc o1).alloc o2).alloc o3).alloc o4).alloc o5).alloc o6)
theorem ext_alloc8_t {w w1 : World} (o0 o1 o2 o3 o4 o5 o6 o7 : Obj) (h : Ext w w1) : Ext w ((((((((w1.alloc o0).alloc o1).alloc o2).alloc o3).alloc o4).alloc o5).alloc o6).alloc o7) = True := eq_true ((((((((h.alloc o0).alloc o1).alloc o2).alloc o3).alloc o4).alloc o5).alloc o6).alloc o7)
theorem ext_alloc1d_t {w w1 : World} (o : Obj) (h : Ext w w1) : Ext w (w1.alloc o).drew = True := eq_true (h.alloc o).drew
/-- A cell that holds a value, now and later. -/
theorem laters {w : World} {a : Addr} {v : Value} (h : w.cell? a = some v) : ∀ W, Ext w W → W.cell? a = some v := fun _ hE => later hE h
end Go.Proofs.YtdgppdiickmofaaGreatDoor

/- A region that draws its order, whose operations read and whose callees leave all that was there as it was: one walk, in the order of the text. -/
namespace Go.Proofs.YtdgppdiickmofaaGreatDoor
open Go.RowKit
/-- The worlds in which all that was there in w is as it was. -/
structure ExtOf (w : World) where
  val : World
  ext : Ext w val
instance (w : World) : Nonempty (ExtOf w) := ⟨⟨w, Ext.refl w⟩⟩
theorem latersU {w : World} {a : Addr} {v : Value} (h : w.cell? a = some v) : ∀ u : ExtOf w, u.val.cell? a = some v := fun u => later u.ext h
theorem Calls.quiet_ext {P : Program} {f : FuncId} {args : Array Value} {w : World} {u : ExtOf w} {v : Value}
    (h : Calls P f args u.1 fun e w' => e = .returned v ∧ Ext u.1 w') : Calls P f args u.1 fun e w'' => e = .returned v ∧ ∃ u' : ExtOf w, w'' = u'.1 :=
  h.mono fun _ w'' ⟨he, hE⟩ => ⟨he, ⟨w'', u.ext.trans hE⟩, rfl⟩
theorem wp_region_ext_lit {P : Program} {id : Nat} {Q : Exit → Act → World → Prop} {a : Act} {w : World} {l : List Oper} (hm : P.follows .mixedOrders = true) (hB : Region.lexB .any l.toArray = true)
    (h : wpQuiet P l.toArray (fun w' => ∃ u : ExtOf w, w' = u.1) (fun a' => ∀ w', (∃ u : ExtOf w, w' = u.1) → Q .normal a' w') l a) : (Code.region id l.toArray true).wp P Q a w :=
  wp_region_quiet (C := fun w' => ∃ u : ExtOf w, w' = u.1) hm hB ⟨⟨w.drew, (Ext.refl w).drew⟩, rfl⟩ (by simpa using h)
end Go.Proofs.YtdgppdiickmofaaGreatDoor

/- A region that draws its order: at first operations that read and calls that leave all that was there as it was, then a tail in one forced order: one walk of the head in the order of the text, in every world of a class, then the tail as a plain list.
   (Over the kit's Derived/StillTail.lean and Derived/Deep/Quiet.lean: its statement for one world, carried over to a class of worlds.) -/
namespace Go.Proofs.YtdgppdiickmofaaGreatDoor
open Go.RowKit
section
variable {P : Program} {ops : Array Oper} {md : Region.Mode} {C : World → Prop}
/-- The head's operations come up one by one, each quiet, and then L. -/
def AnyT (P : Program) (md : Region.Mode) (ops : Array Oper) (C : World → Prop) (n : Nat) (L : Array Bool → Act → Prop) : Nat → Array Bool → Act → Prop
  | 0, listed, a => L listed a
  | f + 1, listed, a => Region.ready md ops listed ≠ [] ∧ ∀ i ∈ Region.ready md ops listed, i < n ∧ qOp P ops C i (AnyT P md ops C n L f (listed.setIfInBounds i true)) a
theorem AnyT.any {n g : Nat} {L : Array Bool → Act → Prop} {Q' : Exit → Act → World → Prop} (hL : ∀ listed a w, C w → L listed a → wpAny P md ops Q' g listed a w) :
    ∀ (f : Nat) (listed : Array Bool) (a : Act) (w : World), C w → AnyT P md ops C n L f listed a → wpAny P md ops Q' (f + g) listed a w
  | 0, listed, a, w, hw, h => by rw [Nat.zero_add]; exact hL _ _ _ hw h
  | f + 1, listed, a, w, hw, h => by
    rw [show f + 1 + g = (f + g) + 1 by omega]
    exact ⟨fun h0 => absurd h0 h.1, fun i hi => wpOp_of_qOp hw (fun a' w' hw' h' => AnyT.any hL f _ a' w' hw' h') (h.2 i hi).2⟩
theorem AnyT.take {n i : Nat} {oi : Oper} {v : Value} {L : Array Bool → Act → Prop} (hi : ops[i]? = some oi) (hsel : ∀ (j : Nat) (o : Oper) cs b, ops[j]? = some o → o.op ≠ .select cs b)
    (hs : Region.sinkB md ops n = true) (hc : Region.chainB md ops n = true) (hn : n < ops.size) (hin : i < n) (hdone : ∀ listed a, L listed a → ∀ j ∈ Region.ready md ops listed, n ≤ j) :
    ∀ (f : Nat) (listed : Array Bool) (a : Act), HeadInv md ops n listed →
      (∀ j oj, ops[j]? = some oj → j ≠ i → listed.getD j true = false → (∀ e ∈ oj.after, Region.binds md e = true → e.on ≠ i) → oi.apart ops oj = true) →
      i ∈ Region.ready md ops listed → YieldsIn P ops C oi v a →
      AnyT P md ops C n L f (listed.setIfInBounds i true) (a.put oi.dst v) → AnyT P md ops C n L (f + 1) listed a := by
  intro f
  induction f with
  | zero =>
    intro listed a inv _ hr hy H
    have hun := (mem_ready.1 hr).1
    refine ⟨fun h => (by rw [h] at hr; cases hr), fun j hj => ?_⟩
    have hjn : j < n := (Nat.lt_or_ge j n).resolve_right fun h => tail_waits hs hc hn inv _ i rfl hin hun j h hj
    refine ⟨hjn, ?_⟩
    by_cases hji : j = i
    · subst hji; exact hy.qOp hi H
    · have := hdone _ _ H j (ready_mono hj hji)
      omega
  | succ f ih =>
    intro listed a inv hfree hr hy H
    have hun := (mem_ready.1 hr).1
    refine ⟨fun h => (by rw [h] at hr; cases hr), fun j hj => ?_⟩
    have hjn : j < n := (Nat.lt_or_ge j n).resolve_right fun h => tail_waits hs hc hn inv _ i rfl hin hun j h hj
    refine ⟨hjn, ?_⟩
    by_cases hji : j = i
    · subst hji; exact hy.qOp hi H
    · have h1 := (H.2 j (ready_mono hj hji)).2
      obtain ⟨hjun, oj, hoj, hall⟩ := mem_ready.1 hj
      have hnot : ∀ e ∈ oj.after, Region.binds md e = true → e.on ≠ i := fun e he hb heq => by
        have h2 := hall e he hb
        rw [heq, getD_both hun] at h2
        cases h2
      have h2 := qOp_put hoj (hfree j oj hoj hji hjun hnot) (fun cs b => hsel i oi cs b hi) (fun cs b => hsel j oj cs b hoj) hy h1
      refine qOp_mono (fun a' h3 => ih (listed.setIfInBounds j true) a' (inv.set hj hjn) (fun k ok hk hki hun' hno => ?_) (ready_mono hr (Ne.symm hji)) h3.1 ?_) h2
      · refine hfree k ok hk hki ?_ hno
        by_cases hjk : j = k
        · subst hjk; exact hjun
        · rw [getD_set_ne true hjk] at hun'; exact hun'
      · rw [Array.setIfInBounds_comm _ _ hji]
        exact h3.2
theorem AnyT.lex {n g : Nat} {Lq : Act → Prop} (hsel : Region.noSelect ops = true) (hs : Region.sinkB md ops n = true) (hc : Region.chainB md ops n = true) (hn : n < ops.size) :
    ∀ (l : List Oper) (k : Nat) (listed : Array Bool) (a : Act), (∀ j, j < l.length → l[j]? = ops[k + j]?) → k + l.length = n → HeadInv md ops n listed →
    Region.lexHead md ops g l.length k listed = true → wpQuiet P ops C Lq l a →
    AnyT P md ops C n (fun listed' a' => Region.seqB md ops g n listed' = true ∧ Lq a') l.length listed a
  | [], k, listed, a, _, hk, _, hB, h => by
    have : k = n := by simpa using hk
    subst this
    exact ⟨by simpa [Region.lexHead] using hB, h⟩
  | o :: l, k, listed, a, hl, hk, inv, hB, h => by
    have h0 : ops[k]? = some o := by simpa using (hl 0 (by simp)).symm
    simp only [List.length_cons, Region.lexHead, Bool.and_eq_true] at hB
    obtain ⟨⟨hr, hf⟩, hB'⟩ := hB
    have hkn : k < n := by simp only [List.length_cons] at hk; omega
    have hr' : k ∈ Region.ready md ops listed := by simpa using hr
    have hst : qOp P ops C k (wpQuiet P ops C Lq l) a := by unfold qOp; simp only [h0]; exact h
    obtain ⟨v, hy, hK⟩ := yieldsIn_of_qOp h0 hst
    exact AnyT.take h0 (Region.noSelect_spec hsel) hs hc hn hkn (fun listed' a' hL => seqB_ready hL.1) l.length listed a inv (Region.free_spec h0 hf) hr' hy
      (AnyT.lex hsel hs hc hn l (k + 1) _ _ (fun j hj => by have := hl (j + 1) (by simp; omega); simpa [Nat.add_assoc, Nat.add_comm 1 j] using this) (by simp only [List.length_cons] at hk; omega) (inv.set hr' hkn) hB' hK)
/-- The head in one walk, in every world of the class; then the tail as a plain list. -/
theorem wp_region_quiet_tail {id : Nat} {Q : Exit → Act → World → Prop} {a : Act} {w : World} {l : List Oper} (n : Nat) (hm : P.follows .mixedOrders = true) (hB : Region.lexTailB .any l.toArray n = true) (hC : C { w with drawn := w.drawn + 1 })
    (h : wpQuiet P l.toArray C (fun a' => ∀ w', C w' → wpList P l.toArray Q (l.drop n) a' w') (l.take n) a) : (Code.region id l.toArray true).wp P Q a w := by
  simp only [Region.lexTailB, Bool.and_eq_true, decide_eq_true_eq] at hB
  obtain ⟨⟨⟨⟨hsel, hn⟩, hs⟩, hc⟩, hlex⟩ := hB
  have hn' : n < l.length := by simpa using hn
  have htl : (l.take n).length = n := by simp; omega
  have hdl : (l.drop n).length = l.toArray.size - n := by simp
  have inv0 : HeadInv .any l.toArray n (Array.replicate l.toArray.size false) :=
    ⟨by simp, fun j oj _ hl => (by rw [getD_replicate_false] at hl; cases hl), fun t _ ht => getD_in (by simpa using ht) (getD_replicate_false _ _)⟩
  have H := AnyT.lex (C := C) (md := .any) (g := l.toArray.size - n) hsel hs hc hn (l.take n) 0 _ a (fun j hj => by
    have hj' : j < n := by rw [htl] at hj; exact hj
    simp [hj']) (by simpa using htl) inv0 (by rw [htl]; exact hlex) h
  refine wp_region_any hm ?_
  have h2 := AnyT.any (Q' := Q) (g := l.toArray.size - n) (fun listed a' w' hw' hL => by
    have h3 := wpAny_of_seq (md := .any) (Q' := Q) (l.drop n) n listed a' w' (fun j => by simp [List.getElem?_drop]) (by rw [hdl]; exact hL.1) (hL.2 w' hw')
    rwa [hdl] at h3) _ _ _ _ hC H
  rw [htl, show n + (l.toArray.size - n) = l.toArray.size by omega] at h2
  exact h2
/-- At the class of the worlds in which all that was there is as it was. -/
theorem wp_region_ext_tail {id : Nat} {Q : Exit → Act → World → Prop} {a : Act} {w : World} {l : List Oper} (n : Nat) (hm : P.follows .mixedOrders = true) (hB : Region.lexTailB .any l.toArray n = true)
    (h : wpQuiet P l.toArray (fun w' => ∃ u : ExtOf w, w' = u.1) (fun a' => ∀ w', (∃ u : ExtOf w, w' = u.1) → wpList P l.toArray Q (l.drop n) a' w') (l.take n) a) : (Code.region id l.toArray true).wp P Q a w :=
  wp_region_quiet_tail (C := fun w' => ∃ u : ExtOf w, w' = u.1) n hm hB ⟨⟨w.drew, (Ext.refl w).drew⟩, rfl⟩ h
end
end Go.Proofs.YtdgppdiickmofaaGreatDoor

/- Byte slices: what it means that a slice holds a list of bytes; appending, cloning. -/
namespace Go.Proofs.YtdgppdiickmofaaGreatDoor
open Go.RowKit
set_option maxRecDepth 100000

/-- The block in which a slice lies. -/
def ob (A : Option Addr) : Option Nat := A.map Addr.block
theorem ob_own (A : Option Addr) (n c : Nat) : (Value.slice A n c).ownBlock = ob A := by cases A <;> rfl

/-- A byte as a cell's value. -/
def bv (b : UInt8) : Value := .int .u8 (b.toNat : Int)
theorem bv_one (l : List UInt8) : ∀ u ∈ l.map bv, u.oneCell' = true := by
  intro u hu
  obtain ⟨b, _, rfl⟩ := List.mem_map.1 hu
  rfl

/-- The slice value (A, m, _) holds the bytes l. -/
structure SlB (w : World) (A : Option Addr) (m : Nat) (l : List UInt8) : Prop where
  rd : Reads w w.heap.size 1 A m (l.map bv)
  len : m = l.length
  le : m ≤ 140737488355328
/-- The slice value (A, m, c) is the call's own and holds the bytes l. -/
structure OsB (w : World) (base : Nat) (A : Option Addr) (m c : Nat) (l : List UInt8) : Prop where
  own : w.ownsRow base 5 1 (.slice A m c) m (l.map bv)
  len : m = l.length
  le : m ≤ 140737488355328

section
variable {w w' : World} {A : Option Addr} {m c : Nat} {l : List UInt8} {base : Nat}
theorem SlB.nil_ : SlB w none 0 [] := ⟨Reads.none_, rfl, by omega⟩
theorem SlB.ext (h : SlB w A m l) (hE : Ext w w') : SlB w' A m l := ⟨Reads.more (Reads.below h.rd hE) hE.size_le, h.len, h.le⟩
theorem SlB.kept {r : Option Nat} (h : SlB w A m l) (hg : w.grownBy w' r) (h2 : ob A = none ∨ ob A ≠ r) : SlB w' A m l := by
  refine ⟨⟨h.rd.1, fun hn => ?_⟩, h.len, h.le⟩
  obtain ⟨ad, e, hb, hc⟩ := h.rd.2 hn
  refine ⟨ad, e, Nat.lt_of_lt_of_le hb hg.size, fun j u hu => ?_⟩
  have hne : some (ad.add j).block ≠ r := by
    rw [block_of_add]
    subst e
    rcases h2 with h2 | h2
    · cases h2
    · exact h2
  exact hg.cell (hc j u hu) hne
theorem SlB.at_ {k : Nat} (h : SlB w A m l) (hk : k < m) : ∃ b off, A = some ⟨b, off, none⟩ ∧ b < w.heap.size ∧ ∀ j (hj : j < l.length), w.cell? ⟨b, off + j, none⟩ = some (.int .u8 (l[j].toNat : Int)) := by
  have hl := h.len
  obtain ⟨⟨b, off, sp⟩, hA, hbl, hc⟩ := h.rd.2 (by omega)
  have h0 := hc 0 (bv l[0]) (by simp [List.getElem?_eq_getElem (show 0 < l.length by omega)])
  have hsp : sp = none := by
    cases sp with
    | none => rfl
    | some s =>
      simp only [Addr.add, if_pos, World.cell?] at h0
      split at h0
      · simp at h0
      · cases h0
  subst hsp
  refine ⟨b, off, hA, hbl, fun j hj => ?_⟩
  have := hc j (bv l[j]) (by simp [hj])
  rw [Addr.add_lit] at this
  exact this
/-- A cut s[i:j] reads as the cut of the list. -/
theorem SlB.cut (h : SlB w A m l) {i j cap : Nat} (hij : i ≤ j) (hj : j ≤ m) (hc : m ≤ cap) :
    SlB w (if cap = i then A else A.map (·.add i)) (j - i) ((l.take j).drop i) := by
  have hl := h.len
  have h1 := Reads.cut h.rd (k := i) (cap := cap) (by omega) hc
  refine ⟨⟨by simp; omega, fun hn => ?_⟩, by simp; omega, by have := h.le; omega⟩
  obtain ⟨ad, e, hb, hcell⟩ := h1.2 (by omega)
  refine ⟨ad, by simpa using e, hb, fun k u hu => ?_⟩
  refine hcell k u ?_
  rw [← hu]
  have hk : k < j - i := by
    have : k < ((l.take j).drop i).length := by
      rcases Nat.lt_or_ge k ((l.take j).drop i).length with h2 | h2
      · exact h2
      · rw [List.getElem?_eq_none (by simpa using h2)] at hu; cases hu
    simp at this
    omega
  simp [List.getElem?_drop, List.getElem?_map, show i + k < j by omega]
theorem OsB.ge (h : OsB w base A m c l) : ∀ k, ob A = some k → base ≤ k := fun k hk => (World.ownsRow.lt h.own k (by rw [ob_own]; exact hk)).1
theorem OsB.lt (h : OsB w base A m c l) : ∀ k, ob A = some k → k < w.heap.size := fun k hk => (World.ownsRow.lt h.own k (by rw [ob_own]; exact hk)).2
theorem OsB.nil_ : OsB w base none 0 0 [] := ⟨World.ownsRow_nil _ _ _ _, rfl, by omega⟩
theorem OsB.ext (h : OsB w base A m c l) (hE : Ext w w') : OsB w' base A m c l := ⟨World.ownsRow.kept h.own (hE.grownBy none) (by rw [ob_own]; cases hv : ob A <;> simp), h.len, h.le⟩
theorem OsB.kept {row : Option Nat} (h : OsB w base A m c l) (hg : w.grownBy w' row) (hne : ob A = none ∨ ob A ≠ row) : OsB w' base A m c l := ⟨World.ownsRow.kept h.own hg (by rw [ob_own]; exact hne), h.len, h.le⟩
theorem OsB.sl (h : OsB w base A m c l) : SlB w A m l := ⟨Reads.of_own h.own, h.len, h.le⟩
theorem OsB.mono {base' : Nat} (h : OsB w base A m c l) (hb : base' ≤ base) : OsB w base' A m c l := by
  refine ⟨⟨h.own.1, ?_⟩, h.len, h.le⟩
  rcases h.own.2 with hn | ⟨g, cap, cur, hv, hg, r⟩
  · exact .inl hn
  · exact .inr ⟨g, cap, cur, hv, by omega, r⟩
theorem OsB.cap (h : OsB w base A m c l) : m ≤ c := by
  rcases h.own.2 with ⟨hv, h0⟩ | ⟨g, cap, cur, hv, _, _, hn, _⟩
  · injection hv with _ h1 h2
    omega
  · injection hv with _ _ h2
    omega
end

theorem info_u8 : (Tryz.prog.info? 5).map (fun i => (i.zero, i.size, i.bytes)) = some (some (.int .u8 0), 1, 1) := by kernel_rfl
theorem eql_nil_u8 (w : World) (A : Option Addr) (n c n' c' : Nat) : (binOp .eql 203 (.slice A n c) (.slice none n' c')).run Tryz.prog w = .ok (.bool A.isNone) w :=
  Lib.run_eql_slice_nil w _ 5 A n c n' c' Tryz.underlying203
attribute [local go_sem] eql_nil_u8

/-- append(s, x...) on byte slices: s is the call's own, x is read. -/
theorem wp_appB {o : Oper} {a : Act} {K : Act → World → Prop} {Q : Exit → Act → World → Prop} {w : World} (s x : Operand)
    (ho : o.op = .call { callee := .builtin .append, args := #[s, x], argTypes := #[203, 203] })
    {base : Nat} {A : Option Addr} {m c : Nat} {l : List UInt8} (hown : OsB w base A m c l) (hs : a.eval s = .slice A m c)
    {B : Option Addr} {n d : Nat} {news : List UInt8} (hr : SlB w B n news) (hx : a.eval x = .slice B n d)
    (hb : m + n ≤ 140737488355328) (hbase : base ≤ w.heap.size)
    (h : ∀ A' m' c' w', OsB w' base A' m' c' (l ++ news) → w.grownBy w' (ob A) → NewOr w.heap.size (ob A) (ob A') →
      K (a.put o.dst (.slice A' m' c')) w') : o.wp Tryz.prog a w K Q := by
  obtain ⟨i0, hi0, hz0, hz1, hz2⟩ := info_parts info_u8
  refine wp_append_any w s x _ ho base 5 i0 _ 1 1 Tryz.underlying203 hi0 hz0 hz1 hz2 rfl (by omega) _ m (l.map bv) hs hown.own _ B n d (news.map bv) hx hr.rd (bv_one _) (by simp only [maxLen]; omega) (by omega) hbase ?_
  intro v' w' hown' hg hat
  have hv : ∃ A' c', v' = .slice A' (m + n) c' := by
    rcases hown'.2 with ⟨rfl, h0⟩ | ⟨g, cap, cur, rfl, _⟩
    · exact ⟨none, 0, by rw [h0]⟩
    · exact ⟨_, _, rfl⟩
  obtain ⟨A', c', rfl⟩ := hv
  rw [ob_own] at hg
  rw [ob_own, ob_own] at hat
  refine h A' (m + n) c' w' ⟨by rw [List.map_append]; exact hown', by rw [List.length_append, hown.len, hr.len], hb⟩ hg (fun k hk => ?_)
  rcases hat with h1 | h1
  · exact .inr (h1 ▸ hk)
  · rw [h1] at hk
    injection hk with hk
    exact .inl (by omega)
theorem appB {ops : Array Oper} {rest : List Oper} {o : Oper} {a : Act} {Q : Exit → Act → World → Prop} {w : World} (hgd : Region.wanted o (yielded ops a.tmps) = true) (s x : Operand)
    (ho : o.op = .call { callee := .builtin .append, args := #[s, x], argTypes := #[203, 203] })
    {base : Nat} {A : Option Addr} {m c : Nat} {l : List UInt8} (hown : OsB w base A m c l) (hs : a.eval s = .slice A m c)
    {B : Option Addr} {n d : Nat} {news : List UInt8} (hr : SlB w B n news) (hx : a.eval x = .slice B n d)
    (hb : m + n ≤ 140737488355328) (hbase : base ≤ w.heap.size)
    (h : ∀ A' m' c' w', OsB w' base A' m' c' (l ++ news) → w.grownBy w' (ob A) → NewOr w.heap.size (ob A) (ob A') →
      wpList Tryz.prog ops Q rest (a.put o.dst (.slice A' m' c')) w') : wpList Tryz.prog ops Q (o :: rest) a w :=
  BigFrame.wpList_want hgd fun _ hK => wp_appB s x ho hown hs hr hx hb hbase fun A' m' c' w' h1 h2 h3 => hK _ _ (h A' m' c' w' h1 h2 h3)
theorem step_appB {ops : Array Oper} {o : Oper} {a : Act} {K : Act → World → Prop} {Q : Exit → Act → World → Prop} {E : Prop} {w : World} (hgd : Region.wanted o (yielded ops a.tmps) = true) (s x : Operand)
    (ho : o.op = .call { callee := .builtin .append, args := #[s, x], argTypes := #[203, 203] })
    {base : Nat} {A : Option Addr} {m c : Nat} {l : List UInt8} (hown : OsB w base A m c l) (hs : a.eval s = .slice A m c)
    {B : Option Addr} {n d : Nat} {news : List UInt8} (hr : SlB w B n news) (hx : a.eval x = .slice B n d)
    (hb : m + n ≤ 140737488355328) (hbase : base ≤ w.heap.size)
    (h : ∀ A' m' c' w', OsB w' base A' m' c' (l ++ news) → w.grownBy w' (ob A) → NewOr w.heap.size (ob A) (ob A') →
      K (a.put o.dst (.slice A' m' c')) w') : if Region.wanted o (yielded ops a.tmps) = true then Oper.wp Tryz.prog o a w K Q else E := by
  rw [if_pos hgd]
  exact wp_appB s x ho hown hs hr hx hb hbase h
/-- The bytes of a new block. -/
theorem SlB.new_ (w : World) (bs : List UInt8) (hb : bs.length ≤ 140737488355328) (cs : Array Value) (hcs : cs = (bs.map bv).toArray) (fr : Nat × Nat := (0, 0)) (n : Nat) (hn : n = bs.length) (t : TypeId) :
    SlB (w.alloc (.cells cs t fr)) (some ⟨w.heap.size, 0, none⟩) n bs := by
  subst hcs
  subst hn
  refine ⟨⟨by simp, fun _ => ⟨_, rfl, by simp, fun j u hj => ?_⟩⟩, rfl, hb⟩
  rw [Addr.add_lit, Nat.zero_add, cell_of_row _ w.heap.size j _ t fr (heap_alloc_new w _)]
  simpa using hj
theorem OsB.new_ (w : World) (base : Nat) (hbase : base ≤ w.heap.size) (bs : List UInt8) (hb : bs.length ≤ 140737488355328) (cs : Array Value) (hcs : cs = (bs.map bv).toArray) (n : Nat) (hn : n = bs.length) :
    OsB (w.alloc (.cells cs 5)) base (some ⟨w.heap.size, 0, none⟩) n n bs := by
  subst hcs
  subst hn
  have h1 := World.ownsRow_lit (e := 5) (size := 1) w (bs.map bv).toArray bs.length hbase (by simp only [maxLen]; omega) (by simp)
  exact ⟨by simpa using h1, rfl, hb⟩
theorem OsB.new1 (w : World) (base : Nat) (hbase : base ≤ w.heap.size) (b : UInt8) {n : Int} (hn : n = b.toNat) :
    OsB (w.alloc (.cells #[.int .u8 n] 5)) base (some ⟨w.heap.size, 0, none⟩) 1 1 [b] := by
  subst hn
  exact OsB.new_ w base hbase [b] (by simp) _ rfl 1 rfl
/-- append(s, b) of one byte: it lies in a new block of one cell. -/
theorem appB1 {ops : Array Oper} {rest : List Oper} {o : Oper} {a : Act} {Q : Exit → Act → World → Prop} {w : World} (hgd : Region.wanted o (yielded ops a.tmps) = true) (s x : Operand)
    (ho : o.op = .call { callee := .builtin .append, args := #[s, x], argTypes := #[203, 203] })
    {base : Nat} {A : Option Addr} {m c : Nat} {l : List UInt8} (hown : OsB w base A m c l) (hs : a.eval s = .slice A m c) {n : Int} (b : UInt8) (hn : n = b.toNat)
    (hx : a.eval x = .slice (some ⟨w.heap.size, 0, none⟩) 1 1)
    (hb : m + 1 ≤ 140737488355328) (hbase : base ≤ w.heap.size)
    (h : ∀ A' m' c' w', OsB w' base A' m' c' (l ++ [b]) → w.grownBy w' (ob A) → NewOr w.heap.size (ob A) (ob A') →
      wpList Tryz.prog ops Q rest (a.put o.dst (.slice A' m' c')) w') :
    wpList Tryz.prog ops Q (o :: rest) a (w.alloc (.cells #[.int .u8 n] 5)) := by
  subst hn
  refine appB hgd s x ho (hown.ext ((Ext.refl w).alloc _)) hs (SlB.new_ w [b] (by simp) _ rfl (0, 0) 1 rfl _) hx hb (by simp; omega) ?_
  intro A' m' c' w' h1 h2 h3
  exact h A' m' c' w' h1 (grown_step ((Ext.refl w).alloc _ |>.grownBy _) h2 (NewOr.refl _ _)) (h3.mono (by simp))
theorem strCells_bv (s : ByteArray) : Lib.strCells s = s.data.toList.map bv := rfl
theorem size_toList (s : ByteArray) : s.size = s.data.toList.length := (Array.length_toList).symm
/-- append(b, s...) of a string's bytes onto a byte slice of the call's own. -/
theorem wp_appS {o : Oper} {a : Act} {K : Act → World → Prop} {Q : Exit → Act → World → Prop} {w : World} (s x : Operand)
    (ho : o.op = .call { callee := .builtin .append, args := #[s, x], argTypes := #[203, 9] })
    {base : Nat} {A : Option Addr} {m c : Nat} {l : List UInt8} (hown : OsB w base A m c l) (hs : a.eval s = .slice A m c)
    (t : ByteArray) (hx : a.eval x = .string t)
    (hb : m + t.size ≤ 140737488355328) (hbase : base ≤ w.heap.size)
    (h : ∀ A' m' c' w', OsB w' base A' m' c' (l ++ t.data.toList) → w.grownBy w' (ob A) → NewOr w.heap.size (ob A) (ob A') →
      K (a.put o.dst (.slice A' m' c')) w') : o.wp Tryz.prog a w K Q := by
  obtain ⟨i0, hi0, hz0, hz1, hz2⟩ := info_parts info_u8
  obtain ⟨v', w', hr, h2, h3, h4⟩ := run_append_str_at (P := Tryz.prog) w base 203 9 o.type 5 i0 Tryz.underlying203 Tryz.underlying9 hi0 hz0 hz1 hz2 _ m (l.map bv) hown.own t hb hbase
  have hv : ∃ A' c', v' = .slice A' (m + t.size) c' := by
    rcases h2.2 with ⟨rfl, h0⟩ | ⟨g, cap, cur, rfl, _⟩
    · exact ⟨none, 0, by rw [h0]⟩
    · exact ⟨_, _, rfl⟩
  obtain ⟨A', c', rfl⟩ := hv
  rw [ob_own] at h3
  rw [ob_own, ob_own] at h4
  have hfin := h A' (m + t.size) c' w' ⟨by rw [List.map_append]; exact h2, by rw [List.length_append, hown.len, size_toList], hb⟩ h3 h4
  unfold Oper.wp execOp
  simp only [ho, resolve, invoke, builtin, Sem.run_bind, Sem.run_pure, Result.andThen_ok, List.map_toArray, List.map_cons, List.map_nil, hs, hx, hr]
  exact hfin
theorem appS {ops : Array Oper} {rest : List Oper} {o : Oper} {a : Act} {Q : Exit → Act → World → Prop} {w : World} (hgd : Region.wanted o (yielded ops a.tmps) = true) (s x : Operand)
    (ho : o.op = .call { callee := .builtin .append, args := #[s, x], argTypes := #[203, 9] })
    {base : Nat} {A : Option Addr} {m c : Nat} {l : List UInt8} (hown : OsB w base A m c l) (hs : a.eval s = .slice A m c)
    (t : ByteArray) (hx : a.eval x = .string t)
    (hb : m + t.size ≤ 140737488355328) (hbase : base ≤ w.heap.size)
    (h : ∀ A' m' c' w', OsB w' base A' m' c' (l ++ t.data.toList) → w.grownBy w' (ob A) → NewOr w.heap.size (ob A) (ob A') →
      wpList Tryz.prog ops Q rest (a.put o.dst (.slice A' m' c')) w') : wpList Tryz.prog ops Q (o :: rest) a w :=
  BigFrame.wpList_want hgd fun _ hK => wp_appS s x ho hown hs t hx hb hbase fun A' m' c' w' h1 h2 h3 => hK _ _ (h A' m' c' w' h1 h2 h3)
theorem step_appS {ops : Array Oper} {o : Oper} {a : Act} {K : Act → World → Prop} {Q : Exit → Act → World → Prop} {E : Prop} {w : World} (hgd : Region.wanted o (yielded ops a.tmps) = true) (s x : Operand)
    (ho : o.op = .call { callee := .builtin .append, args := #[s, x], argTypes := #[203, 9] })
    {base : Nat} {A : Option Addr} {m c : Nat} {l : List UInt8} (hown : OsB w base A m c l) (hs : a.eval s = .slice A m c)
    (t : ByteArray) (hx : a.eval x = .string t)
    (hb : m + t.size ≤ 140737488355328) (hbase : base ≤ w.heap.size)
    (h : ∀ A' m' c' w', OsB w' base A' m' c' (l ++ t.data.toList) → w.grownBy w' (ob A) → NewOr w.heap.size (ob A) (ob A') →
      K (a.put o.dst (.slice A' m' c')) w') : if Region.wanted o (yielded ops a.tmps) = true then Oper.wp Tryz.prog o a w K Q else E := by
  rw [if_pos hgd]
  exact wp_appS s x ho hown hs t hx hb hbase h

/-- s[i:j]: one run equation, and what the cut holds. -/
theorem SlB.cast {w : World} {A : Option Addr} {m m' : Nat} {l : List UInt8} (h : SlB w A m l) (e : m = m') : SlB w A m' l := e ▸ h
theorem sliceAtB {W : World} {A : Option Addr} {m c : Nat} {lo hi : Option Value} {r : Result Value} (h : (Instr.slice 203 (.slice A m c) lo hi none).run Tryz.prog W = r) :
    (Instr.sliceAt 203 (.slice A m c) lo hi none).run Tryz.prog W = r ∧ (Instr.slice 203 (.slice A m c) lo hi none).run Tryz.prog W = r :=
  ⟨by rw [run_sliceAt_slice W _ _ _ _ _ Tryz.underlying203, h], h⟩
theorem cut_run {w : World} {A : Option Addr} {m c : Nat} {l : List UInt8} (h : SlB w A m l) {i j : Nat} (hij : i ≤ j) (hj : j ≤ m) (hc : m ≤ c) :
    ∃ A2, (∀ (W : World) (kl kh : IntKind) (a b : Int), a = i → b = j → (Instr.sliceAt 203 (.slice A m c) (some (.int kl a)) (some (.int kh b)) none).run Tryz.prog W = .ok (.slice A2 (j - i) (c - i)) W ∧
        (Instr.slice 203 (.slice A m c) (some (.int kl a)) (some (.int kh b)) none).run Tryz.prog W = .ok (.slice A2 (j - i) (c - i)) W) ∧
      (∀ (W : World) (kl : IntKind) (a : Int), a = i → j = m → (Instr.sliceAt 203 (.slice A m c) (some (.int kl a)) none none).run Tryz.prog W = .ok (.slice A2 (j - i) (c - i)) W ∧
        (Instr.slice 203 (.slice A m c) (some (.int kl a)) none none).run Tryz.prog W = .ok (.slice A2 (j - i) (c - i)) W) ∧
      (∀ (W : World) (kh : IntKind) (b : Int), i = 0 → b = j → (Instr.sliceAt 203 (.slice A m c) none (some (.int kh b)) none).run Tryz.prog W = .ok (.slice A2 (j - i) (c - i)) W ∧
        (Instr.slice 203 (.slice A m c) none (some (.int kh b)) none).run Tryz.prog W = .ok (.slice A2 (j - i) (c - i)) W) ∧
      SlB w A2 (j - i) ((l.take j).drop i) ∧ (ob A2 = none ∨ ob A2 = ob A) := by
  obtain ⟨i0, hi0, hz0, hz1, hz2⟩ := info_parts info_u8
  have e1 : (Tryz.prog.elem 203) = 5 := by kernel_rfl
  refine ⟨_, ?_, ?_, ?_, h.cut hij hj hc, ?_⟩
  · rintro W kl kh a b rfl rfl
    apply sliceAtB
    rw [run_slice_lh W _ _ _ _ Tryz.underlying203 _ _ _ _ (by omega) (by omega) (by omega), e1]
    simp [sizeOf, typeInfo, hi0, hz1, sliced]
  · rintro W kl a rfl rfl
    apply sliceAtB
    rw [run_slice_l W _ _ _ _ Tryz.underlying203 _ _ (by omega) (by omega), e1]
    simp [sizeOf, typeInfo, hi0, hz1, sliced]
  · rintro W kh b rfl rfl
    apply sliceAtB
    rw [run_slice_h W _ _ _ _ Tryz.underlying203 _ _ (by omega) (by omega), e1]
    simp [sizeOf, typeInfo, hi0, hz1, sliced]
  · split
    · exact .inr rfl
    · cases A with
      | none => exact .inl rfl
      | some a => right; simp [ob, block_of_add]

/-- A string of bytes, and a string's bytes. -/
def str (l : List UInt8) : ByteArray := ⟨l.toArray⟩
def bys (s : ByteArray) : List UInt8 := s.data.toList
theorem bys_len (s : ByteArray) : (bys s).length = s.size := (size_toList s).symm
theorem bys_str (l : List UInt8) : bys (str l) = l := by simp [bys, str]
theorem str_bys (s : ByteArray) : str (bys s) = s := by simp [bys, str]
theorem str_size (l : List UInt8) : (str l).size = l.length := by rw [← bys_len, bys_str]
theorem bys_inj {s t : ByteArray} (h : bys s = bys t) : s = t := by rw [← str_bys s, ← str_bys t, h]
/-- string(b). -/
theorem conv_str {w : World} {A : Option Addr} {m : Nat} {l : List UInt8} (h : SlB w A m l) (c : Nat) : (convert 203 9 (.slice A m c)).run Tryz.prog w = .ok (.string (str l)) w := by
  rcases Nat.eq_zero_or_pos m with h0 | h0
  · subst h0
    have hl : l = [] := List.eq_nil_of_length_eq_zero h.len.symm
    subst hl
    cases A with
    | none => exact run_convert_bytes_nil w _ _ Tryz.underlying203 Tryz.underlying5 0 c _ Tryz.underlying9
    | some a =>
      rw [run_convert_bytes_string w _ _ _ _ _ _ Tryz.underlying203 Tryz.underlying5 Tryz.underlying9]
      exact run_bytesToString w a 0 c [] (by simp [loadCells, loadCellsFrom])
  · obtain ⟨b, off, rfl, _, hc⟩ := h.at_ h0
    have h1 := run_convert_bytes_arg w 203 5 Tryz.underlying203 Tryz.underlying5 b off m c (l.map fun x => (x.toNat : Int)) (by simp [h.len]) (fun i hi => by
      have hi' : i < l.length := by rw [← h.len]; exact hi
      rw [hc i hi']
      simp [List.getD_eq_getElem?_getD, hi']) _ Tryz.underlying9
    rw [h1]
    congr 2
    apply bys_inj
    rw [bys_str]
    unfold bys
    rw [strOfNums_data, List.map_map]
    have e1 : ((fun n : Int => UInt8.ofNat n.toNat) ∘ fun x : UInt8 => (x.toNat : Int)) = id := by funext x; simp
    rw [e1, List.map_id]

end Go.Proofs.YtdgppdiickmofaaGreatDoor

/- The order of strings. -/
namespace Go.Proofs.YtdgppdiickmofaaGreatDoor
set_option maxRecDepth 100000
abbrev bO (a b : ByteArray) : Bool := Op.bytesLess a.toList b.toList
theorem bl_cons (a b : UInt8) (x y : List UInt8) : Op.bytesLess (a :: x) (b :: y) = (decide (a < b) || (decide (a = b) && Op.bytesLess x y)) := by
  rw [Op.bytesLess]
  by_cases h1 : a < b <;> by_cases h2 : a = b <;> simp [h1, h2]
theorem bl_irrefl : ∀ a : List UInt8, Op.bytesLess a a = false
  | [] => rfl
  | a :: x => by rw [bl_cons, bl_irrefl x]; simp [UInt8.lt_irrefl]
theorem bl_trans : ∀ a b c : List UInt8, Op.bytesLess a b = true → Op.bytesLess b c = true → Op.bytesLess a c = true
  | [], [], _, h, _ => by cases h
  | [], _ :: _, [], _, h => by cases h
  | [], _ :: _, _ :: _, _, _ => rfl
  | _ :: _, [], _, h, _ => by cases h
  | _ :: _, _ :: _, [], _, h => by cases h
  | a :: x, b :: y, c :: z, h1, h2 => by
    rw [bl_cons] at h1 h2 ⊢
    simp only [Bool.or_eq_true, Bool.and_eq_true, decide_eq_true_eq] at h1 h2 ⊢
    rcases h1 with h1 | ⟨rfl, h1⟩ <;> rcases h2 with h2 | ⟨rfl, h2⟩
    · exact .inl (UInt8.lt_trans h1 h2)
    · exact .inl h1
    · exact .inl h2
    · exact .inr ⟨rfl, bl_trans x y z h1 h2⟩
theorem bl_tri : ∀ a b : List UInt8, Op.bytesLess a b = false → Op.bytesLess b a = false → a = b
  | [], [], _, _ => rfl
  | [], _ :: _, h, _ => by cases h
  | _ :: _, [], _, h => by cases h
  | a :: x, b :: y, h1, h2 => by
    rw [bl_cons] at h1 h2
    simp only [Bool.or_eq_false_iff, Bool.and_eq_false_iff, decide_eq_false_iff_not] at h1 h2
    have hab : a = b := by
      have e1 := h1.1
      have e2 := h2.1
      rw [UInt8.lt_iff_toNat_lt] at e1 e2
      exact UInt8.toNat_inj.1 (by omega)
    subst hab
    rw [bl_tri x y (by rcases h1.2 with h | h; exact absurd rfl h; exact h) (by rcases h2.2 with h | h; exact absurd rfl h; exact h)]
theorem toList_iff {a b : ByteArray} : a.toList = b.toList ↔ a = b := ⟨fun e => bys_inj (by rw [ByteArray.toList_eq, ByteArray.toList_eq] at e; exact e), fun e => by rw [e]⟩
theorem bO_irrefl (a : ByteArray) : bO a a = false := bl_irrefl _
theorem bO_trans {a b c : ByteArray} (h1 : bO a b = true) (h2 : bO b c = true) : bO a c = true := bl_trans _ _ _ h1 h2
theorem bO_tri {a b : ByteArray} (h1 : bO a b = false) (h2 : bO b a = false) : a = b := toList_iff.1 (bl_tri _ _ h1 h2)
theorem bO_asym {a b : ByteArray} (h1 : bO a b = true) : bO b a = false := by
  cases h : bO b a with
  | false => rfl
  | true => have := bO_trans h1 h; rw [bO_irrefl] at this; cases this
/-- 's <= p' is 'not p < s'. -/
theorem le_not (s p : ByteArray) : (bO s p || (s.toList == p.toList)) = !bO p s := by
  cases h : bO p s with
  | true =>
    rw [bO_asym h]
    simp only [Bool.false_or, Bool.not_true, beq_eq_false_iff_ne]
    intro e
    rw [toList_iff] at e
    subst e
    rw [bO_irrefl] at h
    cases h
  | false =>
    cases h2 : bO s p with
    | true => rfl
    | false =>
      have := bO_tri h2 h
      subst this
      simp
end Go.Proofs.YtdgppdiickmofaaGreatDoor
