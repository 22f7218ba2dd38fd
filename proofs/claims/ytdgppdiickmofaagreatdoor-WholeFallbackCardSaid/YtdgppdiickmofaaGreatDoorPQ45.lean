/- The program's chains: ranging over walk. -/
import Derived.Test.YtdgppdiickmofaaGreatDoorPQ44
import Derived.RangeFuncNested
import Derived.OwnWalkIn
import Derived.Test.YtdgppdiickmofaaGreatDoorPQ31
namespace Go.Proofs.YtdgppdiickmofaaGreatDoor
open Go.RowKit
set_option maxRecDepth 100000
attribute [local go_sem] ext_refl_t ext_alloc_t ext_drew_t ext_drewN_t ext_alloc2_t ext_alloc3_t ext_alloc4_t ext_alloc5_t ext_alloc6_t ext_alloc7_t ext_alloc8_t ext_alloc1d_t ext_alloc2d_t ext_alloc3d_t ext_alloc4d_t
theorem fold1 (T : Array Value) (p : Tmp) (v : Value) : (((#[p] : Array Tmp).zip #[v]).foldl (fun t (p, v) => t.setIfInBounds p v) T) = T.setIfInBounds p v := by simp
theorem ext_put {w X : World} {l : Nat} {o : Obj} (o' : Obj) (hE : Ext w X) (hl : w.heap.size ≤ l) (_h : X.heap[l]? = some o) : Ext w (X.putObj l o') :=
  hE.grown (grownBy_putObj' X l o') (fun k e => by cases e; exact hl)
theorem blk_put {X : World} {l g : Nat} {o : Obj} {t : TypeId} {cs : Array Value} (o' : Obj) (hb : Blk X g t cs) (h : X.heap[l]? = some o) (ho : o.isCells = false) : Blk (X.putObj l o') g t cs := by
  have hne : g ≠ l := fun e => by
    subst e
    have h1 := hb.symm.trans h
    injection h1 with h1
    rw [← h1] at ho
    cases ho
  exact (World.putObj_heap_other hne).trans hb
theorem KpW.put {B g1 g2 : Nat} {W : World} {l : Nat} {o : Obj} (o' : Obj) (hl : B ≤ l) (h : W.heap[l]? = some o) (ho : o.isCells = false) : KpW B g1 g2 W (W.putObj l o') :=
  ⟨(Below.refl B W).grown (grownBy_putObj' W l _) (by have := (Array.getElem?_eq_some_iff.1 h).1; omega) (fun k e => by cases e; exact hl), fun t cs hb => blk_put o' hb h ho, fun t cs hb => blk_put o' hb h ho⟩
/-- How the body of a round may be left. -/
def roundW (B U g1 g2 : Nat) (I : List Nat → World → Prop) (Ix : Int → World → Prop) (out : List Nat) (o : Option Nat) (X : World) : Exit → Act → World → Prop
  | .normal, _, X' => KeepsFrom U X X' ∧ KpW B g1 g2 X X' ∧ ∃ i, o = some i ∧ i ∉ out ∧ I (out ++ [i]) X'
  | .ret, _, X' => KeepsFrom U X X' ∧ ∃ er, stopW o out = some er ∧ Ix er X'
  | _, _, _ => False
set_option maxHeartbeats 3200000 in
theorem range_walk {n : Nat} (h1 : 2 ≤ n) {g : Operand} {assign body : Code} {Q : Exit → Act → World → Prop} {a : Act} {w0 w : World} {t : TabH} {s : List UInt8} {g1 g2 : Nat}
    (hg : a.eval g = .func (.func 77) #[] #[.pointer (some ⟨g1, 0, none⟩), .pointer (some ⟨g2, 0, none⟩)])
    (ht : TabW w0 t) (hl0 : 0 < t.ls.length) (hM : MX w0) (hs : s.length ≤ 1000) (hW : WkS w0 g1 g2 t s w)
    (I : List Nat → World → Prop) (Ix : Int → World → Prop)
    (hIe : ∀ out X Y, I out X → Ext X Y → I out Y) (hXe : ∀ er X Y, Ix er X → Ext X Y → Ix er Y)
    (hIp : ∀ out X l o o', I out X → w.heap.size ≤ l → X.heap[l]? = some o → o.isCells = false → I out (X.putObj l o'))
    (hXp : ∀ er X l o o', Ix er X → w.heap.size ≤ l → X.heap[l]? = some o → o.isCells = false → Ix er (X.putObj l o'))
    (hP : ∀ out X, I out X → out.Nodup ∧ ∀ i ∈ out, i < t.ls.length) (hI0 : I [] w) (a1 : Option Nat → Act)
    (hassign : ∀ (l : Nat) (o : Option Nat) (X : World) (K : Act → World → Prop), K (a1 o) X → assign.wpIn (Fence.wide.inRound l) (n - 1 - 1) Tryz.prog (Exit.then K (fun _ _ _ => False)) { tmps := a.tmps.setIfInBounds 26 (.int .i64 (optI o)), defers := [] } X)
    (hbody : ∀ (l : Nat) (out : List Nat) (o : Option Nat) (X : World), I out X → (∀ i, o = some i → i < t.ls.length) → body.wpIn (Fence.wide.inRound l) (n - 1 - 1) Tryz.prog (roundW w0.heap.size w.heap.size g1 g2 I Ix out o X) (a1 o) X)
    (hdone : ∀ (D : Nat) (out : List Nat) (X : World), w.heap.size ≤ D → walkC (tabL t.ls) (t.ls.length + 1) (some (nearC (tabL t.ls) s)) [] = (out, 0) → I out X → X.heap[D]? = some (.deferred (some [])) → Q .normal { a with defers := { target := .collected D, args := #[] } :: a.defers } X)
    (hstop : ∀ (D : Nat) (er : Int) (X : World), w.heap.size ≤ D → walkC (tabL t.ls) (t.ls.length + 1) (some (nearC (tabL t.ls) s)) [] = ([], er) → er ≠ 0 → Ix er X → X.heap[D]? = some (.deferred (some [])) → Code.ret.wpIn Fence.wide n Tryz.prog Q { a with defers := { target := .collected D, args := #[] } :: a.defers } X) :
    (Code.rangeFunc g #[26] assign body).wpIn Fence.wide n Tryz.prog Q a w := by
  refine wpIn_rangeFunc fun fn hfn => ?_
  rw [show Fence.wide.round = none from rfl]
  have hw0 : w0.heap.size ≤ w.heap.size := hW.ext.size
  obtain ⟨rc, hrc⟩ : ∃ rc : LoopState → Option Code → Loop, rc = fun st pe => { state := st, pending := pe, fn, tmps := a.tmps, params := #[26], assign, body, defers := w.heap.size } := ⟨_, rfl⟩
  obtain ⟨D, hD⟩ : ∃ D, D = w.heap.size := ⟨_, rfl⟩
  obtain ⟨L, hL⟩ : ∃ L, L = w.heap.size + 1 := ⟨_, rfl⟩
  obtain ⟨W1, hW1⟩ : ∃ W1, W1 = (w.alloc (.deferred (some []))).alloc (.loop (rc .ready none)) := ⟨_, rfl⟩
  have hE1 : Ext w W1 := by rw [hW1]; exact ((Ext.refl w).alloc _).alloc _
  have hbL : W1.heap[L]? = some (.loop (rc .ready none)) := by
    have h := World.alloc_heap_new (w.alloc (.deferred (some []))) (.loop (rc .ready none))
    rw [World.size_alloc] at h
    rw [hW1, hL]
    exact h
  have hbD : W1.heap[D]? = some (.deferred (some [])) := by
    rw [hW1, hD]
    exact (Below.heap_alloc _ _ _ (by simp)).trans (World.alloc_heap_new w _)
  have henter := run_enterLoop_outer (P := Tryz.prog) (w := w) fn a.tmps #[26] assign body
  rw [← hD] at henter
  refine ⟨L, [{ target := .collected D, args := #[] }], W1, { target := .fn (.func 77) #[.pointer (some ⟨g1, 0, none⟩), .pointer (some ⟨g2, 0, none⟩)], args := #[.func (.yield L) #[] #[]] }, W1, 77,
    #[.func (.yield L) #[] #[]] ++ #[.pointer (some ⟨g1, 0, none⟩), .pointer (some ⟨g2, 0, none⟩)], W1, ?_, ?_, fun _ _ => trivial, ?_, fun _ => by omega, ?_⟩
  · rw [hL, hW1, hrc, hD]; exact run_enterLoop_outer _ _ _ _ _
  · simp only [resolve, hg]
    simp [go_sem]
  · have he := enters_of Tryz.func77 (by kernel_rfl) rfl
    simp [invoke, go_sem]
  have hDL : D ≠ L := by omega
  have hend : ∀ (jump : Option Code) (X : World), X.heap[L]? = some (.loop { rc .ready none with state := .busy }) → X.heap[D]? = some (.deferred (some [])) →
      (Instr.endRound L jump).run Tryz.prog X = .ok (.bool jump.isNone) (X.putObj L (.loop (rc (if jump.isNone then .ready else .done) jump))) ∧
      (X.putObj L (.loop (rc (if jump.isNone then .ready else .done) jump))).heap[L]? = some (.loop (rc (if jump.isNone then .ready else .done) jump)) ∧
      (X.putObj L (.loop (rc (if jump.isNone then .ready else .done) jump))).heap[D]? = some (.deferred (some [])) := fun jump X hl hd => by
    have h := run_endRound (P := Tryz.prog) jump hl
    rw [hrc] at h ⊢
    exact ⟨h, World.putObj_heap_same (Array.getElem?_eq_some_iff.1 hl).1, (World.putObj_heap_other hDL).trans hd⟩
  refine (walk1_in (n - 1) (by omega) ht hl0 hM hs L
    (fun out X => I out X ∧ X.heap[L]? = some (.loop (rc .ready none)) ∧ X.heap[D]? = some (.deferred (some [])))
    (fun er X => Ix er X ∧ X.heap[L]? = some (.loop (rc .done (some .ret))) ∧ X.heap[D]? = some (.deferred (some [])))
    W1 (hW.extn hE1) (fun out X Y h hE => ⟨hIe _ _ _ h.1 hE, (hE.block _ (Array.getElem?_eq_some_iff.1 h.2.1).1).trans h.2.1, (hE.block _ (Array.getElem?_eq_some_iff.1 h.2.2).1).trans h.2.2⟩)
    (fun er X Y h hE => ⟨hXe _ _ _ h.1 hE, (hE.block _ (Array.getElem?_eq_some_iff.1 h.2.1).1).trans h.2.1, (hE.block _ (Array.getElem?_eq_some_iff.1 h.2.2).1).trans h.2.2⟩)
    (fun out X h => hP out X h.1) ?_ ⟨hIe _ _ _ hI0 hE1, hbL, hbD⟩).mono ?_
  · rintro out o X ⟨hi, hl, hd⟩ ho
    have hy := run_yield (P := Tryz.prog) (args := #[.int .i64 (optI o)]) hl (by rw [hrc]; rfl)
    rw [hrc] at hy
    refine ⟨fn, _, assign, body, hy, roundIn_of_wpIn hfn ?_⟩
    clear hy
    rw [fold1]
    refine hassign L o X _ ?_
    refine ⟨_, run_beginRound hl (by rw [hrc]), ?_⟩
    have hl2 : (X.putObj L (.loop { rc .ready none with state := .busy })).heap[L]? = some (.loop { rc .ready none with state := .busy }) := World.putObj_heap_same (Array.getElem?_eq_some_iff.1 hl).1
    have hd2 : (X.putObj L (.loop { rc .ready none with state := .busy })).heap[D]? = some (.deferred (some [])) := (World.putObj_heap_other hDL).trans hd
    refine wpIn_mono (hbody L out o _ (hIp _ _ _ _ _ hi (by omega) hl rfl) ho) ?_
    rintro e a3 X3 hp
    cases e with
    | normal =>
      obtain ⟨hk, hkp, i, hoi, hio, hi3⟩ := hp
      have hl3 := hk.same _ _ (by omega) hl2 rfl
      have hd3 := hk.same _ _ (by omega) hd2 rfl
      obtain ⟨r1, r2, r3⟩ := hend none X3 hl3 hd3
      exact ⟨_, _, r1, .inl ⟨i, hoi, hio, rfl, ⟨hIp _ _ _ _ _ hi3 (by omega) hl3 rfl, r2, r3⟩, (KpW.put _ (by omega) hl rfl).trans (hkp.trans (KpW.put _ (by omega) hl3 rfl))⟩⟩
    | ret =>
      obtain ⟨hk, er, hst, hi3⟩ := hp
      have hl3 := hk.same _ _ (by omega) hl2 rfl
      have hd3 := hk.same _ _ (by omega) hd2 rfl
      obtain ⟨r1, r2, r3⟩ := hend (some .ret) X3 hl3 hd3
      exact ⟨_, _, r1, .inr ⟨er, hst, rfl, hXp _ _ _ _ _ hi3 (by omega) hl3 rfl, r2, r3⟩⟩
    | exit id => exact hp.elim
    | goto t => exact hp.elim
    | panic ch => exact hp.elim
    | outgrown => exact hp.elim
  · rintro e W2 ⟨⟨v, rfl⟩, (⟨out, hwk, hi, hl, hd⟩ | ⟨er, hwk, her, hi, hl, hd⟩)⟩
    · exact ⟨none, _, by have h := run_endLoop (P := Tryz.prog) hl (by rw [hrc]; simp); rw [hrc] at h; exact h, hdone D out _ (by omega) hwk (hIp _ _ _ _ _ hi (by omega) hl rfl) ((World.putObj_heap_other hDL).trans hd)⟩
    · exact ⟨some .ret, _, by have h := run_endLoop (P := Tryz.prog) hl (by rw [hrc]; simp); rw [hrc] at h; exact h, hstop D er _ (by omega) hwk her (hXp _ _ _ _ _ hi (by omega) hl rfl) ((World.putObj_heap_other hDL).trans hd)⟩
end Go.Proofs.YtdgppdiickmofaaGreatDoor

/- The program's chains: chain. -/
namespace Go.Proofs.YtdgppdiickmofaaGreatDoor
open Go.RowKit
set_option maxRecDepth 100000
attribute [local go_sem] ext_refl_t ext_alloc_t ext_drew_t ext_drewN_t ext_alloc2_t ext_alloc3_t ext_alloc4_t ext_alloc5_t ext_alloc6_t ext_alloc7_t ext_alloc8_t ext_alloc1d_t ext_alloc2d_t ext_alloc3d_t ext_alloc4d_t
attribute [local go_sem] Oper.semAt_some
section
variable {α : Type} {cs : α → List Value} {t e : TypeId} {k by_ : Nat} {w : World} {base : Nat} {A : Option Addr} {m c : Nat} {l : List α}
theorem appCI (I : EInfo t e k by_) {q n : Nat} {ops : Array Oper} {rest : List Oper} {o : Oper} {a : Act} {Q : Exit → Act → World → Prop} (hgd : o.guard = none) (s x : Operand)
    (ho : o.op = .call { callee := .builtin .append, args := #[s, x], argTypes := #[t, t] })
    (hown : OsC cs e k w base A m c l) (hs : a.eval s = .slice A m c)
    {B : Option Addr} {n' d : Nat} {news : List α} (hr : SlC cs k w B n' news) (hx : a.eval x = .slice B n' d)
    (hb : (m + n') * by_ ≤ 140737488355328) (hbase : base ≤ w.heap.size)
    (h : ∀ A' m' c' w', OsC cs e k w' base A' m' c' (l ++ news) → w.grownBy w' (ob A) → NewOr w.heap.size (ob A) (ob A') →
      wpListIn (WR q) n Tryz.prog ops Q rest (a.put o.dst (.slice A' m' c')) w') : wpListIn (WR q) n Tryz.prog ops Q (o :: rest) a w :=
  wpListIn_plain hgd fun _ hK => op_in (fun c e => by rw [ho] at e; cases e) (wp_appC I s x ho hown hs hr hx hb hbase fun A' m' c' w' h1 h2 h3 => hK _ _ (h A' m' c' w' h1 h2 h3))
theorem OsC.cells_ (h : OsC cs e k w base A m c l) {j : Nat} (hj : ob A = some j) : ∃ o : Obj, w.heap[j]? = some o ∧ o.isCells = true := by
  obtain ⟨xs, hx⟩ := h.blk_ hj
  exact ⟨_, hx, rfl⟩
theorem OsC.put (h : OsC cs e k w base A m c l) {j : Nat} {o : Obj} (o' : Obj) (hj : w.heap[j]? = some o) (ho : o.isCells = false) : OsC cs e k (w.putObj j o') base A m c l := by
  refine h.kept (grownBy_putObj' w j o') (Or.inr fun hA => ?_)
  obtain ⟨o2, h1, h2⟩ := h.cells_ hA
  rw [hj] at h1
  injection h1 with h1
  rw [← h1, ho] at h2
  cases h2
end
theorem leaves_one {P : Program} {F : Fence} {n : Nat} {fn : Func} {tmps : Array Value} {R : Ending → World → Prop} {D : Nat} {W : World} (h4 : W.heap[D]? = some (.deferred (some [])))
    (h : LeavesInM F n P fn tmps R [] .returning (W.putObj D (.deferred none))) : LeavesInM F n P fn tmps R [{ target := .collected D, args := #[] }] .returning W :=
  ⟨by simp, .inl ⟨D, _, rfl, run_takeDeferred h4, h⟩⟩
theorem loadVar_one {P : Program} {ty : TypeId} {d : TypeDesc} (w : World) (g : Nat) (v : Value) (hu : P.underlying ty = some d) (hd : (match d with | .struct _ | .array _ _ => true | _ => false) = false) (hc : w.cell? ⟨g, 0, none⟩ = some v) :
    (loadVar ty ⟨g, 0, none⟩).run P w = .ok v w := by
  have hagg : (isAgg ty).run P w = .ok false w := by
    unfold isAgg
    rw [Sem.run_bind, run_underlying hu w]
    cases d <;> simp_all
  simp [loadVar, Sem.run_bind, hagg, Result.andThen, load, Sem.run, hc]
theorem results_cells2 {fn : Func} {p q : Tmp} {ty tz : TypeId} (h : fn.results = #[.cell p ty, .cell q tz]) (tmps : Array Value) (P : Program) (w : World) :
    (results fn tmps).run P w =
      ((asAddr (tmps.getD p undef)).run P w).andThen fun a w₁ => ((loadVar ty a).run P w₁).andThen fun y w₂ => ((asAddr (tmps.getD q undef)).run P w₂).andThen fun a w₃ => ((loadVar tz a).run P w₃).andThen fun z w₄ => .ok (.tuple #[y, z]) w₄ := by
  simp only [results, h]
  simp [Sem.run_bind, Result.andThen]
/-- The two results, in their boxes. -/
structure Rs2 (w : World) (g4 g5 : Nat) (v4 v5 : Value) : Prop where
  b4 : Blk w g4 51 #[v4]
  b5 : Blk w g5 28 #[v5]
section
variable {w w' : World} {g4 g5 : Nat} {v4 v5 : Value}
theorem Rs2.res (h : Rs2 w g4 g5 v4 v5) (tmps : Array Value) (h4 : tmps.getD 4 undef = .pointer (some ⟨g4, 0, none⟩)) (h5 : tmps.getD 5 undef = .pointer (some ⟨g5, 0, none⟩)) :
    (results Tryz.f13 tmps).run Tryz.prog w = .ok (.tuple #[v4, v5]) w := by
  have h1 := loadVar_one (P := Tryz.prog) (ty := 51) w g4 v4 Tryz.underlying51 rfl (h.b4.cell 0)
  have h3 := loadVar_one (P := Tryz.prog) (ty := 28) w g5 v5 Tryz.underlying28 rfl (h.b5.cell 0)
  rw [results_cells2 rfl, h4, h5]
  simp [asAddr, h1, h3, Result.andThen]
theorem Rs2.ext (h : Rs2 w g4 g5 v4 v5) (hE : Ext w w') : Rs2 w' g4 g5 v4 v5 := ⟨h.b4.below hE h.b4.lt, h.b5.below hE h.b5.lt⟩
theorem Rs2.ne (h : Rs2 w g4 g5 v4 v5) : g4 ≠ g5 := Blk.ne_ h.b4 h.b5 (by decide)
theorem Rs2.facts (h : Rs2 w g4 g5 v4 v5) : w.cell? ⟨g4, 0, none⟩ = some v4 ∧ w.frozen? ⟨g4, 0, none⟩ = false ∧ w.frozen? ⟨g5, 0, none⟩ = false ∧ (∀ a, (w.setCell ⟨g4, 0, none⟩ a).cell? ⟨g5, 0, none⟩ = some v5) :=
  ⟨h.b4.cell 0, h.b4.frozen 0, h.b5.frozen 0, fun a => (h.b5.far (p := ⟨g4, 0, none⟩) (fun e => h.ne e.symm) a).cell 0⟩
def setR2 (w : World) (g4 g5 : Nat) (v4 v5 : Value) : World := (w.setCell ⟨g4, 0, none⟩ v4).setCell ⟨g5, 0, none⟩ v5
theorem Rs2.set_ (h : Rs2 w g4 g5 v4 v5) (a b : Value) : Rs2 (setR2 w g4 g5 a b) g4 g5 a b :=
  ⟨(h.b4.set_ 0 a).far (p := ⟨g5, 0, none⟩) h.ne b, (h.b5.far (p := ⟨g4, 0, none⟩) (fun e => h.ne e.symm) a).set_ 0 b⟩
theorem Rs2.put (h : Rs2 w g4 g5 v4 v5) {l : Nat} {o : Obj} (o' : Obj) (hl : w.heap[l]? = some o) (ho : o.isCells = false) : Rs2 (w.putObj l o') g4 g5 v4 v5 := ⟨blk_put o' h.b4 hl ho, blk_put o' h.b5 hl ho⟩
theorem setR2_ext {w0 : World} (hE : Ext w0 w) (h4 : w0.heap.size ≤ g4) (h5 : w0.heap.size ≤ g5) (a b : Value) : Ext w0 (setR2 w g4 g5 a b) := (hE.set_ (p := ⟨g4, 0, none⟩) h4 a).set_ (p := ⟨g5, 0, none⟩) h5 b
theorem setR2_keeps (U : Nat) (a b : Value) : KeepsFrom U w (setR2 w g4 g5 a b) := ((KeepsOthers.setCell _ _ _).from U).trans ((KeepsOthers.setCell _ _ _).from U)
end
/-- Between two rounds of chain. -/
structure ChI (w : World) (t : TabH) (s : List UInt8) (g1 g2 g4 g5 g8 : Nat) (out : List Nat) (X : World) : Prop where
  wk : WkS w g1 g2 t s X
  rs : Rs2 X g4 g5 (.slice none 0 0) (.int .i64 0)
  row : ∃ A m c, OsC niC 3 1 X w.heap.size A m c out ∧ Blk X g8 51 #[.slice A m c]
  nd : out.Nodup
  lt : ∀ i ∈ out, i < t.ls.length
/-- A round of chain has left with an error. -/
structure ChX (w : World) (g4 g5 : Nat) (er : Int) (X : World) : Prop where
  ext : Ext w X
  rs : Rs2 X g4 g5 (.slice none 0 0) (.int .i64 er)
section
variable {w X Y : World} {t : TabH} {s : List UInt8} {g1 g2 g4 g5 g8 : Nat} {out : List Nat} {er : Int}
theorem ChI.extn (h : ChI w t s g1 g2 g4 g5 g8 out X) (hE : Ext X Y) : ChI w t s g1 g2 g4 g5 g8 out Y := by
  obtain ⟨A, m, c, h1, h2⟩ := h.row
  exact ⟨h.wk.extn hE, h.rs.ext hE, ⟨A, m, c, h1.ext hE, h2.below hE h2.lt⟩, h.nd, h.lt⟩
theorem ChI.put (h : ChI w t s g1 g2 g4 g5 g8 out X) {l : Nat} {o : Obj} (o' : Obj) (hl : w.heap.size ≤ l) (hb : X.heap[l]? = some o) (ho : o.isCells = false) : ChI w t s g1 g2 g4 g5 g8 out (X.putObj l o') := by
  obtain ⟨A, m, c, h1, h2⟩ := h.row
  exact ⟨⟨ext_put o' h.wk.ext hl hb, blk_put o' h.wk.b1 hb ho, blk_put o' h.wk.b2 hb ho⟩, h.rs.put o' hb ho, ⟨A, m, c, h1.put o' hb ho, blk_put o' h2 hb ho⟩, h.nd, h.lt⟩
theorem ChX.extn (h : ChX w g4 g5 er X) (hE : Ext X Y) : ChX w g4 g5 er Y := ⟨h.ext.trans hE, h.rs.ext hE⟩
theorem ChX.put (h : ChX w g4 g5 er X) {l : Nat} {o : Obj} (o' : Obj) (hl : w.heap.size ≤ l) (hb : X.heap[l]? = some o) (ho : o.isCells = false) : ChX w g4 g5 er (X.putObj l o') := ⟨ext_put o' h.ext hl hb, h.rs.put o' hb ho⟩
end
/-- What chain returns. -/
def ChPost (t : TabH) (s : List UInt8) (e : Ending) (w' : World) : Prop := ∃ h : SlH, e = .returned (.tuple #[.slice h.A h.m h.c, .int .i64 (chainP (tabL t.ls) t.al s).2]) ∧ SlC niC 1 w' h.A h.m (chainP (tabL t.ls) t.al s).1
theorem chainP_bad {l : TabL} {al : List AlP} {s : List UInt8} (h : usabP l al = false) : chainP l al s = ([], 1) := by unfold chainP; rw [h]; rfl
theorem chainP_err {l : TabL} {al : List AlP} {s : List UInt8} (h : usabP l al = true) (hc : (canonR al s).2 ≠ 0) : chainP l al s = ([], (canonR al s).2) := by unfold chainP; rw [if_pos h, if_neg hc]
theorem chainP_ok {l : TabL} {al : List AlP} {s : List UInt8} (h : usabP l al = true) (hc : (canonR al s).2 = 0) : chainP l al s = walkC l (l.length + 1) (some (nearC l (canonR al s).1)) [] := by unfold chainP; rw [if_pos h, if_pos hc]
theorem canon_len {al : List AlP} {s : List UInt8} (hc : (canonR al s).2 = 0) : (canonR al s).1.length ≤ 1000 := by
  obtain ⟨t, hv, ht⟩ := canon_valid hc
  rw [ht]
  unfold textT
  rw [if_pos hv]
  obtain ⟨h1, h2, h3, h4, h5⟩ := parts_small hv
  exact joinT_small h1 h2 h3 h4 h5
section
variable {w : World}
set_option maxHeartbeats 12800000 in
theorem chain_any {t : TabH} (ht : TabW w t) {s : List UInt8} (hs : s.length ≤ 1000) (hM : MX w) :
    Calls Tryz.prog 13 #[tbV t, .string (str s)] w fun e w' => ChPost t s e w' ∧ Ext w w' := by
  have HUS : Hid (∀ W, Ext w W → Calls Tryz.prog 44 #[tbV t] W fun e w' => e = .returned (.bool (usabP (tabL t.ls) t.al)) ∧ Ext W w') := fun W hE => usable_any (ht.ext hE) (hM.ext hE)
  have HWA : Hid (∀ W, Calls Tryz.prog 50 #[tbV t, .string (str (canonR t.al s).1)] W fun e w' => ∃ g1 g2 : Nat, e = .returned (.func (.func 77) #[] #[.pointer (some ⟨g1, 0, none⟩), .pointer (some ⟨g2, 0, none⟩)]) ∧
      W.heap.size ≤ g1 ∧ W.heap.size ≤ g2 ∧ Blk w' g1 26 #[.slice t.hl.A t.hl.m t.hl.c, .slice t.ha.A t.ha.m t.ha.c, .slice t.hn.A t.hn.m t.hn.c] ∧ Blk w' g2 9 #[.string (str (canonR t.al s).1)] ∧ Ext W w') := fun W => walk_any t _
  have HTB := Lib.hid ht
  have HM := Lib.hid hM
  have HSL := Lib.hid hs
  obtain ⟨t0, ht0⟩ : ∃ x, x = t := ⟨_, rfl⟩
  have HT0 := Lib.hid ht0
  obtain ⟨ls, al, nr, ⟨A1, m1, c1⟩, ⟨A2, m2, c2⟩, ⟨A3, m3, c3⟩⟩ := t
  unfold tbV at HUS HWA ⊢
  dsimp only at HUS HWA ⊢
  clear ht hM hs ht0
  obtain ⟨cv, hcv⟩ : ∃ x, x = chainP (tabL ls) al s := ⟨_, rfl⟩
  have HCV := Lib.hid hcv
  have HPO : Hid (∀ e w', (∃ h : SlH, e = .returned (.tuple #[.slice h.A h.m h.c, .int .i64 cv.2]) ∧ SlC niC 1 w' h.A h.m cv.1) → ChPost ⟨ls, al, nr, ⟨A1, m1, c1⟩, ⟨A2, m2, c2⟩, ⟨A3, m3, c3⟩⟩ s e w') := fun e w' h => by rw [hcv] at h; exact h
  refine Calls.mono (R := fun e w' => (∃ h : SlH, e = .returned (.tuple #[.slice h.A h.m h.c, .int .i64 cv.2]) ∧ SlC niC 1 w' h.A h.m cv.1) ∧ Ext w w') ?_ (fun e w' h => ⟨HPO.out _ _ h.1, h.2⟩)
  clear HPO hcv
  have HCA : Hid (∀ W, Ext w W → Calls Tryz.prog 8 #[.slice A2 m2 c2, .string (str s)] W fun e w' => e = .returned (.tuple #[.string (str (canonR al s).1), .int .i64 (canonR al s).2]) ∧ Ext W w') := fun W hE => acanon_any (h := ⟨A2, m2, c2⟩) (HTB.out.al.ext hE) HTB.out.a12 HSL.out (HM.out.ext hE)
  obtain ⟨sb, hsb⟩ : ∃ x, x = str s := ⟨_, rfl⟩
  rw [← hsb] at HCA ⊢
  clear hsb
  obtain ⟨W0, hW0⟩ : ∃ W0, W0 = ((w.alloc (Obj.cells #[.slice A1 m1 c1, .slice A2 m2 c2, .slice A3 m3 c3] 26)).alloc (Obj.cells #[.slice none 0 0] 51)).alloc (Obj.cells #[.int .i64 0] 28) := ⟨_, rfl⟩
  have hE0 : Ext w W0 := by rw [hW0]; exact (((Ext.refl w).alloc _).alloc _).alloc _
  obtain ⟨g2b, hg2b⟩ : ∃ g, g = w.heap.size := ⟨_, rfl⟩
  obtain ⟨g4, hg4⟩ : ∃ g, g = w.heap.size + 1 := ⟨_, rfl⟩
  obtain ⟨g5, hg5⟩ : ∃ g, g = w.heap.size + 1 + 1 := ⟨_, rfl⟩
  have hb2 : Blk W0 g2b 26 #[.slice A1 m1 c1, .slice A2 m2 c2, .slice A3 m3 c3] := by rw [hW0, hg2b]; exact ((Blk.new w _ _).alloc _).alloc _
  have HR0 : Hid (Rs2 W0 g4 g5 (.slice none 0 0) (.int .i64 0)) := by
    have b4 := Blk.new (w.alloc (Obj.cells #[.slice A1 m1 c1, .slice A2 m2 c2, .slice A3 m3 c3] 26)) 51 #[.slice none 0 0]
    have b5 := Blk.new ((w.alloc (Obj.cells #[.slice A1 m1 c1, .slice A2 m2 c2, .slice A3 m3 c3] 26)).alloc (Obj.cells #[.slice none 0 0] 51)) 28 #[.int .i64 0]
    simp only [World.size_alloc] at b4 b5
    rw [hW0, hg4, hg5]
    exact ⟨b4.alloc _, b5⟩
  have HB2 := Lib.hid hb2
  have HE0 := Lib.hid hE0
  clear hb2 hE0
  refine callsIn_wide.1 (callsIn_of_wp_marks (n := 4) Tryz.func13 rfl trivial (wpIn_wide.2 ?_))
  simp only [Tryz.ntmps13, List.size_toArray, List.length_cons, List.length_nil, Nat.reduceAdd, Nat.reduceSub, Array.replicate_succ, Array.replicate_zero, List.push_toArray, List.append_toArray, List.nil_append, List.cons_append]
  go_upto_region 1 with fail
  rw [← hW0, ← hg5, ← hg4, ← hg2b]
  replace hg2b : w.heap.size ≤ g2b := by omega
  replace hg4 : w.heap.size ≤ g4 := by omega
  replace hg5 : w.heap.size ≤ g5 := by omega
  have k0 := laters (show W0.cell? ⟨g2b, 0, none⟩ = some (.slice A1 m1 c1) from HB2.out.cell 0)
  have k1 := laters (show W0.cell? ⟨g2b, 1, none⟩ = some (.slice A2 m2 c2) from HB2.out.cell 1)
  have k2 := laters (show W0.cell? ⟨g2b, 2, none⟩ = some (.slice A3 m3 c3) from HB2.out.cell 2)
  have hEr := Ext.refl W0
  clear hW0
  go_wp2_with (first
    | (go_at_call 44; refine Hid.out ?_))
  refine Hid.mk_ ((HUS.out _ HE0.out).mono ?_)
  rintro e w1 ⟨rfl, hE1⟩
  have HR1 := Lib.hid (HR0.out.ext hE1)
  have hEw1 := HE0.out.trans hE1
  obtain ⟨bu, hbu⟩ : ∃ b, b = usabP (tabL ls) al := ⟨_, rfl⟩
  rw [← hbu]
  have HBU := Lib.hid hbu.symm
  clear hbu
  cases bu with
  | false =>
    have HCE : Hid (cv = ([], 1)) := by show _ = _; rw [HCV.out]; exact chainP_bad HBU.out
    obtain ⟨r1, r2, r3, r4⟩ := (HR1).out.facts
    go_wp2
    refine ⟨_, ((HR1).out.set_ _ _).res _ rfl rfl, ?_⟩
    exact ⟨⟨⟨none, 0, 0⟩, by rw [HCE.out], by rw [HCE.out]; exact SlC.nil_ niC_len⟩, setR2_ext hEw1 hg4 hg5 _ _⟩
  | true =>
    go_wp2_with (first
      | (go_at_call 8; refine Hid.out ?_))
    refine Hid.mk_ ((HCA.out _ hEw1).mono ?_)
    rintro e w2 ⟨rfl, hE2⟩
    have HR2 := Lib.hid (HR1.out.ext hE2)
    have hEw2 := hEw1.trans hE2
    have hE02 := hE1.trans hE2
    obtain ⟨er, her⟩ : ∃ z, z = (canonR al s).2 := ⟨_, rfl⟩
    have HCL : Hid (er = 0 → (canonR al s).1.length ≤ 1000) := fun h => canon_len (by rw [← her]; exact h)
    have HCO : Hid (er = 0 → cv = walkC (tabL ls) ((tabL ls).length + 1) (some (nearC (tabL ls) (canonR al s).1)) []) := fun h => by rw [HCV.out]; exact chainP_ok HBU.out (by rw [← her]; exact h)
    have HCN : Hid (er ≠ 0 → cv = ([], er)) := fun h => by rw [HCV.out, her]; exact chainP_err HBU.out (by rw [← her]; exact h)
    rw [← her]
    obtain ⟨cs, hcs⟩ : ∃ x, x = (canonR al s).1 := ⟨_, rfl⟩
    rw [← hcs] at HWA HCL HCO ⊢
    clear her hcs
    by_cases h0 : er = 0
    · have e1 : (er != 0) = false := by rw [h0]; rfl
      have HCL1 := Lib.hid (HCL.out h0)
      have HCO1 := Lib.hid (HCO.out h0)
      have HL0 : Hid (0 < ls.length) := by
        have h := (usab_parts HBU.out).1
        rwa [tabL_len] at h
      obtain ⟨W3, hW3⟩ : ∃ W3, W3 = w2.alloc (Obj.cells #[.slice none 0 0] 51) := ⟨_, rfl⟩
      obtain ⟨g8, hg8⟩ : ∃ g, g = w2.heap.size := ⟨_, rfl⟩
      have hE3 : Ext w2 W3 := by rw [hW3]; exact (Ext.refl w2).alloc _
      have hb8 : Blk W3 g8 51 #[.slice none 0 0] := by rw [hW3, hg8]; exact Blk.new w2 _ _
      have HR3 := Lib.hid (HR2.out.ext hE3)
      have HEw3 := Lib.hid (hEw2.trans hE3)
      have HG84 : Hid (g4 ≠ g8) := fun e => by have := HR2.out.b4.lt; omega
      have HB8 := Lib.hid hb8
      have HW3 := Lib.hid hW3
      have HG8 := Lib.hid hg8
      clear h0 hE3 hb8 hW3 hg8
      go_wp2_with (first
        | (go_at_call 50; refine Hid.out ?_))
      rw [← HW3.out, ← HG8.out]
      refine Hid.mk_ ((HWA.out _).mono ?_)
      rintro e w4 ⟨g1, g2, rfl, hg1, hg2, hB1, hB2, hE4⟩
      clear k0 k1 k2 hEr hE1 hE2 hE02 hEw1
      have hWK : WkS w g1 g2 ⟨ls, al, nr, ⟨A1, m1, c1⟩, ⟨A2, m2, c2⟩, ⟨A3, m3, c3⟩⟩ cs w4 := ⟨HEw3.out.trans hE4, hB1, hB2⟩
      have HR4 := Lib.hid (HR3.out.ext hE4)
      have HB84 := Lib.hid (HB8.out.below hE4 HB8.out.lt)
      have HG8w : Hid (w.heap.size ≤ g8) := by show _ ≤ _; rw [HG8.out]; exact hEw2.size
      have hI0 : ChI w ⟨ls, al, nr, ⟨A1, m1, c1⟩, ⟨A2, m2, c2⟩, ⟨A3, m3, c3⟩⟩ cs g1 g2 g4 g5 g8 [] w4 :=
        ⟨hWK, HR4.out, ⟨none, 0, 0, OsC.nil_ niC_len niC_cell, HB84.out⟩, List.nodup_nil, fun i hi => by cases hi⟩
      have HI0 := Lib.hid hI0
      have HWK := Lib.hid hWK
      clear hI0 hWK hB1 hB2 hE4 hg1 hg2
      go_wp2
      refine (wpIn_wide (n := 4)).1 ?_
      generalize ha1 : Act.mk _ _ = a1
      refine range_walk (w0 := w) (w := w4) (by omega) (g1 := g1) (g2 := g2) (by rw [← ha1]; rfl) HTB.out HL0.out HM.out HCL1.out HWK.out (ChI w ⟨ls, al, nr, ⟨A1, m1, c1⟩, ⟨A2, m2, c2⟩, ⟨A3, m3, c3⟩⟩ cs g1 g2 g4 g5 g8) (ChX w g4 g5)
        (fun out X Y h hE => h.extn hE) (fun er X Y h hE => h.extn hE) (fun out X l o o' h hl hb ho => h.put o' (Nat.le_trans HWK.out.ext.size hl) hb ho) (fun er X l o o' h hl hb ho => h.put o' (Nat.le_trans HWK.out.ext.size hl) hb ho)
        (fun out X h => ⟨h.nd, h.lt⟩) HI0.out (fun o => { tmps := (a1.tmps.setIfInBounds 26 (.int .i64 (optI o))).setIfInBounds 9 (.int .i64 (optI o)), defers := [] }) ?hassign ?hbody ?hdone ?hstop
      case hassign =>
        intro l o X K hK
        rw [← ha1] at hK ⊢
        simp only [List.setIfInBounds_toArray, List.set_cons_zero, List.set_cons_succ] at hK ⊢
        gi_wp2
        exact hK
      case hbody =>
        intro l out o X hI ho
        rw [← ha1]
        simp only [List.setIfInBounds_toArray, List.set_cons_zero, List.set_cons_succ]
        have HI := Lib.hid hI
        have HO := Lib.hid ho
        obtain ⟨A, m, c, hown, hb8⟩ := hI.row
        have HOW := Lib.hid hown
        have HBX := Lib.hid hb8
        have hsz := hI.wk.ext.size
        have hml : m ≤ 1000 := by
          have h1 := nodup_bound hI.nd hI.lt
          have h2 := HTB.out.l12
          have h3 := hown.len
          dsimp only at h1 h2
          omega
        clear hI ho hown hb8 ha1
        cases o with
        | none =>
          have eoi : optI none = -1 := rfl
          rw [eoi]
          have HRS := Lib.hid HI.out.rs
          obtain ⟨r1, r2, r3, r4⟩ := HI.out.rs.facts
          gi_wp2
          exact ⟨setR2_keeps _ _ _, 10, rfl, setR2_ext HI.out.wk.ext hg4 hg5 _ _, HRS.out.set_ _ _⟩
        | some i =>
          have eoi : optI (some i) = (i : Int) := rfl
          rw [eoi]
          have hin : ¬ (i : Int) < 0 := by omega
          have k8 := HBX.out.cell 0
          simp only [List.getElem?_toArray, List.getElem?_cons_zero] at k8
          have HKN := Lib.hid (containsN_any c HOW.out.sl i)
          obtain ⟨bc, hbc⟩ : ∃ b, b = decide (i ∈ out) := ⟨_, rfl⟩
          rw [← hbc] at HKN
          have HBC := Lib.hid hbc
          clear hbc eoi
          gi_wp2_with (first | (gi_at_call 51; refine Hid.out ?_))
          first | refine Hid.mk_ ⟨trivial, callsWR ((HKN.out).mono ?_)⟩ | refine Hid.mk_ (callsWR ((HKN.out).mono ?_)) | refine ⟨trivial, callsWR ((HKN.out).mono ?_)⟩ | refine ⟨fun e => absurd e (by simp [Fence.inRound, Fence.wide]), callsWR ((HKN.out).mono ?_)⟩ | refine Hid.mk_ ⟨fun e => absurd e (by simp [Fence.inRound, Fence.wide]), callsWR ((HKN.out).mono ?_)⟩
          rintro e w5 ⟨rfl, rfl⟩
          cases bc with
          | true =>
            have hst : stopW (some i) out = some 15 := if_pos (of_decide_eq_true HBC.out.symm)
            have HST := Lib.hid hst
            have HRS := Lib.hid HI.out.rs
            obtain ⟨r1, r2, r3, r4⟩ := HI.out.rs.facts
            clear hst k8
            gi_wp2
            exact ⟨setR2_keeps _ _ _, 15, HST.out, setR2_ext HI.out.wk.ext hg4 hg5 _ _, HRS.out.set_ _ _⟩
          | false =>
            have hni : i ∉ out := of_decide_eq_false HBC.out.symm
            have HNI := Lib.hid hni
            have hnew := SlC.new_ (cs := niC) X [i] niC_len (by simp) #[.int .i64 (i : Int)] rfl (0, 0) 1 rfl 3
            have hEx : Ext X (X.alloc (Obj.cells #[.int .i64 (i : Int)] 3)) := (Ext.refl _).alloc _
            have HEX := Lib.hid hEx
            have HNEW := Lib.hid hnew
            have HOX := Lib.hid (HOW.out.ext hEx)
            have HIX := Lib.hid (HI.out.extn hEx)
            have HBY := Lib.hid (HBX.out.below hEx HBX.out.lt)
            clear hni hnew hEx
            gi_wp2_with (first
              | (gi_at_builtin; refine Hid.out ?_))
            refine Hid.mk_ ?_
            refine appCI einfo_ni rfl _ _ rfl HOX.out rfl HNEW.out rfl (by omega) HIX.out.wk.ext.size ?_
            intro A8 m8 c8 w8 ho8 hg8 hn8
            have hkeep : ∀ g t cs, Blk (X.alloc (Obj.cells #[.int .i64 (i : Int)] 3)) g t cs → t ≠ 3 → Blk w8 g t cs := fun g t cs hb ht => hb.grown hg8 (fun e => by
              obtain ⟨ys, hy⟩ := HOX.out.blk_ e.symm
              exact Blk.ne_ hb hy ht rfl)
            have hb88 := hkeep _ _ _ HBY.out (by decide)
            have k88 := hb88.cell 0
            have f88 := hb88.frozen 0
            simp only [List.getElem?_toArray, List.getElem?_cons_zero] at k88
            have HO8 := Lib.hid ho8
            have HG8' := Lib.hid hg8
            have HKP := Lib.hid hkeep
            have HB88 := Lib.hid hb88
            clear k8 ho8 hg8 hn8 hkeep hb88
            gi_wp2
            have hEX8 : Ext w w8 := HIX.out.wk.ext.grown HG8'.out (fun j hj => HOX.out.ge j hj)
            have hkk : ∀ g t cs, Blk X g t cs → t ≠ 3 → g ≠ g8 → Blk (w8.setCell ⟨g8, 0, none⟩ (.slice A8 m8 c8)) g t cs := fun g t cs hb ht hne => (HKP.out g t cs (hb.below HEX.out hb.lt) ht).far (p := ⟨g8, 0, none⟩) hne _
            have hIN : ChI w ⟨ls, al, nr, ⟨A1, m1, c1⟩, ⟨A2, m2, c2⟩, ⟨A3, m3, c3⟩⟩ cs g1 g2 g4 g5 g8 (out ++ [i]) (w8.setCell ⟨g8, 0, none⟩ (.slice A8 m8 c8)) :=
              ⟨⟨hEX8.set_ (p := ⟨g8, 0, none⟩) HG8w.out _, hkk _ _ _ HI.out.wk.b1 (by decide) (Blk.ne_ HI.out.wk.b1 HBX.out (by decide)), hkk _ _ _ HI.out.wk.b2 (by decide) (Blk.ne_ HI.out.wk.b2 HBX.out (by decide))⟩,
                ⟨hkk _ _ _ HI.out.rs.b4 (by decide) HG84.out, hkk _ _ _ HI.out.rs.b5 (by decide) (Blk.ne_ HI.out.rs.b5 HBX.out (by decide))⟩,
                ⟨A8, m8, c8, HO8.out.setFar HB88.out (by decide) 0 _, HB88.out.set_ 0 _⟩,
                List.nodup_append.2 ⟨HI.out.nd, by simp, fun a ha b hb => by rw [List.mem_singleton] at hb; subst hb; exact fun e => HNI.out (e ▸ ha)⟩,
                fun j hj => by
                  rcases List.mem_append.1 hj with hj | hj
                  · exact HI.out.lt j hj
                  · rw [List.mem_singleton] at hj; rw [hj]; exact HO.out i rfl⟩
            have hkf : KeepsFrom w4.heap.size X (w8.setCell ⟨g8, 0, none⟩ (.slice A8 m8 c8)) :=
              ((KeepsOthers.alloc X _).from _).trans (((KeepsOthers.of_grownBy HG8'.out fun j hj1 hj hk => by
                obtain ⟨ys, hy⟩ := HOX.out.blk_ hj
                have h1 := hk.symm.trans hy
                injection h1 with h1
                rw [h1]
                rfl).from _).trans ((KeepsOthers.setCell _ _ _).from _))
            refine ⟨hkf, ⟨?_, fun t cs hb => ?_, fun t cs hb => ?_⟩, i, rfl, HNI.out, hIN⟩
            · exact ((((Below.refl w.heap.size X).alloc hsz _).grown HG8'.out (by simp; omega) (fun j hj => HOX.out.ge j hj))).setCell (p := ⟨g8, 0, none⟩) HG8w.out _
            · have h1 := hb.symm.trans HI.out.wk.b1
              injection h1 with h1
              injection h1 with h2 h3
              exact hkk _ _ _ hb (by rw [h3]; decide) (Blk.ne_ hb HBX.out (by rw [h3]; decide))
            · have h1 := hb.symm.trans HI.out.wk.b2
              injection h1 with h1
              injection h1 with h2 h3
              exact hkk _ _ _ hb (by rw [h3]; decide) (Blk.ne_ hb HBX.out (by rw [h3]; decide))
      case hdone =>
        intro D out X hD hwk hI hd
        subst ha1
        have HI := Lib.hid hI
        obtain ⟨A, m, c, hown, hb8⟩ := hI.row
        have HOW := Lib.hid hown
        have HBX := Lib.hid hb8
        have k8 := hb8.cell 0
        simp only [List.getElem?_toArray, List.getElem?_cons_zero] at k8
        obtain ⟨r1, r2, r3, r4⟩ := HI.out.rs.facts
        have HRS := Lib.hid HI.out.rs
        have HDD := Lib.hid hd
        have HCF : Hid (cv = (out, 0)) := by show _ = _; rw [HCO1.out, tabL_len]; exact hwk
        have HDS := Lib.hid hD
        clear hI hown hb8 hwk hd hD
        go_wp2
        have hd2 : (setR2 X g4 g5 (.slice A m c) (.int .i64 0)).heap[D]? = some (.deferred (some [])) := (setR2_keeps w4.heap.size _ _).same D _ HDS.out HDD.out rfl
        refine leaves_one hd2 ?_
        refine ⟨_, ((HRS.out.set_ _ _).put _ hd2 rfl).res _ rfl rfl, ?_⟩
        have ho2 : OsC niC 3 1 (setR2 X g4 g5 (.slice A m c) (.int .i64 0)) w.heap.size A m c out := (HOW.out.setFar HRS.out.b4 (by decide) 0 _).setFar (HRS.out.b5.far (p := ⟨g4, 0, none⟩) (fun e => HRS.out.ne e.symm) _) (by decide) 0 _
        exact ⟨⟨⟨A, m, c⟩, by rw [HCF.out], by rw [HCF.out]; exact (ho2.put _ hd2 rfl).sl⟩, ext_put _ (setR2_ext HI.out.wk.ext hg4 hg5 _ _) (Nat.le_trans HWK.out.ext.size HDS.out) hd2⟩
      case hstop =>
        intro D er2 X hD hwk her hX hd
        subst ha1
        have HXX := Lib.hid hX
        have HDD := Lib.hid hd
        have HDS := Lib.hid hD
        have HCF : Hid (cv = ([], er2)) := by show _ = _; rw [HCO1.out, tabL_len]; exact hwk
        clear hX hd hwk her hD
        refine wpIn_wide.2 ?_
        go_wp2
        refine leaves_one HDD.out ?_
        refine ⟨_, (HXX.out.rs.put _ HDD.out rfl).res _ rfl rfl, ?_⟩
        exact ⟨⟨⟨none, 0, 0⟩, by rw [HCF.out], by rw [HCF.out]; exact SlC.nil_ niC_len⟩, ext_put _ HXX.out.ext (Nat.le_trans HWK.out.ext.size HDS.out) HDD.out⟩
    · have e1 : (er != 0) = true := by simp [h0]
      have HCE := Lib.hid (HCN.out h0)
      obtain ⟨r1, r2, r3, r4⟩ := (HR2).out.facts
      go_wp2
      refine ⟨_, ((HR2).out.set_ _ _).res _ rfl rfl, ?_⟩
      exact ⟨⟨⟨none, 0, 0⟩, by rw [HCE.out], by rw [HCE.out]; exact SlC.nil_ niC_len⟩, setR2_ext hEw2 hg4 hg5 _ _⟩
end
end Go.Proofs.YtdgppdiickmofaaGreatDoor
