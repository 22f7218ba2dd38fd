/- The program's extract: what lies between two rounds over the calls that were found; marks among the deferred calls. -/
import Derived.Test.YtgnchicipmomlaaGreatDoorPK36
import Derived.RangeFuncNested
import Derived.OwnWalkIn
namespace Go.Proofs.YtgnchicipmomlaaGreatDoor
open Go.RowKit Go.Maps
set_option maxRecDepth 100000
attribute [local go_sem] ext_refl_t ext_alloc_t ext_drew_t ext_drewN_t ext_alloc2_t ext_alloc3_t ext_alloc4_t ext_alloc5_t ext_alloc6_t ext_alloc7_t ext_alloc8_t ext_alloc1d_t ext_alloc2d_t ext_alloc3d_t ext_alloc4d_t
/-- Marks of ranges that are over, among the deferred calls. -/
def Mks (B : Nat) (W : World) : Nat → List Deferred → Prop
  | _, [] => True
  | U, d :: ds => ∃ D, d = { target := .collected D, args := #[] } ∧ B ≤ D ∧ D < U ∧ W.heap[D]? = some (.deferred (some [])) ∧ Mks B W D ds
theorem Mks.mono {B : Nat} {W : World} {U U' : Nat} {ds : List Deferred} (h : Mks B W U ds) (hU : U ≤ U') : Mks B W U' ds := by
  cases ds with
  | nil => trivial
  | cons d ds => obtain ⟨D, h1, h2, h3, h4⟩ := h; exact ⟨D, h1, h2, by omega, h4⟩
theorem Mks.step {B : Nat} {W W' : World} : ∀ {ds : List Deferred} {U : Nat} (_h : Mks B W U ds) (_hk : ∀ D, B ≤ D → D < U → W.heap[D]? = some (.deferred (some [])) → W'.heap[D]? = some (.deferred (some []))), Mks B W' U ds
  | [], _, _, _ => trivial
  | _ :: _, _, ⟨D, h1, h2, h3, h4, h5⟩, hk => ⟨D, h1, h2, h3, hk D h2 h3 h4, Mks.step h5 fun D' e1 e2 e3 => hk D' e1 (by omega) e3⟩
theorem Mks.push {B : Nat} {W : World} {U D : Nat} {ds : List Deferred} (h : Mks B W U ds) (hD : U ≤ D) (hB : B ≤ U) (hd : W.heap[D]? = some (.deferred (some []))) : Mks B W W.heap.size ({ target := .collected D, args := #[] } :: ds) :=
  ⟨D, rfl, by omega, (Array.getElem?_eq_some_iff.1 hd).1, hd, h.mono hD⟩
theorem frt_put {W : World} {D : Nat} {o : Obj} (o' : Obj) (hd : W.heap[D]? = some o) (ho : o.isCells = false) : FrT (fun _ => False) W (W.putObj D o') := fun k t cs hb _ => by
  have hne : k ≠ D := fun e => by
    subst e
    have h1 := hb.symm.trans hd
    injection h1 with h1
    rw [← h1] at ho
    cases ho
  exact (World.putObj_heap_other hne).trans hb
theorem leaves_mks {P : Program} {F : Fence} {n : Nat} {fn : Func} {tmps : Array Value} {R : Ending → World → Prop} {B : Nat} : ∀ (ds : List Deferred) (U : Nat) (W : World), Mks B W U ds →
    (∀ W', Below B W W' → FrT (fun _ => False) W W' → LeavesInM F n P fn tmps R [] .returning W') → LeavesInM F n P fn tmps R ds .returning W
  | [], _, W, _, h => h W (Below.refl _ _) (FrT.of_ext (Ext.refl W))
  | _ :: ds, U, W, ⟨D, h1, h2, h3, h4, h5⟩, h => by
    subst h1
    refine ⟨by simp, .inl ⟨D, _, rfl, run_takeDeferred h4, ?_⟩⟩
    have hb : Below B W (W.putObj D (.deferred none)) := (Below.refl B W).grown (grownBy_putObj' W D _) (by have := (Array.getElem?_eq_some_iff.1 h4).1; omega) (fun k e => by cases e; exact h2)
    have hf : FrT (fun _ => False) W (W.putObj D (.deferred none)) := frt_put _ h4 rfl
    exact leaves_mks ds D _ (Mks.step h5 fun D' e1 e2 e3 => (World.putObj_heap_other (by omega)).trans e3) fun W' hb' hf' => h W' (hb.trans hb') (hf.trans hf')
theorem act_inv {n : Nat} {R : (Nat → Value) → List Deferred → Prop} (l : List Value) (hl : l.length = n) (ds : List Deferred) (h : R (fun k => l.getD k undef) ds) :
    ∃ f ds', (⟨l.toArray, ds⟩ : Act) = ⟨((List.range n).map f).toArray, ds'⟩ ∧ R f ds' := by
  refine ⟨_, ds, ?_, h⟩
  congr 2
  apply List.ext_getElem
  · simp [hl]
  · intro i h1 h2
    simp [List.getD, h1]
/-- No object but the map bm, and no cells, has changed. -/
structure KO (bm : Nat) (W W' : World) : Prop where
  size : W.heap.size ≤ W'.heap.size
  same : ∀ (k : Nat) (o : Obj), k ≠ bm → W.heap[k]? = some o → o.isCells = false → W'.heap[k]? = some o
theorem KO.of_others {bm : Nat} {W W' : World} (h : KeepsOthers W W') : KO bm W W' := ⟨h.size, fun k o _ hk ho => h.same k o hk ho⟩
theorem KO.trans {bm : Nat} {W W1 W2 : World} (h : KO bm W W1) (k : KO bm W1 W2) : KO bm W W2 := ⟨Nat.le_trans h.size k.size, fun i o hi h1 h2 => k.same i o hi (h.same i o hi h1 h2) h2⟩
theorem KO.of_ext {bm : Nat} {W W' : World} (h : Ext W W') : KO bm W W' := ⟨h.size, fun k _ _ hk _ => (h.block k (Array.getElem?_eq_some_iff.1 hk).1).trans hk⟩
theorem KO.from_ {bm B : Nat} {W W' : World} (h : KO bm W W') (hB : bm < B) : KeepsFrom B W W' := ⟨h.size, fun k o hk h1 h2 => h.same k o (by omega) h1 h2⟩
theorem KO.mks {bm U : Nat} {W W' : World} {ds : List Deferred} (h : KO bm W W') (hm : Mks (bm + 1) W U ds) : Mks (bm + 1) W' U ds := hm.step fun D h1 _ h2 => h.same D _ (by omega) h2 rfl
/-- The types of the rows that a round writes. -/
def TE (t : TypeId) : Prop := t = 39 ∨ t = 9 ∨ t = 56 ∨ t = 30
/-- What a round changes. -/
structure FrE (n1 bm : Nat) (W W' : World) : Prop where
  below : Below n1 W W'
  ko : KO bm W W'
  frt : FrT TE W W'
section
variable {n1 bm : Nat} {W W1 W2 : World}
theorem FrE.refl (n1 bm : Nat) (W : World) : FrE n1 bm W W := ⟨Below.refl _ _, KO.of_ext (Ext.refl W), FrT.of_ext (Ext.refl W)⟩
theorem FrE.trans (h : FrE n1 bm W W1) (k : FrE n1 bm W1 W2) : FrE n1 bm W W2 := ⟨h.below.trans k.below, h.ko.trans k.ko, h.frt.trans k.frt⟩
theorem FrE.ext (h : FrE n1 bm W W1) (k : Ext W1 W2) (hn : n1 ≤ W1.heap.size) : FrE n1 bm W W2 := h.trans ⟨Below.mono k hn, KO.of_ext k, FrT.of_ext k⟩
theorem FrE.own {α : Type} {cs : α → List Value} {e : TypeId} {k : Nat} {base : Nat} {A : Option Addr} {m c : Nat} {l : List α} (h : FrE n1 bm W W1) (ho : OsC cs e k W1 base A m c l) (hT : TE e) (hb : n1 ≤ base) (hn : n1 ≤ W1.heap.size) (hg : W1.grownBy W2 (ob A)) : FrE n1 bm W W2 := by
  refine h.trans ⟨(Below.refl n1 W1).grown hg hn (fun j hj => Nat.le_trans hb (ho.ge j hj)), KO.of_others (KeepsOthers.of_grownBy hg fun j _ hj hk => ?_), FrT.own ho hT hg⟩
  obtain ⟨xs, hx⟩ := ho.blk_ hj
  have h1 := hk.symm.trans hx
  injection h1 with h1
  rw [h1]
  rfl
theorem FrE.set_ {g : Nat} {t : TypeId} {cs : Array Value} (h : FrE n1 bm W W1) (hb : Blk W1 g t cs) (hT : TE t) (hg : n1 ≤ g) (hn : n1 ≤ W1.heap.size) (i : Nat) (u : Value) : FrE n1 bm W (W1.setCell ⟨g, i, none⟩ u) :=
  h.trans ⟨(Below.refl n1 W1).grown (grown_setB W1 ⟨g, i, none⟩ u) hn (fun j hj => by injection hj with hj; rw [← hj]; exact hg), KO.of_others (KeepsOthers.setCell _ _ _), FrT.set_ hb hT i u⟩
theorem FrE.map_ {F : ByteArray → Option Nat} {n : Nat} (h : FrE n1 bm W W1) (hm : IM W1 bm n F) (hg : W1.grownBy W2 (some bm)) (hb : n1 ≤ bm) (hn : n1 ≤ W1.heap.size) : FrE n1 bm W W2 :=
  h.trans ⟨(Below.refl n1 W1).grown hg hn (fun j hj => by injection hj with hj; rw [← hj]; exact hb), ⟨hg.size, fun k o hk h1 _ => (hg.block k (Array.getElem?_eq_some_iff.1 h1).1 (fun e => hk (by injection e))).trans h1⟩,
    fun k t cs h1 _ => h1.grown hg (fun e => hm.ne_blk h1 (by injection e))⟩
theorem FrE.blk {g : Nat} {t : TypeId} {cs : Array Value} (h : FrE n1 bm W W1) (hb : Blk W g t cs) (hT : ¬ TE t) : Blk W1 g t cs := h.frt g t cs hb hT
end
/-- The turn of a block that is no cells, from U on. -/
def TuR (U : Nat) (W W' : World) : Prop := ∃ row, W.grownBy W' row ∧ ∀ r, row = some r → U ≤ r ∧ ∃ o : Obj, W.heap[r]? = some o ∧ o.isCells = false
section
variable {U : Nat} {W W' : World}
theorem TuR.frt (h : TuR U W W') : FrT (fun _ => False) W W' := fun k t cs hb _ => by
  obtain ⟨row, hg, hr⟩ := h
  refine (hg.block k hb.lt (fun e => ?_)).trans hb
  obtain ⟨_, o, ho, hc⟩ := hr k e.symm
  have h1 := hb.symm.trans ho
  injection h1 with h1
  rw [← h1] at hc
  cases hc
theorem TuR.ext {w : World} (h : TuR U W W') (hE : Ext w W) (hU : w.heap.size ≤ U) : Ext w W' := by
  obtain ⟨row, hg, hr⟩ := h
  exact hE.grown hg (fun j hj => Nat.le_trans hU (hr j hj).1)
theorem TuR.im {bm n : Nat} {F : ByteArray → Option Nat} (h : TuR U W W') (hm : IM W bm n F) (hU : bm < U) : IM W' bm n F := by
  obtain ⟨row, hg, hr⟩ := h
  exact hm.kept hg (fun e => by have := (hr bm e.symm).1; omega)
theorem TuR.mks {B : Nat} {ds : List Deferred} (h : TuR U W W') (hm : Mks B W U ds) : Mks B W' U ds := by
  obtain ⟨row, hg, hr⟩ := h
  exact hm.step fun D _ h2 h3 => (hg.block D (Array.getElem?_eq_some_iff.1 h3).1 (fun e => by have := (hr D e.symm).1; omega)).trans h3
end
/-- The entries that are being gathered, and their index. -/
def ExI (w1 : World) (g15 g16 bm N : Nat) (W : World) : Prop :=
  Blk W g16 49 #[.map (some bm)] ∧ ∃ A m c es ni F, ExS w1 W (2 * N) (300 * N) A m c es ∧ Blk W g15 30 #[.slice A m c] ∧ IM W bm ni F ∧ (∀ s v, F s = some v → v < es.length) ∧ ni ≤ N
section
variable {w1 W W' : World} {g15 g16 bm N N' U : Nat}
theorem ExI.base (h : ExI w1 g15 g16 bm N W) : Ext w1 W := by obtain ⟨_, A, m, c, es, ni, F, h, _⟩ := h; exact h.ext
theorem ExI.frt (h : ExI w1 g15 g16 bm N W) (hE : Ext w1 W') (hf : FrT (fun _ => False) W W') (hm : ∀ n F, IM W bm n F → IM W' bm n F) : ExI w1 g15 g16 bm N W' := by
  obtain ⟨h0, A, m, c, es, ni, F, h1, h2, h3, h4⟩ := h
  exact ⟨hf _ _ _ h0 (fun e => e), A, m, c, es, ni, F, h1.frt hE hf (fun e => e) (fun e => e) (fun e => e), hf _ _ _ h2 (fun e => e), hm _ _ h3, h4⟩
theorem ExI.extn (h : ExI w1 g15 g16 bm N W) (hE : Ext W W') : ExI w1 g15 g16 bm N W' := h.frt (h.base.trans hE) (FrT.of_ext hE) (fun _ _ e => e.ext hE)
theorem ExI.turn (h : ExI w1 g15 g16 bm N W) (ht : TuR U W W') (h1 : w1.heap.size ≤ U) (h2 : bm < U) : ExI w1 g15 g16 bm N W' := h.frt (ht.ext h.base h1) ht.frt (fun _ _ e => ht.im e h2)
theorem ExI.mono (h : ExI w1 g15 g16 bm N W) (hN : N ≤ N') : ExI w1 g15 g16 bm N' W := by
  obtain ⟨h0, A, m, c, es, ni, F, h1, h2, h3, h4, h5⟩ := h
  exact ⟨h0, A, m, c, es, ni, F, h1.mono (by omega) (by omega), h2, h3, h4, by omega⟩
end
theorem ExS.base {w w1 wr : World} {N V : Nat} {A : Option Addr} {m c : Nat} {es : List Ent} (h : ExS w1 wr N V A m c es) (hE : Ext w w1) : ExS w wr N V A m c es :=
  ⟨hE.trans h.ext, h.own.mono hE.size, fun i hi => (h.com i hi).mono hE.size, fun i hi => (h.fld i hi).mono hE.size, h.nofl, h.pl, h.dc, h.dd, h.len⟩
section
variable {w1 : World}
theorem Rs3.frt {w w' : World} {g6 g7 g8 : Nat} {v6 x y v8 : Value} (h : Rs3 w g6 g7 g8 v6 x y v8) (hf : FrT (fun _ => False) w w') : Rs3 w' g6 g7 g8 v6 x y v8 := ⟨hf _ _ _ h.b6 (fun e => e), hf _ _ _ h.b7 (fun e => e), hf _ _ _ h.b8 (fun e => e)⟩
theorem setR3_ko {w : World} (bm g6 g7 g8 : Nat) (a b c d : Value) : KO bm w (setR3 w g6 g7 g8 a b c d) :=
  (((KO.of_others (KeepsOthers.setCell _ _ _)).trans (KO.of_others (KeepsOthers.setCell _ _ _))).trans (KO.of_others (KeepsOthers.setCell _ _ _))).trans (KO.of_others (KeepsOthers.setCell _ _ _))
/-- The types of the boxes of the results. -/
def TR (t : TypeId) : Prop := t = 30 ∨ t = 91 ∨ t = 35
theorem Rs3.parts {w : World} {g6 g7 g8 : Nat} {v6 x y v8 : Value} (h : Rs3 w g6 g7 g8 v6 x y v8) (a b c d : Value) :
    FrT TR w (w.setCell ⟨g6, 0, none⟩ a) ∧ FrT TR w (((w.setCell ⟨g6, 0, none⟩ a).setCell ⟨g7, 0, none⟩ b).setCell ⟨g7, 1, none⟩ c) ∧ FrT TR w ((((w.setCell ⟨g6, 0, none⟩ a).setCell ⟨g7, 0, none⟩ b).setCell ⟨g7, 1, none⟩ c).setCell ⟨g8, 0, none⟩ d) := by
  have key : ∀ k t cs, Blk w k t cs → ¬ TR t → k ≠ g6 ∧ k ≠ g7 ∧ k ≠ g8 := fun k t cs hb hn =>
    ⟨Blk.ne_ hb h.b6 (fun e => hn (.inl e)), Blk.ne_ hb h.b7 (fun e => hn (.inr (.inl e))), Blk.ne_ hb h.b8 (fun e => hn (.inr (.inr e)))⟩
  refine ⟨fun k t cs hb hn => ?_, fun k t cs hb hn => ?_, fun k t cs hb hn => ?_⟩
  all_goals obtain ⟨k6, k7, k8⟩ := key k t cs hb hn
  · exact hb.far (p := ⟨g6, 0, none⟩) k6 a
  · exact ((hb.far (p := ⟨g6, 0, none⟩) k6 a).far (p := ⟨g7, 0, none⟩) k7 b).far (p := ⟨g7, 1, none⟩) k7 c
  · exact (((hb.far (p := ⟨g6, 0, none⟩) k6 a).far (p := ⟨g7, 0, none⟩) k7 b).far (p := ⟨g7, 1, none⟩) k7 c).far (p := ⟨g8, 0, none⟩) k8 d
theorem occ_stops (n : Nat) (hn : 1 ≤ n) {h hc : SlH} {l : List Tok} {calls : List Cll} {gt gc nb : Nat} (hs : ToksW nb w1 h l) (hl : l.length ≤ 1000) (hnb : nb ≤ 1000) (hcs : CllsW w1 hc calls) {w : World} (hS : OcS w1 gt gc h.A h.m h.c hc.A hc.m hc.c w) :
    SeqStopsK Fence.wide n Tryz.prog 79 #[.pointer (some ⟨gt, 0, none⟩), .pointer (some ⟨gc, 0, none⟩)] (fun x : {x : Occ // OccG nb x} => #[occV x.1]) (KpO w1.heap.size gt gc) (fun xs => xs.length ≤ 1000) (fun xs => xs.length ≤ 1000) 1000 w :=
  fun q J Jx W hW hJ _ hY h0 => occ1_in n hn hs hl hnb hcs q J Jx W (hS.extn hW) hJ hY h0
theorem KpO.put {B gt gc : Nat} {W : World} {l : Nat} {o : Obj} (o' : Obj) (hl : B ≤ l) (h : W.heap[l]? = some o) (ho : o.isCells = false) : KpO B gt gc W (W.putObj l o') :=
  ⟨(Below.refl B W).grown (grownBy_putObj' W l _) (by have := (Array.getElem?_eq_some_iff.1 h).1; omega) (fun k e => by cases e; exact hl), fun t cs hb => frt_put o' h ho _ _ _ hb (fun e => e), fun t cs hb => frt_put o' h ho _ _ _ hb (fun e => e)⟩
theorem KpO.of_fr {n1 bm gt gc : Nat} {W W' : World} {v v' : Value} (h : FrE n1 bm W W') (ht : Blk W gt 121 #[v]) (hc : Blk W gc 86 #[v']) : KpO n1 gt gc W W' :=
  ⟨h.below, fun t cs hb => by
    have h1 := hb.symm.trans ht
    injection h1 with h1
    injection h1 with _ h3
    exact h.blk hb (by rw [h3]; unfold TE; decide), fun t cs hb => by
    have h1 := hb.symm.trans hc
    injection h1 with h1
    injection h1 with _ h3
    exact h.blk hb (by rw [h3]; unfold TE; decide)⟩
end
section
variable {α : Type} {cs : α → List Value} {t e : TypeId} {k by_ : Nat} {w : World} {base : Nat} {A : Option Addr} {m c : Nat} {l : List α}
theorem appCI (I : EInfo t e k by_) {q n : Nat} {ops : Array Oper} {rest : List Oper} {o : Oper} {a : Act} {Q : Exit → Act → World → Prop} (hgd : o.guard = none) (s x : Operand)
    (ho : o.op = .call { callee := .builtin .append, args := #[s, x], argTypes := #[t, t] })
    (hown : OsC cs e k w base A m c l) (hs : a.eval s = .slice A m c)
    {B : Option Addr} {n' d : Nat} {news : List α} (hr : SlC cs k w B n' news) (hx : a.eval x = .slice B n' d)
    (hb : (m + n') * by_ ≤ 140737488355328) (hbase : base ≤ w.heap.size)
    (h : ∀ A' m' c' w', OsC cs e k w' base A' m' c' (l ++ news) → w.grownBy w' (ob A) → NewOr w.heap.size (ob A) (ob A') →
      wpListIn (WR q) n Tryz.prog ops Q rest (a.put o.dst (.slice A' m' c')) w') : wpListIn (WR q) n Tryz.prog ops Q (o :: rest) a w :=
  wpListIn_plain hgd fun _ hK => op_in (fun c e => by rw [ho] at e; cases e) (wp_appC I s x ho hown hs hr hx hb hbase fun A' m' c' w' h1 h2 h3 => hK _ _ (h A' m' c' w' h1 h2 h3))
end
theorem fold1 (T : Array Value) (p : Tmp) (v : Value) : (((#[p] : Array Tmp).zip #[v]).foldl (fun t (p, v) => t.setIfInBounds p v) T) = T.setIfInBounds p v := by simp
/-- Between two rounds over the calls of file z. -/
def InI (w1 : World) (g15 g16 bm g17 g18 gt gc z U : Nat) (nm tx : ByteArray) (ds : List Deferred) (vt vc : Value) {nb : Nat} (pre : List {x : Occ // OccG nb x}) (W : World) : Prop :=
  ExI w1 g15 g16 bm (1000 * z + pre.length) W ∧ Blk W g17 3 #[.int .i64 (z : Int)] ∧ Blk W g18 89 #[.string nm, .string tx] ∧ Blk W gt 121 #[vt] ∧ Blk W gc 86 #[vc] ∧ Mks (bm + 1) W U ds ∧ U ≤ W.heap.size
/-- A round has left with an error. -/
def InX (w : World) (g6 g7 g8 bm U : Nat) (ds : List Deferred) {nb : Nat} (c : Code) (_pre : List {x : Occ // OccG nb x}) (W : World) : Prop :=
  c = .ret ∧ Ext w W ∧ Mks (bm + 1) W U ds ∧ ∃ (x1 x2 er : Int), er ≠ 0 ∧ Rs3 W g6 g7 g8 (.slice none 0 0) (.int .i64 x1) (.int .i64 x2) (.int .i64 er)
/-- The found call in its box. -/
def InA (a1 : Act) (U : Nat) {nb : Nat} (x : {x : Occ // OccG nb x}) (a' : Act) (W : World) : Prop :=
  ∃ g19 : Nat, a' = { tmps := (a1.tmps.setIfInBounds 82 (occV x.1)).setIfInBounds 19 (.pointer (some ⟨g19, 0, none⟩)), defers := [] } ∧ Blk W g19 128 #[.int .i64 x.1.call, .int .i64 (x.1.off : Int), .string x.1.id, .string x.1.src, .string x.1.com] ∧ U ≤ g19
section
variable {w w1 W W' : World} {g6 g7 g8 g15 g16 bm g17 g18 gt gc z U nb : Nat} {nm tx : ByteArray} {ds : List Deferred} {vt vc : Value} {pre : List {x : Occ // OccG nb x}}
theorem InI.own (h1 : w1.heap.size ≤ U) (h2 : bm < U) : OwnFrom U (InI w1 g15 g16 bm g17 g18 gt gc z U nm tx ds vt vc (nb := nb)) := fun s X Y row hs hg hr => by
  have ht : TuR U X Y := ⟨row, hg, hr⟩
  obtain ⟨e1, e2, e3, e4, e5, e6, e7⟩ := hs
  exact ⟨e1.turn ht h1 h2, ht.frt _ _ _ e2 (fun e => e), ht.frt _ _ _ e3 (fun e => e), ht.frt _ _ _ e4 (fun e => e), ht.frt _ _ _ e5 (fun e => e), ht.mks e6, Nat.le_trans e7 hg.size⟩
theorem InX.own (h1 : w.heap.size ≤ U) (c : Code) : OwnFrom U (InX w g6 g7 g8 bm U ds c (nb := nb)) := fun s X Y row hs hg hr => by
  have ht : TuR U X Y := ⟨row, hg, hr⟩
  obtain ⟨e0, e1, e2, x1, x2, er, e3, e4⟩ := hs
  exact ⟨e0, ht.ext e1 h1, ht.mks e2, x1, x2, er, e3, e4.frt ht.frt⟩
theorem InA.own (a1 : Act) (x : {x : Occ // OccG nb x}) (a' : Act) : OwnFrom U (fun (_ : Unit) W => InA a1 U x a' W) := fun s X Y row hs hg hr => by
  have ht : TuR U X Y := ⟨row, hg, hr⟩
  obtain ⟨g, e1, e2, e3⟩ := hs
  exact ⟨g, e1, ht.frt _ _ _ e2 (fun e => e), e3⟩
theorem InI.extn (h : InI w1 g15 g16 bm g17 g18 gt gc z U nm tx ds vt vc pre W) (hE : Ext W W') : InI w1 g15 g16 bm g17 g18 gt gc z U nm tx ds vt vc pre W' := by
  obtain ⟨e1, e2, e3, e4, e5, e6, e7⟩ := h
  exact ⟨e1.extn hE, e2.below hE e2.lt, e3.below hE e3.lt, e4.below hE e4.lt, e5.below hE e5.lt, (KO.of_ext hE).mks e6, Nat.le_trans e7 hE.size⟩
theorem KpO.of_ext {B : Nat} (hE : Ext W W') (hB : B ≤ W.heap.size) : KpO B gt gc W W' := ⟨Below.mono hE hB, fun _ _ h => h.below hE h.lt, fun _ _ h => h.below hE h.lt⟩
end
end Go.Proofs.YtgnchicipmomlaaGreatDoor
