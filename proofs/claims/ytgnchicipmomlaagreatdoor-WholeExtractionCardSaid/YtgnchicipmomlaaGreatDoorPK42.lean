/- Update: what the program computes. -/
import Derived.Test.YtgnchicipmomlaaGreatDoorPK26
import Derived.Test.YtgnchicipmomlaaGreatDoorPK40
import Derived.Test.YtgnchicipmomlaaGreatDoorPK41
import Derived.Deep.DeepCutAuto
import Derived.Test.YtgnchicipmomlaaGreatDoorPK28
import Derived.Test.YtgnchicipmomlaaGreatDoorPK20
namespace Go.Proofs.YtgnchicipmomlaaGreatDoor
open Go.RowKit
set_option maxRecDepth 100000
attribute [local go_sem] ext_refl_t ext_alloc_t ext_drew_t ext_drewN_t ext_alloc2_t ext_alloc3_t ext_alloc4_t ext_alloc5_t ext_alloc6_t ext_alloc7_t ext_alloc8_t ext_alloc1d_t ext_alloc2d_t ext_alloc3d_t ext_alloc4d_t
/-- The index of the first q entries. -/
noncomputable def idxF (es : List Ep) : Nat → ByteArray → Option Nat
  | 0 => fun _ => none
  | q + 1 => match es[q]? with
    | some y => updI (idxF es q) y.id q
    | none => idxF es q
theorem idxF_succ (es : List Ep) (q : Nat) (h : q < es.length) : idxF es (q + 1) = updI (idxF es q) es[q].id q := by
  show (match es[q]? with | some y => updI (idxF es q) y.id q | none => idxF es q) = _
  rw [List.getElem?_eq_getElem h]
theorem idxF_some (es : List Ep) (q : Nat) (hq : q ≤ es.length) {s : ByteArray} {k : Nat} (h : idxF es q s = some k) : k < q ∧ ∃ hk : k < es.length, es[k].id = s := by
  induction q with
  | zero => cases h
  | succ q ih =>
    rw [idxF_succ es q (by omega)] at h
    unfold updI at h
    split at h
    · rename_i e
      injection h with h
      subst h
      exact ⟨Nat.lt_succ_self _, by omega, e.symm⟩
    · obtain ⟨a, b⟩ := ih (by omega) h
      exact ⟨by omega, b⟩
theorem idxF_none (es : List Ep) (q : Nat) (hq : q ≤ es.length) {s : ByteArray} (h : idxF es q s = none) : ∀ k (hk : k < es.length), k < q → es[k].id ≠ s := by
  induction q with
  | zero => intro k _ h0; omega
  | succ q ih =>
    rw [idxF_succ es q (by omega)] at h
    unfold updI at h
    split at h
    · cases h
    · rename_i e
      intro k hk hkq
      rcases Nat.lt_or_ge k q with h1 | h1
      · exact ih (by omega) h k hk h1
      · obtain rfl : k = q := by omega
        exact fun e2 => e e2.symm
/-- What the index says of an ID. -/
theorem idxF_find {es : List Ep} (hn : (es.map Ep.id).Nodup) (s : ByteArray) : (∃ k, idxF es es.length s = some k ∧ ∃ hk : k < es.length, findE es s = some es[k]) ∨ (idxF es es.length s = none ∧ findE es s = none) := by
  cases h : idxF es es.length s with
  | some k =>
    obtain ⟨_, hk, e⟩ := idxF_some es es.length (Nat.le_refl _) h
    exact .inl ⟨k, rfl, hk, by rw [← e]; exact findE_mem hn (List.getElem_mem hk)⟩
  | none =>
    refine .inr ⟨rfl, ?_⟩
    unfold findE
    rw [List.find?_eq_none]
    intro y hy
    obtain ⟨k, hk, rfl⟩ := List.getElem_of_mem hy
    simpa using idxF_none es es.length (Nat.le_refl _) h k hk hk
/-- The state after the first extracted entries. -/
def upN (c xs : List Ep) (q : Nat) : US := (xs.take q).foldl (stepU c) ⟨[], rep0, xs.map Ep.id⟩
theorem upN_succ (c xs : List Ep) (q : Nat) (h : q < xs.length) : upN c xs (q + 1) = stepU c (upN c xs q) xs[q] := by
  unfold upN
  rw [List.take_succ_eq_append_getElem h, List.foldl_append]
  rfl
theorem upN_all (c xs : List Ep) : upN c xs xs.length = updU1 c xs := by unfold upN updU1; rw [List.take_length]
theorem stepU_es (c : List Ep) (s : US) (x : Ep) : (stepU c s x).es.length = s.es.length + 1 := by
  unfold stepU
  split
  · rw [List.length_append]; rfl
  · split <;> (rw [List.length_append]; rfl)
theorem upN_es (c xs : List Ep) (q : Nat) (hq : q ≤ xs.length) : (upN c xs q).es.length = q := by
  induction q with
  | zero => rfl
  | succ q ih => rw [upN_succ c xs q (by omega), stepU_es, ih (by omega)]
theorem rep_len (r : Rep) (i j : Nat) (s : ByteArray) (hi : i < 7) (hj : j < 7) : (repL (addR r i s) j).length ≤ (repL r j).length + 1 := by
  rw [repL_add r i s hi j hj]
  split
  · rename_i h; rw [List.length_append, h]; simp
  · omega
theorem stepU_rep (c : List Ep) (s : US) (x : Ep) (j : Nat) (hj : j < 7) : (repL (stepU c s x).rp j).length ≤ (repL s.rp j).length + 1 := by
  unfold stepU
  split
  · dsimp only
    split
    · split
      · exact rep_len s.rp 2 j x.id (by omega) hj
      · exact rep_len s.rp 0 j x.id (by omega) hj
    · exact rep_len s.rp 1 j x.id (by omega) hj
  · split
    · exact rep_len s.rp 4 j x.id (by omega) hj
    · exact rep_len s.rp 3 j x.id (by omega) hj
theorem upN_rep (c xs : List Ep) (q : Nat) (hq : q ≤ xs.length) (j : Nat) (hj : j < 7) : (repL (upN c xs q).rp j).length ≤ q := by
  induction q with
  | zero =>
    rcases (by omega : j = 0 ∨ j = 1 ∨ j = 2 ∨ j = 3 ∨ j = 4 ∨ j = 5 ∨ j = 6) with rfl | rfl | rfl | rfl | rfl | rfl | rfl <;> exact Nat.le_refl 0
  | succ q ih =>
    rw [upN_succ c xs q (by omega)]
    have h1 := stepU_rep c (upN c xs q) xs[q] j hj
    have h2 := ih (by omega)
    omega
/-- A step at an entry that the catalog has. -/
theorem stepU_known {c : List Ep} {s : US} {x y : Ep} (h : findE c x.id = some y) : stepU c s x = ⟨s.es ++ [knownP x y], addR s.rp (knI x y) x.id, s.tk⟩ := by
  unfold stepU knI
  rw [h]
  dsimp only
  by_cases h1 : x.src = y.src
  · rw [if_pos h1, if_pos h1]
    by_cases h2 : y.st = 4
    · rw [if_pos h2, if_pos h2]; rfl
    · rw [if_neg h2, if_neg h2]; rfl
  · rw [if_neg h1, if_neg h1]; rfl
theorem stepU_fresh {c : List Ep} {s : US} {x : Ep} (h : findE c x.id = none) : stepU c s x = ⟨s.es ++ [freshP x (bestE c x.src s.tk)], (match bestE c x.src s.tk with | none => addR s.rp 4 x.id | some _ => addR s.rp 3 x.id), (match bestE c x.src s.tk with | none => s.tk | some y => s.tk ++ [y.id])⟩ := by
  unfold stepU
  rw [h]
  dsimp only
  cases bestE c x.src s.tk with
  | none => rfl
  | some z => rfl
end Go.Proofs.YtgnchicipmomlaaGreatDoor

/- Update: what the program computes, joined. -/
namespace Go.Proofs.YtgnchicipmomlaaGreatDoor
open Go.RowKit
set_option maxRecDepth 100000
attribute [local go_sem] ext_refl_t ext_alloc_t ext_drew_t ext_drewN_t ext_alloc2_t ext_alloc3_t ext_alloc4_t ext_alloc5_t ext_alloc6_t ext_alloc7_t ext_alloc8_t ext_alloc1d_t ext_alloc2d_t ext_alloc3d_t ext_alloc4d_t
def nilH : SlH := ⟨none, 0, 0⟩
def R0 : Nat → SlH := fun _ => nilH
def repA (R : Nat → SlH) : Array Value := #[.slice (R 0).A (R 0).m (R 0).c, .slice (R 1).A (R 1).m (R 1).c, .slice (R 2).A (R 2).m (R 2).c, .slice (R 3).A (R 3).m (R 3).c, .slice (R 4).A (R 4).m (R 4).c, .slice (R 5).A (R 5).m (R 5).c, .slice (R 6).A (R 6).m (R 6).c]
def catA (tag : ByteArray) (hc hd he : SlH) : Array Value := #[.string tag, .slice hc.A hc.m hc.c, .slice hd.A hd.m hd.c, .slice he.A he.m he.c]
/-- A catalog and a report are stored into two blocks. -/
def catR (w : World) (g : Nat) (tag : ByteArray) (hc hd he : SlH) : World :=
  (((w.setCell ⟨g, 0, none⟩ (.string tag)).setCell ⟨g, 1, none⟩ (.slice hc.A hc.m hc.c)).setCell ⟨g, 2, none⟩ (.slice hd.A hd.m hd.c)).setCell ⟨g, 3, none⟩ (.slice he.A he.m he.c)
def repR (w : World) (g : Nat) (R : Nat → SlH) : World :=
  ((((((w.setCell ⟨g, 0, none⟩ (.slice (R 0).A (R 0).m (R 0).c)).setCell ⟨g, 1, none⟩ (.slice (R 1).A (R 1).m (R 1).c)).setCell ⟨g, 2, none⟩ (.slice (R 2).A (R 2).m (R 2).c)).setCell ⟨g, 3, none⟩ (.slice (R 3).A (R 3).m (R 3).c)).setCell ⟨g, 4, none⟩ (.slice (R 4).A (R 4).m (R 4).c)).setCell ⟨g, 5, none⟩ (.slice (R 5).A (R 5).m (R 5).c)).setCell ⟨g, 6, none⟩ (.slice (R 6).A (R 6).m (R 6).c)
theorem KpS.catR (w : World) (g : Nat) (tag : ByteArray) (hc hd he : SlH) : KpS (fun k => k = g) w (catR w g tag hc hd he) :=
  (((KpS.setCell w g 0 _).trans (KpS.setCell _ g 1 _) fun _ _ e => e).trans (KpS.setCell _ g 2 _) fun _ _ e => e).trans (KpS.setCell _ g 3 _) fun _ _ e => e
theorem KpS.repR (w : World) (g : Nat) (R : Nat → SlH) : KpS (fun k => k = g) w (repR w g R) :=
  ((((((KpS.setCell w g 0 _).trans (KpS.setCell _ g 1 _) fun _ _ e => e).trans (KpS.setCell _ g 2 _) fun _ _ e => e).trans (KpS.setCell _ g 3 _) fun _ _ e => e).trans (KpS.setCell _ g 4 _) fun _ _ e => e).trans (KpS.setCell _ g 5 _) fun _ _ e => e).trans (KpS.setCell _ g 6 _) fun _ _ e => e
theorem Blk.catR {w : World} {g : Nat} {t1 t2 t3 t4 : Value} (h : Blk w g 32 #[t1, t2, t3, t4]) (tag : ByteArray) (hc hd he : SlH) : Blk (catR w g tag hc hd he) g 32 (catA tag hc hd he) :=
  (((h.set_ 0 (.string tag)).set_ 1 (.slice hc.A hc.m hc.c)).set_ 2 (.slice hd.A hd.m hd.c)).set_ 3 (.slice he.A he.m he.c)
theorem Blk.row7 {w : World} {g : Nat} {t : TypeId} {t0 t1 t2 t3 t4 t5 t6 : Value} (h : Blk w g t #[t0, t1, t2, t3, t4, t5, t6]) (v0 v1 v2 v3 v4 v5 v6 : Value) :
    Blk (((((((w.setCell ⟨g, 0, none⟩ v0).setCell ⟨g, 1, none⟩ v1).setCell ⟨g, 2, none⟩ v2).setCell ⟨g, 3, none⟩ v3).setCell ⟨g, 4, none⟩ v4).setCell ⟨g, 5, none⟩ v5).setCell ⟨g, 6, none⟩ v6) g t #[v0, v1, v2, v3, v4, v5, v6] := by
  have h0 : Blk _ g t #[v0, t1, t2, t3, t4, t5, t6] := h.set_ 0 v0
  have h1 : Blk _ g t #[v0, v1, t2, t3, t4, t5, t6] := h0.set_ 1 v1
  have h2 : Blk _ g t #[v0, v1, v2, t3, t4, t5, t6] := h1.set_ 2 v2
  have h3 : Blk _ g t #[v0, v1, v2, v3, t4, t5, t6] := h2.set_ 3 v3
  have h4 : Blk _ g t #[v0, v1, v2, v3, v4, t5, t6] := h3.set_ 4 v4
  have h5 : Blk _ g t #[v0, v1, v2, v3, v4, v5, t6] := h4.set_ 5 v5
  exact h5.set_ 6 v6
theorem Blk.repR {w : World} {g : Nat} {t0 t1 t2 t3 t4 t5 t6 : Value} (h : Blk w g 34 #[t0, t1, t2, t3, t4, t5, t6]) (R : Nat → SlH) : Blk (repR w g R) g 34 (repA R) := h.row7 _ _ _ _ _ _ _
theorem info_rep7 : (Tryz.prog.info? 34).map (·.size) = some 7 := by kernel_rfl
theorem results_cells2 {fn : Func} {p q u : Tmp} {ty tz : TypeId} (h : fn.results = #[.cell p ty, .cell q tz, .tmp u]) (tmps : Array Value) (P : Program) (w : World) :
    (results fn tmps).run P w =
      ((asAddr (tmps.getD p undef)).run P w).andThen fun a w₁ => ((loadVar ty a).run P w₁).andThen fun y w₂ => ((asAddr (tmps.getD q undef)).run P w₂).andThen fun a w₃ => ((loadVar tz a).run P w₃).andThen fun z w₄ => .ok (.tuple #[y, z, tmps.getD u undef]) w₄ := by
  simp only [results, h]
  simp [Sem.run_bind, Result.andThen]
theorem results_rows2 {P : Program} {fn : Func} {p q u : Tmp} {ty tz : TypeId} (h : fn.results = #[.cell p ty, .cell q tz, .tmp u]) (tmps : Array Value) (w : World) (g g' : Nat) (t t' : TypeId) (cs cs' : Array Value) (fr fr' : Nat × Nat) (d d' : TypeDesc)
    (hp : tmps.getD p undef = .pointer (some ⟨g, 0, none⟩)) (hg : w.heap[g]? = some (.cells cs t fr)) (hu : P.underlying ty = some d) (hd : (match d with | .struct _ | .array _ _ => true | _ => false) = true) (hi : (P.info? ty).map (·.size) = some cs.size)
    (hq : tmps.getD q undef = .pointer (some ⟨g', 0, none⟩)) (hg' : w.heap[g']? = some (.cells cs' t' fr')) (hu' : P.underlying tz = some d') (hd' : (match d' with | .struct _ | .array _ _ => true | _ => false) = true) (hi' : (P.info? tz).map (·.size) = some cs'.size) :
    (results fn tmps).run P w = .ok (.tuple #[.agg cs, .agg cs', tmps.getD u undef]) w := by
  rw [results_cells2 h, hp, hq]
  simp [asAddr, run_loadVar_row w g t ty cs fr d hg hu hd hi, run_loadVar_row w g' t' tz cs' fr' d' hg' hu' hd' hi', Result.andThen]
/-- What Update gives. -/
def UpdR (w w' : World) (x : Cat) (ps : List Ep) (e : Ending) : Prop :=
  ∃ (a : Cat) (R : Nat → SlH) (r : Rep) (k : Int), e = .returned (.tuple #[catV a, .agg (repA R), .int .i64 k]) ∧ (a.p, r, k) = updP x.p ps ∧ CatW w' a ∧ (∀ i, i < 7 → SlC strF 1 w' (R i).A (R i).m (repL r i) ∧ (R i).m ≤ (R i).c) ∧ Ext w w'
def catZ : Cat := ⟨⟨#[]⟩, [], [], [], nilH, nilH, nilH⟩
theorem catZ_W (w : World) : CatW w catZ := ⟨by unfold GoodStr; exact Nat.zero_le _, HW.nil_ strF_len, HW.nil_ fdC_len, HW.nil_ entC_len⟩
theorem repL_0 (i : Nat) : repL rep0 i = [] := by unfold repL rep0; split <;> rfl
theorem UpdR.bad {w w' : World} {x : Cat} {ps : List Ep} {k : Int} (h : updP x.p ps = (cp0, rep0, k)) (hE : Ext w w') : UpdR w w' x ps (.returned (.tuple #[.agg (catA ⟨#[]⟩ nilH nilH nilH), .agg (repA R0), .int .i64 k])) :=
  ⟨catZ, R0, rep0, k, rfl, h.symm, catZ_W w', fun i _ => ⟨by rw [repL_0]; exact SlC.nil_ strF_len, Nat.le_refl _⟩, hE⟩
theorem UpS.start {w : World} {B U bi bt : Nat} {x : Cat} (hU : Blk w U 52 (updA x R0 bi bt)) (hi : IM w bi 0 fun _ => none) (ht : SM w bt 0 []) (hne : bi ≠ bt) (h1 : B ≤ U) (h2 : B ≤ bi) (h3 : B ≤ bt) : UpS w B U x R0 bi 0 bt 0 (fun _ => none) rep0 [] :=
  ⟨hU, fun i _ => by rw [repL_0]; exact OsC.nil_ strF_len strF_cell, fun i j _ _ _ g hg => (by cases hg), hi, ht, hne, h1, h2, h3⟩
theorem UpB_R0 {U bi bt g : Nat} (h : UpB U bi bt R0 g) : g = U ∨ g = bi ∨ g = bt := by
  rcases h with h | h | h | ⟨i, _, h⟩
  · exact .inl h
  · exact .inr (.inl h)
  · exact .inr (.inr h)
  · cases h
end Go.Proofs.YtgnchicipmomlaaGreatDoor

/- A list of entries that is being made; the entries that are not extracted: what the program computes. -/
namespace Go.Proofs.YtgnchicipmomlaaGreatDoor
open Go.RowKit
set_option maxRecDepth 100000
attribute [local go_sem] ext_refl_t ext_alloc_t ext_drew_t ext_drewN_t ext_alloc2_t ext_alloc3_t ext_alloc4_t ext_alloc5_t ext_alloc6_t ext_alloc7_t ext_alloc8_t ext_alloc1d_t ext_alloc2d_t ext_alloc3d_t ext_alloc4d_t
structure OutL (wr : World) (S : Nat → Prop) (base : Nat) (A : Option Addr) (m c : Nat) (L : List Ent) : Prop where
  row : OsC entC 39 7 wr base A m c L
  ents : ∀ z ∈ L, EntW wr z ∧ EntS S z ∧ EntA (ob A) z
  ns : ∀ g, ob A = some g → ¬ S g
section
variable {wr w' : World} {S S' : Nat → Prop} {base : Nat} {A : Option Addr} {m c : Nat} {L : List Ent}
theorem OutL.nil_ : OutL wr S base none 0 0 [] := ⟨OsC.nil_ entC_len entC_cell, fun _ h => (by cases h), fun _ h => (by cases h)⟩
theorem OutL.kp (h : OutL wr S base A m c L) (hk : KpS S wr w') : OutL w' S base A m c L :=
  ⟨hk.osc h.row h.ns, fun z hz => ⟨EntW.kp hk (h.ents z hz).1 (h.ents z hz).2.1, (h.ents z hz).2⟩, h.ns⟩
theorem OutL.ext (h : OutL wr S base A m c L) (hE : Ext wr w') : OutL w' S base A m c L := h.kp (KpS.of_ext S hE)
theorem OutL.sub (h : OutL wr S base A m c L) (hS : ∀ g, S' g → S g ∨ wr.heap.size ≤ g) : OutL wr S' base A m c L :=
  ⟨h.row, fun z hz => ⟨(h.ents z hz).1, EntS.lt (h.ents z hz).1 (h.ents z hz).2.1 hS, (h.ents z hz).2.2⟩, fun g hg e => by
    rcases hS g e with h1 | h1
    · exact h.ns g hg h1
    · have h2 := h.row.lt g hg; omega⟩
theorem OutL.step (h : OutL wr S base A m c L) (hk : KpS S wr w') (hS : ∀ g, S' g → S g ∨ wr.heap.size ≤ g) : OutL w' S' base A m c L :=
  ⟨hk.osc h.row h.ns, fun z hz => ⟨EntW.kp hk (h.ents z hz).1 (h.ents z hz).2.1, EntS.lt (h.ents z hz).1 (h.ents z hz).2.1 hS, (h.ents z hz).2.2⟩, fun g hg e => by
    rcases hS g e with h1 | h1
    · exact h.ns g hg h1
    · have h2 := h.row.lt g hg; omega⟩
theorem OutL.far {K : Nat → Prop} (h : OutL wr S base A m c L) (hk : KpS K wr w') (hr : ∀ g, ob A = some g → ¬ K g) (he : ∀ z ∈ L, EntS K z) : OutL w' S base A m c L :=
  ⟨hk.osc h.row hr, fun z hz => ⟨EntW.kp hk (h.ents z hz).1 (he z hz), (h.ents z hz).2⟩, h.ns⟩
/-- An entry is appended. -/
theorem OutL.snoc (h : OutL wr S base A m c L) {z : Ent} {A' : Option Addr} {m' c' : Nat} (ho : OsC entC 39 7 w' base A' m' c' (L ++ [z])) (hg : wr.grownBy w' (ob A)) (hN : NewOr wr.heap.size (ob A) (ob A')) (hz : EntW wr z) (hzS : EntS S z) (hzA : EntA (ob A) z) (hS : ∀ g, S g → g < wr.heap.size) :
    OutL w' S base A' m' c' (L ++ [z]) := by
  have key : ∀ x, EntW wr x → EntA (ob A) x → EntA (ob A') x := fun x hx ha => by
    cases hA : ob A' with
    | none => exact ⟨.inr (by cases ob x.c.A <;> simp), .inr (by cases ob x.f.A <;> simp), .inr (by cases ob x.d.A <;> simp)⟩
    | some g =>
      rcases hN g hA with h1 | h1
      · exact hx.lt fun g' e => by injection e with e; omega
      · rw [h1] at ha; exact ha
  refine ⟨ho, fun x hx => ?_, fun g hg' e => ?_⟩
  · rcases List.mem_append.1 hx with hx | hx
    · obtain ⟨a, b, d⟩ := h.ents x hx
      exact ⟨a.kept hg d, b, key x a d⟩
    · obtain rfl := List.mem_singleton.1 hx
      exact ⟨hz.kept hg hzA, hzS, key x hz hzA⟩
  · rcases hN g hg' with h1 | h1
    · have := hS g e; omega
    · exact h.ns g h1 e
end
theorem addR5 (r : Rep) (s : ByteArray) : addR r 5 s = { r with obs := r.obs ++ [s] } := rfl
theorem addR6 (r : Rep) (s : ByteArray) : addR r 6 s = { r with removed := r.removed ++ [s] } := rfl
/-- The state after the first entries. -/
def restN (tk : List ByteArray) (es : List Ep) (r : Rep) (q : Nat) : US := (es.take q).foldl (restS tk) ⟨[], r, tk⟩
theorem restN_succ (tk : List ByteArray) (es : List Ep) (r : Rep) (q : Nat) (h : q < es.length) : restN tk es r (q + 1) = restS tk (restN tk es r q) es[q] := by
  unfold restN
  rw [List.take_succ_eq_append_getElem h, List.foldl_append]
  rfl
theorem restS_len (tk : List ByteArray) (s : US) (y : Ep) (i : Nat) (hi : i < 7) : (repL (restS tk s y).rp i).length ≤ (repL s.rp i).length + 1 := by
  unfold restS
  split
  · omega
  · split
    · rw [← addR6]
      rw [repL_add _ _ _ (by omega) i hi]
      split
      · rename_i h; rw [List.length_append, h]; simp
      · omega
    · split
      · exact Nat.le_succ _
      · rw [← addR5]
        rw [repL_add _ _ _ (by omega) i hi]
        split
        · rename_i h; rw [List.length_append, h]; simp
        · omega
theorem restN_len (tk : List ByteArray) (es : List Ep) (r : Rep) (q : Nat) (hq : q ≤ es.length) (i : Nat) (hi : i < 7) : (repL (restN tk es r q).rp i).length ≤ (repL r i).length + q := by
  induction q with
  | zero => exact Nat.le_refl _
  | succ q ih =>
    rw [restN_succ tk es r q (by omega)]
    have h1 := restS_len tk (restN tk es r q) es[q] i hi
    have h2 := ih (by omega)
    omega
theorem restN_es (tk : List ByteArray) (es : List Ep) (r : Rep) (q : Nat) (hq : q ≤ es.length) : (restN tk es r q).es.length ≤ q := by
  induction q with
  | zero => exact Nat.le_refl _
  | succ q ih =>
    rw [restN_succ tk es r q (by omega)]
    have h2 := ih (by omega)
    unfold restS
    split
    · omega
    · split
      · show (restN tk es r q).es.length ≤ _; omega
      · rw [List.length_append]; simp; omega
section
variable {w : World} {B U : Nat} {c : Cat} {R : Nat → SlH} {bi ni bt nt : Nat} {F : ByteArray → Option Nat} {r : Rep} {tk : List ByteArray}
/-- The entries lie in no block that was there before. -/
def OldL (w : World) (L : List Ent) : Prop := ∀ z ∈ L, ∀ g, g < w.heap.size → EntA (some g) z
/-- What rest gives. -/
def RestR (w w' : World) (B U : Nat) (c : Cat) (R : Nat → SlH) (bi ni bt nt : Nat) (F : ByteArray → Option Nat) (r : Rep) (tk : List ByteArray) (e : Ending) : Prop :=
  ∃ (A : Option Addr) (m cc : Nat) (L : List Ent) (R' : Nat → SlH), e = .returned (.slice A m cc) ∧ L.map Ent.p = (restN tk c.p.es r c.es.length).es ∧ OutL w' (UpB U bi bt R') w.heap.size A m cc L ∧
      UpS w' B U c R' bi ni bt nt F (restN tk c.p.es r c.es.length).rp tk ∧ (∀ g, UpB U bi bt R' g → UpB U bi bt R g ∨ w.heap.size ≤ g) ∧ KpS (UpB U bi bt R) w w' ∧ OldL w L
set_option maxHeartbeats 25600000 in
theorem rest_any (hU : UpS w B U c R bi ni bt nt F r tk) {w0 : World} (hc0 : CatW w0 c) (hw0 : Ext w0 w) (hBw : w0.heap.size ≤ B) (hB : B ≤ w.heap.size) (hce : c.e.m ≤ 1000) (hl : ∀ i, i < 7 → (repL r i).length ≤ 90000) :
    Calls Tryz.prog 16 #[.pointer (some ⟨U, 0, none⟩)] w fun e w' => RestR w w' B U c R bi ni bt nt F r tk e := by
  have HU := Lib.hid hU
  have HC0 := Lib.hid hc0
  have HW0 := Lib.hid hw0
  have HLR := Lib.hid hl
  have HEL := Lib.hid hc0.e.sl.len
  have u3 : w.cell? ⟨U, 3, none⟩ = some (.slice c.e.A c.e.m c.e.c) := hU.blk.cell 3
  clear hU hc0 hw0 hl
  go_enter Tryz.func16, Tryz.ntmps16
  go_wp2
  clear u3
  go_loopw [12, 3] (fun v o wr => ∃ (q : Nat) (A : Option Addr) (m cc : Nat) (L : List Ent) (R' : Nat → SlH), q ≤ c.e.m ∧ v = .int .i64 q ∧ o = .slice A m cc ∧ Hid (L.map Ent.p = (restN tk c.p.es r q).es ∧ OldL w L) ∧ Hid (OutL wr (UpB U bi bt R') w.heap.size A m cc L ∧
      UpS wr B U c R' bi ni bt nt F (restN tk c.p.es r q).rp tk ∧ (∀ g, UpB U bi bt R' g → UpB U bi bt R g ∨ w.heap.size ≤ g)) ∧ Hid (KpS (UpB U bi bt R) w wr)) (fun v _ _ => c.e.m - (intOf v).toNat)
  case atStart => exact ⟨0, none, 0, 0, [], R, Nat.zero_le _, rfl, rfl, ⟨rfl, fun _ h => (by cases h)⟩, ⟨OutL.nil_, HU.out, fun g hg => .inl hg⟩, KpS.refl _ _⟩
  case round =>
    obtain ⟨q, A, m, cc, L, R', hq, rfl, rfl, HL, HS, HK⟩ := hrel
    by_cases hlt : q < c.e.m
    · have hE0 : Ext w0 wr := Below.trans HW0.out (HK.out.toBelow HW0.out.size_le fun g hg => Nat.le_trans hBw (HU.out.ge hg))
      have hcW := HC0.out.ext hE0
      obtain ⟨b, off, eA, _, hcs⟩ := hcW.e.sl.at_ hlt (by omega)
      have hlt1 : q < c.es.length := by rw [← HEL.out]; exact hlt
      obtain ⟨y, hyq⟩ : ∃ y, y = c.es[q] := ⟨_, rfl⟩
      have y0 := hcs q hlt1 0 (by omega)
      have y1 := hcs q hlt1 1 (by omega)
      have y2 := hcs q hlt1 2 (by omega)
      have y3 := hcs q hlt1 3 (by omega)
      have y4 := hcs q hlt1 4 (by omega)
      have y5 := hcs q hlt1 5 (by omega)
      have y6 := hcs q hlt1 6 (by omega)
      simp only [← hyq, entC, List.getElem_cons_zero, List.getElem_cons_succ, Nat.add_zero, ← Nat.add_assoc] at y0 y1 y2 y3 y4 y5 y6
      have hym : y ∈ c.es := by rw [hyq]; exact List.getElem_mem hlt1
      have HYW : Hid (EntW wr y) := hcW.e.good y hym
      have HY0 : Hid (∀ W, Ext w0 W → EntW W y) := fun W hW => (HC0.out.ext hW).e.good y hym
      have HSN : Hid (restN tk c.p.es r (q + 1) = restS tk (restN tk c.p.es r q) y.p) := by
        show _ = _
        rw [restN_succ tk c.p.es r q (by show q < (c.es.map Ent.p).length; rw [List.length_map]; exact hlt1), hyq]
        congr 1
        exact List.getElem_map Ent.p
      have HLN : Hid (∀ i, i < 7 → (repL (restN tk c.p.es r q).rp i).length ≤ 100000) := fun i hi => by
        have h1 := restN_len tk c.p.es r q (by show q ≤ (c.es.map Ent.p).length; rw [List.length_map]; omega) i hi
        have h2 := HLR.out i hi
        omega
      have HML : Hid (m ≤ 1000) := by
        have h1 := HS.out.1.row.len
        have h2 := congrArg List.length HL.out.1
        rw [List.length_map] at h2
        have h3 := restN_es tk c.p.es r q (by show q ≤ (c.es.map Ent.p).length; rw [List.length_map]; omega)
        show m ≤ 1000
        omega
      have hi1 : (q : Int) < (c.e.m : Int) := by omega
      have hq4 : q ≤ 1000 := by omega
      clear hcs hyq hym hcW
      obtain ⟨⟨yid, ysrc, ytgt, ycom, yfl, yst, yfd⟩, yhc, yhf, yhd⟩ := y
      dsimp only at y0 y1 y2 y3 y4 y5 y6
      have hbY := Blk.new wr 39 #[.string yid, .string ysrc, .string ytgt, .slice yhc.A yhc.m yhc.c, .slice yhf.A yhf.m yhf.c, .int .i64 yst, .slice yhd.A yhd.m yhd.c]
      obtain ⟨W1, hW1⟩ : ∃ W1, W1 = wr.alloc (Obj.cells #[.string yid, .string ysrc, .string ytgt, .slice yhc.A yhc.m yhc.c, .slice yhf.A yhf.m yhf.c, .int .i64 yst, .slice yhd.A yhd.m yhd.c] 39) := ⟨_, rfl⟩
      rw [← hW1] at hbY
      have hE1 : Ext wr W1 := by rw [hW1]; exact (Ext.refl _).alloc _
      obtain ⟨g5, hg5⟩ : ∃ g5, g5 = wr.heap.size := ⟨_, rfl⟩
      rw [← hg5] at hbY
      rw [eA]
      go_upto_region 5 with fail
      rw [← hW1, ← hg5]
      have HG5 := Lib.hid hg5
      have HBY := Lib.hid hbY
      have HE1 := Lib.hid hE1
      have HU1 := Lib.hid (HS.out.2.1.ext hE1)
      have hid9 : yid.size ≤ maxLen := by have h1 := HYW.out.id; unfold GoodStr at h1; unfold maxLen; dsimp only at h1; omega
      have HLK : Hid (∀ W, Ext W1 W → (Instr.lookup 50 (.map (some bt)) (.string yid) false).run Tryz.prog W = .ok (.bool (inB tk yid)) W) := fun W hE => (HU1.out.ext hE).sm.looks yid hid9
      have v0 := laters (show W1.cell? ⟨g5, 0, none⟩ = some (.string yid) from hbY.cell 0)
      have vt := laters (show W1.cell? ⟨U, 12, none⟩ = some (.map (some bt)) from HU1.out.blk.cell 12)
      have KL := HLK.out
      have hEr1 := Ext.refl W1
      have HR5 : Hid ((∀ g, ob A = some g → ¬ g = g5) ∧ ∀ z ∈ L, EntS (fun g => g = g5) z) := ⟨fun g hg e => by have h1 := HS.out.1.row.lt g hg; omega, fun z hz => EntS.of_ent fun g e => by rw [e]; exact (HS.out.1.ents z hz).1.lt fun g' e' => by injection e' with e'; omega⟩
      have HN5 : Hid (¬ UpB U bi bt R' g5) := fun e => by have h1 := HS.out.2.1.lt e; omega
      have HE0 := Lib.hid hE0
      clear hW1 hg5 hbY hE1 hE0 y0 y1 y2 y3 y4 y5 y6 hid9
      go_quiet (fail)
      obtain ⟨W2, hW2⟩ : ∃ W2, W2 = W1.drewN nq := ⟨_, rfl⟩
      have hE12 : Ext W1 W2 := by rw [hW2]; exact (Ext.refl _).drewN _
      rw [← hW2]
      have HE2 := Lib.hid (HE1.out.trans hE12)
      have HB2 := Lib.hid (HBY.out.below hE12 HBY.out.lt)
      have HU2 := Lib.hid (HU1.out.ext hE12)
      have HL2 := Lib.hid (HS.out.1.ext HE2.out)
      have HK2 := Lib.hid (HK.out.ext HE2.out)
      have HSB2 := Lib.hid HS.out.2.2
      clear hW2 hE12 KL v0 vt hEr1
      cases htk : inB tk yid with
      | true =>
        have HSE : Hid (restN tk c.p.es r (q + 1) = restN tk c.p.es r q) := by show _ = _; rw [HSN.out]; unfold restS; rw [if_pos htk]
        have HLN2 : Hid (L.map Ent.p = (restN tk c.p.es r (q + 1)).es ∧ OldL w L) := by show _ ∧ _; rw [HSE.out]; exact HL.out
        have HS3 : Hid (OutL W2 (UpB U bi bt R') w.heap.size A m cc L ∧ UpS W2 B U c R' bi ni bt nt F (restN tk c.p.es r (q + 1)).rp tk ∧ (∀ g, UpB U bi bt R' g → UpB U bi bt R g ∨ w.heap.size ≤ g)) := by
          show _ ∧ _ ∧ _
          rw [HSE.out]
          exact ⟨HL2.out, HU2.out, HSB2.out⟩
        clear htk
        go_wp2
        go_roundw
        case rel => exact ⟨q + 1, _, _, _, _, _, by omega, by go_num, rfl, HLN2, HS3, HK2⟩
        case measure => simp [intOf]; omega
      | false =>
      have w2 : W2.cell? ⟨g5, 2, none⟩ = some (.string ytgt) := HB2.out.cell 2
      have w5 : W2.cell? ⟨g5, 5, none⟩ = some (.int .i64 yst) := HB2.out.cell 5
      have V0 := laters (show W2.cell? ⟨g5, 0, none⟩ = some (.string yid) from HB2.out.cell 0)
      have hE22 := Ext.refl W2
      by_cases ht : ytgt.size = 0
      · have ht1 : ytgt.toList.isEmpty = true := by rw [isEmpty_size, ht]; rfl
        have HSE : Hid (restN tk c.p.es r (q + 1) = ⟨(restN tk c.p.es r q).es, addR (restN tk c.p.es r q).rp 6 yid, (restN tk c.p.es r q).tk⟩) := by show _ = _; rw [HSN.out]; unfold restS; rw [if_neg (by rw [htk]; decide), if_pos ht]; rfl
        have hadd := fun (W : World) (hW : Ext W2 W) => add_any (HU2.out.ext hW) (i := 6) (by omega) (o := 10) rfl yid (HLN.out 6 (by omega)) (Nat.le_trans (Nat.le_trans hB HK2.out.size) hW.size_le)
        clear htk ht
        go_upto_region 7 with fail
        go_region_law (first
          | (go_simp; go_at_call 32; refine (hadd _ (by first | exact Ext.refl _ | exact (Ext.refl _).drew)).mono ?_; rintro e w8 ⟨rfl, R8, hU8, hsub', hk8'⟩; have hsub : ∀ g, UpB U bi bt R8 g → UpB U bi bt R' g ∨ W2.heap.size ≤ g := hsub'; have hk8 : KpS (UpB U bi bt R') W2 w8 := (KpS.of_ext _ (by first | exact Ext.refl W2 | exact (Ext.refl W2).drew)).trans hk8' fun _ _ e => e)
          | fail)
        all_goals
          have HLN2 : Hid (L.map Ent.p = (restN tk c.p.es r (q + 1)).es ∧ OldL w L) := by show _ ∧ _; rw [HSE.out]; exact HL.out
          have HS3 : Hid (OutL w8 (UpB U bi bt R8) w.heap.size A m cc L ∧ UpS w8 B U c R8 bi ni bt nt F (restN tk c.p.es r (q + 1)).rp tk ∧ (∀ g, UpB U bi bt R8 g → UpB U bi bt R g ∨ w.heap.size ≤ g)) := by
            show _ ∧ _ ∧ _
            rw [HSE.out]
            exact ⟨HL2.out.step hk8 hsub, hU8, fun g hg => (hsub g hg).elim (HSB2.out g) fun e => .inr (Nat.le_trans HK2.out.size e)⟩
          have HK3 : Hid (KpS (UpB U bi bt R) w w8) := HK2.out.trans hk8 fun g hg e => (HSB2.out g e).resolve_right (Nat.not_le.2 hg)
          clear hU8 hsub hk8 hsub' hk8' hadd V0 w2 w5 hE22
          go_wp2
          go_roundw
          case rel => exact ⟨q + 1, _, _, _, _, _, by omega, by go_num, rfl, HLN2, HS3, HK3⟩
          case measure => simp [intOf]; omega
      · have ht1 : ytgt.toList.isEmpty = false := by rw [isEmpty_size]; exact decide_eq_false ht
        by_cases h4 : yst = 4
        · have e4 : (yst != 4) = false := by rw [h4]; rfl
          have HSE : Hid (restN tk c.p.es r (q + 1) = ⟨(restN tk c.p.es r q).es ++ [obsP ⟨yid, ysrc, ytgt, ycom, yfl, yst, yfd⟩], (restN tk c.p.es r q).rp, (restN tk c.p.es r q).tk⟩) := by show _ = _; rw [HSN.out]; unfold restS; rw [if_neg (by rw [htk]; decide), if_neg ht, if_pos h4]
          have HE8 : Hid (Ext w0 W2) := HE0.out.trans HE2.out
          have HY8 := Lib.hid (HY0.out _ HE8.out)
          have HL8 := HL2
          have HU8 := HU2
          have HB8 := HB2
          have HK8 := HK2
          have HSB8 := HSB2
          obtain ⟨R8, rfl⟩ : ∃ R8, R8 = R' := ⟨_, rfl⟩
          obtain ⟨w8, rfl⟩ : ∃ w8, w8 = W2 := ⟨_, rfl⟩
          clear htk ht h4 V0
          have p0 : w8.cell? ⟨g5, 0, none⟩ = some (.string yid) := HB8.out.cell 0
          have p1 : w8.cell? ⟨g5, 1, none⟩ = some (.string ysrc) := HB8.out.cell 1
          have p2 : w8.cell? ⟨g5, 2, none⟩ = some (.string ytgt) := HB8.out.cell 2
          have p3 : w8.cell? ⟨g5, 3, none⟩ = some (.slice yhc.A yhc.m yhc.c) := HB8.out.cell 3
          have p4 : w8.cell? ⟨g5, 4, none⟩ = some (.slice yhf.A yhf.m yhf.c) := HB8.out.cell 4
          have p5 : w8.cell? ⟨g5, 5, none⟩ = some (.int .i64 yst) := HB8.out.cell 5
          have p6 : w8.cell? ⟨g5, 6, none⟩ = some (.slice yhd.A yhd.m yhd.c) := HB8.out.cell 6
          have hcp := ucopied_any HY8.out
          unfold entV at hcp
          dsimp only at hcp
          go_wp2_with (first
            | (go_at_call 30; refine Hid.out ?_))
          refine Hid.mk_ ((hcp).mono ?_)
          rintro e w9 ⟨z0, rfl, hzp, hzW, hE9, hzA⟩
          obtain ⟨⟨zid, zsrc, ztgt, zcom, zfl, zst, zfd⟩, zhc, zhf, zhd⟩ := z0
          dsimp only at hzp ⊢
          have HZP := Lib.hid hzp
          have hb9 := HB8.out.below hE9 HB8.out.lt
          have k0 : w9.cell? ⟨g5, 0, none⟩ = some (.string yid) := hb9.cell 0
          have k1 : w9.cell? ⟨g5, 1, none⟩ = some (.string ysrc) := hb9.cell 1
          have k2 : w9.cell? ⟨g5, 2, none⟩ = some (.string ytgt) := hb9.cell 2
          have k3 : w9.cell? ⟨g5, 3, none⟩ = some (.slice yhc.A yhc.m yhc.c) := hb9.cell 3
          have k4 : w9.cell? ⟨g5, 4, none⟩ = some (.slice yhf.A yhf.m yhf.c) := hb9.cell 4
          have k5 : w9.cell? ⟨g5, 5, none⟩ = some (.int .i64 yst) := hb9.cell 5
          have k6 : w9.cell? ⟨g5, 6, none⟩ = some (.slice yhd.A yhd.m yhd.c) := hb9.cell 6
          have j0 := hb9.frozen 0
          have j1 := hb9.frozen 1
          have j2 := hb9.frozen 2
          have j3 := hb9.frozen 3
          have j4 := hb9.frozen 4
          have j5 := hb9.frozen 5
          have j6 := hb9.frozen 6
          have HA9 : Hid (∀ g, g < w8.heap.size → EntA (some g) ⟨⟨zid, zsrc, ztgt, zcom, zfl, zst, zfd⟩, zhc, zhf, zhd⟩) := fun g hg => hzA (some g) fun k hk => by injection hk with hk; omega
          have HZW := Lib.hid hzW
          have HL9 := Lib.hid (HL8.out.ext hE9)
          have HU9 := Lib.hid (HU8.out.ext hE9)
          have HK9 := Lib.hid (HK8.out.ext hE9)
          have HB9 := Lib.hid hb9
          have HE9 := Lib.hid hE9
          have HG58 : Hid (g5 < w8.heap.size ∧ w.heap.size ≤ g5) := ⟨HB8.out.lt, by rw [HG5.out]; exact HK.out.size⟩
          clear hcp hzp hzW hE9 hzA hb9 p0 p1 p2 p3 p4 p5 p6
          go_upto_region 12 with fail
          obtain ⟨wF, hwF⟩ : ∃ wF, wF = (entR w9 g5 ⟨zid, zsrc, ztgt, zcom, zfl, zst, zfd⟩ zhc zhf zhd).setCell ⟨g5, 5, none⟩ (.int .i64 4) := ⟨_, rfl⟩
          change Code.wp _ _ _ _ ((entR w9 g5 ⟨zid, zsrc, ztgt, zcom, zfl, zst, zfd⟩ zhc zhf zhd).setCell ⟨g5, 5, none⟩ (.int .i64 4))
          rw [← hwF]
          have bF : Blk wF g5 39 (entA ⟨zid, zsrc, ztgt, zcom, zfl, 4, zfd⟩ zhc zhf zhd) := by
            rw [hwF]
            exact (((((((HB9.out.set_ 0 (.string zid)).set_ 1 (.string zsrc)).set_ 2 (.string ztgt)).set_ 3 (.slice zhc.A zhc.m zhc.c)).set_ 4 (.slice zhf.A zhf.m zhf.c)).set_ 5 (.int .i64 zst)).set_ 6 (.slice zhd.A zhd.m zhd.c)).set_ 5 (.int .i64 4)
          have kF : KpS (fun g => g = g5) w9 wF := by
            rw [hwF]
            exact ((((((((KpS.setCell w9 g5 0 _).trans (KpS.setCell _ g5 1 _) fun _ _ e => e).trans (KpS.setCell _ g5 2 _) fun _ _ e => e).trans (KpS.setCell _ g5 3 _) fun _ _ e => e).trans (KpS.setCell _ g5 4 _) fun _ _ e => e).trans (KpS.setCell _ g5 5 _) fun _ _ e => e).trans (KpS.setCell _ g5 6 _) fun _ _ e => e).trans (KpS.setCell _ g5 5 _) fun _ _ e => e)
          obtain ⟨zN, hzN⟩ : ∃ zN : Ent, zN = ⟨⟨zid, zsrc, ztgt, zcom, zfl, 4, zfd⟩, zhc, zhf, zhd⟩ := ⟨_, rfl⟩
          have hzW1 : EntW w9 zN := by rw [hzN]; exact ⟨HZW.out.c, HZW.out.f, HZW.out.d, HZW.out.id, HZW.out.src, HZW.out.tgt, by show -9223372036854775808 ≤ (4 : Int) ∧ (4 : Int) ≤ _; omega⟩
          have hzA1 : ∀ g, g < w8.heap.size → EntA (some g) zN := fun g hg => by rw [hzN]; exact HA9.out g hg
          have hzWF := EntW.kp kF hzW1 (EntS.of_ent fun g e => by rw [e]; exact hzA1 g5 HG58.out.1)
          have HLF := Lib.hid (HL9.out.far kF HR5.out.1 HR5.out.2)
          have HUF := Lib.hid (HU9.out.kp kF fun g hg e => HN5.out (by rw [← e]; exact hg))
          have HKF : Hid (KpS (UpB U bi bt R) w wF) := HK9.out.trans kF fun g hg e => by have h1 := HG58.out.2; omega
          have c0 : wF.cell? ⟨g5, 0, none⟩ = some (.string zid) := bF.cell 0
          have c1 : wF.cell? ⟨g5, 1, none⟩ = some (.string zsrc) := bF.cell 1
          have c2 : wF.cell? ⟨g5, 2, none⟩ = some (.string ztgt) := bF.cell 2
          have c3 : wF.cell? ⟨g5, 3, none⟩ = some (.slice zhc.A zhc.m zhc.c) := bF.cell 3
          have c4 : wF.cell? ⟨g5, 4, none⟩ = some (.slice zhf.A zhf.m zhf.c) := bF.cell 4
          have c5 : wF.cell? ⟨g5, 5, none⟩ = some (.int .i64 4) := bF.cell 5
          have c6 : wF.cell? ⟨g5, 6, none⟩ = some (.slice zhd.A zhd.m zhd.c) := bF.cell 6
          have hEF : Ext wF (wF.alloc (Obj.cells #[.string zid, .string zsrc, .string ztgt, .slice zhc.A zhc.m zhc.c, .slice zhf.A zhf.m zhf.c, .int .i64 4, .slice zhd.A zhd.m zhd.c] 39)) := (Ext.refl _).alloc _
          have hsz : SlC entC 7 (wF.alloc (Obj.cells #[.string zid, .string zsrc, .string ztgt, .slice zhc.A zhc.m zhc.c, .slice zhf.A zhf.m zhf.c, .int .i64 4, .slice zhd.A zhd.m zhd.c] 39)) (some ⟨wF.heap.size, 0, none⟩) 1 [zN] := by rw [hzN]; exact SlC.new_ wF [(⟨⟨zid, zsrc, ztgt, zcom, zfl, 4, zfd⟩, zhc, zhf, zhd⟩ : Ent)] entC_len (by simp) #[.string zid, .string zsrc, .string ztgt, .slice zhc.A zhc.m zhc.c, .slice zhf.A zhf.m zhf.c, .int .i64 4, .slice zhd.A zhd.m zhd.c] rfl (0, 0) 1 rfl _
          have HZA := Lib.hid hzA1
          have HZWF := Lib.hid hzWF
          have HZN := Lib.hid hzN
          have HW9 := Lib.hid (HE9.out.size_le)
          have HSF := Lib.hid kF.size
          have hm1000 := HML.out
          clear hwF bF kF hzN hzW1 hzA1 hzWF k0 k1 k2 k3 k4 k5 k6 j0 j1 j2 j3 j4 j5 j6
          go_wp2_with (first
            | (at_builtin; refine Hid.out ?_))
          refine Hid.mk_ ?_
          refine appC einfo_ent rfl _ _ rfl (HLF.out.row.ext hEF) rfl hsz rfl (by omega) (Nat.le_trans HKF.out.size hEF.size_le) ?_
          intro A7 m7 c7 w7 ho7 hg7 hN7
          have HL7 : Hid (OutL w7 (UpB U bi bt R8) w.heap.size A7 m7 c7 (L ++ [zN])) := (HLF.out.ext hEF).snoc ho7 hg7 hN7 (HZWF.out.ext hEF) (EntS.of_ent fun g hg => HZA.out g (HU8.out.lt hg)) (by
            cases hA : ob A with
            | none => exact ⟨.inr (by cases ob zN.c.A <;> simp), .inr (by cases ob zN.f.A <;> simp), .inr (by cases ob zN.d.A <;> simp)⟩
            | some g => exact HZA.out g (HL8.out.row.lt g hA)) (fun g hg => Nat.lt_of_lt_of_le (HUF.out.lt hg) hEF.size_le)
          have HU7 : Hid (UpS w7 B U c R8 bi ni bt nt F (restN tk c.p.es r (q + 1)).rp tk) := by
            have h1 := (HUF.out.ext hEF).kp (KpS.grown hg7) fun g hg e => HLF.out.ns g e hg
            show UpS _ _ _ _ _ _ _ _ _ _ _ _
            rw [HSE.out]
            exact h1
          have HK7 : Hid (KpS (UpB U bi bt R) w w7) := (HKF.out.ext hEF).trans (KpS.grown hg7) fun g hg e => by have h1 := HLF.out.row.ge g e; omega
          have HLO : Hid (OldL w (L ++ [zN])) := fun z hz g hg => by
            rcases List.mem_append.1 hz with hz | hz
            · exact HL.out.2 z hz g hg
            · obtain rfl := List.mem_singleton.1 hz
              exact HZA.out g (Nat.lt_of_lt_of_le hg HK8.out.size)
          have HLN2 : Hid ((L ++ [zN]).map Ent.p = (restN tk c.p.es r (q + 1)).es ∧ OldL w (L ++ [zN])) := by
            show _ ∧ _
            refine ⟨?_, HLO.out⟩
            rw [HSE.out, List.map_append, HL.out.1, HZN.out]
            have h1 := congrArg obsP HZP.out
            exact congrArg (fun t => (restN tk c.p.es r q).es ++ [t]) h1
          have HS7 : Hid (OutL w7 (UpB U bi bt R8) w.heap.size A7 m7 c7 (L ++ [zN]) ∧ UpS w7 B U c R8 bi ni bt nt F (restN tk c.p.es r (q + 1)).rp tk ∧ (∀ g, UpB U bi bt R8 g → UpB U bi bt R g ∨ w.heap.size ≤ g)) := ⟨HL7.out, HU7.out, HSB8.out⟩
          clear ho7 hg7 hN7 hsz hEF c0 c1 c2 c3 c4 c5 c6
          go_wp2
          go_roundw
          case rel => exact ⟨q + 1, _, _, _, _, _, by omega, by go_num, rfl, HLN2, HS7, HK7⟩
          case measure => simp [intOf]; omega
        · have e4 : (yst != 4) = true := by rw [bne_iff_ne]; exact h4
          have HSE : Hid (restN tk c.p.es r (q + 1) = ⟨(restN tk c.p.es r q).es ++ [obsP ⟨yid, ysrc, ytgt, ycom, yfl, yst, yfd⟩], addR (restN tk c.p.es r q).rp 5 yid, (restN tk c.p.es r q).tk⟩) := by show _ = _; rw [HSN.out]; unfold restS; rw [if_neg (by rw [htk]; decide), if_neg ht, if_neg h4]; rfl
          have hadd := fun (W : World) (hW : Ext W2 W) => add_any (HU2.out.ext hW) (i := 5) (by omega) (o := 9) rfl yid (HLN.out 5 (by omega)) (Nat.le_trans (Nat.le_trans hB HK2.out.size) hW.size_le)
          clear htk ht h4
          go_upto_region 9 with fail
          go_region_law (first
            | (go_simp; go_at_call 32; refine (hadd _ (by first | exact Ext.refl _ | exact (Ext.refl _).drew)).mono ?_; rintro e w8 ⟨rfl, R8, hU8, hsub', hk8'⟩; have hsub : ∀ g, UpB U bi bt R8 g → UpB U bi bt R' g ∨ W2.heap.size ≤ g := hsub'; have hk8 : KpS (UpB U bi bt R') W2 w8 := (KpS.of_ext _ (by first | exact Ext.refl W2 | exact (Ext.refl W2).drew)).trans hk8' fun _ _ e => e)
            | fail)
          all_goals
            have HU8 := Lib.hid hU8
            have HL8 := Lib.hid (HL2.out.step hk8 hsub)
            have HB8 := Lib.hid (hk8.blk HB2.out HN5.out)
            have HK8 : Hid (KpS (UpB U bi bt R) w w8) := HK2.out.trans hk8 fun g hg e => (HSB2.out g e).resolve_right (Nat.not_le.2 hg)
            have HSB8 : Hid (∀ g, UpB U bi bt R8 g → UpB U bi bt R g ∨ w.heap.size ≤ g) := fun g hg => (hsub g hg).elim (HSB2.out g) fun e => .inr (Nat.le_trans HK2.out.size e)
            have HE8 : Hid (Ext w0 w8) := Below.trans HW0.out (HK8.out.toBelow HW0.out.size_le fun g hg => Nat.le_trans hBw (HU.out.ge hg))
            have HY8 := Lib.hid (HY0.out _ HE8.out)
            have HN8 : Hid (¬ UpB U bi bt R8 g5) := fun e => by
              rcases hsub g5 e with h1 | h1
              · exact HN5.out h1
              · have h2 := HB2.out.lt; omega
            clear HN5
            have HN5 := HN8
            clear hU8 hsub hk8 hsub' hk8' hadd V0 w2 w5 hE22
            have p0 : w8.cell? ⟨g5, 0, none⟩ = some (.string yid) := HB8.out.cell 0
            have p1 : w8.cell? ⟨g5, 1, none⟩ = some (.string ysrc) := HB8.out.cell 1
            have p2 : w8.cell? ⟨g5, 2, none⟩ = some (.string ytgt) := HB8.out.cell 2
            have p3 : w8.cell? ⟨g5, 3, none⟩ = some (.slice yhc.A yhc.m yhc.c) := HB8.out.cell 3
            have p4 : w8.cell? ⟨g5, 4, none⟩ = some (.slice yhf.A yhf.m yhf.c) := HB8.out.cell 4
            have p5 : w8.cell? ⟨g5, 5, none⟩ = some (.int .i64 yst) := HB8.out.cell 5
            have p6 : w8.cell? ⟨g5, 6, none⟩ = some (.slice yhd.A yhd.m yhd.c) := HB8.out.cell 6
            have hcp := ucopied_any HY8.out
            unfold entV at hcp
            dsimp only at hcp
            go_wp2_with (first
              | (go_at_call 30; refine Hid.out ?_))
            refine Hid.mk_ ((hcp).mono ?_)
            rintro e w9 ⟨z0, rfl, hzp, hzW, hE9, hzA⟩
            obtain ⟨⟨zid, zsrc, ztgt, zcom, zfl, zst, zfd⟩, zhc, zhf, zhd⟩ := z0
            dsimp only at hzp ⊢
            have HZP := Lib.hid hzp
            have hb9 := HB8.out.below hE9 HB8.out.lt
            have k0 : w9.cell? ⟨g5, 0, none⟩ = some (.string yid) := hb9.cell 0
            have k1 : w9.cell? ⟨g5, 1, none⟩ = some (.string ysrc) := hb9.cell 1
            have k2 : w9.cell? ⟨g5, 2, none⟩ = some (.string ytgt) := hb9.cell 2
            have k3 : w9.cell? ⟨g5, 3, none⟩ = some (.slice yhc.A yhc.m yhc.c) := hb9.cell 3
            have k4 : w9.cell? ⟨g5, 4, none⟩ = some (.slice yhf.A yhf.m yhf.c) := hb9.cell 4
            have k5 : w9.cell? ⟨g5, 5, none⟩ = some (.int .i64 yst) := hb9.cell 5
            have k6 : w9.cell? ⟨g5, 6, none⟩ = some (.slice yhd.A yhd.m yhd.c) := hb9.cell 6
            have j0 := hb9.frozen 0
            have j1 := hb9.frozen 1
            have j2 := hb9.frozen 2
            have j3 := hb9.frozen 3
            have j4 := hb9.frozen 4
            have j5 := hb9.frozen 5
            have j6 := hb9.frozen 6
            have HA9 : Hid (∀ g, g < w8.heap.size → EntA (some g) ⟨⟨zid, zsrc, ztgt, zcom, zfl, zst, zfd⟩, zhc, zhf, zhd⟩) := fun g hg => hzA (some g) fun k hk => by injection hk with hk; omega
            have HZW := Lib.hid hzW
            have HL9 := Lib.hid (HL8.out.ext hE9)
            have HU9 := Lib.hid (HU8.out.ext hE9)
            have HK9 := Lib.hid (HK8.out.ext hE9)
            have HB9 := Lib.hid hb9
            have HE9 := Lib.hid hE9
            have HG58 : Hid (g5 < w8.heap.size ∧ w.heap.size ≤ g5) := ⟨HB8.out.lt, by rw [HG5.out]; exact HK.out.size⟩
            clear hcp hzp hzW hE9 hzA hb9 p0 p1 p2 p3 p4 p5 p6
            go_upto_region 12 with fail
            obtain ⟨wF, hwF⟩ : ∃ wF, wF = (entR w9 g5 ⟨zid, zsrc, ztgt, zcom, zfl, zst, zfd⟩ zhc zhf zhd).setCell ⟨g5, 5, none⟩ (.int .i64 4) := ⟨_, rfl⟩
            change Code.wp _ _ _ _ ((entR w9 g5 ⟨zid, zsrc, ztgt, zcom, zfl, zst, zfd⟩ zhc zhf zhd).setCell ⟨g5, 5, none⟩ (.int .i64 4))
            rw [← hwF]
            have bF : Blk wF g5 39 (entA ⟨zid, zsrc, ztgt, zcom, zfl, 4, zfd⟩ zhc zhf zhd) := by
              rw [hwF]
              exact (((((((HB9.out.set_ 0 (.string zid)).set_ 1 (.string zsrc)).set_ 2 (.string ztgt)).set_ 3 (.slice zhc.A zhc.m zhc.c)).set_ 4 (.slice zhf.A zhf.m zhf.c)).set_ 5 (.int .i64 zst)).set_ 6 (.slice zhd.A zhd.m zhd.c)).set_ 5 (.int .i64 4)
            have kF : KpS (fun g => g = g5) w9 wF := by
              rw [hwF]
              exact ((((((((KpS.setCell w9 g5 0 _).trans (KpS.setCell _ g5 1 _) fun _ _ e => e).trans (KpS.setCell _ g5 2 _) fun _ _ e => e).trans (KpS.setCell _ g5 3 _) fun _ _ e => e).trans (KpS.setCell _ g5 4 _) fun _ _ e => e).trans (KpS.setCell _ g5 5 _) fun _ _ e => e).trans (KpS.setCell _ g5 6 _) fun _ _ e => e).trans (KpS.setCell _ g5 5 _) fun _ _ e => e)
            obtain ⟨zN, hzN⟩ : ∃ zN : Ent, zN = ⟨⟨zid, zsrc, ztgt, zcom, zfl, 4, zfd⟩, zhc, zhf, zhd⟩ := ⟨_, rfl⟩
            have hzW1 : EntW w9 zN := by rw [hzN]; exact ⟨HZW.out.c, HZW.out.f, HZW.out.d, HZW.out.id, HZW.out.src, HZW.out.tgt, by show -9223372036854775808 ≤ (4 : Int) ∧ (4 : Int) ≤ _; omega⟩
            have hzA1 : ∀ g, g < w8.heap.size → EntA (some g) zN := fun g hg => by rw [hzN]; exact HA9.out g hg
            have hzWF := EntW.kp kF hzW1 (EntS.of_ent fun g e => by rw [e]; exact hzA1 g5 HG58.out.1)
            have HLF := Lib.hid (HL9.out.far kF HR5.out.1 HR5.out.2)
            have HUF := Lib.hid (HU9.out.kp kF fun g hg e => HN5.out (by rw [← e]; exact hg))
            have HKF : Hid (KpS (UpB U bi bt R) w wF) := HK9.out.trans kF fun g hg e => by have h1 := HG58.out.2; omega
            have c0 : wF.cell? ⟨g5, 0, none⟩ = some (.string zid) := bF.cell 0
            have c1 : wF.cell? ⟨g5, 1, none⟩ = some (.string zsrc) := bF.cell 1
            have c2 : wF.cell? ⟨g5, 2, none⟩ = some (.string ztgt) := bF.cell 2
            have c3 : wF.cell? ⟨g5, 3, none⟩ = some (.slice zhc.A zhc.m zhc.c) := bF.cell 3
            have c4 : wF.cell? ⟨g5, 4, none⟩ = some (.slice zhf.A zhf.m zhf.c) := bF.cell 4
            have c5 : wF.cell? ⟨g5, 5, none⟩ = some (.int .i64 4) := bF.cell 5
            have c6 : wF.cell? ⟨g5, 6, none⟩ = some (.slice zhd.A zhd.m zhd.c) := bF.cell 6
            have hEF : Ext wF (wF.alloc (Obj.cells #[.string zid, .string zsrc, .string ztgt, .slice zhc.A zhc.m zhc.c, .slice zhf.A zhf.m zhf.c, .int .i64 4, .slice zhd.A zhd.m zhd.c] 39)) := (Ext.refl _).alloc _
            have hsz : SlC entC 7 (wF.alloc (Obj.cells #[.string zid, .string zsrc, .string ztgt, .slice zhc.A zhc.m zhc.c, .slice zhf.A zhf.m zhf.c, .int .i64 4, .slice zhd.A zhd.m zhd.c] 39)) (some ⟨wF.heap.size, 0, none⟩) 1 [zN] := by rw [hzN]; exact SlC.new_ wF [(⟨⟨zid, zsrc, ztgt, zcom, zfl, 4, zfd⟩, zhc, zhf, zhd⟩ : Ent)] entC_len (by simp) #[.string zid, .string zsrc, .string ztgt, .slice zhc.A zhc.m zhc.c, .slice zhf.A zhf.m zhf.c, .int .i64 4, .slice zhd.A zhd.m zhd.c] rfl (0, 0) 1 rfl _
            have HZA := Lib.hid hzA1
            have HZWF := Lib.hid hzWF
            have HZN := Lib.hid hzN
            have HW9 := Lib.hid (HE9.out.size_le)
            have HSF := Lib.hid kF.size
            have hm1000 := HML.out
            clear hwF bF kF hzN hzW1 hzA1 hzWF k0 k1 k2 k3 k4 k5 k6 j0 j1 j2 j3 j4 j5 j6
            go_wp2_with (first
              | (at_builtin; refine Hid.out ?_))
            refine Hid.mk_ ?_
            refine appC einfo_ent rfl _ _ rfl (HLF.out.row.ext hEF) rfl hsz rfl (by omega) (Nat.le_trans HKF.out.size hEF.size_le) ?_
            intro A7 m7 c7 w7 ho7 hg7 hN7
            have HL7 : Hid (OutL w7 (UpB U bi bt R8) w.heap.size A7 m7 c7 (L ++ [zN])) := (HLF.out.ext hEF).snoc ho7 hg7 hN7 (HZWF.out.ext hEF) (EntS.of_ent fun g hg => HZA.out g (HU8.out.lt hg)) (by
              cases hA : ob A with
              | none => exact ⟨.inr (by cases ob zN.c.A <;> simp), .inr (by cases ob zN.f.A <;> simp), .inr (by cases ob zN.d.A <;> simp)⟩
              | some g => exact HZA.out g (HL8.out.row.lt g hA)) (fun g hg => Nat.lt_of_lt_of_le (HUF.out.lt hg) hEF.size_le)
            have HU7 : Hid (UpS w7 B U c R8 bi ni bt nt F (restN tk c.p.es r (q + 1)).rp tk) := by
              have h1 := (HUF.out.ext hEF).kp (KpS.grown hg7) fun g hg e => HLF.out.ns g e hg
              show UpS _ _ _ _ _ _ _ _ _ _ _ _
              rw [HSE.out]
              exact h1
            have HK7 : Hid (KpS (UpB U bi bt R) w w7) := (HKF.out.ext hEF).trans (KpS.grown hg7) fun g hg e => by have h1 := HLF.out.row.ge g e; omega
            have HLO : Hid (OldL w (L ++ [zN])) := fun z hz g hg => by
              rcases List.mem_append.1 hz with hz | hz
              · exact HL.out.2 z hz g hg
              · obtain rfl := List.mem_singleton.1 hz
                exact HZA.out g (Nat.lt_of_lt_of_le hg HK8.out.size)
            have HLN2 : Hid ((L ++ [zN]).map Ent.p = (restN tk c.p.es r (q + 1)).es ∧ OldL w (L ++ [zN])) := by
              show _ ∧ _
              refine ⟨?_, HLO.out⟩
              rw [HSE.out, List.map_append, HL.out.1, HZN.out]
              have h1 := congrArg obsP HZP.out
              exact congrArg (fun t => (restN tk c.p.es r q).es ++ [t]) h1
            have HS7 : Hid (OutL w7 (UpB U bi bt R8) w.heap.size A7 m7 c7 (L ++ [zN]) ∧ UpS w7 B U c R8 bi ni bt nt F (restN tk c.p.es r (q + 1)).rp tk ∧ (∀ g, UpB U bi bt R8 g → UpB U bi bt R g ∨ w.heap.size ≤ g)) := ⟨HL7.out, HU7.out, HSB8.out⟩
            clear ho7 hg7 hN7 hsz hEF c0 c1 c2 c3 c4 c5 c6
            go_wp2
            go_roundw
            case rel => exact ⟨q + 1, _, _, _, _, _, by omega, by go_num, rfl, HLN2, HS7, HK7⟩
            case measure => simp [intOf]; omega
    · have hi1 : ¬ (q : Int) < (c.e.m : Int) := by omega
      have hqe : q = c.es.length := by have := HEL.out; omega
      rw [hqe] at HL HS
      clear hqe
      go_wp2
      go_ret
      exact ⟨A, m, cc, L, R', rfl, HL.out.1, HS.out.1, HS.out.2.1, HS.out.2.2, HK.out, HL.out.2⟩
end
end Go.Proofs.YtgnchicipmomlaaGreatDoor

/- Update's third loop: what holds between two rounds. -/
namespace Go.Proofs.YtgnchicipmomlaaGreatDoor
open Go.RowKit
set_option maxRecDepth 100000
theorem restN_all (tk : List ByteArray) (es : List Ep) (r : Rep) (l : List Ep) (s : US) (hs : s = ⟨l, r, tk⟩) : (es.foldl (restS tk) s).es = l ++ (restN tk es r es.length).es ∧ (es.foldl (restS tk) s).rp = (restN tk es r es.length).rp := by
  subst hs
  unfold restN
  rw [List.take_length, rest_fold, rest_fold]
  simp
theorem EntA_none (z : Ent) : EntA none z := ⟨.inr (by cases ob z.c.A <;> simp), .inr (by cases ob z.f.A <;> simp), .inr (by cases ob z.d.A <;> simp)⟩
/-- The catalog that is made, the updater, and what they keep. -/
structure UpI (wo wr : World) (B gC U : Nat) (x : Cat) (R : Nat → SlH) (bi ni bt nt : Nat) (F : ByteArray → Option Nat) (s : US) (tag : ByteArray) (kc kd : SlH) (A : Option Addr) (m cc : Nat) (L : List Ent) : Prop where
  blk : Blk wr gC 32 (catA tag kc kd ⟨A, m, cc⟩)
  out : OutL wr (UpB U bi bt R) wo.heap.size A m cc L
  apc : ∀ z ∈ L, EntA (some gC) z
  upd : UpS wr B U x R bi ni bt nt F s.rp s.tk
  sub : ∀ g, UpB U bi bt R g → (g = U ∨ g = bi ∨ g = bt) ∨ wo.heap.size ≤ g
  kp : KpS (fun g => g = U ∨ g = bi ∨ g = bt ∨ g = gC) wo wr
  es : L.map Ent.p = s.es
  nC : gC < wo.heap.size ∧ gC ≠ U ∧ gC ≠ bi ∧ gC ≠ bt
  old : ∀ z ∈ L, ∀ g, g < B → EntA (some g) z
section
variable {wo wr W2 w5 w6 w7 : World} {B gC U : Nat} {x : Cat} {R R5 : Nat → SlH} {bi ni bt nt nt5 : Nat} {F : ByteArray → Option Nat} {s s' : US} {tag : ByteArray} {kc kd : SlH} {A A7 : Option Addr} {m cc m7 c7 : Nat} {L : List Ent}
theorem UpI.not (h : UpI wo wr B gC U x R bi ni bt nt F s tag kc kd A m cc L) : ¬ UpB U bi bt R gC := fun e => by
  obtain ⟨n1, n2, n3, n4⟩ := h.nC
  rcases h.sub gC e with (e | e | e) | e
  · exact n2 e
  · exact n3 e
  · exact n4 e
  · omega
theorem UpI.ext (h : UpI wo wr B gC U x R bi ni bt nt F s tag kc kd A m cc L) (hE : Ext wr W2) : UpI wo W2 B gC U x R bi ni bt nt F s tag kc kd A m cc L :=
  ⟨(KpS.of_ext (fun _ => False) hE).blk h.blk (fun e => e), h.out.ext hE, h.apc, h.upd.ext hE, h.sub, h.kp.ext hE, h.es, h.nC, h.old⟩
/-- The updater has changed. -/
theorem UpI.call (h : UpI wo W2 B gC U x R bi ni bt nt F s tag kc kd A m cc L) (hkp : KpS (UpB U bi bt R) W2 w5) (hU5 : UpS w5 B U x R5 bi ni bt nt5 F s'.rp s'.tk) (hsub : ∀ g, UpB U bi bt R5 g → UpB U bi bt R g ∨ W2.heap.size ≤ g) (hs : s'.es = s.es) :
    UpI wo w5 B gC U x R5 bi ni bt nt5 F s' tag kc kd A m cc L :=
  ⟨hkp.blk h.blk h.not, h.out.step hkp hsub, h.apc, hU5, fun g hg => by
    rcases hsub g hg with h1 | h1
    · exact h.sub g h1
    · exact .inr (Nat.le_trans h.kp.size h1), h.kp.trans hkp (fun j hj e => by
    rcases h.sub j e with (h1 | h1 | h1) | h1
    · exact .inl h1
    · exact .inr (.inl h1)
    · exact .inr (.inr (.inl h1))
    · omega), by rw [hs]; exact h.es, h.nC, h.old⟩
theorem UpI.row (h : UpI wo w6 B gC U x R bi ni bt nt F s tag kc kd A m cc L) : ∀ g, ob A = some g → g ≠ gC := fun g hg => by
  obtain ⟨xs, hb⟩ := h.out.row.blk_ hg
  exact hb.ne_ h.blk (by decide)
/-- Entries are appended, and the header is stored. -/
theorem UpI.app (h : UpI wo w6 B gC U x R bi ni bt nt F s tag kc kd A m cc L) {news : List Ent} (ho7 : OsC entC 39 7 w7 wo.heap.size A7 m7 c7 (L ++ news)) (hg7 : w6.grownBy w7 (ob A)) (hN7 : NewOr w6.heap.size (ob A) (ob A7))
    (hz : ∀ z ∈ news, EntW w6 z ∧ EntS (UpB U bi bt R) z ∧ EntA (ob A) z ∧ EntA (some gC) z) (hzo : ∀ z ∈ news, ∀ g, g < B → EntA (some g) z) (hs : s'.es = s.es ++ news.map Ent.p) (hr : s'.rp = s.rp) (ht : s'.tk = s.tk) :
    Blk w7 gC 32 (catA tag kc kd ⟨A, m, cc⟩) ∧ UpI wo (w7.setCell ⟨gC, 3, none⟩ (.slice A7 m7 c7)) B gC U x R bi ni bt nt F s' tag kc kd A7 m7 c7 (L ++ news) := by
  have hk7 := KpS.grown hg7
  have hb7 : Blk w7 gC 32 (catA tag kc kd ⟨A, m, cc⟩) := hk7.blk h.blk fun e => h.row gC e rfl
  have hk8 := KpS.setCell w7 gC 3 (.slice A7 m7 c7)
  have hU7 := h.upd.kp hk7 fun g hg e => h.out.ns g e hg
  have key : ∀ y, EntW w6 y → EntA (ob A) y → EntA (ob A7) y := fun y hy ha => by
    cases hA : ob A7 with
    | none => exact EntA_none y
    | some g =>
      rcases hN7 g hA with h1 | h1
      · exact hy.lt fun g' e => by injection e with e; omega
      · rw [h1] at ha; exact ha
  have all : ∀ y ∈ L ++ news, EntW w7 y ∧ EntS (UpB U bi bt R) y ∧ EntA (ob A7) y ∧ EntA (some gC) y := fun y hy => by
    rcases List.mem_append.1 hy with hy | hy
    · obtain ⟨a, b, d⟩ := h.out.ents y hy
      exact ⟨a.kept hg7 d, b, key y a d, h.apc y hy⟩
    · obtain ⟨a, b, d, f⟩ := hz y hy
      exact ⟨a.kept hg7 d, b, key y a d, f⟩
  have hrow7 : ∀ g, ob A7 = some g → ¬ g = gC := fun g hg => by
    obtain ⟨xs, hb⟩ := ho7.blk_ hg
    exact hb.ne_ hb7 (by decide)
  refine ⟨hb7, ⟨hb7.set_ 3 (.slice A7 m7 c7), ⟨hk8.osc ho7 hrow7, fun y hy => ?_, fun g hg e => ?_⟩, fun y hy => (all y hy).2.2.2, ?_, h.sub, ?_, ?_, h.nC, fun y hy => ?_⟩⟩
  · obtain ⟨a, b, d, f⟩ := all y hy
    exact ⟨EntW.kp hk8 a (EntS.of_ent fun g e => by rw [e]; exact f), b, d⟩
  · rcases hN7 g hg with h1 | h1
    · have := h.upd.lt e; omega
    · exact h.out.ns g h1 e
  · rw [hr, ht]
    exact hU7.kp hk8 fun g hg e => h.not (by rw [← e]; exact hg)
  · exact (h.kp.trans hk7 fun j hj e => by have h1 := h.out.row.ge j e; omega).trans hk8 fun j hj e => .inr (.inr (.inr e))
  · rw [List.map_append, h.es, hs]
  · rcases List.mem_append.1 hy with hy | hy
    · exact h.old y hy
    · exact hzo y hy
end
end Go.Proofs.YtgnchicipmomlaaGreatDoor
