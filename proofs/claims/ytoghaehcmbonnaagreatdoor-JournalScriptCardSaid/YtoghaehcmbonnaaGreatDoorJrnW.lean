/- (*Journal).frame. -/
import Derived.Test.YtoghaehcmbonnaaGreatDoorJrnU
import Derived.Test.YtoghaehcmbonnaaGreatDoorJrnS
namespace Go.Proofs.YtoghaehcmbonnaaGreatDoor
open Go.RowKit
set_option maxRecDepth 100000
attribute [local go_sem] ext_refl_t ext_alloc_t ext_drew_t ext_drewN_t ext_alloc2_t ext_alloc3_t ext_alloc4_t ext_alloc5_t ext_alloc6_t ext_alloc7_t ext_alloc8_t ext_alloc1d_t ext_alloc2d_t ext_alloc3d_t ext_alloc4d_t
theorem results_cell4 {fn : Func} {p u v x : Tmp} {ty : TypeId} (h : fn.results = #[.cell p ty, .tmp u, .tmp v, .tmp x]) (tmps : Array Value) (P : Program) (w : World) :
    (results fn tmps).run P w =
      ((asAddr (tmps.getD p undef)).run P w).andThen fun a w₁ => ((loadVar ty a).run P w₁).andThen fun y w₂ => .ok (.tuple #[y, tmps.getD u undef, tmps.getD v undef, tmps.getD x undef]) w₂ := by
  simp only [results, h]
  simp [Sem.run_bind, Result.andThen]
theorem results_cell_row4 {P : Program} {fn : Func} {p u v x : Tmp} {ty : TypeId} (h : fn.results = #[.cell p ty, .tmp u, .tmp v, .tmp x]) (tmps : Array Value) (w : World) (g : Nat) (t : TypeId) (cs : Array Value) (fr : Nat × Nat) (d : TypeDesc)
    (hp : tmps.getD p undef = .pointer (some ⟨g, 0, none⟩)) (hg : w.heap[g]? = some (.cells cs t fr))
    (hu : P.underlying ty = some d) (hd : (match d with | .struct _ | .array _ _ => true | _ => false) = true) (hi : (P.info? ty).map (·.size) = some cs.size) :
    (results fn tmps).run P w = .ok (.tuple #[.agg cs, tmps.getD u undef, tmps.getD v undef, tmps.getD x undef]) w := by
  rw [results_cell4 h, hp]
  simp [asAddr, run_loadVar_row w g t ty cs fr d hg hu hd hi, Result.andThen]
/-- What frame returns. -/
def FrR (A : Option Addr) (w' : World) (l : List UInt8) (k : Nat) (e : Ending) : Prop :=
  (∃ code : Int, code ≠ 0 ∧ (nextJ l k).2.2 = code ∧ ∃ X A2 m2 c2 A3 m3 c3, e = .returned (.tuple #[evV X, .slice A2 m2 c2, .slice A3 m3 c3, .int .i64 code])) ∨
  (∃ x n A2 m2 c2 A3 m3 c3, nextJ l k = (x, n, 0) ∧ e = .returned (.tuple #[evV x, .slice A2 m2 c2, .slice A3 m3 c3, .int .i64 0]) ∧ SlB w' A2 m2 (encE x) ∧ SlB w' A3 m3 (l.drop n) ∧ m3 ≤ c3 ∧ (ob A3 = none ∨ ob A3 = ob A))
theorem nextJ_none {l : List UInt8} {k : Nat} (h : hdrJ l = none) : (nextJ l k).2.2 = 4 := by unfold nextJ; rw [h]
theorem nextJ_short {l : List UInt8} {k n : Nat} (h : hdrJ l = some n) (hl : l.length < 18 + n + 8) : (nextJ l k).2.2 = 4 := by unfold nextJ; rw [h]; dsimp only; rw [if_pos hl]
theorem nextJ_sum {l : List UInt8} {k n oc : Nat} (h : hdrJ l = some n) (hl : ¬ l.length < 18 + n + 8) (ho : (openR k ((l.drop 18).take (n + 8))).2 = oc) (hoc : oc ≠ 0) : (nextJ l k).2.2 = (oc : Int) := by
  unfold nextJ; rw [h]; dsimp only; rw [if_neg hl, ho, if_pos hoc]
theorem nextJ_dec {l : List UInt8} {k n : Nat} (h : hdrJ l = some n) (hl : ¬ l.length < 18 + n + 8) {p : List UInt8} (ho : openR k ((l.drop 18).take (n + 8)) = (p, 0)) : nextJ l k = ((decE p).1, 18 + n + 8, (decE p).2) := by
  unfold nextJ; rw [h]; dsimp only; rw [if_neg hl, ho, if_neg (by simp)]
theorem decE_code2 (l : List UInt8) : (decE l).2 = 0 ∨ (decE l).2 = 4 := by
  unfold decE
  split
  · exact .inr rfl
  · exact .inl rfl
/-- Bytes lie in no block without bytes. -/
theorem SlB.setRow_ {w : World} {A : Option Addr} {m g : Nat} {l : List UInt8} {t : TypeId} {cs : Array Value} (h : SlB w A m l) (hb : Blk w g t cs) (hn : ∀ (i : Nat) (v : Int), cs[i]? ≠ some (Value.int .u8 v)) (cs' : Array Value) : SlB (w.setRow g cs') A m l := by
  rcases Nat.eq_zero_or_pos m with h0 | h0
  · exact ⟨⟨h.rd.1, fun h1 => absurd h1 (by omega)⟩, h.len, h.le⟩
  · have hl : 0 < l.length := by rw [← h.len]; exact h0
    obtain ⟨b, off, rfl, _, hc⟩ := h.at_ h0
    refine (KeepS.setRow w g cs').slb h fun k hk e => ?_
    injection hk with hk
    have e2 : b = g := hk.trans e
    subst e2
    have h1 := hc 0 hl
    rw [hb.cell] at h1
    exact hn _ _ h1
theorem ev_nou8 (a b c d : Int) (s1 s2 s3 s4 : ByteArray) : ∀ (i : Nat) (v : Int), (#[Value.int .i64 a, .string s1, .string s2, .string s3, .string s4, .int .i64 b, .int .i64 c, .int .i64 d] : Array Value)[i]? ≠ some (Value.int .u8 v) := by
  intro i v e
  have h2 := Array.mem_of_getElem? e
  simp at h2
section
variable {P : Program} {md : Region.Mode} {ops : Array Oper} {Q : Exit → Act → World → Prop} {S : World → Prop}
theorem wpAnyH_take_d {i d : Nat} {oi : Oper} {v : Value} {fuel : Nat} {listed : Array Bool} {a : Act} {w : World} (hi : ops[i]? = some oi) (hd : oi.dst = some d)
    (hs : Region.noSelect ops = true) (hf : Region.free md ops listed i = true) (hr : (Region.ready md ops listed).contains i = true)
    (hQ : ∀ c a w, Q (.panic c) (a.put oi.dst v) w → Q (.panic c) a w) (hy : YieldsIf P ops S oi v a) (hS : S w)
    (h : wpAnyH P md ops Q S fuel (listed.setIfInBounds i true) (a.put (some d) v) w) : wpAnyH P md ops Q S (fuel + 1) listed a w :=
  wpAnyH_take hi hs hf hr hQ hy hS (by rw [hd]; exact h)
/-- A store that alone may come up next. -/
theorem wpAnyH_store {i g : Nat} {ty t : TypeId} {x y : Operand} {oi : Oper} {fuel : Nat} {listed : Array Bool} {a : Act} {w : World} {cells old : Array Value} (hr : Region.ready md ops listed = [i]) (hi : ops[i]? = some oi) (hgd : oi.guard = none) (hd : oi.dst = none) (ho : oi.op = .store ty x y)
    (hx : a.eval x = .pointer (some ⟨g, 0, none⟩)) (hy : a.eval y = .agg cells) (hg : Blk w g t old) (hc : (P.info? ty).map (·.size) = some cells.size) (hold : old.size = cells.size) (h1 : cells.all (·.oneCell') = true)
    (hS : S (w.setRow g cells)) (h : wpAnyH P md ops Q S fuel (listed.setIfInBounds i true) a (w.setRow g cells)) : wpAnyH P md ops Q S (fuel + 1) listed a w := by
  refine wpAnyH_ready hr (by simp) (AllReadyH.cons hi (fun K hK => ?_) AllReadyH.nil)
  have hw : Region.wanted oi (yielded ops a.tmps) = true := by simp [Region.wanted, hgd]
  rw [if_pos hw]
  refine wp_store_row ty x y ho g cells hx hy t old hg hc hold h1 ?_
  have e : a.put oi.dst undef = a := by rw [hd]; rfl
  rw [e]
  exact hK.out _ _ hS fun _ => h
end
section
variable {w : World} {j : Nat} {S : Nat → Prop} {L : List Ev} {es : List Int} {k : Nat} {ks : List Nat} {bs : List UInt8}
set_option maxHeartbeats 6400000 in
theorem frame_any (hJ : Jr w j S L es k ks bs) (hk : k < 18446744073709551616) {A : Option Addr} {m : Nat} (c : Nat) {l : List UInt8} (hs : SlB w A m l) (hmc : m ≤ c) (hm : m ≤ 1000000000) (hT : PT w) (hN : NS w) :
    Calls Tryz.prog 22 #[.pointer (some ⟨j, 0, none⟩), .slice A m c] w fun e w' => FrR A w' l k e ∧ Ext w w' := by
  obtain ⟨Ae, me, ce, An, mn, cn, Ak, mk, ck, G, h⟩ := hJ
  have x5 : w.cell? ⟨j, 5, none⟩ = some (.int .u64 (k : Int)) := h.c 5 (by omega) rfl
  have HL := Lib.hid hs.len
  have hE0 : Ext w (w.alloc (Obj.cells #[.int .i64 0, .string ⟨#[]⟩, .string ⟨#[]⟩, .string ⟨#[]⟩, .string ⟨#[]⟩, .int .i64 0, .int .i64 0, .int .i64 0] 46)) := (Ext.refl w).alloc _
  have hb0 := Blk.new w 46 #[.int .i64 0, .string ⟨#[]⟩, .string ⟨#[]⟩, .string ⟨#[]⟩, .string ⟨#[]⟩, .int .i64 0, .int .i64 0, .int .i64 0]
  clear h
  go_enter Tryz.func22, Tryz.ntmps22
  go_wp2_with (first
    | (go_at_call 36; refine Hid.out ?_))
  refine Hid.mk_ ((size_any c (hs.ext hE0) hmc hm (hT.ext hE0) (hN.ext hE0)).mono ?_)
  rintro e w1 ⟨hR, hE1⟩
  have hE01 := hE0.trans hE1
  have hb1 := hb0.below hE1 hb0.lt
  obtain ⟨gr, hgr⟩ : ∃ gr, gr = w.heap.size := ⟨_, rfl⟩
  have HGR := Lib.hid hgr
  rw [← hgr] at hb1 ⊢
  have HB1 : Hid (Blk w1 gr 46 #[.int .i64 0, .string ⟨#[]⟩, .string ⟨#[]⟩, .string ⟨#[]⟩, .string ⟨#[]⟩, .int .i64 0, .int .i64 0, .int .i64 0]) := hb1
  clear hb0 hb1 hgr
  rcases hR with ⟨n, hh, rfl⟩ | ⟨n, hh, rfl⟩
  · have HF : Hid ((nextJ l k).2.2 = 4) := nextJ_none hh
    have HBR := HB1
    have HEZ := Lib.hid hE01
    clear hh x5
    have hrb := HBR.out
    have k0 := hrb.cell 0
    have k1 := hrb.cell 1
    have k2 := hrb.cell 2
    have k3 := hrb.cell 3
    have k4 := hrb.cell 4
    have k5 := hrb.cell 5
    have k6 := hrb.cell 6
    have k7 := hrb.cell 7
    have m0 := hrb.frozen 0
    have m1' := hrb.frozen 1
    have m2' := hrb.frozen 2
    have m3' := hrb.frozen 3
    have m4' := hrb.frozen 4
    have m5' := hrb.frozen 5
    have m6' := hrb.frozen 6
    have m7' := hrb.frozen 7
    clear hrb
    go_wp2
    refine bodyPost_ret (results_cell_row4 rfl _ _ gr 46 _ (0, 0) _ rfl ((((((((HBR.out.set_ 0 _).set_ 1 _).set_ 2 _).set_ 3 _).set_ 4 _).set_ 5 _).set_ 6 _).set_ 7 _) Tryz.underlying46 rfl info_ev8) rfl ?_
    refine ⟨.inl ⟨_, by decide, HF.out, ev0, _, _, _, _, _, _, rfl⟩, ?_⟩
    iterate 8 refine Ext.set_ ?_ (by show w.heap.size ≤ gr; rw [HGR.out]; exact Nat.le_refl _) _
    exact HEZ.out
  have hn3 : n ≤ 300000 := (hdrJ_iff.1 hh).1
  have HH := Lib.hid hh
  clear hh
  by_cases hsh : m < 18 + n + 8
  · have hi1 : (m : Int) < 18 + (n : Int) + 8 := by omega
    have HF : Hid ((nextJ l k).2.2 = 4) := nextJ_short HH.out (by rw [← HL.out]; exact hsh)
    have HBR := HB1
    have HEZ := Lib.hid hE01
    clear hsh x5
    have hrb := HBR.out
    have k0 := hrb.cell 0
    have k1 := hrb.cell 1
    have k2 := hrb.cell 2
    have k3 := hrb.cell 3
    have k4 := hrb.cell 4
    have k5 := hrb.cell 5
    have k6 := hrb.cell 6
    have k7 := hrb.cell 7
    have m0 := hrb.frozen 0
    have m1' := hrb.frozen 1
    have m2' := hrb.frozen 2
    have m3' := hrb.frozen 3
    have m4' := hrb.frozen 4
    have m5' := hrb.frozen 5
    have m6' := hrb.frozen 6
    have m7' := hrb.frozen 7
    clear hrb
    go_wp2
    refine bodyPost_ret (results_cell_row4 rfl _ _ gr 46 _ (0, 0) _ rfl ((((((((HBR.out.set_ 0 _).set_ 1 _).set_ 2 _).set_ 3 _).set_ 4 _).set_ 5 _).set_ 6 _).set_ 7 _) Tryz.underlying46 rfl info_ev8) rfl ?_
    refine ⟨.inl ⟨_, by decide, HF.out, ev0, _, _, _, _, _, _, rfl⟩, ?_⟩
    iterate 8 refine Ext.set_ ?_ (by show w.heap.size ≤ gr; rw [HGR.out]; exact Nat.le_refl _) _
    exact HEZ.out
  have hi1 : ¬ (m : Int) < 18 + (n : Int) + 8 := by omega
  have HSH : Hid (¬ l.length < 18 + n + 8) := by show ¬ _; rw [← HL.out]; exact hsh
  obtain ⟨A1, u1, _, _, hs1, _⟩ := cut_run hs (i := 18) (j := 18 + n + 8) (by omega) (by omega) hmc
  obtain ⟨A3, _, u3, _, hs3, hob3⟩ := cut_run hs (i := 18 + n + 8) (j := m) (by omega) (Nat.le_refl _) hmc
  have q1 := fun W => u1 W .i64 .i64 18 (18 + (n : Int) + 8) rfl (by omega)
  have q3 := fun W => u3 W .i64 (18 + (n : Int) + 8) (by omega) rfl
  have e1 : (l.take (18 + n + 8)).drop 18 = (l.drop 18).take (n + 8) := by rw [List.drop_take]; congr 1; omega
  have e3 : (l.take m).drop (18 + n + 8) = l.drop (18 + n + 8) := by rw [List.take_of_length_le (by rw [HL.out]; exact Nat.le_refl _)]
  rw [e1, show 18 + n + 8 - 18 = n + 8 by omega] at hs1
  rw [e3] at hs3
  simp only [show 18 + n + 8 - 18 = n + 8 by omega] at q1
  obtain ⟨m3, hm3⟩ : ∃ m3, m3 = m - (18 + n + 8) := ⟨_, rfl⟩
  obtain ⟨c3, hc3⟩ : ∃ c3, c3 = c - (18 + n + 8) := ⟨_, rfl⟩
  rw [← hm3] at hs3 q3
  rw [← hc3] at q3
  have hmc3 : m3 ≤ c3 := by omega
  obtain ⟨c1, hc1⟩ : ∃ c1, c1 = c - 18 := ⟨_, rfl⟩
  rw [← hc1] at q1
  have hmc1 : n + 8 ≤ c1 := by omega
  have HS3 := Lib.hid hs3
  have HMC3 := Lib.hid hmc3
  have HOB3 : Hid (ob A3 = none ∨ ob A3 = ob A) := hob3
  obtain ⟨⟨p, ob⟩, hoc⟩ : ∃ oc, oc = openR k ((l.drop 18).take (n + 8)) := ⟨_, rfl⟩
  have hop := fun (W : World) (hW : Ext w W) => open_any k c1 hk (hs1.ext hW) hmc1 (by omega)
  rw [← hoc] at hop
  dsimp only at hop
  have HOP := Lib.hid hop
  have x51 := laters (later hE01 x5)
  have HE01 := Lib.hid hE01
  clear u1 u3 e1 e3 hs1 hs3 hob3 hm3 hc3 hc1 hsh hop x5 hmc3 hmc1 hk
  have hw1 : IntKind.i64.wrap (18 + (n : Int)) = 18 + (n : Int) := IntWalk.i64_in _ (by omega)
  have hw2 : IntKind.i64.wrap (18 + (n : Int) + 8) = 18 + (n : Int) + 8 := IntWalk.i64_in _ (by omega)
  go_wp2
  go_region_law
    (go_simp
     go_at_call 37
     refine (HOP.out _ (HE01.out.trans (by first | exact Ext.refl _ | exact (Ext.refl _).drew))).mono ?_
     rintro e w2 ⟨A2, m2, c2, rfl, hs2, hE2'⟩
     have hE2 : Ext w1 w2 := Ext.trans (by first | exact Ext.refl _ | exact (Ext.refl _).drew) hE2')
  have hE02 := HE01.out.trans hE2
  have HBR2 : Hid (Blk w2 gr 46 #[.int .i64 0, .string ⟨#[]⟩, .string ⟨#[]⟩, .string ⟨#[]⟩, .string ⟨#[]⟩, .int .i64 0, .int .i64 0, .int .i64 0]) := HB1.out.below hE2 HB1.out.lt
  by_cases h0 : ob = 0
  case neg =>
    have hi2 : ¬ (ob : Int) = 0 := by omega
    have HF : Hid ((nextJ l k).2.2 = (ob : Int)) := nextJ_sum HH.out HSH.out (by rw [← hoc]) h0
    have HBR := HBR2
    have HEZ := Lib.hid hE02
    have HI2 : Hid ((ob : Int) ≠ 0) := hi2
    clear hoc h0 hs2 x51 q1 q3
    have hrb := HBR.out
    have k0 := hrb.cell 0
    have k1 := hrb.cell 1
    have k2 := hrb.cell 2
    have k3 := hrb.cell 3
    have k4 := hrb.cell 4
    have k5 := hrb.cell 5
    have k6 := hrb.cell 6
    have k7 := hrb.cell 7
    have m0 := hrb.frozen 0
    have m1' := hrb.frozen 1
    have m2' := hrb.frozen 2
    have m3' := hrb.frozen 3
    have m4' := hrb.frozen 4
    have m5' := hrb.frozen 5
    have m6' := hrb.frozen 6
    have m7' := hrb.frozen 7
    clear hrb
    go_wp2
    refine bodyPost_ret (results_cell_row4 rfl _ _ gr 46 _ (0, 0) _ rfl ((((((((HBR.out.set_ 0 _).set_ 1 _).set_ 2 _).set_ 3 _).set_ 4 _).set_ 5 _).set_ 6 _).set_ 7 _) Tryz.underlying46 rfl info_ev8) rfl ?_
    refine ⟨.inl ⟨_, HI2.out, HF.out, ev0, _, _, _, _, _, _, rfl⟩, ?_⟩
    iterate 8 refine Ext.set_ ?_ (by show w.heap.size ≤ gr; rw [HGR.out]; exact Nat.le_refl _) _
    exact HEZ.out
  subst h0
  have HND : Hid (nextJ l k = ((decE p).1, 18 + n + 8, (decE p).2)) := nextJ_dec HH.out HSH.out (by rw [← hoc])
  clear hoc x51 q1
  go_wp2_with (first
    | (go_at_call 38; refine Hid.out ?_))
  refine Hid.mk_ ((jdec_any c2 hs2).mono ?_)
  rintro e w3 ⟨rfl, hE3⟩
  have hE03 := hE02.trans hE3
  have hdc := decE_code2 p
  have hdo : (decE p).2 = 0 → encE (decE p).1 = p := fun h => (decE_ok h).1
  obtain ⟨⟨y0, y1, y2, y3, y4, y5, y6, y7⟩, de, hdl⟩ : ∃ y de, decE p = (y, de) := ⟨_, _, rfl⟩
  have HND2 : Hid (nextJ l k = (⟨y0, y1, y2, y3, y4, y5, y6, y7⟩, 18 + n + 8, de)) := by show _ = _; rw [HND.out, hdl]
  rw [hdl] at hdc hdo ⊢
  dsimp only at hdc hdo ⊢
  unfold evV
  have HDO := Lib.hid hdo
  have HS2 : Hid (SlB w3 A2 m2 p) := hs2.ext hE3
  have HS33 : Hid (SlB w3 A3 m3 (l.drop (18 + n + 8))) := HS3.out.ext hE03
  have HBR3 : Hid (Blk w3 gr 46 #[.int .i64 0, .string ⟨#[]⟩, .string ⟨#[]⟩, .string ⟨#[]⟩, .string ⟨#[]⟩, .int .i64 0, .int .i64 0, .int .i64 0]) := HBR2.out.below hE3 HBR2.out.lt
  have HDC := Lib.hid hdc
  have HE03 := Lib.hid hE03
  obtain ⟨W4, hW4⟩ : ∃ W4, W4 = w3.alloc (Obj.cells #[.int .i64 y0, .string y1, .string y2, .string y3, .string y4, .int .i64 y5, .int .i64 y6, .int .i64 y7] 46) := ⟨_, rfl⟩
  obtain ⟨g4, hg4⟩ : ∃ g4, g4 = w3.heap.size := ⟨_, rfl⟩
  have hE34 : Ext w3 W4 := by rw [hW4]; exact (Ext.refl _).alloc _
  have hy4 : Blk W4 g4 46 #[.int .i64 y0, .string y1, .string y2, .string y3, .string y4, .int .i64 y5, .int .i64 y6, .int .i64 y7] := by rw [hW4, hg4]; exact Blk.new _ _ _
  have HB4 : Hid (Blk W4 gr 46 #[.int .i64 0, .string ⟨#[]⟩, .string ⟨#[]⟩, .string ⟨#[]⟩, .string ⟨#[]⟩, .int .i64 0, .int .i64 0, .int .i64 0]) := HBR3.out.below hE34 HBR3.out.lt
  have HE34 := Lib.hid hE34
  have hgg : gr < g4 := by rw [hg4]; exact HBR3.out.lt
  have hne : gr ≠ g4 := by omega
  have hne2 : g4 ≠ gr := by omega
  clear hdl hdc hdo hs2 hE2 hE3 hE02 hE03 HND hE34
  go_wp2
  rw [← hW4, ← hg4]
  clear hW4 hg4
  have HB4d : Hid (Blk W4.drew gr 46 #[.int .i64 0, .string ⟨#[]⟩, .string ⟨#[]⟩, .string ⟨#[]⟩, .string ⟨#[]⟩, .int .i64 0, .int .i64 0, .int .i64 0]) := HB4.out.drew
  have HG4 : Hid (Blk W4.drew g4 46 #[.int .i64 y0, .string y1, .string y2, .string y3, .string y4, .int .i64 y5, .int .i64 y6, .int .i64 y7]) := hy4.drew
  refine wp_region_held_drew (S := fun w' => Blk w' g4 46 #[.int .i64 y0, .string y1, .string y2, .string y3, .string y4, .int .i64 y5, .int .i64 y6, .int .i64 y7]) (by kernel_rfl) HG4.out ?_
  intro hHeld
  refine wpAnyH_take_d (i := 1) (d := 52) (v := ?_) rfl rfl (by kernel_rfl) (by kernel_rfl) (by kernel_rfl) (fun _ _ _ h => h) (Or.inl ⟨by rfl, ?_⟩) hHeld ?_
  rotate_left
  · rintro w hSw; go_simp; try with_reducible rfl
  simp only [Act.put, List.setIfInBounds_toArray, List.set_cons_zero, List.set_cons_succ]
  refine wpAnyH_take_d (i := 2) (d := 53) (v := ?_) rfl rfl (by kernel_rfl) (by kernel_rfl) (by kernel_rfl) (fun _ _ _ h => h) (Or.inl ⟨by rfl, ?_⟩) hHeld ?_
  rotate_left
  · rintro w hSw; go_simp; try with_reducible rfl
  simp only [Act.put, List.setIfInBounds_toArray, List.set_cons_zero, List.set_cons_succ]
  refine wpAnyH_take_d (i := 3) (d := 54) (v := ?_) rfl rfl (by kernel_rfl) (by kernel_rfl) (by kernel_rfl) (fun _ _ _ h => h) (Or.inl ⟨by rfl, ?_⟩) hHeld ?_
  rotate_left
  · rintro w hSw; go_simp; try with_reducible rfl
  simp only [Act.put, List.setIfInBounds_toArray, List.set_cons_zero, List.set_cons_succ]
  refine wpAnyH_take_d (i := 4) (d := 55) (v := ?_) rfl rfl (by kernel_rfl) (by kernel_rfl) (by kernel_rfl) (fun _ _ _ h => h) (Or.inl ⟨by rfl, ?_⟩) hHeld ?_
  rotate_left
  · rintro w hSw; go_simp; try with_reducible rfl
  simp only [Act.put, List.setIfInBounds_toArray, List.set_cons_zero, List.set_cons_succ]
  refine wpAnyH_take_d (i := 5) (d := 56) (v := ?_) rfl rfl (by kernel_rfl) (by kernel_rfl) (by kernel_rfl) (fun _ _ _ h => h) (Or.inl ⟨by rfl, ?_⟩) hHeld ?_
  rotate_left
  · rintro w hSw; go_simp; try with_reducible rfl
  simp only [Act.put, List.setIfInBounds_toArray, List.set_cons_zero, List.set_cons_succ]
  refine wpAnyH_take_d (i := 6) (d := 57) (v := ?_) rfl rfl (by kernel_rfl) (by kernel_rfl) (by kernel_rfl) (fun _ _ _ h => h) (Or.inl ⟨by rfl, ?_⟩) hHeld ?_
  rotate_left
  · rintro w hSw; go_simp; try with_reducible rfl
  simp only [Act.put, List.setIfInBounds_toArray, List.set_cons_zero, List.set_cons_succ]
  refine wpAnyH_take_d (i := 7) (d := 58) (v := ?_) rfl rfl (by kernel_rfl) (by kernel_rfl) (by kernel_rfl) (fun _ _ _ h => h) (Or.inl ⟨by rfl, ?_⟩) hHeld ?_
  rotate_left
  · rintro w hSw; go_simp; try with_reducible rfl
  simp only [Act.put, List.setIfInBounds_toArray, List.set_cons_zero, List.set_cons_succ]
  refine wpAnyH_take_d (i := 0) (d := 51) (v := .agg #[.int .i64 y0, .string y1, .string y2, .string y3, .string y4, .int .i64 y5, .int .i64 y6, .int .i64 y7]) rfl rfl (by kernel_rfl) (by kernel_rfl) (by kernel_rfl) (fun _ _ _ h => h) (Or.inl ⟨by rfl, ?_⟩) hHeld ?_
  · rintro w hSw
    have z0 : w.cell? ⟨g4, 0, none⟩ = some (.int .i64 y0) := Blk.cell hSw 0
    have z1 : w.cell? ⟨g4, 1, none⟩ = some (.string y1) := Blk.cell hSw 1
    have z2 : w.cell? ⟨g4, 2, none⟩ = some (.string y2) := Blk.cell hSw 2
    have z3 : w.cell? ⟨g4, 3, none⟩ = some (.string y3) := Blk.cell hSw 3
    have z4 : w.cell? ⟨g4, 4, none⟩ = some (.string y4) := Blk.cell hSw 4
    have z5 : w.cell? ⟨g4, 5, none⟩ = some (.int .i64 y5) := Blk.cell hSw 5
    have z6 : w.cell? ⟨g4, 6, none⟩ = some (.int .i64 y6) := Blk.cell hSw 6
    have z7 : w.cell? ⟨g4, 7, none⟩ = some (.int .i64 y7) := Blk.cell hSw 7
    go_simp
    try with_reducible rfl
  simp only [Act.put, List.setIfInBounds_toArray, List.set_cons_zero, List.set_cons_succ]
  refine wpAnyH_store (i := 8) (g := gr) (by kernel_rfl) rfl rfl rfl rfl rfl rfl HB4d.out info_ev8 rfl (by simp [Value.oneCell']) ((KeepS.setRow _ gr _).block g4 HG4.out.lt hne2 |>.trans HG4.out) ?_
  have hHeld := (KeepS.setRow W4.drew gr #[.int .i64 y0, .string y1, .string y2, .string y3, .string y4, .int .i64 y5, .int .i64 y6, .int .i64 y7]).block g4 HG4.out.lt hne2 |>.trans HG4.out
  refine wpAnyH_take_d (i := 9) (d := 5) (v := ?_) rfl rfl (by kernel_rfl) (by kernel_rfl) (by kernel_rfl) (fun _ _ _ h => h) (Or.inl ⟨by rfl, ?_⟩) hHeld ?_
  rotate_left
  · rintro w hSw; go_simp; try with_reducible rfl
  simp only [Act.put, List.setIfInBounds_toArray, List.set_cons_zero, List.set_cons_succ]
  refine wpAnyH_take_d (i := 10) (d := 6) (v := ?_) rfl rfl (by kernel_rfl) (by kernel_rfl) (by kernel_rfl) (fun _ _ _ h => h) (Or.inl ⟨by rfl, ?_⟩) hHeld ?_
  rotate_left
  · rintro w hSw; go_simp; try with_reducible rfl
  simp only [Act.put, List.setIfInBounds_toArray, List.set_cons_zero, List.set_cons_succ]
  refine wpAnyH_take_d (i := 11) (d := 7) (v := ?_) rfl rfl (by kernel_rfl) (by kernel_rfl) (by kernel_rfl) (fun _ _ _ h => h) (Or.inl ⟨by rfl, ?_⟩) hHeld ?_
  rotate_left
  · rintro w hSw; go_simp; try with_reducible rfl
  simp only [Act.put, List.setIfInBounds_toArray, List.set_cons_zero, List.set_cons_succ]
  refine wpAnyH_done (by kernel_rfl) ?_ _
  have HEZ : Hid (Ext w (W4.drew.setRow gr #[.int .i64 y0, .string y1, .string y2, .string y3, .string y4, .int .i64 y5, .int .i64 y6, .int .i64 y7])) := ((HE03.out.trans HE34.out).drew).grown (grown_setRow _ _ _) (fun k hk => by injection hk with hk; rw [← hk, HGR.out]; exact Nat.le_refl _)
  have HSA : Hid (SlB (W4.drew.setRow gr #[.int .i64 y0, .string y1, .string y2, .string y3, .string y4, .int .i64 y5, .int .i64 y6, .int .i64 y7]) A2 m2 p) := (HS2.out.ext HE34.out.drew).setRow_ HB4d.out (ev_nou8 _ _ _ _ _ _ _ _) _
  have HSB : Hid (SlB (W4.drew.setRow gr #[.int .i64 y0, .string y1, .string y2, .string y3, .string y4, .int .i64 y5, .int .i64 y6, .int .i64 y7]) A3 m3 (l.drop (18 + n + 8))) := (HS33.out.ext HE34.out.drew).setRow_ HB4d.out (ev_nou8 _ _ _ _ _ _ _ _) _
  go_wp2
  refine bodyPost_ret (results_cell_row4 rfl _ _ gr 46 _ (0, 0) _ rfl (setRow_heap' HB4d.out _) Tryz.underlying46 rfl info_ev8) rfl ?_
  refine ⟨?_, HEZ.out⟩
  rcases HDC.out with h0 | h0
  · right
    exact ⟨⟨y0, y1, y2, y3, y4, y5, y6, y7⟩, 18 + n + 8, A2, m2, c2, A3, m3, c3, by rw [HND2.out, h0], by rw [h0]; rfl, by rw [HDO.out h0]; exact HSA.out, HSB.out, HMC3.out, HOB3.out⟩
  · left
    exact ⟨4, by decide, by rw [HND2.out, h0], ⟨y0, y1, y2, y3, y4, y5, y6, y7⟩, A2, m2, c2, A3, m3, c3, by rw [h0]; rfl⟩
end
end Go.Proofs.YtoghaehcmbonnaaGreatDoor
