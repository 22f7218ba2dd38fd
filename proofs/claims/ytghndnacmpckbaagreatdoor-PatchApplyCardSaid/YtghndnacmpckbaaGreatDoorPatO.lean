/- The content of a patch: open of the program. -/
import Derived.Test.YtghndnacmpckbaaGreatDoorPatW
import Derived.Test.YtghndnacmpckbaaGreatDoorPatQ
import Derived.Laws.ResultCell
namespace Go.Proofs.YtghndnacmpckbaaGreatDoor
open Go.RowKit
set_option maxRecDepth 100000
attribute [local go_sem] ext_refl_t ext_alloc_t ext_drew_t ext_drewN_t ext_alloc2_t ext_alloc3_t ext_alloc4_t ext_alloc5_t ext_alloc6_t ext_alloc7_t ext_alloc8_t ext_alloc1d_t ext_alloc2d_t ext_alloc3d_t ext_alloc4d_t
theorem info_content : (Tryz.prog.info? 44).map (·.size) = some 5 := by kernel_rfl
theorem results_cell_row_tmpP {P : Program} {fn : Func} {p u : Tmp} {ty : TypeId} (h : fn.results = #[.cell p ty, .tmp u]) (tmps : Array Value) (w : World) (g : Nat) (t : TypeId) (cs : Array Value) (fr : Nat × Nat) (d : TypeDesc)
    (hp : tmps.getD p undef = .pointer (some ⟨g, 0, none⟩)) (hg : w.heap[g]? = some (.cells cs t fr))
    (hu : P.underlying ty = some d) (hd : (match d with | .struct _ | .array _ _ => true | _ => false) = true) (hi : (P.info? ty).map (·.size) = some cs.size) :
    (results fn tmps).run P w = .ok (.tuple #[.agg cs, tmps.getD u undef]) w := by
  rw [results_cell_tmp h, hp]
  simp [asAddr, run_loadVar_row w g t ty cs fr d hg hu hd hi, Result.andThen]
def opC : POp → List Value
  | .cp o n => [.bool false, .int .i64 o, .int .i64 n, .string ⟨#[]⟩]
  | .ins s => [.bool true, .int .i64 0, .int .i64 s.length, .string (str s)]
theorem opC_len (x : POp) : (opC x).length = 4 := by cases x <;> rfl
theorem opC_cell (x : POp) : ∀ u ∈ opC x, u.oneCell' = true := by
  cases x <;> (intro u hu; simp only [opC, List.mem_cons, List.not_mem_nil, or_false] at hu; rcases hu with rfl | rfl | rfl | rfl <;> rfl)
theorem einfo_op : EInfo 42 49 4 40 := EInfo.mk_ (z := .agg #[.bool false, .int .i64 0, .int .i64 0, .string ⟨#[]⟩]) Tryz.underlying42 (by kernel_rfl) rfl (by omega) (by omega)
/-- The content that is being read, and the reader. -/
structure PSt (w0 w : World) (g g6 : Nat) (cs : Array Value) (A : Option Addr) (m c : Nat) (bs : List UInt8) (p : Nat) (f : Bool) : Prop where
  blk : Blk w g6 44 cs
  rd : Rdr w g A m c bs p f
  ext : Ext w0 w
  ne : g6 ≠ g
  alt : obm m A = none ∨ obm m A ≠ some g6
  ge : w0.heap.size ≤ g ∧ w0.heap.size ≤ g6
section
variable {w0 w w' : World} {g g6 gx : Nat} {cs : Array Value} {A : Option Addr} {m c : Nat} {bs : List UInt8} {p p' : Nat} {f f' : Bool}
theorem PSt.call (h : PSt w0 w g g6 cs A m c bs p f) (hR : Rdr w' g A m c bs p' f') (hg : w.grownBy w' (some g)) : PSt w0 w' g g6 cs A m c bs p' f' :=
  ⟨h.blk.grown hg (fun e => by injection e with e; exact h.ne e), hR, h.ext.grown hg (fun k hk => by cases hk; exact h.ge.1), h.ne, h.alt, h.ge⟩
theorem PSt.later (h : PSt w0 w g g6 cs A m c bs p f) (hE : Ext w w') : PSt w0 w' g g6 cs A m c bs p f :=
  ⟨h.blk.below hE h.blk.lt, h.rd.ext hE, h.ext.trans hE, h.ne, h.alt, h.ge⟩
theorem PSt.set_ (h : PSt w0 w g g6 cs A m c bs p f) (k : Nat) (v : Value) : PSt w0 (w.setCell ⟨g6, k, none⟩ v) g g6 (cs.setIfInBounds k v) A m c bs p f :=
  ⟨h.blk.set_ k v, h.rd.kept (grown_setW w ⟨g6, k, none⟩ v) (fun e => by injection e with e; exact h.ne e) h.alt, h.ext.set_ h.ge.2 v, h.ne, h.alt, h.ge⟩
theorem PSt.far (h : PSt w0 w g g6 cs A m c bs p f) (hx : w0.heap.size ≤ gx) (h1 : g6 ≠ gx) (h2 : g ≠ gx) (h3 : obm m A = none ∨ obm m A ≠ some gx) (k : Nat) (v : Value) : PSt w0 (w.setCell ⟨gx, k, none⟩ v) g g6 cs A m c bs p f :=
  ⟨h.blk.far h1 v, h.rd.kept (grown_setW w ⟨gx, k, none⟩ v) (fun e => by injection e with e; exact h2 e.symm) h3, h.ext.set_ hx v, h.ne, h.alt, h.ge⟩
/-- The same, with the operations that were read so far. -/
structure PLp (w0 : World) (b : Nat) (w : World) (g g6 : Nat) (a0 a1 a2 a3 : Value) (A : Option Addr) (m c : Nat) (bs : List UInt8) (p : Nat) (f : Bool) (Ao : Option Addr) (mo co : Nat) (L : List POp) : Prop where
  st : PSt w0 w g g6 #[a0, a1, a2, a3, .slice Ao mo co] A m c bs p f
  own : OsC opC 49 4 w b Ao mo co L
  lt : g < b ∧ g6 < b ∧ (∀ k, obm m A = some k → k < b)
  bw : b ≤ w.heap.size
  w0b : w0.heap.size ≤ b
variable {b : Nat} {a0 a1 a2 a3 : Value} {Ao A2 : Option Addr} {mo co m2 c2 : Nat} {L : List POp}
theorem PLp.call (h : PLp w0 b w g g6 a0 a1 a2 a3 A m c bs p f Ao mo co L) (hR : Rdr w' g A m c bs p' f') (hg : w.grownBy w' (some g)) : PLp w0 b w' g g6 a0 a1 a2 a3 A m c bs p' f' Ao mo co L :=
  ⟨h.st.call hR hg, h.own.kept hg (ob_ne_of_lt h.own.ge h.lt.1), h.lt, Nat.le_trans h.bw hg.size, h.w0b⟩
theorem PLp.later (h : PLp w0 b w g g6 a0 a1 a2 a3 A m c bs p f Ao mo co L) (hE : Ext w w') : PLp w0 b w' g g6 a0 a1 a2 a3 A m c bs p f Ao mo co L :=
  ⟨h.st.later hE, h.own.ext hE, h.lt, Nat.le_trans h.bw hE.size_le, h.w0b⟩
theorem PLp.far (h : PLp w0 b w g g6 a0 a1 a2 a3 A m c bs p f Ao mo co L) (hx : b ≤ gx) (ho : ob Ao = none ∨ ob Ao ≠ some gx) (k : Nat) (v : Value) : PLp w0 b (w.setCell ⟨gx, k, none⟩ v) g g6 a0 a1 a2 a3 A m c bs p f Ao mo co L :=
  ⟨h.st.far (Nat.le_trans h.w0b hx) (by have := h.lt.2.1; omega) (by have := h.lt.1; omega) (by
    cases hm : obm m A with
    | none => exact .inl rfl
    | some j => exact .inr (fun e => by injection e with e; have := h.lt.2.2 j hm; omega)) k v, h.own.kept (grown_setW w ⟨gx, k, none⟩ v) ho, h.lt, Nat.le_trans h.bw (grown_setW w ⟨gx, k, none⟩ v).size, h.w0b⟩
theorem PLp.app (h : PLp w0 b w g g6 a0 a1 a2 a3 A m c bs p f Ao mo co L) {x : POp} (ho : OsC opC 49 4 w' b A2 m2 c2 (L ++ [x])) (hg : w.grownBy w' (ob Ao)) :
    PLp w0 b (w'.setCell ⟨g6, 4, none⟩ (.slice A2 m2 c2)) g g6 a0 a1 a2 a3 A m c bs p f A2 m2 c2 (L ++ [x]) := by
  have hA6 : ∀ k, ob Ao = some k → b ≤ k := h.own.ge
  have h1 : PSt w0 w' g g6 #[a0, a1, a2, a3, .slice Ao mo co] A m c bs p f :=
    ⟨h.st.blk.grown hg (fun e => by have := hA6 g6 e.symm; have := h.lt.2.1; omega), h.st.rd.kept hg (fun e => by have := hA6 g e; have := h.lt.1; omega) (by
      cases hm : obm m A with
      | none => exact .inl rfl
      | some j => exact .inr (fun e => by have h1 := h.lt.2.2 j hm; have h2 := hA6 j e.symm; omega)), h.st.ext.grown hg (fun k hk => Nat.le_trans h.w0b (hA6 k hk)), h.st.ne, h.st.alt, h.st.ge⟩
  exact ⟨h1.set_ 4 _, ho.kept (grown_setW w' ⟨g6, 4, none⟩ _) (ob_ne_of_lt ho.ge h.lt.2.1), h.lt, Nat.le_trans h.bw (Nat.le_trans hg.size (grown_setW w' ⟨g6, 4, none⟩ (.slice A2 m2 c2)).size), h.w0b⟩
theorem PLp.blkw (h : PLp w0 b w g g6 a0 a1 a2 a3 A m c bs p f Ao mo co L) (hg : w.grownBy w' (ob Ao)) : Blk w' g6 44 #[a0, a1, a2, a3, .slice Ao mo co] :=
  h.st.blk.grown hg (fun e => by have := h.own.ge g6 e.symm; have := h.lt.2.1; omega)
end
def zeroC : Array Value := #[.int .i64 0, .int .i64 0, .int .u64 0, .int .u64 0, .slice none 0 0]
/-- What open returns. -/
def OpenS (w' : World) (l : List UInt8) (cells : Array Value) (code : Int) : Prop :=
  ((openR pkey l).2 ≠ 0 ∧ cells = zeroC ∧ code = ((openR pkey l).2 : Nat)) ∨ ((openR pkey l).2 = 0 ∧ ((DecO (openR pkey l).1 none ∧ cells = zeroC ∧ code = 4) ∨
    ∃ (d : PC) (a b : Nat) (A : Option Addr) (m c : Nat), DecO (openR pkey l).1 (some (d, a, b)) ∧ cells = #[.int .i64 d.old, .int .i64 d.new, .int .u64 a, .int .u64 b, .slice A m c] ∧ SlC opC 4 w' A m d.ops ∧ m ≤ c ∧ code = 0))
theorem hdv_t {st : Int → Int → List UInt8 → Nat → Bool → Int × Nat × Bool} {bs : List UInt8} {t : List UInt8} {p : Nat} {f : Bool} (h : stepS bs 0 false = (t, p, f)) : (hdv st bs).t = t := by
  unfold hdv
  simp only [h]
theorem title_neq {t : List UInt8} (h : ¬ t = titleB) : ((str t).toList == [99, 97, 108, 113, 117, 101, 45, 112, 97, 116, 99, 104]) = false := by
  rw [ByteArray.toList_eq]
  show (bys (str t) == titleB) = false
  rw [bys_str]
  exact beq_eq_false_iff_ne.2 h
theorem titleB_str : str titleB = ⟨#[99, 97, 108, 113, 117, 101, 45, 112, 97, 116, 99, 104]⟩ := rfl
section
variable {w : World}
set_option maxHeartbeats 25600000 in
theorem popen_any {A : Option Addr} {m : Nat} (c : Nat) {l : List UInt8} (hs : SlB w A m l) (hmc : m ≤ c) (hm : m ≤ 1000000) (hT : Tb w) :
    Calls Tryz.prog 17 #[.slice A m c] w fun e w' => (∃ (cells : Array Value) (code : Int), e = .returned (.tuple #[.agg cells, .int .i64 code]) ∧ OpenS w' l cells code) ∧ Ext w w' := by
  have HML := Lib.hid hs.len
  obtain ⟨W0, hW0⟩ : ∃ W0, W0 = w.alloc (Obj.cells #[.int .i64 0, .int .i64 0, .int .u64 0, .int .u64 0, .slice none 0 0] 44) := ⟨_, rfl⟩
  have hb0 : Blk W0 w.heap.size 44 #[.int .i64 0, .int .i64 0, .int .u64 0, .int .u64 0, .slice none 0 0] := by rw [hW0]; exact Blk.new w _ _
  have hE0 : Ext w W0 := by rw [hW0]; exact (Ext.refl w).alloc _
  obtain ⟨gr, hgr⟩ : ∃ gr, gr = w.heap.size := ⟨_, rfl⟩
  have HGR := Lib.hid hgr
  go_enter Tryz.func17, Tryz.ntmps17
  go_wp2_with (first
    | (go_at_call 32; refine Hid.out ?_))
  rw [← hW0, ← hgr]
  rw [← hgr] at hb0
  refine Hid.mk_ ((open_key c (hs.ext hE0) hmc (by omega)).mono ?_)
  rintro e w1 ⟨A1, m1, c1, rfl, hs1, hE1⟩
  obtain ⟨bs, oc, hOR⟩ : ∃ bs oc, openR pkey l = (bs, oc) := ⟨(openR pkey l).1, (openR pkey l).2, rfl⟩
  have hbl := openR_len pkey l
  rw [hOR] at hs1 hbl ⊢
  dsimp only at hs1 hbl ⊢
  have HOR := Lib.hid hOR
  clear hW0 hgr hOR
  have HBL : Hid (bs.length ≤ 1000000) := by show _ ≤ _; have hml := HML.out; omega
  clear hbl
  by_cases hz : oc = 0
  case neg =>
    have hzb : ((oc : Int) != 0) = true := by rw [bne_iff_ne]; omega
    have HOS : Hid (∀ W, OpenS W l zeroC (oc : Int)) := fun W => .inl ⟨by rw [HOR.out]; exact hz, rfl, by rw [HOR.out]⟩
    clear hz
    have hrb := hb0.below hE1 hb0.lt
    have k0 := hrb.cell 0
    have k1 := hrb.cell 1
    have k2 := hrb.cell 2
    have k3 := hrb.cell 3
    have k4 := hrb.cell 4
    have k5 := hrb.frozen 0
    have k6 := hrb.frozen 1
    have k7 := hrb.frozen 2
    have k8 := hrb.frozen 3
    have k9 := hrb.frozen 4
    have HBR : Hid (Blk _ gr 44 _) := hrb
    have HEZ : Hid (Ext w _) := hE0.trans hE1
    clear hrb hb0
    go_wp2
    refine bodyPost_ret (results_cell_row_tmpP rfl _ _ gr 44 #[.int .i64 0, .int .i64 0, .int .u64 0, .int .u64 0, .slice none 0 0] (0, 0) _ rfl (((((HBR.out.set_ 0 _).set_ 1 _).set_ 2 _).set_ 3 _).set_ 4 _) Tryz.underlying44 rfl info_content) rfl ?_
    refine ⟨⟨_, _, rfl, HOS.out _⟩, ?_⟩
    iterate 5 refine Ext.set_ ?_ (by show w.heap.size ≤ gr; rw [HGR.out]; exact Nat.le_refl _) _
    exact HEZ.out
  case pos =>
  subst hz
  have HNO : Hid (DecO bs none → ∀ W, OpenS W l zeroC 4) := fun h W => .inr ⟨by rw [HOR.out], .inl ⟨by rw [HOR.out]; exact h, rfl, rfl⟩⟩
  obtain ⟨W6, hW6⟩ : ∃ W6, W6 = w1.alloc (Obj.cells #[.int .i64 0, .int .i64 0, .int .u64 0, .int .u64 0, .slice none 0 0] 44) := ⟨_, rfl⟩
  have hb6 : Blk W6 w1.heap.size 44 #[.int .i64 0, .int .i64 0, .int .u64 0, .int .u64 0, .slice none 0 0] := by rw [hW6]; exact Blk.new w1 _ _
  have hE6 : Ext w1 W6 := by rw [hW6]; exact (Ext.refl w1).alloc _
  obtain ⟨g6, hg6⟩ : ∃ g6, g6 = w1.heap.size := ⟨_, rfl⟩
  have hgr6 : gr < g6 := by rw [hg6]; exact Nat.lt_of_lt_of_le hb0.lt hE1.size_le
  go_wp2_with (first
    | (go_at_call 33; refine Hid.out ?_))
  rw [← hW6, ← hg6]
  rw [← hg6] at hb6
  refine Hid.mk_ ((read_any c1 (hs1.ext hE6)).mono ?_)
  rintro e w2 ⟨g, A2, m2, c2, rfl, hR2, hE2, hg2, hA2⟩
  have h6lt := hb6.lt
  have HG6 : Hid (g6 < W6.heap.size ∧ W6.heap.size ≤ g) := ⟨h6lt, hg2⟩
  have hI2 : PSt w1 w2 g g6 #[.int .i64 0, .int .i64 0, .int .u64 0, .int .u64 0, .slice none 0 0] A2 m2 c2 bs 0 false :=
    ⟨hb6.below hE2 h6lt, hR2, hE6.trans hE2, by omega, by
      cases hm : obm m2 A2 with
      | none => exact .inl rfl
      | some k => exact .inr (fun e => by injection e with e; have := hA2 k (obm_ob hm); omega), by have := hE6.size_le; omega, by omega⟩
  have HE01 : Hid (Ext W0 w1) := hE1
  have HT1 : Hid (Tb w1) := hT.ext (hE0.trans hE1)
  clear hW6 hg6 hb6 hE6 hs1 hE2 hg2 hA2 hR2 h6lt hE1
  go_wp2_with (first
    | (go_at_call 34; refine Hid.out ?_))
  refine Hid.mk_ ((rString hI2.rd).mono ?_)
  rintro e w3 ⟨rfl, hR3, hg3⟩
  obtain ⟨t, p1, f1, hS⟩ : ∃ s p' f', stepS bs 0 false = (s, p', f') := ⟨_, _, _, rfl⟩
  rw [hS] at hR3 ⊢
  dsimp only at hR3 ⊢
  have HS1 := Lib.hid hS
  have hI3 := hI2.call hR3 hg3
  clear hS hR3 hg3 hI2
  by_cases ht : t = titleB
  case neg =>
    have HD := HNO.out (no_title stB_ok (v := hdv stepB bs) rfl (by rw [hdv_t HS1.out]; exact ht))
    have HOS := Lib.hid HD
    obtain ⟨r, hr⟩ : ∃ r, r = str t := ⟨_, rfl⟩
    have hpb := title_neq ht
    rw [← hr] at hpb
    rw [← hr]
    have hEx := HE01.out.trans hI3.ext
    clear hr ht HD hI3
    have hrb := hb0.below hEx hb0.lt
    have k0 := hrb.cell 0
    have k1 := hrb.cell 1
    have k2 := hrb.cell 2
    have k3 := hrb.cell 3
    have k4 := hrb.cell 4
    have k5 := hrb.frozen 0
    have k6 := hrb.frozen 1
    have k7 := hrb.frozen 2
    have k8 := hrb.frozen 3
    have k9 := hrb.frozen 4
    have HBR : Hid (Blk _ gr 44 _) := hrb
    have HEZ : Hid (Ext w _) := hE0.trans hEx
    clear hrb hb0
    go_wp2
    refine bodyPost_ret (results_cell_row_tmpP rfl _ _ gr 44 #[.int .i64 0, .int .i64 0, .int .u64 0, .int .u64 0, .slice none 0 0] (0, 0) _ rfl (((((HBR.out.set_ 0 _).set_ 1 _).set_ 2 _).set_ 3 _).set_ 4 _) Tryz.underlying44 rfl info_content) rfl ?_
    refine ⟨⟨_, _, rfl, HOS.out _⟩, ?_⟩
    iterate 5 refine Ext.set_ ?_ (by show w.heap.size ≤ gr; rw [HGR.out]; exact Nat.le_refl _) _
    exact HEZ.out
  case pos =>
  rw [ht, titleB_str]
  have HTT := Lib.hid ht
  clear ht
  go_wp2_with (first
    | (go_at_call 35; refine Hid.out ?_))
  refine Hid.mk_ ((rBounded 0 (1000000) hI3.rd).mono ?_)
  rintro e w4 ⟨rfl, hR4, hg4⟩
  have hbd := stepB_rng bs p1 f1 (hi := 1000000) (by omega)
  obtain ⟨old, p4, f4, hS⟩ : ∃ n p f', stepB 0 (1000000) bs p1 f1 = (n, p, f') := ⟨_, _, _, rfl⟩
  rw [hS] at hR4 hbd ⊢
  dsimp only at hR4 hbd ⊢
  obtain ⟨hlo4, hhi4⟩ := hbd
  have HS4 := Lib.hid hS
  have HK4 := Lib.hid (stepB_keep hS)
  have hI4 := hI3.call hR4 hg4
  clear hS hR4 hg4 hI3
  have s_5 : _ = some (.int .i64 0 : Value) := hI4.blk.cell 0
  have t_5 := hI4.blk.frozen 0
  have hI5 := hI4.set_ 0 (.int .i64 old : Value)
  clear hI4
  go_wp2_with (first
    | (go_at_call 34; refine Hid.out ?_))
  refine Hid.mk_ ((rString hI5.rd).mono ?_)
  rintro e w6 ⟨rfl, hR6, hg6⟩
  have hle := stepS_leP bs p4 f4
  obtain ⟨os, p6, f6, hS⟩ : ∃ s p' f', stepS bs p4 f4 = (s, p', f') := ⟨_, _, _, rfl⟩
  rw [hS] at hR6 hle ⊢
  dsimp only at hR6 hle ⊢
  have HLE6 : Hid ((os).length ≤ 1000000) := Nat.le_trans hle HBL.out
  have HS6 := Lib.hid hS
  have HK6 := Lib.hid (stepS_keep hS)
  have hI6 := hI5.call hR6 hg6
  clear hS hle hR6 hg6 hI5
  go_wp2_with (first
    | (go_at_call 36; refine Hid.out ?_))
  refine Hid.mk_ ((dparse_any (str os) (by rw [str_size]; exact HLE6.out) ((HT1.out.ext hI6.ext).tz) ((HT1.out.ext hI6.ext).ne)).mono ?_)
  rintro e w7 ⟨a1, ca, rfl, hpa, hE7⟩
  have hI7 := hI6.later hE7
  have HPA := Lib.hid hpa
  clear hpa hE7 hI6
  have s_8 : _ = some (.int .u64 0 : Value) := hI7.blk.cell 2
  have t_8 := hI7.blk.frozen 2
  have hI8 := hI7.set_ 2 (.int .u64 a1 : Value)
  clear hI7
  go_wp2_with (first
    | (go_at_call 35; refine Hid.out ?_))
  refine Hid.mk_ ((rBounded 0 (1000000) hI8.rd).mono ?_)
  rintro e w9 ⟨rfl, hR9, hg9⟩
  have hbd := stepB_rng bs p6 f6 (hi := 1000000) (by omega)
  obtain ⟨new, p9, f9, hS⟩ : ∃ n p f', stepB 0 (1000000) bs p6 f6 = (n, p, f') := ⟨_, _, _, rfl⟩
  rw [hS] at hR9 hbd ⊢
  dsimp only at hR9 hbd ⊢
  obtain ⟨hlo9, hhi9⟩ := hbd
  have HS9 := Lib.hid hS
  have HK9 := Lib.hid (stepB_keep hS)
  have hI9 := hI8.call hR9 hg9
  clear hS hR9 hg9 hI8
  have s_10 : _ = some (.int .i64 0 : Value) := hI9.blk.cell 1
  have t_10 := hI9.blk.frozen 1
  have hI10 := hI9.set_ 1 (.int .i64 new : Value)
  clear hI9
  go_wp2_with (first
    | (go_at_call 34; refine Hid.out ?_))
  refine Hid.mk_ ((rString hI10.rd).mono ?_)
  rintro e w11 ⟨rfl, hR11, hg11⟩
  have hle := stepS_leP bs p9 f9
  obtain ⟨ns, p11, f11, hS⟩ : ∃ s p' f', stepS bs p9 f9 = (s, p', f') := ⟨_, _, _, rfl⟩
  rw [hS] at hR11 hle ⊢
  dsimp only at hR11 hle ⊢
  have HLE11 : Hid ((ns).length ≤ 1000000) := Nat.le_trans hle HBL.out
  have HS11 := Lib.hid hS
  have HK11 := Lib.hid (stepS_keep hS)
  have hI11 := hI10.call hR11 hg11
  clear hS hle hR11 hg11 hI10
  go_wp2_with (first
    | (go_at_call 36; refine Hid.out ?_))
  refine Hid.mk_ ((dparse_any (str ns) (by rw [str_size]; exact HLE11.out) ((HT1.out.ext hI11.ext).tz) ((HT1.out.ext hI11.ext).ne)).mono ?_)
  rintro e w12 ⟨b1, cb, rfl, hpb, hE12⟩
  have hI12 := hI11.later hE12
  have HPB := Lib.hid hpb
  clear hpb hE12 hI11
  have s_13 : _ = some (.int .u64 0 : Value) := hI12.blk.cell 3
  have t_13 := hI12.blk.frozen 3
  have hI13 := hI12.set_ 3 (.int .u64 b1 : Value)
  clear hI12
  go_wp2_with (first
    | (go_at_call 35; refine Hid.out ?_))
  refine Hid.mk_ ((rBounded 0 (100000) hI13.rd).mono ?_)
  rintro e w14 ⟨rfl, hR14, hg14⟩
  have hbd := stepB_rng bs p11 f11 (hi := 100000) (by omega)
  obtain ⟨n, p14, f14, hS⟩ : ∃ n p f', stepB 0 (100000) bs p11 f11 = (n, p, f') := ⟨_, _, _, rfl⟩
  rw [hS] at hR14 hbd ⊢
  dsimp only at hR14 hbd ⊢
  obtain ⟨hlo14, hhi14⟩ := hbd
  have HS14 := Lib.hid hS
  have HK14 := Lib.hid (stepB_keep hS)
  have hI14 := hI13.call hR14 hg14
  clear hS hR14 hg14 hI13
  have HV : Hid (hdv stepB bs = ⟨titleB, old, os, new, ns, n, p14, f14⟩) := by
    show _ = _
    rw [hdv_eq HS1.out HS4.out HS6.out HS9.out HS11.out HS14.out, HTT.out]
  have hE014 := HE01.out.trans hI14.ext
  rcases HPA.out.code with rfl | ⟨rfl, rfl⟩
  case inr =>
    have HOS := Lib.hid (HNO.out (no_os stB_ok HV.out HPA.out (by decide)))
    clear hI14
    have hrb := hb0.below hE014 hb0.lt
    have k0 := hrb.cell 0
    have k1 := hrb.cell 1
    have k2 := hrb.cell 2
    have k3 := hrb.cell 3
    have k4 := hrb.cell 4
    have k5 := hrb.frozen 0
    have k6 := hrb.frozen 1
    have k7 := hrb.frozen 2
    have k8 := hrb.frozen 3
    have k9 := hrb.frozen 4
    have HBR : Hid (Blk _ gr 44 _) := hrb
    have HEZ : Hid (Ext w _) := hE0.trans hE014
    clear hrb hb0
    go_wp2
    refine bodyPost_ret (results_cell_row_tmpP rfl _ _ gr 44 #[.int .i64 0, .int .i64 0, .int .u64 0, .int .u64 0, .slice none 0 0] (0, 0) _ rfl (((((HBR.out.set_ 0 _).set_ 1 _).set_ 2 _).set_ 3 _).set_ 4 _) Tryz.underlying44 rfl info_content) rfl ?_
    refine ⟨⟨_, _, rfl, HOS.out _⟩, ?_⟩
    iterate 5 refine Ext.set_ ?_ (by show w.heap.size ≤ gr; rw [HGR.out]; exact Nat.le_refl _) _
    exact HEZ.out
  case inl =>
  rcases HPB.out.code with rfl | ⟨rfl, rfl⟩
  case inr =>
    have HOS := Lib.hid (HNO.out (no_ns stB_ok HV.out HPB.out (by decide)))
    clear hI14
    have hrb := hb0.below hE014 hb0.lt
    have k0 := hrb.cell 0
    have k1 := hrb.cell 1
    have k2 := hrb.cell 2
    have k3 := hrb.cell 3
    have k4 := hrb.cell 4
    have k5 := hrb.frozen 0
    have k6 := hrb.frozen 1
    have k7 := hrb.frozen 2
    have k8 := hrb.frozen 3
    have k9 := hrb.frozen 4
    have HBR : Hid (Blk _ gr 44 _) := hrb
    have HEZ : Hid (Ext w _) := hE0.trans hE014
    clear hrb hb0
    go_wp2
    refine bodyPost_ret (results_cell_row_tmpP rfl _ _ gr 44 #[.int .i64 0, .int .i64 0, .int .u64 0, .int .u64 0, .slice none 0 0] (0, 0) _ rfl (((((HBR.out.set_ 0 _).set_ 1 _).set_ 2 _).set_ 3 _).set_ 4 _) Tryz.underlying44 rfl info_content) rfl ?_
    refine ⟨⟨_, _, rfl, HOS.out _⟩, ?_⟩
    iterate 5 refine Ext.set_ ?_ (by show w.heap.size ≤ gr; rw [HGR.out]; exact Nat.le_refl _) _
    exact HEZ.out
  case inl =>
  obtain ⟨n0, rfl⟩ : ∃ n0 : Nat, n = n0 := ⟨n.toNat, by omega⟩
  have HG := hI14.rd.alt
  have h14 := hI14.blk.lt
  have h14g := hI14.rd.blk.lt
  have hL0 : PLp w1 w14.heap.size w14 g g6 (.int .i64 old) (.int .i64 new) (.int .u64 a1) (.int .u64 b1) A2 m2 c2 bs p14 f14 none 0 0 [] :=
    ⟨hI14, OsC.nil_ opC_len opC_cell, ⟨h14g, h14, HG⟩, Nat.le_refl _, hI14.ext.size_le⟩
  have HOI : Hid (OInv bs p14 0 [] p14 f14) := OInv.start stB_ok HV.out
  have HGR14 : Hid (gr < w14.heap.size) := by show _ < _; omega
  clear HG h14 h14g hI14
  have e1 : _ = some (.int .i64 new : Value) := hL0.st.blk.cell 1
  go_wp2
  clear e1
  go_loopw [11, 12, 60] (fun lf _ i wr => ∃ (q : Nat) (Ao : Option Addr) (mo co : Nat) (L : List POp) (p : Nat) (ff : Bool) (wl : Int), q ≤ n0 ∧ lf = .int .i64 wl ∧ i = .int .i64 q ∧ Hid (OInv bs p14 q L p ff) ∧
      Hid (PLp w1 w14.heap.size wr g g6 (.int .i64 old) (.int .i64 new) (.int .u64 a1) (.int .u64 b1) A2 m2 c2 bs p ff Ao mo co L) ∧ 0 ≤ wl ∧ Hid (sumO L + wl = new) ∧ Hid (∀ x ∈ L, OpOk old x) ∧ Hid (ff = false → f14 = false) ∧ mo = q ∧ wl ≤ 1000000) (fun _ _ i _ => n0 - (intOf i).toNat)
  case atStart => exact ⟨0, none, 0, 0, [], p14, f14, new, Nat.zero_le _, rfl, rfl, HOI, hL0, hlo9, by show 0 + new = new; omega, (fun x hx => by cases hx), id, rfl, hhi9⟩
  case round =>
    obtain ⟨q, Ao, mo, co, L, p, ff, wl, hq, rfl, rfl, HO, HL, hwl, HSUM, HALL, HFF, rfl, hwl2⟩ := hrel
    by_cases hlt : mo < n0
    · have hi1 : (mo : Int) < (n0 : Int) := by omega
      have HN : Hid (∀ c a b, bs = encP c → ProperC c a b → mo < c.ops.length) := hn_of stB_ok HV.out hi1
      have HO2 : Hid (∀ c a b, bs = encP c → ProperC c a b → old = c.old) := ho_of stB_ok HV.out
      obtain ⟨Wx, hWx⟩ : ∃ Wx, Wx = wr.alloc (Obj.cells #[.bool false, .int .i64 0, .int .i64 0, .string ⟨#[]⟩] 49) := ⟨_, rfl⟩
      have hbx : Blk Wx wr.heap.size 49 #[.bool false, .int .i64 0, .int .i64 0, .string ⟨#[]⟩] := by rw [hWx]; exact Blk.new wr _ _
      have hEx : Ext wr Wx := by rw [hWx]; exact (Ext.refl wr).alloc _
      obtain ⟨gx, hgx⟩ : ∃ gx, gx = wr.heap.size := ⟨_, rfl⟩
      have hLx := HL.out.later hEx
      have hgb : w14.heap.size ≤ gx := by rw [hgx]; exact HL.out.bw
      have hox : ob Ao = none ∨ ob Ao ≠ some gx := by
        cases hA : ob Ao with
        | none => exact .inl rfl
        | some k => exact .inr (fun e => by injection e with e; have := HL.out.own.lt k hA; omega)
      have hxg : some gx ≠ some g := fun e => by injection e with e; have := hLx.lt.1; omega
      go_wp2_with (first
        | (go_at_call 35; refine Hid.out ?_))
      rw [← hWx, ← hgx]
      rw [← hgx] at hbx
      clear hWx hgx HL hEx
      refine Hid.mk_ ((rBounded 0 1 hLx.st.rd).mono ?_)
      rintro e wa ⟨rfl, hR, hg⟩
      have hbd := stepB_rng bs p ff (hi := 1) (by omega)
      obtain ⟨k, pa, fa, hS⟩ : ∃ n p' f', stepB 0 1 bs p ff = (n, p', f') := ⟨_, _, _, rfl⟩
      rw [hS] at hR hbd ⊢
      dsimp only at hR hbd ⊢
      obtain ⟨hlok, hhik⟩ := hbd
      have HSA := Lib.hid hS
      have hLa := hLx.call hR hg
      have hba := hbx.grown hg hxg
      have s0 : wa.cell? ⟨gx, 0, none⟩ = some (.bool false) := hba.cell 0
      have t0 := hba.frozen 0
      clear hS hR hg hLx hbx
      by_cases hk1 : k = 1
      · subst hk1
        have hLb := hLa.far hgb hox 0 (.bool true)
        have hbb := hba.set_ 0 (.bool true)
        clear hLa hba
        go_wp2_with (first
          | (go_at_call 34; refine Hid.out ?_))
        refine Hid.mk_ ((rString hLb.st.rd).mono ?_)
        rintro e wb ⟨rfl, hR, hg⟩
        have hle := stepS_leP bs pa fa
        obtain ⟨s, pb, fb, hS⟩ : ∃ s p' f', stepS bs pa fa = (s, p', f') := ⟨_, _, _, rfl⟩
        rw [hS] at hR hle ⊢
        dsimp only at hR hle ⊢
        have HOI2 : Hid (OInv bs p14 (mo + 1) (L ++ [.ins s]) pb fb) := HO.out.ins stB_ok HN.out HSA.out rfl hS
        have HFF2 : Hid (fb = false → f14 = false) := fun h => HFF.out (stepB_keep HSA.out (stepS_keep hS h))
        obtain ⟨ln, hln⟩ : ∃ ln : Int, ln = (s.length : Int) := ⟨_, rfl⟩
        have hsz : ((str s).size : Int) = ln := by rw [str_size, hln]
        obtain ⟨r, hr⟩ : ∃ r, r = str s := ⟨_, rfl⟩
        have HLN : Hid (oLen (.ins s) = ln) := hln.symm
        have HOC : Hid (opC (.ins s) = [.bool true, .int .i64 0, .int .i64 ln, .string r]) := by show _ = _; rw [hln, hr]; rfl
        have hln6 : 0 ≤ ln ∧ ln ≤ 1000000 := by have := HBL.out; omega
        have HOK : Hid (1 ≤ ln → OpOk old (.ins s)) := fun h => by show 1 ≤ s.length; omega
        rw [← hr] at hsz ⊢
        have hLc := hLb.call hR hg
        have hbc := hbb.grown hg hxg
        have s3 : wb.cell? ⟨gx, 3, none⟩ = some (.string ⟨#[]⟩) := hbc.cell 3
        have t3 := hbc.frozen 3
        have s2 : wb.cell? ⟨gx, 2, none⟩ = some (.int .i64 0) := hbc.cell 2
        have t2 := hbc.frozen 2
        have hLd := (hLc.far hgb hox 3 (.string r)).far hgb hox 2 (.int .i64 ln)
        have hbd := (hbc.set_ 3 (.string r)).set_ 2 (.int .i64 ln)
        clear hS hR hg hle hln hr hLb hbb hLc hbc s0 t0
        go_upto_region 26 with fail
        obtain ⟨Wd, hWd⟩ : ∃ Wd, Wd = (wb.setCell ⟨gx, 3, none⟩ (.string r)).setCell ⟨gx, 2, none⟩ (.int .i64 ln) := ⟨_, rfl⟩
        rw [← hWd] at hLd hbd ⊢
        clear hWd
        have hbx : Blk Wd gx 49 #[.bool true, .int .i64 0, .int .i64 ln, .string r] := hbd
        have c2 : Wd.cell? ⟨gx, 2, none⟩ = some (.int .i64 ln) := hbx.cell 2
        clear hbd
        by_cases h1 : ln < 1
        · have HOS := Lib.hid (HNO.out (HOI2.out.refuse stB_ok HV.out (.inl (by rw [HLN.out]; exact h1))))
          have hEx := HE01.out.trans hLd.st.ext
          have hbo : decide (ln < 1) = true := decide_eq_true h1
          clear hLd hbx
          have hrb := hb0.below hEx hb0.lt
          have k0 := hrb.cell 0
          have k1 := hrb.cell 1
          have k2 := hrb.cell 2
          have k3 := hrb.cell 3
          have k4 := hrb.cell 4
          have k5 := hrb.frozen 0
          have k6 := hrb.frozen 1
          have k7 := hrb.frozen 2
          have k8 := hrb.frozen 3
          have k9 := hrb.frozen 4
          have HBR : Hid (Blk _ gr 44 _) := hrb
          have HEZ : Hid (Ext w _) := hE0.trans hEx
          clear hrb hb0
          go_wp2
          refine bodyPost_ret (results_cell_row_tmpP rfl _ _ gr 44 #[.int .i64 0, .int .i64 0, .int .u64 0, .int .u64 0, .slice none 0 0] (0, 0) _ rfl (((((HBR.out.set_ 0 _).set_ 1 _).set_ 2 _).set_ 3 _).set_ 4 _) Tryz.underlying44 rfl info_content) rfl ?_
          refine ⟨⟨_, _, rfl, HOS.out _⟩, ?_⟩
          iterate 5 refine Ext.set_ ?_ (by show w.heap.size ≤ gr; rw [HGR.out]; exact Nat.le_refl _) _
          exact HEZ.out
        by_cases h2 : wl - ln < 0
        · have hnew : new - sumO L = wl := by have := HSUM.out; omega
          have HOS := Lib.hid (HNO.out (HOI2.out.refuse stB_ok HV.out (.inr (by rw [HLN.out]; show new - sumO L - ln < 0; rw [hnew]; exact h2))))
          have hEx := HE01.out.trans hLd.st.ext
          have hbo : decide (ln < 1) = false := decide_eq_false h1
          have hbp : decide (wl - ln < 0) = true := decide_eq_true h2
          clear hLd hbx hnew
          have hrb := hb0.below hEx hb0.lt
          have k0 := hrb.cell 0
          have k1 := hrb.cell 1
          have k2 := hrb.cell 2
          have k3 := hrb.cell 3
          have k4 := hrb.cell 4
          have k5 := hrb.frozen 0
          have k6 := hrb.frozen 1
          have k7 := hrb.frozen 2
          have k8 := hrb.frozen 3
          have k9 := hrb.frozen 4
          have HBR : Hid (Blk _ gr 44 _) := hrb
          have HEZ : Hid (Ext w _) := hE0.trans hEx
          clear hrb hb0
          go_wp2
          refine bodyPost_ret (results_cell_row_tmpP rfl _ _ gr 44 #[.int .i64 0, .int .i64 0, .int .u64 0, .int .u64 0, .slice none 0 0] (0, 0) _ rfl (((((HBR.out.set_ 0 _).set_ 1 _).set_ 2 _).set_ 3 _).set_ 4 _) Tryz.underlying44 rfl info_content) rfl ?_
          refine ⟨⟨_, _, rfl, HOS.out _⟩, ?_⟩
          iterate 5 refine Ext.set_ ?_ (by show w.heap.size ≤ gr; rw [HGR.out]; exact Nat.le_refl _) _
          exact HEZ.out
        have hbo : decide (ln < 1) = false := decide_eq_false h1
        have hbp : decide (wl - ln < 0) = false := decide_eq_false h2
        have c0 : Wd.cell? ⟨gx, 0, none⟩ = some (.bool true) := hbx.cell 0
        have c1 : Wd.cell? ⟨gx, 1, none⟩ = some (.int .i64 0) := hbx.cell 1
        have c3 : Wd.cell? ⟨gx, 3, none⟩ = some (.string r) := hbx.cell 3
        have e4 : Wd.cell? ⟨g6, 4, none⟩ = some (.slice Ao mo co) := hLd.st.blk.cell 4
        have HLD := Lib.hid hLd
        obtain ⟨Wn, hWn⟩ : ∃ Wn, Wn = Wd.alloc (Obj.cells #[.bool true, .int .i64 0, .int .i64 ln, .string r] 49) := ⟨_, rfl⟩
        have hEa : Ext Wd Wn := by rw [hWn]; exact (Ext.refl Wd).alloc _
        have hnew : SlC opC 4 Wn (some ⟨Wd.heap.size, 0, none⟩) 1 [.ins s] := by rw [hWn]; exact SlC.new_ (cs := opC) Wd [.ins s] opC_len (by simp) _ (by rw [List.flatMap_cons, HOC.out]; rfl) (0, 0) 1 rfl 49
        clear hLd hbx
        go_wp2_with (first
          | (at_builtin; refine Hid.out ?_))
        rw [← hWn]
        clear hWn
        have hLe := HLD.out.later hEa
        refine Hid.mk_ ?_
        refine appC einfo_op rfl _ _ rfl hLe.own rfl hnew rfl (by omega) hLe.bw ?_
        intro Aq mq cq w4 ho4 hg4 hat4
        have hbk := hLe.blkw hg4
        have e4 : w4.cell? ⟨g6, 4, none⟩ = some (.slice Ao mo co) := hbk.cell 4
        have t4 := hbk.frozen 4
        have HLF := Lib.hid (hLe.app ho4 hg4)
        have HALL2 : Hid (∀ y ∈ L ++ [.ins s], OpOk old y) := fun y hy => by
          rcases List.mem_append.1 hy with hy | hy
          · exact HALL.out y hy
          · rw [List.mem_singleton.1 hy]; exact HOK.out (by omega)
        have hmq : mq = mo + 1 := by have h1 := ho4.len; have h2 := hLe.own.len; rw [List.length_append] at h1; simp at h1; omega
        have HMQ := Lib.hid hmq
        clear hLe hbk hmq hnew hEa HLD ho4 hg4 hat4 c0 c1 c2 c3
        go_wp2
        go_roundw
        case rel =>
          repeat apply Exists.intro
          refine ⟨?rl, ?fr⟩
          case fr => exact rfl
          case rl => exact ⟨mo + 1, Aq, mq, cq, L ++ [.ins s], _, _, wl - ln, by omega, rfl, by go_num, HOI2, HLF, by omega, (by show sumO (L ++ [.ins s]) + (wl - ln) = new; rw [sumO_app]; have h5 : sumO [.ins s] = ln := (by show oLen (.ins s) + 0 = ln; rw [HLN.out]; omega); have := HSUM.out; omega), HALL2, HFF2, HMQ.out, by omega⟩
        case measure => simp [intOf]; omega
      · have hkb : (k == 1) = false := beq_eq_false_iff_ne.2 hk1
        have HK0 : Hid (fa = false → k = 0) := fun _ => by omega
        have hLb := hLa.far hgb hox 0 (.bool false)
        have hbb := hba.set_ 0 (.bool false)
        clear hLa hba
        have HKN := Lib.hid hk1
        clear hk1
        have e0 : (wa.setCell ⟨gx, 0, none⟩ (.bool false)).cell? ⟨g6, 0, none⟩ = some (.int .i64 old) := hLb.st.blk.cell 0
        go_wp2_with (first
          | (go_at_call 35; refine Hid.out ?_))
        refine Hid.mk_ ((rBounded 0 old hLb.st.rd).mono ?_)
        rintro e wb ⟨rfl, hR, hg⟩
        have hbd := stepB_rng bs pa fa (hi := old) (by omega)
        obtain ⟨o, pb, fb, hS⟩ : ∃ n p' f', stepB 0 old bs pa fa = (n, p', f') := ⟨_, _, _, rfl⟩
        rw [hS] at hR hbd ⊢
        dsimp only at hR hbd ⊢
        obtain ⟨hloo, hhio⟩ := hbd
        have HSB := Lib.hid hS
        have hLc := hLb.call hR hg
        have hbc := hbb.grown hg hxg
        have s1 : wb.cell? ⟨gx, 1, none⟩ = some (.int .i64 0) := hbc.cell 1
        have t1 := hbc.frozen 1
        clear hS hR hg hLb hbb e0 s0 t0 hkb
        have hLd := hLc.far hgb hox 1 (.int .i64 o)
        have hbd := hbc.set_ 1 (.int .i64 o)
        have e0 : (wb.setCell ⟨gx, 1, none⟩ (.int .i64 o)).cell? ⟨g6, 0, none⟩ = some (.int .i64 old) := hLd.st.blk.cell 0
        clear hLc hbc
        go_wp2_with (first
          | (go_at_call 35; refine Hid.out ?_))
        refine Hid.mk_ ((rBounded 0 (old - o) hLd.st.rd).mono ?_)
        rintro e wc ⟨rfl, hR, hg⟩
        have hbd2 := stepB_rng bs pb fb (hi := old - o) (by omega)
        obtain ⟨ln, pc, fc, hS⟩ : ∃ n p' f', stepB 0 (old - o) bs pb fb = (n, p', f') := ⟨_, _, _, rfl⟩
        rw [hS] at hR hbd2 ⊢
        dsimp only at hR hbd2 ⊢
        obtain ⟨hloc, hhic⟩ := hbd2
        have HOI2 : Hid (OInv bs p14 (mo + 1) (L ++ [.cp o ln]) pc fc) := HO.out.cp stB_ok HN.out HSA.out HKN.out HK0.out HO2.out HSB.out hS
        have HFF2 : Hid (fc = false → f14 = false) := fun h => HFF.out (stepB_keep HSA.out (stepB_keep HSB.out (stepB_keep hS h)))
        have HLN : Hid (oLen (.cp o ln) = ln) := rfl
        have HOC : Hid (opC (.cp o ln) = [.bool false, .int .i64 o, .int .i64 ln, .string ⟨#[]⟩]) := rfl
        have hln6 : 0 ≤ ln ∧ ln ≤ 1000000 := by omega
        have HOK : Hid (1 ≤ ln → OpOk old (.cp o ln)) := fun h => ⟨hloo, h, by omega⟩
        have hLe := hLd.call hR hg
        have hbe := hbd.grown hg hxg
        have s2 : wc.cell? ⟨gx, 2, none⟩ = some (.int .i64 0) := hbe.cell 2
        have t2 := hbe.frozen 2
        clear hS hR hg hLd hbd e0 s1 t1
        have hLd := hLe.far hgb hox 2 (.int .i64 ln)
        have hbd := hbe.set_ 2 (.int .i64 ln)
        clear hLe hbe
        go_upto_region 26 with fail
        obtain ⟨Wd, hWd⟩ : ∃ Wd, Wd = wc.setCell ⟨gx, 2, none⟩ (.int .i64 ln) := ⟨_, rfl⟩
        rw [← hWd] at hLd hbd ⊢
        clear hWd
        have hbx : Blk Wd gx 49 #[.bool false, .int .i64 o, .int .i64 ln, .string ⟨#[]⟩] := hbd
        have c2 : Wd.cell? ⟨gx, 2, none⟩ = some (.int .i64 ln) := hbx.cell 2
        clear hbd
        by_cases h1 : ln < 1
        · have HOS := Lib.hid (HNO.out (HOI2.out.refuse stB_ok HV.out (.inl (by rw [HLN.out]; exact h1))))
          have hEx := HE01.out.trans hLd.st.ext
          have hbo : decide (ln < 1) = true := decide_eq_true h1
          clear hLd hbx
          have hrb := hb0.below hEx hb0.lt
          have k0 := hrb.cell 0
          have k1 := hrb.cell 1
          have k2 := hrb.cell 2
          have k3 := hrb.cell 3
          have k4 := hrb.cell 4
          have k5 := hrb.frozen 0
          have k6 := hrb.frozen 1
          have k7 := hrb.frozen 2
          have k8 := hrb.frozen 3
          have k9 := hrb.frozen 4
          have HBR : Hid (Blk _ gr 44 _) := hrb
          have HEZ : Hid (Ext w _) := hE0.trans hEx
          clear hrb hb0
          go_wp2
          refine bodyPost_ret (results_cell_row_tmpP rfl _ _ gr 44 #[.int .i64 0, .int .i64 0, .int .u64 0, .int .u64 0, .slice none 0 0] (0, 0) _ rfl (((((HBR.out.set_ 0 _).set_ 1 _).set_ 2 _).set_ 3 _).set_ 4 _) Tryz.underlying44 rfl info_content) rfl ?_
          refine ⟨⟨_, _, rfl, HOS.out _⟩, ?_⟩
          iterate 5 refine Ext.set_ ?_ (by show w.heap.size ≤ gr; rw [HGR.out]; exact Nat.le_refl _) _
          exact HEZ.out
        by_cases h2 : wl - ln < 0
        · have hnew : new - sumO L = wl := by have := HSUM.out; omega
          have HOS := Lib.hid (HNO.out (HOI2.out.refuse stB_ok HV.out (.inr (by rw [HLN.out]; show new - sumO L - ln < 0; rw [hnew]; exact h2))))
          have hEx := HE01.out.trans hLd.st.ext
          have hbo : decide (ln < 1) = false := decide_eq_false h1
          have hbp : decide (wl - ln < 0) = true := decide_eq_true h2
          clear hLd hbx hnew
          have hrb := hb0.below hEx hb0.lt
          have k0 := hrb.cell 0
          have k1 := hrb.cell 1
          have k2 := hrb.cell 2
          have k3 := hrb.cell 3
          have k4 := hrb.cell 4
          have k5 := hrb.frozen 0
          have k6 := hrb.frozen 1
          have k7 := hrb.frozen 2
          have k8 := hrb.frozen 3
          have k9 := hrb.frozen 4
          have HBR : Hid (Blk _ gr 44 _) := hrb
          have HEZ : Hid (Ext w _) := hE0.trans hEx
          clear hrb hb0
          go_wp2
          refine bodyPost_ret (results_cell_row_tmpP rfl _ _ gr 44 #[.int .i64 0, .int .i64 0, .int .u64 0, .int .u64 0, .slice none 0 0] (0, 0) _ rfl (((((HBR.out.set_ 0 _).set_ 1 _).set_ 2 _).set_ 3 _).set_ 4 _) Tryz.underlying44 rfl info_content) rfl ?_
          refine ⟨⟨_, _, rfl, HOS.out _⟩, ?_⟩
          iterate 5 refine Ext.set_ ?_ (by show w.heap.size ≤ gr; rw [HGR.out]; exact Nat.le_refl _) _
          exact HEZ.out
        have hbo : decide (ln < 1) = false := decide_eq_false h1
        have hbp : decide (wl - ln < 0) = false := decide_eq_false h2
        have c0 : Wd.cell? ⟨gx, 0, none⟩ = some (.bool false) := hbx.cell 0
        have c1 : Wd.cell? ⟨gx, 1, none⟩ = some (.int .i64 o) := hbx.cell 1
        have c3 : Wd.cell? ⟨gx, 3, none⟩ = some (.string ⟨#[]⟩) := hbx.cell 3
        have e4 : Wd.cell? ⟨g6, 4, none⟩ = some (.slice Ao mo co) := hLd.st.blk.cell 4
        have HLD := Lib.hid hLd
        obtain ⟨Wn, hWn⟩ : ∃ Wn, Wn = Wd.alloc (Obj.cells #[.bool false, .int .i64 o, .int .i64 ln, .string ⟨#[]⟩] 49) := ⟨_, rfl⟩
        have hEa : Ext Wd Wn := by rw [hWn]; exact (Ext.refl Wd).alloc _
        have hnew : SlC opC 4 Wn (some ⟨Wd.heap.size, 0, none⟩) 1 [.cp o ln] := by rw [hWn]; exact SlC.new_ (cs := opC) Wd [.cp o ln] opC_len (by simp) _ (by rw [List.flatMap_cons, HOC.out]; rfl) (0, 0) 1 rfl 49
        clear hLd hbx
        go_wp2_with (first
          | (at_builtin; refine Hid.out ?_))
        rw [← hWn]
        clear hWn
        have hLe := HLD.out.later hEa
        refine Hid.mk_ ?_
        refine appC einfo_op rfl _ _ rfl hLe.own rfl hnew rfl (by omega) hLe.bw ?_
        intro Aq mq cq w4 ho4 hg4 hat4
        have hbk := hLe.blkw hg4
        have e4 : w4.cell? ⟨g6, 4, none⟩ = some (.slice Ao mo co) := hbk.cell 4
        have t4 := hbk.frozen 4
        have HLF := Lib.hid (hLe.app ho4 hg4)
        have HALL2 : Hid (∀ y ∈ L ++ [.cp o ln], OpOk old y) := fun y hy => by
          rcases List.mem_append.1 hy with hy | hy
          · exact HALL.out y hy
          · rw [List.mem_singleton.1 hy]; exact HOK.out (by omega)
        have hmq : mq = mo + 1 := by have h1 := ho4.len; have h2 := hLe.own.len; rw [List.length_append] at h1; simp at h1; omega
        have HMQ := Lib.hid hmq
        clear hLe hbk hmq hnew hEa HLD ho4 hg4 hat4 c0 c1 c2 c3
        go_wp2
        go_roundw
        case rel =>
          repeat apply Exists.intro
          refine ⟨?rl, ?fr⟩
          case fr => exact rfl
          case rl => exact ⟨mo + 1, Aq, mq, cq, L ++ [.cp o ln], _, _, wl - ln, by omega, rfl, by go_num, HOI2, HLF, by omega, (by show sumO (L ++ [.cp o ln]) + (wl - ln) = new; rw [sumO_app]; have h5 : sumO [.cp o ln] = ln := (by show oLen (.cp o ln) + 0 = ln; rw [HLN.out]; omega); have := HSUM.out; omega), HALL2, HFF2, HMQ.out, by omega⟩
        case measure => simp [intOf]; omega
    · have hi1 : ¬ (mo : Int) < (n0 : Int) := by omega
      have HMN : Hid ((mo : Int) = (n0 : Int)) := by show _ = _; omega
      clear hlt hq
      go_wp2_with (first
        | (go_at_call 37; refine Hid.out ?_))
      refine Hid.mk_ ((end_any HL.out.st.rd).mono ?_)
      rintro e we ⟨hEe, rfl⟩
      have hLf := HL.out.later hEe
      have hple : p ≤ bs.length := by have h1 := hLf.st.rd.at_le; have h2 := hLf.st.rd.rd.len; omega
      obtain ⟨ze, hze⟩ : ∃ z, z = endE bs.length p ff := ⟨_, rfl⟩
      rw [← hze]
      by_cases hz0 : ze = 0
      case neg =>
        have hbd : ff = true ∨ p < bs.length := by
          unfold endE at hze
          split at hze
          · rename_i h
            rcases h with h | h
            · exact .inl h
            · exact .inr (by omega)
          · exact absurd hze hz0
        have HOS := Lib.hid (HNO.out (HO.out.end_no stB_ok HV.out HMN.out (hbd.elim .inl fun h => .inr (.inl h))))
        have hEx := HE01.out.trans hLf.st.ext
        have hzb : (ze != 0) = true := by rw [bne_iff_ne]; exact hz0
        clear hLf hz0 hze hbd hple HL
        have hrb := hb0.below hEx hb0.lt
        have k0 := hrb.cell 0
        have k1 := hrb.cell 1
        have k2 := hrb.cell 2
        have k3 := hrb.cell 3
        have k4 := hrb.cell 4
        have k5 := hrb.frozen 0
        have k6 := hrb.frozen 1
        have k7 := hrb.frozen 2
        have k8 := hrb.frozen 3
        have k9 := hrb.frozen 4
        have HBR : Hid (Blk _ gr 44 _) := hrb
        have HEZ : Hid (Ext w _) := hE0.trans hEx
        clear hrb hb0
        go_wp2
        refine bodyPost_ret (results_cell_row_tmpP rfl _ _ gr 44 #[.int .i64 0, .int .i64 0, .int .u64 0, .int .u64 0, .slice none 0 0] (0, 0) _ rfl (((((HBR.out.set_ 0 _).set_ 1 _).set_ 2 _).set_ 3 _).set_ 4 _) Tryz.underlying44 rfl info_content) rfl ?_
        refine ⟨⟨_, _, rfl, HOS.out _⟩, ?_⟩
        iterate 5 refine Ext.set_ ?_ (by show w.heap.size ≤ gr; rw [HGR.out]; exact Nat.le_refl _) _
        exact HEZ.out
      case pos =>
      have HFP : Hid (ff = false ∧ p = bs.length) := by
        show _ ∧ _
        unfold endE at hze
        split at hze
        · omega
        · rename_i h
          exact ⟨by cases ff; rfl; exact absurd (.inl rfl) h, by omega⟩
      subst hz0
      clear hze hple
      by_cases hw0 : wl = 0
      case neg =>
        have hsn : sumO L ≠ new := by have := HSUM.out; omega
        have HOS := Lib.hid (HNO.out (HO.out.end_no stB_ok HV.out HMN.out (.inr (.inr hsn))))
        have hEx := HE01.out.trans hLf.st.ext
        have hzb : (wl != 0) = true := by rw [bne_iff_ne]; exact hw0
        clear hLf hw0 hsn HL
        have hrb := hb0.below hEx hb0.lt
        have k0 := hrb.cell 0
        have k1 := hrb.cell 1
        have k2 := hrb.cell 2
        have k3 := hrb.cell 3
        have k4 := hrb.cell 4
        have k5 := hrb.frozen 0
        have k6 := hrb.frozen 1
        have k7 := hrb.frozen 2
        have k8 := hrb.frozen 3
        have k9 := hrb.frozen 4
        have HBR : Hid (Blk _ gr 44 _) := hrb
        have HEZ : Hid (Ext w _) := hE0.trans hEx
        clear hrb hb0
        go_wp2
        refine bodyPost_ret (results_cell_row_tmpP rfl _ _ gr 44 #[.int .i64 0, .int .i64 0, .int .u64 0, .int .u64 0, .slice none 0 0] (0, 0) _ rfl (((((HBR.out.set_ 0 _).set_ 1 _).set_ 2 _).set_ 3 _).set_ 4 _) Tryz.underlying44 rfl info_content) rfl ?_
        refine ⟨⟨_, _, rfl, HOS.out _⟩, ?_⟩
        iterate 5 refine Ext.set_ ?_ (by show w.heap.size ≤ gr; rw [HGR.out]; exact Nat.le_refl _) _
        exact HEZ.out
      case pos =>
      have HD : Hid (DecO bs (some (⟨old, os, new, ns, L⟩, a1, b1))) := HO.out.end_yes stB_ok HV.out HMN.out HFF.out HFP.out.1 (by rw [HFP.out.2]; exact Nat.le_refl _) (by show sumO L = new; have := HSUM.out; omega) rfl ⟨hlo4, hhi4⟩ ⟨hlo9, hhi9⟩ hhi14 HPA.out HPB.out HALL.out
      subst hw0
      have e0 : we.cell? ⟨g6, 0, none⟩ = some (.int .i64 old) := hLf.st.blk.cell 0
      have e1 : we.cell? ⟨g6, 1, none⟩ = some (.int .i64 new) := hLf.st.blk.cell 1
      have e2 : we.cell? ⟨g6, 2, none⟩ = some (.int .u64 a1) := hLf.st.blk.cell 2
      have e3 : we.cell? ⟨g6, 3, none⟩ = some (.int .u64 b1) := hLf.st.blk.cell 3
      have e4 : we.cell? ⟨g6, 4, none⟩ = some (.slice Ao mo co) := hLf.st.blk.cell 4
      have hEx := HE01.out.trans hLf.st.ext
      have hrb := hb0.below hEx hb0.lt
      have k0 := hrb.cell 0
      have k1 := hrb.cell 1
      have k2 := hrb.cell 2
      have k3 := hrb.cell 3
      have k4 := hrb.cell 4
      have k5 := hrb.frozen 0
      have k6 := hrb.frozen 1
      have k7 := hrb.frozen 2
      have k8 := hrb.frozen 3
      have k9 := hrb.frozen 4
      have HBR : Hid (Blk _ gr 44 _) := hrb
      have HEZ : Hid (Ext w _) := hE0.trans hEx
      have HOW : Hid (OsC opC 49 4 we w14.heap.size Ao mo co L) := hLf.own
      clear hrb hb0 hLf hEx HL
      go_wp2
      refine bodyPost_ret (results_cell_row_tmpP rfl _ _ gr 44 #[.int .i64 old, .int .i64 new, .int .u64 a1, .int .u64 b1, .slice Ao mo co] (0, 0) _ rfl (((((HBR.out.set_ 0 _).set_ 1 _).set_ 2 _).set_ 3 _).set_ 4 _) Tryz.underlying44 rfl info_content) rfl ?_
      refine ⟨⟨_, _, rfl, .inr ⟨by rw [HOR.out], .inr ⟨⟨old, os, new, ns, L⟩, a1, b1, Ao, mo, co, by rw [HOR.out]; exact HD.out, rfl, OsC.sl (base := w14.heap.size) (e := 49) (c := co) ?_, HOW.out.cap, rfl⟩⟩⟩, ?_⟩
      · iterate 5 refine OsC.kept ?_ (grown_setW _ _ _) (ob_ne_of_lt HOW.out.ge HGR14.out)
        exact HOW.out
      · iterate 5 refine Ext.set_ ?_ (by show w.heap.size ≤ gr; rw [HGR.out]; exact Nat.le_refl _) _
        exact HEZ.out
end
end Go.Proofs.YtghndnacmpckbaaGreatDoor
