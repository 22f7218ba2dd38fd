/- The program's scripts: an item is read. -/
import Derived.Test.YtgnchicipmomlaaGreatDoorPK16
import Derived.Laws.Rows
namespace Go.Proofs.YtgnchicipmomlaaGreatDoor
open Go.RowKit
set_option maxRecDepth 100000
attribute [local go_sem] ext_refl_t ext_alloc_t ext_drew_t ext_drewN_t ext_alloc2_t ext_alloc3_t ext_alloc4_t ext_alloc5_t ext_alloc6_t ext_alloc7_t ext_alloc8_t ext_alloc1d_t ext_alloc2d_t ext_alloc3d_t ext_alloc4d_t
/-- What the program's table says of a slice type t over elements e, however short these are. -/
structure EInf2 (t e : TypeId) (k by_ : Nat) : Prop where
  u : Tryz.prog.underlying t = some (.slice e)
  i : ∃ i z, Tryz.prog.info? e = some i ∧ i.zero = some z ∧ i.size = k ∧ i.bytes = by_ ∧ z.cells.size = k
  kp : 0 < k
theorem EInf2.mk_ {t e : TypeId} {k by_ : Nat} {z : Value} (hu : Tryz.prog.underlying t = some (.slice e)) (hi : (Tryz.prog.info? e).map (fun i => (i.zero, i.size, i.bytes)) = some (some z, k, by_)) (hz : z.cells.size = k) (hk : 0 < k) : EInf2 t e k by_ := by
  obtain ⟨i0, h0, h1, h2, h3⟩ := info_parts hi
  exact ⟨hu, ⟨i0, z, h0, h1, h2, h3, hz⟩, hk⟩
section
variable {α : Type} {cs : α → List Value} {t e : TypeId} {k by_ : Nat} {w w' : World} {base : Nat} {A : Option Addr} {m c : Nat} {l : List α}
theorem wp_appC2 (I : EInf2 t e k by_) {o : Oper} {a : Act} {K : Act → World → Prop} {Q : Exit → Act → World → Prop} (s x : Operand)
    (ho : o.op = .call { callee := .builtin .append, args := #[s, x], argTypes := #[t, t] })
    (hown : OsC cs e k w base A m c l) (hs : a.eval s = .slice A m c)
    {B : Option Addr} {n d : Nat} {news : List α} (hr : SlC cs k w B n news) (hx : a.eval x = .slice B n d)
    (hb : (m + n) * by_ ≤ 140737488355328) (hmn : m + n ≤ 17592186044416) (hbase : base ≤ w.heap.size)
    (h : ∀ A' m' c' w', OsC cs e k w' base A' m' c' (l ++ news) → w.grownBy w' (ob A) → NewOr w.heap.size (ob A) (ob A') →
      K (a.put o.dst (.slice A' m' c')) w') : o.wp Tryz.prog a w K Q := by
  obtain ⟨i0, z, hi0, hz0, hz1, hz2, hz3⟩ := I.i
  refine wp_append_any w s x _ ho base e i0 z k by_ I.u hi0 hz0 hz1 hz2 hz3 I.kp _ m (l.flatMap cs) hs hown.own _ B n d (news.flatMap cs) hx hr.rd (fun u hu => ?_) (by simp only [maxLen]; omega) hb hbase ?_
  · obtain ⟨y, _, hy⟩ := List.mem_flatMap.1 hu
    exact hown.cell y u hy
  intro v' w' hown' hg hat
  have hv : ∃ A' c', v' = .slice A' (m + n) c' := by
    rcases hown'.2 with ⟨rfl, h0⟩ | ⟨g, cap, cur, rfl, _⟩
    · exact ⟨none, 0, by rw [h0]⟩
    · exact ⟨_, _, rfl⟩
  obtain ⟨A', c', rfl⟩ := hv
  rw [ob_own] at hg
  rw [ob_own, ob_own] at hat
  refine h A' (m + n) c' w' ⟨by rw [List.flatMap_append]; exact hown', hown.one, hown.cell, by rw [List.length_append, hown.len, hr.len], by omega⟩ hg (fun k hk => ?_)
  rcases hat with h1 | h1
  · exact .inr (h1 ▸ hk)
  · rw [h1] at hk
    injection hk with hk
    exact .inl (by omega)
theorem appC2 (I : EInf2 t e k by_) {ops : Array Oper} {rest : List Oper} {o : Oper} {a : Act} {Q : Exit → Act → World → Prop} (hgd : Region.wanted o (yielded ops a.tmps) = true) (s x : Operand)
    (ho : o.op = .call { callee := .builtin .append, args := #[s, x], argTypes := #[t, t] })
    (hown : OsC cs e k w base A m c l) (hs : a.eval s = .slice A m c)
    {B : Option Addr} {n d : Nat} {news : List α} (hr : SlC cs k w B n news) (hx : a.eval x = .slice B n d)
    (hb : (m + n) * by_ ≤ 140737488355328) (hmn : m + n ≤ 17592186044416) (hbase : base ≤ w.heap.size)
    (h : ∀ A' m' c' w', OsC cs e k w' base A' m' c' (l ++ news) → w.grownBy w' (ob A) → NewOr w.heap.size (ob A) (ob A') →
      wpList Tryz.prog ops Q rest (a.put o.dst (.slice A' m' c')) w') : wpList Tryz.prog ops Q (o :: rest) a w :=
  BigFrame.wpList_want hgd fun _ hK => wp_appC2 I s x ho hown hs hr hx hb hmn hbase fun A' m' c' w' h1 h2 h3 => hK _ _ (h A' m' c' w' h1 h2 h3)
end
theorem einf_rng : EInf2 150 179 2 2 := EInf2.mk_ (z := .agg #[.int .u8 0, .int .u8 0]) Tryz.underlying150 (by kernel_rfl) rfl (by omega)
theorem rngC_cell (r : UInt8 × UInt8) : ∀ u ∈ rngC r, u.oneCell' = true := fun u hu => by
  simp [rngC, bv] at hu
  rcases hu with rfl | rfl <;> rfl
theorem info_itm5 : (Tryz.prog.info? 152).map (·.size) = some 5 := by kernel_rfl
/-- An item that is being read: the reader, the item, the result's block. -/
structure ItS (w wr : World) (g g2 g3 : Nat) (s : ByteArray) (cs : Array Value) : Prop where
  r : Rdr wr g s
  gr : w.grownBy wr (some g)
  x : Blk wr g3 152 cs
  y : Blk wr g2 152 #[.string ⟨#[]⟩, .slice none 0 0, .bool false, .int .i64 0, .int .i64 0]
  lt : g < w.heap.size
  e2 : w.heap.size ≤ g2
  e3 : w.heap.size ≤ g3
  ne : g2 ≠ g3
section
variable {w wr w2 : World} {g g2 g3 m c base : Nat} {s s' : ByteArray} {cs : Array Value} {A : Option Addr}
theorem ItS.cut (h : ItS w wr g g2 g3 s cs) (k : RdW wr w2 g s') : ItS w w2 g g2 g3 s' cs :=
  ⟨k.r, grown_step h.gr k.g (NewOr.refl _ _), h.x.grown k.g (by have := h.lt; have := h.e3; intro e; injection e with e; omega), h.y.grown k.g (by have := h.lt; have := h.e2; intro e; injection e with e; omega), h.lt, h.e2, h.e3, h.ne⟩
theorem ItS.ext (h : ItS w wr g g2 g3 s cs) (hE : Ext wr w2) : ItS w w2 g g2 g3 s cs :=
  ⟨Blk.below h.r hE h.r.lt, grown_step h.gr (hE.grownBy (some g)) (NewOr.refl _ _), h.x.below hE h.x.lt, h.y.below hE h.y.lt, h.lt, h.e2, h.e3, h.ne⟩
theorem ItS.grown {e : TypeId} {k n : Nat} {xs : List Value} (h : ItS w wr g g2 g3 s cs) (hg : wr.grownBy w2 (ob A)) (ho : wr.ownsRow base e k (.slice A m c) n xs) (hb : w.heap.size ≤ base) (h1 : e ≠ 152) (h2 : e ≠ 149) : ItS w w2 g g2 g3 s cs := by
  have n1 := own_blk_ne ho h.x h1
  have n2 := own_blk_ne ho h.y h1
  have n3 := own_blk_ne ho h.r h2
  rw [ob_own] at n1 n2 n3
  refine ⟨Blk.grown h.r hg (fun e => n3 e.symm), grown_step h.gr hg (fun k hk => .inl ?_), h.x.grown hg (fun e => n1 e.symm), h.y.grown hg (fun e => n2 e.symm), h.lt, h.e2, h.e3, h.ne⟩
  have := (World.ownsRow.lt ho k (by rw [ob_own]; exact hk)).1
  omega
theorem ItS.set3 (h : ItS w wr g g2 g3 s cs) (i : Nat) (u : Value) : ItS w (wr.setCell ⟨g3, i, none⟩ u) g g2 g3 s (cs.setIfInBounds i u) := by
  refine ⟨Blk.far h.r (p := ⟨g3, i, none⟩) ?_ u, grown_step h.gr (grown_setB wr ⟨g3, i, none⟩ u) (fun k hk => .inl ?_), h.x.set_ i u, Blk.far h.y (p := ⟨g3, i, none⟩) h.ne u, h.lt, h.e2, h.e3, h.ne⟩
  · have := h.lt; have := h.e3; show g ≠ g3; omega
  · injection hk with hk
    have := h.e3
    show w.heap.size ≤ k
    rw [← hk]; exact this
theorem ItS.own {α : Type} {f : α → List Value} {e : TypeId} {k : Nat} {l : List α} (h : ItS w wr g g2 g3 s cs) (ho : OsC f e k wr base A m c l) (k' : RdW wr w2 g s') (hb : w.heap.size ≤ base) : OsC f e k w2 base A m c l :=
  ho.kept k'.g (.inr (fun e => by have := ho.ge g e; have := h.lt; omega))
theorem ItS.own3 {α : Type} {f : α → List Value} {e : TypeId} {k : Nat} {l : List α} (h : ItS w wr g g2 g3 s cs) (ho : OsC f e k wr base A m c l) (he : e ≠ 152) (i : Nat) (u : Value) : OsC f e k (wr.setCell ⟨g3, i, none⟩ u) base A m c l := by
  have n1 := own_blk_ne ho.own h.x he
  rw [ob_own] at n1
  exact ho.kept (grown_setB wr ⟨g3, i, none⟩ u) (.inr n1)
/-- How much the reader has before it. -/
def rdSz (w : World) (g : Nat) : Nat := match w.cell? ⟨g, 0, none⟩ with
  | some (.string s) => s.size
  | _ => 0
theorem rdSz_eq (h : Rdr w g s) : rdSz w g = s.size := by
  have k := h.cell 0
  simp at k
  unfold rdSz
  rw [k]
/-- What item gives: an item in new memory, whose parts are no longer than the text. -/
def ItmR (w w' : World) (g : Nat) (s : ByteArray) (e : Ending) : Prop :=
  ∃ (x : Itm) (s' : ByteArray), e = .returned (itmV x) ∧ RdW w w' g s' ∧ s'.size < s.size ∧ ItmW w' x ∧ x.text.size ≤ s.size ∧ x.rng.length ≤ s.size ∧ ∀ j, ob x.h.A = some j → w.heap.size ≤ j
theorem RdW.far {w wr : World} {g g2 : Nat} {s : ByteArray} (h : RdW w wr g s) (hg : g < w.heap.size) (h2 : w.heap.size ≤ g2) (i : Nat) (u : Value) : RdW w (wr.setCell ⟨g2, i, none⟩ u) g s :=
  ⟨Blk.far h.r (p := ⟨g2, i, none⟩) (by show g ≠ g2; omega) u, grown_step h.g (grown_setB wr ⟨g2, i, none⟩ u) (fun k hk => .inl (by injection hk with hk; have e : g2 = k := hk; omega))⟩
set_option maxHeartbeats 6400000 in
theorem itemR_any (h : Rdr w g s) (hs : 0 < s.size) (hb : s.size ≤ 4000000) :
    Calls Tryz.prog 72 #[.pointer (some ⟨g, 0, none⟩)] w fun e w' => ItmR w w' g s e := by
  have hlt := h.lt
  go_enter Tryz.func72, Tryz.ntmps72
  go_upto_region 2 with fail
  have hb2 := (Blk.new w 152 #[.string ⟨#[]⟩, .slice none 0 0, .bool false, .int .i64 0, .int .i64 0]).alloc (Obj.cells #[.string ⟨#[]⟩, .slice none 0 0, .bool false, .int .i64 1, .int .i64 1] 152)
  have hb3 := Blk.new (w.alloc (Obj.cells #[.string ⟨#[]⟩, .slice none 0 0, .bool false, .int .i64 0, .int .i64 0] 152)) 152 #[.string ⟨#[]⟩, .slice none 0 0, .bool false, .int .i64 1, .int .i64 1]
  have hEW : Ext w ((w.alloc (Obj.cells #[.string ⟨#[]⟩, .slice none 0 0, .bool false, .int .i64 0, .int .i64 0] 152)).alloc (Obj.cells #[.string ⟨#[]⟩, .slice none 0 0, .bool false, .int .i64 1, .int .i64 1] 152)) := ((Ext.refl w).alloc _).alloc _
  have hsz : (w.alloc (Obj.cells #[.string ⟨#[]⟩, .slice none 0 0, .bool false, .int .i64 0, .int .i64 0] 152)).heap.size = w.heap.size + 1 := by simp
  rw [hsz] at hb3
  obtain ⟨W0, hW0⟩ : ∃ W0, W0 = (w.alloc (Obj.cells #[.string ⟨#[]⟩, .slice none 0 0, .bool false, .int .i64 0, .int .i64 0] 152)).alloc (Obj.cells #[.string ⟨#[]⟩, .slice none 0 0, .bool false, .int .i64 1, .int .i64 1] 152) := ⟨_, rfl⟩
  rw [← hW0] at hb2 hb3 hEW ⊢
  obtain ⟨g3, hg3⟩ : ∃ g3, g3 = w.heap.size + 1 := ⟨_, rfl⟩
  rw [← hg3] at hb3 ⊢
  obtain ⟨g2, hg2⟩ : ∃ g2, g2 = w.heap.size := ⟨_, rfl⟩
  rw [← hg2] at hb2 ⊢
  have hI : ItS w W0 g g2 g3 s #[.string ⟨#[]⟩, .slice none 0 0, .bool false, .int .i64 1, .int .i64 1] := ⟨Blk.below h hEW hlt, hEW.grownBy _, hb3, hb2, hlt, by omega, by omega, by omega⟩
  have hwW := hEW.size_le
  clear hb2 hb3 hEW hsz hW0 hg3 hg2
  go_wp2_with (first
    | (go_at_call 71; refine Hid.out ?_))
  refine Hid.mk_ ((cutW_any hI.r _).mono ?_)
  rintro e w1 ⟨s1, r, rfl, hr1, hr2, hr3⟩
  have hI1 := hI.cut hr1
  have hw1 := hI1.gr.size
  cases r with
  | true =>
    have hz1 : s1.size < s.size := by have := hr3 rfl; rw [bsz1] at this; omega
    clear hr2 hr3 hI hr1
    go_wp2_with (first
      | (go_at_call 71; refine Hid.out ?_))
    refine Hid.mk_ ((cutW_any hI1.r _).mono ?_)
    rintro e w2 ⟨s2, no, rfl, hr1, hr2, hr3⟩
    have hI2 := hI1.cut hr1
    have hz2 : s2.size ≤ s1.size := by
      cases no with
      | false => rw [hr2 rfl]; exact Nat.le_refl _
      | true => have := hr3 rfl; omega
    have hI3 := hI2.set3 2 (.bool no)
    simp at hI3
    have t2 := hI2.x.cell 2
    have f2 := hI2.x.frozen 2
    simp at t2
    clear hr1 hr2 hr3 hI1
    have hw2 := hI3.gr.size
    obtain ⟨W3, hW3⟩ : ∃ W3, W3 = w2.setCell ⟨g3, 2, none⟩ (.bool no) := ⟨_, rfl⟩
    go_upto_region 4 with fail
    rw [← hW3] at hI3 hw2 ⊢
    clear hW3 hI2 t2 f2 hw1
    go_loopw [4] (fun _ wr => ∃ (s3 : ByteArray) (A : Option Addr) (m c : Nat) (L : List (UInt8 × UInt8)), s3.size + m ≤ s2.size ∧ Hid (ItS w wr g g2 g3 s3 #[.string ⟨#[]⟩, .slice A m c, .bool no, .int .i64 1, .int .i64 1]) ∧ Hid (OsC rngC 179 2 wr w.heap.size A m c L)) (fun _ wr => rdSz wr g)
    case atStart => exact ⟨s2, none, 0, 0, [], Nat.le_refl _, hI3, OsC.nil_ rngC_len rngC_cell⟩
    case round =>
      obtain ⟨s3, A, m, c, L, hsm, HI, HO⟩ := hrel
      have k0 := HI.out.r.cell 0
      simp at k0
      by_cases hs30 : s3.size = 0
      · have hte := tl_empty hs30
        clear hs30
        go_wp2_with (first
          | (go_at_call 71; refine Hid.out ?_))
        refine Hid.mk_ ((cutW_any (HI).out.r _).mono ?_)
        rintro e v1 ⟨p1, r, rfl, hr1, hr2, hr3⟩
        have HJ1 := Lib.hid ((HI).out.cut hr1)
        have HP1 := Lib.hid ((HI).out.own (HO).out hr1 (Nat.le_refl _))
        have hq1 : p1.size ≤ (s3).size := by
          cases r with
          | false => rw [hr2 rfl]; exact Nat.le_refl _
          | true => have := hr3 rfl; omega
        clear hr1 hr2 hr3
        cases r with
        | true =>
          have z3 := (HJ1).out.x.cell 3
          have z4 := (HJ1).out.x.cell 4
          have f3 := (HJ1).out.x.frozen 3
          have f4 := (HJ1).out.x.frozen 4
          simp at z3 z4
          have hJ2 := ((HJ1).out.set3 3 (.int .i64 0)).set3 4 (.int .i64 1)
          simp at hJ2
          have HJ2 := Lib.hid hJ2
          have HP2 := Lib.hid (((HJ1).out.set3 3 (.int .i64 0)).own3 ((HJ1).out.own3 (HP1).out (by decide) 3 (.int .i64 0)) (by decide) 4 (.int .i64 1))
          clear hJ2
          go_upto_region 21 with fail
          obtain ⟨v2, hv2⟩ : ∃ v2, v2 = ((v1).setCell ⟨g3, 3, none⟩ (.int .i64 0)).setCell ⟨g3, 4, none⟩ (.int .i64 1) := ⟨_, rfl⟩
          rw [← hv2] at HJ2 HP2 ⊢
          clear hv2 z3 z4 f3 f4
          have z0 := (HJ2).out.x.cell 0
          have z1 := (HJ2).out.x.cell 1
          have z2 := (HJ2).out.x.cell 2
          have z3 := (HJ2).out.x.cell 3
          have z4 := (HJ2).out.x.cell 4
          have y0 := (HJ2).out.y.cell 0
          have y1 := (HJ2).out.y.cell 1
          have y2 := (HJ2).out.y.cell 2
          have y3 := (HJ2).out.y.cell 3
          have y4 := (HJ2).out.y.cell 4
          have q0 := (HJ2).out.y.frozen 0
          have q1 := (HJ2).out.y.frozen 1
          have q2 := (HJ2).out.y.frozen 2
          have q3 := (HJ2).out.y.frozen 3
          have q4 := (HJ2).out.y.frozen 4
          simp at z0 z1 z2 z3 z4 y0 y1 y2 y3 y4
          have NE2 : Hid (ob A ≠ some g2) := by
            have n2 := own_blk_ne (HP2).out.own (HJ2).out.y (by decide)
            rw [ob_own] at n2
            exact n2
          go_wp2
          refine bodyPost_ret (results_cell_row rfl _ _ g2 152 #[.string ⟨#[]⟩, .slice A m c, .bool no, .int .i64 0, .int .i64 1] (0, 0) _ rfl (((((HJ2).out.y.set_ 0 _).set_ 1 _).set_ 2 _).set_ 3 _ |>.set_ 4 _) Tryz.underlying152 rfl info_itm5) rfl ?_
          have hgg := (HJ2).out.e2
          have hRD := ((((((⟨(HJ2).out.r, (HJ2).out.gr⟩ : RdW w v2 g p1).far hlt hgg 0 (.string ⟨#[]⟩)).far hlt hgg 1 (.slice A m c)).far hlt hgg 2 (.bool no)).far hlt hgg 3 (.int .i64 0)).far hlt hgg 4 (.int .i64 1))
          have hOO := (((((HP2).out.kept (grown_setB _ ⟨g2, 0, none⟩ (.string ⟨#[]⟩)) (.inr NE2.out)).kept (grown_setB _ ⟨g2, 1, none⟩ (.slice A m c)) (.inr NE2.out)).kept (grown_setB _ ⟨g2, 2, none⟩ (.bool no)) (.inr NE2.out)).kept (grown_setB _ ⟨g2, 3, none⟩ (.int .i64 0)) (.inr NE2.out)).kept (grown_setB _ ⟨g2, 4, none⟩ (.int .i64 1)) (.inr NE2.out)
          have hll := (HP2).out.len
          have hpf : (⟨#[]⟩ : ByteArray).size ≤ s.size := Nat.zero_le _
          have hgs : GoodStr ⟨#[]⟩ := by unfold GoodStr; exact Nat.le_trans hpf (by omega)
          have hml : m ≤ s.size := by omega
          exact ⟨⟨⟨#[]⟩, L, no, 0, 1, ⟨A, m, c⟩⟩, p1, rfl, hRD, by omega, ⟨⟨hOO.sl, (HP2).out.cap, (show m * 2 ≤ 140737488351232 by omega), fun _ _ => trivial⟩, hgs, (show I64 0 by unfold I64; omega), (show I64 1 by unfold I64; omega)⟩, hpf, (show (L).length ≤ s.size by omega), fun j hj => (HP2).out.ge j hj⟩
        | false =>
          go_wp2_with (first
            | (go_at_call 71; refine Hid.out ?_))
          refine Hid.mk_ ((cutW_any HJ1.out.r _).mono ?_)
          rintro e v3 ⟨p3, r, rfl, hr1, hr2, hr3⟩
          have HJ3 := Lib.hid (HJ1.out.cut hr1)
          have HP3 := Lib.hid (HJ1.out.own HP1.out hr1 (Nat.le_refl _))
          have hq3 : p3.size ≤ p1.size := by
            cases r with
            | false => rw [hr2 rfl]; exact Nat.le_refl _
            | true => have := hr3 rfl; omega
          clear hr1 hr2 hr3
          cases r with
          | true =>
            have z3 := (HJ3).out.x.cell 3
            have z4 := (HJ3).out.x.cell 4
            have f3 := (HJ3).out.x.frozen 3
            have f4 := (HJ3).out.x.frozen 4
            simp at z3 z4
            have hJ2 := ((HJ3).out.set3 3 (.int .i64 0)).set3 4 (.int .i64 (-1))
            simp at hJ2
            have HJ2 := Lib.hid hJ2
            have HP2 := Lib.hid (((HJ3).out.set3 3 (.int .i64 0)).own3 ((HJ3).out.own3 (HP3).out (by decide) 3 (.int .i64 0)) (by decide) 4 (.int .i64 (-1)))
            clear hJ2
            go_upto_region 21 with fail
            obtain ⟨v2, hv2⟩ : ∃ v2, v2 = ((v3).setCell ⟨g3, 3, none⟩ (.int .i64 0)).setCell ⟨g3, 4, none⟩ (.int .i64 (-1)) := ⟨_, rfl⟩
            rw [← hv2] at HJ2 HP2 ⊢
            clear hv2 z3 z4 f3 f4
            have z0 := (HJ2).out.x.cell 0
            have z1 := (HJ2).out.x.cell 1
            have z2 := (HJ2).out.x.cell 2
            have z3 := (HJ2).out.x.cell 3
            have z4 := (HJ2).out.x.cell 4
            have y0 := (HJ2).out.y.cell 0
            have y1 := (HJ2).out.y.cell 1
            have y2 := (HJ2).out.y.cell 2
            have y3 := (HJ2).out.y.cell 3
            have y4 := (HJ2).out.y.cell 4
            have q0 := (HJ2).out.y.frozen 0
            have q1 := (HJ2).out.y.frozen 1
            have q2 := (HJ2).out.y.frozen 2
            have q3 := (HJ2).out.y.frozen 3
            have q4 := (HJ2).out.y.frozen 4
            simp at z0 z1 z2 z3 z4 y0 y1 y2 y3 y4
            have NE2 : Hid (ob A ≠ some g2) := by
              have n2 := own_blk_ne (HP2).out.own (HJ2).out.y (by decide)
              rw [ob_own] at n2
              exact n2
            go_wp2
            refine bodyPost_ret (results_cell_row rfl _ _ g2 152 #[.string ⟨#[]⟩, .slice A m c, .bool no, .int .i64 0, .int .i64 (-1)] (0, 0) _ rfl (((((HJ2).out.y.set_ 0 _).set_ 1 _).set_ 2 _).set_ 3 _ |>.set_ 4 _) Tryz.underlying152 rfl info_itm5) rfl ?_
            have hgg := (HJ2).out.e2
            have hRD := ((((((⟨(HJ2).out.r, (HJ2).out.gr⟩ : RdW w v2 g p3).far hlt hgg 0 (.string ⟨#[]⟩)).far hlt hgg 1 (.slice A m c)).far hlt hgg 2 (.bool no)).far hlt hgg 3 (.int .i64 0)).far hlt hgg 4 (.int .i64 (-1)))
            have hOO := (((((HP2).out.kept (grown_setB _ ⟨g2, 0, none⟩ (.string ⟨#[]⟩)) (.inr NE2.out)).kept (grown_setB _ ⟨g2, 1, none⟩ (.slice A m c)) (.inr NE2.out)).kept (grown_setB _ ⟨g2, 2, none⟩ (.bool no)) (.inr NE2.out)).kept (grown_setB _ ⟨g2, 3, none⟩ (.int .i64 0)) (.inr NE2.out)).kept (grown_setB _ ⟨g2, 4, none⟩ (.int .i64 (-1))) (.inr NE2.out)
            have hll := (HP2).out.len
            have hpf : (⟨#[]⟩ : ByteArray).size ≤ s.size := Nat.zero_le _
            have hgs : GoodStr ⟨#[]⟩ := by unfold GoodStr; exact Nat.le_trans hpf (by omega)
            have hml : m ≤ s.size := by omega
            exact ⟨⟨⟨#[]⟩, L, no, 0, (-1), ⟨A, m, c⟩⟩, p3, rfl, hRD, by omega, ⟨⟨hOO.sl, (HP2).out.cap, (show m * 2 ≤ 140737488351232 by omega), fun _ _ => trivial⟩, hgs, (show I64 0 by unfold I64; omega), (show I64 (-1) by unfold I64; omega)⟩, hpf, (show (L).length ≤ s.size by omega), fun j hj => (HP2).out.ge j hj⟩
          | false =>
            go_wp2_with (first
              | (go_at_call 71; refine Hid.out ?_))
            refine Hid.mk_ ((cutW_any HJ3.out.r _).mono ?_)
            rintro e v5 ⟨p5, r, rfl, hr1, hr2, hr3⟩
            have HJ5 := Lib.hid (HJ3.out.cut hr1)
            have HP5 := Lib.hid (HJ3.out.own HP3.out hr1 (Nat.le_refl _))
            have hq5 : p5.size ≤ p3.size := by
              cases r with
              | false => rw [hr2 rfl]; exact Nat.le_refl _
              | true => have := hr3 rfl; omega
            clear hr1 hr2 hr3
            cases r with
            | true =>
              have z3 := (HJ5).out.x.cell 3
              have z4 := (HJ5).out.x.cell 4
              have f3 := (HJ5).out.x.frozen 3
              have f4 := (HJ5).out.x.frozen 4
              simp at z3 z4
              have hJ2 := ((HJ5).out.set3 3 (.int .i64 1)).set3 4 (.int .i64 (-1))
              simp at hJ2
              have HJ2 := Lib.hid hJ2
              have HP2 := Lib.hid (((HJ5).out.set3 3 (.int .i64 1)).own3 ((HJ5).out.own3 (HP5).out (by decide) 3 (.int .i64 1)) (by decide) 4 (.int .i64 (-1)))
              clear hJ2
              go_upto_region 21 with fail
              obtain ⟨v2, hv2⟩ : ∃ v2, v2 = ((v5).setCell ⟨g3, 3, none⟩ (.int .i64 1)).setCell ⟨g3, 4, none⟩ (.int .i64 (-1)) := ⟨_, rfl⟩
              rw [← hv2] at HJ2 HP2 ⊢
              clear hv2 z3 z4 f3 f4
              have z0 := (HJ2).out.x.cell 0
              have z1 := (HJ2).out.x.cell 1
              have z2 := (HJ2).out.x.cell 2
              have z3 := (HJ2).out.x.cell 3
              have z4 := (HJ2).out.x.cell 4
              have y0 := (HJ2).out.y.cell 0
              have y1 := (HJ2).out.y.cell 1
              have y2 := (HJ2).out.y.cell 2
              have y3 := (HJ2).out.y.cell 3
              have y4 := (HJ2).out.y.cell 4
              have q0 := (HJ2).out.y.frozen 0
              have q1 := (HJ2).out.y.frozen 1
              have q2 := (HJ2).out.y.frozen 2
              have q3 := (HJ2).out.y.frozen 3
              have q4 := (HJ2).out.y.frozen 4
              simp at z0 z1 z2 z3 z4 y0 y1 y2 y3 y4
              have NE2 : Hid (ob A ≠ some g2) := by
                have n2 := own_blk_ne (HP2).out.own (HJ2).out.y (by decide)
                rw [ob_own] at n2
                exact n2
              go_wp2
              refine bodyPost_ret (results_cell_row rfl _ _ g2 152 #[.string ⟨#[]⟩, .slice A m c, .bool no, .int .i64 1, .int .i64 (-1)] (0, 0) _ rfl (((((HJ2).out.y.set_ 0 _).set_ 1 _).set_ 2 _).set_ 3 _ |>.set_ 4 _) Tryz.underlying152 rfl info_itm5) rfl ?_
              have hgg := (HJ2).out.e2
              have hRD := ((((((⟨(HJ2).out.r, (HJ2).out.gr⟩ : RdW w v2 g p5).far hlt hgg 0 (.string ⟨#[]⟩)).far hlt hgg 1 (.slice A m c)).far hlt hgg 2 (.bool no)).far hlt hgg 3 (.int .i64 1)).far hlt hgg 4 (.int .i64 (-1)))
              have hOO := (((((HP2).out.kept (grown_setB _ ⟨g2, 0, none⟩ (.string ⟨#[]⟩)) (.inr NE2.out)).kept (grown_setB _ ⟨g2, 1, none⟩ (.slice A m c)) (.inr NE2.out)).kept (grown_setB _ ⟨g2, 2, none⟩ (.bool no)) (.inr NE2.out)).kept (grown_setB _ ⟨g2, 3, none⟩ (.int .i64 1)) (.inr NE2.out)).kept (grown_setB _ ⟨g2, 4, none⟩ (.int .i64 (-1))) (.inr NE2.out)
              have hll := (HP2).out.len
              have hpf : (⟨#[]⟩ : ByteArray).size ≤ s.size := Nat.zero_le _
              have hgs : GoodStr ⟨#[]⟩ := by unfold GoodStr; exact Nat.le_trans hpf (by omega)
              have hml : m ≤ s.size := by omega
              exact ⟨⟨⟨#[]⟩, L, no, 1, (-1), ⟨A, m, c⟩⟩, p5, rfl, hRD, by omega, ⟨⟨hOO.sl, (HP2).out.cap, (show m * 2 ≤ 140737488351232 by omega), fun _ _ => trivial⟩, hgs, (show I64 1 by unfold I64; omega), (show I64 (-1) by unfold I64; omega)⟩, hpf, (show (L).length ≤ s.size by omega), fun j hj => (HP2).out.ge j hj⟩
            | false =>
              have z0 := (HJ5).out.x.cell 0
              have z1 := (HJ5).out.x.cell 1
              have z2 := (HJ5).out.x.cell 2
              have z3 := (HJ5).out.x.cell 3
              have z4 := (HJ5).out.x.cell 4
              have y0 := (HJ5).out.y.cell 0
              have y1 := (HJ5).out.y.cell 1
              have y2 := (HJ5).out.y.cell 2
              have y3 := (HJ5).out.y.cell 3
              have y4 := (HJ5).out.y.cell 4
              have q0 := (HJ5).out.y.frozen 0
              have q1 := (HJ5).out.y.frozen 1
              have q2 := (HJ5).out.y.frozen 2
              have q3 := (HJ5).out.y.frozen 3
              have q4 := (HJ5).out.y.frozen 4
              simp at z0 z1 z2 z3 z4 y0 y1 y2 y3 y4
              have NE2 : Hid (ob A ≠ some g2) := by
                have n2 := own_blk_ne (HP5).out.own (HJ5).out.y (by decide)
                rw [ob_own] at n2
                exact n2
              go_wp2
              refine bodyPost_ret (results_cell_row rfl _ _ g2 152 #[.string ⟨#[]⟩, .slice A m c, .bool no, .int .i64 1, .int .i64 1] (0, 0) _ rfl (((((HJ5).out.y.set_ 0 _).set_ 1 _).set_ 2 _).set_ 3 _ |>.set_ 4 _) Tryz.underlying152 rfl info_itm5) rfl ?_
              have hgg := (HJ5).out.e2
              have hRD := ((((((⟨(HJ5).out.r, (HJ5).out.gr⟩ : RdW w v5 g p5).far hlt hgg 0 (.string ⟨#[]⟩)).far hlt hgg 1 (.slice A m c)).far hlt hgg 2 (.bool no)).far hlt hgg 3 (.int .i64 1)).far hlt hgg 4 (.int .i64 1))
              have hOO := (((((HP5).out.kept (grown_setB _ ⟨g2, 0, none⟩ (.string ⟨#[]⟩)) (.inr NE2.out)).kept (grown_setB _ ⟨g2, 1, none⟩ (.slice A m c)) (.inr NE2.out)).kept (grown_setB _ ⟨g2, 2, none⟩ (.bool no)) (.inr NE2.out)).kept (grown_setB _ ⟨g2, 3, none⟩ (.int .i64 1)) (.inr NE2.out)).kept (grown_setB _ ⟨g2, 4, none⟩ (.int .i64 1)) (.inr NE2.out)
              have hll := (HP5).out.len
              have hpf : (⟨#[]⟩ : ByteArray).size ≤ s.size := Nat.zero_le _
              have hgs : GoodStr ⟨#[]⟩ := by unfold GoodStr; exact Nat.le_trans hpf (by omega)
              have hml : m ≤ s.size := by omega
              exact ⟨⟨⟨#[]⟩, L, no, 1, 1, ⟨A, m, c⟩⟩, p5, rfl, hRD, by omega, ⟨⟨hOO.sl, (HP5).out.cap, (show m * 2 ≤ 140737488351232 by omega), fun _ _ => trivial⟩, hgs, (show I64 1 by unfold I64; omega), (show I64 1 by unfold I64; omega)⟩, hpf, (show (L).length ≤ s.size by omega), fun j hj => (HP5).out.ge j hj⟩
      · have hte := tl_full hs30
        have hs3p : 0 < s3.size := by omega
        clear hs30
        go_wp2_with (first
          | (go_at_call 71; refine Hid.out ?_))
        refine Hid.mk_ ((cutW_any HI.out.r _).mono ?_)
        rintro e w4 ⟨s4, r, rfl, hr1, hr2, hr3⟩
        cases r with
        | true =>
          have HI4 := Lib.hid (HI.out.cut hr1)
          have HO4 := Lib.hid (HI.out.own HO.out hr1 (Nat.le_refl _))
          have hz4 : s4.size ≤ s3.size := by have := hr3 rfl; omega
          clear hr1 hr2 hr3
          go_wp2_with (first
            | (go_at_call 71; refine Hid.out ?_))
          refine Hid.mk_ ((cutW_any (HI4).out.r _).mono ?_)
          rintro e v1 ⟨p1, r, rfl, hr1, hr2, hr3⟩
          have HJ1 := Lib.hid ((HI4).out.cut hr1)
          have HP1 := Lib.hid ((HI4).out.own (HO4).out hr1 (Nat.le_refl _))
          have hq1 : p1.size ≤ (s4).size := by
            cases r with
            | false => rw [hr2 rfl]; exact Nat.le_refl _
            | true => have := hr3 rfl; omega
          clear hr1 hr2 hr3
          cases r with
          | true =>
            have z3 := (HJ1).out.x.cell 3
            have z4 := (HJ1).out.x.cell 4
            have f3 := (HJ1).out.x.frozen 3
            have f4 := (HJ1).out.x.frozen 4
            simp at z3 z4
            have hJ2 := ((HJ1).out.set3 3 (.int .i64 0)).set3 4 (.int .i64 1)
            simp at hJ2
            have HJ2 := Lib.hid hJ2
            have HP2 := Lib.hid (((HJ1).out.set3 3 (.int .i64 0)).own3 ((HJ1).out.own3 (HP1).out (by decide) 3 (.int .i64 0)) (by decide) 4 (.int .i64 1))
            clear hJ2
            go_upto_region 21 with fail
            obtain ⟨v2, hv2⟩ : ∃ v2, v2 = ((v1).setCell ⟨g3, 3, none⟩ (.int .i64 0)).setCell ⟨g3, 4, none⟩ (.int .i64 1) := ⟨_, rfl⟩
            rw [← hv2] at HJ2 HP2 ⊢
            clear hv2 z3 z4 f3 f4
            have z0 := (HJ2).out.x.cell 0
            have z1 := (HJ2).out.x.cell 1
            have z2 := (HJ2).out.x.cell 2
            have z3 := (HJ2).out.x.cell 3
            have z4 := (HJ2).out.x.cell 4
            have y0 := (HJ2).out.y.cell 0
            have y1 := (HJ2).out.y.cell 1
            have y2 := (HJ2).out.y.cell 2
            have y3 := (HJ2).out.y.cell 3
            have y4 := (HJ2).out.y.cell 4
            have q0 := (HJ2).out.y.frozen 0
            have q1 := (HJ2).out.y.frozen 1
            have q2 := (HJ2).out.y.frozen 2
            have q3 := (HJ2).out.y.frozen 3
            have q4 := (HJ2).out.y.frozen 4
            simp at z0 z1 z2 z3 z4 y0 y1 y2 y3 y4
            have NE2 : Hid (ob A ≠ some g2) := by
              have n2 := own_blk_ne (HP2).out.own (HJ2).out.y (by decide)
              rw [ob_own] at n2
              exact n2
            go_wp2
            refine bodyPost_ret (results_cell_row rfl _ _ g2 152 #[.string ⟨#[]⟩, .slice A m c, .bool no, .int .i64 0, .int .i64 1] (0, 0) _ rfl (((((HJ2).out.y.set_ 0 _).set_ 1 _).set_ 2 _).set_ 3 _ |>.set_ 4 _) Tryz.underlying152 rfl info_itm5) rfl ?_
            have hgg := (HJ2).out.e2
            have hRD := ((((((⟨(HJ2).out.r, (HJ2).out.gr⟩ : RdW w v2 g p1).far hlt hgg 0 (.string ⟨#[]⟩)).far hlt hgg 1 (.slice A m c)).far hlt hgg 2 (.bool no)).far hlt hgg 3 (.int .i64 0)).far hlt hgg 4 (.int .i64 1))
            have hOO := (((((HP2).out.kept (grown_setB _ ⟨g2, 0, none⟩ (.string ⟨#[]⟩)) (.inr NE2.out)).kept (grown_setB _ ⟨g2, 1, none⟩ (.slice A m c)) (.inr NE2.out)).kept (grown_setB _ ⟨g2, 2, none⟩ (.bool no)) (.inr NE2.out)).kept (grown_setB _ ⟨g2, 3, none⟩ (.int .i64 0)) (.inr NE2.out)).kept (grown_setB _ ⟨g2, 4, none⟩ (.int .i64 1)) (.inr NE2.out)
            have hll := (HP2).out.len
            have hpf : (⟨#[]⟩ : ByteArray).size ≤ s.size := Nat.zero_le _
            have hgs : GoodStr ⟨#[]⟩ := by unfold GoodStr; exact Nat.le_trans hpf (by omega)
            have hml : m ≤ s.size := by omega
            exact ⟨⟨⟨#[]⟩, L, no, 0, 1, ⟨A, m, c⟩⟩, p1, rfl, hRD, by omega, ⟨⟨hOO.sl, (HP2).out.cap, (show m * 2 ≤ 140737488351232 by omega), fun _ _ => trivial⟩, hgs, (show I64 0 by unfold I64; omega), (show I64 1 by unfold I64; omega)⟩, hpf, (show (L).length ≤ s.size by omega), fun j hj => (HP2).out.ge j hj⟩
          | false =>
            go_wp2_with (first
              | (go_at_call 71; refine Hid.out ?_))
            refine Hid.mk_ ((cutW_any HJ1.out.r _).mono ?_)
            rintro e v3 ⟨p3, r, rfl, hr1, hr2, hr3⟩
            have HJ3 := Lib.hid (HJ1.out.cut hr1)
            have HP3 := Lib.hid (HJ1.out.own HP1.out hr1 (Nat.le_refl _))
            have hq3 : p3.size ≤ p1.size := by
              cases r with
              | false => rw [hr2 rfl]; exact Nat.le_refl _
              | true => have := hr3 rfl; omega
            clear hr1 hr2 hr3
            cases r with
            | true =>
              have z3 := (HJ3).out.x.cell 3
              have z4 := (HJ3).out.x.cell 4
              have f3 := (HJ3).out.x.frozen 3
              have f4 := (HJ3).out.x.frozen 4
              simp at z3 z4
              have hJ2 := ((HJ3).out.set3 3 (.int .i64 0)).set3 4 (.int .i64 (-1))
              simp at hJ2
              have HJ2 := Lib.hid hJ2
              have HP2 := Lib.hid (((HJ3).out.set3 3 (.int .i64 0)).own3 ((HJ3).out.own3 (HP3).out (by decide) 3 (.int .i64 0)) (by decide) 4 (.int .i64 (-1)))
              clear hJ2
              go_upto_region 21 with fail
              obtain ⟨v2, hv2⟩ : ∃ v2, v2 = ((v3).setCell ⟨g3, 3, none⟩ (.int .i64 0)).setCell ⟨g3, 4, none⟩ (.int .i64 (-1)) := ⟨_, rfl⟩
              rw [← hv2] at HJ2 HP2 ⊢
              clear hv2 z3 z4 f3 f4
              have z0 := (HJ2).out.x.cell 0
              have z1 := (HJ2).out.x.cell 1
              have z2 := (HJ2).out.x.cell 2
              have z3 := (HJ2).out.x.cell 3
              have z4 := (HJ2).out.x.cell 4
              have y0 := (HJ2).out.y.cell 0
              have y1 := (HJ2).out.y.cell 1
              have y2 := (HJ2).out.y.cell 2
              have y3 := (HJ2).out.y.cell 3
              have y4 := (HJ2).out.y.cell 4
              have q0 := (HJ2).out.y.frozen 0
              have q1 := (HJ2).out.y.frozen 1
              have q2 := (HJ2).out.y.frozen 2
              have q3 := (HJ2).out.y.frozen 3
              have q4 := (HJ2).out.y.frozen 4
              simp at z0 z1 z2 z3 z4 y0 y1 y2 y3 y4
              have NE2 : Hid (ob A ≠ some g2) := by
                have n2 := own_blk_ne (HP2).out.own (HJ2).out.y (by decide)
                rw [ob_own] at n2
                exact n2
              go_wp2
              refine bodyPost_ret (results_cell_row rfl _ _ g2 152 #[.string ⟨#[]⟩, .slice A m c, .bool no, .int .i64 0, .int .i64 (-1)] (0, 0) _ rfl (((((HJ2).out.y.set_ 0 _).set_ 1 _).set_ 2 _).set_ 3 _ |>.set_ 4 _) Tryz.underlying152 rfl info_itm5) rfl ?_
              have hgg := (HJ2).out.e2
              have hRD := ((((((⟨(HJ2).out.r, (HJ2).out.gr⟩ : RdW w v2 g p3).far hlt hgg 0 (.string ⟨#[]⟩)).far hlt hgg 1 (.slice A m c)).far hlt hgg 2 (.bool no)).far hlt hgg 3 (.int .i64 0)).far hlt hgg 4 (.int .i64 (-1)))
              have hOO := (((((HP2).out.kept (grown_setB _ ⟨g2, 0, none⟩ (.string ⟨#[]⟩)) (.inr NE2.out)).kept (grown_setB _ ⟨g2, 1, none⟩ (.slice A m c)) (.inr NE2.out)).kept (grown_setB _ ⟨g2, 2, none⟩ (.bool no)) (.inr NE2.out)).kept (grown_setB _ ⟨g2, 3, none⟩ (.int .i64 0)) (.inr NE2.out)).kept (grown_setB _ ⟨g2, 4, none⟩ (.int .i64 (-1))) (.inr NE2.out)
              have hll := (HP2).out.len
              have hpf : (⟨#[]⟩ : ByteArray).size ≤ s.size := Nat.zero_le _
              have hgs : GoodStr ⟨#[]⟩ := by unfold GoodStr; exact Nat.le_trans hpf (by omega)
              have hml : m ≤ s.size := by omega
              exact ⟨⟨⟨#[]⟩, L, no, 0, (-1), ⟨A, m, c⟩⟩, p3, rfl, hRD, by omega, ⟨⟨hOO.sl, (HP2).out.cap, (show m * 2 ≤ 140737488351232 by omega), fun _ _ => trivial⟩, hgs, (show I64 0 by unfold I64; omega), (show I64 (-1) by unfold I64; omega)⟩, hpf, (show (L).length ≤ s.size by omega), fun j hj => (HP2).out.ge j hj⟩
            | false =>
              go_wp2_with (first
                | (go_at_call 71; refine Hid.out ?_))
              refine Hid.mk_ ((cutW_any HJ3.out.r _).mono ?_)
              rintro e v5 ⟨p5, r, rfl, hr1, hr2, hr3⟩
              have HJ5 := Lib.hid (HJ3.out.cut hr1)
              have HP5 := Lib.hid (HJ3.out.own HP3.out hr1 (Nat.le_refl _))
              have hq5 : p5.size ≤ p3.size := by
                cases r with
                | false => rw [hr2 rfl]; exact Nat.le_refl _
                | true => have := hr3 rfl; omega
              clear hr1 hr2 hr3
              cases r with
              | true =>
                have z3 := (HJ5).out.x.cell 3
                have z4 := (HJ5).out.x.cell 4
                have f3 := (HJ5).out.x.frozen 3
                have f4 := (HJ5).out.x.frozen 4
                simp at z3 z4
                have hJ2 := ((HJ5).out.set3 3 (.int .i64 1)).set3 4 (.int .i64 (-1))
                simp at hJ2
                have HJ2 := Lib.hid hJ2
                have HP2 := Lib.hid (((HJ5).out.set3 3 (.int .i64 1)).own3 ((HJ5).out.own3 (HP5).out (by decide) 3 (.int .i64 1)) (by decide) 4 (.int .i64 (-1)))
                clear hJ2
                go_upto_region 21 with fail
                obtain ⟨v2, hv2⟩ : ∃ v2, v2 = ((v5).setCell ⟨g3, 3, none⟩ (.int .i64 1)).setCell ⟨g3, 4, none⟩ (.int .i64 (-1)) := ⟨_, rfl⟩
                rw [← hv2] at HJ2 HP2 ⊢
                clear hv2 z3 z4 f3 f4
                have z0 := (HJ2).out.x.cell 0
                have z1 := (HJ2).out.x.cell 1
                have z2 := (HJ2).out.x.cell 2
                have z3 := (HJ2).out.x.cell 3
                have z4 := (HJ2).out.x.cell 4
                have y0 := (HJ2).out.y.cell 0
                have y1 := (HJ2).out.y.cell 1
                have y2 := (HJ2).out.y.cell 2
                have y3 := (HJ2).out.y.cell 3
                have y4 := (HJ2).out.y.cell 4
                have q0 := (HJ2).out.y.frozen 0
                have q1 := (HJ2).out.y.frozen 1
                have q2 := (HJ2).out.y.frozen 2
                have q3 := (HJ2).out.y.frozen 3
                have q4 := (HJ2).out.y.frozen 4
                simp at z0 z1 z2 z3 z4 y0 y1 y2 y3 y4
                have NE2 : Hid (ob A ≠ some g2) := by
                  have n2 := own_blk_ne (HP2).out.own (HJ2).out.y (by decide)
                  rw [ob_own] at n2
                  exact n2
                go_wp2
                refine bodyPost_ret (results_cell_row rfl _ _ g2 152 #[.string ⟨#[]⟩, .slice A m c, .bool no, .int .i64 1, .int .i64 (-1)] (0, 0) _ rfl (((((HJ2).out.y.set_ 0 _).set_ 1 _).set_ 2 _).set_ 3 _ |>.set_ 4 _) Tryz.underlying152 rfl info_itm5) rfl ?_
                have hgg := (HJ2).out.e2
                have hRD := ((((((⟨(HJ2).out.r, (HJ2).out.gr⟩ : RdW w v2 g p5).far hlt hgg 0 (.string ⟨#[]⟩)).far hlt hgg 1 (.slice A m c)).far hlt hgg 2 (.bool no)).far hlt hgg 3 (.int .i64 1)).far hlt hgg 4 (.int .i64 (-1)))
                have hOO := (((((HP2).out.kept (grown_setB _ ⟨g2, 0, none⟩ (.string ⟨#[]⟩)) (.inr NE2.out)).kept (grown_setB _ ⟨g2, 1, none⟩ (.slice A m c)) (.inr NE2.out)).kept (grown_setB _ ⟨g2, 2, none⟩ (.bool no)) (.inr NE2.out)).kept (grown_setB _ ⟨g2, 3, none⟩ (.int .i64 1)) (.inr NE2.out)).kept (grown_setB _ ⟨g2, 4, none⟩ (.int .i64 (-1))) (.inr NE2.out)
                have hll := (HP2).out.len
                have hpf : (⟨#[]⟩ : ByteArray).size ≤ s.size := Nat.zero_le _
                have hgs : GoodStr ⟨#[]⟩ := by unfold GoodStr; exact Nat.le_trans hpf (by omega)
                have hml : m ≤ s.size := by omega
                exact ⟨⟨⟨#[]⟩, L, no, 1, (-1), ⟨A, m, c⟩⟩, p5, rfl, hRD, by omega, ⟨⟨hOO.sl, (HP2).out.cap, (show m * 2 ≤ 140737488351232 by omega), fun _ _ => trivial⟩, hgs, (show I64 1 by unfold I64; omega), (show I64 (-1) by unfold I64; omega)⟩, hpf, (show (L).length ≤ s.size by omega), fun j hj => (HP2).out.ge j hj⟩
              | false =>
                have z0 := (HJ5).out.x.cell 0
                have z1 := (HJ5).out.x.cell 1
                have z2 := (HJ5).out.x.cell 2
                have z3 := (HJ5).out.x.cell 3
                have z4 := (HJ5).out.x.cell 4
                have y0 := (HJ5).out.y.cell 0
                have y1 := (HJ5).out.y.cell 1
                have y2 := (HJ5).out.y.cell 2
                have y3 := (HJ5).out.y.cell 3
                have y4 := (HJ5).out.y.cell 4
                have q0 := (HJ5).out.y.frozen 0
                have q1 := (HJ5).out.y.frozen 1
                have q2 := (HJ5).out.y.frozen 2
                have q3 := (HJ5).out.y.frozen 3
                have q4 := (HJ5).out.y.frozen 4
                simp at z0 z1 z2 z3 z4 y0 y1 y2 y3 y4
                have NE2 : Hid (ob A ≠ some g2) := by
                  have n2 := own_blk_ne (HP5).out.own (HJ5).out.y (by decide)
                  rw [ob_own] at n2
                  exact n2
                go_wp2
                refine bodyPost_ret (results_cell_row rfl _ _ g2 152 #[.string ⟨#[]⟩, .slice A m c, .bool no, .int .i64 1, .int .i64 1] (0, 0) _ rfl (((((HJ5).out.y.set_ 0 _).set_ 1 _).set_ 2 _).set_ 3 _ |>.set_ 4 _) Tryz.underlying152 rfl info_itm5) rfl ?_
                have hgg := (HJ5).out.e2
                have hRD := ((((((⟨(HJ5).out.r, (HJ5).out.gr⟩ : RdW w v5 g p5).far hlt hgg 0 (.string ⟨#[]⟩)).far hlt hgg 1 (.slice A m c)).far hlt hgg 2 (.bool no)).far hlt hgg 3 (.int .i64 1)).far hlt hgg 4 (.int .i64 1))
                have hOO := (((((HP5).out.kept (grown_setB _ ⟨g2, 0, none⟩ (.string ⟨#[]⟩)) (.inr NE2.out)).kept (grown_setB _ ⟨g2, 1, none⟩ (.slice A m c)) (.inr NE2.out)).kept (grown_setB _ ⟨g2, 2, none⟩ (.bool no)) (.inr NE2.out)).kept (grown_setB _ ⟨g2, 3, none⟩ (.int .i64 1)) (.inr NE2.out)).kept (grown_setB _ ⟨g2, 4, none⟩ (.int .i64 1)) (.inr NE2.out)
                have hll := (HP5).out.len
                have hpf : (⟨#[]⟩ : ByteArray).size ≤ s.size := Nat.zero_le _
                have hgs : GoodStr ⟨#[]⟩ := by unfold GoodStr; exact Nat.le_trans hpf (by omega)
                have hml : m ≤ s.size := by omega
                exact ⟨⟨⟨#[]⟩, L, no, 1, 1, ⟨A, m, c⟩⟩, p5, rfl, hRD, by omega, ⟨⟨hOO.sl, (HP5).out.cap, (show m * 2 ≤ 140737488351232 by omega), fun _ _ => trivial⟩, hgs, (show I64 1 by unfold I64; omega), (show I64 1 by unfold I64; omega)⟩, hpf, (show (L).length ≤ s.size by omega), fun j hj => (HP5).out.ge j hj⟩
        | false =>
          obtain rfl : s4 = s3 := hr2 rfl
          have HI4 := Lib.hid (HI.out.cut hr1)
          have HO4 := Lib.hid (HI.out.own HO.out hr1 (Nat.le_refl _))
          clear hr1 hr2 hr3
          go_wp2_with (first
            | (go_at_call 101; refine Hid.out ?_))
          refine Hid.mk_ ((oneW_any HI4.out.r hs3p (by omega)).mono ?_)
          rintro e w5 ⟨s5, z, rfl, hz256, hr5, hz5⟩
          have HI5 := Lib.hid (HI4.out.cut hr5)
          have HO5 := Lib.hid (HI4.out.own HO4.out hr5 (Nat.le_refl _))
          have k5 := HI5.out.r.cell 0
          simp at k5
          clear hr5
          by_cases h1 : 1 < s5.size
          ·
            go_wp2_with (first
              | (go_at_call 71; refine Hid.out ?_))
            refine Hid.mk_ ((cutW_any HI5.out.r _).mono ?_)
            rintro e w6 ⟨s6, r, rfl, hr1, hr2, hr3⟩
            have HI6 := Lib.hid (HI5.out.cut hr1)
            have HO6 := Lib.hid (HI5.out.own HO5.out hr1 (Nat.le_refl _))
            cases r with
            | true =>
              have hz6 : s6.size + 1 = s5.size := hr3 rfl
              clear hr1 hr2 hr3
              go_wp2_with (first
                | (go_at_call 101; refine Hid.out ?_))
              refine Hid.mk_ ((oneW_any HI6.out.r (by omega) (by omega)).mono ?_)
              rintro e w7 ⟨s7, y, rfl, hy256, hr7, hz7⟩
              have HI7 := Lib.hid (HI6.out.cut hr7)
              have HO7 := Lib.hid (HI6.out.own HO6.out hr7 (Nat.le_refl _))
              clear hr7
              have t1 := (HI7).out.x.cell 1
              have f1 := (HI7).out.x.frozen 1
              simp at t1
              have hnew := SlC.new_ (cs := rngC) w7 [(byt z, byt y)] rngC_len (by simp) #[.int .u8 (z : Int), .int .u8 (y : Int)] (by simp [rngC, bv, byt]; omega) (0, 0) 1 rfl 179
              have hEa : Ext w7 ((w7).alloc (Obj.cells #[.int .u8 (z : Int), .int .u8 (y : Int)] 179)) := (Ext.refl _).alloc _
              have hlW := (HI7).out.gr.size
              go_wp2_with (first
                | (at_builtin; refine Hid.out ?_))
              refine Hid.mk_ ?_
              refine appC2 einf_rng rfl _ _ rfl ((HO7).out.ext hEa) rfl hnew rfl (by omega) (by omega) (by have := hEa.size_le; omega) ?_
              intro A8 m8 c8 w8 ho8 hg8 hn8
              have hI8 := ((HI7).out.ext hEa).grown hg8 ((HO7).out.ext hEa).own (Nat.le_refl _) (by decide) (by decide)
              have k8 := hI8.x.cell 1
              have f8 := hI8.x.frozen 1
              simp at k8
              have HI9 := hI8.set3 1 (.slice A8 m8 c8)
              simp at HI9
              have HO9 := hI8.own3 ho8 (by decide) 1 (.slice A8 m8 c8)
              have HM8 : Hid (m8 ≤ m + 1) := by show m8 ≤ m + 1; rw [ho8.len, List.length_append, ← (HO7).out.len]; exact Nat.le_refl _
              have HI9 := Lib.hid HI9
              have HO9 := Lib.hid HO9
              clear ho8 hg8 hn8 hI8 hnew
              go_wp2
              all_goals first
                | (refine ⟨⟨s7, A8, m8, c8, _, by have := HM8.out; omega, HI9, HO9⟩, ?_⟩; show rdSz _ g < rdSz _ g; rw [rdSz_eq HI9.out.r, rdSz_eq HI.out.r]; omega)
                | (go_roundw; (case rel => exact ⟨s7, A8, m8, c8, _, by have := HM8.out; omega, HI9, HO9⟩); (case measure => (show rdSz _ g < rdSz _ g; rw [rdSz_eq HI9.out.r, rdSz_eq HI.out.r]; omega)))
            | false =>
              obtain rfl : s6 = s5 := hr2 rfl
              clear hr1 hr2 hr3
              have t1 := (HI6).out.x.cell 1
              have f1 := (HI6).out.x.frozen 1
              simp at t1
              have hnew := SlC.new_ (cs := rngC) w6 [(byt z, byt z)] rngC_len (by simp) #[.int .u8 (z : Int), .int .u8 (z : Int)] (by simp [rngC, bv, byt]; omega) (0, 0) 1 rfl 179
              have hEa : Ext w6 ((w6).alloc (Obj.cells #[.int .u8 (z : Int), .int .u8 (z : Int)] 179)) := (Ext.refl _).alloc _
              have hlW := (HI6).out.gr.size
              go_wp2_with (first
                | (at_builtin; refine Hid.out ?_))
              refine Hid.mk_ ?_
              refine appC2 einf_rng rfl _ _ rfl ((HO6).out.ext hEa) rfl hnew rfl (by omega) (by omega) (by have := hEa.size_le; omega) ?_
              intro A8 m8 c8 w8 ho8 hg8 hn8
              have hI8 := ((HI6).out.ext hEa).grown hg8 ((HO6).out.ext hEa).own (Nat.le_refl _) (by decide) (by decide)
              have k8 := hI8.x.cell 1
              have f8 := hI8.x.frozen 1
              simp at k8
              have HI9 := hI8.set3 1 (.slice A8 m8 c8)
              simp at HI9
              have HO9 := hI8.own3 ho8 (by decide) 1 (.slice A8 m8 c8)
              have HM8 : Hid (m8 ≤ m + 1) := by show m8 ≤ m + 1; rw [ho8.len, List.length_append, ← (HO6).out.len]; exact Nat.le_refl _
              have HI9 := Lib.hid HI9
              have HO9 := Lib.hid HO9
              clear ho8 hg8 hn8 hI8 hnew
              go_wp2
              all_goals first
                | (refine ⟨⟨s6, A8, m8, c8, _, by have := HM8.out; omega, HI9, HO9⟩, ?_⟩; show rdSz _ g < rdSz _ g; rw [rdSz_eq HI9.out.r, rdSz_eq HI.out.r]; omega)
                | (go_roundw; (case rel => exact ⟨s6, A8, m8, c8, _, by have := HM8.out; omega, HI9, HO9⟩); (case measure => (show rdSz _ g < rdSz _ g; rw [rdSz_eq HI9.out.r, rdSz_eq HI.out.r]; omega)))
          ·
            have t1 := (HI5).out.x.cell 1
            have f1 := (HI5).out.x.frozen 1
            simp at t1
            have hnew := SlC.new_ (cs := rngC) w5 [(byt z, byt z)] rngC_len (by simp) #[.int .u8 (z : Int), .int .u8 (z : Int)] (by simp [rngC, bv, byt]; omega) (0, 0) 1 rfl 179
            have hEa : Ext w5 ((w5).alloc (Obj.cells #[.int .u8 (z : Int), .int .u8 (z : Int)] 179)) := (Ext.refl _).alloc _
            have hlW := (HI5).out.gr.size
            go_wp2_with (first
              | (at_builtin; refine Hid.out ?_))
            refine Hid.mk_ ?_
            refine appC2 einf_rng rfl _ _ rfl ((HO5).out.ext hEa) rfl hnew rfl (by omega) (by omega) (by have := hEa.size_le; omega) ?_
            intro A8 m8 c8 w8 ho8 hg8 hn8
            have hI8 := ((HI5).out.ext hEa).grown hg8 ((HO5).out.ext hEa).own (Nat.le_refl _) (by decide) (by decide)
            have k8 := hI8.x.cell 1
            have f8 := hI8.x.frozen 1
            simp at k8
            have HI9 := hI8.set3 1 (.slice A8 m8 c8)
            simp at HI9
            have HO9 := hI8.own3 ho8 (by decide) 1 (.slice A8 m8 c8)
            have HM8 : Hid (m8 ≤ m + 1) := by show m8 ≤ m + 1; rw [ho8.len, List.length_append, ← (HO5).out.len]; exact Nat.le_refl _
            have HI9 := Lib.hid HI9
            have HO9 := Lib.hid HO9
            clear ho8 hg8 hn8 hI8 hnew
            go_wp2
            all_goals first
              | (refine ⟨⟨s5, A8, m8, c8, _, by have := HM8.out; omega, HI9, HO9⟩, ?_⟩; show rdSz _ g < rdSz _ g; rw [rdSz_eq HI9.out.r, rdSz_eq HI.out.r]; omega)
              | (go_roundw; (case rel => exact ⟨s5, A8, m8, c8, _, by have := HM8.out; omega, HI9, HO9⟩); (case measure => (show rdSz _ g < rdSz _ g; rw [rdSz_eq HI9.out.r, rdSz_eq HI.out.r]; omega)))
  | false =>
    have hz1 : s1.size ≤ s.size := by rw [hr2 rfl]; exact Nat.le_refl _
    have hp1 : 0 < s1.size := by rw [hr2 rfl]; exact hs
    clear hr2 hr3 hI hr1
    go_wp2_with (first
      | (go_at_call 71; refine Hid.out ?_))
    refine Hid.mk_ ((cutW_any hI1.r _).mono ?_)
    rintro e w2 ⟨s2, rq, rfl, hr1, hr2, hr3⟩
    have hI2 := hI1.cut hr1
    have hz2' : s2.size ≤ s1.size := by
      cases rq with
      | false => rw [hr2 rfl]; exact Nat.le_refl _
      | true => have := hr3 rfl; omega
    have hw2 := hI2.gr.size
    clear hr1 hr2 hr3 hI1
    go_wp2
    go_loopw [6] (fun v wr => ∃ (s3 : ByteArray) (A : Option Addr) (m c : Nat) (L : List UInt8), v = .slice A m c ∧ s3.size + m ≤ s2.size ∧ Hid (ItS w wr g g2 g3 s3 #[.string ⟨#[]⟩, .slice none 0 0, .bool false, .int .i64 1, .int .i64 1]) ∧ Hid (OsB wr w.heap.size A m c L)) (fun _ wr => rdSz wr g)
    case atStart => exact ⟨s2, none, 0, 0, [], rfl, Nat.le_refl _, hI2, OsB.nil_⟩
    case round =>
      obtain ⟨s3, A, m, c, L, rfl, hsm, HI, HO⟩ := hrel
      have k0 := HI.out.r.cell 0
      simp at k0
      by_cases hs30 : s3.size = 0
      · have hte := tl_empty hs30
        have hcv := conv_str (HO).out.sl c
        have hmL := (HO).out.len
        obtain ⟨t, ht⟩ : ∃ t, t = str L := ⟨_, rfl⟩
        have hts : t.size = L.length := by rw [ht]; exact sz_mk _
        have hts2 : t.size ≤ s.size := by rw [hts, ← hmL]; omega
        rw [← ht] at hcv
        clear ht hts hmL
        have z0 := (HI).out.x.cell 0
        have f0 := (HI).out.x.frozen 0
        simp at z0
        have hJ2 := (HI).out.set3 0 (.string t)
        simp at hJ2
        go_upto_region 15 with fail
        obtain ⟨v0, hv0⟩ : ∃ v0, v0 = (wr).setCell ⟨g3, 0, none⟩ (.string t) := ⟨_, rfl⟩
        rw [← hv0] at hJ2 ⊢
        have HJ0 := Lib.hid hJ2
        have HON : Hid (OsC rngC 179 2 v0 w.heap.size none 0 0 ([] : List (UInt8 × UInt8))) := OsC.nil_ rngC_len rngC_cell
        clear hJ2 hv0 z0 f0 hcv
        go_wp2_with (first
          | (go_at_call 71; refine Hid.out ?_))
        refine Hid.mk_ ((cutW_any (HJ0).out.r _).mono ?_)
        rintro e v1 ⟨p1, r, rfl, hr1, hr2, hr3⟩
        have HJ1 := Lib.hid ((HJ0).out.cut hr1)
        have HP1 := Lib.hid ((HJ0).out.own (HON).out hr1 (Nat.le_refl _))
        have hq1 : p1.size ≤ (s3).size := by
          cases r with
          | false => rw [hr2 rfl]; exact Nat.le_refl _
          | true => have := hr3 rfl; omega
        clear hr1 hr2 hr3
        cases r with
        | true =>
          have z3 := (HJ1).out.x.cell 3
          have z4 := (HJ1).out.x.cell 4
          have f3 := (HJ1).out.x.frozen 3
          have f4 := (HJ1).out.x.frozen 4
          simp at z3 z4
          have hJ2 := ((HJ1).out.set3 3 (.int .i64 0)).set3 4 (.int .i64 1)
          simp at hJ2
          have HJ2 := Lib.hid hJ2
          have HP2 := Lib.hid (((HJ1).out.set3 3 (.int .i64 0)).own3 ((HJ1).out.own3 (HP1).out (by decide) 3 (.int .i64 0)) (by decide) 4 (.int .i64 1))
          clear hJ2
          go_upto_region 21 with fail
          obtain ⟨v2, hv2⟩ : ∃ v2, v2 = ((v1).setCell ⟨g3, 3, none⟩ (.int .i64 0)).setCell ⟨g3, 4, none⟩ (.int .i64 1) := ⟨_, rfl⟩
          rw [← hv2] at HJ2 HP2 ⊢
          clear hv2 z3 z4 f3 f4
          have z0 := (HJ2).out.x.cell 0
          have z1 := (HJ2).out.x.cell 1
          have z2 := (HJ2).out.x.cell 2
          have z3 := (HJ2).out.x.cell 3
          have z4 := (HJ2).out.x.cell 4
          have y0 := (HJ2).out.y.cell 0
          have y1 := (HJ2).out.y.cell 1
          have y2 := (HJ2).out.y.cell 2
          have y3 := (HJ2).out.y.cell 3
          have y4 := (HJ2).out.y.cell 4
          have q0 := (HJ2).out.y.frozen 0
          have q1 := (HJ2).out.y.frozen 1
          have q2 := (HJ2).out.y.frozen 2
          have q3 := (HJ2).out.y.frozen 3
          have q4 := (HJ2).out.y.frozen 4
          simp at z0 z1 z2 z3 z4 y0 y1 y2 y3 y4
          have NE2 : Hid (ob none ≠ some g2) := by
            have n2 := own_blk_ne (HP2).out.own (HJ2).out.y (by decide)
            rw [ob_own] at n2
            exact n2
          go_wp2
          refine bodyPost_ret (results_cell_row rfl _ _ g2 152 #[.string t, .slice none 0 0, .bool false, .int .i64 0, .int .i64 1] (0, 0) _ rfl (((((HJ2).out.y.set_ 0 _).set_ 1 _).set_ 2 _).set_ 3 _ |>.set_ 4 _) Tryz.underlying152 rfl info_itm5) rfl ?_
          have hgg := (HJ2).out.e2
          have hRD := ((((((⟨(HJ2).out.r, (HJ2).out.gr⟩ : RdW w v2 g p1).far hlt hgg 0 (.string t)).far hlt hgg 1 (.slice none 0 0)).far hlt hgg 2 (.bool false)).far hlt hgg 3 (.int .i64 0)).far hlt hgg 4 (.int .i64 1))
          have hOO := (((((HP2).out.kept (grown_setB _ ⟨g2, 0, none⟩ (.string t)) (.inr NE2.out)).kept (grown_setB _ ⟨g2, 1, none⟩ (.slice none 0 0)) (.inr NE2.out)).kept (grown_setB _ ⟨g2, 2, none⟩ (.bool false)) (.inr NE2.out)).kept (grown_setB _ ⟨g2, 3, none⟩ (.int .i64 0)) (.inr NE2.out)).kept (grown_setB _ ⟨g2, 4, none⟩ (.int .i64 1)) (.inr NE2.out)
          have hll := (HP2).out.len
          have hpf : (t : ByteArray).size ≤ s.size := hts2
          have hgs : GoodStr t := by unfold GoodStr; exact Nat.le_trans hpf (by omega)
          have hml : 0 ≤ s.size := by omega
          exact ⟨⟨t, [], false, 0, 1, ⟨none, 0, 0⟩⟩, p1, rfl, hRD, by omega, ⟨⟨hOO.sl, (HP2).out.cap, (show 0 * 2 ≤ 140737488351232 by omega), fun _ _ => trivial⟩, hgs, (show I64 0 by unfold I64; omega), (show I64 1 by unfold I64; omega)⟩, hpf, (show ([]).length ≤ s.size by omega), fun j hj => (HP2).out.ge j hj⟩
        | false =>
          go_wp2_with (first
            | (go_at_call 71; refine Hid.out ?_))
          refine Hid.mk_ ((cutW_any HJ1.out.r _).mono ?_)
          rintro e v3 ⟨p3, r, rfl, hr1, hr2, hr3⟩
          have HJ3 := Lib.hid (HJ1.out.cut hr1)
          have HP3 := Lib.hid (HJ1.out.own HP1.out hr1 (Nat.le_refl _))
          have hq3 : p3.size ≤ p1.size := by
            cases r with
            | false => rw [hr2 rfl]; exact Nat.le_refl _
            | true => have := hr3 rfl; omega
          clear hr1 hr2 hr3
          cases r with
          | true =>
            have z3 := (HJ3).out.x.cell 3
            have z4 := (HJ3).out.x.cell 4
            have f3 := (HJ3).out.x.frozen 3
            have f4 := (HJ3).out.x.frozen 4
            simp at z3 z4
            have hJ2 := ((HJ3).out.set3 3 (.int .i64 0)).set3 4 (.int .i64 (-1))
            simp at hJ2
            have HJ2 := Lib.hid hJ2
            have HP2 := Lib.hid (((HJ3).out.set3 3 (.int .i64 0)).own3 ((HJ3).out.own3 (HP3).out (by decide) 3 (.int .i64 0)) (by decide) 4 (.int .i64 (-1)))
            clear hJ2
            go_upto_region 21 with fail
            obtain ⟨v2, hv2⟩ : ∃ v2, v2 = ((v3).setCell ⟨g3, 3, none⟩ (.int .i64 0)).setCell ⟨g3, 4, none⟩ (.int .i64 (-1)) := ⟨_, rfl⟩
            rw [← hv2] at HJ2 HP2 ⊢
            clear hv2 z3 z4 f3 f4
            have z0 := (HJ2).out.x.cell 0
            have z1 := (HJ2).out.x.cell 1
            have z2 := (HJ2).out.x.cell 2
            have z3 := (HJ2).out.x.cell 3
            have z4 := (HJ2).out.x.cell 4
            have y0 := (HJ2).out.y.cell 0
            have y1 := (HJ2).out.y.cell 1
            have y2 := (HJ2).out.y.cell 2
            have y3 := (HJ2).out.y.cell 3
            have y4 := (HJ2).out.y.cell 4
            have q0 := (HJ2).out.y.frozen 0
            have q1 := (HJ2).out.y.frozen 1
            have q2 := (HJ2).out.y.frozen 2
            have q3 := (HJ2).out.y.frozen 3
            have q4 := (HJ2).out.y.frozen 4
            simp at z0 z1 z2 z3 z4 y0 y1 y2 y3 y4
            have NE2 : Hid (ob none ≠ some g2) := by
              have n2 := own_blk_ne (HP2).out.own (HJ2).out.y (by decide)
              rw [ob_own] at n2
              exact n2
            go_wp2
            refine bodyPost_ret (results_cell_row rfl _ _ g2 152 #[.string t, .slice none 0 0, .bool false, .int .i64 0, .int .i64 (-1)] (0, 0) _ rfl (((((HJ2).out.y.set_ 0 _).set_ 1 _).set_ 2 _).set_ 3 _ |>.set_ 4 _) Tryz.underlying152 rfl info_itm5) rfl ?_
            have hgg := (HJ2).out.e2
            have hRD := ((((((⟨(HJ2).out.r, (HJ2).out.gr⟩ : RdW w v2 g p3).far hlt hgg 0 (.string t)).far hlt hgg 1 (.slice none 0 0)).far hlt hgg 2 (.bool false)).far hlt hgg 3 (.int .i64 0)).far hlt hgg 4 (.int .i64 (-1)))
            have hOO := (((((HP2).out.kept (grown_setB _ ⟨g2, 0, none⟩ (.string t)) (.inr NE2.out)).kept (grown_setB _ ⟨g2, 1, none⟩ (.slice none 0 0)) (.inr NE2.out)).kept (grown_setB _ ⟨g2, 2, none⟩ (.bool false)) (.inr NE2.out)).kept (grown_setB _ ⟨g2, 3, none⟩ (.int .i64 0)) (.inr NE2.out)).kept (grown_setB _ ⟨g2, 4, none⟩ (.int .i64 (-1))) (.inr NE2.out)
            have hll := (HP2).out.len
            have hpf : (t : ByteArray).size ≤ s.size := hts2
            have hgs : GoodStr t := by unfold GoodStr; exact Nat.le_trans hpf (by omega)
            have hml : 0 ≤ s.size := by omega
            exact ⟨⟨t, [], false, 0, (-1), ⟨none, 0, 0⟩⟩, p3, rfl, hRD, by omega, ⟨⟨hOO.sl, (HP2).out.cap, (show 0 * 2 ≤ 140737488351232 by omega), fun _ _ => trivial⟩, hgs, (show I64 0 by unfold I64; omega), (show I64 (-1) by unfold I64; omega)⟩, hpf, (show ([]).length ≤ s.size by omega), fun j hj => (HP2).out.ge j hj⟩
          | false =>
            go_wp2_with (first
              | (go_at_call 71; refine Hid.out ?_))
            refine Hid.mk_ ((cutW_any HJ3.out.r _).mono ?_)
            rintro e v5 ⟨p5, r, rfl, hr1, hr2, hr3⟩
            have HJ5 := Lib.hid (HJ3.out.cut hr1)
            have HP5 := Lib.hid (HJ3.out.own HP3.out hr1 (Nat.le_refl _))
            have hq5 : p5.size ≤ p3.size := by
              cases r with
              | false => rw [hr2 rfl]; exact Nat.le_refl _
              | true => have := hr3 rfl; omega
            clear hr1 hr2 hr3
            cases r with
            | true =>
              have z3 := (HJ5).out.x.cell 3
              have z4 := (HJ5).out.x.cell 4
              have f3 := (HJ5).out.x.frozen 3
              have f4 := (HJ5).out.x.frozen 4
              simp at z3 z4
              have hJ2 := ((HJ5).out.set3 3 (.int .i64 1)).set3 4 (.int .i64 (-1))
              simp at hJ2
              have HJ2 := Lib.hid hJ2
              have HP2 := Lib.hid (((HJ5).out.set3 3 (.int .i64 1)).own3 ((HJ5).out.own3 (HP5).out (by decide) 3 (.int .i64 1)) (by decide) 4 (.int .i64 (-1)))
              clear hJ2
              go_upto_region 21 with fail
              obtain ⟨v2, hv2⟩ : ∃ v2, v2 = ((v5).setCell ⟨g3, 3, none⟩ (.int .i64 1)).setCell ⟨g3, 4, none⟩ (.int .i64 (-1)) := ⟨_, rfl⟩
              rw [← hv2] at HJ2 HP2 ⊢
              clear hv2 z3 z4 f3 f4
              have z0 := (HJ2).out.x.cell 0
              have z1 := (HJ2).out.x.cell 1
              have z2 := (HJ2).out.x.cell 2
              have z3 := (HJ2).out.x.cell 3
              have z4 := (HJ2).out.x.cell 4
              have y0 := (HJ2).out.y.cell 0
              have y1 := (HJ2).out.y.cell 1
              have y2 := (HJ2).out.y.cell 2
              have y3 := (HJ2).out.y.cell 3
              have y4 := (HJ2).out.y.cell 4
              have q0 := (HJ2).out.y.frozen 0
              have q1 := (HJ2).out.y.frozen 1
              have q2 := (HJ2).out.y.frozen 2
              have q3 := (HJ2).out.y.frozen 3
              have q4 := (HJ2).out.y.frozen 4
              simp at z0 z1 z2 z3 z4 y0 y1 y2 y3 y4
              have NE2 : Hid (ob none ≠ some g2) := by
                have n2 := own_blk_ne (HP2).out.own (HJ2).out.y (by decide)
                rw [ob_own] at n2
                exact n2
              go_wp2
              refine bodyPost_ret (results_cell_row rfl _ _ g2 152 #[.string t, .slice none 0 0, .bool false, .int .i64 1, .int .i64 (-1)] (0, 0) _ rfl (((((HJ2).out.y.set_ 0 _).set_ 1 _).set_ 2 _).set_ 3 _ |>.set_ 4 _) Tryz.underlying152 rfl info_itm5) rfl ?_
              have hgg := (HJ2).out.e2
              have hRD := ((((((⟨(HJ2).out.r, (HJ2).out.gr⟩ : RdW w v2 g p5).far hlt hgg 0 (.string t)).far hlt hgg 1 (.slice none 0 0)).far hlt hgg 2 (.bool false)).far hlt hgg 3 (.int .i64 1)).far hlt hgg 4 (.int .i64 (-1)))
              have hOO := (((((HP2).out.kept (grown_setB _ ⟨g2, 0, none⟩ (.string t)) (.inr NE2.out)).kept (grown_setB _ ⟨g2, 1, none⟩ (.slice none 0 0)) (.inr NE2.out)).kept (grown_setB _ ⟨g2, 2, none⟩ (.bool false)) (.inr NE2.out)).kept (grown_setB _ ⟨g2, 3, none⟩ (.int .i64 1)) (.inr NE2.out)).kept (grown_setB _ ⟨g2, 4, none⟩ (.int .i64 (-1))) (.inr NE2.out)
              have hll := (HP2).out.len
              have hpf : (t : ByteArray).size ≤ s.size := hts2
              have hgs : GoodStr t := by unfold GoodStr; exact Nat.le_trans hpf (by omega)
              have hml : 0 ≤ s.size := by omega
              exact ⟨⟨t, [], false, 1, (-1), ⟨none, 0, 0⟩⟩, p5, rfl, hRD, by omega, ⟨⟨hOO.sl, (HP2).out.cap, (show 0 * 2 ≤ 140737488351232 by omega), fun _ _ => trivial⟩, hgs, (show I64 1 by unfold I64; omega), (show I64 (-1) by unfold I64; omega)⟩, hpf, (show ([]).length ≤ s.size by omega), fun j hj => (HP2).out.ge j hj⟩
            | false =>
              have z0 := (HJ5).out.x.cell 0
              have z1 := (HJ5).out.x.cell 1
              have z2 := (HJ5).out.x.cell 2
              have z3 := (HJ5).out.x.cell 3
              have z4 := (HJ5).out.x.cell 4
              have y0 := (HJ5).out.y.cell 0
              have y1 := (HJ5).out.y.cell 1
              have y2 := (HJ5).out.y.cell 2
              have y3 := (HJ5).out.y.cell 3
              have y4 := (HJ5).out.y.cell 4
              have q0 := (HJ5).out.y.frozen 0
              have q1 := (HJ5).out.y.frozen 1
              have q2 := (HJ5).out.y.frozen 2
              have q3 := (HJ5).out.y.frozen 3
              have q4 := (HJ5).out.y.frozen 4
              simp at z0 z1 z2 z3 z4 y0 y1 y2 y3 y4
              have NE2 : Hid (ob none ≠ some g2) := by
                have n2 := own_blk_ne (HP5).out.own (HJ5).out.y (by decide)
                rw [ob_own] at n2
                exact n2
              go_wp2
              refine bodyPost_ret (results_cell_row rfl _ _ g2 152 #[.string t, .slice none 0 0, .bool false, .int .i64 1, .int .i64 1] (0, 0) _ rfl (((((HJ5).out.y.set_ 0 _).set_ 1 _).set_ 2 _).set_ 3 _ |>.set_ 4 _) Tryz.underlying152 rfl info_itm5) rfl ?_
              have hgg := (HJ5).out.e2
              have hRD := ((((((⟨(HJ5).out.r, (HJ5).out.gr⟩ : RdW w v5 g p5).far hlt hgg 0 (.string t)).far hlt hgg 1 (.slice none 0 0)).far hlt hgg 2 (.bool false)).far hlt hgg 3 (.int .i64 1)).far hlt hgg 4 (.int .i64 1))
              have hOO := (((((HP5).out.kept (grown_setB _ ⟨g2, 0, none⟩ (.string t)) (.inr NE2.out)).kept (grown_setB _ ⟨g2, 1, none⟩ (.slice none 0 0)) (.inr NE2.out)).kept (grown_setB _ ⟨g2, 2, none⟩ (.bool false)) (.inr NE2.out)).kept (grown_setB _ ⟨g2, 3, none⟩ (.int .i64 1)) (.inr NE2.out)).kept (grown_setB _ ⟨g2, 4, none⟩ (.int .i64 1)) (.inr NE2.out)
              have hll := (HP5).out.len
              have hpf : (t : ByteArray).size ≤ s.size := hts2
              have hgs : GoodStr t := by unfold GoodStr; exact Nat.le_trans hpf (by omega)
              have hml : 0 ≤ s.size := by omega
              exact ⟨⟨t, [], false, 1, 1, ⟨none, 0, 0⟩⟩, p5, rfl, hRD, by omega, ⟨⟨hOO.sl, (HP5).out.cap, (show 0 * 2 ≤ 140737488351232 by omega), fun _ _ => trivial⟩, hgs, (show I64 1 by unfold I64; omega), (show I64 1 by unfold I64; omega)⟩, hpf, (show ([]).length ≤ s.size by omega), fun j hj => (HP5).out.ge j hj⟩
      · have hte := tl_full hs30
        have hs3p : 0 < s3.size := by omega
        clear hs30
        go_wp2_with (first
          | (go_at_call 71; refine Hid.out ?_))
        refine Hid.mk_ ((cutW_any HI.out.r _).mono ?_)
        rintro e w4 ⟨s4, r, rfl, hr1, hr2, hr3⟩
        have HI4 := Lib.hid (HI.out.cut hr1)
        have HO4 : Hid (OsB w4 w.heap.size A m c L) := HO.out.kept hr1.g (.inr (fun e => by have := HO.out.ge g e; omega))
        cases r with
        | true =>
          have hz4 : s4.size < s3.size := by have := hr3 rfl; rw [bsz1] at this; omega
          clear hr1 hr2 hr3
          have hcv := conv_str (HO4).out.sl c
          have hmL := (HO4).out.len
          obtain ⟨t, ht⟩ : ∃ t, t = str L := ⟨_, rfl⟩
          have hts : t.size = L.length := by rw [ht]; exact sz_mk _
          have hts2 : t.size ≤ s.size := by rw [hts, ← hmL]; omega
          rw [← ht] at hcv
          clear ht hts hmL
          have z0 := (HI4).out.x.cell 0
          have f0 := (HI4).out.x.frozen 0
          simp at z0
          have hJ2 := (HI4).out.set3 0 (.string t)
          simp at hJ2
          go_upto_region 15 with fail
          obtain ⟨v0, hv0⟩ : ∃ v0, v0 = (w4).setCell ⟨g3, 0, none⟩ (.string t) := ⟨_, rfl⟩
          rw [← hv0] at hJ2 ⊢
          have HJ0 := Lib.hid hJ2
          have HON : Hid (OsC rngC 179 2 v0 w.heap.size none 0 0 ([] : List (UInt8 × UInt8))) := OsC.nil_ rngC_len rngC_cell
          clear hJ2 hv0 z0 f0 hcv
          go_wp2_with (first
            | (go_at_call 71; refine Hid.out ?_))
          refine Hid.mk_ ((cutW_any (HJ0).out.r _).mono ?_)
          rintro e v1 ⟨p1, r, rfl, hr1, hr2, hr3⟩
          have HJ1 := Lib.hid ((HJ0).out.cut hr1)
          have HP1 := Lib.hid ((HJ0).out.own (HON).out hr1 (Nat.le_refl _))
          have hq1 : p1.size ≤ (s4).size := by
            cases r with
            | false => rw [hr2 rfl]; exact Nat.le_refl _
            | true => have := hr3 rfl; omega
          clear hr1 hr2 hr3
          cases r with
          | true =>
            have z3 := (HJ1).out.x.cell 3
            have z4 := (HJ1).out.x.cell 4
            have f3 := (HJ1).out.x.frozen 3
            have f4 := (HJ1).out.x.frozen 4
            simp at z3 z4
            have hJ2 := ((HJ1).out.set3 3 (.int .i64 0)).set3 4 (.int .i64 1)
            simp at hJ2
            have HJ2 := Lib.hid hJ2
            have HP2 := Lib.hid (((HJ1).out.set3 3 (.int .i64 0)).own3 ((HJ1).out.own3 (HP1).out (by decide) 3 (.int .i64 0)) (by decide) 4 (.int .i64 1))
            clear hJ2
            go_upto_region 21 with fail
            obtain ⟨v2, hv2⟩ : ∃ v2, v2 = ((v1).setCell ⟨g3, 3, none⟩ (.int .i64 0)).setCell ⟨g3, 4, none⟩ (.int .i64 1) := ⟨_, rfl⟩
            rw [← hv2] at HJ2 HP2 ⊢
            clear hv2 z3 z4 f3 f4
            have z0 := (HJ2).out.x.cell 0
            have z1 := (HJ2).out.x.cell 1
            have z2 := (HJ2).out.x.cell 2
            have z3 := (HJ2).out.x.cell 3
            have z4 := (HJ2).out.x.cell 4
            have y0 := (HJ2).out.y.cell 0
            have y1 := (HJ2).out.y.cell 1
            have y2 := (HJ2).out.y.cell 2
            have y3 := (HJ2).out.y.cell 3
            have y4 := (HJ2).out.y.cell 4
            have q0 := (HJ2).out.y.frozen 0
            have q1 := (HJ2).out.y.frozen 1
            have q2 := (HJ2).out.y.frozen 2
            have q3 := (HJ2).out.y.frozen 3
            have q4 := (HJ2).out.y.frozen 4
            simp at z0 z1 z2 z3 z4 y0 y1 y2 y3 y4
            have NE2 : Hid (ob none ≠ some g2) := by
              have n2 := own_blk_ne (HP2).out.own (HJ2).out.y (by decide)
              rw [ob_own] at n2
              exact n2
            go_wp2
            refine bodyPost_ret (results_cell_row rfl _ _ g2 152 #[.string t, .slice none 0 0, .bool false, .int .i64 0, .int .i64 1] (0, 0) _ rfl (((((HJ2).out.y.set_ 0 _).set_ 1 _).set_ 2 _).set_ 3 _ |>.set_ 4 _) Tryz.underlying152 rfl info_itm5) rfl ?_
            have hgg := (HJ2).out.e2
            have hRD := ((((((⟨(HJ2).out.r, (HJ2).out.gr⟩ : RdW w v2 g p1).far hlt hgg 0 (.string t)).far hlt hgg 1 (.slice none 0 0)).far hlt hgg 2 (.bool false)).far hlt hgg 3 (.int .i64 0)).far hlt hgg 4 (.int .i64 1))
            have hOO := (((((HP2).out.kept (grown_setB _ ⟨g2, 0, none⟩ (.string t)) (.inr NE2.out)).kept (grown_setB _ ⟨g2, 1, none⟩ (.slice none 0 0)) (.inr NE2.out)).kept (grown_setB _ ⟨g2, 2, none⟩ (.bool false)) (.inr NE2.out)).kept (grown_setB _ ⟨g2, 3, none⟩ (.int .i64 0)) (.inr NE2.out)).kept (grown_setB _ ⟨g2, 4, none⟩ (.int .i64 1)) (.inr NE2.out)
            have hll := (HP2).out.len
            have hpf : (t : ByteArray).size ≤ s.size := hts2
            have hgs : GoodStr t := by unfold GoodStr; exact Nat.le_trans hpf (by omega)
            have hml : 0 ≤ s.size := by omega
            exact ⟨⟨t, [], false, 0, 1, ⟨none, 0, 0⟩⟩, p1, rfl, hRD, by omega, ⟨⟨hOO.sl, (HP2).out.cap, (show 0 * 2 ≤ 140737488351232 by omega), fun _ _ => trivial⟩, hgs, (show I64 0 by unfold I64; omega), (show I64 1 by unfold I64; omega)⟩, hpf, (show ([]).length ≤ s.size by omega), fun j hj => (HP2).out.ge j hj⟩
          | false =>
            go_wp2_with (first
              | (go_at_call 71; refine Hid.out ?_))
            refine Hid.mk_ ((cutW_any HJ1.out.r _).mono ?_)
            rintro e v3 ⟨p3, r, rfl, hr1, hr2, hr3⟩
            have HJ3 := Lib.hid (HJ1.out.cut hr1)
            have HP3 := Lib.hid (HJ1.out.own HP1.out hr1 (Nat.le_refl _))
            have hq3 : p3.size ≤ p1.size := by
              cases r with
              | false => rw [hr2 rfl]; exact Nat.le_refl _
              | true => have := hr3 rfl; omega
            clear hr1 hr2 hr3
            cases r with
            | true =>
              have z3 := (HJ3).out.x.cell 3
              have z4 := (HJ3).out.x.cell 4
              have f3 := (HJ3).out.x.frozen 3
              have f4 := (HJ3).out.x.frozen 4
              simp at z3 z4
              have hJ2 := ((HJ3).out.set3 3 (.int .i64 0)).set3 4 (.int .i64 (-1))
              simp at hJ2
              have HJ2 := Lib.hid hJ2
              have HP2 := Lib.hid (((HJ3).out.set3 3 (.int .i64 0)).own3 ((HJ3).out.own3 (HP3).out (by decide) 3 (.int .i64 0)) (by decide) 4 (.int .i64 (-1)))
              clear hJ2
              go_upto_region 21 with fail
              obtain ⟨v2, hv2⟩ : ∃ v2, v2 = ((v3).setCell ⟨g3, 3, none⟩ (.int .i64 0)).setCell ⟨g3, 4, none⟩ (.int .i64 (-1)) := ⟨_, rfl⟩
              rw [← hv2] at HJ2 HP2 ⊢
              clear hv2 z3 z4 f3 f4
              have z0 := (HJ2).out.x.cell 0
              have z1 := (HJ2).out.x.cell 1
              have z2 := (HJ2).out.x.cell 2
              have z3 := (HJ2).out.x.cell 3
              have z4 := (HJ2).out.x.cell 4
              have y0 := (HJ2).out.y.cell 0
              have y1 := (HJ2).out.y.cell 1
              have y2 := (HJ2).out.y.cell 2
              have y3 := (HJ2).out.y.cell 3
              have y4 := (HJ2).out.y.cell 4
              have q0 := (HJ2).out.y.frozen 0
              have q1 := (HJ2).out.y.frozen 1
              have q2 := (HJ2).out.y.frozen 2
              have q3 := (HJ2).out.y.frozen 3
              have q4 := (HJ2).out.y.frozen 4
              simp at z0 z1 z2 z3 z4 y0 y1 y2 y3 y4
              have NE2 : Hid (ob none ≠ some g2) := by
                have n2 := own_blk_ne (HP2).out.own (HJ2).out.y (by decide)
                rw [ob_own] at n2
                exact n2
              go_wp2
              refine bodyPost_ret (results_cell_row rfl _ _ g2 152 #[.string t, .slice none 0 0, .bool false, .int .i64 0, .int .i64 (-1)] (0, 0) _ rfl (((((HJ2).out.y.set_ 0 _).set_ 1 _).set_ 2 _).set_ 3 _ |>.set_ 4 _) Tryz.underlying152 rfl info_itm5) rfl ?_
              have hgg := (HJ2).out.e2
              have hRD := ((((((⟨(HJ2).out.r, (HJ2).out.gr⟩ : RdW w v2 g p3).far hlt hgg 0 (.string t)).far hlt hgg 1 (.slice none 0 0)).far hlt hgg 2 (.bool false)).far hlt hgg 3 (.int .i64 0)).far hlt hgg 4 (.int .i64 (-1)))
              have hOO := (((((HP2).out.kept (grown_setB _ ⟨g2, 0, none⟩ (.string t)) (.inr NE2.out)).kept (grown_setB _ ⟨g2, 1, none⟩ (.slice none 0 0)) (.inr NE2.out)).kept (grown_setB _ ⟨g2, 2, none⟩ (.bool false)) (.inr NE2.out)).kept (grown_setB _ ⟨g2, 3, none⟩ (.int .i64 0)) (.inr NE2.out)).kept (grown_setB _ ⟨g2, 4, none⟩ (.int .i64 (-1))) (.inr NE2.out)
              have hll := (HP2).out.len
              have hpf : (t : ByteArray).size ≤ s.size := hts2
              have hgs : GoodStr t := by unfold GoodStr; exact Nat.le_trans hpf (by omega)
              have hml : 0 ≤ s.size := by omega
              exact ⟨⟨t, [], false, 0, (-1), ⟨none, 0, 0⟩⟩, p3, rfl, hRD, by omega, ⟨⟨hOO.sl, (HP2).out.cap, (show 0 * 2 ≤ 140737488351232 by omega), fun _ _ => trivial⟩, hgs, (show I64 0 by unfold I64; omega), (show I64 (-1) by unfold I64; omega)⟩, hpf, (show ([]).length ≤ s.size by omega), fun j hj => (HP2).out.ge j hj⟩
            | false =>
              go_wp2_with (first
                | (go_at_call 71; refine Hid.out ?_))
              refine Hid.mk_ ((cutW_any HJ3.out.r _).mono ?_)
              rintro e v5 ⟨p5, r, rfl, hr1, hr2, hr3⟩
              have HJ5 := Lib.hid (HJ3.out.cut hr1)
              have HP5 := Lib.hid (HJ3.out.own HP3.out hr1 (Nat.le_refl _))
              have hq5 : p5.size ≤ p3.size := by
                cases r with
                | false => rw [hr2 rfl]; exact Nat.le_refl _
                | true => have := hr3 rfl; omega
              clear hr1 hr2 hr3
              cases r with
              | true =>
                have z3 := (HJ5).out.x.cell 3
                have z4 := (HJ5).out.x.cell 4
                have f3 := (HJ5).out.x.frozen 3
                have f4 := (HJ5).out.x.frozen 4
                simp at z3 z4
                have hJ2 := ((HJ5).out.set3 3 (.int .i64 1)).set3 4 (.int .i64 (-1))
                simp at hJ2
                have HJ2 := Lib.hid hJ2
                have HP2 := Lib.hid (((HJ5).out.set3 3 (.int .i64 1)).own3 ((HJ5).out.own3 (HP5).out (by decide) 3 (.int .i64 1)) (by decide) 4 (.int .i64 (-1)))
                clear hJ2
                go_upto_region 21 with fail
                obtain ⟨v2, hv2⟩ : ∃ v2, v2 = ((v5).setCell ⟨g3, 3, none⟩ (.int .i64 1)).setCell ⟨g3, 4, none⟩ (.int .i64 (-1)) := ⟨_, rfl⟩
                rw [← hv2] at HJ2 HP2 ⊢
                clear hv2 z3 z4 f3 f4
                have z0 := (HJ2).out.x.cell 0
                have z1 := (HJ2).out.x.cell 1
                have z2 := (HJ2).out.x.cell 2
                have z3 := (HJ2).out.x.cell 3
                have z4 := (HJ2).out.x.cell 4
                have y0 := (HJ2).out.y.cell 0
                have y1 := (HJ2).out.y.cell 1
                have y2 := (HJ2).out.y.cell 2
                have y3 := (HJ2).out.y.cell 3
                have y4 := (HJ2).out.y.cell 4
                have q0 := (HJ2).out.y.frozen 0
                have q1 := (HJ2).out.y.frozen 1
                have q2 := (HJ2).out.y.frozen 2
                have q3 := (HJ2).out.y.frozen 3
                have q4 := (HJ2).out.y.frozen 4
                simp at z0 z1 z2 z3 z4 y0 y1 y2 y3 y4
                have NE2 : Hid (ob none ≠ some g2) := by
                  have n2 := own_blk_ne (HP2).out.own (HJ2).out.y (by decide)
                  rw [ob_own] at n2
                  exact n2
                go_wp2
                refine bodyPost_ret (results_cell_row rfl _ _ g2 152 #[.string t, .slice none 0 0, .bool false, .int .i64 1, .int .i64 (-1)] (0, 0) _ rfl (((((HJ2).out.y.set_ 0 _).set_ 1 _).set_ 2 _).set_ 3 _ |>.set_ 4 _) Tryz.underlying152 rfl info_itm5) rfl ?_
                have hgg := (HJ2).out.e2
                have hRD := ((((((⟨(HJ2).out.r, (HJ2).out.gr⟩ : RdW w v2 g p5).far hlt hgg 0 (.string t)).far hlt hgg 1 (.slice none 0 0)).far hlt hgg 2 (.bool false)).far hlt hgg 3 (.int .i64 1)).far hlt hgg 4 (.int .i64 (-1)))
                have hOO := (((((HP2).out.kept (grown_setB _ ⟨g2, 0, none⟩ (.string t)) (.inr NE2.out)).kept (grown_setB _ ⟨g2, 1, none⟩ (.slice none 0 0)) (.inr NE2.out)).kept (grown_setB _ ⟨g2, 2, none⟩ (.bool false)) (.inr NE2.out)).kept (grown_setB _ ⟨g2, 3, none⟩ (.int .i64 1)) (.inr NE2.out)).kept (grown_setB _ ⟨g2, 4, none⟩ (.int .i64 (-1))) (.inr NE2.out)
                have hll := (HP2).out.len
                have hpf : (t : ByteArray).size ≤ s.size := hts2
                have hgs : GoodStr t := by unfold GoodStr; exact Nat.le_trans hpf (by omega)
                have hml : 0 ≤ s.size := by omega
                exact ⟨⟨t, [], false, 1, (-1), ⟨none, 0, 0⟩⟩, p5, rfl, hRD, by omega, ⟨⟨hOO.sl, (HP2).out.cap, (show 0 * 2 ≤ 140737488351232 by omega), fun _ _ => trivial⟩, hgs, (show I64 1 by unfold I64; omega), (show I64 (-1) by unfold I64; omega)⟩, hpf, (show ([]).length ≤ s.size by omega), fun j hj => (HP2).out.ge j hj⟩
              | false =>
                have z0 := (HJ5).out.x.cell 0
                have z1 := (HJ5).out.x.cell 1
                have z2 := (HJ5).out.x.cell 2
                have z3 := (HJ5).out.x.cell 3
                have z4 := (HJ5).out.x.cell 4
                have y0 := (HJ5).out.y.cell 0
                have y1 := (HJ5).out.y.cell 1
                have y2 := (HJ5).out.y.cell 2
                have y3 := (HJ5).out.y.cell 3
                have y4 := (HJ5).out.y.cell 4
                have q0 := (HJ5).out.y.frozen 0
                have q1 := (HJ5).out.y.frozen 1
                have q2 := (HJ5).out.y.frozen 2
                have q3 := (HJ5).out.y.frozen 3
                have q4 := (HJ5).out.y.frozen 4
                simp at z0 z1 z2 z3 z4 y0 y1 y2 y3 y4
                have NE2 : Hid (ob none ≠ some g2) := by
                  have n2 := own_blk_ne (HP5).out.own (HJ5).out.y (by decide)
                  rw [ob_own] at n2
                  exact n2
                go_wp2
                refine bodyPost_ret (results_cell_row rfl _ _ g2 152 #[.string t, .slice none 0 0, .bool false, .int .i64 1, .int .i64 1] (0, 0) _ rfl (((((HJ5).out.y.set_ 0 _).set_ 1 _).set_ 2 _).set_ 3 _ |>.set_ 4 _) Tryz.underlying152 rfl info_itm5) rfl ?_
                have hgg := (HJ5).out.e2
                have hRD := ((((((⟨(HJ5).out.r, (HJ5).out.gr⟩ : RdW w v5 g p5).far hlt hgg 0 (.string t)).far hlt hgg 1 (.slice none 0 0)).far hlt hgg 2 (.bool false)).far hlt hgg 3 (.int .i64 1)).far hlt hgg 4 (.int .i64 1))
                have hOO := (((((HP5).out.kept (grown_setB _ ⟨g2, 0, none⟩ (.string t)) (.inr NE2.out)).kept (grown_setB _ ⟨g2, 1, none⟩ (.slice none 0 0)) (.inr NE2.out)).kept (grown_setB _ ⟨g2, 2, none⟩ (.bool false)) (.inr NE2.out)).kept (grown_setB _ ⟨g2, 3, none⟩ (.int .i64 1)) (.inr NE2.out)).kept (grown_setB _ ⟨g2, 4, none⟩ (.int .i64 1)) (.inr NE2.out)
                have hll := (HP5).out.len
                have hpf : (t : ByteArray).size ≤ s.size := hts2
                have hgs : GoodStr t := by unfold GoodStr; exact Nat.le_trans hpf (by omega)
                have hml : 0 ≤ s.size := by omega
                exact ⟨⟨t, [], false, 1, 1, ⟨none, 0, 0⟩⟩, p5, rfl, hRD, by omega, ⟨⟨hOO.sl, (HP5).out.cap, (show 0 * 2 ≤ 140737488351232 by omega), fun _ _ => trivial⟩, hgs, (show I64 1 by unfold I64; omega), (show I64 1 by unfold I64; omega)⟩, hpf, (show ([]).length ≤ s.size by omega), fun j hj => (HP5).out.ge j hj⟩
        | false =>
          obtain rfl : s4 = s3 := hr2 rfl
          clear hr1 hr2 hr3
          go_wp2_with (first
            | (go_at_call 101; refine Hid.out ?_))
          refine Hid.mk_ ((oneW_any HI4.out.r hs3p (by omega)).mono ?_)
          rintro e w5 ⟨s5, z, rfl, hz256, hr5, hz5⟩
          have HI5 := Lib.hid (HI4.out.cut hr5)
          have HO5 : Hid (OsB w5 w.heap.size A m c L) := HO4.out.kept hr5.g (.inr (fun e => by have := HO4.out.ge g e; omega))
          have hw5 := HI5.out.gr.size
          clear hr5
          have hzz := Lib.hid (show (z : Int) = ((byt z).toNat : Nat) by unfold byt; rw [UInt8.toNat_ofNat', Nat.mod_eq_of_lt hz256])
          go_wp2_with (first
            | (at_builtin; refine Hid.out ?_))
          refine Hid.mk_ ?_
          refine appB1 rfl _ _ rfl HO5.out rfl (byt z) hzz.out rfl (by omega) (by omega) ?_
          intro A8 m8 c8 w8 ho8 hg8 hn8
          have HI8 := Lib.hid (HI5.out.grown hg8 HO5.out.own (Nat.le_refl _) (by decide) (by decide))
          have HM8 : Hid (m8 ≤ m + 1) := by show m8 ≤ m + 1; rw [ho8.len, List.length_append, ← HO5.out.len]; exact Nat.le_refl _
          have HO8 := Lib.hid ho8
          clear ho8 hg8 hn8
          go_wp2
          all_goals first
            | (refine ⟨⟨s5, A8, m8, c8, _, rfl, by have := HM8.out; omega, HI8, HO8⟩, ?_⟩; show rdSz _ g < rdSz _ g; rw [rdSz_eq HI8.out.r, rdSz_eq HI.out.r]; omega)
            | (go_roundw; (case rel => exact ⟨s5, A8, m8, c8, _, rfl, by have := HM8.out; omega, HI8, HO8⟩); (case measure => (show rdSz _ g < rdSz _ g; rw [rdSz_eq HI8.out.r, rdSz_eq HI.out.r]; omega)))
end
end Go.Proofs.YtgnchicipmomlaaGreatDoor
