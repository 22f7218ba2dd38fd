/- The program's scripts: Parse. -/
import Derived.Test.YtgnchicipmomlaaGreatDoorPK30
namespace Go.Proofs.YtgnchicipmomlaaGreatDoor
open Go.RowKit
set_option maxRecDepth 100000
attribute [local go_sem] ext_refl_t ext_alloc_t ext_drew_t ext_drewN_t ext_alloc2_t ext_alloc3_t ext_alloc4_t ext_alloc5_t ext_alloc6_t ext_alloc7_t ext_alloc8_t ext_alloc1d_t ext_alloc2d_t ext_alloc3d_t ext_alloc4d_t
theorem einfo_sta : EInfo 82 115 2 40 := EInfo.mk_ (z := .agg #[.string ⟨#[]⟩, .slice none 0 0]) Tryz.underlying82 (by kernel_rfl) rfl (by omega) (by omega)
theorem einfo_scr : EInfo 83 115 2 40 := EInfo.mk_ (z := .agg #[.string ⟨#[]⟩, .slice none 0 0]) Tryz.underlying83 (by kernel_rfl) rfl (by omega) (by omega)
theorem einfo_rul : EInfo 113 110 3 56 := EInfo.mk_ (z := .agg #[.string ⟨#[]⟩, .slice none 0 0, .string ⟨#[]⟩]) Tryz.underlying113 (by kernel_rfl) rfl (by omega) (by omega)
theorem staC_cell (x : Sta) : ∀ u ∈ staC x, u.oneCell' = true := fun u hu => by
  simp [staC] at hu
  rcases hu with rfl | rfl <;> rfl
theorem rulC_cell (x : Rul) : ∀ u ∈ rulC x, u.oneCell' = true := fun u hu => by
  simp [rulC] at hu
  rcases hu with rfl | rfl | rfl <;> rfl
/-- A rule, a state that lie apart from the blocks of S. -/
structure DnR (S : Nat → Prop) (w : World) (r : Rul) : Prop where
  w : RulW w r
  lg : LgR r
  a : ApS S r.h
  i : ∀ i ∈ r.items, ApS S i.h
structure DnS (S : Nat → Prop) (w : World) (x : Sta) : Prop where
  nm : x.name.size ≤ 4000000
  r : HW rulC 3 56 (DnR S w) w x.h x.rules
  a : ApS S x.h
/-- The state whose rules are being read. -/
structure CuS (S : Nat → Prop) (w : World) (base : Nat) (x : Sta) : Prop where
  nm : x.name.size ≤ 4000000
  own : OsC rulC 110 3 w base x.h.A x.h.m x.h.c x.rules
  r : ∀ r ∈ x.rules, DnR S w r
section
variable {S S0 S' : Nat → Prop} {w w' : World}
theorem DnR.kp {r : Rul} (h : DnR S w r) (hk : KpS S0 w w') (h0 : ∀ j, S0 j → S j) (hS : ∀ g, S' g → S g ∨ w.heap.size ≤ g) : DnR S' w' r :=
  ⟨RulW.kp hk h.w (h.a.mono fun j _ hj => h0 j hj) (fun i hi => (h.i i hi).mono fun j _ hj => h0 j hj), h.lg, ApS.lt h.w.i h.a hS, fun i hi => ApS.lt (h.w.i.good i hi).r (h.i i hi) hS⟩
theorem DnS.kp {x : Sta} (h : DnS S w x) (hk : KpS S0 w w') (h0 : ∀ j, S0 j → S j) (hS : ∀ g, S' g → S g ∨ w.heap.size ≤ g) : DnS S' w' x :=
  ⟨h.nm, ⟨hk.slc h.r.sl (h.a.mono fun j _ hj => h0 j hj), h.r.cap, h.r.bd, fun r hr => (h.r.good r hr).kp hk h0 hS⟩, ApS.lt h.r h.a hS⟩
theorem DnS.sta {x : Sta} (h : DnS S w x) : StaW w x ∧ LgT x :=
  ⟨⟨⟨h.r.sl, h.r.cap, h.r.bd, fun r hr => (h.r.good r hr).w⟩, by have := h.nm; unfold GoodStr; omega⟩, h.nm, fun r hr => (h.r.good r hr).lg⟩
end
def ob2 (A B : Option Addr) (k : Nat) : Prop := ob A = some k ∨ ob B = some k
/-- A script that is being read: no state yet, or states d and then x. -/
structure PaN (w wr : World) (A : Option Addr) (m c : Nat) : Prop where
  ext : Ext w wr
  own : OsC staC 115 2 wr w.heap.size A m c ([] : List Sta)
structure PaC (w wr : World) (A : Option Addr) (m c : Nat) (d : List Sta) (x : Sta) : Prop where
  ext : Ext w wr
  own : OsC staC 115 2 wr w.heap.size A m c (d ++ [x])
  dn : ∀ y ∈ d, DnS (ob2 A x.h.A) wr y
  cu : CuS (ob2 A x.h.A) wr w.heap.size x
section
variable {w wr w2 : World} {A A' : Option Addr} {m c m' c' : Nat} {d : List Sta} {x : Sta}
theorem PaN.extn (h : PaN w wr A m c) (hE : Ext wr w2) : PaN w w2 A m c := ⟨h.ext.trans hE, h.own.ext hE⟩
theorem PaC.extn (h : PaC w wr A m c d x) (hE : Ext wr w2) : PaC w w2 A m c d x :=
  ⟨h.ext.trans hE, h.own.ext hE, fun y hy => (h.dn y hy).kp (KpS.of_ext (fun _ => False) hE) (fun _ e => e.elim) (fun _ hg => .inl hg), h.cu.nm, h.cu.own.ext hE, fun r hr => (h.cu.r r hr).kp (KpS.of_ext (fun _ => False) hE) (fun _ e => e.elim) (fun _ hg => .inl hg)⟩
theorem ob_types {α β : Type} {cs : α → List Value} {cs' : β → List Value} {e e' : TypeId} {k k' b b' : Nat} {B : Option Addr} {n p : Nat} {l : List α} {l' : List β} (h : OsC cs e k wr b A m c l) (h' : OsC cs' e' k' wr b' B n p l') (he : e ≠ e') {g : Nat} (hg : ob A = some g) : ob B ≠ some g := fun e2 => by
  obtain ⟨xs, hx⟩ := h'.blk_ e2
  have n1 := own_blk_ne h.own hx he
  rw [ob_own] at n1
  exact n1 hg
theorem PaN.app {nm : ByteArray} (h : PaN w wr A m c) (hn : nm.size ≤ 4000000) (ho : OsC staC 115 2 w2 w.heap.size A' m' c' ([] ++ [⟨nm, [], ⟨none, 0, 0⟩⟩])) (hg : wr.grownBy w2 (ob A)) : PaC w w2 A' m' c' [] ⟨nm, [], ⟨none, 0, 0⟩⟩ :=
  ⟨h.ext.grown hg (fun j hj => h.own.ge j hj), ho, fun y hy => (by cases hy), hn, OsC.nil_ rulC_len rulC_cell, fun r hr => (by cases hr)⟩
theorem PaC.app {nm : ByteArray} (h : PaC w wr A m c d x) (hn : nm.size ≤ 4000000) (hbd : x.h.m ≤ 4000000) (ho : OsC staC 115 2 w2 w.heap.size A' m' c' ((d ++ [x]) ++ [⟨nm, [], ⟨none, 0, 0⟩⟩])) (hg : wr.grownBy w2 (ob A)) (hN : NewOr wr.heap.size (ob A) (ob A')) : PaC w w2 A' m' c' (d ++ [x]) ⟨nm, [], ⟨none, 0, 0⟩⟩ := by
  have hS : ∀ g, ob2 A' none g → ob2 A x.h.A g ∨ wr.heap.size ≤ g := fun g hg => by
    rcases hg with hg | hg
    · rcases hN g hg with h1 | h1
      · exact .inr h1
      · exact .inl (.inl h1)
    · cases hg
  have hk := KpS.grown hg
  refine ⟨h.ext.grown hg (fun j hj => h.own.ge j hj), ho, fun y hy => ?_, hn, OsC.nil_ rulC_len rulC_cell, fun r hr => (by cases hr)⟩
  rcases List.mem_append.1 hy with hy | hy
  · exact (h.dn y hy).kp hk (fun j hj => .inl hj) hS
  · rw [List.mem_singleton] at hy
    subst hy
    have hap : ApS (fun k => ob A = some k) y.h := .inr fun g hg hS => ob_types h.own h.cu.own (by decide) hS hg
    refine ⟨h.cu.nm, ⟨hk.slc h.cu.own.sl hap, h.cu.own.cap, by omega, fun r hr => (h.cu.r r hr).kp hk (fun j hj => .inl hj) hS⟩, ?_⟩
    refine .inr fun g hg hS' => ?_
    have hlt := h.cu.own.lt g hg
    rcases hS g hS' with h1 | h1
    · rcases hS' with h2 | h2
      · rcases hN g h2 with h3 | h3
        · omega
        · exact ob_types h.own h.cu.own (by decide) h3 hg
      · cases h2
    · omega
theorem PaC.rul {r : Rul} {b : Nat} {B' : Option Addr} {n' c2 : Nat} (h : PaC w wr A m c d x) (hA : A = some ⟨b, 0, none⟩) (hr : DnR (ob2 A x.h.A) wr r) (ho : OsC rulC 110 3 w2 w.heap.size B' n' c2 (x.rules ++ [r])) (hg : wr.grownBy w2 (ob x.h.A)) (hN : NewOr wr.heap.size (ob x.h.A) (ob B')) :
    PaC w (w2.setCell ⟨b, d.length * 2 + 1, none⟩ (.slice B' n' c2)) A m c d ⟨x.name, x.rules ++ [r], ⟨B', n', c2⟩⟩ := by
  subst hA
  have hne : ob (some ⟨b, 0, none⟩ : Option Addr) ≠ ob x.h.A := fun e => ob_types h.own h.cu.own (by decide) (show ob (some ⟨b, 0, none⟩ : Option Addr) = some b from rfl) (by rw [← e]; rfl)
  have hown2 := h.own.kept hg (.inr hne)
  have hS : ∀ g, ob2 (some ⟨b, 0, none⟩) B' g → ob2 (some ⟨b, 0, none⟩) x.h.A g ∨ wr.heap.size ≤ g := fun g hg => by
    rcases hg with hg | hg
    · exact .inl (.inl hg)
    · rcases hN g hg with h1 | h1
      · exact .inr h1
      · exact .inl (.inr h1)
  have hk1 : KpS (fun k => ob x.h.A = some k) wr w2 := KpS.grown hg
  have hk2 := KpS.setCell w2 b (d.length * 2 + 1) (.slice B' n' c2)
  have hs2 : ∀ k, k = b → ob2 (some ⟨b, 0, none⟩) B' k := fun k hk => .inl (by rw [hk]; rfl)
  have hrr : ∀ z, DnR (ob2 (some ⟨b, 0, none⟩) x.h.A) wr z → DnR (ob2 (some ⟨b, 0, none⟩) B') (w2.setCell ⟨b, d.length * 2 + 1, none⟩ (.slice B' n' c2)) z := fun z hz =>
    (hz.kp hk1 (fun k hk => .inr hk) hS).kp hk2 hs2 (fun _ hg => .inl hg)
  refine ⟨(h.ext.grown hg (fun j hj => h.cu.own.ge j hj)).set_ (p := ⟨b, _, none⟩) (h.own.ge b rfl) _, ?_, fun y hy => ((h.dn y hy).kp hk1 (fun k hk => .inr hk) hS).kp hk2 hs2 (fun _ hg => .inl hg), h.cu.nm, ho.kept (grown_setB w2 ⟨b, _, none⟩ _) (.inr fun e => ob_types hown2 ho (by decide) (show ob (some ⟨b, 0, none⟩ : Option Addr) = some b from rfl) e), fun z hz => ?_⟩
  · have h3 := hown2.setAt (i := d.length) (j := 1) (by simp) (by omega) ⟨x.name, x.rules ++ [r], ⟨B', n', c2⟩⟩ (.slice B' n' c2) (by simp [staC])
    simpa using h3
  · rcases List.mem_append.1 hz with hz | hz
    · exact hrr z (h.cu.r z hz)
    · rw [List.mem_singleton] at hz
      rw [hz]
      exact hrr r hr
/-- One or the other; the rows lie below block K. -/
def PA (w wr : World) (n K : Nat) (A : Option Addr) (m c : Nat) : Prop := (m = 0 ∧ PaN w wr A m c) ∨ ∃ d x, PaC w wr A m c d x ∧ x.h.m + n ≤ 4000000 ∧ ∀ j, ob2 A x.h.A j → j < K
theorem PA.ext {n K : Nat} (h : PA w wr n K A m c) : Ext w wr := by
  rcases h with ⟨_, h⟩ | ⟨d, x, h, _⟩
  · exact h.ext
  · exact h.ext
theorem PA.extn {n K : Nat} (h : PA w wr n K A m c) (hE : Ext wr w2) : PA w w2 n K A m c := by
  rcases h with ⟨h0, h⟩ | ⟨d, x, h, h1⟩
  · exact .inl ⟨h0, h.extn hE⟩
  · exact .inr ⟨d, x, h.extn hE, h1⟩
theorem PA.mk_ {n : Nat} (h : PaC w wr A m c d x) (hn : x.h.m + n ≤ 4000000) : PA w wr n wr.heap.size A m c :=
  .inr ⟨d, x, h, hn, fun j hj => by
    rcases hj with hj | hj
    · exact h.own.lt j hj
    · exact h.cu.own.lt j hj⟩
theorem PA.scr {n K : Nat} (h : PA w wr n K A m c) (hm : m ≤ 4000000) : ∃ l : List Sta, ScrW wr ⟨A, m, c⟩ l ∧ ∀ x ∈ l, LgT x := by
  rcases h with ⟨h0, h⟩ | ⟨d, x, h, h1, _⟩
  · exact ⟨[], ⟨h.own.sl, h.own.cap, (show m * 40 ≤ 140737488351232 by omega), fun x hx => by cases hx⟩, fun x hx => by cases hx⟩
  · have hx : StaW wr x ∧ LgT x := by
      refine ⟨⟨⟨h.cu.own.sl, h.cu.own.cap, by omega, fun r hr => (h.cu.r r hr).w⟩, by have := h.cu.nm; unfold GoodStr; omega⟩, h.cu.nm, fun r hr => (h.cu.r r hr).lg⟩
    refine ⟨d ++ [x], ⟨h.own.sl, h.own.cap, (show m * 40 ≤ 140737488351232 by omega), fun y hy => ?_⟩, fun y hy => ?_⟩
    · rcases List.mem_append.1 hy with hy | hy
      · exact (h.dn y hy).sta.1
      · rw [List.mem_singleton] at hy; rw [hy]; exact hx.1
    · rcases List.mem_append.1 hy with hy | hy
      · exact (h.dn y hy).sta.2
      · rw [List.mem_singleton] at hy; rw [hy]; exact hx.2
/-- What Parse gives: where there is no error, a script in new memory. -/
def ParR (w w' : World) (e : Ending) : Prop :=
  ∃ (h : SlH) (at_ er : Int), e = .returned (.tuple #[.slice h.A h.m h.c, .int .i64 at_, .int .i64 er]) ∧ Ext w w' ∧ (er = 0 → ∃ l : List Sta, ScrW w' h l ∧ 1 ≤ l.length ∧ ∀ x ∈ l, LgT x)
set_option maxHeartbeats 6400000 in
theorem parseS_any (s : ByteArray) (hb : s.size ≤ 4000000) :
    Calls Tryz.prog 25 #[.string s] w fun e w' => ParR w w' e := by
  go_enter Tryz.func25, Tryz.ntmps25
  go_wp2
  go_loopw [0, 2, 3] (fun v0 v2 v3 wr => ∃ (s1 : ByteArray) (A : Option Addr) (m c : Nat) (at_ : Nat), v0 = .string s1 ∧ v2 = .slice A m c ∧ v3 = .int .i64 at_ ∧ at_ + s1.size ≤ s.size ∧ m + s1.size ≤ s.size ∧ Hid (PA w wr s1.size wr.heap.size A m c)) (fun v0 _ _ _ => match v0 with | .string x => x.size | _ => 0)
  case atStart => exact ⟨s, none, 0, 0, 0, rfl, rfl, rfl, by omega, by omega, .inl ⟨rfl, Ext.refl _, OsC.nil_ staC_len staC_cell⟩⟩
  case round =>
    obtain ⟨s1, A, m, c, at_, rfl, rfl, rfl, hz1, hz2, HP⟩ := hrel
    by_cases hs10 : s1.size = 0
    · have hte := tl_empty hs10
      clear hs10
      obtain ⟨l, hW, hT⟩ := HP.out.scr (by omega)
      have HWL := Lib.hid hW
      have HTL := Lib.hid hT
      clear hT hW
      go_wp2_with (first
        | (go_at_call 45; refine Hid.out ?_))
      refine Hid.mk_ ((ValidS_any (h := ⟨A, m, c⟩) (l := l) HWL.out HTL.out).mono ?_)
      rintro e w5 ⟨⟨ok, rfl, hok⟩, hE5⟩
      cases ok with
      | false =>
        clear hok
        go_wp2
        go_ret3
        exact ⟨⟨none, 0, 0⟩, _, _, rfl, HP.out.ext.trans hE5, fun h => absurd h (by decide)⟩
      | true =>
        have HL1 := Lib.hid (hok rfl).1
        clear hok
        go_wp2
        go_ret3
        exact ⟨⟨A, m, c⟩, _, _, rfl, HP.out.ext.trans hE5, fun _ => ⟨l, HWL.out.ext hE5, HL1.out, HTL.out⟩⟩
    · have hte := tl_full hs10
      clear hs10
      go_wp2_with (first
        | (go_at_call 41; refine Hid.out ?_))
      refine Hid.mk_ ((cutT_any s1 _ (by omega)).mono ?_)
      rintro e w1 ⟨⟨row, rest, ended, rfl, hr1, hr2, hr3⟩, hE1⟩
      go_wp2_with (first
        | (go_at_call 42; refine Hid.out ?_))
      refine Hid.mk_ ((cutPreT_any row _).mono ?_)
      rintro e w2 ⟨⟨name, isst, rfl, hp1, hp2⟩, hE2⟩
      have hnm : name.size ≤ row.size := by
        cases isst with
        | false => rw [hp1 rfl]; exact Nat.le_refl _
        | true => have := hp2 rfl; omega
      clear hp1 hp2
      go_wp2_with (first
        | (go_at_call 43; refine Hid.out ?_))
      refine Hid.mk_ ((ruleR_any row (by omega)).mono ?_)
      rintro e w3 ⟨r, ok, rfl, hE3, hrw, hrl, hrn, hri⟩
      unfold rulV
      have hb10 := Blk.new w3 110 #[.string r.kind, .slice r.h.A r.h.m r.h.c, .string r.next]
      have hE4 : Ext w3 (w3.alloc (Obj.cells #[.string r.kind, .slice r.h.A r.h.m r.h.c, .string r.next] 110)) := (Ext.refl _).alloc _
      have hEr : Ext wr (w3.alloc (Obj.cells #[.string r.kind, .slice r.h.A r.h.m r.h.c, .string r.next] 110)) := ((hE1.trans hE2).trans hE3).trans hE4
      have hws2 : wr.heap.size ≤ w2.heap.size := (hE1.trans hE2).size_le
      have hrw4 := RulW.ext hrw hE4
      cases ended with
      | false =>
        go_wp2
        go_ret3
        exact ⟨⟨none, 0, 0⟩, _, _, rfl, HP.out.ext.trans hEr, fun h => absurd h (by decide)⟩
      | true =>
        have hz3 := hr3 rfl
        clear hr3
        have HP4 := Lib.hid (HP.out.extn hEr)
        obtain ⟨W4, hW4⟩ : ∃ W4, W4 = w3.alloc (Obj.cells #[.string r.kind, .slice r.h.A r.h.m r.h.c, .string r.next] 110) := ⟨_, rfl⟩
        go_upto_region 8 with fail
        rw [← hW4] at hb10 hE4 hEr hrw4 HP4 ⊢
        obtain ⟨g10, hg10⟩ : ∃ g10, g10 = w3.heap.size := ⟨_, rfl⟩
        rw [← hg10] at hb10 ⊢
        clear hW4 hg10 hE1 hE2 hE3 hrw
        cases isst with
        | false =>
          cases ok with
          | false =>
            go_wp2
            go_ret3
            exact ⟨⟨none, 0, 0⟩, _, _, rfl, (HP4).out.ext, fun h => absurd h (by decide)⟩
          | true =>
            rcases (HP4).out with ⟨hm0, h⟩ | ⟨d, x, h, hxm, hlt⟩
            · subst hm0
              go_wp2
              go_ret3
              exact ⟨⟨none, 0, 0⟩, _, _, rfl, h.ext, fun h => absurd h (by decide)⟩
            · obtain ⟨nm0, rules0, ⟨B0, n0, c0⟩⟩ := x
              have hml := h.own.len
              rw [List.length_append] at hml
              simp at hml
              obtain ⟨q, hq⟩ : ∃ q, q = d.length := ⟨_, rfl⟩
              rw [← hq] at hml
              have hmp : 0 < m := by omega
              obtain ⟨b, cur, rfl, hbw, hbh, -, -, -, -⟩ := h.own.row hmp
              subst hml
              have hlt1 : q < (d ++ [(⟨nm0, rules0, ⟨B0, n0, c0⟩⟩ : Sta)]).length := by rw [List.length_append, hq]; simp
              have hx0 : (d ++ [(⟨nm0, rules0, ⟨B0, n0, c0⟩⟩ : Sta)])[q] = ⟨nm0, rules0, ⟨B0, n0, c0⟩⟩ := by simp [hq]
              obtain ⟨b', off', hA', -, hcs⟩ := h.own.sl.at_ (i := q) (by omega) (by omega)
              simp only [Option.some.injEq, Addr.mk.injEq, and_true] at hA'
              obtain ⟨rfl, rfl⟩ := hA'
              have y0 := hcs q hlt1 0 (by omega)
              have y1 := hcs q hlt1 1 (by omega)
              rw [Nat.zero_add] at y0 y1
              simp only [hx0, staC, List.getElem_cons_zero, List.getElem_cons_succ, Nat.add_zero] at y0 y1
              have hbB : Blk W4 b 115 cur := hbh
              have f1 := hbB.frozen (q * 2 + 1)
              have hqi : (q : Int) < ((q + 1 : Nat) : Int) := by omega
              have k0 := (hb10).cell 0
              have k1 := (hb10).cell 1
              have k2 := (hb10).cell 2
              simp at k0 k1 k2
              have hdn : DnR (ob2 (some ⟨b, 0, none⟩) B0) W4 r := ⟨hrw4, hrl, .inr fun j hj hS => (by have h1 := hrn j hj; have h2 := hlt j hS; omega), fun i hi => .inr fun j hj hS => (by have h1 := hri i hi j hj; have h2 := hlt j hS; omega)⟩
              have HQ := Lib.hid hq
              clear hx0 hcs hlt1 hq
              dsimp only at hxm
              have hEa : Ext W4 ((W4).alloc (Obj.cells #[.string r.kind, .slice r.h.A r.h.m r.h.c, .string r.next] 110)).drew := ((Ext.refl _).alloc _).drew
              have hnew : SlC rulC 3 ((W4).alloc (Obj.cells #[.string r.kind, .slice r.h.A r.h.m r.h.c, .string r.next] 110)).drew (some ⟨(W4).heap.size, 0, none⟩) 1 [r] := (SlC.new_ (cs := rulC) W4 [r] rulC_len (by simp) _ rfl (0, 0) 1 rfl 110).ext (Ext.refl _).drew
              have ha := h.extn hEa
              have hdn2 := hdn.kp (S' := ob2 (some ⟨b, 0, none⟩) B0) (KpS.of_ext (fun _ => False) hEa) (fun _ e => e.elim) (fun _ hg => .inl hg)
              have hsz := ha.ext.size_le
              go_upto_region 12 with fail
              have hb8f : ∀ W', ((W4).alloc (Obj.cells #[.string r.kind, .slice r.h.A r.h.m r.h.c, .string r.next] 110)).drew.grownBy W' (ob B0) → Blk W' b 115 cur := fun W' hg8 => (hbB.below hEa hbB.lt).grown hg8 (fun e => ob_types ha.own ha.cu.own (by decide) (show ob (some ⟨b, 0, none⟩ : Option Addr) = some b from rfl) e.symm)
              have hcu : cur[q * 2 + 1]? = some (.slice B0 n0 c0) := by rw [← hbB.cell]; exact y1
              have Y1 := laters y1
              have HB8 := Lib.hid hb8f
              have HCU := Lib.hid hcu
              clear hb8f hcu
              go_region_law
                (first
                  | (refine step_appC einfo_rul rfl _ _ rfl ha.cu.own rfl hnew rfl (by show (n0 + 1) * 56 ≤ _; omega) hsz ?_
                     intro A8 m8 c8 w8 ho8 hg8 hn8
                     have hb8 := HB8.out w8 hg8
                     have f8 := hb8.frozen (q * 2 + 1)
                     have k8 : w8.cell? ⟨b, q * 2 + 1, none⟩ = some (.slice B0 n0 c0) := (by rw [hb8.cell]; exact HCU.out))
                  | fail)
              all_goals
                have hp8 := PaC.rul ha rfl hdn2 ho8 hg8 hn8
                rw [← HQ.out] at hp8
                have HM8 : Hid (m8 ≤ n0 + 1) := by show m8 ≤ n0 + 1; rw [ho8.len, List.length_append, ← ha.cu.own.len]; exact Nat.le_refl _
                have HN8 : Hid (PA w _ rest.size _ (some ⟨b, 0, none⟩) (q + 1) c) := PA.mk_ hp8 (by show m8 + _ ≤ _; have := HM8.out; omega)
                clear hp8 ho8 hg8 hn8 k8 f8 hb8 ha hdn2 hdn h
                go_wp2
                all_goals first
                  | (refine ⟨⟨rest, some ⟨b, 0, none⟩, (q + 1), c, at_ + 1, rfl, rfl, by go_num, by omega, by omega, HN8⟩, ?_⟩; show (rest).size < s1.size; omega)
                  | (go_roundw; (case rel => exact ⟨rest, some ⟨b, 0, none⟩, (q + 1), c, at_ + 1, rfl, rfl, by go_num, by omega, by omega, HN8⟩); (case measure => (show (rest).size < s1.size; omega)))
        | true =>
          go_wp2_with (first
            | (go_at_call 44; refine Hid.out ?_))
          refine Hid.mk_ ((wordS_any name (by unfold GoodStr; omega)).mono ?_)
          rintro e w5 ⟨⟨ok2, rfl, -⟩, hE5⟩
          have hEr5 := hEr.trans hE5
          have HP5 := Lib.hid (HP4.out.extn hE5)
          have hb5 := hb10.below hE5 hb10.lt
          have hrw5 := RulW.ext hrw4 hE5
          cases ok2 with
          | true =>
            have hEa : Ext w5 (w5.alloc (Obj.cells #[.string name, .slice none 0 0] 115)) := (Ext.refl _).alloc _
            have hnew := SlC.new_ (cs := staC) w5 [(⟨name, [], ⟨none, 0, 0⟩⟩ : Sta)] staC_len (by simp) #[.string name, .slice none 0 0] rfl (0, 0) 1 rfl 115
            rcases HP5.out with ⟨rfl, h⟩ | ⟨d, x, h, hxm, -⟩
            · have h' := h.extn hEa
              go_wp2_with (first
                | (at_builtin; refine Hid.out ?_))
              refine Hid.mk_ ?_
              refine appC einfo_scr rfl _ _ rfl h'.own rfl hnew rfl (by omega) h'.ext.size_le ?_
              intro A8 m8 c8 w8 ho8 hg8 hn8
              have HM8 : Hid (m8 = 1) := ho8.len
              have HN8 : Hid (PA w w8 rest.size w8.heap.size A8 m8 c8) := PA.mk_ (h'.app (by omega) ho8 hg8) (by show 0 + _ ≤ _; omega)
              clear ho8 hg8 hn8 h' h
              go_wp2
              all_goals first
                | (refine ⟨⟨rest, A8, m8, c8, at_ + 1, rfl, rfl, by go_num, by omega, by have := HM8.out; omega, HN8⟩, ?_⟩; show (rest).size < s1.size; omega)
                | (go_roundw; (case rel => exact ⟨rest, A8, m8, c8, at_ + 1, rfl, rfl, by go_num, by omega, by have := HM8.out; omega, HN8⟩); (case measure => (show (rest).size < s1.size; omega)))
            · have h' := h.extn hEa
              go_wp2_with (first
                | (at_builtin; refine Hid.out ?_))
              refine Hid.mk_ ?_
              refine appC einfo_scr rfl _ _ rfl h'.own rfl hnew rfl (by omega) h'.ext.size_le ?_
              intro A8 m8 c8 w8 ho8 hg8 hn8
              have HM8 : Hid (m8 ≤ m + 1) := by show m8 ≤ m + 1; rw [ho8.len, List.length_append, ← h'.own.len]; exact Nat.le_refl _
              have HN8 : Hid (PA w w8 rest.size w8.heap.size A8 m8 c8) := PA.mk_ (h'.app (by omega) (by omega) ho8 hg8 hn8) (by show 0 + _ ≤ _; omega)
              clear ho8 hg8 hn8 h' h
              go_wp2
              all_goals first
                | (refine ⟨⟨rest, A8, m8, c8, at_ + 1, rfl, rfl, by go_num, by omega, by have := HM8.out; omega, HN8⟩, ?_⟩; show (rest).size < s1.size; omega)
                | (go_roundw; (case rel => exact ⟨rest, A8, m8, c8, at_ + 1, rfl, rfl, by go_num, by omega, by have := HM8.out; omega, HN8⟩); (case measure => (show (rest).size < s1.size; omega)))
          | false =>
            cases ok with
            | false =>
              go_wp2
              go_ret3
              exact ⟨⟨none, 0, 0⟩, _, _, rfl, (HP5).out.ext, fun h => absurd h (by decide)⟩
            | true =>
              rcases (HP5).out with ⟨hm0, h⟩ | ⟨d, x, h, hxm, hlt⟩
              · subst hm0
                go_wp2
                go_ret3
                exact ⟨⟨none, 0, 0⟩, _, _, rfl, h.ext, fun h => absurd h (by decide)⟩
              · obtain ⟨nm0, rules0, ⟨B0, n0, c0⟩⟩ := x
                have hml := h.own.len
                rw [List.length_append] at hml
                simp at hml
                obtain ⟨q, hq⟩ : ∃ q, q = d.length := ⟨_, rfl⟩
                rw [← hq] at hml
                have hmp : 0 < m := by omega
                obtain ⟨b, cur, rfl, hbw, hbh, -, -, -, -⟩ := h.own.row hmp
                subst hml
                have hlt1 : q < (d ++ [(⟨nm0, rules0, ⟨B0, n0, c0⟩⟩ : Sta)]).length := by rw [List.length_append, hq]; simp
                have hx0 : (d ++ [(⟨nm0, rules0, ⟨B0, n0, c0⟩⟩ : Sta)])[q] = ⟨nm0, rules0, ⟨B0, n0, c0⟩⟩ := by simp [hq]
                obtain ⟨b', off', hA', -, hcs⟩ := h.own.sl.at_ (i := q) (by omega) (by omega)
                simp only [Option.some.injEq, Addr.mk.injEq, and_true] at hA'
                obtain ⟨rfl, rfl⟩ := hA'
                have y0 := hcs q hlt1 0 (by omega)
                have y1 := hcs q hlt1 1 (by omega)
                rw [Nat.zero_add] at y0 y1
                simp only [hx0, staC, List.getElem_cons_zero, List.getElem_cons_succ, Nat.add_zero] at y0 y1
                have hbB : Blk w5 b 115 cur := hbh
                have f1 := hbB.frozen (q * 2 + 1)
                have hqi : (q : Int) < ((q + 1 : Nat) : Int) := by omega
                have k0 := (hb5).cell 0
                have k1 := (hb5).cell 1
                have k2 := (hb5).cell 2
                simp at k0 k1 k2
                have hdn : DnR (ob2 (some ⟨b, 0, none⟩) B0) w5 r := ⟨hrw5, hrl, .inr fun j hj hS => (by have h1 := hrn j hj; have h2 := hlt j hS; omega), fun i hi => .inr fun j hj hS => (by have h1 := hri i hi j hj; have h2 := hlt j hS; omega)⟩
                have HQ := Lib.hid hq
                clear hx0 hcs hlt1 hq
                dsimp only at hxm
                have hEa : Ext w5 ((w5).alloc (Obj.cells #[.string r.kind, .slice r.h.A r.h.m r.h.c, .string r.next] 110)).drew := ((Ext.refl _).alloc _).drew
                have hnew : SlC rulC 3 ((w5).alloc (Obj.cells #[.string r.kind, .slice r.h.A r.h.m r.h.c, .string r.next] 110)).drew (some ⟨(w5).heap.size, 0, none⟩) 1 [r] := (SlC.new_ (cs := rulC) w5 [r] rulC_len (by simp) _ rfl (0, 0) 1 rfl 110).ext (Ext.refl _).drew
                have ha := h.extn hEa
                have hdn2 := hdn.kp (S' := ob2 (some ⟨b, 0, none⟩) B0) (KpS.of_ext (fun _ => False) hEa) (fun _ e => e.elim) (fun _ hg => .inl hg)
                have hsz := ha.ext.size_le
                go_upto_region 12 with fail
                have hb8f : ∀ W', ((w5).alloc (Obj.cells #[.string r.kind, .slice r.h.A r.h.m r.h.c, .string r.next] 110)).drew.grownBy W' (ob B0) → Blk W' b 115 cur := fun W' hg8 => (hbB.below hEa hbB.lt).grown hg8 (fun e => ob_types ha.own ha.cu.own (by decide) (show ob (some ⟨b, 0, none⟩ : Option Addr) = some b from rfl) e.symm)
                have hcu : cur[q * 2 + 1]? = some (.slice B0 n0 c0) := by rw [← hbB.cell]; exact y1
                have Y1 := laters y1
                have HB8 := Lib.hid hb8f
                have HCU := Lib.hid hcu
                clear hb8f hcu
                go_region_law
                  (first
                    | (refine step_appC einfo_rul rfl _ _ rfl ha.cu.own rfl hnew rfl (by show (n0 + 1) * 56 ≤ _; omega) hsz ?_
                       intro A8 m8 c8 w8 ho8 hg8 hn8
                       have hb8 := HB8.out w8 hg8
                       have f8 := hb8.frozen (q * 2 + 1)
                       have k8 : w8.cell? ⟨b, q * 2 + 1, none⟩ = some (.slice B0 n0 c0) := (by rw [hb8.cell]; exact HCU.out))
                    | fail)
                all_goals
                  have hp8 := PaC.rul ha rfl hdn2 ho8 hg8 hn8
                  rw [← HQ.out] at hp8
                  have HM8 : Hid (m8 ≤ n0 + 1) := by show m8 ≤ n0 + 1; rw [ho8.len, List.length_append, ← ha.cu.own.len]; exact Nat.le_refl _
                  have HN8 : Hid (PA w _ rest.size _ (some ⟨b, 0, none⟩) (q + 1) c) := PA.mk_ hp8 (by show m8 + _ ≤ _; have := HM8.out; omega)
                  clear hp8 ho8 hg8 hn8 k8 f8 hb8 ha hdn2 hdn h
                  go_wp2
                  all_goals first
                    | (refine ⟨⟨rest, some ⟨b, 0, none⟩, (q + 1), c, at_ + 1, rfl, rfl, by go_num, by omega, by omega, HN8⟩, ?_⟩; show (rest).size < s1.size; omega)
                    | (go_roundw; (case rel => exact ⟨rest, some ⟨b, 0, none⟩, (q + 1), c, at_ + 1, rfl, rfl, by go_num, by omega, by omega, HN8⟩); (case measure => (show (rest).size < s1.size; omega)))
end
end Go.Proofs.YtgnchicipmomlaaGreatDoor

/- The program's scripts: classes of bytes. -/
namespace Go.Proofs.YtgnchicipmomlaaGreatDoor
open Go.RowKit
set_option maxRecDepth 100000
attribute [local go_sem] ext_refl_t ext_alloc_t ext_drew_t ext_drewN_t ext_alloc2_t ext_alloc3_t ext_alloc4_t ext_alloc5_t ext_alloc6_t ext_alloc7_t ext_alloc8_t ext_alloc1d_t ext_alloc2d_t ext_alloc3d_t ext_alloc4d_t
/-- Block g is a row of 256 bools. -/
def BitsAt (w : World) (g : Nat) : Prop := ∃ cs, Blk w g 214 cs ∧ cs.size = 256 ∧ ∀ i, i < 256 → ∃ b, cs[i]? = some (.bool b)
theorem BitsAt.ext {w w' : World} {g : Nat} (h : BitsAt w g) (hE : Ext w w') : BitsAt w' g := by
  obtain ⟨cs, hb, h1, h2⟩ := h
  exact ⟨cs, hb.below hE hb.lt, h1, h2⟩
theorem BitsAt.set_ {w : World} {g : Nat} (h : BitsAt w g) (i : Nat) (b : Bool) : BitsAt (w.setCell ⟨g, i, none⟩ (.bool b)) g := by
  obtain ⟨cs, hb, h1, h2⟩ := h
  refine ⟨_, hb.set_ i _, by rw [Array.size_setIfInBounds]; exact h1, fun j hj => ?_⟩
  rw [Array.getElem?_setIfInBounds]
  by_cases e : i = j
  · subst e
    rw [if_pos rfl, if_pos (by omega)]
    exact ⟨b, rfl⟩
  · rw [if_neg e]
    exact h2 j hj
theorem BitsAt.at_ {w : World} {g : Nat} (h : BitsAt w g) {i : Nat} (hi : i < 256) : (∃ b, w.cell? ⟨g, i, none⟩ = some (.bool b)) ∧ w.frozen? ⟨g, i, none⟩ = false := by
  obtain ⟨cs, hb, h1, h2⟩ := h
  obtain ⟨b, hbb⟩ := h2 i hi
  exact ⟨⟨b, by rw [hb.cell]; exact hbb⟩, hb.frozen i⟩
theorem BitsAt.new (w : World) : BitsAt (w.alloc (Obj.cells Tryz.zeroCells214 214)) w.heap.size := by
  have e : Tryz.zeroCells214 = Array.replicate 256 (.bool false) := by kernel_rfl
  refine ⟨_, Blk.new w _ _, by rw [e, Array.size_replicate], fun i hi => ⟨false, ?_⟩⟩
  rw [e, Array.getElem?_replicate, if_pos hi]
section
variable {w : World} {A : Option Addr} {m c : Nat}
set_option maxHeartbeats 1600000 in
theorem class1_any (y z q gc : Nat) (hc : w.cell? ⟨gc, 0, none⟩ = some (.int .i64 q)) (hq : q < 256) :
    Calls Tryz.prog 154 #[.agg #[.int .u8 (y : Int), .int .u8 (z : Int)], .pointer (some ⟨gc, 0, none⟩)] w fun e w' => RetB (fun _ => True) e ∧ Ext w w' := by
  have hE : Ext w (w.alloc (Obj.cells #[.int .u8 (y : Int), .int .u8 (z : Int)] 179)) := (Ext.refl w).alloc _
  have hc2 := later hE hc
  go_enter Tryz.func154, Tryz.ntmps154
  go_wp2
  all_goals go_ret
  all_goals exact ⟨⟨_, rfl, trivial⟩, hE⟩
set_option maxHeartbeats 3200000 in
theorem idxClass_any {l : List (UInt8 × UInt8)} (hs : SlC rngC 2 w A m l) {z0 gc : Nat} (hc : Hid (w.cell? ⟨gc, 0, none⟩ = some (.int .i64 z0))) (hz0 : z0 < 256) :
    Calls Tryz.prog 150 #[.slice A m c, .func (.func 154) #[] #[.pointer (some ⟨gc, 0, none⟩)]] w fun e w' => RetZs (fun z => -1 ≤ z ∧ z ≤ 140737488355328) e ∧ Ext w w' := by
  have HL := Lib.hid hs.len
  have hle := hs.le
  go_enter Tryz.func150, Tryz.ntmps150
  go_wp2
  go_loopw [8] (fun i wr => ∃ q : Nat, q ≤ m ∧ i = .int .i64 q ∧ Ext w wr) (fun i _ => m - (intOf i).toNat)
  case atStart => exact ⟨0, Nat.zero_le _, rfl, Ext.refl _⟩
  case round =>
    obtain ⟨q, hq, rfl, hE⟩ := hrel
    by_cases hlt : q < m
    · obtain ⟨b, off, e0, hbl, hcs⟩ := (hs.ext hE).at_ hlt (by omega)
      subst e0
      have hlt1 : q < l.length := by rw [← HL.out]; exact hlt
      have HM : Hid (l[q] ∈ l) := List.getElem_mem hlt1
      obtain ⟨y, z, y0, y1⟩ := rngAt hcs hlt1
      have hi1 : (q : Int) < (m : Int) := by omega
      go_wp2_with (first
        | (go_at_call 154; refine Hid.out ?_))
      refine Hid.mk_ ((class1_any y z z0 gc (later hE hc.out) hz0).mono ?_)
      rintro e w2 ⟨⟨r, rfl, -⟩, hE2⟩
      cases r with
      | true =>
        go_wp2
        go_ret
        exact ⟨⟨_, rfl, by omega, by omega⟩, hE.trans hE2⟩
      | false =>
        go_wp2
        all_goals first
          | (go_ret; exact ⟨⟨_, rfl, by omega, by omega⟩, hE⟩)
          | (refine ⟨⟨q + 1, by omega, by go_num, hE.trans hE2⟩, ?_⟩; first | (simp [intOf]; omega) | (simp [intOf]) | omega)
          | (go_roundw; (case rel => exact ⟨q + 1, by omega, by go_num, hE.trans hE2⟩); (case measure => first | (simp [intOf]; omega) | (simp [intOf])))
    · have hi1 : ¬ (q : Int) < (m : Int) := by omega
      go_wp2
      go_ret
      exact ⟨⟨_, rfl, by omega, by omega⟩, hE⟩
set_option maxHeartbeats 800000 in
theorem cntClass_any {l : List (UInt8 × UInt8)} (hs : SlC rngC 2 w A m l) {z0 gc : Nat} (hc : Hid (w.cell? ⟨gc, 0, none⟩ = some (.int .i64 z0))) (hz0 : z0 < 256) :
    Calls Tryz.prog 125 #[.slice A m c, .func (.func 154) #[] #[.pointer (some ⟨gc, 0, none⟩)]] w fun e w' => RetB (fun _ => True) e ∧ Ext w w' := by
  go_enter Tryz.func125, Tryz.ntmps125
  go_wp2_with (first
    | (go_at_call 150; refine Hid.out ?_))
  refine Hid.mk_ ((idxClass_any hs hc hz0).mono ?_)
  rintro e w2 ⟨⟨z, rfl, hz1, hz2⟩, hE2⟩
  go_wp2
  go_ret
  exact ⟨⟨_, rfl, trivial⟩, hE2⟩
set_option maxHeartbeats 6400000 in
theorem class_any {x : Itm} (hx : ItmW w x) :
    Calls Tryz.prog 134 #[itmV x] w fun e w' => ∃ g, e = .returned (.pointer (some ⟨g, 0, none⟩)) ∧ Ext w w' ∧ BitsAt w' g ∧ w.heap.size ≤ g := by
  unfold itmV
  obtain ⟨text, rng, no, least, most, ⟨A, m, c⟩⟩ := x
  have hr := hx.r
  have hgt := hx.text
  have hgl := hx.least
  have hgm := hx.most
  unfold GoodStr at hgt
  unfold I64 at hgl hgm
  dsimp only at hr hgt hgl hgm ⊢
  have HL := Lib.hid hr.sl.len
  have hle := hr.sl.le
  dsimp only at HL hle
  obtain ⟨W0, hW0⟩ : ∃ W0, W0 = w.alloc (Obj.cells #[.string text, .slice A m c, .bool no, .int .i64 least, .int .i64 most] 152) := ⟨_, rfl⟩
  have hb : Blk W0 w.heap.size 152 #[.string text, .slice A m c, .bool no, .int .i64 least, .int .i64 most] := by rw [hW0]; exact Blk.new w _ _
  have hE0 : Ext w W0 := by rw [hW0]; exact (Ext.refl w).alloc _
  have hs := hr.sl.ext hE0
  go_enter Tryz.func134, Tryz.ntmps134
  go_upto_region 2 with fail
  have hbn := BitsAt.new W0
  have hE1 : Ext W0 (W0.alloc (Obj.cells Tryz.zeroCells214 214)) := (Ext.refl _).alloc _
  have hs0 : W0.heap.size = w.heap.size + 1 := by rw [hW0]; simp
  have X1 := laters (hb.cell 1)
  have X2 := laters (hb.cell 2)
  simp at X1 X2
  rw [← hW0]
  obtain ⟨W1, hW1⟩ : ∃ W1, W1 = W0.alloc (Obj.cells Tryz.zeroCells214 214) := ⟨_, rfl⟩
  rw [← hW1] at hbn hE1 ⊢
  obtain ⟨gb, hgb⟩ : ∃ gb, gb = w.heap.size + 1 := ⟨_, rfl⟩
  rw [hs0, ← hgb] at hbn
  rw [← hgb]
  obtain ⟨gx, hgx⟩ : ∃ gx, gx = w.heap.size := ⟨_, rfl⟩
  rw [← hgx] at X1 X2 ⊢
  have hgW : W0.heap.size ≤ gb := by omega
  clear hW0 hW1 hgb hgx hs0 hb hx hr
  go_wp2
  go_loopw [5] (fun i wr => ∃ q : Nat, q ≤ 256 ∧ i = .int .i64 q ∧ Ext W0 wr ∧ BitsAt wr gb) (fun i _ => 256 - (intOf i).toNat)
  case atStart => exact ⟨0, Nat.zero_le _, rfl, hE1, hbn⟩
  case round =>
    obtain ⟨q, hq, rfl, hE, hB⟩ := hrel
    by_cases hlt : q < 256
    · have hi1 : (q : Int) < 256 := by omega
      have hbc := Blk.new wr 3 #[.int .i64 (q : Int)]
      have hEc : Ext wr (wr.alloc (Obj.cells #[.int .i64 (q : Int)] 3)) := (Ext.refl wr).alloc _
      obtain ⟨W2, hW2⟩ : ∃ W2, W2 = wr.alloc (Obj.cells #[.int .i64 (q : Int)] 3) := ⟨_, rfl⟩
      go_upto_region 5 with fail
      rw [← hW2] at hbc hEc ⊢
      obtain ⟨gc, hgc⟩ : ∃ gc, gc = wr.heap.size := ⟨_, rfl⟩
      rw [← hgc] at hbc ⊢
      clear hW2 hgc
      have C0 := laters (hbc.cell 0)
      simp at C0
      have hE2 := hE.trans hEc
      have x1 := laters (X1 _ hE2)
      have x2 := laters (X2 _ hE2)
      have hsd := hs.ext (hE2.trans (Ext.refl W2).drew)
      have hcd : Hid (W2.drew.cell? ⟨gc, 0, none⟩ = some (.int .i64 (q : Int))) := C0 _ (Ext.refl W2).drew
      have hBd := hB.ext (hEc.trans (Ext.refl W2).drew)
      have hEd : Ext W2 W2.drew := (Ext.refl W2).drew
      go_region_law
        (first
          | (go_simp
             go_at_call 125
             (refine (cntClass_any hsd hcd hlt).mono ?_)
             rintro e v1 ⟨⟨r, rfl, -⟩, hEv⟩
             have hEv1 := hEd.trans hEv
             have hBv := hBd.ext hEv
             obtain ⟨⟨bq, hcq⟩, hfq⟩ := hBv.at_ hlt)
          | fail)
      all_goals
        have hB9 := hBv.set_ q (!(no == r))
        have hE9 : Ext W0 (v1.setCell ⟨gb, q, none⟩ (.bool (!(no == r)))) := (hE2.trans hEv1).set_ (p := ⟨gb, q, none⟩) hgW _
        obtain ⟨v9, hv9⟩ : ∃ v9, v9 = v1.setCell ⟨gb, q, none⟩ (.bool (!(no == r))) := ⟨_, rfl⟩
        rw [← hv9] at hB9 hE9 ⊢
        clear hv9
        go_wp2
        all_goals first
          | (go_ret; exact ⟨rfl, hb2, hE, hf1⟩)
          | (refine ⟨⟨q + 1, by omega, by go_num, hE9, hB9⟩, ?_⟩; first | (simp [intOf]; omega) | (simp [intOf]) | omega)
          | (go_roundw; (case rel => exact ⟨q + 1, by omega, by go_num, hE9, hB9⟩); (case measure => first | (simp [intOf]; omega) | (simp [intOf])))
    · have hi1 : ¬ (q : Int) < 256 := by omega
      go_wp2
      go_ret
      exact ⟨gb, rfl, hE0.trans hE, hB, by have := hE0.size_le; omega⟩
end
end Go.Proofs.YtgnchicipmomlaaGreatDoor

/- The program's scripts: an item at a place, a pattern at a place. -/
namespace Go.Proofs.YtgnchicipmomlaaGreatDoor
open Go.RowKit
set_option maxRecDepth 100000
attribute [local go_sem] ext_refl_t ext_alloc_t ext_drew_t ext_drewN_t ext_alloc2_t ext_alloc3_t ext_alloc4_t ext_alloc5_t ext_alloc6_t ext_alloc7_t ext_alloc8_t ext_alloc1d_t ext_alloc2d_t ext_alloc3d_t ext_alloc4d_t
/-- A length of at most n, and a bool. -/
def TakR (n : Nat) (e : Ending) : Prop := ∃ (k : Nat) (b : Bool), e = .returned (.tuple #[.int .i64 (k : Int), .bool b]) ∧ k ≤ n
theorem hasPreE (s p : ByteArray) : ∃ r : Bool, (r = true → p.size ≤ s.size) ∧ Hid (∀ W, Calls Tryz.prog 155 #[.string s, .string p] W fun e w' => e = .returned (.bool r) ∧ Ext W w') := by
  refine ⟨Lib.hasPrefix s.data.toList p.data.toList, fun hr => ?_, fun W => ?_⟩
  · have h2 := hasPre_le hr
    rwa [sz_list, sz_list] at h2
  · have h := Go.Proofs.Any.strings_HasPrefix Tryz.laysHP s p W
    change Calls Tryz.prog 155 _ _ _ at h
    exact h.mono fun e w' ⟨he, hw⟩ => ⟨he, by rw [hw]; exact Ext.refl _⟩
section
variable {w : World}
set_option maxHeartbeats 6400000 in
theorem take_any {x : Itm} (hx : ItmW w x) (p : Option Addr) (hp : x.text.size = 0 → ∃ g, p = some ⟨g, 0, none⟩ ∧ BitsAt w g) (s : ByteArray) (hs : s.size ≤ 140737488351232) :
    Calls Tryz.prog 135 #[itmV x, .pointer p, .string s] w fun e w' => TakR s.size e ∧ Ext w w' := by
  unfold itmV
  obtain ⟨text, rng, no, least, most, ⟨A, m, c⟩⟩ := x
  have hr := hx.r
  have hgt := hx.text
  have hgl := hx.least
  have hgm := hx.most
  unfold GoodStr at hgt
  unfold I64 at hgl hgm
  dsimp only at hr hgt hgl hgm ⊢
  have HL := Lib.hid hr.sl.len
  have hle := hr.sl.le
  dsimp only at HL hle
  dsimp only at hp
  obtain ⟨W0, hW0⟩ : ∃ W0, W0 = w.alloc (Obj.cells #[.string text, .slice A m c, .bool no, .int .i64 least, .int .i64 most] 152) := ⟨_, rfl⟩
  have hb : Blk W0 w.heap.size 152 #[.string text, .slice A m c, .bool no, .int .i64 least, .int .i64 most] := by rw [hW0]; exact Blk.new w _ _
  have hE0 : Ext w W0 := by rw [hW0]; exact (Ext.refl w).alloc _
  have hs := hr.sl.ext hE0
  have X0 := laters (hb.cell 0)
  have X3 := laters (hb.cell 3)
  have X4 := laters (hb.cell 4)
  simp at X0 X3 X4
  clear hx hr hb hs
  go_enter Tryz.func135, Tryz.ntmps135
  go_wp2
  rw [← hW0]
  obtain ⟨gx, hgx⟩ : ∃ gx, gx = w.heap.size := ⟨_, rfl⟩
  rw [← hgx] at X0 X3 X4 ⊢
  clear hgx hW0
  go_loopw [8, 9] (fun nn cc wr => ∃ n k : Nat, n ≤ s.size ∧ k ≤ n ∧ nn = .int .i64 n ∧ cc = .int .i64 k ∧ Ext W0 wr) (fun nn _ _ => s.size - (intOf nn).toNat)
  case atStart => exact ⟨0, 0, Nat.zero_le _, Nat.le_refl _, rfl, rfl, Ext.refl _⟩
  case round =>
    obtain ⟨n, k, hn, hk, rfl, rfl, hE⟩ := hrel
    have h4 := X4 _ hE
    have y0 := latersU (X0 _ hE)
    have y3 := latersU (X3 _ hE)
    by_cases hc : most < 0 ∨ (k : Int) < most
    · have hcc : (most < 0) ∨ (¬ most < 0 ∧ (k : Int) < most) := by omega
      by_cases ht : text.size = 0
      · have hte := tl_empty ht
        obtain ⟨g, rfl, hB⟩ := hp ht
        have HB := Lib.hid hB
        clear hB ht hp hc
        rcases hcc with h1 | ⟨h1, h2⟩
        ·
          go_upto_region 4 with fail
          refine wp_region_ext_lit (by kernel_rfl) (by kernel_rfl) ?_
          try dsimp only [List.append]
          repeat (go_big_quiet_step (fail))
          refine wpQuiet_nil ?_
          rintro w5 ⟨⟨_, h5⟩, rfl⟩
          try dsimp only
          go_upto_region 6 with fail
          have hE5 := hE.trans h5
          have y0' := latersU (X0 _ hE5)
          have y3' := latersU (X3 _ hE5)
          by_cases hlt : n < s.size
          · obtain ⟨z, hz⟩ : ∃ z : Nat, s[n].toNat = z := ⟨_, rfl⟩
            have hz256 : z < 256 := by rw [← hz]; exact UInt8.toNat_lt _
            have hi1 : (n : Int) < (s.size : Int) := by omega
            have hzi : (z : Int) < 256 := by omega
            obtain ⟨⟨b, hbc⟩, -⟩ := (HB.out.ext (hE0.trans hE5)).at_ hz256
            have yb := latersU hbc
            refine wp_region_ext_lit (by kernel_rfl) (by kernel_rfl) ?_
            try dsimp only [List.append]
            repeat (go_big_quiet_step (fail))
            refine wpQuiet_nil ?_
            rintro w6 ⟨⟨_, h6⟩, rfl⟩
            try dsimp only
            have hE6 := hE5.trans h6
            have y3'' := latersU (X3 _ hE6)
            cases b with
            | true =>
              go_wp2
              all_goals first
                | (go_ret; exact ⟨rfl, hb2, hE, hf1⟩)
                | (refine ⟨⟨n + 1, k + 1, by omega, by omega, by go_num, by go_num, hE6⟩, ?_⟩; first | (simp [intOf]; omega) | (simp [intOf]) | omega)
                | (go_roundw; (case rel => exact ⟨n + 1, k + 1, by omega, by omega, by go_num, by go_num, hE6⟩); (case measure => first | (simp [intOf]; omega) | (simp [intOf])))
            | false =>
              go_upto_region 3 with fail
              refine wp_region_ext_lit (by kernel_rfl) (by kernel_rfl) ?_
              try dsimp only [List.append]
              repeat (go_big_quiet_step (fail))
              refine wpQuiet_nil ?_
              rintro w7 ⟨⟨_, h7⟩, rfl⟩
              try dsimp only
              go_wp2
              go_ret2
              exact ⟨⟨n, _, rfl, hn⟩, hE0.trans (hE6.trans h7)⟩
          · have hi1 : ¬ (n : Int) < (s.size : Int) := by omega
            refine wp_region_ext_lit (by kernel_rfl) (by kernel_rfl) ?_
            try dsimp only [List.append]
            repeat (go_big_quiet_step (fail))
            refine wpQuiet_nil ?_
            rintro w6 ⟨⟨_, h6⟩, rfl⟩
            try dsimp only
            have hE6 := hE5.trans h6
            have y3'' := latersU (X3 _ hE6)
            go_upto_region 3 with fail
            refine wp_region_ext_lit (by kernel_rfl) (by kernel_rfl) ?_
            try dsimp only [List.append]
            repeat (go_big_quiet_step (fail))
            refine wpQuiet_nil ?_
            rintro w7 ⟨⟨_, h7⟩, rfl⟩
            try dsimp only
            go_wp2
            go_ret2
            exact ⟨⟨n, _, rfl, hn⟩, hE0.trans (hE6.trans h7)⟩
        ·
          go_upto_region 4 with fail
          refine wp_region_ext_lit (by kernel_rfl) (by kernel_rfl) ?_
          try dsimp only [List.append]
          repeat (go_big_quiet_step (fail))
          refine wpQuiet_nil ?_
          rintro w5 ⟨⟨_, h5⟩, rfl⟩
          try dsimp only
          go_upto_region 6 with fail
          have hE5 := hE.trans h5
          have y0' := latersU (X0 _ hE5)
          have y3' := latersU (X3 _ hE5)
          by_cases hlt : n < s.size
          · obtain ⟨z, hz⟩ : ∃ z : Nat, s[n].toNat = z := ⟨_, rfl⟩
            have hz256 : z < 256 := by rw [← hz]; exact UInt8.toNat_lt _
            have hi1 : (n : Int) < (s.size : Int) := by omega
            have hzi : (z : Int) < 256 := by omega
            obtain ⟨⟨b, hbc⟩, -⟩ := (HB.out.ext (hE0.trans hE5)).at_ hz256
            have yb := latersU hbc
            refine wp_region_ext_lit (by kernel_rfl) (by kernel_rfl) ?_
            try dsimp only [List.append]
            repeat (go_big_quiet_step (fail))
            refine wpQuiet_nil ?_
            rintro w6 ⟨⟨_, h6⟩, rfl⟩
            try dsimp only
            have hE6 := hE5.trans h6
            have y3'' := latersU (X3 _ hE6)
            cases b with
            | true =>
              go_wp2
              all_goals first
                | (go_ret; exact ⟨rfl, hb2, hE, hf1⟩)
                | (refine ⟨⟨n + 1, k + 1, by omega, by omega, by go_num, by go_num, hE6⟩, ?_⟩; first | (simp [intOf]; omega) | (simp [intOf]) | omega)
                | (go_roundw; (case rel => exact ⟨n + 1, k + 1, by omega, by omega, by go_num, by go_num, hE6⟩); (case measure => first | (simp [intOf]; omega) | (simp [intOf])))
            | false =>
              go_upto_region 3 with fail
              refine wp_region_ext_lit (by kernel_rfl) (by kernel_rfl) ?_
              try dsimp only [List.append]
              repeat (go_big_quiet_step (fail))
              refine wpQuiet_nil ?_
              rintro w7 ⟨⟨_, h7⟩, rfl⟩
              try dsimp only
              go_wp2
              go_ret2
              exact ⟨⟨n, _, rfl, hn⟩, hE0.trans (hE6.trans h7)⟩
          · have hi1 : ¬ (n : Int) < (s.size : Int) := by omega
            refine wp_region_ext_lit (by kernel_rfl) (by kernel_rfl) ?_
            try dsimp only [List.append]
            repeat (go_big_quiet_step (fail))
            refine wpQuiet_nil ?_
            rintro w6 ⟨⟨_, h6⟩, rfl⟩
            try dsimp only
            have hE6 := hE5.trans h6
            have y3'' := latersU (X3 _ hE6)
            go_upto_region 3 with fail
            refine wp_region_ext_lit (by kernel_rfl) (by kernel_rfl) ?_
            try dsimp only [List.append]
            repeat (go_big_quiet_step (fail))
            refine wpQuiet_nil ?_
            rintro w7 ⟨⟨_, h7⟩, rfl⟩
            try dsimp only
            go_wp2
            go_ret2
            exact ⟨⟨n, _, rfl, hn⟩, hE0.trans (hE6.trans h7)⟩
      · have hte := tl_full ht
        have htp : 0 < text.size := by omega
        obtain ⟨r, hr, HP⟩ := hasPreE (s.extract n s.size) text
        have hn1 : (n : Int) ≤ (s.size : Int) := by omega
        have hr2 : r = true → n + text.size ≤ s.size := fun h => by
          have h1 := hr h
          rw [ByteArray.size_extract] at h1
          omega
        clear ht hp hc hr
        rcases hcc with h1 | ⟨h1, h2⟩
        ·
          go_upto_region 4 with fail
          refine wp_region_ext_lit (by kernel_rfl) (by kernel_rfl) ?_
          try dsimp only [List.append]
          repeat (go_big_quiet_step ((go_at_call 155; exact Calls.quiet_ext (HP.out _))))
          refine wpQuiet_nil ?_
          rintro w5 ⟨⟨_, h5⟩, rfl⟩
          try dsimp only
          have hE5 := hE.trans h5
          have y0' := latersU (X0 _ hE5)
          have y3' := latersU (X3 _ hE5)
          have x0' := X0 _ hE5
          cases r with
          | true =>
            have hr3 := hr2 rfl
            clear hr2
            go_wp2
            all_goals first
              | (go_ret; exact ⟨rfl, hb2, hE, hf1⟩)
              | (refine ⟨⟨n + text.size, k + 1, by omega, by omega, by go_num, by go_num, hE5⟩, ?_⟩; first | (simp [intOf]; omega) | (simp [intOf]) | omega)
              | (go_roundw; (case rel => exact ⟨n + text.size, k + 1, by omega, by omega, by go_num, by go_num, hE5⟩); (case measure => first | (simp [intOf]; omega) | (simp [intOf])))
          | false =>
            clear hr2
            go_upto_region 6 with fail
            refine wp_region_ext_lit (by kernel_rfl) (by kernel_rfl) ?_
            try dsimp only [List.append]
            repeat (go_big_quiet_step (fail))
            refine wpQuiet_nil ?_
            rintro w6 ⟨⟨_, h6⟩, rfl⟩
            try dsimp only
            have hE6 := hE5.trans h6
            have y3'' := latersU (X3 _ hE6)
            go_upto_region 3 with fail
            refine wp_region_ext_lit (by kernel_rfl) (by kernel_rfl) ?_
            try dsimp only [List.append]
            repeat (go_big_quiet_step (fail))
            refine wpQuiet_nil ?_
            rintro w7 ⟨⟨_, h7⟩, rfl⟩
            try dsimp only
            go_wp2
            go_ret2
            exact ⟨⟨n, _, rfl, hn⟩, hE0.trans (hE6.trans h7)⟩
        ·
          go_upto_region 4 with fail
          refine wp_region_ext_lit (by kernel_rfl) (by kernel_rfl) ?_
          try dsimp only [List.append]
          repeat (go_big_quiet_step ((go_at_call 155; exact Calls.quiet_ext (HP.out _))))
          refine wpQuiet_nil ?_
          rintro w5 ⟨⟨_, h5⟩, rfl⟩
          try dsimp only
          have hE5 := hE.trans h5
          have y0' := latersU (X0 _ hE5)
          have y3' := latersU (X3 _ hE5)
          have x0' := X0 _ hE5
          cases r with
          | true =>
            have hr3 := hr2 rfl
            clear hr2
            go_wp2
            all_goals first
              | (go_ret; exact ⟨rfl, hb2, hE, hf1⟩)
              | (refine ⟨⟨n + text.size, k + 1, by omega, by omega, by go_num, by go_num, hE5⟩, ?_⟩; first | (simp [intOf]; omega) | (simp [intOf]) | omega)
              | (go_roundw; (case rel => exact ⟨n + text.size, k + 1, by omega, by omega, by go_num, by go_num, hE5⟩); (case measure => first | (simp [intOf]; omega) | (simp [intOf])))
          | false =>
            clear hr2
            go_upto_region 6 with fail
            refine wp_region_ext_lit (by kernel_rfl) (by kernel_rfl) ?_
            try dsimp only [List.append]
            repeat (go_big_quiet_step (fail))
            refine wpQuiet_nil ?_
            rintro w6 ⟨⟨_, h6⟩, rfl⟩
            try dsimp only
            have hE6 := hE5.trans h6
            have y3'' := latersU (X3 _ hE6)
            go_upto_region 3 with fail
            refine wp_region_ext_lit (by kernel_rfl) (by kernel_rfl) ?_
            try dsimp only [List.append]
            repeat (go_big_quiet_step (fail))
            refine wpQuiet_nil ?_
            rintro w7 ⟨⟨_, h7⟩, rfl⟩
            try dsimp only
            go_wp2
            go_ret2
            exact ⟨⟨n, _, rfl, hn⟩, hE0.trans (hE6.trans h7)⟩
    · have h1 : ¬ most < 0 := by omega
      have h2 : ¬ (k : Int) < most := by omega
      clear hc
      go_upto_region 9 with fail
      refine wp_region_ext_lit (by kernel_rfl) (by kernel_rfl) ?_
      try dsimp only [List.append]
      repeat (go_big_quiet_step (fail))
      refine wpQuiet_nil ?_
      rintro w5 ⟨⟨_, h5⟩, rfl⟩
      try dsimp only
      go_wp2
      go_ret2
      exact ⟨⟨n, _, rfl, hn⟩, hE0.trans (hE.trans h5)⟩
end
end Go.Proofs.YtgnchicipmomlaaGreatDoor
