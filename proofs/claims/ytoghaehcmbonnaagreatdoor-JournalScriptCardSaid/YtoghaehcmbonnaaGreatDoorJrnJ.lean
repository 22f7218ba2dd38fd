/- The journal in memory; New. -/
import Derived.Test.YtoghaehcmbonnaaGreatDoorJrnA
import Derived.Test.YtoghaehcmbonnaaGreatDoorJrnE
import Derived.Test.YtoghaehcmbonnaaGreatDoorJrnL
import Derived.Test.YtoghaehcmbonnaaGreatDoorBufW
import Derived.Test.YtoghaehcmbonnaaGreatDoorDig2
import Derived.Test.YtoghaehcmbonnaaGreatDoorSlc
import Derived.Deep.RegionLaw
import Derived.ArgAppend
namespace Go.Proofs.YtoghaehcmbonnaaGreatDoor
open Go.RowKit
set_option maxRecDepth 100000

def intC (n : Int) : List Value := [.int .i64 n]
def keyC (n : Nat) : List Value := [.int .u64 (n : Int)]
theorem intC_len (n : Int) : (intC n).length = 1 := rfl
theorem keyC_len (n : Nat) : (keyC n).length = 1 := rfl
theorem evC_len (x : Ev) : (evC x).length = 8 := rfl
theorem intC_one (n : Int) : ∀ u ∈ intC n, u.oneCell' = true := by intro u hu; simp only [intC, List.mem_singleton] at hu; subst hu; rfl
theorem keyC_one (n : Nat) : ∀ u ∈ keyC n, u.oneCell' = true := by intro u hu; simp only [keyC, List.mem_singleton] at hu; subst hu; rfl
theorem evC_one (x : Ev) : ∀ u ∈ evC x, u.oneCell' = true := by
  intro u hu
  simp only [evC, List.mem_cons, List.not_mem_nil, or_false] at hu
  rcases hu with rfl | rfl | rfl | rfl | rfl | rfl | rfl | rfl <;> rfl
theorem einfo_ev : EInfo 28 46 8 96 := EInfo.mk_ (z := evV ev0) Tryz.underlying28 (by kernel_rfl) rfl (by omega) (by omega)
theorem einfo_in : EInfo 38 3 1 8 := EInfo.mk_ (z := .int .i64 0) Tryz.underlying38 (by kernel_rfl) rfl (by omega) (by omega)
theorem einfo_ky : EInfo 61 60 1 8 := EInfo.mk_ (z := .int .u64 0) Tryz.underlying61 (by kernel_rfl) rfl (by omega) (by omega)
/-- The fields beside the buffer. -/
def jR (a b c d : Value) (i : Nat) : Option Value := if i = 0 then some a else if i = 4 then some b else if i = 5 then some c else if i = 6 then some d else none
theorem jR0 (a b c d x : Value) : (fun j => if j = 0 then some x else jR a b c d j) = jR x b c d := by funext j; by_cases h : j = 0 <;> simp [h, jR]
theorem jR4 (a b c d x : Value) : (fun j => if j = 4 then some x else jR a b c d j) = jR a x c d := by funext j; by_cases h : j = 4 <;> simp [h, jR]
theorem jR5 (a b c d x : Value) : (fun j => if j = 5 then some x else jR a b c d j) = jR a b x d := by funext j; by_cases h : j = 5 <;> simp [h, jR]
theorem jR6 (a b c d x : Value) : (fun j => if j = 6 then some x else jR a b c d j) = jR a b c x := by funext j; by_cases h : j = 6 <;> simp [h, jR]
/-- The kind of a block. -/
def Tg (w : World) (g : Nat) (t : TypeId) : Prop := ∃ x fz, w.heap[g]? = some (.cells x t fz)
theorem Tg.eq {w : World} {g : Nat} {t t' : TypeId} (h : Tg w g t) (h' : Tg w g t') : t = t' := by
  obtain ⟨x, fz, h⟩ := h
  obtain ⟨x', fz', h'⟩ := h'
  rw [h] at h'
  injection h' with h'
  injection h' with _ h2 _
section
variable {α : Type} {cs : α → List Value} {e : TypeId} {n : Nat} {w w' : World} {base : Nat} {A : Option Addr} {m c : Nat} {L : List α}
theorem OsC.tg {g : Nat} (h : OsC cs e n w base A m c L) (hA : ob A = some g) : Tg w g e := by
  rcases h.own.2 with ⟨hv, _⟩ | ⟨g', cap, cur, hv, _, hb, _⟩
  · injection hv with hv
    rw [hv] at hA
    cases hA
  · injection hv with hv
    rw [hv] at hA
    injection hA with hA
    subst hA
    exact ⟨_, _, hb⟩
theorem OsC.keep {S : Nat → Prop} (h : OsC cs e n w base A m c L) (hk : KeepS S w w') (hA : ∀ g, ob A = some g → ¬ S g) : OsC cs e n w' base A m c L := by
  cases ha : ob A with
  | none =>
    refine ⟨⟨h.own.1, ?_⟩, h.one, h.cell, h.len, h.le⟩
    rcases h.own.2 with hv | ⟨g', cap, cur, hv, _⟩
    · exact .inl hv
    · injection hv with hv
      rw [hv] at ha
      cases ha
  | some g =>
    refine ⟨⟨h.own.1, ?_⟩, h.one, h.cell, h.len, h.le⟩
    rcases h.own.2 with hv | ⟨g', cap, cur, hv, hbg, hb, r⟩
    · exact .inl hv
    · have hv2 := hv
      injection hv2 with hv2
      exact .inr ⟨g', cap, cur, hv, hbg, (hk.block g' (Lib.lt_of_heap hb) (hA g' (by rw [hv2]; rfl))).trans hb, r⟩
end
/-- A slice of the journal's own: it owns its row, or it is full. -/
def OsF {α : Type} (cs : α → List Value) (e : TypeId) (n : Nat) (w : World) (base : Nat) (A : Option Addr) (m c : Nat) (L : List α) : Prop :=
  OsC cs e n w base A m c L ∨ (SlC cs n w A m L ∧ (∀ x, ∀ u ∈ cs x, u.oneCell' = true) ∧ c = m ∧ ∃ g, A = some ⟨g, 0, none⟩ ∧ base ≤ g ∧ Tg w g e)
section
variable {α : Type} {cs : α → List Value} {t e : TypeId} {n : Nat} {w w' : World} {base : Nat} {A : Option Addr} {m c : Nat} {L : List α}
theorem OsF.sl (h : OsF cs e n w base A m c L) : SlC cs n w A m L := h.elim (fun h => h.sl) fun h => h.1
theorem OsF.len (h : OsF cs e n w base A m c L) : m = L.length := h.sl.len
theorem OsF.cap (h : OsF cs e n w base A m c L) : m ≤ c := h.elim (fun h => h.cap) fun h => by rw [h.2.2.1]; exact Nat.le_refl _
theorem OsF.tg {g : Nat} (h : OsF cs e n w base A m c L) (hA : ob A = some g) : Tg w g e := by
  rcases h with h | ⟨_, _, _, g', rfl, _, ht⟩
  · exact h.tg hA
  · injection hA with hA
    subst hA
    exact ht
theorem OsF.lt (h : OsF cs e n w base A m c L) : ∀ g, ob A = some g → g < w.heap.size := fun g hg => by
  obtain ⟨_, _, h1⟩ := h.tg hg
  exact Lib.lt_of_heap h1
theorem OsF.ge (h : OsF cs e n w base A m c L) : ∀ g, ob A = some g → base ≤ g := fun g hg => by
  rcases h with h | ⟨_, _, _, g', rfl, hb, _⟩
  · exact h.ge g hg
  · injection hg with hg
    subst hg
    exact hb
theorem Tg.keep {S : Nat → Prop} {g : Nat} (h : Tg w g e) (hk : KeepS S w w') (hg : ¬ S g) : Tg w' g e := by
  obtain ⟨x, fz, h⟩ := h
  exact ⟨x, fz, (hk.block g (Lib.lt_of_heap h) hg).trans h⟩
theorem KeepS.slc {S : Nat → Prop} (hk : KeepS S w w') (hs : SlC cs n w A m L) (hA : ∀ g, ob A = some g → ¬ S g) : SlC cs n w' A m L := by
  refine ⟨⟨hs.rd.1, fun hn => ?_⟩, hs.one, hs.len, hs.le⟩
  obtain ⟨ad, e, hb, hc⟩ := hs.rd.2 hn
  refine ⟨ad, e, Nat.lt_of_lt_of_le hb hk.size, fun j u hu => hk.cell ?_ (hc j u hu)⟩
  rw [block_of_add]
  exact hA _ (by rw [e]; rfl)
theorem OsF.keep {S : Nat → Prop} (h : OsF cs e n w base A m c L) (hk : KeepS S w w') (hA : ∀ g, ob A = some g → ¬ S g) : OsF cs e n w' base A m c L := by
  rcases h with h | ⟨h1, h2, h3, g, rfl, h5, h6⟩
  · exact .inl (h.keep hk hA)
  · exact .inr ⟨hk.slc h1 hA, h2, h3, g, rfl, h5, h6.keep hk (hA g rfl)⟩
theorem OsF.ext (h : OsF cs e n w base A m c L) (hE : Ext w w') : OsF cs e n w' base A m c L := h.keep (KeepS.of_ext (fun _ => False) hE) fun _ _ e => e
theorem wp_appF {by_ : Nat} (I : EInfo t e n by_) {o : Oper} {a : Act} {K : Act → World → Prop} {Q : Exit → Act → World → Prop} (s x : Operand)
    (ho : o.op = .call { callee := .builtin .append, args := #[s, x], argTypes := #[t, t] })
    (hown : OsF cs e n w base A m c L) (hs : a.eval s = .slice A m c)
    {B : Option Addr} {p d : Nat} {news : List α} (hr : SlC cs n w B p news) (hx : a.eval x = .slice B p d) (hp : 0 < p)
    (hb : (m + p) * by_ ≤ 140737488355328) (hbase : base ≤ w.heap.size)
    (h : ∀ A' m' c' w', OsF cs e n w' base A' m' c' (L ++ news) → w.grownBy w' (ob A) → NewOr w.heap.size (ob A) (ob A') →
      K (a.put o.dst (.slice A' m' c')) w') : o.wp Tryz.prog a w K Q := by
  rcases hown with hown | ⟨h1, h2, rfl, g, rfl, h5, h6⟩
  · exact wp_appC I s x ho hown hs hr hx hb hbase fun A' m' c' w' a1 a2 a3 => h A' m' c' w' (.inl a1) a2 a3
  · obtain ⟨i0, z, hi0, hz0, hz1, hz2, hz3⟩ := I.i
    have hmn : (c + p) * 8 ≤ 140737488355328 := Nat.le_trans (Nat.mul_le_mul_left _ I.bp) hb
    obtain ⟨bd, rfl, _, hc2⟩ := hr.rd.2 hp
    have hcells : ∀ j u, (L.flatMap cs)[j]? = some u → w.cell? ((⟨g, 0, none⟩ : Addr).add j) = some u := fun j u hu => by
      have hjl := (List.getElem?_eq_some_iff.1 hu).1
      have hc0 : 0 < c := by
        rcases Nat.eq_zero_or_pos c with h0 | h0
        · have := h1.rd.1
          rw [h0, Nat.zero_mul] at this
          omega
        · exact h0
      obtain ⟨ad, e1, _, hc⟩ := h1.rd.2 hc0
      injection e1 with e1
      subst e1
      exact hc j u hu
    obtain ⟨v', w', hrun, r1, r2⟩ := run_append_arg_grows (P := Tryz.prog) w t o.type e i0 _ n by_ I.u hi0 hz0 hz1 hz2 hz3 I.kp ⟨g, 0, none⟩ c c (L.flatMap cs) h1.rd.1 hcells bd p d (news.flatMap cs) hr.rd.1 hc2 (by omega) (by simp only [maxLen]; omega) hb
    have hv : ∃ A' c', v' = .slice A' (c + p) c' := by
      rcases r1.2 with ⟨rfl, h0⟩ | ⟨g, cap, cur, rfl, _⟩
      · exact ⟨none, 0, by rw [h0]⟩
      · exact ⟨_, _, rfl⟩
    obtain ⟨A', c', rfl⟩ := hv
    have ho2 : OsC cs e n w' w.heap.size A' (c + p) c' (L ++ news) := ⟨by rw [List.flatMap_append]; exact r1, h1.one, h2, by rw [List.length_append, h1.len, hr.len], by omega⟩
    have hfin := h A' (c + p) c' w' (.inl (ho2.mono hbase)) ⟨r2.os, r2.tape, r2.output, r2.size, fun k hk _ => r2.block k hk (by simp)⟩ fun k hk => .inl (ho2.ge k hk)
    unfold Oper.wp execOp
    simp only [ho, resolve, invoke, builtin, Sem.run_bind, Sem.run_pure, Result.andThen_ok, List.map_toArray, List.map_cons, List.map_nil, hs, hx, hrun]
    exact hfin
theorem step_appF {by_ : Nat} (I : EInfo t e n by_) {ops : Array Oper} {o : Oper} {a : Act} {K : Act → World → Prop} {Q : Exit → Act → World → Prop} {E : Prop} (hgd : Region.wanted o (yielded ops a.tmps) = true) (s x : Operand)
    (ho : o.op = .call { callee := .builtin .append, args := #[s, x], argTypes := #[t, t] })
    (hown : OsF cs e n w base A m c L) (hs : a.eval s = .slice A m c)
    {B : Option Addr} {p d : Nat} {news : List α} (hr : SlC cs n w B p news) (hx : a.eval x = .slice B p d) (hp : 0 < p)
    (hb : (m + p) * by_ ≤ 140737488355328) (hbase : base ≤ w.heap.size)
    (h : ∀ A' m' c' w', OsF cs e n w' base A' m' c' (L ++ news) → w.grownBy w' (ob A) → NewOr w.heap.size (ob A) (ob A') →
      K (a.put o.dst (.slice A' m' c')) w') : if Region.wanted o (yielded ops a.tmps) = true then Oper.wp Tryz.prog o a w K Q else E := by
  rw [if_pos hgd]
  exact wp_appF I s x ho hown hs hr hx hp hb hbase h
end
/-- Block j is a journal, whose other fields are R; its blocks are in S. -/
structure JrX (w : World) (j : Nat) (S : Nat → Prop) (R : Nat → Option Value) (Ae : Option Addr) (me ce : Nat) (An : Option Addr) (mn cn : Nat) (Ak : Option Addr) (mk ck : Nat) (G : Option Nat) (l : List Ev) (es : List Int) (ks : List Nat) (bs : List UInt8) : Prop where
  buf : Bf w 63 R j 1 G bs
  ev : OsF evC 46 8 w 0 Ae me ce l
  en : OsF intC 3 1 w 0 An mn cn es
  ky : OsF keyC 60 1 w 0 Ak mk ck ks
  sj : S j
  sg : ∀ g, G = some g → S g
  se : ∀ g, ob Ae = some g → S g
  sn : ∀ g, ob An = some g → S g
  sk : ∀ g, ob Ak = some g → S g
def Jr (w : World) (j : Nat) (S : Nat → Prop) (l : List Ev) (es : List Int) (k : Nat) (ks : List Nat) (bs : List UInt8) : Prop :=
  ∃ Ae me ce An mn cn Ak mk ck G, JrX w j S (jR (.slice Ae me ce) (.slice An mn cn) (.int .u64 (k : Int)) (.slice Ak mk ck)) Ae me ce An mn cn Ak mk ck G l es ks bs
theorem Bf.tg {w : World} {T : TypeId} {R : Nat → Option Value} {b q g : Nat} {G : Option Nat} {l : List UInt8} (h : Bf w T R b q G l) (hG : G = some g) : Tg w g 5 := by
  obtain ⟨lr, ⟨h0, _, h3⟩ | ⟨g', cap, cur, h0, h3, h4, _⟩⟩ := h.cases
  · rw [h0] at hG; cases hG
  · rw [h0] at hG; injection hG with hG; subst hG; exact ⟨_, _, h4⟩
theorem Bf.tgb {w : World} {T : TypeId} {R : Nat → Option Value} {b q : Nat} {G : Option Nat} {l : List UInt8} (h : Bf w T R b q G l) : Tg w b T := by
  obtain ⟨lr, ⟨_, _, h3⟩ | ⟨g, cap, cur, _, h3, _⟩⟩ := h.cases <;> exact ⟨_, _, h3.choose_spec.1⟩
section
variable {w w' : World} {j : Nat} {S S' : Nat → Prop} {R : Nat → Option Value} {Ae : Option Addr} {me ce : Nat} {An : Option Addr} {mn cn : Nat} {Ak : Option Addr} {mk ck : Nat} {G : Option Nat} {l : List Ev} {es : List Int} {k : Nat} {ks : List Nat} {bs : List UInt8}
theorem JrX.keep {K : Nat → Prop} (h : JrX w j S R Ae me ce An mn cn Ak mk ck G l es ks bs) (hk : KeepS K w w') (hK : ∀ g, S g → ¬ K g) : JrX w' j S R Ae me ce An mn cn Ak mk ck G l es ks bs :=
  ⟨h.buf.keep hk (hK _ h.sj) fun g hg => hK _ (h.sg g hg), h.ev.keep hk fun g hg => hK _ (h.se g hg), h.en.keep hk fun g hg => hK _ (h.sn g hg), h.ky.keep hk fun g hg => hK _ (h.sk g hg), h.sj, h.sg, h.se, h.sn, h.sk⟩
theorem JrX.mono (h : JrX w j S R Ae me ce An mn cn Ak mk ck G l es ks bs) (hS : ∀ g, S g → S' g) : JrX w j S' R Ae me ce An mn cn Ak mk ck G l es ks bs :=
  ⟨h.buf, h.ev, h.en, h.ky, hS _ h.sj, fun g hg => hS _ (h.sg g hg), fun g hg => hS _ (h.se g hg), fun g hg => hS _ (h.sn g hg), fun g hg => hS _ (h.sk g hg)⟩
theorem JrX.ext (h : JrX w j S R Ae me ce An mn cn Ak mk ck G l es ks bs) (hE : Ext w w') : JrX w' j S R Ae me ce An mn cn Ak mk ck G l es ks bs := h.keep (KeepS.of_ext (fun _ => False) hE) fun _ _ e => e
/-- A field is stored into. -/
theorem JrX.set_ (h : JrX w j S R Ae me ce An mn cn Ak mk ck G l es ks bs) (i : Nat) (hi : i < 1 ∨ 4 ≤ i) {old : Value} (hold : R i = some old) (x : Value) :
    JrX (w.setCell ⟨j, i, none⟩ x) j S (fun q => if q = i then some x else R q) Ae me ce An mn cn Ak mk ck G l es ks bs := by
  have hk := KeepS.setCell w j i x
  have hb := h.buf.tgb
  refine ⟨h.buf.setOther i hi hold x, h.ev.keep hk fun g hg e => ?_, h.en.keep hk fun g hg e => ?_, h.ky.keep hk fun g hg e => ?_, h.sj, h.sg, h.se, h.sn, h.sk⟩
  · subst e; exact absurd ((h.ev.tg hg).eq hb) (by decide)
  · subst e; exact absurd ((h.en.tg hg).eq hb) (by decide)
  · subst e; exact absurd ((h.ky.tg hg).eq hb) (by decide)
/-- The buffer is written to. -/
theorem JrX.wrote {bs' : List UInt8} (h : JrX w j S R Ae me ce An mn cn Ak mk ck G l es ks bs) (hw : Wr w w' 63 R j 1 G bs') (hS : ∀ g, w.heap.size ≤ g → S g) :
    ∃ G', JrX w' j S R Ae me ce An mn cn Ak mk ck G' l es ks bs' ∧ KeepS S w w' ∧ NewOr w.heap.size G G' ∧ KeepS (fun g => g = j ∨ G = some g) w w' := by
  obtain ⟨G', hB, hN, hK⟩ := hw
  have hb := h.buf.tgb
  refine ⟨G', ⟨hB, h.ev.keep hK fun g hg e => ?_, h.en.keep hK fun g hg e => ?_, h.ky.keep hK fun g hg e => ?_, h.sj, fun g hg => ?_, h.se, h.sn, h.sk⟩, hK.mono fun g _ e => ?_, hN, hK⟩
  · rcases e with e | e
    · subst e; exact absurd ((h.ev.tg hg).eq hb) (by decide)
    · exact absurd ((h.ev.tg hg).eq (h.buf.tg e)) (by decide)
  · rcases e with e | e
    · subst e; exact absurd ((h.en.tg hg).eq hb) (by decide)
    · exact absurd ((h.en.tg hg).eq (h.buf.tg e)) (by decide)
  · rcases e with e | e
    · subst e; exact absurd ((h.ky.tg hg).eq hb) (by decide)
    · exact absurd ((h.ky.tg hg).eq (h.buf.tg e)) (by decide)
  · rcases hN g hg with h1 | h1
    · exact hS g h1
    · exact h.sg g h1
  · rcases e with e | e
    · subst e; exact h.sj
    · exact h.sg g e
theorem new_s {r r' : Option Nat} (hN : NewOr w.heap.size r r') (hS : ∀ g, w.heap.size ≤ g → S g) (hr : ∀ g, r = some g → S g) : ∀ g, r' = some g → S g := fun g hg => by
  rcases hN g hg with h1 | h1
  · exact hS g h1
  · exact hr g h1
theorem JrX.growE {Ae' : Option Addr} {me' ce' : Nat} {l' : List Ev} (h : JrX w j S R Ae me ce An mn cn Ak mk ck G l es ks bs) (hg : w.grownBy w' (ob Ae)) (ho : OsF evC 46 8 w' 0 Ae' me' ce' l') (hN : NewOr w.heap.size (ob Ae) (ob Ae')) (hS : ∀ g, w.heap.size ≤ g → S g) :
    JrX w' j S R Ae' me' ce' An mn cn Ak mk ck G l' es ks bs ∧ KeepS S w w' := by
  have hK := KeepS.grown hg
  refine ⟨⟨h.buf.keep hK (fun e => absurd ((h.ev.tg e).eq h.buf.tgb) (by decide)) fun g hg e => absurd ((h.ev.tg e).eq (h.buf.tg hg)) (by decide), ho, h.en.keep hK fun g hg e => absurd ((h.ev.tg e).eq (h.en.tg hg)) (by decide), h.ky.keep hK fun g hg e => absurd ((h.ev.tg e).eq (h.ky.tg hg)) (by decide), h.sj, h.sg, new_s hN hS h.se, h.sn, h.sk⟩, hK.mono fun g _ e => h.se g e⟩
theorem JrX.growN {An' : Option Addr} {mn' cn' : Nat} {es' : List Int} (h : JrX w j S R Ae me ce An mn cn Ak mk ck G l es ks bs) (hg : w.grownBy w' (ob An)) (ho : OsF intC 3 1 w' 0 An' mn' cn' es') (hN : NewOr w.heap.size (ob An) (ob An')) (hS : ∀ g, w.heap.size ≤ g → S g) :
    JrX w' j S R Ae me ce An' mn' cn' Ak mk ck G l es' ks bs ∧ KeepS S w w' := by
  have hK := KeepS.grown hg
  refine ⟨⟨h.buf.keep hK (fun e => absurd ((h.en.tg e).eq h.buf.tgb) (by decide)) fun g hg e => absurd ((h.en.tg e).eq (h.buf.tg hg)) (by decide), h.ev.keep hK fun g hg e => absurd ((h.en.tg e).eq (h.ev.tg hg)) (by decide), ho, h.ky.keep hK fun g hg e => absurd ((h.en.tg e).eq (h.ky.tg hg)) (by decide), h.sj, h.sg, h.se, new_s hN hS h.sn, h.sk⟩, hK.mono fun g _ e => h.sn g e⟩
theorem JrX.growK {Ak' : Option Addr} {mk' ck' : Nat} {ks' : List Nat} (h : JrX w j S R Ae me ce An mn cn Ak mk ck G l es ks bs) (hg : w.grownBy w' (ob Ak)) (ho : OsF keyC 60 1 w' 0 Ak' mk' ck' ks') (hN : NewOr w.heap.size (ob Ak) (ob Ak')) (hS : ∀ g, w.heap.size ≤ g → S g) :
    JrX w' j S R Ae me ce An mn cn Ak' mk' ck' G l es ks' bs ∧ KeepS S w w' := by
  have hK := KeepS.grown hg
  refine ⟨⟨h.buf.keep hK (fun e => absurd ((h.ky.tg e).eq h.buf.tgb) (by decide)) fun g hg e => absurd ((h.ky.tg e).eq (h.buf.tg hg)) (by decide), h.ev.keep hK fun g hg e => absurd ((h.ky.tg e).eq (h.ev.tg hg)) (by decide), h.en.keep hK fun g hg e => absurd ((h.ky.tg e).eq (h.en.tg hg)) (by decide), ho, h.sj, h.sg, h.se, h.sn, new_s hN hS h.sk⟩, hK.mono fun g _ e => h.sk g e⟩
/-- The journal's blocks, and no others. -/
theorem JrX.tight (h : JrX w j S R Ae me ce An mn cn Ak mk ck G l es ks bs) : ∃ S0 : Nat → Prop, JrX w j S0 R Ae me ce An mn cn Ak mk ck G l es ks bs ∧ (∀ g, S0 g → S g) ∧ ∀ g, S0 g → g < w.heap.size := by
  refine ⟨fun g => g = j ∨ G = some g ∨ ob Ae = some g ∨ ob An = some g ∨ ob Ak = some g, ⟨h.buf, h.ev, h.en, h.ky, .inl rfl, fun g hg => .inr (.inl hg), fun g hg => .inr (.inr (.inl hg)), fun g hg => .inr (.inr (.inr (.inl hg))), fun g hg => .inr (.inr (.inr (.inr hg)))⟩, fun g hg => ?_, fun g hg => ?_⟩
  · rcases hg with rfl | hg | hg | hg | hg
    · exact h.sj
    · exact h.sg g hg
    · exact h.se g hg
    · exact h.sn g hg
    · exact h.sk g hg
  · rcases hg with rfl | hg | hg | hg | hg
    · exact h.buf.lt
    · obtain ⟨_, _, h1⟩ := h.buf.tg hg
      exact Lib.lt_of_heap h1
    · exact h.ev.lt g hg
    · exact h.en.lt g hg
    · exact h.ky.lt g hg
theorem JrX.c (h : JrX w j S R Ae me ce An mn cn Ak mk ck G l es ks bs) (i : Nat) (hi : i < 1 ∨ 4 ≤ i) {v : Value} (hR : R i = some v) : w.cell? ⟨j, i, none⟩ = some v := (h.buf.isb.rest i hi).trans hR
theorem JrX.f (h : JrX w j S R Ae me ce An mn cn Ak mk ck G l es ks bs) (i : Nat) : w.frozen? ⟨j, i, none⟩ = false := h.buf.isb.notFrozen i
theorem Jr.ext (h : Jr w j S l es k ks bs) (hE : Ext w w') : Jr w' j S l es k ks bs := by
  obtain ⟨Ae, me, ce, An, mn, cn, Ak, mk, ck, G, h⟩ := h
  exact ⟨Ae, me, ce, An, mn, cn, Ak, mk, ck, G, h.ext hE⟩
theorem Jr.mono (h : Jr w j S l es k ks bs) (hS : ∀ g, S g → S' g) : Jr w j S' l es k ks bs := by
  obtain ⟨Ae, me, ce, An, mn, cn, Ak, mk, ck, G, h⟩ := h
  exact ⟨Ae, me, ce, An, mn, cn, Ak, mk, ck, G, h.mono hS⟩
theorem Jr.keep {K : Nat → Prop} (h : Jr w j S l es k ks bs) (hk : KeepS K w w') (hK : ∀ g, S g → ¬ K g) : Jr w' j S l es k ks bs := by
  obtain ⟨Ae, me, ce, An, mn, cn, Ak, mk, ck, G, h⟩ := h
  exact ⟨Ae, me, ce, An, mn, cn, Ak, mk, ck, G, h.keep hk hK⟩
/-- Start: the text and nothing behind it. -/
def magicL : List UInt8 := [67, 81, 74, 49, 10]
set_option maxHeartbeats 1600000 in
theorem jnew_any : Calls Tryz.prog 20 #[] w fun e w' => e = .returned (.pointer (some ⟨w.heap.size, 0, none⟩)) ∧ Jr w' w.heap.size (fun g => w.heap.size ≤ g) [] [] 109270082352485 [] magicL ∧ Ext w w' := by
  go_enter Tryz.func20, Tryz.ntmps20
  have h3 : LibA.Three (w.alloc (Obj.cells #[.slice none 0 0, .slice none 0 0, .int .i64 0, .int .i8 0, .slice none 0 0, .int .u64 109270082352485, .slice none 0 0] 63)) w.heap.size 1 63 (jR (.slice none 0 0) (.slice none 0 0) (.int .u64 109270082352485) (.slice none 0 0)) (.slice none 0 0) (.int .i64 0) (.int .i8 0) := by
    refine ⟨_, heap_alloc_new w _, rfl, rfl, rfl, fun i hi => ?_⟩
    rcases hi with hi | hi
    · obtain rfl : i = 0 := by omega
      rfl
    · by_cases h4 : i < 7
      · have : i = 4 ∨ i = 5 ∨ i = 6 := by omega
        rcases this with rfl | rfl | rfl <;> rfl
      · rw [Array.getElem?_eq_none (by simp; omega)]
        unfold jR
        rw [if_neg (by omega), if_neg (by omega), if_neg (by omega), if_neg (by omega)]
  have hB : Bf (w.alloc (Obj.cells #[.slice none 0 0, .slice none 0 0, .int .i64 0, .int .i8 0, .slice none 0 0, .int .u64 109270082352485, .slice none 0 0] 63)) 63 (jR (.slice none 0 0) (.slice none 0 0) (.int .u64 109270082352485) (.slice none 0 0)) w.heap.size 1 none [] := ⟨LibA.zero_isBuffer (Nat.zero_le _) h3, _, h3.c0, rfl⟩
  go_wp2_with (first
    | (go_at_call 34; refine Hid.out ?_))
  refine Hid.mk_ ((bwrites_nil ⟨#[67, 81, 74, 49, 10]⟩ hB (by decide) (by decide)).mono ?_)
  rintro e w1 ⟨rfl, G, hB1, hN1, hK1⟩
  go_wp2
  go_ret
  have hE : Ext w w1 := by
    have h1 : KeepS (fun g => g = w.heap.size ∨ (none : Option Nat) = some g) w w1 := (KeepS.of_ext _ ((Ext.refl w).alloc _)).trans hK1 fun _ _ e => e
    exact h1.toBelow (Nat.le_refl _) fun g hg => by
      rcases hg with rfl | hg
      · exact Nat.le_refl _
      · cases hg
  refine ⟨rfl, ⟨none, 0, 0, none, 0, 0, none, 0, 0, G, hB1, .inl (OsC.nil_ evC_len evC_one), .inl (OsC.nil_ intC_len intC_one), .inl (OsC.nil_ keyC_len keyC_one), Nat.le_refl _, fun g hg => ?_, fun g hg => (by cases hg), fun g hg => (by cases hg), fun g hg => (by cases hg)⟩, hE⟩
  rcases hN1 g hg with h1 | h1
  · simp at h1
    omega
  · cases h1
end

end Go.Proofs.YtoghaehcmbonnaaGreatDoor
