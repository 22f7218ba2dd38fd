/- Locks.List: the locks that are held, in the order of their keys. -/
import Derived.Test.YthmeobjomidkoaaDoorLockCmp
import Derived.Test.YthmeobjomidkoaaDoorLockExp
namespace Go.Proofs.YthmeobjomidkoaaDoor
open Go.RowKit Go.Maps
set_option maxRecDepth 100000

/-- Every lock has the key under which it lies. -/
def KeyOk (F : LF) : Prop := ∀ a b x, F a b = some x → x.name = a ∧ x.id = b ∧ a.size ≤ maxLen ∧ b.size ≤ maxLen
/-- L is the list of the locks of F that are held, in the order of their keys. -/
def IsList (F : LF) (now : Int) (L : List Lk) : Prop := L.Pairwise (fun x y => kL x y = true) ∧ ∀ x, x ∈ L ↔ heldF F x.name x.id now = some x
/-- What has been gathered. -/
def Gath (F : LF) (now : Int) (lf : ByteArray → ByteArray → Bool) (l : List Lk) : Prop :=
  l.Nodup ∧ ∀ x : Lk, x ∈ l ↔ (heldF F x.name x.id now = some x ∧ lf x.name x.id = false)
theorem heldF_some {F : LF} {a b : ByteArray} {now : Int} {x : Lk} (h : heldF F a b now = some x) : F a b = some x ∧ now < x.til := by
  unfold heldF at h
  cases hF : F a b with
  | none => rw [hF] at h; cases h
  | some y =>
    rw [hF] at h
    simp only at h
    split at h
    · rename_i ht
      injection h with h
      subst h
      exact ⟨rfl, ht⟩
    · cases h
theorem heldF_of {F : LF} {a b : ByteArray} {now : Int} {x : Lk} (h : F a b = some x) (ht : now < x.til) : heldF F a b now = some x := by
  unfold heldF
  rw [h]
  simp only
  rw [if_pos ht]
theorem Gath.start (F : LF) (now : Int) : Gath F now (fun x y => (F x y).isSome) [] := by
  refine ⟨.nil, fun x => ⟨fun h => (by cases h), fun ⟨h1, h2⟩ => ?_⟩⟩
  have h3 : (F x.name x.id).isSome = false := h2
  rw [(heldF_some h1).1] at h3
  cases h3
theorem Gath.miss {F : LF} {now : Int} {lf : ByteArray → ByteArray → Bool} {l : List Lk} {a b : ByteArray} {x : Lk} (h : Gath F now lf l) (hF : F a b = some x) (ht : ¬ now < x.til) : Gath F now (less lf a b) l := by
  refine ⟨h.1, fun y => ?_⟩
  rw [h.2 y]
  unfold less
  by_cases hq : y.name = a ∧ y.id = b
  · obtain ⟨e1, e2⟩ := hq
    rw [e1, e2, if_pos ⟨rfl, rfl⟩]
    have hn : heldF F a b now = none := by unfold heldF; rw [hF]; simp only; rw [if_neg ht]
    rw [hn]
    simp
  · rw [if_neg hq]
theorem Gath.hit {F : LF} {now : Int} {lf : ByteArray → ByteArray → Bool} {l : List Lk} {a b : ByteArray} {x : Lk} (h : Gath F now lf l) (hK : KeyOk F) (hF : F a b = some x) (ht : now < x.til) (hl : lf a b = true) : Gath F now (less lf a b) (l ++ [x]) := by
  obtain ⟨e1, e2, _⟩ := hK a b x hF
  have hnot : x ∉ l := fun hm => by
    have h2 := ((h.2 x).1 hm).2
    rw [e1, e2, hl] at h2
    cases h2
  refine ⟨?_, fun y => ?_⟩
  · rw [List.nodup_append]
    refine ⟨h.1, by simp, fun p hp q hq e => ?_⟩
    simp only [List.mem_singleton] at hq
    subst hq
    subst e
    exact hnot hp
  · rw [List.mem_append, List.mem_singleton, h.2 y]
    unfold less
    by_cases hq : y.name = a ∧ y.id = b
    · obtain ⟨q1, q2⟩ := hq
      rw [q1, q2, if_pos ⟨rfl, rfl⟩, hl, heldF_of hF ht]
      constructor
      · rintro (⟨_, h2⟩ | h2)
        · cases h2
        · subst h2; exact ⟨rfl, rfl⟩
      · rintro ⟨h2, _⟩
        injection h2 with h2
        exact .inr h2.symm
    · rw [if_neg hq]
      constructor
      · rintro (h2 | h2)
        · exact h2
        · subst h2; exact absurd ⟨e1, e2⟩ hq
      · exact .inl
theorem Gath.list {F : LF} {now : Int} {lf : ByteArray → ByteArray → Bool} {l l' : List Lk} (h : Gath F now lf l) (hK : KeyOk F) (hd : ∀ x y, x.size ≤ maxLen → y.size ≤ maxLen → lf x y = false)
    (hp : l'.Perm l) (hs : l'.Pairwise fun x y => kL y x = false) : IsList F now l' := by
  have hm : ∀ x : Lk, x ∈ l' ↔ heldF F x.name x.id now = some x := fun x => by
    rw [hp.mem_iff, h.2 x]
    constructor
    · exact fun h => h.1
    · intro hh
      obtain ⟨_, _, h1, h2⟩ := hK _ _ _ (heldF_some hh).1
      exact ⟨hh, hd _ _ h1 h2⟩
  refine ⟨?_, hm⟩
  have hn : l'.Nodup := hp.nodup_iff.2 h.1
  have hc := List.Pairwise.and hs hn
  refine hc.imp_of_mem ?_
  intro x y hx hy ⟨h1, h2⟩
  cases hk : kL x y with
  | true => rfl
  | false =>
    exfalso
    have e := kL_tri x y hk h1
    have h3 := (hm x).1 hx
    have h4 := (hm y).1 hy
    rw [e.1, e.2, h4] at h3
    injection h3 with h3
    exact h2 h3.symm

theorem einfo_lk : EInfo 41 35 4 56 := EInfo.mk_ (z := lkV lk0) Tryd.underlying41 (by kernel_rfl) rfl (by omega) (by omega)
theorem lkC_cell : ∀ x : Lk, ∀ u ∈ lkC x, u.oneCell' = true := by
  intro x u hu
  simp only [lkC, List.mem_cons, List.not_mem_nil, or_false] at hu
  rcases hu with rfl | rfl | rfl | rfl <;> rfl
section
variable {w : World} {g bm n : Nat} {F : LF}
set_option maxHeartbeats 3200000 in
theorem list_any (now : Int) (hl : Lks w g bm n F) (hn : n ≤ 100000) (hK : KeyOk F) :
    Calls Tryd.prog 16 #[.pointer (some ⟨g, 0, none⟩), .int .i64 now] w fun e w' => (∃ A m c L, e = .returned (.slice A m c) ∧ SlC lkC 4 w' A m L ∧ IsList F now L ∧ m ≤ n ∧ ∀ j, ob A = some j → w.heap.size ≤ j) ∧ Ext w w' := by
  have c0 := hl.c0
  have hlt := hl.blk.lt
  go_enter Tryd.func16, Tryd.ntmps16
  go_wp2_with (first
    | (at_range; refine Hid.out ?_))
  refine Hid.mk_ ?_
  refine wp_range_lk rfl _ rfl rfl hl.map ?_
  intro w0 cnt0 hr0 hc0 hg0 hs0
  have hE0 : Ext w w0 := (Ext.refl w).grown hg0 (by simp)
  have hl0 := hl.ext hE0
  obtain ⟨r, hrr⟩ : ∃ r, r = w.heap.size := ⟨_, rfl⟩
  have hrw : w.heap.size ≤ r := by omega
  have hrs : r < w0.heap.size := by omega
  rw [← hrr] at hr0 ⊢
  have HRR := Lib.hid hrr
  clear hrr hg0
  go_frame
  go_wp2
  go_loopw [5] (fun v wr => ∃ (A : Option Addr) (m c cnt : Nat) (l : List Lk) (lf : ByteArray → ByteArray → Bool), v = .slice A m c ∧ OsC lkC 35 4 wr w0.heap.size A m c l ∧ Gath F now lf l ∧ m + cnt ≤ n ∧ LR wr bm r n F lf cnt ∧ Lks wr g bm n F ∧ Ext w wr ∧ w0.heap.size ≤ wr.heap.size) (fun _ wr => wr.rangeLeft bm r)
  case atStart => exact ⟨none, 0, 0, cnt0, [], _, rfl, OsC.nil_ (fun _ => rfl) lkC_cell, Gath.start F now, by omega, hr0, hl0, hE0, Nat.le_refl _⟩
  case round =>
    obtain ⟨A, m, c, cnt, l, lf, rfl, ho, hG, hcn, hr, hlr, hE, hsz⟩ := hrel
    go_wp2_with (first
      | (at_next; refine Hid.out ?_))
    refine Hid.mk_ ?_
    refine wp_next_lk rfl _ rfl rfl hr ?_ ?_
    · intro h0 hd
      have HG := Lib.hid hG
      have HD := Lib.hid hd
      clear hG hd
      go_wp2_with (first
        | (go_at_call 27; refine Hid.out ?_))
      refine Hid.mk_ ((sort_any ho).mono ?_)
      rintro e w2 ⟨rfl, ⟨l', hs', hp', hq'⟩, hg2⟩
      have HL := Lib.hid (HG.out.list hK HD.out hp' hq')
      have hE2 : Ext w w2 := hE.grown hg2 (by intro k hk; have := ho.ge k hk; omega)
      clear hp' hq'
      go_wp2
      go_ret
      exact ⟨⟨A, m, c, l', rfl, hs', HL.out, by omega, fun j hj => Nat.le_trans hE0.size_le (ho.ge j hj)⟩, hE2⟩
    · intro x y k w1 cnt1 hx hy hlf hF hr1 hlt1 hg1 hs1 hen
      have hE1 : Ext w w1 := hE.grown hg1 (by intro k hk; injection hk with hk; omega)
      have hl1 : Lks w1 g bm n F := hl.ext hE1
      have ho1 : OsC lkC 35 4 w1 w0.heap.size A m c l := ho.kept hg1 (by
        cases hA : ob A with
        | none => exact .inl rfl
        | some j => exact .inr (by intro e; injection e with e; have := ho.ge j hA; omega))
      have HG := Lib.hid hG
      have HF := Lib.hid hF
      obtain ⟨ka, kb, kc, kt⟩ := k
      unfold keyV lkV at hen
      dsimp only at hen
      clear hG hF
      have hsl := hr.left_eq
      by_cases ht : now < kt
      · have HG2 := Lib.hid (HG.out.hit hK HF.out ht hlf)
        have hnew : SlC lkC 4 ((w1.alloc (Obj.cells #[Value.string ka, Value.string kb, Value.string kc, Value.int IntKind.i64 kt] 35)).alloc (Obj.cells #[Value.string ka, Value.string kb, Value.string kc, Value.int IntKind.i64 kt] 35)) (some ⟨wr.heap.size + 1, 0, none⟩) 1 [⟨ka, kb, kc, kt⟩] := by
          have e : (w1.alloc (Obj.cells #[Value.string ka, Value.string kb, Value.string kc, Value.int IntKind.i64 kt] 35)).heap.size = wr.heap.size + 1 := by simp [hs1]
          have h1 := SlC.new_ (cs := lkC) (k := 4) (w1.alloc (Obj.cells #[Value.string ka, Value.string kb, Value.string kc, Value.int IntKind.i64 kt] 35)) [(⟨ka, kb, kc, kt⟩ : Lk)] (fun _ => rfl) (by simp) _ rfl (0, 0) 1 rfl 35
          rw [e] at h1
          exact h1
        have hE1a : Ext w1 ((w1.alloc (Obj.cells #[Value.string ka, Value.string kb, Value.string kc, Value.int IntKind.i64 kt] 35)).alloc (Obj.cells #[Value.string ka, Value.string kb, Value.string kc, Value.int IntKind.i64 kt] 35)) := ((Ext.refl _).alloc _).alloc _
        go_wp2_with (first
          | (at_builtin; refine Hid.out ?_))
        refine Hid.mk_ ?_
        refine (appC einfo_lk) rfl _ _ rfl (ho1.ext hE1a) rfl hnew rfl (by omega) (by simp; omega) ?_
        intro A2 m2 c2 w2 ho2 hg2 hat2
        have hE2 : Ext w w2 := (hE1.trans hE1a).grown hg2 (by intro k hk; have := ho1.ge k hk; omega)
        have hm2 : m2 = m + 1 := by rw [ho2.len, List.length_append, ← ho.len]; rfl
        have hnr : some r ≠ ob A := fun e => by have := ho1.ge r e.symm; omega
        have hnb : some bm ≠ ob A := fun e => by have := ho1.ge bm e.symm; have := hl.map.lt; have := hE0.size_le; omega
        have hng : some g ≠ ob A := fun e => by have := ho1.ge g e.symm; have := hE0.size_le; omega
        have hr2 : LR w2 bm r n F (less lf x y) cnt1 := (hr1.ext hE1a).kept hg2 hnb hnr
        have hl2 : Lks w2 g bm n F := hl.ext hE2
        have hsz2 : w0.heap.size ≤ w2.heap.size := by have h1 := hg2.size; have h2 := hE1a.size_le; omega
        go_wp2
        go_roundw
        case rel => exact ⟨A2, m2, c2, cnt1, _, _, by rw [hm2], ho2, HG2.out, by omega, hr2, hl2, hE2, hsz2⟩
        case measure =>
          rw [hr2.left_eq, hsl]
          exact hlt1
      · have HG2 := Lib.hid (HG.out.miss HF.out ht)
        have hEa : Ext w1 (w1.alloc (Obj.cells #[Value.string ka, Value.string kb, Value.string kc, Value.int IntKind.i64 kt] 35)) := (Ext.refl _).alloc _
        have hr2 := hr1.ext hEa
        go_wp2
        go_roundw
        case rel => exact ⟨A, m, c, cnt1, _, _, rfl, ho1.ext hEa, HG2.out, by omega, hr2, hl1.ext hEa, hE1.trans hEa, by have h2 := hEa.size_le; omega⟩
        case measure =>
          rw [hr2.left_eq, hsl]
          exact hlt1
end

end Go.Proofs.YthmeobjomidkoaaDoor
