/- Locks.others. -/
import Derived.Test.YthmeobjomidkoaaDoorLockRange
namespace Go.Proofs.YthmeobjomidkoaaDoor
open Go.RowKit Go.Maps
set_option maxRecDepth 100000

/-- How many keys have a property. -/
def CountK (P : ByteArray → ByteArray → Prop) (c : Nat) : Prop :=
  ∃ L : List (ByteArray × ByteArray), L.Nodup ∧ L.length = c ∧ (∀ x y, (x, y) ∈ L → x.size ≤ maxLen ∧ y.size ≤ maxLen) ∧ ∀ x y, x.size ≤ maxLen → y.size ≤ maxLen → (P x y ↔ (x, y) ∈ L)
theorem CountK.zero {P : ByteArray → ByteArray → Prop} {c : Nat} (h : CountK P c) (hP : ∀ x y, ¬ P x y) : c = 0 := by
  obtain ⟨L, _, h2, h3, h4⟩ := h
  cases L with
  | nil => simpa using h2.symm
  | cons q t =>
    obtain ⟨x, y⟩ := q
    obtain ⟨hx, hy⟩ := h3 x y (by simp)
    exact absurd ((h4 x y hx hy).2 (by simp)) (hP x y)
/-- The keys that have been counted. -/
def CountL (P : ByteArray → ByteArray → Prop) (lf : ByteArray → ByteArray → Bool) (c : Nat) : Prop :=
  ∃ L : List (ByteArray × ByteArray), L.Nodup ∧ L.length = c ∧ (∀ x y, (x, y) ∈ L → x.size ≤ maxLen ∧ y.size ≤ maxLen) ∧ ∀ x y, x.size ≤ maxLen → y.size ≤ maxLen → ((P x y ∧ lf x y = false) ↔ (x, y) ∈ L)
theorem CountL.start {P : ByteArray → ByteArray → Prop} {lf : ByteArray → ByteArray → Bool} (h : ∀ x y, P x y → lf x y = true) : CountL P lf 0 :=
  ⟨[], List.nodup_nil, rfl, (fun _ _ h => by cases h), fun x y _ _ => ⟨fun hh => (by rw [h x y hh.1] at hh; cases hh.2), fun hh => (by cases hh)⟩⟩
theorem CountL.hit {P : ByteArray → ByteArray → Prop} {lf : ByteArray → ByteArray → Bool} {c : Nat} {a b : ByteArray} (h : CountL P lf c) (ha : a.size ≤ maxLen) (hb : b.size ≤ maxLen) (hl : lf a b = true) (hp : P a b) : CountL P (less lf a b) (c + 1) := by
  obtain ⟨L, h1, h2, h4, h3⟩ := h
  refine ⟨(a, b) :: L, List.nodup_cons.2 ⟨fun hm => ?_, h1⟩, by simp [h2], fun x y hm => ?_, fun x y hx hy => ?_⟩
  · have := ((h3 a b ha hb).2 hm).2
    rw [hl] at this; cases this
  · rcases List.mem_cons.1 hm with e | e
    · simp only [Prod.mk.injEq] at e
      obtain ⟨rfl, rfl⟩ := e
      exact ⟨ha, hb⟩
    · exact h4 x y e
  · unfold less
    by_cases hq : x = a ∧ y = b
    · obtain ⟨rfl, rfl⟩ := hq
      rw [if_pos ⟨rfl, rfl⟩]
      simp [hp]
    · rw [if_neg hq, List.mem_cons, h3 x y hx hy]
      constructor
      · exact fun h => .inr h
      · rintro (e | e)
        · simp only [Prod.mk.injEq] at e
          exact absurd e hq
        · exact e
theorem CountL.miss {P : ByteArray → ByteArray → Prop} {lf : ByteArray → ByteArray → Bool} {c : Nat} {a b : ByteArray} (h : CountL P lf c) (hp : ¬ P a b) : CountL P (less lf a b) c := by
  obtain ⟨L, h1, h2, h4, h3⟩ := h
  refine ⟨L, h1, h2, h4, fun x y hx hy => ?_⟩
  rw [← h3 x y hx hy]
  unfold less
  by_cases hq : x = a ∧ y = b
  · obtain ⟨rfl, rfl⟩ := hq
    simp [hp]
  · rw [if_neg hq]
theorem CountL.done {P : ByteArray → ByteArray → Prop} {lf : ByteArray → ByteArray → Bool} {c : Nat} (h : CountL P lf c) (hd : ∀ x y, x.size ≤ maxLen → y.size ≤ maxLen → lf x y = false) : CountK P c := by
  obtain ⟨L, h1, h2, h4, h3⟩ := h
  refine ⟨L, h1, h2, h4, fun x y hx hy => ?_⟩
  rw [← h3 x y hx hy]
  exact ⟨fun h => ⟨h, hd x y hx hy⟩, fun h => h.1⟩

/-- Another key's lock that is held. -/
def OtherHeld (F : LF) (a b : ByteArray) (now : Int) (x y : ByteArray) : Prop := (heldF F x y now).isSome = true ∧ ¬ (x = a ∧ y = b)
def RetC (P : Nat → Prop) (e : Ending) : Prop := ∃ c : Nat, e = .returned (.int .i64 c) ∧ P c
section
variable {w : World} {g bm n : Nat} {F : LF}
set_option maxHeartbeats 3200000 in
theorem others_any (a b : ByteArray) (now : Int) (hl : Lks w g bm n F) (ha : a.size ≤ maxLen) (hb : b.size ≤ maxLen) (hn : n < maxLen) :
    Calls Tryd.prog 26 #[.pointer (some ⟨g, 0, none⟩), keyV a b, .int .i64 now] w fun e w' => RetC (fun c => CountK (OtherHeld F a b now) c ∧ c ≤ n) e ∧ Ext w w' := by
  have c0 := hl.c0
  have hlt := hl.blk.lt
  go_enter Tryd.func26, Tryd.ntmps26
  unfold keyV
  go_wp2_with (first
    | (at_range; refine Hid.out ?_))
  refine Hid.mk_ ?_
  refine wp_range_lk rfl _ rfl rfl (hl.map.ext ((Ext.refl w).alloc _)) ?_
  intro w0 cnt0 hr0 hc0 hg0 hs0
  have hgk0 := (Blk.new w 61 #[.string a, .string b]).grown hg0 (by simp)
  have hE0 : Ext w w0 := ((Ext.refl w).alloc _).grown hg0 (by simp)
  have hl0 := hl.ext hE0
  have hrw : w.heap.size < (w.alloc (Obj.cells #[Value.string a, Value.string b] 61)).heap.size := (Blk.new w 61 #[.string a, .string b]).lt
  obtain ⟨r, hrr⟩ : ∃ r, r = (w.alloc (Obj.cells #[Value.string a, Value.string b] 61)).heap.size := ⟨_, rfl⟩
  rw [← hrr] at hr0 hrw ⊢
  obtain ⟨gk, hgk⟩ : ∃ gk, gk = w.heap.size := ⟨_, rfl⟩
  rw [← hgk] at hgk0 ⊢
  have HGK := Lib.hid hgk
  clear hrr hg0 hs0 hgk
  have hw0 := HGK.out
  have hbn : n < 9223372036854775807 := by unfold maxLen at hn; omega
  go_frame
  go_wp2
  go_loopw [7] (fun v wr => ∃ (c cnt : Nat) (lf : ByteArray → ByteArray → Bool), v = .int .i64 c ∧ CountL (OtherHeld F a b now) lf c ∧ c + cnt ≤ n ∧ LR wr bm r n F lf cnt ∧ Lks wr g bm n F ∧ Blk wr gk 61 #[.string a, .string b] ∧ Ext w wr) (fun _ wr => wr.rangeLeft bm r)
  case atStart => exact ⟨0, cnt0, _, rfl, CountL.start (fun x y h => by have h1 := h.1; unfold heldF at h1; cases hF : F x y with | none => rw [hF] at h1; cases h1 | some _ => rfl), by omega, hr0, hl0, hgk0, hE0⟩
  case round =>
    obtain ⟨c, cnt, lf, rfl, hC, hcn, hr, hlr, hgkr, hE⟩ := hrel
    go_wp2_with (first
      | (at_next; refine Hid.out ?_))
    refine Hid.mk_ ?_
    refine wp_next_lk rfl _ rfl rfl hr ?_ ?_
    · intro h0 hd
      have HC := Lib.hid (hC.done hd)
      clear hC hw0
      go_wp2
      go_ret
      exact ⟨⟨c, rfl, HC.out, by omega⟩, hE⟩
    · intro x y k w1 cnt1 hx hy hlf hF hr1 hlt hg1 hs1 hen
      have hE1 : Ext w w1 := hE.grown hg1 (by intro k hk; injection hk with hk; omega)
      have hl1 : Lks w1 g bm n F := hl.ext hE1
      have hgk1 : Blk w1 gk 61 #[.string a, .string b] := hgkr.grown hg1 (by intro e; injection e with e; omega)
      have hE1a : Ext w (w1.alloc (Obj.cells #[Value.string x, Value.string y] 61)) := hE1.alloc _
      have HC := Lib.hid hC
      have HF := Lib.hid hF
      clear hC hF hw0
      unfold keyV at hen
      go_wp2_with (first
        | (go_at_call 24; refine Hid.out ?_))
      have hkb : Blk (w1.alloc (Obj.cells #[Value.string x, Value.string y] 61)) w1.heap.size 61 #[.string x, .string y] := Blk.new w1 _ _
      rw [hs1] at hkb
      refine Hid.mk_ ((held_any x y now (hl1.ext ((Ext.refl w1).alloc _)) hx hy).mono ?_)
      rintro e w2 ⟨rfl, hE2⟩
      have hE12 : Ext w1 w2 := ((Ext.refl w1).alloc _).trans hE2
      have hkb2 := hkb.below hE2 hkb.lt
      have hsl := hr.lt
      have hgk2 := hgk1.below hE12 hgk1.lt
      have hr2 := hr1.ext hE12
      have hl2 := hl1.ext hE12
      have hE02 := hE1.trans hE12
      obtain ⟨kb, hkbe⟩ : ∃ kb, kb = wr.heap.size := ⟨_, rfl⟩
      rw [← hkbe] at hkb2 ⊢
      have HKB := Lib.hid hkbe
      clear hkbe hkb
      have x0 : ∀ o, (w2.alloc o).cell? ⟨kb, 0, none⟩ = some (.string x) := fun o => (hkb2.alloc o).cell 0
      have x1 : ∀ o, (w2.alloc o).cell? ⟨kb, 1, none⟩ = some (.string y) := fun o => (hkb2.alloc o).cell 1
      have g0 : ∀ o, (w2.alloc o).cell? ⟨gk, 0, none⟩ = some (.string a) := fun o => (hgk2.alloc o).cell 0
      have g1 : ∀ o, (w2.alloc o).cell? ⟨gk, 1, none⟩ = some (.string b) := fun o => (hgk2.alloc o).cell 1
      cases hz : heldF F x y now with
      | none =>
        have hmiss := HC.out.miss (a := x) (b := y) (by unfold OtherHeld; rw [hz]; simp)
        have HM := Lib.hid hmiss
        clear hmiss hz
        simp only [Option.getD_none, Option.isSome_none]
        unfold lkV lk0
        dsimp only
        go_wp2
        go_roundw
        case rel => exact ⟨c, cnt1, _, rfl, HM.out, by omega, hr2.ext ((Ext.refl _).alloc _), hl2.ext ((Ext.refl _).alloc _), hgk2.alloc _, hE02.alloc _⟩
        case measure =>
          rw [(hr2.ext ((Ext.refl _).alloc _)).left_eq, hr.left_eq]
          exact hlt
      | some q =>
        obtain ⟨qa, qb, qc, qt⟩ := q
        simp only [Option.getD_some, Option.isSome_some]
        unfold lkV
        dsimp only
        by_cases hq : x = a ∧ y = b
        · have hke : ∀ W, (Op.equalIn 10000 61 (Value.agg #[Value.string x, Value.string y]) (Value.agg #[Value.string a, Value.string b])).run Tryd.prog W = .ok true W := fun W => by
            have h1 := key_eq_run x y a b hx hy ha hb W
            rw [decide_eq_true hq] at h1
            exact h1
          have hmiss := HC.out.miss (a := x) (b := y) (by unfold OtherHeld; exact fun h => h.2 hq)
          have HM := Lib.hid hmiss
          clear hmiss hz hq
          go_wp2
          go_roundw
          case rel => exact ⟨c, cnt1, _, rfl, HM.out, by omega, hr2.ext ((Ext.refl _).alloc _), hl2.ext ((Ext.refl _).alloc _), hgk2.alloc _, hE02.alloc _⟩
          case measure =>
            rw [(hr2.ext ((Ext.refl _).alloc _)).left_eq, hr.left_eq]
            exact hlt
        · have hke : ∀ W, (Op.equalIn 10000 61 (Value.agg #[Value.string x, Value.string y]) (Value.agg #[Value.string a, Value.string b])).run Tryd.prog W = .ok false W := fun W => by
            have h1 := key_eq_run x y a b hx hy ha hb W
            rw [decide_eq_false hq] at h1
            exact h1
          have hhit := HC.out.hit hx hy hlf (by unfold OtherHeld; rw [hz]; exact ⟨rfl, hq⟩)
          have HM := Lib.hid hhit
          clear hhit hz hq
          go_wp2
          go_roundw
          case rel => exact ⟨c + 1, cnt1, _, by go_num, HM.out, by omega, hr2.ext ((Ext.refl _).alloc _), hl2.ext ((Ext.refl _).alloc _), hgk2.alloc _, hE02.alloc _⟩
          case measure =>
            rw [(hr2.ext ((Ext.refl _).alloc _)).left_eq, hr.left_eq]
            exact hlt
end

end Go.Proofs.YthmeobjomidkoaaDoor
