/- Expire of locks. -/
import Derived.Test.YthmeobjomidkoaaDoorLockAcq
import Derived.Test.YthmeobjomidkoaaDoorLockCnt
namespace Go.Proofs.YthmeobjomidkoaaDoor
open Go.RowKit Go.Maps
set_option maxRecDepth 100000

/-- The locks that are held at a time. -/
def purge (F : LF) (now : Int) : LF := fun x y => heldF F x y now
/-- The locks, those that have been visited and are over struck. -/
def expF (F : LF) (now : Int) (lf : ByteArray → ByteArray → Bool) : LF := fun x y => if lf x y = true then F x y else heldF F x y now
theorem expF_start (F : LF) (now : Int) : expF F now (fun x y => (F x y).isSome) = F := by
  funext x y
  unfold expF heldF
  split
  · rfl
  · rename_i h
    cases hF : F x y with
    | none => rfl
    | some _ =>
      have h2 : ¬ (F x y).isSome = true := h
      rw [hF] at h2
      exact absurd rfl h2
theorem expF_drop {F : LF} {now : Int} {lf : ByteArray → ByteArray → Bool} {x y : ByteArray} {k : Lk} (hl : lf x y = true) (hk : expF F now lf x y = some k) (ht : k.til ≤ now) : upd (expF F now lf) x y none = expF F now (less lf x y) := by
  have hF : F x y = some k := by unfold expF at hk; rw [if_pos hl] at hk; exact hk
  funext a b
  unfold upd
  by_cases hq : a = x ∧ b = y
  · obtain ⟨rfl, rfl⟩ := hq
    rw [if_pos ⟨rfl, rfl⟩]
    simp only [expF, less, heldF, hF, and_self, if_true, Bool.false_eq_true, if_false]
    rw [if_neg (by omega)]
  · rw [if_neg hq]
    unfold expF less
    rw [if_neg hq]
theorem expF_stay {F : LF} {now : Int} {lf : ByteArray → ByteArray → Bool} {x y : ByteArray} {k : Lk} (hl : lf x y = true) (hk : expF F now lf x y = some k) (ht : ¬ k.til ≤ now) : expF F now lf = expF F now (less lf x y) := by
  have hF : F x y = some k := by unfold expF at hk; rw [if_pos hl] at hk; exact hk
  funext a b
  by_cases hq : a = x ∧ b = y
  · obtain ⟨rfl, rfl⟩ := hq
    simp only [expF, less, heldF, hF, hl, and_self, if_true, Bool.false_eq_true, if_false]
    rw [if_pos (by omega)]
  · unfold expF less
    rw [if_neg hq]
section
variable {w w' : World} {bm r n cnt : Nat} {F F' : LF} {lf : ByteArray → ByteArray → Bool}
theorem LM.congr (h : LM w bm n F) (he : ∀ x y, x.size ≤ maxLen → y.size ≤ maxLen → F x y = F' x y) : LM w bm n F' := by
  obtain ⟨D, ho, hv⟩ := h
  exact ⟨D, ho, fun x y hx hy => by rw [← he x y hx hy]; exact hv x y hx hy⟩
variable {ops : Array Oper} {rest : List Oper} {o : Oper} {a : Act} {Q : Exit → Act → World → Prop}
theorem wp_delete_lk (hg : o.guard = none) (m x : Operand) (hop : o.op = Op.call { callee := Callee.builtin Builtin.delete, args := #[m, x], argTypes := #[58, 61] })
    (hm : a.eval m = .map (some bm)) {p q : ByteArray} (hx : a.eval x = keyV p q) (hp : p.size ≤ maxLen) (hq : q.size ≤ maxLen) (hl : LR w bm r n F (less lf p q) cnt)
    (hK : ∀ w' cnt', LR w' bm r n (upd F p q none) (less lf p q) cnt' → cnt' ≤ cnt → w.grownBy w' (some bm) → wpList Tryd.prog ops Q rest (a.put o.dst (.tuple #[])) w') :
    wpList Tryd.prog ops Q (o :: rest) a w := by
  obtain ⟨D, left, hr, hv, hlf⟩ := hl
  refine wpList_delete_ranges w hg m x 58 61 hop 35 keyedM Tryd.underlying58 lkR bm r n D left cnt hm hr (keyV p q) (keyL p q) hx (key_some p q hp hq) fun w' cnt' hr' hle ht => ?_
  refine hK w' cnt' ⟨_, _, hr', fun a' b' ha' hb' => ?_, fun a' b' ha' hb' => ?_⟩ hle ht.grown
  · unfold upd
    by_cases hk : a' = p ∧ b' = q
    · obtain ⟨rfl, rfl⟩ := hk
      rw [if_pos ⟨rfl, rfl⟩]
      exact ⟨has_del_same, atKey_del_same _⟩
    · rw [if_neg hk]
      have hne : keyL a' b' ≠ keyL p q := fun e => hk (key_inj ha' hb' hp hq e)
      rw [has_del_other hne, atKey_del_other hne]
      exact hv a' b' ha' hb'
  · rw [hlf a' b' ha' hb']
    by_cases hk : a' = p ∧ b' = q
    · obtain ⟨rfl, rfl⟩ := hk
      unfold less
      rw [if_pos ⟨rfl, rfl⟩]
      rfl
    · have hne : keyL a' b' ≠ keyL p q := fun e => hk (key_inj ha' hb' hp hq e)
      rw [sameKey_ne hne]
      simp

set_option maxHeartbeats 400000 in
theorem expired_any (x y : ByteArray) (k : Lk) (now : Int) {gb : Nat} (hb : w.cell? ⟨gb, 0, none⟩ = some (.int .i64 now)) :
    Calls Tryd.prog 36 #[keyV x y, lkV k, .pointer (some ⟨gb, 0, none⟩)] w fun e w' => e = .returned (.bool (decide (k.til ≤ now))) ∧ Ext w w' := by
  have hlt := World.block_lt_of_cell? w _ hb
  obtain ⟨ka, kb, kc, kt⟩ := k
  go_enter Tryd.func36, Tryd.ntmps36
  unfold keyV lkV
  go_wp2
  go_ret
  exact ⟨rfl, ((Ext.refl w).alloc _).alloc _⟩

set_option maxHeartbeats 3200000 in
theorem deleteFunc_any (now : Int) {gb : Nat} (hl : LM w bm n F) (hb : w.cell? ⟨gb, 0, none⟩ = some (.int .i64 now)) (clo : Value) (hclo : clo = .func (.func 36) #[] #[.pointer (some ⟨gb, 0, none⟩)]) :
    Calls Tryd.prog 35 #[.map (some bm), clo] w fun e w' => e = .returned (.tuple #[]) ∧ LM w' bm n (purge F now) ∧ w.grownBy w' (some bm) := by
  subst hclo
  go_enter Tryd.func35, Tryd.ntmps35
  go_wp2_with (first
    | (at_range; refine Hid.out ?_))
  refine Hid.mk_ ?_
  refine wp_range_lk rfl _ rfl rfl hl ?_
  intro w0 cnt0 hr0 hc0 hg0 hs0
  have hr0 : LR w0 bm w.heap.size n (expF F now fun x y => (F x y).isSome) (fun x y => (F x y).isSome) cnt0 := by rw [expF_start]; exact hr0
  obtain ⟨r, hrr⟩ : ∃ r, r = w.heap.size := ⟨_, rfl⟩
  rw [← hrr] at hr0 ⊢
  have HR := Lib.hid hrr
  have hbm := hl.lt
  have hgbl := World.block_lt_of_cell? w _ hb
  have hb0 : w0.cell? ⟨gb, 0, none⟩ = some (.int .i64 now) := hg0.cell hb (by simp)
  have hgbm : some gb ≠ some bm := hl.not_cell _ _ hb
  clear hrr
  have hrw : w.heap.size ≤ r := by rw [HR.out]; exact Nat.le_refl _
  simp only at hgbl
  go_wp2
  go_frame
  go_loopw [] (fun wr => ∃ (cnt : Nat) (lf : ByteArray → ByteArray → Bool), LR wr bm r n (expF F now lf) lf cnt ∧ wr.cell? ⟨gb, 0, none⟩ = some (.int .i64 now) ∧ w.grownBy wr (some bm)) (fun wr => wr.rangeLeft bm r)
  case atStart => exact ⟨cnt0, _, hr0, hb0, hg0.but _⟩
  case round =>
    obtain ⟨cnt, lf, hr, hbr, hg⟩ := hrel
    go_wp2_with (first
      | (at_next; refine Hid.out ?_))
    refine Hid.mk_ ?_
    refine wp_next_lk rfl _ rfl rfl hr ?_ ?_
    · intro h0 hd
      have hfin : LM wr bm n (purge F now) := hr.lm.congr fun x y hx hy => by unfold expF purge; rw [hd x y hx hy]; rfl
      have HF := Lib.hid hfin
      clear hfin
      go_wp2
      go_end0
      exact ⟨rfl, HF.out, hg⟩
    · intro x y k w1 cnt1 hx hy hlf hF hr1 hlt hg1 hs1 hen
      have hb1 : w1.cell? ⟨gb, 0, none⟩ = some (.int .i64 now) := hg1.cell hbr (by intro e; have e2 : gb = r := (by simpa using e); omega)
      have hgw1 : w.grownBy w1 (some bm) := grown_step hg hg1 (fun k hk => .inl (by injection hk with hk; omega))
      obtain ⟨ka, kb, kc, kt⟩ := k
      unfold keyV lkV at hen
      dsimp only at hen
      have HF := Lib.hid hF
      clear hF
      go_wp2_with (first
        | (go_at_call 36; refine Hid.out ?_))
      have hkb := Blk.new w1 61 #[.string x, .string y]
      have hE1a : Ext w1 ((w1.alloc (Obj.cells #[Value.string x, Value.string y] 61)).alloc (Obj.cells #[Value.string ka, Value.string kb, Value.string kc, Value.int IntKind.i64 kt] 35)) := ((Ext.refl w1).alloc _).alloc _
      refine Hid.mk_ ((expired_any x y ⟨ka, kb, kc, kt⟩ now (gb := gb) ((hE1a.grownBy none).cell hb1 (by simp))).mono ?_)
      rintro e w2 ⟨rfl, hE2⟩
      have hE12 : Ext w1 w2 := hE1a.trans hE2
      have hkb2 := (hkb.alloc (Obj.cells #[Value.string ka, Value.string kb, Value.string kc, Value.int IntKind.i64 kt] 35)).below hE2 ((hkb.alloc _).lt)
      rw [hs1] at hkb2
      have hr2 := hr1.ext hE12
      have hb2 : w2.cell? ⟨gb, 0, none⟩ = some (.int .i64 now) := (hE12.grownBy none).cell hb1 (by simp)
      have hgw2 : w.grownBy w2 (some bm) := hgw1.trans (hE12.grownBy _)
      have x0 : w2.cell? ⟨wr.heap.size, 0, none⟩ = some (.string x) := hkb2.cell 0
      have x1 : w2.cell? ⟨wr.heap.size, 1, none⟩ = some (.string y) := hkb2.cell 1
      dsimp only
      clear hkb hkb2 hE1a
      by_cases ht : kt ≤ now
      · rw [decide_eq_true ht]
        have hdr := expF_drop hlf HF.out ht
        have HD := Lib.hid hdr
        clear hdr ht
        go_wp2_with (first
          | (at_delete; refine Hid.out ?_))
        refine Hid.mk_ ?_
        refine wp_delete_lk rfl _ _ rfl rfl (p := x) (q := y) rfl hx hy hr2 ?_
        intro w3 cnt3 hr3 hle3 hg3
        rw [HD.out] at hr3
        have hb3 : w3.cell? ⟨gb, 0, none⟩ = some (.int .i64 now) := hg3.cell hb2 hgbm
        have hgw3 := hgw2.trans hg3
        go_wp2
        go_frame
        go_roundw
        case rel => exact ⟨cnt3, _, hr3, hb3, hgw3⟩
        case measure =>
          rw [hr3.left_eq, hr.left_eq]
          omega
      · rw [decide_eq_false ht]
        have hdr := expF_stay hlf HF.out ht
        rw [hdr] at hr2
        clear hdr ht
        go_wp2
        go_roundw
        case rel => exact ⟨cnt1, _, hr2, hb2, hgw2⟩
        case measure =>
          rw [hr2.left_eq, hr.left_eq]
          omega

set_option maxHeartbeats 1600000 in
theorem expire_any {g : Nat} (now : Int) (hl : Lks w g bm n F) (hn : n < maxLen) :
    Calls Tryd.prog 20 #[.pointer (some ⟨g, 0, none⟩), .int .i64 now] w fun e w' => RetR (fun z => ∃ c c2 : Nat, CntF F c ∧ CntF (purge F now) c2 ∧ z = (c : Int) - (c2 : Int)) e ∧ Lks w' g bm n (purge F now) ∧ w.grownBy w' (some bm) := by
  have hb := Blk.new w 3 #[.int .i64 now]
  have hE1 : Ext w (w.alloc (Obj.cells #[Value.int IntKind.i64 now] 3)) := (Ext.refl w).alloc _
  have hl1 := hl.ext hE1
  have c0 := hl.c0
  have hgl := hl.blk.lt
  obtain ⟨c, hcn, hcF, hlen⟩ := hl1.map.cnt
  have HCF := Lib.hid hcF
  clear hcF
  have hnb : n < 9223372036854775807 := by unfold maxLen at hn; omega
  go_enter Tryd.func20, Tryd.ntmps20
  go_wp2_with (first
    | (go_at_call 35; refine Hid.out ?_))
  refine Hid.mk_ ((deleteFunc_any now hl1.map (hb.cell 0) _ rfl).mono ?_)
  rintro e w2 ⟨rfl, hm2, hg2⟩
  have hl2 : Lks w2 g bm n (purge F now) := hl1.turn hm2 hg2
  have hg02 : w.grownBy w2 (some bm) := (hE1.grownBy _).trans hg2
  obtain ⟨c2, hcn2, hcF, hlen2⟩ := hl2.map.cnt
  have HCF2 := Lib.hid hcF
  clear hcF
  have c02 := hl2.c0
  clear hlen
  go_wp2
  go_ret
  exact ⟨⟨_, rfl, c, c2, HCF.out, HCF2.out, rfl⟩, hl2, hg02⟩
end

end Go.Proofs.YthmeobjomidkoaaDoor
