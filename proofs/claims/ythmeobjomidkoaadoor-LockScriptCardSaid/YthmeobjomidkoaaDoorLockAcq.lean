/- Acquire of locks. -/
import Derived.Test.YthmeobjomidkoaaDoorLockRel
namespace Go.Proofs.YthmeobjomidkoaaDoor
open Go.RowKit Go.Maps
set_option maxRecDepth 100000

theorem Tabs.grown {w w' : World} {r : Option Nat} (h : Tabs w) (hg : w.grownBy w' r) (hr : ∀ a v, w.cell? a = some v → some a.block ≠ r) : Tabs w' := by
  obtain ⟨h1, h2⟩ := h
  exact ⟨fun c hc => hg.cell (h1 c hc) (hr _ _ (h1 c hc)), fun i hi => ⟨hg.cell (h2 i hi).1 (hr _ _ (h2 i hi).1), hg.cell (h2 i hi).2 (hr _ _ (h2 i hi).2)⟩⟩
theorem LM.not_cell {w : World} {bm n : Nat} {F : LF} (h : LM w bm n F) (a : Addr) (v : Value) (hc : w.cell? a = some v) : some a.block ≠ some bm := by
  obtain ⟨D, ⟨es, clock, hb, _⟩, _⟩ := h
  intro e
  injection e with e
  unfold World.cell? at hc
  rw [e, hb] at hc
  cases hc

def badT (now til : Int) : Prop := now < 0 ∨ til ≤ now ∨ 86400 < til - now
/-- What Acquire does. -/
def AcqR (F : LF) (who name id : ByteArray) (now til code : Int) (F' : LF) : Prop :=
  (properB who name id = false ∧ code = 1 ∧ F' = F) ∨
  (properB who name id = true ∧ badT now til ∧ code = 2 ∧ F' = F) ∨
  (properB who name id = true ∧ ¬ badT now til ∧ ∃ x, heldF F name id now = some x ∧ ¬ x.who = who ∧ code = 16 ∧ F' = F) ∨
  (properB who name id = true ∧ ¬ badT now til ∧ (∀ x, heldF F name id now = some x → x.who = who) ∧ ∃ c, CountK (OtherHeld F name id now) c ∧
    ((1000 ≤ c ∧ code = 6 ∧ F' = F) ∨ (c < 1000 ∧ code = 0 ∧ F' = upd F name id (some ⟨name, id, who, til⟩))))

section
variable {w : World} {g bm n : Nat} {F : LF}
set_option maxHeartbeats 3200000 in
theorem acquire_any (who name id : ByteArray) (now til : Int) (hl : Lks w g bm n F) (ha : name.size ≤ maxLen) (hb : id.size ≤ maxLen) (hn : n < maxLen) (hT : Tabs w) (h1 : who.size ≤ 9223372036854775807) (h2 : name.size ≤ 9223372036854775807)
    (hnow1 : -9223372036854775808 ≤ now) (hnow2 : now ≤ 9223372036854775807) (htil1 : -9223372036854775808 ≤ til) (htil2 : til ≤ 9223372036854775807) :
    Calls Tryd.prog 13 #[.pointer (some ⟨g, 0, none⟩), .string who, .string name, .string id, .int .i64 now, .int .i64 til] w fun e w' => ∃ F' n', n' ≤ n + 1 ∧ RetR (fun c => AcqR F who name id now til c F') e ∧ Lks w' g bm n' F' ∧ w.grownBy w' (some bm) := by
  have hk0 := Blk.new w 61 #[.string name, .string id]
  go_enter Tryd.func13, Tryd.ntmps13
  go_wp2_with (first
    | (go_at_call 24; refine Hid.out ?_))
  refine Hid.mk_ ((held_any name id now (hl.ext ((Ext.refl w).alloc _)) ha hb).mono ?_)
  rintro e w1 ⟨rfl, hE1⟩
  have hk1 := hk0.below hE1 hk0.lt
  have hE01 := ((Ext.refl w).alloc _).trans hE1
  have hl1 := hl.ext hE01
  clear hk0
  obtain ⟨gk, hgk⟩ : ∃ gk, gk = w.heap.size := ⟨_, rfl⟩
  rw [← hgk] at hk1 ⊢
  clear hgk
  obtain ⟨is, his⟩ : ∃ is, is = (heldF F name id now).isSome := ⟨_, rfl⟩
  obtain ⟨y, hy⟩ : ∃ y, y = (heldF F name id now).getD lk0 := ⟨_, rfl⟩
  rw [← his, ← hy]
  have HI := Lib.hid his; have HY := Lib.hid hy
  clear his hy
  obtain ⟨qa, qb, qc, qt⟩ := y
  unfold lkV
  dsimp only
  go_wp2_with (first
    | (go_at_call 25; refine Hid.out ?_))
  refine Hid.mk_ ((proper_any who name id ((hT.ext hE01).ext ((Ext.refl w1).alloc _)) h1 h2).mono ?_)
  rintro e w2 ⟨rfl, hE2⟩
  have hq1 := Blk.new w1 35 #[.string qa, .string qb, .string qc, .int .i64 qt]
  have hq2 := hq1.below hE2 hq1.lt
  have hE12 := ((Ext.refl w1).alloc _).trans hE2
  have hk2 := hk1.below hE12 hk1.lt
  have hl2 := hl1.ext hE12
  have hE02 := hE01.trans hE12
  clear hq1
  obtain ⟨gq, hgq⟩ : ∃ gq, gq = w1.heap.size := ⟨_, rfl⟩
  rw [← hgq] at hq2 ⊢
  clear hgq
  cases hp : properB who name id with
  | false =>
    have hrel : AcqR F who name id now til 1 F := .inl ⟨hp, rfl, rfl⟩
    have HR := Lib.hid hrel
    clear hrel hp
    go_wp2
    go_ret
    exact ⟨F, n, Nat.le_succ _, ⟨1, rfl, HR.out⟩, hl2, hE02.grownBy _⟩
  | true =>
    have HP := Lib.hid hp
    clear hp
    have q2 : w2.cell? ⟨gq, 2, none⟩ = some (.string qc) := hq2.cell 2
    have kk0 : w2.cell? ⟨gk, 0, none⟩ = some (.string name) := hk2.cell 0
    have kk1 : w2.cell? ⟨gk, 1, none⟩ = some (.string id) := hk2.cell 1
    by_cases b1 : now < 0
    · have HBAD : Hid (badT now til) := .inl b1
      have hrel : AcqR F who name id now til 2 F := .inr (.inl ⟨HP.out, HBAD.out, rfl, rfl⟩)
      have HR := Lib.hid hrel
      clear hrel
      go_wp2
      go_ret
      exact ⟨F, n, Nat.le_succ _, ⟨2, rfl, HR.out⟩, hl2, hE02.grownBy _⟩
    by_cases b2 : til ≤ now
    · have HBAD : Hid (badT now til) := .inr (.inl b2)
      have hrel : AcqR F who name id now til 2 F := .inr (.inl ⟨HP.out, HBAD.out, rfl, rfl⟩)
      have HR := Lib.hid hrel
      clear hrel
      go_wp2
      go_ret
      exact ⟨F, n, Nat.le_succ _, ⟨2, rfl, HR.out⟩, hl2, hE02.grownBy _⟩
    by_cases b3 : 86400 < til - now
    · have HBAD : Hid (badT now til) := .inr (.inr b3)
      have hrel : AcqR F who name id now til 2 F := .inr (.inl ⟨HP.out, HBAD.out, rfl, rfl⟩)
      have HR := Lib.hid hrel
      clear hrel
      go_wp2
      go_ret
      exact ⟨F, n, Nat.le_succ _, ⟨2, rfl, HR.out⟩, hl2, hE02.grownBy _⟩
    have HB : Hid (¬ badT now til) := by
      unfold badT
      intro h
      rcases h with h | h | h
      · exact b1 h
      · exact b2 h
      · exact b3 h
    cases hz : heldF F name id now with
    | none =>
      have HW : Hid (∀ x, heldF F name id now = some x → x.who = who) := fun x hx => by rw [hz] at hx; cases hx
      have hi := HI.out
      rw [hz] at hi
      have hi2 : is = false := hi
      subst hi2
      clear hz hi
      go_wp2_with (first
        | (go_at_call 26; refine Hid.out ?_))
      refine Hid.mk_ ((others_any name id now hl2 ha hb hn).mono ?_)
      rintro e w4 ⟨⟨c, rfl, hC, hcn⟩, hE4⟩
      have hk4 := hk2.below hE4 hk2.lt
      have hl4 := hl2.ext hE4
      have hE04 := hE02.trans hE4
      have HC := Lib.hid hC
      clear hC
      by_cases hc : 1000 ≤ c
      · have hc' : (1000 : Int) ≤ (c : Int) := by omega
        have hrel : AcqR F who name id now til 6 F := .inr (.inr (.inr ⟨HP.out, HB.out, HW.out, c, HC.out, .inl ⟨hc, rfl, rfl⟩⟩))
        have HR := Lib.hid hrel
        clear hrel hc
        go_wp2
        go_ret
        exact ⟨F, n, Nat.le_succ _, ⟨6, rfl, HR.out⟩, hl4, hE04.grownBy _⟩
      · have hc' : (c : Int) < 1000 := by omega
        obtain ⟨w5, hupd, hm5, hg5⟩ := (hl4.map.ext (Ext.refl w4).drew).store hn name id ha hb ⟨name, id, who, til⟩
        have hg05 : w.grownBy w5 (some bm) := (hE04.drew.grownBy _).trans hg5
        have hl5 : Lks w5 g bm (n + 1) _ := (hl4.ext (Ext.refl w4).drew).turn hm5 hg5
        have hrel : AcqR F who name id now til 0 (upd F name id (some ⟨name, id, who, til⟩)) := .inr (.inr (.inr ⟨HP.out, HB.out, HW.out, c, HC.out, .inr ⟨by omega, rfl, rfl⟩⟩))
        have HR := Lib.hid hrel
        unfold keyV lkV at hupd
        dsimp only at hupd
        have c0 := hl4.c0
        have k0 : w4.cell? ⟨gk, 0, none⟩ = some (.string name) := hk4.cell 0
        have k1 : w4.cell? ⟨gk, 1, none⟩ = some (.string id) := hk4.cell 1
        clear hrel hc
        go_wp2
        go_region
        all_goals go_wp2
        all_goals go_ret
        all_goals exact ⟨_, n + 1, Nat.le_refl _, ⟨0, rfl, HR.out⟩, hl5, hg05⟩
    | some q =>
      have hi := HI.out
      rw [hz] at hi
      have hi2 : is = true := hi
      have hyy := HY.out
      rw [hz, Option.getD_some] at hyy
      subst hi2
      by_cases hw : qc = who
      · subst hw
        have HW : Hid (∀ x, heldF F name id now = some x → x.who = qc) := fun x hx => by
          rw [hz] at hx
          injection hx with hx
          rw [← hx, ← hyy]
        clear hz hi hyy
        go_wp2_with (first
          | (go_at_call 26; refine Hid.out ?_))
        refine Hid.mk_ ((others_any name id now hl2 ha hb hn).mono ?_)
        rintro e w4 ⟨⟨c, rfl, hC, hcn⟩, hE4⟩
        have hk4 := hk2.below hE4 hk2.lt
        have hl4 := hl2.ext hE4
        have hE04 := hE02.trans hE4
        have HC := Lib.hid hC
        clear hC
        by_cases hc : 1000 ≤ c
        · have hc' : (1000 : Int) ≤ (c : Int) := by omega
          have hrel : AcqR F qc name id now til 6 F := .inr (.inr (.inr ⟨HP.out, HB.out, HW.out, c, HC.out, .inl ⟨hc, rfl, rfl⟩⟩))
          have HR := Lib.hid hrel
          clear hrel hc
          go_wp2
          go_ret
          exact ⟨F, n, Nat.le_succ _, ⟨6, rfl, HR.out⟩, hl4, hE04.grownBy _⟩
        · have hc' : (c : Int) < 1000 := by omega
          obtain ⟨w5, hupd, hm5, hg5⟩ := (hl4.map.ext (Ext.refl w4).drew).store hn name id ha hb ⟨name, id, qc, til⟩
          have hg05 : w.grownBy w5 (some bm) := (hE04.drew.grownBy _).trans hg5
          have hl5 : Lks w5 g bm (n + 1) _ := (hl4.ext (Ext.refl w4).drew).turn hm5 hg5
          have hrel : AcqR F qc name id now til 0 (upd F name id (some ⟨name, id, qc, til⟩)) := .inr (.inr (.inr ⟨HP.out, HB.out, HW.out, c, HC.out, .inr ⟨by omega, rfl, rfl⟩⟩))
          have HR := Lib.hid hrel
          unfold keyV lkV at hupd
          dsimp only at hupd
          have c0 := hl4.c0
          have k0 : w4.cell? ⟨gk, 0, none⟩ = some (.string name) := hk4.cell 0
          have k1 : w4.cell? ⟨gk, 1, none⟩ = some (.string id) := hk4.cell 1
          clear hrel hc
          go_wp2
          go_region
          all_goals go_wp2
          all_goals go_ret
          all_goals exact ⟨_, n + 1, Nat.le_refl _, ⟨0, rfl, HR.out⟩, hl5, hg05⟩
      · have hrel : AcqR F who name id now til 16 F := .inr (.inr (.inl ⟨HP.out, HB.out, q, hz, by rw [← hyy]; exact hw, rfl, rfl⟩))
        have HR := Lib.hid hrel
        have hne : (qc.toList == who.toList) = false := beq_eq_false_iff_ne.2 (toList_ne hw)
        clear hrel hz hw hi hyy
        go_wp2
        go_ret
        exact ⟨F, n, Nat.le_succ _, ⟨16, rfl, HR.out⟩, hl2, hE02.grownBy _⟩
end

end Go.Proofs.YthmeobjomidkoaaDoor
