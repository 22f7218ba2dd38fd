/- Release of locks. -/
import Derived.Test.YthmeobjomidkoaaDoorLockOps
namespace Go.Proofs.YthmeobjomidkoaaDoor
open Go.RowKit Go.Maps
set_option maxRecDepth 100000

theorem toList_ne {a b : ByteArray} (h : ¬ a = b) : ¬ a.toList = b.toList := fun e => h (bys_inj (by rw [ByteArray.toList_eq, ByteArray.toList_eq] at e; exact e))
/-- What Release does. -/
def RelR (F : LF) (who name id : ByteArray) (now : Int) (code : Int) (F' : LF) : Prop :=
  match heldF F name id now with
  | none => code = 8 ∧ F' = F
  | some x => (x.who = who ∧ code = 0 ∧ F' = upd F name id none) ∨ (¬ x.who = who ∧ code = 16 ∧ F' = F)
def RetR (P : Int → Prop) (e : Ending) : Prop := ∃ c : Int, e = .returned (.int .i64 c) ∧ P c
section
variable {w : World} {g bm n : Nat} {F : LF}
set_option maxHeartbeats 1600000 in
theorem release_any (who name id : ByteArray) (now : Int) (hl : Lks w g bm n F) (ha : name.size ≤ maxLen) (hb : id.size ≤ maxLen) :
    Calls Tryd.prog 15 #[.pointer (some ⟨g, 0, none⟩), .string who, .string name, .string id, .int .i64 now] w fun e w' => ∃ F', RetR (fun c => RelR F who name id now c F') e ∧ Lks w' g bm n F' ∧ w.grownBy w' (some bm) := by
  have hk0 := Blk.new w 61 #[.string name, .string id]
  go_enter Tryd.func15, Tryd.ntmps15
  go_wp2_with (first
    | (go_at_call 24; refine Hid.out ?_))
  refine Hid.mk_ ((held_any name id now (hl.ext ((Ext.refl w).alloc _)) ha hb).mono ?_)
  rintro e w1 ⟨rfl, hE1⟩
  have hk1 := hk0.below hE1 hk0.lt
  have hE01 := ((Ext.refl w).alloc _).trans hE1
  have hl1 := hl.ext hE01
  clear hk0
  obtain ⟨gk, hgk⟩ : ∃ gk, gk = w.heap.size := ⟨_, rfl⟩
  rw [← hgk] at hk1 ⊢
  clear hgk
  cases hz : heldF F name id now with
  | none =>
    have hrel : RelR F who name id now 8 F := by unfold RelR; rw [hz]; exact ⟨rfl, rfl⟩
    have HR := Lib.hid hrel
    clear hrel hz
    simp only [Option.getD_none, Option.isSome_none]
    unfold lkV lk0
    dsimp only
    go_wp2
    go_ret
    exact ⟨F, ⟨8, rfl, HR.out⟩, hl1.ext ((Ext.refl _).alloc _), (hE01.alloc _).grownBy _⟩
  | some q =>
    obtain ⟨qa, qb, qc, qt⟩ := q
    simp only [Option.getD_some, Option.isSome_some]
    unfold lkV
    dsimp only
    by_cases hw : qc = who
    · subst hw
      obtain ⟨w2, hw2⟩ : ∃ w2, w2 = w1.alloc (Obj.cells #[.string qa, .string qb, .string qc, .int .i64 qt] 35) := ⟨_, rfl⟩
      have hE12 : Ext w1 w2 := by rw [hw2]; exact (Ext.refl _).alloc _
      have hk2 := hk1.below hE12 hk1.lt
      have hl2 := hl1.ext hE12
      obtain ⟨w3, hdel, hm3, hg3⟩ := (hl2.map.ext (Ext.refl w2).drew).drop name id ha hb 0
      have hg03 : w.grownBy w3 (some bm) := ((hE01.trans hE12).drew.grownBy _).trans hg3
      have hl3 : Lks w3 g bm n _ := (hl2.ext (Ext.refl w2).drew).turn hm3 hg3
      have hrel : RelR F qc name id now 0 (upd F name id none) := by unfold RelR; rw [hz]; exact .inl ⟨rfl, rfl, rfl⟩
      have HR := Lib.hid hrel
      have HW := Lib.hid hw2
      unfold keyV at hdel
      have c0 := hl2.c0
      have k0 : w2.cell? ⟨gk, 0, none⟩ = some (.string name) := hk2.cell 0
      have k1 : w2.cell? ⟨gk, 1, none⟩ = some (.string id) := hk2.cell 1
      clear hrel hz hw2
      go_wp2
      rw [← HW.out]
      go_region
      all_goals go_wp2
      all_goals go_ret
      all_goals exact ⟨_, ⟨0, rfl, HR.out⟩, hl3, hg03⟩
    · have hrel : RelR F who name id now 16 F := by unfold RelR; rw [hz]; exact .inr ⟨hw, rfl, rfl⟩
      have HR := Lib.hid hrel
      have hne : (qc.toList == who.toList) = false := beq_eq_false_iff_ne.2 (toList_ne hw)
      clear hrel hz hw
      go_wp2
      go_ret
      exact ⟨F, ⟨16, rfl, HR.out⟩, hl1.ext ((Ext.refl _).alloc _), (hE01.alloc _).grownBy _⟩
end

end Go.Proofs.YthmeobjomidkoaaDoor
