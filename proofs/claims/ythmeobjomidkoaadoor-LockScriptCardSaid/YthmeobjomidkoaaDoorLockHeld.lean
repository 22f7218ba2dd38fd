/- Locks.held. -/
import Derived.Test.YthmeobjomidkoaaDoorLockMap
import Derived.Laws.ResultCell
import Derived.Laws.Rows
namespace Go.Proofs.YthmeobjomidkoaaDoor
open Go.RowKit Go.Maps
set_option maxRecDepth 100000

theorem info_lk : (Tryd.prog.info? 35).map (·.size) = some 4 := by kernel_rfl
theorem results_cell_row_tmp {P : Program} {fn : Func} {p u : Tmp} {ty : TypeId} (h : fn.results = #[.cell p ty, .tmp u]) (tmps : Array Value) (w : World) (g : Nat) (t : TypeId) (cs : Array Value) (fr : Nat × Nat) (d : TypeDesc)
    (hp : tmps.getD p undef = .pointer (some ⟨g, 0, none⟩)) (hg : w.heap[g]? = some (.cells cs t fr))
    (hu : P.underlying ty = some d) (hd : (match d with | .struct _ | .array _ _ => true | _ => false) = true) (hi : (P.info? ty).map (·.size) = some cs.size) :
    (results fn tmps).run P w = .ok (.tuple #[.agg cs, tmps.getD u undef]) w := by
  rw [results_cell_tmp h, hp]
  simp [asAddr, run_loadVar_row w g t ty cs fr d hg hu hd hi, Result.andThen]

/-- The lock with a key that is held at a time. -/
def heldF (F : LF) (a b : ByteArray) (now : Int) : Option Lk :=
  match F a b with
  | some x => if now < x.til then some x else none
  | none => none
section
variable {w : World} {g bm n : Nat} {F : LF}
set_option maxHeartbeats 1600000 in
theorem held_any (a b : ByteArray) (now : Int) (hl : Lks w g bm n F) (ha : a.size ≤ maxLen) (hb : b.size ≤ maxLen) :
    Calls Tryd.prog 24 #[.pointer (some ⟨g, 0, none⟩), keyV a b, .int .i64 now] w fun e w' => e = .returned (.tuple #[lkV ((heldF F a b now).getD lk0), .bool (heldF F a b now).isSome]) ∧ Ext w w' := by
  go_enter Tryd.func24, Tryd.ntmps24
  unfold keyV
  go_wp2
  obtain ⟨w1, hw1⟩ : ∃ w1, w1 = (w.alloc (Obj.cells #[Value.string a, Value.string b] 61)).alloc (Obj.cells #[Value.string ⟨#[]⟩, Value.string ⟨#[]⟩, Value.string ⟨#[]⟩, Value.int IntKind.i64 0] 35) := ⟨_, rfl⟩
  rw [← hw1]
  have hE1 : Ext w w1 := by rw [hw1]; exact ((Ext.refl w).alloc _).alloc _
  have hk : Blk w1 w.heap.size 61 #[.string a, .string b] := by rw [hw1]; exact (Blk.new w _ _).alloc _
  have hr : Blk w1 (w.heap.size + 1) 35 #[Value.string ⟨#[]⟩, Value.string ⟨#[]⟩, Value.string ⟨#[]⟩, Value.int IntKind.i64 0] := by
    rw [hw1]
    have h1 := Blk.new (w.alloc (Obj.cells #[Value.string a, Value.string b] 61)) 35 #[Value.string ⟨#[]⟩, Value.string ⟨#[]⟩, Value.string ⟨#[]⟩, Value.int IntKind.i64 0]
    simpa using h1
  obtain ⟨gk, hgk⟩ : ∃ gk, gk = w.heap.size := ⟨_, rfl⟩
  obtain ⟨gr, hgr⟩ : ∃ gr, gr = w.heap.size + 1 := ⟨_, rfl⟩
  rw [← hgr] at hr
  rw [← hgk] at hk
  rw [← hgr, ← hgk]
  clear hw1
  have hl1 := hl.ext hE1
  have c0 := hl1.c0
  have c0a : ∀ o, (w1.alloc o).cell? ⟨g, 0, none⟩ = some (.map (some bm)) := fun o => (hl1.ext ((Ext.refl _).alloc o)).c0
  have k0 : w1.cell? ⟨gk, 0, none⟩ = some (.string a) := hk.cell 0
  have k1 : w1.cell? ⟨gk, 1, none⟩ = some (.string b) := hk.cell 1
  have k0a : ∀ o, (w1.alloc o).cell? ⟨gk, 0, none⟩ = some (.string a) := fun o => (hk.alloc o).cell 0
  have k1a : ∀ o, (w1.alloc o).cell? ⟨gk, 1, none⟩ = some (.string b) := fun o => (hk.alloc o).cell 1
  have r0 : w1.cell? ⟨gr, 0, none⟩ = some (.string ⟨#[]⟩) := hr.cell 0
  have r1 : w1.cell? ⟨gr, 1, none⟩ = some (.string ⟨#[]⟩) := hr.cell 1
  have r2 : w1.cell? ⟨gr, 2, none⟩ = some (.string ⟨#[]⟩) := hr.cell 2
  have r3 : w1.cell? ⟨gr, 3, none⟩ = some (.int .i64 0) := hr.cell 3
  have f0 := hr.frozen 0
  have f1 := hr.frozen 1
  have f2 := hr.frozen 2
  have f3 := hr.frozen 3
  have l1 := (hl1.map.ext (Ext.refl w1).drew).look a b ha hb
  have l2 := fun o => (hl1.map.ext ((Ext.refl w1).alloc o).drew).look a b ha hb
  unfold keyV at l1 l2
  have HGK := Lib.hid hgk; have HGR := Lib.hid hgr; have HE1 := Lib.hid hE1
  have hgrl := hr.lt
  clear hgk hgr hE1
  cases hF : F a b with
  | none =>
    have hh : heldF F a b now = none := by unfold heldF; rw [hF]
    simp only [hF, Option.getD_none, Option.isSome_none] at l1 l2
    have HH := Lib.hid hh
    clear hF hh
    unfold lkV lk0 at l1 l2
    dsimp only at l1 l2
    go_region
    all_goals go_wp2
    all_goals
      refine bodyPost_ret (results_cell_row_tmp rfl _ _ gr 35 #[.string ⟨#[]⟩, .string ⟨#[]⟩, .string ⟨#[]⟩, .int .i64 0] (0, 0) _ rfl (((((hr.set_ 0 _).set_ 1 _).set_ 2 _).set_ 3 _).alloc _).drew Tryd.underlying35 rfl info_lk) rfl ?_
      refine ⟨by rw [HH.out]; rfl, (((((HE1.out.set_ (by rw [HGR.out]; simp) _).set_ (by rw [HGR.out]; simp) _).set_ (by rw [HGR.out]; simp) _).set_ (by rw [HGR.out]; simp) _).alloc _).drew⟩
  | some x =>
    obtain ⟨xa, xb, xc, xt⟩ := x
    simp only [hF, Option.getD_some, Option.isSome_some] at l1 l2
    unfold lkV at l1 l2
    dsimp only at l1 l2
    by_cases ht : now < xt
    · have hh : heldF F a b now = some ⟨xa, xb, xc, xt⟩ := by unfold heldF; rw [hF]; simp only; rw [if_pos ht]
      have HH := Lib.hid hh
      clear hF hh
      go_region
      all_goals go_wp2
      all_goals
        refine bodyPost_ret (results_cell_row_tmp rfl _ _ gr 35 #[.string xa, .string xb, .string xc, .int .i64 xt] (0, 0) _ rfl (((((hr.set_ 0 _).set_ 1 _).set_ 2 _).set_ 3 _).alloc _).drew Tryd.underlying35 rfl info_lk) rfl ?_
        refine ⟨by rw [HH.out]; rfl, (((((HE1.out.set_ (by rw [HGR.out]; simp) _).set_ (by rw [HGR.out]; simp) _).set_ (by rw [HGR.out]; simp) _).set_ (by rw [HGR.out]; simp) _).alloc _).drew⟩
    · have hh : heldF F a b now = none := by unfold heldF; rw [hF]; simp only; rw [if_neg ht]
      have HH := Lib.hid hh
      have ht2 : xt ≤ now := by omega
      clear hF hh ht
      go_region
      all_goals go_wp2
      all_goals
        refine bodyPost_ret (results_cell_row_tmp rfl _ _ gr 35 #[.string ⟨#[]⟩, .string ⟨#[]⟩, .string ⟨#[]⟩, .int .i64 0] (0, 0) _ rfl (((((hr.set_ 0 _).set_ 1 _).set_ 2 _).set_ 3 _).alloc _).drew Tryd.underlying35 rfl info_lk) rfl ?_
        refine ⟨by rw [HH.out]; rfl, (((((HE1.out.set_ (by rw [HGR.out]; simp) _).set_ (by rw [HGR.out]; simp) _).set_ (by rw [HGR.out]; simp) _).set_ (by rw [HGR.out]; simp) _).alloc _).drew⟩
end

end Go.Proofs.YthmeobjomidkoaaDoor
