/- New, proper, Holder, Release of locks. -/
import Derived.Test.YthmeobjomidkoaaDoorLockOthers
namespace Go.Proofs.YthmeobjomidkoaaDoor
open Go.RowKit Go.Maps
set_option maxRecDepth 100000

def nonE (id : ByteArray) : Bool := decide (0 < id.size)
theorem toList_nil (s : ByteArray) : s.toList = [] ↔ s.size = 0 := by
  rw [ByteArray.toList_eq, size_toList, List.length_eq_zero_iff]
def properB (who name id : ByteArray) : Bool := nameL (bys who) && nameL (bys name) && nonE id && decide (id.size ≤ 200) && textL (bys id)

section
variable {w : World} {g bm n : Nat} {F : LF}
set_option maxHeartbeats 400000 in
theorem new_any (w : World) :
    Calls Tryd.prog 11 #[] w fun e w' => ∃ g bm, e = .returned (.pointer (some ⟨g, 0, none⟩)) ∧ Lks w' g bm 0 (fun _ _ => none) ∧ Ext w w' ∧ w.heap.size ≤ g ∧ w.heap.size ≤ bm := by
  have hmm := @run_makeMap Tryd.prog
  go_enter Tryd.func11, Tryd.ntmps11
  go_wp2
  go_ret
  have hb := Blk.new (w.alloc (Obj.map #[] 0)) 60 #[.map (some w.heap.size)]
  exact ⟨_, w.heap.size, rfl, ⟨by simpa using hb, (LM.made w).ext ((Ext.refl _).alloc _)⟩, ((Ext.refl w).alloc _).alloc _, by simp, Nat.le_refl _⟩

set_option maxHeartbeats 1600000 in
theorem proper_any (who name id : ByteArray) (hT : Tabs w) (h1 : who.size ≤ 9223372036854775807) (h2 : name.size ≤ 9223372036854775807) :
    Calls Tryd.prog 25 #[.string who, .string name, .string id] w fun e w' => e = .returned (.bool (properB who name id)) ∧ Ext w w' := by
  obtain ⟨n1, hn1⟩ : ∃ n1, n1 = nameL (bys who) := ⟨_, rfl⟩
  obtain ⟨n2, hn2⟩ : ∃ n2, n2 = nameL (bys name) := ⟨_, rfl⟩
  obtain ⟨n3, hn3⟩ : ∃ n3, n3 = nonE id := ⟨_, rfl⟩
  obtain ⟨n5, hn5⟩ : ∃ n5, n5 = textL (bys id) := ⟨_, rfl⟩
  have hp : properB who name id = (n1 && n2 && n3 && decide (id.size ≤ 200) && n5) := by unfold properB; rw [hn1, hn2, hn3, hn5]
  have HP := Lib.hid hp
  have H1 := Lib.hid hn1; have H2 := Lib.hid hn2; have H3 := Lib.hid hn3; have H5 := Lib.hid hn5
  clear hp hn1 hn2 hn3 hn5
  go_enter Tryd.func25, Tryd.ntmps25
  go_wp2_with (first
    | (go_at_call 39; refine Hid.out ?_))
  refine Hid.mk_ ((validName_any who h1).mono ?_)
  rintro e w1 ⟨rfl, hE1⟩
  rw [← H1.out]
  cases n1
  · go_wp2
    go_ret
    exact ⟨by rw [HP.out]; rfl, hE1⟩
  ·
    go_wp2_with (first
      | (go_at_call 39; refine Hid.out ?_))
    refine Hid.mk_ ((validName_any name h2).mono ?_)
    rintro e w2 ⟨rfl, hE2⟩
    rw [← H2.out]
    have hE02 := hE1.trans hE2
    cases n2
    · go_wp2
      go_ret
      exact ⟨by rw [HP.out]; rfl, hE02⟩
    · by_cases hid : id.size = 0
      · have hz : id.toList = [] := (toList_nil id).2 hid
        have hp : properB who name id = false := by rw [HP.out, H3.out]; unfold nonE; rw [decide_eq_false (by omega)]; simp
        have HP := Lib.hid hp
        clear hid hp
        go_wp2
        go_ret
        exact ⟨by rw [HP.out]; rfl, hE02⟩
      · have hz : ¬ id.toList = [] := fun h => hid ((toList_nil id).1 h)
        have hze : id.toList.isEmpty = false := by simpa using hz
        have hn3 : nonE id = true := by unfold nonE; exact decide_eq_true (by omega)
        by_cases hlen : id.size ≤ 200
        · have hlen' : (id.size : Int) ≤ 200 := by omega
          have hp : properB who name id = n5 := by rw [HP.out, H3.out, hn3, decide_eq_true hlen]; rfl
          have HP := Lib.hid hp
          clear hid hp hn3
          go_wp2_with (first
            | (go_at_call 40; refine Hid.out ?_))
          refine Hid.mk_ ((validText_any id ((hT.ext hE1).ext hE2)).mono ?_)
          rintro e w3 ⟨rfl, hE3⟩
          rw [← H5.out]
          have hE03 := hE02.trans hE3
          go_wp2
          go_ret
          exact ⟨by rw [HP.out]; rfl, hE03⟩
        · have hlen' : (200 : Int) < (id.size : Int) := by omega
          have hp : properB who name id = false := by rw [HP.out, H3.out, hn3, decide_eq_false hlen]; rfl
          have HP := Lib.hid hp
          clear hid hp hn3 hlen
          go_wp2
          go_ret
          exact ⟨by rw [HP.out]; rfl, hE02⟩

set_option maxHeartbeats 1600000 in
theorem holder_any (a b : ByteArray) (now : Int) (hl : Lks w g bm n F) (ha : a.size ≤ maxLen) (hb : b.size ≤ maxLen) :
    Calls Tryd.prog 14 #[.pointer (some ⟨g, 0, none⟩), .string a, .string b, .int .i64 now] w fun e w' => e = .returned (.tuple #[lkV ((heldF F a b now).getD lk0), .bool (heldF F a b now).isSome]) ∧ Ext w w' := by
  go_enter Tryd.func14, Tryd.ntmps14
  go_wp2_with (first
    | (go_at_call 24; refine Hid.out ?_))
  refine Hid.mk_ ((held_any a b now (hl.ext ((Ext.refl w).alloc _)) ha hb).mono ?_)
  rintro e w1 ⟨rfl, hE1⟩
  have hr := Blk.new w 35 #[.string ⟨#[]⟩, .string ⟨#[]⟩, .string ⟨#[]⟩, .int .i64 0]
  have hr1 := hr.below hE1 hr.lt
  have hE01 := ((Ext.refl w).alloc _).trans hE1
  clear hr
  obtain ⟨gr, hgr⟩ : ∃ gr, gr = w.heap.size := ⟨_, rfl⟩
  rw [← hgr] at hr1 ⊢
  have HGR := Lib.hid hgr
  have hgrl := hr1.lt
  clear hgr
  have r0 : w1.cell? ⟨gr, 0, none⟩ = some (.string ⟨#[]⟩) := hr1.cell 0
  have r1 : w1.cell? ⟨gr, 1, none⟩ = some (.string ⟨#[]⟩) := hr1.cell 1
  have r2 : w1.cell? ⟨gr, 2, none⟩ = some (.string ⟨#[]⟩) := hr1.cell 2
  have r3 : w1.cell? ⟨gr, 3, none⟩ = some (.int .i64 0) := hr1.cell 3
  have f0 := hr1.frozen 0
  have f1 := hr1.frozen 1
  have f2 := hr1.frozen 2
  have f3 := hr1.frozen 3
  obtain ⟨is, his⟩ : ∃ is, is = (heldF F a b now).isSome := ⟨_, rfl⟩
  obtain ⟨y, hy⟩ : ∃ y, y = (heldF F a b now).getD lk0 := ⟨_, rfl⟩
  rw [← his, ← hy]
  have HI := Lib.hid his; have HY := Lib.hid hy
  clear his hy
  obtain ⟨xa, xb, xc, xt⟩ := y
  unfold lkV
  dsimp only
  go_wp2
  refine bodyPost_ret (results_cell_row_tmp rfl _ _ gr 35 #[.string xa, .string xb, .string xc, .int .i64 xt] (0, 0) _ rfl ((((hr1.set_ 0 _).set_ 1 _).set_ 2 _).set_ 3 _) Tryd.underlying35 rfl info_lk) rfl ?_
  refine ⟨by rw [← HI.out, ← HY.out]; rfl, ((((hE01.set_ (by rw [HGR.out]; exact Nat.le_refl _) _).set_ (by rw [HGR.out]; exact Nat.le_refl _) _).set_ (by rw [HGR.out]; exact Nat.le_refl _) _).set_ (by rw [HGR.out]; exact Nat.le_refl _) _)⟩
end

end Go.Proofs.YthmeobjomidkoaaDoor
