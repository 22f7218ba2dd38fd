/- Expire, clones, lists: plain; Clone. -/
import Derived.Test.YthmeobjomidkoaaDoorLockPl
import Derived.Test.YthmeobjomidkoaaDoorLockExp
import Derived.Test.YthmeobjomidkoaaDoorLayClone
import Derived.Shelf.SlMaps.Clone
namespace Go.Proofs.YthmeobjomidkoaaDoor
open Go.RowKit Go.Maps
set_option maxRecDepth 100000
theorem heldF_purge {F : LF} {now t : Int} (h : now ≤ t) (a b : ByteArray) : heldF (purge F now) a b t = heldF F a b t := by
  cases hF : F a b with
  | none => simp [heldF, purge, hF]
  | some x =>
    by_cases h1 : now < x.til
    · simp [heldF, purge, hF, h1]
    · simp only [heldF, purge, hF]
      rw [if_neg h1, if_neg (by omega)]
theorem purge_idem (F : LF) (now : Int) : purge (purge F now) now = purge F now := by
  funext a b
  exact heldF_purge (Int.le_refl _) a b
theorem IsList.purge_ {F : LF} {now t : Int} {L : List Lk} (ht : now ≤ t) (h : IsList (purge F now) t L) : IsList F t L :=
  ⟨h.1, fun x => by rw [h.2 x, heldF_purge ht]⟩
/-- The first q locks of L have been released. -/
def RelP (F : LF) (now : Int) (L : List Lk) (q : Nat) (F' : LF) : Prop := KeyOk F' ∧ ∀ a b, heldF F' a b now = if (∃ x ∈ L.take q, x.name = a ∧ x.id = b) then none else heldF F a b now
theorem RelP.zero {F : LF} {now : Int} {L : List Lk} (hK : KeyOk F) : RelP F now L 0 F := ⟨hK, fun a b => by rw [if_neg]; rintro ⟨x, hx, _⟩; simp at hx⟩
open Classical in
theorem RelP.step {F F1 F2 : LF} {now : Int} {L : List Lk} {q : Nat} (h : RelP F now L q F1) (hL : IsList F now L) (hq : q < L.length) {code : Int} (hR : RelR F1 L[q].who L[q].name L[q].id now code F2) : RelP F now L (q + 1) F2 := by
  obtain ⟨hK, hh⟩ := h
  have hm : heldF F L[q].name L[q].id now = some L[q] := (hL.2 _).1 (List.getElem_mem hq)
  have hno : ¬ ∃ x ∈ L.take q, x.name = L[q].name ∧ x.id = L[q].id := by
    rintro ⟨x, hx, hk⟩
    obtain ⟨j, hj, hje⟩ := List.getElem_of_mem hx
    rw [List.length_take] at hj
    have hp := hL.1
    rw [List.pairwise_iff_getElem] at hp
    have h1 := hp j q (by omega) hq (by omega)
    rw [List.getElem_take] at hje
    rw [hje, (kL_key hk).1, kL_irrefl] at h1
    cases h1
  have h1 : heldF F1 L[q].name L[q].id now = some L[q] := by rw [hh, if_neg hno]; exact hm
  obtain ⟨_, rfl⟩ := rel_ok hR h1 rfl
  refine ⟨hK.rel hR, fun a b => ?_⟩
  rw [heldF_upd, List.take_succ_eq_append_getElem hq]
  by_cases hk : a = L[q].name ∧ b = L[q].id
  · rw [if_pos hk, if_pos]
    exact ⟨L[q], List.mem_append_right _ (List.mem_singleton.2 rfl), hk.1.symm, hk.2.symm⟩
  · rw [if_neg hk, hh]
    congr 1
    refine propext ⟨?_, ?_⟩
    · rintro ⟨x, hx, he⟩
      exact ⟨x, List.mem_append_left _ hx, he⟩
    · rintro ⟨x, hx, he⟩
      rcases List.mem_append.1 hx with hx | hx
      · exact ⟨x, hx, he⟩
      · rw [List.mem_singleton] at hx
        subst hx
        exact absurd ⟨he.1.symm, he.2.symm⟩ hk
theorem RelP.done {F F1 : LF} {now : Int} {L L' : List Lk} (hL : IsList F now L) (h : RelP F now L L.length F1) (hL' : IsList F1 now L') : L' = [] := by
  obtain ⟨_, hh⟩ := h
  cases L' with
  | nil => rfl
  | cons x t =>
    exfalso
    have h1 := (hL'.2 x).1 (by simp)
    rw [hh, List.take_length] at h1
    split at h1
    · cases h1
    · rename_i hno
      exact hno ⟨x, (hL.2 x).2 h1, rfl, rfl⟩
section
variable {w : World}
theorem LM.clone {bm n : Nat} {F : LF} (h : LM w bm n F) :
    Calls Tryd.prog 38 #[.map (some bm)] w fun e w' => e = .returned (.map (some w.heap.size)) ∧ LM w' w.heap.size n F ∧ Ext w w' := by
  obtain ⟨D, ho, hv⟩ := h
  refine (AnyW.maps_Clone_owns Tryd.cloneM 61 lkR bm n D w ho).mono ?_
  rintro e w' ⟨he, h1, _, h3⟩
  exact ⟨he, ⟨D, h1, hv⟩, h3⟩
set_option maxHeartbeats 800000 in
theorem clone_lk {g bm n : Nat} {F : LF} (hl : Lks w g bm n F) :
    Calls Tryd.prog 23 #[.pointer (some ⟨g, 0, none⟩)] w fun e w' => (∃ g' bm', e = .returned (.pointer (some ⟨g', 0, none⟩)) ∧ Lks w' g' bm' n F ∧ w.heap.size ≤ g' ∧ w.heap.size ≤ bm') ∧ Ext w w' := by
  have c0 := hl.c0
  go_enter Tryd.func23, Tryd.ntmps23
  go_wp2_with (first
    | (go_at_call 38; refine Hid.out ?_))
  refine Hid.mk_ (hl.map.clone.mono ?_)
  rintro e w1 ⟨rfl, hm, hE⟩
  have hE2 : Ext w1 (w1.alloc (Obj.cells #[.map (some w.heap.size)] 60)) := (Ext.refl _).alloc _
  have hl2 : Lks (w1.alloc (Obj.cells #[.map (some w.heap.size)] 60)) w1.heap.size w.heap.size n F := ⟨Blk.new w1 _ _, hm.ext hE2⟩
  have hs := hE.size_le
  go_wp2
  go_ret
  exact ⟨⟨w1.heap.size, w.heap.size, rfl, hl2, hs, Nat.le_refl _⟩, hE.trans hE2⟩
end
end Go.Proofs.YthmeobjomidkoaaDoor
