/- The reference's Proper and Release; same. -/
import Derived.Test.YthmeobjomidkoaaDoorScrB
namespace Go.Proofs.YthmeobjomidkoaaDoor
open Go.RowKit Go.Maps
set_option maxRecDepth 100000
attribute [local go_sem] ext_refl_t ext_alloc_t ext_drew_t ext_drewN_t ext_alloc2_t ext_alloc3_t ext_alloc4_t ext_alloc5_t ext_alloc6_t ext_alloc7_t ext_alloc8_t ext_alloc1d_t ext_alloc2d_t ext_alloc3d_t ext_alloc4d_t
def proB (name id : ByteArray) : Bool := nameL (bys name) && nonE id && decide (id.size ≤ 200) && textL (bys id)
theorem properB_eq (who name id : ByteArray) : properB who name id = (nameL (bys who) && proB name id) := by
  unfold properB proB
  simp only [Bool.and_assoc]
theorem Tab.drop {F : LF} {l : List Lk} (hT : Tab F l) (a i : ByteArray) : Tab (upd F a i none) (l.filter fun x => !keyB a i x) := by
  refine ⟨hT.srt.filter _, fun x => ?_⟩
  rw [List.mem_filter, hT.mem]
  unfold upd
  cases hk : keyB a i x with
  | true => rw [if_pos (keyB_iff.1 hk)]; simp
  | false =>
    rw [if_neg (fun h => by rw [keyB_iff.2 h] at hk; cases hk)]
    simp
section
variable {w : World} {A : Option Addr} {m : Nat} {l : List Lk} {F : LF}
set_option maxHeartbeats 3200000 in
theorem rproper_lk (name id : ByteArray) (h2 : name.size ≤ 140737488355328) :
    Calls Tryd.prog 32 #[.string name, .string id] w fun e w' => e = .returned (.bool (proB name id)) ∧ Ext w w' := by
  obtain ⟨n2, hn2⟩ : ∃ n2, n2 = nameL (bys name) := ⟨_, rfl⟩
  obtain ⟨n3, hn3⟩ : ∃ n3, n3 = nonE id := ⟨_, rfl⟩
  obtain ⟨n5, hn5⟩ : ∃ n5, n5 = textL (bys id) := ⟨_, rfl⟩
  have hp : proB name id = (n2 && n3 && decide (id.size ≤ 200) && n5) := by unfold proB; rw [hn2, hn3, hn5]
  have HP := Lib.hid hp
  have H2 := Lib.hid hn2; have H3 := Lib.hid hn3; have H5 := Lib.hid hn5
  clear hp hn2 hn3 hn5
  go_enter Tryd.func32, Tryd.ntmps32
  go_wp2_with (first
    | (go_at_call 31; refine Hid.out ?_))
  refine Hid.mk_ ((refName_any name h2).mono ?_)
  rintro e w2 ⟨rfl, hE2⟩
  rw [← H2.out]
  cases n2
  · go_wp2
    go_ret
    exact ⟨by rw [HP.out]; rfl, hE2⟩
  · by_cases hid : id.size = 0
    · have hz : id.toList = [] := (toList_nil id).2 hid
      have hp : proB name id = false := by rw [HP.out, H3.out]; unfold nonE; rw [decide_eq_false (by omega)]; simp
      have HP := Lib.hid hp
      clear hid hp
      go_wp2
      go_ret
      exact ⟨by rw [HP.out]; rfl, hE2⟩
    · have hz : ¬ id.toList = [] := fun h => hid ((toList_nil id).1 h)
      have hze : id.toList.isEmpty = false := by simpa using hz
      have hn3 : nonE id = true := by unfold nonE; exact decide_eq_true (by omega)
      by_cases hlen : id.size ≤ 200
      · have hlen' : (id.size : Int) ≤ 200 := by omega
        have hp : proB name id = n5 := by rw [HP.out, H3.out, hn3, decide_eq_true hlen]; rfl
        have HP := Lib.hid hp
        clear hid hp hn3
        go_wp2_with (first
          | (go_at_call 46; refine Hid.out ?_))
        refine Hid.mk_ ((refText_any id).mono ?_)
        rintro e w3 ⟨rfl, hE3⟩
        rw [← H5.out]
        have hE03 := hE2.trans hE3
        go_wp2
        go_ret
        exact ⟨by rw [HP.out]; rfl, hE03⟩
      · have hlen' : (200 : Int) < (id.size : Int) := by omega
        have hp : proB name id = false := by rw [HP.out, H3.out, hn3, decide_eq_false hlen]; rfl
        have HP := Lib.hid hp
        clear hid hp hn3 hlen
        go_wp2
        go_ret
        exact ⟨by rw [HP.out]; rfl, hE2⟩
set_option maxHeartbeats 3200000 in
theorem rrelease_lk (c : Nat) (hs : SlC lkC 4 w A m l) (hm : m ≤ 1000) (hT : Tab F l) (hK : KeyOk F) (who a i : ByteArray) (now : Int) :
    Calls Tryd.prog 18 #[.slice A m c, .string who, .string a, .string i, .int .i64 now] w fun e w' => (∃ A' m' c' code F' l', e = .returned (.tuple #[.slice A' m' c', .int .i64 code]) ∧ SlC lkC 4 w' A' m' l' ∧ Tab F' l' ∧ RelR F who a i now code F' ∧ m' ≤ m) ∧ Ext w w' := by
  go_enter Tryd.func18, Tryd.ntmps18
  go_wp2_with (first
    | (go_at_call 21; refine Hid.out ?_))
  refine Hid.mk_ ((rholder_lk c hs hT hK a i now).mono ?_)
  rintro e w1 ⟨rfl, hE1⟩
  have hs1 := hs.ext hE1
  cases hh : heldF F a i now with
  | none =>
    have HR : Hid (RelR F who a i now 8 F) := by show RelR _ _ _ _ _ _ _; unfold RelR; rw [hh]; exact ⟨rfl, rfl⟩
    clear hh
    unfold lkV lk0
    dsimp only [Option.getD, Option.isSome]
    go_wp2
    go_ret2
    exact ⟨⟨A, m, c, 8, F, l, rfl, hs1.ext ((Ext.refl _).alloc _), hT, HR.out, Nat.le_refl _⟩, hE1.alloc _⟩
  | some x =>
    obtain ⟨xa, xb, xc, xt⟩ := x
    unfold lkV
    dsimp only [Option.getD, Option.isSome]
    have hEa : Ext w1 (w1.alloc (Obj.cells #[.string xa, .string xb, .string xc, .int .i64 xt] 24)) := (Ext.refl _).alloc _
    by_cases hw : xc = who
    · have HR : Hid (RelR F who a i now 0 (upd F a i none)) := by show RelR _ _ _ _ _ _ _; unfold RelR; rw [hh]; exact .inl ⟨hw, rfl, rfl⟩
      have hq : (xc.toList == who.toList) = true := by rw [hw]; simp
      clear hh hw
      go_wp2_with (first
        | (go_at_call 33; refine Hid.out ?_))
      refine Hid.mk_ ((rwith_lk c (hs1.ext hEa) hm a i).mono ?_)
      rintro e w2 ⟨⟨A', m', c', rfl, ho⟩, hE2⟩
      have hlen : m' ≤ m := by
        have h1 := ho.len
        have h2 := List.length_filter_le (fun x => !keyB a i x) l
        have h3 := hs.len
        omega
      go_wp2
      go_ret2
      exact ⟨⟨A', m', c', 0, _, _, rfl, ho.sl, hT.drop a i, HR.out, hlen⟩, (hE1.trans hEa).trans hE2⟩
    · have HR : Hid (RelR F who a i now 16 F) := by show RelR _ _ _ _ _ _ _; unfold RelR; rw [hh]; exact .inr ⟨hw, rfl, rfl⟩
      have hq : (xc.toList == who.toList) = false := by rw [beq_eq_false_iff_ne]; exact fun e => hw (toList_eq_iff.1 e)
      clear hh hw
      go_wp2
      go_ret2
      exact ⟨⟨A, m, c, 16, F, l, rfl, hs1.ext hEa, hT, HR.out, Nat.le_refl _⟩, hE1.trans hEa⟩
set_option maxHeartbeats 3200000 in
theorem same_lk {B : Option Addr} {n : Nat} (c d : Nat) (hs : SlC lkC 4 w A m l) (ht : SlC lkC 4 w B n l) :
    Calls Tryd.prog 22 #[.slice A m c, .slice B n d] w fun e w' => e = .returned (.bool true) ∧ Ext w w' := by
  have hmn : m = n := by rw [hs.len, ht.len]
  subst hmn
  have HL := Lib.hid hs.len
  have hle := hs.le
  go_enter Tryd.func22, Tryd.ntmps22
  go_wp2
  go_loopw [5] (fun i wr => ∃ q : Nat, q ≤ m ∧ i = .int .i64 q ∧ Ext w wr) (fun i _ => m - (intOf i).toNat)
  case atStart => exact ⟨0, Nat.zero_le _, rfl, Ext.refl _⟩
  case round =>
    obtain ⟨q, hq, rfl, hE⟩ := hrel
    by_cases hlt : q < m
    · have hi1 : (q : Int) < (m : Int) := by omega
      have hql : q < l.length := by rw [← HL.out]; exact hlt
      obtain ⟨b, off, e0, _, hcs⟩ := (hs.ext hE).at_ hlt (by omega)
      obtain ⟨b', off', e1, _, hcs'⟩ := (ht.ext hE).at_ hlt (by omega)
      have y0 := hcs q hql 0 (by omega)
      have y1 := hcs q hql 1 (by omega)
      have y2 := hcs q hql 2 (by omega)
      have y3 := hcs q hql 3 (by omega)
      have u0 := hcs' q hql 0 (by omega)
      have u1 := hcs' q hql 1 (by omega)
      have u2 := hcs' q hql 2 (by omega)
      have u3 := hcs' q hql 3 (by omega)
      obtain ⟨x, hx⟩ : ∃ x, x = l[q] := ⟨_, rfl⟩
      simp only [← hx, lkC, List.getElem_cons_zero, List.getElem_cons_succ, ← Nat.add_assoc, Nat.add_zero] at y0 y1 y2 y3 u0 u1 u2 u3
      subst e0 e1
      clear hcs hcs' hx
      go_wp2
      go_quiet (fail)
      all_goals go_wp2
      all_goals go_roundw
      case rel => exact ⟨q + 1, by omega, by go_num, hE.drewN _⟩
      case measure => simp [intOf]; omega
    · have hi1 : ¬ (q : Int) < (m : Int) := by omega
      go_wp2
      go_ret
      exact ⟨rfl, hE⟩
end
end Go.Proofs.YthmeobjomidkoaaDoor
