/- A journal with events: written. -/
import Derived.Test.YtoghaehcmbonnaaGreatDoorJrnD
import Derived.Test.YtoghaehcmbonnaaGreatDoorJrnF
namespace Go.Proofs.YtoghaehcmbonnaaGreatDoor
open Go.RowKit
set_option maxRecDepth 100000
attribute [local go_sem] ext_refl_t ext_alloc_t ext_drew_t ext_drewN_t ext_alloc2_t ext_alloc3_t ext_alloc4_t ext_alloc5_t ext_alloc6_t ext_alloc7_t ext_alloc8_t ext_alloc1d_t ext_alloc2d_t ext_alloc3d_t ext_alloc4d_t
/-- What a journal holds beside its events. -/
structure JSt where
  es : List Int
  k : Nat
  ks : List Nat
  bs : List UInt8
def stepJ (s : JSt) (x : Ev) : JSt :=
  ⟨s.es ++ [((s.bs ++ (frameH (encE x).length ++ sealL s.k (encE x))).length : Int)], sealN s.k (encE x), s.ks ++ [s.k], s.bs ++ (frameH (encE x).length ++ sealL s.k (encE x))⟩
def startJ : JSt := ⟨[], 109270082352485, [], magicL⟩
def runJ (l : List Ev) : JSt := l.foldl stepJ startJ
theorem runJ_snoc (l : List Ev) (x : Ev) : runJ (l ++ [x]) = stepJ (runJ l) x := by unfold runJ; rw [List.foldl_append]; rfl
theorem runJ_ok (l : List Ev) (hf : ∀ x ∈ l, sumE x ≤ 2000) : (runJ l).k < 18446744073709551616 ∧ (runJ l).es.length = l.length ∧ (runJ l).ks.length = l.length ∧ 5 ≤ (runJ l).bs.length ∧ (runJ l).bs.length ≤ 5 + l.length * 2098 := by
  generalize hn : l.length = n
  induction n generalizing l with
  | zero =>
    obtain rfl := List.eq_nil_of_length_eq_zero hn
    exact ⟨by decide, rfl, rfl, by decide, by decide⟩
  | succ n ih =>
    have hne : l ≠ [] := fun e => by rw [e] at hn; cases hn
    obtain ⟨u, x, rfl⟩ : ∃ u x, l = u ++ [x] := ⟨l.dropLast, l.getLast hne, (List.dropLast_concat_getLast hne).symm⟩
    have hn2 : u.length = n := by rw [List.length_append] at hn; simp at hn; exact hn
    obtain ⟨h1, h2, h3, h4, h5⟩ := ih u (fun y hy => hf y (List.mem_append_left _ hy)) hn2
    have hx := hf x (by simp)
    have he := encE_len x
    unfold sumE at hx
    rw [runJ_snoc]
    unfold stepJ
    refine ⟨seal_lt h1 _, ?_, ?_, ?_, ?_⟩
    · simp [h2]
    · simp [h3]
    · show 5 ≤ ((runJ u).bs ++ _).length
      rw [List.length_append]
      omega
    · show ((runJ u).bs ++ (frameH (encE x).length ++ sealL (runJ u).k (encE x))).length ≤ _
      rw [List.length_append, List.length_append, frameH_length, sealL_len]
      omega
section
variable {w : World}
set_option maxHeartbeats 3200000 in
theorem written_any {A : Option Addr} {m : Nat} (c : Nat) {l : List Ev} (hs : SlC evC 8 w A m l) (hf : fewJ l = true) (hg : ∀ x ∈ l, GoodE x) (hT : PT w) :
    Calls Tryz.prog 14 #[.slice A m c] w fun e w' => ∃ j, e = .returned (.pointer (some ⟨j, 0, none⟩)) ∧ Jr w' j (fun g => w.heap.size ≤ g) l (runJ l).es (runJ l).k (runJ l).ks (runJ l).bs ∧ Ext w w' := by
  have HL := Lib.hid hs.len
  have hff : (∀ x ∈ l, sumE x ≤ 2000) ∧ l.length ≤ 20 := by
    unfold fewJ at hf
    rw [Bool.and_eq_true, decide_eq_true_iff, decide_eq_true_iff] at hf
    exact hf
  have HFF := Lib.hid hff
  have HG := Lib.hid hg
  have hm20 : m ≤ 20 := by rw [HL.out]; exact hff.2
  clear hf hff hg
  go_enter Tryz.func14, Tryz.ntmps14
  go_wp2_with (first
    | (go_at_call 20; refine Hid.out ?_))
  refine Hid.mk_ ((jnew_any).mono ?_)
  rintro e w1 ⟨rfl, hJ1, hE1⟩
  obtain ⟨j, hj⟩ : ∃ j, j = w.heap.size := ⟨_, rfl⟩
  have hJ1' : Jr w1 j (fun g => w.heap.size ≤ g) [] [] 109270082352485 [] magicL := by rw [hj]; exact hJ1
  rw [← hj]
  clear hj hJ1
  go_wp2
  go_loopw [4] (fun i wr => ∃ q : Nat, q ≤ m ∧ i = .int .i64 q ∧ Hid (Jr wr j (fun g => w.heap.size ≤ g) (l.take q) (runJ (l.take q)).es (runJ (l.take q)).k (runJ (l.take q)).ks (runJ (l.take q)).bs) ∧ Hid (Ext w wr)) (fun i _ => m - (intOf i).toNat)
  case atStart => exact ⟨0, Nat.zero_le _, rfl, hJ1', hE1⟩
  case round =>
    obtain ⟨q, hq, rfl, HJ, HE⟩ := hrel
    by_cases hlt : q < m
    · obtain ⟨bq, off, eA, hbl, hcs⟩ := (hs.ext HE.out).at_ hlt (by omega)
      subst eA
      have hlt1 : q < l.length := by rw [← HL.out]; exact hlt
      obtain ⟨x, hx⟩ : ∃ x, x = l[q] := ⟨_, rfl⟩
      have HMT : Hid (l.take (q + 1) = l.take q ++ [x]) := by show _ = _; rw [hx, List.take_succ_eq_append_getElem hlt1]
      have hxg : GoodE x := by rw [hx]; exact HG.out _ (List.getElem_mem hlt1)
      have hxf : sumE x ≤ 2000 := by rw [hx]; exact HFF.out.1 _ (List.getElem_mem hlt1)
      have hok := runJ_ok (l.take q) (fun y hy => HFF.out.1 y (List.mem_of_mem_take hy))
      have hlq : (l.take q).length = q := by rw [List.length_take]; omega
      rw [hlq] at hok
      obtain ⟨o1, o2, o3, o4, o5⟩ := hok
      have HAPP := Lib.hid (jappend_any x HJ.out o1 hxg (by unfold ShortE; unfold sumE at hxf; omega) (by have := encE_len x; unfold sumE at hxf; omega) (by omega) (by omega) (by rw [hlq]; omega) (by rw [o2]; omega) (by rw [o3]; omega) (hT.ext HE.out))
      have x0 := hcs q hlt1 0 (by omega)
      have x1 := hcs q hlt1 1 (by omega)
      have x2 := hcs q hlt1 2 (by omega)
      have x3 := hcs q hlt1 3 (by omega)
      have x4 := hcs q hlt1 4 (by omega)
      have x5 := hcs q hlt1 5 (by omega)
      have x6 := hcs q hlt1 6 (by omega)
      have x7 := hcs q hlt1 7 (by omega)
      simp only [← hx, evC, List.getElem_cons_zero, List.getElem_cons_succ, Nat.add_zero, ← Nat.add_assoc] at x0 x1 x2 x3 x4 x5 x6 x7
      have hi1 : (q : Int) < (m : Int) := by omega
      clear hcs hx o1 o2 o3 o4 o5 hlq hxg hxf
      obtain ⟨kd, who, nam, id, txt, xa, xb, xt⟩ := x
      dsimp only at x0 x1 x2 x3 x4 x5 x6 x7
      unfold evV at HAPP
      go_wp2_with (first
        | (go_at_call 18; refine Hid.out ?_))
      refine Hid.mk_ ((HAPP.out).mono ?_)
      rintro e w2 ⟨rfl, hJ2, hK2⟩
      have HJ2 : Hid (Jr w2 j (fun g => w.heap.size ≤ g) (l.take (q + 1)) (runJ (l.take (q + 1))).es (runJ (l.take (q + 1))).k (runJ (l.take (q + 1))).ks (runJ (l.take (q + 1))).bs) := by
        show Jr _ _ _ _ _ _ _ _
        rw [HMT.out, runJ_snoc]
        exact hJ2.mono fun g hg => hg.elim (fun h => h) fun h => Nat.le_trans HE.out.size_le h
      have HE2 : Hid (Ext w w2) := Below.trans HE.out (hK2.toBelow HE.out.size_le (fun _ h => h))
      clear hJ2 hK2 x0 x1 x2 x3 x4 x5 x6 x7 HAPP
      go_wp2
      go_roundw
      case rel =>
        first
        | exact ⟨q + 1, by omega, by go_num, HJ2, HE2⟩
        | (repeat apply Exists.intro
           refine ⟨?rl, ?fr⟩
           case fr => exact rfl
           case rl => exact ⟨q + 1, by omega, by go_num, HJ2, HE2⟩)
      case measure => simp [intOf]; omega
    · have hi1 : ¬ (q : Int) < (m : Int) := by omega
      have hqe : l.take q = l := List.take_of_length_le (by rw [← HL.out]; omega)
      rw [hqe] at HJ
      clear hqe
      go_wp2
      go_ret
      exact ⟨j, rfl, HJ.out, HE.out⟩
end
end Go.Proofs.YtoghaehcmbonnaaGreatDoor
