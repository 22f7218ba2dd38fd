/- readFields of the reference. -/
import Derived.Test.YtngpajaghadhdaaGreatDoorBinQc
namespace Go.Proofs.YtngpajaghadhdaaGreatDoor
open Go.RowKit
set_option maxRecDepth 100000
attribute [local go_sem] ext_refl_t ext_alloc_t ext_drew_t ext_drewN_t ext_alloc2_t ext_alloc3_t ext_alloc4_t ext_alloc5_t ext_alloc6_t ext_alloc7_t ext_alloc8_t ext_alloc1d_t ext_alloc2d_t ext_alloc3d_t ext_alloc4d_t
section
variable {w : World} {g : Nat} {A : Option Addr} {m c : Nat} {bs : List UInt8} {at_ : Nat} {f : Bool}
set_option maxHeartbeats 6400000 in
theorem rreadF_any (hR : RRdr w g A m c bs at_ f) :
    Calls Tryz.prog 29 #[.pointer (some ⟨g, 0, none⟩)] w fun e w' => (∃ A' m' c', e = .returned (.slice A' m' c') ∧ OsC fdC 85 2 w' w.heap.size A' m' c' (stepF bs at_ f).1) ∧
      RRdr w' g A m c bs (stepF bs at_ f).2.1 (stepF bs at_ f).2.2 ∧ w.grownBy w' (some g) := by
  have hgl := hR.blk.lt
  have HALT := Lib.hid hR.alt
  go_enter Tryz.func29, Tryz.ntmps29
  go_wp2_with (first
    | (go_at_call 30; refine Hid.out ?_))
  refine Hid.mk_ ((refBounded_any 0 20 hR).mono ?_)
  rintro e w1 ⟨rfl, hR1, hg1⟩
  have hbd := stepB_bd bs at_ f 20
  obtain ⟨n1, p0, f0, hN⟩ : ∃ n p f', stepB 0 20 bs at_ f = (n, p, f') := ⟨_, _, _, rfl⟩
  rw [show ((20 : Nat) : Int) = 20 from rfl, hN] at hbd
  rw [hN] at hR1 ⊢
  dsimp only at hbd hR1 ⊢
  obtain ⟨n0, rfl⟩ : ∃ n0 : Nat, n1 = n0 := ⟨n1.toNat, by omega⟩
  have hn20 : n0 ≤ 20 := by omega
  have HF : Hid (stepF bs at_ f = stepFs bs p0 f0 n0) := by
    show _ = _
    unfold stepF
    rw [hN]
    show stepFs bs p0 f0 (n0 : Int).toNat = _
    rw [Int.toNat_natCast]
  clear hbd hN hR
  go_wp2
  go_loopw [3, 5, 6] (fun v i _ wr => ∃ (q : Nat) (A' : Option Addr) (m' c' : Nat) (L : List Fd) (p : Nat) (ff : Bool), q ≤ n0 ∧ i = .int .i64 q ∧ v = .slice A' m' c' ∧ Hid (stepFs bs p0 f0 q = (L, p, ff)) ∧
      OsC fdC 85 2 wr w.heap.size A' m' c' L ∧ RRdr wr g A m c bs p ff ∧ w.grownBy wr (some g)) (fun _ i _ _ => n0 - (intOf i).toNat)
  case atStart => exact ⟨0, none, 0, 0, [], p0, f0, Nat.zero_le _, rfl, rfl, rfl, OsC.nil_ fdC_len fdC_cell, hR1, hg1⟩
  case round =>
    obtain ⟨q, A', m', c', L, p, ff, hq, rfl, rfl, HP, ho, hRr, hg⟩ := hrel
    have hlen : m' ≤ 20 := by
      have h1 := (stepFs_le bs p0 f0 q).1
      rw [HP.out] at h1
      have h2 := ho.len
      dsimp only at h1
      omega
    by_cases hlt : q < n0
    · have hi1 : (q : Int) < (n0 : Int) := by omega
      go_wp2_with (first
        | (go_at_call 27; refine Hid.out ?_))
      refine Hid.mk_ ((refString_any hRr).mono ?_)
      rintro e w2 ⟨rfl, hR2, hg2⟩
      obtain ⟨s1, p1, f1, hS⟩ : ∃ s p' f', stepS bs p ff = (s, p', f') := ⟨_, _, _, rfl⟩
      rw [hS] at hR2 ⊢
      dsimp only at hR2 ⊢
      have HS := Lib.hid hS
      clear hS
      go_wp2_with (first
        | (go_at_call 27; refine Hid.out ?_))
      refine Hid.mk_ ((refString_any hR2).mono ?_)
      rintro e w3 ⟨rfl, hR3, hg3⟩
      obtain ⟨s2, p2, f2, hS⟩ : ∃ s p' f', stepS bs p1 f1 = (s, p', f') := ⟨_, _, _, rfl⟩
      rw [hS] at hR3 ⊢
      dsimp only at hR3 ⊢
      have HP2 : Hid (stepFs bs p0 f0 (q + 1) = (L ++ [(str s1, str s2)], p2, f2)) := by
        show _ = _
        unfold stepFs
        rw [HP.out]
        simp only [HS.out, hS]
      clear hS HS
      have hg03 : w.grownBy w3 (some g) := (hg.trans hg2).trans hg3
      have hgA : ob A' = none ∨ ob A' ≠ some g := by
        cases hA : ob A' with
        | none => exact .inl rfl
        | some k => exact .inr (fun e => by injection e with e; have := ho.ge k hA; omega)
      have ho3 := ho.kept (hg2.trans hg3) hgA
      have hnew : SlC fdC 2 (w3.alloc (Obj.cells #[.string (str s1), .string (str s2)] 85)) (some ⟨w3.heap.size, 0, none⟩) 1 [(str s1, str s2)] := SlC.new_ (cs := fdC) w3 [(str s1, str s2)] fdC_len (by simp) _ rfl (0, 0) 1 rfl 85
      have hEa : Ext w3 (w3.alloc (Obj.cells #[.string (str s1), .string (str s2)] 85)) := (Ext.refl _).alloc _
      have hbase := Nat.le_trans hg03.size hEa.size_le
      go_wp2_with (first
        | (at_builtin; refine Hid.out ?_))
      refine Hid.mk_ ?_
      refine appC einfo_fd rfl _ _ rfl (ho3.ext hEa) rfl hnew rfl (by omega) hbase ?_
      intro A2 m2 c2 w4 ho4 hg4 hat4
      have hg04 : w.grownBy w4 (some g) := grown_step (hg03.trans (hEa.grownBy _)) hg4 (fun k hk => .inl (ho.ge k hk))
      have hR4 : RRdr w4 g A m c bs p2 f2 := (hR3.ext hEa).kept hg4 (by rcases hgA with h | h; exact (by rw [h]; simp); exact h) (by
        cases hm : obm m A with
        | none => exact .inl rfl
        | some k => exact .inr (fun e => by have h1 := HALT.out k hm; have h2 := ho.ge k e.symm; omega))
      clear hnew hEa hg4 hat4 hR3 hR2 hg2 hg3 hgA ho3 hbase
      go_wp2
      go_roundw
      case rel => exact ⟨q + 1, A2, m2, c2, _, p2, f2, by omega, by go_num, rfl, HP2, ho4, hR4, hg04⟩
      case measure => simp [intOf]; omega
    · have hi1 : ¬ (q : Int) < (n0 : Int) := by omega
      have hqe : q = n0 := by omega
      have HFF : Hid (stepF bs at_ f = (L, p, ff)) := by show _ = _; rw [HF.out, ← hqe, HP.out]
      clear hqe HP HF
      go_wp2
      go_ret
      rw [HFF.out]
      exact ⟨⟨A', m', c', rfl, ho⟩, hRr, hg⟩
end
end Go.Proofs.YtngpajaghadhdaaGreatDoor
