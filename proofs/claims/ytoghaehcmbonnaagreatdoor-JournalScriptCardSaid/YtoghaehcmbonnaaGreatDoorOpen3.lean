/- Open, and the reference's; equality of bytes; pairs of numbers that came in. -/
import Derived.Test.YtoghaehcmbonnaaGreatDoorDig2
import Derived.Test.YtoghaehcmbonnaaGreatDoorRead
namespace Go.Proofs.YtoghaehcmbonnaaGreatDoor
open Go.RowKit
set_option maxRecDepth 100000
theorem take_snoc3 {α : Type} (l : List α) (k : Nat) (h : k < l.length) : l.take (k + 1) = l.take k ++ [l[k]] := by
  rw [List.take_succ_eq_append_getElem h]
set_option maxHeartbeats 400000 in
theorem same3B {A B : Option Addr} {n n' : Nat} (c d : Nat) {l m : List UInt8} {w : World} (ha : SlB w A n l) (hb : SlB w B n' m) :
    Calls Tryz.prog 65 #[.slice A n c, .slice B n' d] w fun e w' => e = .returned (.bool (decide (l = m))) ∧ Ext w w' := by
  have HL1 := Lib.hid ha.len
  have HL2 := Lib.hid hb.len
  have hle := ha.le
  have hle' := hb.le
  by_cases hlen : n = n'
  · subst hlen
    go_enter Tryz.func65, Tryz.ntmps65
    go_wp2
    go_loopw [5] (fun i wr => ∃ k : Nat, k ≤ n ∧ i = .int .i64 k ∧ l.take k = m.take k ∧ Ext w wr) (fun i _ => n - (intOf i).toNat)
    case atStart => exact ⟨0, Nat.zero_le _, rfl, rfl, Ext.refl _⟩
    case round =>
      obtain ⟨k, hk, rfl, hp, hE⟩ := hrel
      have HP := Lib.hid hp; clear hp
      by_cases hlt : k < n
      · obtain ⟨b, off, rfl, _, hc⟩ := (ha.ext hE).at_ hlt
        obtain ⟨b', off', rfl, _, hc'⟩ := (hb.ext hE).at_ hlt
        have hlt1 : k < l.length := by rw [← HL1.out]; exact hlt
        have hlt2 : k < m.length := by rw [← HL2.out]; exact hlt
        have h1 := hc k hlt1
        have h2 := hc' k hlt2
        have hi1 : (k : Int) < (n : Int) := by omega
        clear hc hc'
        by_cases heq : l[k] = m[k]
        · have hbq : (((l[k].toNat : Nat) : Int) != ((m[k].toNat : Nat) : Int)) = false := by simp [heq]
          have Heq := Lib.hid heq; clear heq
          go_wp2
          go_quiet (fail)
          go_wp2
          go_roundw
          case rel => exact ⟨k + 1, by omega, by go_num, by rw [take_snoc3 _ _ hlt1, take_snoc3 _ _ hlt2, HP.out, Heq.out], Ext.drewN hE _⟩
          case measure => simp [intOf]; omega
        · have hbq : (((l[k].toNat : Nat) : Int) != ((m[k].toNat : Nat) : Int)) = true := by
            simp only [bne_iff_ne, ne_eq]
            intro hh
            exact heq (UInt8.toNat_inj.1 (by omega))
          have hfin : decide (l = m) = false := by
            simp only [decide_eq_false_iff_not]
            rintro rfl
            exact heq rfl
          have Hf := Lib.hid hfin; clear hfin heq
          go_wp2
          go_quiet (fail)
          go_wp2
          go_ret
          exact ⟨by rw [Hf.out]; rfl, Ext.drewN hE _⟩
      · have hfin : decide (l = m) = true := by
          simp only [decide_eq_true_eq]
          have := HP.out
          rwa [List.take_of_length_le (by rw [← HL1.out]; omega), List.take_of_length_le (by rw [← HL2.out]; omega)] at this
        have Hf := Lib.hid hfin; clear hfin
        go_wp2
        go_ret
        exact ⟨by rw [Hf.out]; rfl, hE⟩
  · have hne : ((n : Int) != (n' : Int)) = true := by simp only [bne_iff_ne, ne_eq]; omega
    have hfin : decide (l = m) = false := by
      simp only [decide_eq_false_iff_not]
      rintro rfl
      exact hlen (HL1.out.trans HL2.out.symm)
    have Hf := Lib.hid hfin; clear hfin
    go_enter Tryz.func65, Tryz.ntmps65
    go_wp2
    go_ret
    exact ⟨by rw [Hf.out]; rfl, Ext.refl _⟩

/-- What Open gives. -/
def openR (h : Nat) (s : List UInt8) : List UInt8 × Nat :=
  if s.length < 8 then ([], 4) else if s.drop (s.length - 8) = eightL (sealN h (s.take (s.length - 8))) then (s.take (s.length - 8), 0) else ([], 5)
section
variable {w : World} {A : Option Addr} {m : Nat} {s : List UInt8}
set_option maxHeartbeats 3200000 in
theorem open_any (h c : Nat) (hh : h < 18446744073709551616) (hs : SlB w A m s) (hmc : m ≤ c) (hm : m ≤ 140737488351232) :
    Calls Tryz.prog 37 #[.int .u64 h, .slice A m c] w fun e w' => ∃ A2 m2 c2, e = .returned (.tuple #[.slice A2 m2 c2, .int .i64 ((openR h s).2 : Nat)]) ∧ SlB w' A2 m2 (openR h s).1 ∧ Ext w w' := by
  have HL := Lib.hid hs.len
  by_cases h8 : m < 8
  · have h8' : (m : Int) < 8 := by omega
    have hr : openR h s = ([], 4) := by unfold openR; rw [if_pos (by rw [← HL.out]; exact h8)]
    have HR := Lib.hid hr
    clear hr
    go_enter Tryz.func37, Tryz.ntmps37
    go_wp2
    go_ret2
    exact ⟨none, 0, 0, by rw [HR.out]; rfl, by rw [HR.out]; exact SlB.nil_, Ext.refl _⟩
  · obtain ⟨n, rfl⟩ : ∃ n, m = n + 8 := ⟨m - 8, by omega⟩
    obtain ⟨A1, _, _, hc1, hs1, hb1⟩ := cut_run hs (i := 0) (j := n) (by omega) (by omega) hmc
    obtain ⟨A2, _, hc2, _, hs2, hb2⟩ := cut_run hs (i := n) (j := n + 8) (by omega) (by omega) hmc
    have hcut1 := fun W => (hc1 W .i64 n rfl rfl)
    have hcut2 := fun W => (hc2 W .i64 n rfl rfl)
    have e1 : (List.drop 0 (s.take n)) = s.take n := rfl
    have e2 : List.drop n (s.take (n + 8)) = s.drop n := by rw [List.take_of_length_le (by rw [← HL.out]; omega)]
    rw [e1, Nat.sub_zero] at hs1
    rw [e2, show n + 8 - n = 8 by omega] at hs2
    simp only [Nat.sub_zero, show n + 8 - n = 8 by omega] at hcut1 hcut2
    clear hc1 hc2 e1 e2
    have hd : Ext w w.drew := (Ext.refl w).drew
    have hdd : Ext w w.drew.drew := (Ext.refl w).drew.drew
    have hs1d := hs1.ext hd
    have hs1dd := hs1.ext hdd
    obtain ⟨p, hp⟩ : ∃ p, p = str (eightL (sealN h (s.take n))) := ⟨_, rfl⟩
    obtain ⟨r, hr⟩ : ∃ r, r = str (s.drop n) := ⟨_, rfl⟩
    have hcv : ∀ W, Ext w W → (convert 22 9 (.slice A2 8 (c - n))).run Tryz.prog W = .ok (.string r) W := fun W hE => by rw [hr]; exact conv_str (hs2.ext hE) _
    have HP := Lib.hid hp.symm
    have hpr : p = r ↔ s.drop n = eightL (sealN h (s.take n)) := by
      rw [hp, hr]
      exact ⟨fun e => by have := congrArg bys e; rw [bys_str, bys_str] at this; exact this.symm, fun e => by rw [e]⟩
    have HPR := Lib.hid hpr
    have hor : openR h s = if s.drop n = eightL (sealN h (s.take n)) then (s.take n, 0) else ([], 5) := by
      unfold openR
      rw [if_neg (by rw [← HL.out]; omega), show s.length - 8 = n by rw [← HL.out]; omega]
    have HOR := Lib.hid hor
    clear hp hr hpr hor h8
    have hi8 : ¬ ((n : Int) < 0) := by omega
    by_cases hpr : p = r
    · have HSS := Lib.hid (HPR.out.1 hpr)
      subst hpr
      go_enter Tryz.func37, Tryz.ntmps37
      go_wp2
      first
      | (go_region_law (first
          | (go_simp; go_at_call 57; refine (sealed_any h _ hh hs1d).mono ?_; rintro e w2 ⟨rfl, hE2⟩; have hE2w := hd.trans hE2)
          | (go_simp; go_at_call 57; refine (sealed_any h _ hh hs1dd).mono ?_; rintro e w2 ⟨rfl, hE2⟩; have hE2w := hdd.trans hE2)
          | (go_simp; go_at_call 56; refine (eight_any _ (seal_lt hh _)).mono ?_; rintro e w3 ⟨A3, c3, rfl, hs3, hE3⟩; have hE3w := hE2w.trans hE3; have hcv3 := conv_str hs3 c3; rw [HP.out] at hcv3)
          | fail))
      | fail
      all_goals
        go_wp2_with (first
          | (at_builtin; refine Hid.out ?_))
        refine Hid.mk_ ?_
        refine appB rfl _ _ rfl (OsB.new_ w3 w3.heap.size (Nat.le_refl _) [] (by simp) _ rfl 0 rfl) rfl (hs1.ext (hE3w.trans ((Ext.refl _).alloc _))) rfl (by omega) (by simp) ?_
        intro A4 m4 c4 w4 ho4 hg4 hat4
        have hE4 : Ext w3 w4 := ((Ext.refl w3).alloc _).grown hg4 (by intro k hk; simp [ob] at hk; omega)
        have hor2 : openR h s = (s.take n, 0) := by rw [HOR.out, if_pos HSS.out]
        have HO2 := Lib.hid hor2
        clear hor2
        go_wp2
        go_ret2
        exact ⟨A4, m4, c4, by rw [HO2.out]; rfl, by rw [HO2.out]; exact ho4.sl, hE3w.trans hE4⟩
    · have hpt : ¬ p.toList = r.toList := fun e => hpr (bys_inj (by rw [ByteArray.toList_eq, ByteArray.toList_eq] at e; exact e))
      have hpb : (p.toList == r.toList) = false := beq_eq_false_iff_ne.2 hpt
      have HNE := Lib.hid hpr
      clear hpr hpt
      go_enter Tryz.func37, Tryz.ntmps37
      go_wp2
      first
      | (go_region_law (first
          | (go_simp; go_at_call 57; refine (sealed_any h _ hh hs1d).mono ?_; rintro e w2 ⟨rfl, hE2⟩; have hE2w := hd.trans hE2)
          | (go_simp; go_at_call 57; refine (sealed_any h _ hh hs1dd).mono ?_; rintro e w2 ⟨rfl, hE2⟩; have hE2w := hdd.trans hE2)
          | (go_simp; go_at_call 56; refine (eight_any _ (seal_lt hh _)).mono ?_; rintro e w3 ⟨A3, c3, rfl, hs3, hE3⟩; have hE3w := hE2w.trans hE3; have hcv3 := conv_str hs3 c3; rw [HP.out] at hcv3)
          | fail))
      | fail
      all_goals
        have hor2 : openR h s = ([], 5) := by rw [HOR.out, if_neg (fun e => HNE.out (HPR.out.2 e))]
        have HO2 := Lib.hid hor2
        clear hor2
        go_wp2
        go_ret2
        exact ⟨none, 0, 0, by rw [HO2.out]; rfl, by rw [HO2.out]; exact SlB.nil_, hE3w⟩
set_option maxHeartbeats 3200000 in
theorem refOpen_any (h c : Nat) (hh : h < 18446744073709551616) (hs : SlB w A m s) (hmc : m ≤ c) (hm : m ≤ 140737488351232) :
    Calls Tryz.prog 44 #[.int .u64 h, .slice A m c] w fun e w' => ∃ A2 m2 c2, e = .returned (.tuple #[.slice A2 m2 c2, .int .i64 ((openR h s).2 : Nat)]) ∧ SlB w' A2 m2 (openR h s).1 ∧ Ext w w' := by
  have HL := Lib.hid hs.len
  by_cases h8 : m < 8
  · have h8' : (m : Int) < 8 := by omega
    have hr : openR h s = ([], 4) := by unfold openR; rw [if_pos (by rw [← HL.out]; exact h8)]
    have HR := Lib.hid hr
    clear hr
    go_enter Tryz.func44, Tryz.ntmps44
    go_wp2
    go_ret2
    exact ⟨none, 0, 0, by rw [HR.out]; rfl, by rw [HR.out]; exact SlB.nil_, Ext.refl _⟩
  · obtain ⟨n, rfl⟩ : ∃ n, m = n + 8 := ⟨m - 8, by omega⟩
    obtain ⟨A1, _, _, hc1, hs1, hb1⟩ := cut_run hs (i := 0) (j := n) (by omega) (by omega) hmc
    have hcut1 := fun W => (hc1 W .i64 n rfl rfl)
    have e1 : (List.drop 0 (s.take n)) = s.take n := rfl
    rw [e1, Nat.sub_zero] at hs1
    simp only [Nat.sub_zero] at hcut1
    have hi8 : ¬ ((n : Int) < 0) := by omega
    have hsl : sealL h (s.take n) = s ↔ s.drop n = eightL (sealN h (s.take n)) := by
      unfold sealL
      constructor
      · intro e
        conv => lhs; rw [← e]
        rw [List.drop_left' (by rw [List.length_take, ← HL.out]; omega)]
      · intro e
        rw [← e, List.take_append_drop]
    have hor : openR h s = if sealL h (s.take n) = s then (s.take n, 0) else ([], 5) := by
      unfold openR
      rw [if_neg (by rw [← HL.out]; omega), show s.length - 8 = n by rw [← HL.out]; omega]
      by_cases e : s.drop n = eightL (sealN h (s.take n))
      · rw [if_pos e, if_pos (hsl.2 e)]
      · rw [if_neg e, if_neg (fun e2 => e (hsl.1 e2))]
    have HOR := Lib.hid hor
    clear hc1 e1 h8 hsl hor
    go_enter Tryz.func44, Tryz.ntmps44
    go_wp2_with (first
      | (go_at_call 49; refine Hid.out ?_))
    refine Hid.mk_ ((refSealS_any h _ hh hs1 (by omega)).mono ?_)
    rintro e w1 ⟨A2, m2, c2, rfl, ho2, hE1⟩
    go_wp2_with (first
      | (go_at_call 65; refine Hid.out ?_))
    refine Hid.mk_ ((same3B _ _ ho2.sl (hs.ext hE1)).mono ?_)
    rintro e w2 ⟨rfl, hE2⟩
    have hE12 := hE1.trans hE2
    by_cases heq : sealL h (s.take n) = s
    · rw [decide_eq_true heq]
      have hor2 : openR h s = (s.take n, 0) := by rw [HOR.out, if_pos heq]
      have HO2 := Lib.hid hor2
      clear hor2 heq
      go_wp2_with (first
        | (at_builtin; refine Hid.out ?_))
      refine Hid.mk_ ?_
      refine appB rfl _ _ rfl (OsB.new_ w2 w2.heap.size (Nat.le_refl _) [] (by simp) _ rfl 0 rfl) rfl (hs1.ext (hE12.trans ((Ext.refl _).alloc _))) rfl (by omega) (by simp) ?_
      intro A4 m4 c4 w4 ho4 hg4 hat4
      have hE4 : Ext w2 w4 := ((Ext.refl w2).alloc _).grown hg4 (by intro k hk; simp [ob] at hk; omega)
      go_wp2
      go_ret2
      exact ⟨A4, m4, c4, by rw [HO2.out]; rfl, by rw [HO2.out]; exact ho4.sl, hE12.trans hE4⟩
    · rw [decide_eq_false heq]
      have hor2 : openR h s = ([], 5) := by rw [HOR.out, if_neg heq]
      have HO2 := Lib.hid hor2
      clear hor2 heq
      go_wp2
      go_ret2
      exact ⟨none, 0, 0, by rw [HO2.out]; rfl, by rw [HO2.out]; exact SlB.nil_, hE12⟩
end
end Go.Proofs.YtoghaehcmbonnaaGreatDoor
