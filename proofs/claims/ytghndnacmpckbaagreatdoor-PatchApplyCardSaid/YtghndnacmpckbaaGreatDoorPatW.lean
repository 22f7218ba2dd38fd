/- Make of the program. -/
import Derived.Test.YtghndnacmpckbaaGreatDoorPatM
import Derived.Test.YtghndnacmpckbaaGreatDoorPatCard
import Derived.Deep.CutBlock
namespace Go.Proofs.YtghndnacmpckbaaGreatDoor
open Go.RowKit
set_option maxRecDepth 100000
attribute [local go_sem] ext_refl_t ext_alloc_t ext_drew_t ext_drewN_t ext_alloc2_t ext_alloc3_t ext_alloc4_t ext_alloc5_t ext_alloc6_t ext_alloc7_t ext_alloc8_t ext_alloc1d_t ext_alloc2d_t ext_alloc3d_t ext_alloc4d_t
/-- A writer in memory: what it has written, and how many operations these are. -/
structure WrS (w : World) (g : Nat) (A : Option Addr) (m c n : Nat) (l : List UInt8) : Prop where
  blk : Blk w g 55 #[.slice A m c, .int .i64 n]
  sl : SlB w A m l
  ne : ob A = none ∨ ob A ≠ some g
section
variable {w w' : World} {g : Nat} {A B : Option Addr} {m c n m' c' n' : Nat} {l k : List UInt8}
theorem grown_setW (w : World) (p : Addr) (u : Value) : w.grownBy (w.setCell p u) (some p.block) :=
  ⟨rfl, rfl, rfl, by simp [World.setCell], fun k _ hk => Below.heap_setCell w p u k (fun e => hk (by rw [e]))⟩
theorem ob_ne_of_lt {b : Nat} (h : ∀ k, ob A = some k → b ≤ k) (hg : g < b) : ob A = none ∨ ob A ≠ some g := by
  cases hA : ob A with
  | none => exact .inl rfl
  | some k => exact .inr (fun e => by injection e with e; have := h k hA; omega)
/-- The writer is written anew. -/
theorem WrS.put {b : Nat} (h : WrS w g A m c n l) (hE : Ext w w') (hs : OsB w' b B m' c' k) (hb : w.heap.size ≤ b) (n' : Nat) :
    WrS ((w'.setCell ⟨g, 0, none⟩ (.slice B m' c')).setCell ⟨g, 1, none⟩ (.int .i64 n')) g B m' c' n' k := by
  have hlt := h.blk.lt
  have hne : ob B = none ∨ ob B ≠ some g := ob_ne_of_lt hs.ge (by omega)
  exact ⟨((h.blk.below hE hlt).set_ 0 _).set_ 1 _, (hs.sl.kept (grown_setW w' ⟨g, 0, none⟩ _) hne).kept (grown_setW _ ⟨g, 1, none⟩ _) hne, hne⟩
theorem grown_put (hE : Ext w w') (g : Nat) (u v : Value) : w.grownBy ((w'.setCell ⟨g, 0, none⟩ u).setCell ⟨g, 1, none⟩ v) (some g) :=
  (hE.grownBy _).trans ((grown_setW w' ⟨g, 0, none⟩ u).trans (grown_setW _ ⟨g, 1, none⟩ v))
theorem opE_pos {n e : Nat} (h : 0 < e) : opE n e = [.cp (n : Nat) e] := by unfold opE; rw [if_pos h]
theorem opE_zero {n e : Nat} (h : ¬ 0 < e) : opE n e = [] := by unfold opE; rw [if_neg h]
set_option maxHeartbeats 1600000 in
theorem copy_any (hW : WrS w g A m c n l) (o k : Nat) (hn : n ≤ 100) (hm : m ≤ 100000000) (ho : o ≤ 100000000) (hk : k ≤ 100000000) :
    Calls Tryz.prog 23 #[.pointer (some ⟨g, 0, none⟩), .int .i64 o, .int .i64 k] w fun e w' => e = .returned (.tuple #[]) ∧
      (∃ A' m' c', WrS w' g A' m' c' (n + (opE o k).length) (l ++ (opE o k).flatMap encO)) ∧ w.grownBy w' (some g) := by
  have HL := Lib.hid hW.sl.len
  by_cases h0 : 0 < k
  · rw [opE_pos h0]
    have hi : (0 : Int) < (k : Int) := by omega
    have e0 : w.cell? ⟨g, 0, none⟩ = some (.slice A m c) := hW.blk.cell 0
    have h1 := encI_length_le 0
    have h2 := encI_length_le (o : Int)
    go_enter Tryz.func23, Tryz.ntmps23
    go_wp2_with (first
      | (go_at_call 28; refine Hid.out ?_))
    refine Hid.mk_ ((packInt c 0 hW.sl (by omega) (by omega) (by omega)).mono ?_)
    rintro e w1 ⟨A1, m1, c1, rfl, ho1, hE1⟩
    have hl1 := ho1.len
    rw [List.length_append] at hl1
    have hm1 : m1 ≤ m + 9 := by rw [HL.out]; omega
    clear e0 hl1
    go_wp2_with (first
      | (go_at_call 28; refine Hid.out ?_))
    refine Hid.mk_ ((packInt c1 (o : Int) ho1.sl (by omega) (by omega) (by omega)).mono ?_)
    rintro e w2 ⟨A2, m2, c2, rfl, ho2, hE2⟩
    have hl2 := ho2.len
    have hl1 := ho1.len
    rw [List.length_append] at hl2
    have hm2 : m2 ≤ m1 + 9 := by omega
    clear hl1 hl2
    go_wp2_with (first
      | (go_at_call 28; refine Hid.out ?_))
    refine Hid.mk_ ((packInt c2 (k : Int) ho2.sl (by omega) (by omega) (by omega)).mono ?_)
    rintro e w3 ⟨A3, m3, c3, rfl, ho3, hE3⟩
    have hE13 := (hE1.trans hE2).trans hE3
    have hb3 := hW.blk.below hE13 hW.blk.lt
    have e0 : w3.cell? ⟨g, 0, none⟩ = some (.slice A m c) := hb3.cell 0
    have e1 : w3.cell? ⟨g, 1, none⟩ = some (.int .i64 n) := hb3.cell 1
    have t0 := hb3.frozen 0
    have t1 := hb3.frozen 1
    have HP := Lib.hid (hW.put hE13 ho3 (hE1.trans hE2).size_le (n + 1))
    have HG := Lib.hid (grown_put hE13 g (.slice A3 m3 c3) (.int .i64 ((n + 1 : Nat) : Int)))
    have HEQ : Hid (l ++ [POp.cp o k].flatMap encO = l ++ encI 0 ++ encI (o : Int) ++ encI (k : Int)) := by show _ = _; simp [encO]
    clear hb3 hE13 ho1 ho2 ho3 h1 h2
    go_wp2
    go_end0
    exact ⟨rfl, ⟨A3, m3, c3, by rw [HEQ.out]; exact HP.out⟩, HG.out⟩
  · rw [opE_zero h0]
    have hi : ¬ (0 : Int) < (k : Int) := by omega
    have HP : Hid (WrS w g A m c n l) := hW
    rw [List.flatMap_nil, List.append_nil, List.length_nil, Nat.add_zero]
    go_enter Tryz.func23, Tryz.ntmps23
    go_wp2
    go_end0
    exact ⟨rfl, ⟨A, m, c, HP.out⟩, (Ext.refl w).grownBy _⟩
set_option maxHeartbeats 1600000 in
theorem insert_any (hW : WrS w g A m c n l) {k : Nat} (d : Nat) {s : List UInt8} (hs : SlB w B k s) (hn : n ≤ 100) (hm : m ≤ 100000000) (hk : k ≤ 100000000) :
    Calls Tryz.prog 24 #[.pointer (some ⟨g, 0, none⟩), .slice B k d] w fun e w' => e = .returned (.tuple #[]) ∧
      (∃ A' m' c', WrS w' g A' m' c' (n + (opI s).length) (l ++ (opI s).flatMap encO)) ∧ w.grownBy w' (some g) := by
  have HL := Lib.hid hW.sl.len
  have hsl := hs.len
  have HSL := Lib.hid hsl
  by_cases h0 : 0 < k
  · have hop : opI s = [.ins s] := by unfold opI; rw [if_pos (by omega)]
    rw [hop]
    have hi : (0 : Int) < (k : Int) := by omega
    have e0 : w.cell? ⟨g, 0, none⟩ = some (.slice A m c) := hW.blk.cell 0
    have e0' := laters e0
    have h1 := encI_length_le 1
    obtain ⟨r, hr⟩ : ∃ r, r = str s := ⟨_, rfl⟩
    have hcv : ∀ W, Ext w W → (convert 22 9 (.slice B k d)).run Tryz.prog W = .ok (.string r) W := fun W hE => by rw [hr]; exact conv_str (hs.ext hE) _
    have hrs : r.size = k := by rw [hr, str_size]; exact hsl.symm
    have hrb : bys r = s := by rw [hr, bys_str]
    have HRB := Lib.hid hrb
    have hEd : Ext w w.drew := (Ext.refl w).drew
    have HINT : Hid (∀ W, Ext w W → Calls Tryz.prog 28 #[.slice A m c, .int .i64 1] W fun e w' => ∃ A' m' c', e = .returned (.slice A' m' c') ∧ OsB w' W.heap.size A' m' c' (l ++ encI 1) ∧ Ext W w') := fun W hE => packInt c 1 (hW.sl.ext hE) (by omega) (by omega) (by omega)
    have HSZ : Hid (∀ A' m' c' W b, OsB W b A' m' c' (l ++ encI 1) → m' + r.size ≤ 140737488355000) := fun A' m' c' W b ho => by
      have h2 := ho.len
      rw [List.length_append] at h2
      have h3 := HL.out
      omega
    clear hr hrb hsl h1 hrs
    go_enter Tryz.func24, Tryz.ntmps24
    go_wp2
    go_region_law
      (first
        | (go_simp
           go_at_call 26
           (with_reducible refine (packStr c1 r ho1.sl (HSZ.out _ _ _ _ _ ho1)).mono ?_)
           rintro e w2 ⟨A2, m2, c2, rfl, ho2, hE2⟩
           have hE02 := hE01.trans hE2
           have hb2 := hW.blk.below hE02 hW.blk.lt
           have f0 : w2.cell? ⟨g, 0, none⟩ = some (.slice A m c) := hb2.cell 0
           have t0 := hb2.frozen 0)
        | (go_simp
           go_at_call 28
           (with_reducible refine (HINT.out _ hEd).mono ?_)
           rintro e w1 ⟨A1, m1, c1, rfl, ho1, hE1⟩
           have hE01 : Ext w w1 := hEd.trans hE1)
        | fail)
    all_goals
      have HP := Lib.hid (hW.put hE02 ho2 hE01.size_le (n + 1))
      have HG := Lib.hid (grown_put hE02 g (.slice A2 m2 c2) (.int .i64 ((n + 1 : Nat) : Int)))
      have HEQ : Hid (l ++ [POp.ins s].flatMap encO = l ++ encI 1 ++ encS (bys r)) := by show _ = _; rw [HRB.out]; simp [encO]
      have f1 : w2.cell? ⟨g, 1, none⟩ = some (.int .i64 n) := hb2.cell 1
      have t1 := hb2.frozen 1
      clear hb2 ho1 ho2
      go_wp2
      go_end0
      exact ⟨rfl, ⟨A2, m2, c2, by rw [HEQ.out]; exact HP.out⟩, HG.out⟩
  · have hop : opI s = [] := by unfold opI; rw [if_neg (by omega)]
    rw [hop]
    have hi : ¬ (0 : Int) < (k : Int) := by omega
    have HP : Hid (WrS w g A m c n l) := hW
    rw [List.flatMap_nil, List.append_nil, List.length_nil, Nat.add_zero]
    go_enter Tryz.func24, Tryz.ntmps24
    go_wp2
    go_end0
    exact ⟨rfl, ⟨A, m, c, HP.out⟩, (Ext.refl w).grownBy _⟩
set_option maxHeartbeats 1600000 in
theorem side_any (c d : Nat) {k : Nat} {x : List UInt8} (hs : SlB w A m l) (hx : SlB w B k x) (hm : m ≤ 100000000) (hk : k ≤ 100000000) (hT : TZ w) :
    Calls Tryz.prog 25 #[.slice A m c, .slice B k d] w fun e w' => ∃ A' m' c', e = .returned (.slice A' m' c') ∧ OsB w' w.heap.size A' m' c' (l ++ encI x.length ++ encS (lowH (sumN x) 16)) ∧ Ext w w' := by
  have HL := Lib.hid hs.len
  have HX := Lib.hid hx.len
  have h1 := encI_length_le (k : Int)
  go_enter Tryz.func25, Tryz.ntmps25
  go_wp2_with (first
    | (go_at_call 28; refine Hid.out ?_))
  refine Hid.mk_ ((packInt c (k : Int) hs (by omega) (by omega) (by omega)).mono ?_)
  rintro e w1 ⟨A1, m1, c1, rfl, ho1, hE1⟩
  have hl1 := ho1.len
  rw [List.length_append] at hl1
  have hm1 : m1 ≤ m + 9 := by rw [HL.out]; omega
  clear hl1
  go_wp2_with (first
    | (go_at_call 18; refine Hid.out ?_))
  refine Hid.mk_ ((sum_any d (hx.ext hE1)).mono ?_)
  rintro e w2 ⟨rfl, hE2⟩
  have hE12 := hE1.trans hE2
  go_wp2_with (first
    | (go_at_call 43; refine Hid.out ?_))
  refine Hid.mk_ ((dtext_any (sealN dStart x) (seal_lt (by decide) x) (hT.ext hE12)).mono ?_)
  rintro e w3 ⟨rfl, hE3⟩
  have hh16 : (hexT (sealN dStart x)).size = 16 := by unfold hexT; rw [str_size, lowH_len]
  go_wp2_with (first
    | (go_at_call 26; refine Hid.out ?_))
  refine Hid.mk_ ((packStr c1 (hexT (sealN dStart x)) (ho1.sl.ext (hE2.trans hE3)) (by omega)).mono ?_)
  rintro e w4 ⟨A4, m4, c4, rfl, ho4, hE4⟩
  have hE13 := hE12.trans hE3
  go_wp2
  go_ret
  refine ⟨A4, m4, c4, rfl, ?_, hE13.trans hE4⟩
  have h2 : l ++ encI x.length ++ encS (lowH (sumN x) 16) = l ++ encI (k : Int) ++ encS (bys (hexT (sealN dStart x))) := by
    rw [← HX.out]
    show _ = l ++ encI (k : Int) ++ encS (bys (str (lowH (sealN dStart x) 16)))
    rw [bys_str]
    rfl
  rw [h2]
  exact ho4.mono hE13.size_le
theorem seal_key (c : Nat) (hs : SlB w A m l) (hm : m ≤ 140737488351232) :
    Calls Tryz.prog 27 #[.int .u64 482671354728, .slice A m c] w fun e w' => ∃ A2 m2 c2, e = .returned (.slice A2 m2 c2) ∧ OsB w' w.heap.size A2 m2 c2 (sealL pkey l) ∧ Ext w w' := seal_any pkey c (by decide) hs hm
theorem open_key (c : Nat) (hs : SlB w A m l) (hmc : m ≤ c) (hm : m ≤ 140737488351232) :
    Calls Tryz.prog 32 #[.int .u64 482671354728, .slice A m c] w fun e w' => ∃ A2 m2 c2, e = .returned (.tuple #[.slice A2 m2 c2, .int .i64 ((openR pkey l).2 : Nat)]) ∧ SlB w' A2 m2 (openR pkey l).1 ∧ Ext w w' := open_any pkey c (by decide) hs hmc hm
theorem refOpen_key (c : Nat) (hs : SlB w A m l) (hmc : m ≤ c) (hm : m ≤ 140737488351232) :
    Calls Tryz.prog 39 #[.int .u64 482671354728, .slice A m c] w fun e w' => ∃ A2 m2 c2, e = .returned (.tuple #[.slice A2 m2 c2, .int .i64 ((openR pkey l).2 : Nat)]) ∧ SlB w' A2 m2 (openR pkey l).1 ∧ Ext w w' := refOpen_any pkey c (by decide) hs hmc hm
theorem refSeal_key (c : Nat) (hs : SlB w A m l) (hm : m ≤ 140737488351232) :
    Calls Tryz.prog 7 #[.int .u64 482671354728, .slice A m c] w fun e w' => ∃ A2 m2 c2, e = .returned (.slice A2 m2 c2) ∧ OsB w' w.heap.size A2 m2 c2 (sealL pkey l) ∧ Ext w w' := refSealS_any pkey c (by decide) hs hm
theorem opB_eq (b : Nat) : opE 0 b = opB b := rfl
set_option maxHeartbeats 3200000 in
theorem make_any {k : Nat} (c d : Nat) {x y : List UInt8} (ha : SlB w A m x) (hb : SlB w B k y) (_hmc : m ≤ c) (hkd : k ≤ d) (hm : m ≤ 1000000) (hk : k ≤ 1000000) (hT : TZ w) :
    Calls Tryz.prog 13 #[.slice A m c, .slice B k d] w fun e w' => (∃ A' m' c' b e', e = .returned (.tuple #[.slice A' m' c', .int .i64 0]) ∧ OsB w' w.heap.size A' m' c' (sealL pkey (encP (mkC x y b e'))) ∧ MkR x y b e') ∧ Ext w w' := by
  have HX := Lib.hid ha.len
  have HY := Lib.hid hb.len
  have hi1 : ¬ (1000000 : Int) < (m : Int) := by omega
  have hi2 : ¬ (1000000 : Int) < (k : Int) := by omega
  go_enter Tryz.func13, Tryz.ntmps13
  obtain ⟨L, hL⟩ : ∃ L : Nat, L = min m k := ⟨_, rfl⟩
  have hLm : L ≤ m := by rw [hL]; exact Nat.min_le_left _ _
  have hLk : L ≤ k := by rw [hL]; exact Nat.min_le_right _ _
  have HLE : Hid (L = m ∨ L = k) := by show _ ∨ _; omega
  have HMN : Hid (min (m : Int) (k : Int) = (L : Int)) := by show _ = _; omega
  clear hL
  have hE00 : Ext w w := Ext.refl w
  go_upto_block 0 with fail
  rw [HMN.out]
  go_cut [7] (fun s7 wx => ∃ b : Nat, s7 = .int .i64 b ∧ b ≤ L ∧ Hid (x.take b = y.take b) ∧ Hid (∀ (h : b < x.length) (h' : b < y.length), x[b] ≠ y[b]) ∧ Ext w wx)
  case first =>
    go_wp2_with fail
    go_loopw [7] (fun i wr => ∃ b : Nat, b ≤ L ∧ i = .int .i64 b ∧ Hid (x.take b = y.take b) ∧ Ext w wr) (fun i _ => L - (intOf i).toNat)
    case atStart => exact ⟨0, Nat.zero_le _, rfl, rfl, Ext.refl _⟩
    case round =>
      obtain ⟨b, hbL, rfl, HP, hE⟩ := hrel
      by_cases hlt : b < L
      · obtain ⟨a1, o1, rfl, _, hc1⟩ := (ha.ext hE).at_ (show b < m by omega)
        obtain ⟨a2, o2, rfl, _, hc2⟩ := (hb.ext hE).at_ (show b < k by omega)
        have hl1 : b < x.length := by rw [← HX.out]; omega
        have hl2 : b < y.length := by rw [← HY.out]; omega
        have h1 := hc1 b hl1
        have h2 := hc2 b hl2
        have hi1 : (b : Int) < (L : Int) := by omega
        have hg1 : decide ((b : Int) < (L : Int)) = true := decide_eq_true hi1
        have hg2 : decide (b < L) = true := decide_eq_true hlt
        have hi2 : (b : Int) < (m : Int) := by omega
        have hi3 : (b : Int) < (k : Int) := by omega
        clear hc1 hc2
        by_cases heq : x[b] = y[b]
        · have hbq : (((x[b].toNat : Nat) : Int) == ((y[b].toNat : Nat) : Int)) = true := by simp [heq]
          have Heq := Lib.hid heq; clear heq
          go_wp2
          go_quiet (fail)
          go_wp2_with fail
          go_roundw
          case rel => exact ⟨b + 1, by omega, by go_num, by show _ = _; rw [take_snoc3 _ _ hl1, take_snoc3 _ _ hl2, HP.out, Heq.out], Ext.drewN hE _⟩
          case measure => simp [intOf]; omega
        · have hbq : (((x[b].toNat : Nat) : Int) == ((y[b].toNat : Nat) : Int)) = false := by
            rw [beq_eq_false_iff_ne]
            intro hh
            exact heq (UInt8.toNat_inj.1 (by omega))
          have HF : Hid (∀ (h : b < x.length) (h' : b < y.length), x[b] ≠ y[b]) := fun _ _ => heq
          clear heq
          go_wp2
          go_quiet (fail)
          go_wp2_with fail
          go_meet
          exact ⟨b, rfl, hbL, HP, HF, Ext.drewN hE _⟩
      · have hg1 : decide ((b : Int) < (L : Int)) = false := decide_eq_false (by omega)
        have hg2 : decide (b < L) = false := decide_eq_false hlt
        have HF : Hid (∀ (h : b < x.length) (h' : b < y.length), x[b] ≠ y[b]) := fun h h' => by
          have h1 := HX.out
          have h2 := HY.out
          have h3 := HLE.out
          omega
        go_wp2
        go_quiet (fail)
        go_wp2_with fail
        go_meet
        exact ⟨b, rfl, hbL, HP, HF, Ext.drewN hE _⟩
  case rest =>
    obtain ⟨b, rfl, hbL, HPRE, HBM, hEc⟩ := hcut
    obtain ⟨R, hR⟩ : ∃ R : Nat, R = L - b := ⟨_, rfl⟩
    have HR : Hid (R + b = L) := by show _ = _; omega
    have HRI : Hid ((L : Int) - (b : Int) = (R : Int)) := by show _ = _; omega
    clear hR
    go_upto_block 2 with fail
    go_cut [8] (fun s8 wx => ∃ e : Nat, s8 = .int .i64 e ∧ e ≤ R ∧ Hid (x.drop (x.length - e) = y.drop (y.length - e)) ∧ Hid (∀ (_ : b + e < x.length) (_ : b + e < y.length), x[x.length - 1 - e]? ≠ y[y.length - 1 - e]?) ∧ Ext w wx)
    case first =>
      go_wp2_with fail
      go_loopw [8] (fun i wr => ∃ e : Nat, e ≤ R ∧ i = .int .i64 e ∧ Hid (x.drop (x.length - e) = y.drop (y.length - e)) ∧ Ext w wr) (fun i _ => R - (intOf i).toNat)
      case atStart => exact ⟨0, Nat.zero_le _, rfl, by show _ = _; simp, hEc⟩
      case round =>
        obtain ⟨e, heR, rfl, HP, hE⟩ := hrel
        by_cases hlt : e < R
        · obtain ⟨a1, o1, rfl, _, hc1⟩ := (ha.ext hE).at_ (show 0 < m by have := HR.out; omega)
          obtain ⟨a2, o2, rfl, _, hc2⟩ := (hb.ext hE).at_ (show 0 < k by have := HR.out; omega)
          obtain ⟨p1, hp1⟩ : ∃ p : Nat, p = m - 1 - e := ⟨_, rfl⟩
          obtain ⟨p2, hp2⟩ : ∃ p : Nat, p = k - 1 - e := ⟨_, rfl⟩
          have hq1 : p1 + 1 + e = m := by have := HR.out; omega
          have hq2 : p2 + 1 + e = k := by have := HR.out; omega
          clear hp1 hp2
          have hl1 : p1 < x.length := by rw [← HX.out]; omega
          have hl2 : p2 < y.length := by rw [← HY.out]; omega
          have h1 := hc1 p1 hl1
          have h2 := hc2 p2 hl2
          have hj1 : (m : Int) - 1 - (e : Int) = (p1 : Int) := by omega
          have hj2 : (k : Int) - 1 - (e : Int) = (p2 : Int) := by omega
          have hri := HRI.out
          have hi1 : (e : Int) < (R : Int) := by omega
          have hg1 : decide ((e : Int) < (R : Int)) = true := decide_eq_true hi1
          have hg2 : decide (e < R) = true := decide_eq_true hlt
          have hi2 : (p1 : Int) < (m : Int) := by omega
          have hi3 : (p2 : Int) < (k : Int) := by omega
          have HQ1 := Lib.hid hq1
          have HQ2 := Lib.hid hq2
          clear hc1 hc2 hq1 hq2
          have HD1 : Hid (x.drop (x.length - (e + 1)) = x[p1] :: x.drop (x.length - e)) := by
            show _ = _
            have h3 := HX.out
            have h4 := HQ1.out
            rw [show x.length - (e + 1) = p1 by omega, List.drop_eq_getElem_cons hl1, show x.length - e = p1 + 1 by omega]
          have HD2 : Hid (y.drop (y.length - (e + 1)) = y[p2] :: y.drop (y.length - e)) := by
            show _ = _
            have h3 := HY.out
            have h4 := HQ2.out
            rw [show y.length - (e + 1) = p2 by omega, List.drop_eq_getElem_cons hl2, show y.length - e = p2 + 1 by omega]
          by_cases heq : x[p1] = y[p2]
          · have hbq : (((x[p1].toNat : Nat) : Int) == ((y[p2].toNat : Nat) : Int)) = true := by simp [heq]
            have Heq := Lib.hid heq; clear heq
            go_wp2
            go_quiet (fail)
            go_wp2_with fail
            go_roundw
            case rel => exact ⟨e + 1, by omega, by go_num, by show _ = _; rw [HD1.out, HD2.out, HP.out, Heq.out], Ext.drewN hE _⟩
            case measure => simp [intOf]; omega
          · have hbq : (((x[p1].toNat : Nat) : Int) == ((y[p2].toNat : Nat) : Int)) = false := by
              rw [beq_eq_false_iff_ne]
              intro hh
              exact heq (UInt8.toNat_inj.1 (by omega))
            have HF : Hid (∀ (_ : b + e < x.length) (_ : b + e < y.length), x[x.length - 1 - e]? ≠ y[y.length - 1 - e]?) := fun _ _ => by
              have h3 := HX.out
              have h4 := HQ1.out
              have h5 := HY.out
              have h6 := HQ2.out
              rw [show x.length - 1 - e = p1 by omega, show y.length - 1 - e = p2 by omega, List.getElem?_eq_getElem hl1, List.getElem?_eq_getElem hl2]
              intro hh
              injection hh with hh
              exact heq hh
            clear heq
            go_wp2
            go_quiet (fail)
            go_wp2_with fail
            go_meet
            exact ⟨e, rfl, heR, HP, HF, Ext.drewN hE _⟩
        · have hri := HRI.out
          have hg1 : decide ((e : Int) < (R : Int)) = false := decide_eq_false (by omega)
          have hg2 : decide (e < R) = false := decide_eq_false hlt
          have HF : Hid (∀ (_ : b + e < x.length) (_ : b + e < y.length), x[x.length - 1 - e]? ≠ y[y.length - 1 - e]?) := fun h h' => by
            have h1 := HX.out
            have h2 := HY.out
            have h3 := HLE.out
            have h4 := HR.out
            omega
          go_wp2
          go_quiet (fail)
          go_wp2_with fail
          go_meet
          exact ⟨e, rfl, heR, HP, HF, Ext.drewN hE _⟩
    case rest =>
      obtain ⟨e, rfl, heR, HSUF, HEM, hEd⟩ := hcut
      have hRb := HR.out
      have hem : e ≤ m := by omega
      have hek : b + e ≤ k := by omega
      obtain ⟨wz, hwz⟩ : ∃ wz, wz = wc.alloc (Obj.cells #[.slice none 0 0, .int .i64 0] 55) := ⟨_, rfl⟩
      obtain ⟨g, hg⟩ : ∃ g, g = wc.heap.size := ⟨_, rfl⟩
      have hEz : Ext wc wz := by rw [hwz]; exact (Ext.refl wc).alloc _
      have hW0 : WrS wz g none 0 0 0 [] := by rw [hwz, hg]; exact ⟨Blk.new wc _ _, SlB.nil_, .inl rfl⟩
      have hGW : Hid (w.heap.size ≤ g) := by show _ ≤ _; rw [hg]; exact hEd.size_le
      have hMK : Hid (MkR x y b e) := by
        have h1 := HX.out
        have h2 := HY.out
        exact ⟨by omega, by omega, HPRE.out, HSUF.out, HBM.out, HEM.out⟩
      obtain ⟨A2, hx1, hx2, hx3, hsm, hobm⟩ := cut_run hb (i := b) (j := k - e) (by omega) (by omega) hkd
      have q1 : ∀ W, (Instr.sliceAt 22 (.slice B k d) (some (.int .i64 (b : Int))) (some (.int .i64 ((k : Int) - (e : Int)))) none).run Tryz.prog W = .ok (.slice A2 (k - e - b) (d - b)) W := fun W => (hx1 W .i64 .i64 _ _ rfl (by omega)).1
      have q2 : ∀ W, (Instr.slice 22 (.slice B k d) (some (.int .i64 (b : Int))) (some (.int .i64 ((k : Int) - (e : Int)))) none).run Tryz.prog W = .ok (.slice A2 (k - e - b) (d - b)) W := fun W => (hx1 W .i64 .i64 _ _ rfl (by omega)).2
      obtain ⟨mm, hmm⟩ : ∃ mm, mm = k - e - b := ⟨_, rfl⟩
      rw [← hmm] at q1 q2 hsm
      have hmm6 : mm ≤ 1000000 := by omega
      obtain ⟨mid, hmid⟩ : ∃ mid, mid = mkMid y b e := ⟨_, rfl⟩
      have hmeq : (y.take (k - e)).drop b = mid := by rw [hmid]; unfold mkMid; rw [HY.out]
      rw [hmeq] at hsm
      have HMID := Lib.hid hmid
      obtain ⟨p, hp⟩ : ∃ p, p = m - e := ⟨_, rfl⟩
      have HPM : Hid (p + e = m) := by show _ = _; omega
      have HPI : Hid ((m : Int) - (e : Int) = (p : Int)) := by show _ = _; omega
      have hp6 : p ≤ 1000000 := by omega
      clear hx1 hx2 hx3 hmm hmid hmeq hp
      go_wp2_with (first
        | (go_at_call 23; refine Hid.out ?_))
      rw [← hwz, ← hg]
      clear hwz hg
      refine Hid.mk_ ((copy_any hW0 0 b (by omega) (by omega) (by omega) (by omega)).mono ?_)
      rintro e_ w1 ⟨rfl, ⟨A4, m4, c4, hW1⟩, hg1⟩
      have hl1 := hW1.sl.len
      have hb1 := opB_enc b
      rw [List.nil_append] at hW1 hl1
      have hn1 := (show (opE 0 b).length ≤ 1 by unfold opE; split <;> simp)
      have hm4 : m4 ≤ 27 := by rw [hl1]; exact hb1
      rw [Nat.zero_add] at hW1
      have hE01 : Ext w w1 := (hEd.trans hEz).grown hg1 (fun j hj => by injection hj with hj; rw [← hj]; exact hGW.out)
      clear hl1 hb1 hg1 hW0
      go_wp2_with (first
        | (go_at_call 24; refine Hid.out ?_))
      refine Hid.mk_ ((insert_any hW1 (d - b) (hsm.ext hE01) (by omega) (by omega) (by omega)).mono ?_)
      rintro e_ w2 ⟨rfl, ⟨A5, m5, c5, hW2⟩, hg2⟩
      clear q1 q2
      have hl2 := hW2.sl.len
      have hb2 := opI_enc mid
      have hsl := hsm.len
      have hn2 := (show (opI mid).length ≤ 1 by unfold opI; split <;> simp)
      have hm5 : m5 ≤ m4 + 18 + mm := by rw [hl2, List.length_append, ← hW1.sl.len]; omega
      have hE02 : Ext w w2 := hE01.grown hg2 (fun j hj => by injection hj with hj; rw [← hj]; exact hGW.out)
      have hpi := HPI.out
      clear hl2 hb2 hsl hg2 hW1
      go_wp2_with (first
        | (go_at_call 23; refine Hid.out ?_))
      refine Hid.mk_ ((copy_any hW2 p e (by omega) (by omega) (by omega) (by omega)).mono ?_)
      rintro e_ w3 ⟨rfl, ⟨A6, m6, c6, hW3⟩, hg3⟩
      have hl3 := hW3.sl.len
      have hb3 := opE_enc p e
      have hn3 := (show (opE p e).length ≤ 1 by unfold opE; split <;> simp)
      have hm6 : m6 ≤ m5 + 27 := by rw [hl3, List.length_append, ← hW2.sl.len]; omega
      have hE03 : Ext w w3 := hE02.grown hg3 (fun j hj => by injection hj with hj; rw [← hj]; exact hGW.out)
      obtain ⟨nn, hnn⟩ : ∃ nn, nn = (opE 0 b).length + (opI mid).length + (opE p e).length := ⟨_, rfl⟩
      obtain ⟨lw, hlw⟩ : ∃ lw, lw = (opE 0 b).flatMap encO ++ (opI mid).flatMap encO ++ (opE p e).flatMap encO := ⟨_, rfl⟩
      rw [← hnn, ← hlw] at hW3
      have HP2 : Hid (x.length - e = p) := by show _ = _; have h1 := HX.out; have h2 := HPM.out; omega
      have HNN : Hid (nn = (mkOps x y b e).length) := by
        show _ = _
        unfold mkOps
        rw [hnn, List.length_append, List.length_append, ← HMID.out, opB_eq, HP2.out]
      have HLW : Hid (lw = (mkOps x y b e).flatMap encO) := by
        show _ = _
        unfold mkOps
        rw [hlw, List.flatMap_append, List.flatMap_append, ← HMID.out, opB_eq, HP2.out]
      have hn4 : nn ≤ 3 := by omega
      clear hl3 hb3 hg3 hW2 hnn hlw hpi hn1 hn2 hn3
      go_wp2_with (first
        | (go_at_call 26; refine Hid.out ?_))
      refine Hid.mk_ ((packStr 0 ⟨#[99, 97, 108, 113, 117, 101, 45, 112, 97, 116, 99, 104]⟩ (SlB.nil_ (w := w3)) (by decide)).mono ?_)
      rintro e_ w4 ⟨A7, m7, c7, rfl, ho7, hE4⟩
      have hb7 : bys (⟨#[99, 97, 108, 113, 117, 101, 45, 112, 97, 116, 99, 104]⟩ : ByteArray) = titleB := rfl
      rw [hb7, List.nil_append] at ho7
      have hm7 : m7 ≤ 21 := by
        rw [ho7.len]
        unfold encS
        rw [List.length_append]
        have h0 := encI_length_le (titleB.length : Int)
        have ht : titleB.length = 12 := rfl
        omega
      clear hb7
      have hE04 := hE03.trans hE4
      go_wp2_with (first
        | (go_at_call 25; refine Hid.out ?_))
      refine Hid.mk_ ((side_any c7 c ho7.sl (ha.ext hE04) (by omega) (by omega) (hT.ext hE04)).mono ?_)
      rintro e_ w5 ⟨A8, m8, c8, rfl, ho8, hE5⟩
      have hm8 : m8 ≤ m7 + 40 := by
        rw [ho8.len, List.length_append, List.length_append, ← ho7.len]
        unfold encS
        rw [List.length_append]
        have h0 := encI_length_le (x.length : Int)
        have h1 := encI_length_le (((lowH (sumN x) 16).length : Nat) : Int)
        have h2 := lowH_len (sumN x) 16
        omega
      have hE05 := hE04.trans hE5
      go_wp2_with (first
        | (go_at_call 25; refine Hid.out ?_))
      refine Hid.mk_ ((side_any c8 d ho8.sl (hb.ext hE05) (by omega) (by omega) (hT.ext hE05)).mono ?_)
      rintro e_ w6 ⟨A9, m9, c9, rfl, ho9, hE6⟩
      have hm9 : m9 ≤ m8 + 40 := by
        rw [ho9.len, List.length_append, List.length_append, ← ho8.len]
        unfold encS
        rw [List.length_append]
        have h0 := encI_length_le (y.length : Int)
        have h1 := encI_length_le (((lowH (sumN y) 16).length : Nat) : Int)
        have h2 := lowH_len (sumN y) 16
        omega
      have hE36 := (hE4.trans hE5).trans hE6
      have hE06 := hE03.trans hE36
      have hbk := hW3.blk.below hE36 hW3.blk.lt
      have hsw := hW3.sl.ext hE36
      obtain ⟨hd, hhd⟩ : ∃ hd, hd = encS titleB ++ encI x.length ++ encS (lowH (sumN x) 16) ++ encI y.length ++ encS (lowH (sumN y) 16) := ⟨_, rfl⟩
      have hh2 : encS titleB ++ encI x.length ++ encS (lowH (sumN x) 16) ++ encI y.length ++ encS (lowH (sumN y) 16) = hd := hhd.symm
      rw [hh2] at ho9
      have HENC : Hid (encP (mkC x y b e) = hd ++ encI (nn : Int) ++ lw) := by
        show _ = _
        rw [hhd, HNN.out, HLW.out]
        unfold encP mkC
        simp only [List.append_assoc]
      have e0 := laters (show w6.cell? ⟨g, 0, none⟩ = some (.slice A6 m6 c6) from hbk.cell 0)
      have e1 := laters (show w6.cell? ⟨g, 1, none⟩ = some (.int .i64 nn) from hbk.cell 1)
      have hEd6 : Ext w6 w6.drew := (Ext.refl w6).drew
      clear hhd hh2 ho7 ho8 hbk
      go_wp2
      go_region_law
        (first
          | (go_simp
             go_at_call 27
             (with_reducible refine (seal_key c11 ho11.sl (by omega)).mono ?_)
             rintro e_ w12 ⟨A12, m12, c12, rfl, ho12, hE12⟩)
          | (go_simp
             go_at_call 28
             (with_reducible refine (packInt c9 (nn : Int) (ho9.sl.ext hEd6) (by omega) (by omega) (by omega)).mono ?_)
             rintro e_ w10 ⟨A10, m10, c10, rfl, ho10, hE10⟩
             have hE6X := hEd6.trans hE10
             have hm10 : m10 ≤ m9 + 9 := (by have h1 := ho10.len; have h2 := ho9.len; have h3 := encI_length_le (nn : Int); rw [List.length_append] at h1; omega))
          | (refine step_appB rfl _ _ rfl ho10 rfl (hsw.ext hE6X) rfl (by omega) hE10.size_le ?_
             intro A11 m11 c11 w11 ho11 hg11 hN11
             have hm11 : m11 ≤ m10 + m6 := (by have h1 := ho11.len; have h2 := ho10.len; have h3 := hsw.len; rw [List.length_append] at h1; omega))
          | fail)
      all_goals
        have HEX := Lib.hid (((hE06.trans hE6X).grown hg11 (fun j hj => Nat.le_trans hE06.size_le (Nat.le_trans hEd6.size_le (ho10.ge j hj)))).trans hE12)
        have HO := Lib.hid (ho12.mono (Nat.le_trans (Nat.le_trans hE06.size_le hE6X.size_le) hg11.size))
        clear ho10 ho11 ho12 hg11 hE12 hE10 hE6X hN11 hsw e0 e1 hEd6
        go_wp2
        go_ret2
        exact ⟨⟨A12, m12, c12, b, e, rfl, by rw [HENC.out]; exact HO.out, hMK.out⟩, HEX.out⟩
end
end Go.Proofs.YtghndnacmpckbaaGreatDoor
