/- slices.Reverse on a byte slice that the call owns. -/
import Derived.Test.YtoghaehcmbonnaaGreatDoorBytes
import Derived.Test.YtoghaehcmbonnaaGreatDoorDec
import Derived.Test.YtoghaehcmbonnaaGreatDoorSameS
namespace Go.Proofs.YtoghaehcmbonnaaGreatDoor
open Go.RowKit

/-- l with its first and its last k elements exchanged. -/
def Swp (l m : List UInt8) (k : Nat) : Prop := m.length = l.length ∧ ∀ j, j < l.length → m[j]? = if j < k ∨ l.length ≤ j + k then l[l.length - 1 - j]? else l[j]?
theorem Swp.zero (l : List UInt8) : Swp l l 0 := ⟨rfl, fun j hj => by rw [if_neg (by omega)]⟩
theorem Swp.step {l m : List UInt8} {k q : Nat} (h : Swp l m k) (h1 : k + q + 1 = l.length) (h2 : k < q) (x y : UInt8) (hx : m[q]? = some x) (hy : m[k]? = some y) :
    Swp l ((m.set k x).set q y) (k + 1) := by
  refine ⟨by simp [h.1], fun j hj => ?_⟩
  have hq := h.2 q (by omega)
  have hk := h.2 k (by omega)
  rw [if_neg (by omega)] at hq hk
  have e1 : l.length - 1 - q = k := by omega
  have e2 : l.length - 1 - k = q := by omega
  by_cases hjq : j = q
  · subst hjq
    rw [List.getElem?_set_self (by simp [h.1]; omega), if_pos (by omega), e1, ← hk, hy]
  · rw [List.getElem?_set_ne (by omega)]
    by_cases hjk : j = k
    · subst hjk
      rw [List.getElem?_set_self (by rw [h.1]; omega), if_pos (by omega), e2, ← hq, hx]
    · rw [List.getElem?_set_ne (by omega), h.2 j hj]
      by_cases hc : j < k ∨ l.length ≤ j + k
      · rw [if_pos hc, if_pos (by omega)]
      · rw [if_neg hc, if_neg (by omega)]
theorem Swp.done {l m : List UInt8} {k q : Nat} (h : Swp l m k) (h1 : k + q + 1 = l.length) (h2 : q ≤ k) : m = l.reverse := by
  apply List.ext_getElem?
  intro j
  by_cases hj : j < l.length
  · rw [h.2 j hj, List.getElem?_reverse hj]
    by_cases hc : j < k ∨ l.length ≤ j + k
    · rw [if_pos hc]
    · rw [if_neg hc]
      have : l.length - 1 - j = j := by omega
      rw [this]
  · rw [List.getElem?_eq_none (by rw [h.1]; omega), List.getElem?_eq_none (by simp; omega)]

theorem map_set_bv (m : List UInt8) (k : Nat) (x : UInt8) : (m.map bv).set k (bv x) = (m.set k x).map bv := by rw [List.map_set]

set_option maxHeartbeats 400000 in
theorem reverseB {A : Option Addr} {n c base : Nat} {l : List UInt8} {w : World} (h : OsB w base A n c l) :
    Calls Tryz.prog 92 #[.slice A n c] w fun e w' => e = .returned (.tuple #[]) ∧ OsB w' base A n c l.reverse ∧ w.grownBy w' (ob A) := by
  have HL := Lib.hid h.len
  have hle := h.le
  by_cases h0 : n = 0
  · have hl : l = [] := List.eq_nil_of_length_eq_zero (by rw [← HL.out]; exact h0)
    subst hl h0
    go_enter Tryz.func92, Tryz.ntmps92
    go_wp2
    refine wp_loop_rounds 1 ?_
    rw [rounds_succ]
    go_wp2
    go_end0
    exact ⟨rfl, h, (Ext.refl w).grownBy _⟩
  · obtain ⟨g, hA⟩ : ∃ g, A = some ⟨g, 0, none⟩ := by
      rcases h.own.2 with ⟨hv, hz⟩ | ⟨g, cap, cur, hv, _⟩
      · exact absurd hz h0
      · exact ⟨g, by injection hv⟩
    subst hA
    go_enter Tryz.func92, Tryz.ntmps92
    go_wp2
    go_loopw [2, 3] (fun i j wr => ∃ (k q : Nat) (m : List UInt8), k + q + 1 ≤ n ∧ n ≤ k + q + 1 ∧ i = .int .i64 k ∧ j = .int .i64 q ∧ Swp l m k ∧ wr.ownsRow base 5 1 (.slice (some ⟨g, 0, none⟩) n c) n (m.map bv) ∧ w.grownBy wr (some g)) (fun i _ _ => n - (intOf i).toNat)
    case atStart => exact ⟨0, n - 1, l, by omega, by omega, rfl, by go_num, Swp.zero l, h.own, (Ext.refl w).grownBy _⟩
    case round =>
      obtain ⟨k, q, m, h1, h2, rfl, rfl, hs, ho, hg⟩ := hrel
      have hml : m.length = n := hs.1.trans HL.out.symm
      have HS1 := Lib.hid hml; clear hml
      by_cases hlt : k < q
      · obtain ⟨x, hxq⟩ : ∃ x, m[q]? = some x := ⟨_, List.getElem?_eq_getElem (by rw [HS1.out]; omega)⟩
        obtain ⟨y, hxk⟩ : ∃ y, m[k]? = some y := ⟨_, List.getElem?_eq_getElem (by rw [HS1.out]; omega)⟩
        have c1 : wr.cell? ⟨g, q, none⟩ = some (.int .u8 (x.toNat : Int)) := by
          rw [ho.cellAt q (by omega), List.getElem?_map, hxq]; rfl
        have c2 : wr.cell? ⟨g, k, none⟩ = some (.int .u8 (y.toNat : Int)) := by
          rw [ho.cellAt k (by omega), List.getElem?_map, hxk]; rfl
        have f1 := ho.frozenAt q
        have f2 := ho.frozenAt k
        have HS2 := Lib.hid (hs.step (q := q) (by rw [← HL.out]; omega) hlt _ _ hxq hxk)
        have st1 := ho.stored k (bv x)
        have st2 := st1.1.stored q (bv y)
        rw [map_set_bv, map_set_bv] at st2
        have ST := Lib.hid st2.1
        have GR := Lib.hid (grown_step (grown_step hg st1.2 (NewOr.refl _ _)) st2.2 (NewOr.refl _ _))
        have hq1 : (q : Int) < (n : Int) := by omega
        have hk1 : (k : Int) < (n : Int) := by omega
        clear st1 st2 hs hxq hxk ho hg
        go_wp2
        go_region
        all_goals
          go_wp2
          go_roundw
          case rel =>
            refine ⟨k + 1, q - 1, (m.set k x).set q y, by omega, by omega, by go_num, by go_num, HS2.out, ?_, ?_⟩
            · exact ST.out
            · exact grown_drew GR.out
          case measure => simp [intOf]; omega
      · have hfin := Lib.hid (hs.done (q := q) (by rw [← HL.out]; omega) (by omega))
        have HO := Lib.hid ho
        have HG := Lib.hid hg
        clear hs ho hg
        go_wp2
        go_end0
        refine ⟨rfl, ⟨?_, by rw [List.length_reverse]; exact HL.out, hle⟩, HG.out⟩
        rw [← hfin.out]
        exact HO.out

end Go.Proofs.YtoghaehcmbonnaaGreatDoor

/- pack.number, pack.Int, pack.String. -/
namespace Go.Proofs.YtoghaehcmbonnaaGreatDoor
open Go.RowKit
set_option maxRecDepth 100000

theorem neg_u64 (n : Int) (h1 : -9223372036854775808 ≤ n) (hn : n < 0) : IntKind.u64.wrap (-IntKind.u64.wrap n) = (n.natAbs : Int) := by
  simp only [IntKind.wrap, IntKind.signed, IntKind.bits, Bool.false_and, Bool.false_eq_true, if_false]
  omega
theorem pos_u64 (n : Int) (h1 : n ≤ 9223372036854775807) (hn : 0 ≤ n) : IntKind.u64.wrap n = (n.natAbs : Int) := by
  simp only [IntKind.wrap, IntKind.signed, IntKind.bits, Bool.false_and, Bool.false_eq_true, if_false]
  omega
theorem wrap_u8 (a : Nat) : IntKind.u8.wrap (a : Int) = ((UInt8.ofNat a).toNat : Int) := by
  simp only [IntKind.wrap, IntKind.signed, IntKind.bits, Bool.false_and, Bool.false_eq_true, if_false, UInt8.toNat_ofNat']
  omega

set_option maxHeartbeats 400000 in
theorem number_any {base : Nat} {Ab : Option Addr} {nb cb : Nat} {l : List UInt8} (n : Int) {w : World} (h : OsB w base Ab nb cb l) (hb : base ≤ w.heap.size) (hl : nb ≤ 140737488355000)
    (h1 : -9223372036854775808 ≤ n) (h2 : n ≤ 9223372036854775807) :
    Calls Tryz.prog 71 #[.slice Ab nb cb, .int .i64 n] w fun e w' => ∃ A m c, e = .returned (.slice A m c) ∧ OsB w' base A m c (l ++ encI n) ∧ w.grownBy w' (ob Ab) ∧ NewOr w.heap.size (ob Ab) (ob A) := by
  by_cases hn : n < 0
  ·
    have hu := neg_u64 n h1 hn
    go_enter Tryz.func71, Tryz.ntmps71
    go_wp2
    go_loopw [5, 7] (fun u lv wr => ∃ (f a : Nat) (d : List UInt8) (A : Option Addr) (m c : Nat), u = .int .u64 a ∧ lv = .slice A m c ∧ a < 256 ^ f ∧ OsB wr w.heap.size A m c d ∧ Ext w wr ∧ d ++ le256 f a = le256 8 n.natAbs ∧ m + f ≤ 8) (fun u _ _ => (intOf u).toNat)
    case atStart => exact ⟨8, n.natAbs, [], none, 0, 0, rfl, rfl, by omega, OsB.nil_, Ext.refl _, rfl, by simp⟩
    case round =>
      obtain ⟨f, a, d, A, m, c, rfl, rfl, ha, ho, hE, hd, hf⟩ := hrel
      have HD := Lib.hid hd; clear hd
      by_cases h0 : 0 < a
      · have hw := wrap_u8 a
        have hsz := hE.size_le
        go_wp2_with (first
          | (at_builtin; refine appB1 rfl _ _ rfl ho rfl (UInt8.ofNat a) rfl rfl (by omega) hsz ?_; intro A' m' c' w1 ho1 hg1 hat1))
        go_roundw
        case rel =>
          obtain ⟨f, rfl⟩ : ∃ f', f = f' + 1 := by
            rcases f with _ | f
            · simp at ha; omega
            · exact ⟨f, rfl⟩
          refine ⟨f, a / 256, d ++ [UInt8.ofNat a], A', m', c', by go_num, rfl, by rw [Nat.pow_succ] at ha; omega, ho1, hE.grown hg1 ho.ge, ?_, by have h1 := ho1.len; have h2 := ho.len; simp at h1; omega⟩
          rw [← HD.out, le256, if_neg (by omega)]
          simp
        case measure => simp [intOf]; omega
      · have h00 : a = 0 := by omega
        subst h00
        have hlen : m = (le256 8 n.natAbs).length := by
          have := congrArg List.length HD.out
          rw [le256_zero, List.append_nil] at this
          exact ho.len.trans this
        have HL := Lib.hid hlen; clear hlen
        have HLR := Lib.hid ho.len
        go_wp2_with (first
          | (go_at_call 92; refine (reverseB ho).mono ?_; rintro e w1 ⟨rfl, ho1, hg1⟩)
          | (at_builtin; refine Hid.out ?_))
        have hE1 := hE.grown hg1 ho.ge
        have hv1 := h.ext hE1
        have hsz1 := hE1.size_le
        show wpList _ _ _ _ _ _
        refine appB1 rfl _ _ rfl hv1 rfl (UInt8.ofNat (16 + (le256 8 n.natAbs).length)) ?_ rfl (by omega) (by omega) ?_
        · rw [HL.out, UInt8.toNat_ofNat']
          have := le256_length 8 n.natAbs
          omega
        · intro A2 m2 c2 w2 ho2 hg2 hat2
          have hm2 : m2 ≤ nb + 1 := by have h1 := ho2.len; have h2 := h.len; simp at h1; omega
          have ho1' := ho1.kept hg2 (ne_of_lt ho1.ge h.lt)
          have hsz2 := hg2.size
          go_wp2_with (first
            | (at_builtin; refine Hid.out ?_))
          show wpList _ _ _ _ _ _
          refine appB rfl _ _ rfl ho2 rfl ho1'.sl rfl (by omega) (by omega) ?_
          intro A3 m3 c3 w3 ho3 hg3 hat3
          go_wp2
          go_ret
          have e1 : (l ++ [UInt8.ofNat (16 + (le256 8 n.natAbs).length)]) ++ d.reverse = l ++ encI n := by
            have h9 := HD.out
            rw [le256_zero, List.append_nil] at h9
            simp [encI, encAbs, h9, if_pos hn]
          rw [e1] at ho3
          exact ⟨A3, m3, c3, rfl, ho3, grown_step (grown_step (hE1.grownBy _) hg2 (NewOr.refl _ _)) hg3 (hat2.mono hsz1), (hat2.mono hsz1).trans hat3 (by omega)⟩
  ·
    have hu := pos_u64 n h2 (by omega)
    go_enter Tryz.func71, Tryz.ntmps71
    go_wp2
    go_loopw [5, 7] (fun u lv wr => ∃ (f a : Nat) (d : List UInt8) (A : Option Addr) (m c : Nat), u = .int .u64 a ∧ lv = .slice A m c ∧ a < 256 ^ f ∧ OsB wr w.heap.size A m c d ∧ Ext w wr ∧ d ++ le256 f a = le256 8 n.natAbs ∧ m + f ≤ 8) (fun u _ _ => (intOf u).toNat)
    case atStart => exact ⟨8, n.natAbs, [], none, 0, 0, rfl, rfl, by omega, OsB.nil_, Ext.refl _, rfl, by simp⟩
    case round =>
      obtain ⟨f, a, d, A, m, c, rfl, rfl, ha, ho, hE, hd, hf⟩ := hrel
      have HD := Lib.hid hd; clear hd
      by_cases h0 : 0 < a
      · have hw := wrap_u8 a
        have hsz := hE.size_le
        go_wp2_with (first
          | (at_builtin; refine appB1 rfl _ _ rfl ho rfl (UInt8.ofNat a) rfl rfl (by omega) hsz ?_; intro A' m' c' w1 ho1 hg1 hat1))
        go_roundw
        case rel =>
          obtain ⟨f, rfl⟩ : ∃ f', f = f' + 1 := by
            rcases f with _ | f
            · simp at ha; omega
            · exact ⟨f, rfl⟩
          refine ⟨f, a / 256, d ++ [UInt8.ofNat a], A', m', c', by go_num, rfl, by rw [Nat.pow_succ] at ha; omega, ho1, hE.grown hg1 ho.ge, ?_, by have h1 := ho1.len; have h2 := ho.len; simp at h1; omega⟩
          rw [← HD.out, le256, if_neg (by omega)]
          simp
        case measure => simp [intOf]; omega
      · have h00 : a = 0 := by omega
        subst h00
        have hlen : m = (le256 8 n.natAbs).length := by
          have := congrArg List.length HD.out
          rw [le256_zero, List.append_nil] at this
          exact ho.len.trans this
        have HL := Lib.hid hlen; clear hlen
        have HLR := Lib.hid ho.len
        go_wp2_with (first
          | (go_at_call 92; refine (reverseB ho).mono ?_; rintro e w1 ⟨rfl, ho1, hg1⟩)
          | (at_builtin; refine Hid.out ?_))
        have hE1 := hE.grown hg1 ho.ge
        have hv1 := h.ext hE1
        have hsz1 := hE1.size_le
        show wpList _ _ _ _ _ _
        refine appB1 rfl _ _ rfl hv1 rfl (UInt8.ofNat (0 + (le256 8 n.natAbs).length)) ?_ rfl (by omega) (by omega) ?_
        · rw [HL.out, UInt8.toNat_ofNat']
          have := le256_length 8 n.natAbs
          omega
        · intro A2 m2 c2 w2 ho2 hg2 hat2
          have hm2 : m2 ≤ nb + 1 := by have h1 := ho2.len; have h2 := h.len; simp at h1; omega
          have ho1' := ho1.kept hg2 (ne_of_lt ho1.ge h.lt)
          have hsz2 := hg2.size
          go_wp2_with (first
            | (at_builtin; refine Hid.out ?_))
          show wpList _ _ _ _ _ _
          refine appB rfl _ _ rfl ho2 rfl ho1'.sl rfl (by omega) (by omega) ?_
          intro A3 m3 c3 w3 ho3 hg3 hat3
          go_wp2
          go_ret
          have e1 : (l ++ [UInt8.ofNat (0 + (le256 8 n.natAbs).length)]) ++ d.reverse = l ++ encI n := by
            have h9 := HD.out
            rw [le256_zero, List.append_nil] at h9
            simp [encI, encAbs, h9, if_neg (show ¬ n < 0 by omega)]
          rw [e1] at ho3
          exact ⟨A3, m3, c3, rfl, ho3, grown_step (grown_step (hE1.grownBy _) hg2 (NewOr.refl _ _)) hg3 (hat2.mono hsz1), (hat2.mono hsz1).trans hat3 (by omega)⟩

end Go.Proofs.YtoghaehcmbonnaaGreatDoor

/- slices.Clone at []byte. -/
namespace Go.Proofs.YtoghaehcmbonnaaGreatDoor
open Go.RowKit
set_option maxRecDepth 100000

attribute [local go_sem] eql_nil_u8
set_option maxHeartbeats 400000 in
theorem cloneB {A : Option Addr} {m : Nat} (c : Nat) {l : List UInt8} {w : World} (h : SlB w A m l) :
    Calls Tryz.prog 72 #[.slice A m c] w fun e w' => ∃ A' m' c', e = .returned (.slice A' m' c') ∧ OsB w' w.heap.size A' m' c' l ∧ Ext w w' := by
  go_enter Tryz.func72, Tryz.ntmps72
  rcases A with _ | ad
  · have hl : l = [] := by
      rcases l with _ | ⟨x, xs⟩
      · rfl
      · obtain ⟨b, off, h0, _⟩ := h.at_ (k := 0) (by rw [h.len]; simp)
        cases h0
    have hm : m = 0 := by rw [h.len, hl]; rfl
    subst hl hm
    go_wp2
    go_ret
    exact ⟨none, 0, 0, rfl, OsB.nil_, Ext.refl _⟩
  · have hle := h.le
    go_wp2_with (first
      | (at_builtin; refine appB rfl _ _ rfl (OsB.new_ w w.heap.size (Nat.le_refl _) [] (by simp) _ rfl 0 rfl) rfl (h.ext ((Ext.refl w).alloc _)) rfl (by omega) (by simp) ?_; intro A' m' c' w1 ho hg hat))
    go_ret
    exact ⟨A', m', c', rfl, ho, ((Ext.refl w).alloc _).grown hg (by simp [ob])⟩

end Go.Proofs.YtoghaehcmbonnaaGreatDoor

/- pack.Int, pack.String, pack.Strings. -/
namespace Go.Proofs.YtoghaehcmbonnaaGreatDoor
open Go.RowKit
set_option maxRecDepth 100000

set_option maxHeartbeats 400000 in
theorem packInt {A : Option Addr} {m : Nat} (c : Nat) {l : List UInt8} (n : Int) {w : World} (h : SlB w A m l) (hl : m ≤ 140737488355000) (h1 : -9223372036854775808 ≤ n) (h2 : n ≤ 9223372036854775807) :
    Calls Tryz.prog 50 #[.slice A m c, .int .i64 n] w fun e w' => ∃ A' m' c', e = .returned (.slice A' m' c') ∧ OsB w' w.heap.size A' m' c' (l ++ encI n) ∧ Ext w w' := by
  go_enter Tryz.func50, Tryz.ntmps50
  go_wp2_with (first
    | (go_at_call 72; refine (cloneB c h).mono ?_; rintro e w1 ⟨A1, m1, c1, rfl, ho1, hE1⟩)
    | (go_at_call 71; refine (number_any n ho1 hE1.size_le (by have := ho1.len; have := h.len; omega) h1 h2).mono ?_; rintro e w2 ⟨A2, m2, c2, rfl, ho2, hg2, hat2⟩))
  go_ret
  exact ⟨A2, m2, c2, rfl, ho2, hE1.grown hg2 ho1.ge⟩

set_option maxHeartbeats 400000 in
theorem packStr {A : Option Addr} {m : Nat} (c : Nat) {l : List UInt8} (s : ByteArray) {w : World} (h : SlB w A m l) (hl : m + s.size ≤ 140737488355000) :
    Calls Tryz.prog 51 #[.slice A m c, .string s] w fun e w' => ∃ A' m' c', e = .returned (.slice A' m' c') ∧ OsB w' w.heap.size A' m' c' (l ++ encS (bys s)) ∧ Ext w w' := by
  go_enter Tryz.func51, Tryz.ntmps51
  go_wp2_with (first
    | (go_at_call 50; refine (packInt c _ h (by omega) (by omega) (by omega)).mono ?_; rintro e w1 ⟨A1, m1, c1, rfl, ho1, hE1⟩)
    | (at_builtin; refine appS rfl _ _ rfl ho1 rfl s rfl (by have h3 := ho1.len; have h4 := h.len; have h5 := encI_length_le (s.size : Int); simp only [List.length_append] at h3; omega) hE1.size_le ?_; intro A2 m2 c2 w2 ho2 hg2 hat2))
  go_ret
  refine ⟨A2, m2, c2, rfl, ?_, hE1.grown hg2 ho1.ge⟩
  rw [List.append_assoc] at ho2
  rw [encS, bys_len]
  exact ho2

theorem encS_len (s : ByteArray) : (encS (bys s)).length ≤ 9 + s.size := by
  have h1 := encI_length_le ((bys s).length : Int)
  have h2 := bys_len s
  simp only [encS, List.length_append]
  omega
theorem flat_le (ls : List ByteArray) (k : Nat) (f : ByteArray → List UInt8) : ((ls.take k).flatMap f).length ≤ (ls.flatMap f).length := by
  have : ls.flatMap f = (ls.take k).flatMap f ++ (ls.drop k).flatMap f := by rw [← List.flatMap_append, List.take_append_drop]
  rw [this, List.length_append]; omega
theorem flat_snoc (ls : List ByteArray) (k : Nat) (h : k < ls.length) (f : ByteArray → List UInt8) : (ls.take (k + 1)).flatMap f = (ls.take k).flatMap f ++ f ls[k] := by
  rw [List.take_succ_eq_append_getElem h, List.flatMap_append]; simp

end Go.Proofs.YtoghaehcmbonnaaGreatDoor
