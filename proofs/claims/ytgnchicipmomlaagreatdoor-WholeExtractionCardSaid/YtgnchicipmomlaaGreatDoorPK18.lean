/- Words, distances of lists, similarities; plain. -/
import Derived.Test.YtgnchicipmomlaaGreatDoorPK01
import Derived.Test.YtgnchicipmomlaaGreatDoorPK02
import Derived.Deep.RegionLaw
import Derived.ArgAppend
import Derived.Test.YtgnchicipmomlaaGreatDoorPK12
import Derived.Deep.RegionWith
import Derived.IntWalk
namespace Go.Proofs.YtgnchicipmomlaaGreatDoor
set_option maxRecDepth 100000
def spB (b : UInt8) : Bool := decide (b.toNat = 32 ∨ b.toNat = 9 ∨ b.toNat = 10)
def ptB (b : UInt8) : Bool := decide ((97 ≤ b.toNat ∧ b.toNat ≤ 122) ∨ (65 ≤ b.toNat ∧ b.toNat ≤ 90) ∨ (48 ≤ b.toNat ∧ b.toNat ≤ 57) ∨ 128 ≤ b.toNat)
/-- The words of a text; n is at least its length. -/
def wordsN : Nat → List UInt8 → List (List UInt8)
  | 0, _ => []
  | _ + 1, [] => []
  | n + 1, b :: t => if spB b then wordsN n t else if ptB b then (b :: t.takeWhile ptB) :: wordsN n (t.dropWhile ptB) else [b] :: wordsN n t
def wordsL (l : List UInt8) : List (List UInt8) := wordsN l.length l
theorem dropWhile_le {α : Type} (p : α → Bool) (l : List α) : (l.dropWhile p).length ≤ l.length := (List.dropWhile_sublist p).length_le
theorem wordsN_eq : ∀ (n : Nat) (l : List UInt8), l.length ≤ n → wordsN n l = wordsN l.length l
  | 0, l, h => by rw [Nat.le_zero.1 h]
  | n + 1, [], _ => rfl
  | n + 1, b :: t, h => by
    have h1 : t.length ≤ n := by simpa using h
    have h2 : (t.dropWhile ptB).length ≤ t.length := dropWhile_le _ _
    show wordsN (n + 1) (b :: t) = wordsN (t.length + 1) (b :: t)
    unfold wordsN
    rw [wordsN_eq n t h1, wordsN_eq n (t.dropWhile ptB) (by omega), wordsN_eq t.length (t.dropWhile ptB) h2]
theorem wordsL_sp {b : UInt8} {t : List UInt8} (h : spB b = true) : wordsL (b :: t) = wordsL t := by
  show wordsN (t.length + 1) (b :: t) = _
  unfold wordsN
  rw [if_pos h]
  rfl
theorem wordsL_pt {b : UInt8} {t : List UInt8} (h : spB b = false) (hp : ptB b = true) : wordsL (b :: t) = (b :: t.takeWhile ptB) :: wordsL (t.dropWhile ptB) := by
  show wordsN (t.length + 1) (b :: t) = _
  unfold wordsN
  rw [if_neg (by rw [h]; decide), if_pos hp, wordsN_eq t.length (t.dropWhile ptB) (dropWhile_le _ _)]
  rfl
theorem wordsL_one {b : UInt8} {t : List UInt8} (h : spB b = false) (hp : ptB b = false) : wordsL (b :: t) = [b] :: wordsL t := by
  show wordsN (t.length + 1) (b :: t) = _
  unfold wordsN
  rw [if_neg (by rw [h]; decide), if_neg (by rw [hp]; decide)]
  rfl
/-- A row of distances behind another one. -/
def rowD {α : Type} [DecidableEq α] (a b : List α) (prev : Nat → Nat) (i : Nat) : Nat → Nat
  | 0 => i + 1
  | k + 1 => if a[i]? = b[k]? then prev k else 1 + min (min (prev k) (prev (k + 1))) (rowD a b prev i k)
/-- The distance of two beginnings. -/
def dstL {α : Type} [DecidableEq α] (a b : List α) : Nat → Nat → Nat
  | 0 => fun k => k
  | i + 1 => rowD a b (dstL a b i) i
section
variable {α : Type} [DecidableEq α]
theorem dstL_z (a b : List α) (k : Nat) : dstL a b 0 k = k := rfl
theorem dstL_sz (a b : List α) (i : Nat) : dstL a b i 0 = i := by cases i <;> rfl
theorem dstL_ss (a b : List α) (i k : Nat) : dstL a b (i + 1) (k + 1) = if a[i]? = b[k]? then dstL a b i k else 1 + min (min (dstL a b i k) (dstL a b i (k + 1))) (dstL a b (i + 1) k) := rfl
theorem dstL_le (a b : List α) : ∀ i k, dstL a b i k ≤ max i k := by
  intro i
  induction i with
  | zero => intro k; rw [dstL_z]; omega
  | succ i ih =>
    intro k
    induction k with
    | zero => rw [dstL_sz]; omega
    | succ k ihk =>
      rw [dstL_ss]
      have h1 := ih k
      have h2 := ih (k + 1)
      split <;> omega
end
/-- The similarity of two lists of words. -/
def simL {α : Type} [DecidableEq α] (a b : List α) : Int :=
  if 400 < a.length ∨ 400 < b.length then -1 else if max a.length b.length = 0 then 1000 else (((max a.length b.length - dstL a b a.length b.length) * 1000 / max a.length b.length : Nat) : Int)
def wordsS (s : ByteArray) : List ByteArray := (wordsL (bys s)).map str
def simP (s t : ByteArray) : Int := simL (wordsS s) (wordsS t)
end Go.Proofs.YtgnchicipmomlaaGreatDoor

/- Words, distance, similarity: what the program computes. -/
namespace Go.Proofs.YtgnchicipmomlaaGreatDoor
open Go.RowKit
set_option maxRecDepth 100000
attribute [local go_sem] ext_refl_t ext_alloc_t ext_drew_t ext_drewN_t ext_alloc2_t ext_alloc3_t ext_alloc4_t ext_alloc5_t ext_alloc6_t ext_alloc7_t ext_alloc8_t ext_alloc1d_t ext_alloc2d_t ext_alloc3d_t ext_alloc4d_t
theorem einfo_sw : EInfo 28 9 1 16 := EInfo.mk_ (z := .string ⟨#[]⟩) Tryz.underlying28 (by kernel_rfl) rfl (by omega) (by omega)
def stC (s : ByteArray) : List Value := [.string s]
theorem stC_len (x : ByteArray) : (stC x).length = 1 := rfl
theorem stC_one (x : ByteArray) : ∀ u ∈ stC x, u.oneCell' = true := by intro u hu; simp only [stC, List.mem_singleton] at hu; subst hu; rfl
theorem ptB_of (z : Nat) (b : UInt8) (h : z = b.toNat) : ptB b = decide ((97 ≤ z ∧ z ≤ 122) ∨ (65 ≤ z ∧ z ≤ 90) ∨ (48 ≤ z ∧ z ≤ 57) ∨ 128 ≤ z) := by rw [h]; rfl
theorem spB_of (z : Nat) (b : UInt8) (h : z = b.toNat) : spB b = decide (z = 32 ∨ z = 9 ∨ z = 10) := by rw [h]; rfl
section
variable {w : World}
set_option maxHeartbeats 1600000 in
theorem part_any (b : UInt8) : Calls Tryz.prog 94 #[.int .u8 (b.toNat : Int)] w fun e w' => e = .returned (.bool (ptB b)) ∧ w = w' := by
  obtain ⟨z, hz⟩ : ∃ z : Nat, z = b.toNat := ⟨_, rfl⟩
  have hlt : z < 256 := by rw [hz]; exact b.toNat_lt
  rw [ptB_of z b hz, ← hz]
  rcases (by omega : z ≤ 47 ∨ (48 ≤ z ∧ z ≤ 57) ∨ (58 ≤ z ∧ z ≤ 64) ∨ (65 ≤ z ∧ z ≤ 90) ∨ (91 ≤ z ∧ z ≤ 96) ∨ (97 ≤ z ∧ z ≤ 122) ∨ (123 ≤ z ∧ z ≤ 127) ∨ 128 ≤ z) with h | h | h | h | h | h | h | h
  · have i1 : (0 : Int) ≤ (z : Int) := by omega
    have i2 : (z : Int) ≤ 47 := by omega
    rw [show decide ((97 ≤ z ∧ z ≤ 122) ∨ (65 ≤ z ∧ z ≤ 90) ∨ (48 ≤ z ∧ z ≤ 57) ∨ 128 ≤ z) = false by first | (apply decide_eq_true; omega) | (apply decide_eq_false; omega)]
    clear h hz
    go_enter Tryz.func94, Tryz.ntmps94
    go_wp2
    go_ret
    exact ⟨by simp <;> omega, rfl⟩
  · have i1 : (48 : Int) ≤ (z : Int) := by omega
    have i2 : (z : Int) ≤ 57 := by omega
    rw [show decide ((97 ≤ z ∧ z ≤ 122) ∨ (65 ≤ z ∧ z ≤ 90) ∨ (48 ≤ z ∧ z ≤ 57) ∨ 128 ≤ z) = true by first | (apply decide_eq_true; omega) | (apply decide_eq_false; omega)]
    clear h hz
    go_enter Tryz.func94, Tryz.ntmps94
    go_wp2
    go_ret
    exact ⟨by simp <;> omega, rfl⟩
  · have i1 : (58 : Int) ≤ (z : Int) := by omega
    have i2 : (z : Int) ≤ 64 := by omega
    rw [show decide ((97 ≤ z ∧ z ≤ 122) ∨ (65 ≤ z ∧ z ≤ 90) ∨ (48 ≤ z ∧ z ≤ 57) ∨ 128 ≤ z) = false by first | (apply decide_eq_true; omega) | (apply decide_eq_false; omega)]
    clear h hz
    go_enter Tryz.func94, Tryz.ntmps94
    go_wp2
    go_ret
    exact ⟨by simp <;> omega, rfl⟩
  · have i1 : (65 : Int) ≤ (z : Int) := by omega
    have i2 : (z : Int) ≤ 90 := by omega
    rw [show decide ((97 ≤ z ∧ z ≤ 122) ∨ (65 ≤ z ∧ z ≤ 90) ∨ (48 ≤ z ∧ z ≤ 57) ∨ 128 ≤ z) = true by first | (apply decide_eq_true; omega) | (apply decide_eq_false; omega)]
    clear h hz
    go_enter Tryz.func94, Tryz.ntmps94
    go_wp2
    go_ret
    exact ⟨by simp <;> omega, rfl⟩
  · have i1 : (91 : Int) ≤ (z : Int) := by omega
    have i2 : (z : Int) ≤ 96 := by omega
    rw [show decide ((97 ≤ z ∧ z ≤ 122) ∨ (65 ≤ z ∧ z ≤ 90) ∨ (48 ≤ z ∧ z ≤ 57) ∨ 128 ≤ z) = false by first | (apply decide_eq_true; omega) | (apply decide_eq_false; omega)]
    clear h hz
    go_enter Tryz.func94, Tryz.ntmps94
    go_wp2
    go_ret
    exact ⟨by simp <;> omega, rfl⟩
  · have i1 : (97 : Int) ≤ (z : Int) := by omega
    have i2 : (z : Int) ≤ 122 := by omega
    rw [show decide ((97 ≤ z ∧ z ≤ 122) ∨ (65 ≤ z ∧ z ≤ 90) ∨ (48 ≤ z ∧ z ≤ 57) ∨ 128 ≤ z) = true by first | (apply decide_eq_true; omega) | (apply decide_eq_false; omega)]
    clear h hz
    go_enter Tryz.func94, Tryz.ntmps94
    go_wp2
    go_ret
    exact ⟨by simp <;> omega, rfl⟩
  · have i1 : (123 : Int) ≤ (z : Int) := by omega
    have i2 : (z : Int) ≤ 127 := by omega
    rw [show decide ((97 ≤ z ∧ z ≤ 122) ∨ (65 ≤ z ∧ z ≤ 90) ∨ (48 ≤ z ∧ z ≤ 57) ∨ 128 ≤ z) = false by first | (apply decide_eq_true; omega) | (apply decide_eq_false; omega)]
    clear h hz
    go_enter Tryz.func94, Tryz.ntmps94
    go_wp2
    go_ret
    exact ⟨by simp <;> omega, rfl⟩
  · have i1 : (128 : Int) ≤ (z : Int) := by omega
    have i2 : (z : Int) ≤ 255 := by omega
    rw [show decide ((97 ≤ z ∧ z ≤ 122) ∨ (65 ≤ z ∧ z ≤ 90) ∨ (48 ≤ z ∧ z ≤ 57) ∨ 128 ≤ z) = true by first | (apply decide_eq_true; omega) | (apply decide_eq_false; omega)]
    clear h hz
    go_enter Tryz.func94, Tryz.ntmps94
    go_wp2
    go_ret
    exact ⟨by simp <;> omega, rfl⟩
end
/-- How far a word goes. -/
theorem tw_of {l : List UInt8} {n : Nat} (h : ∀ j (hj : j < l.length), j < n → ptB l[j] = true) (hn : n ≤ l.length) (he : ∀ h : n < l.length, ptB l[n] = false) : l.takeWhile ptB = l.take n ∧ l.dropWhile ptB = l.drop n := by
  induction l generalizing n with
  | nil => obtain rfl : n = 0 := by simpa using hn
           exact ⟨rfl, rfl⟩
  | cons b t ih =>
    cases n with
    | zero =>
      have h1 := he (by simp)
      simp only [List.getElem_cons_zero] at h1
      rw [List.takeWhile_cons, List.dropWhile_cons, h1]
      exact ⟨rfl, rfl⟩
    | succ n =>
      have h1 := h 0 (by simp) (by omega)
      simp only [List.getElem_cons_zero] at h1
      have h2 := ih (n := n) (fun j hj hjn => h (j + 1) (by simpa using hj) (by omega)) (by simpa using hn) (fun hl => he (by simpa using hl))
      rw [List.takeWhile_cons, List.dropWhile_cons, h1, if_pos rfl, if_pos rfl, h2.1, h2.2]
      exact ⟨rfl, rfl⟩
section
variable {w : World}
theorem bys_extract (s : ByteArray) (i j : Nat) : bys (s.extract i j) = ((bys s).take j).drop i := by
  unfold bys
  rw [ByteArray.data_extract, Array.toList_extract]
  simp [List.extract, List.drop_take]
theorem part_z (z : Nat) {b : UInt8} (hz : z = b.toNat) : Calls Tryz.prog 94 #[.int .u8 (z : Int)] w fun e w' => e = .returned (.bool (ptB b)) ∧ w = w' := by rw [hz]; exact part_any b
set_option maxHeartbeats 3200000 in
theorem words_any (s : ByteArray) (hs : s.size ≤ 1000000000000) : Calls Tryz.prog 60 #[.string s] w fun e w' => ∃ A m c, e = .returned (.slice A m c) ∧ OsC stC 9 1 w' w.heap.size A m c (wordsS s) ∧ Ext w w' := by
  obtain ⟨n, hn⟩ : ∃ n, n = s.size := ⟨_, rfl⟩
  have hbl := bys_len s
  rw [← hn] at hbl hs
  have HBL := Lib.hid hbl
  have HN := Lib.hid hn
  clear hbl hn
  go_enter Tryz.func60, Tryz.ntmps60
  go_wp2
  go_loopw [3, 4] (fun o i wr => ∃ (k : Nat) (A : Option Addr) (m c : Nat) (L : List ByteArray), k ≤ n ∧ m ≤ k ∧ i = .int .i64 k ∧ o = .slice A m c ∧ Hid (OsC stC 9 1 wr w.heap.size A m c L) ∧ Hid (wordsS s = L ++ (wordsL ((bys s).drop k)).map str) ∧ Hid (Ext w wr)) (fun _ i _ => n - (intOf i).toNat)
  case atStart => exact ⟨0, none, 0, 0, [], Nat.zero_le _, Nat.zero_le _, rfl, rfl, OsC.nil_ stC_len stC_one, rfl, Ext.refl _⟩
  case round =>
    obtain ⟨k, A, m, c, L, hk, hmk, rfl, rfl, HO, HW, HE⟩ := hrel
    by_cases hlt : k < n
    · have hks : k < s.size := by rw [← HN.out]; exact hlt
      have i1 : (k : Int) < (s.size : Int) := by omega
      obtain ⟨z, hz⟩ : ∃ z : Nat, s[k].toNat = z := ⟨_, rfl⟩
      have hkb : k < (bys s).length := by rw [HBL.out]; exact hlt
      have HZ : Hid (z = ((bys s)[k]).toNat) := hz.symm
      have HDR : Hid ((bys s).drop k = (bys s)[k] :: (bys s).drop (k + 1)) := List.drop_eq_getElem_cons hkb
      by_cases hsp : z = 32 ∨ z = 9 ∨ z = 10
      · have HS : Hid (spB (bys s)[k] = true) := by show _ = _; rw [spB_of z _ HZ.out]; exact decide_eq_true hsp
        have HW2 : Hid (wordsS s = L ++ (wordsL ((bys s).drop (k + 1))).map str) := by show _ = _; rw [HW.out, HDR.out, wordsL_sp HS.out]
        rcases hsp with hs1 | hs1 | hs1
        · have e1 : ((z : Int) == 32) = true := by rw [hs1]; rfl
          clear hs1
          go_wp2
          go_roundw
          case rel => exact ⟨k + 1, A, m, c, L, by omega, by omega, by go_num, rfl, HO, HW2, HE⟩
          case measure => simp [intOf]; omega
        · have e1 : ((z : Int) == 32) = false := by rw [hs1]; rfl
          have e2 : ((z : Int) == 9) = true := by rw [hs1]; rfl
          clear hs1
          go_wp2
          go_roundw
          case rel => exact ⟨k + 1, A, m, c, L, by omega, by omega, by go_num, rfl, HO, HW2, HE⟩
          case measure => simp [intOf]; omega
        · have e1 : ((z : Int) == 32) = false := by rw [hs1]; rfl
          have e2 : ((z : Int) == 9) = false := by rw [hs1]; rfl
          have e3 : ((z : Int) == 10) = true := by rw [hs1]; rfl
          clear hs1
          go_wp2
          go_roundw
          case rel => exact ⟨k + 1, A, m, c, L, by omega, by omega, by go_num, rfl, HO, HW2, HE⟩
          case measure => simp [intOf]; omega
      · have HS : Hid (spB (bys s)[k] = false) := by show _ = _; rw [spB_of z _ HZ.out]; exact decide_eq_false hsp
        have e1 : ((z : Int) == 32) = false := by rw [beq_eq_false_iff_ne]; omega
        have e2 : ((z : Int) == 9) = false := by rw [beq_eq_false_iff_ne]; omega
        have e3 : ((z : Int) == 10) = false := by rw [beq_eq_false_iff_ne]; omega
        clear hsp
        have hpt := part_z (w := wr) z HZ.out
        cases hp : ptB (bys s)[k] with
        | false =>
          rw [hp] at hpt
          have HP := Lib.hid hp
          clear hp
          go_wp2_with (first
            | (go_at_call 94; refine Hid.out ?_))
          refine Hid.mk_ ((hpt).mono ?_)
          rintro e w2 ⟨rfl, rfl⟩
          obtain ⟨x, hx⟩ : ∃ x, s.extract k (k + 1) = x := ⟨_, rfl⟩
          have HX : Hid (x = str [(bys s)[k]]) := by
            show _ = _
            apply bys_inj
            rw [← hx, bys_extract, bys_str, List.take_succ_eq_append_getElem hkb, List.drop_append, List.length_take, Nat.min_eq_left (by omega)]
            simp
          have HW2 : Hid (wordsS s = (L ++ [x]) ++ (wordsL ((bys s).drop (k + 1))).map str) := by show _ = _; rw [HW.out, HDR.out, wordsL_one HS.out HP.out, HX.out, List.append_assoc]; rfl
          clear hpt
          have hE1 : Ext w (wr.alloc (Obj.cells #[.string x] 9)) := HE.out.alloc _
          have hsx : SlC stC 1 (wr.alloc (Obj.cells #[.string x] 9)) (some ⟨wr.heap.size, 0, none⟩) 1 [x] := SlC.new_ wr [x] stC_len (by simp) _ rfl (0, 0) 1 rfl _
          have ho1 := HO.out.ext ((Ext.refl wr).alloc (Obj.cells #[.string x] 9))
          go_wp2_with (first
            | (at_builtin; refine Hid.out ?_))
          refine Hid.mk_ ?_
          refine appC einfo_sw rfl _ _ rfl ho1 rfl hsx rfl (by omega) hE1.size_le ?_
          intro A7 m7 c7 w7 ho7 hg7 hN7
          have HE7 := Lib.hid (hE1.grown hg7 fun j hj => HO.out.ge j hj)
          have hm7 : m7 ≤ (k + 1) := by have h1 := ho7.len; have h2 := HO.out.len; rw [List.length_append, ← h2] at h1; simp at h1; omega
          have HO7 := Lib.hid ho7
          clear ho7 hg7 hN7 hsx ho1 hE1
          go_wp2
          go_roundw
          case rel => exact ⟨(k + 1), A7, m7, c7, L ++ [x], by omega, hm7, by go_num, rfl, HO7, HW2, HE7⟩
          case measure => simp [intOf]; omega
        | true =>
          rw [hp] at hpt
          have HP := Lib.hid hp
          clear hp
          go_wp2_with (first
            | (go_at_call 94; refine Hid.out ?_))
          refine Hid.mk_ ((hpt).mono ?_)
          rintro e w2 ⟨rfl, rfl⟩
          clear hpt hz
          go_wp2
          go_loop [5] (fun i => ∃ e : Nat, k < e ∧ e ≤ n ∧ i = .int .i64 e ∧ Hid (∀ j (hj : j < (bys s).length), k < j → j < e → ptB (bys s)[j] = true)) (fun i => n - (intOf i).toNat)
          case atStart => exact ⟨k + 1, by omega, by omega, by go_num, fun j _ h1 h2 => absurd h2 (by omega)⟩
          case round =>
            obtain ⟨e, hke, hen, rfl, HA⟩ := hrel
            have hfin : e ≤ n → (∀ h : e < (bys s).length, ptB (bys s)[e] = false) → Hid (wordsS s = (L ++ [s.extract k e]) ++ (wordsL ((bys s).drop e)).map str) := fun hen hstop => by
              have htw := tw_of (l := (bys s).drop (k + 1)) (n := e - (k + 1)) (fun j hj hjn => by rw [List.getElem_drop]; exact HA.out _ _ (by omega) (by omega)) (by rw [List.length_drop, HBL.out]; omega) (fun h => by
                have h9 : k + 1 + (e - (k + 1)) = e := by omega
                rw [List.getElem_drop]
                simp only [h9]
                exact hstop _)
              show _ = _
              have hxe : s.extract k e = str ((bys s)[k] :: ((bys s).drop (k + 1)).take (e - (k + 1))) := by
                apply bys_inj
                rw [bys_extract, bys_str, List.drop_take, HDR.out]
                have : e - k = (e - (k + 1)) + 1 := by omega
                rw [this, List.take_succ_cons]
              rw [HW.out, HDR.out, wordsL_pt HS.out HP.out, htw.1, htw.2, hxe, List.drop_drop, List.append_assoc]
              have : k + 1 + (e - (k + 1)) = e := by omega
              rw [this]
              rfl
            by_cases hen2 : e < n
            · have hes : e < s.size := by rw [← HN.out]; exact hen2
              have i5 : (e : Int) < (s.size : Int) := by omega
              obtain ⟨y, hy⟩ : ∃ y : Nat, s[e].toNat = y := ⟨_, rfl⟩
              have heb : e < (bys s).length := by rw [HBL.out]; exact hen2
              have HY : Hid (y = ((bys s)[e]).toNat) := hy.symm
              have hpt := part_z (w := wr) y HY.out
              cases hp : ptB (bys s)[e] with
              | true =>
                rw [hp] at hpt
                have HA2 : Hid (∀ j (hj : j < (bys s).length), k < j → j < e + 1 → ptB (bys s)[j] = true) := fun j hj h1 h2 => by
                  rcases Nat.lt_or_ge j e with h3 | h3
                  · exact HA.out j hj h1 h3
                  · obtain rfl : j = e := by omega
                    exact hp
                clear hp hfin
                go_wp2_with (first
                  | (go_at_call 94; refine Hid.out ?_))
                refine Hid.mk_ ((hpt).mono ?_)
                rintro e' w2 ⟨rfl, rfl⟩
                clear hpt
                go_wp2
                go_round
                case rel => exact ⟨e + 1, by omega, by omega, by go_num, HA2⟩
                case measure => simp [intOf]; omega
              | false =>
                rw [hp] at hpt
                have HW3 := hfin (by omega) fun _ => hp
                obtain ⟨x, hx⟩ : ∃ x, s.extract k e = x := ⟨_, rfl⟩
                rw [hx] at HW3
                have HW2 := HW3
                clear hp hfin HW3
                go_wp2_with (first
                  | (go_at_call 94; refine Hid.out ?_))
                refine Hid.mk_ ((hpt).mono ?_)
                rintro e' w2 ⟨rfl, rfl⟩
                clear hpt hy
                have hE1 : Ext w (wr.alloc (Obj.cells #[.string x] 9)) := HE.out.alloc _
                have hsx : SlC stC 1 (wr.alloc (Obj.cells #[.string x] 9)) (some ⟨wr.heap.size, 0, none⟩) 1 [x] := SlC.new_ wr [x] stC_len (by simp) _ rfl (0, 0) 1 rfl _
                have ho1 := HO.out.ext ((Ext.refl wr).alloc (Obj.cells #[.string x] 9))
                go_wp2_with (first
                  | (at_builtin; refine Hid.out ?_))
                refine Hid.mk_ ?_
                refine appC einfo_sw rfl _ _ rfl ho1 rfl hsx rfl (by omega) hE1.size_le ?_
                intro A7 m7 c7 w7 ho7 hg7 hN7
                have HE7 := Lib.hid (hE1.grown hg7 fun j hj => HO.out.ge j hj)
                have hm7 : m7 ≤ e := by have h1 := ho7.len; have h2 := HO.out.len; rw [List.length_append, ← h2] at h1; simp at h1; omega
                have HO7 := Lib.hid ho7
                clear ho7 hg7 hN7 hsx ho1 hE1
                go_wp2
                go_roundw
                case rel => exact ⟨e, A7, m7, c7, L ++ [x], by omega, hm7, by go_num, rfl, HO7, HW2, HE7⟩
                case measure => simp [intOf]; omega
            · have i5 : ¬ (e : Int) < (s.size : Int) := by have := HN.out; omega
              have i6 : e ≤ s.size := by rw [← HN.out]; exact hen
              have i7 : (e : Int) ≤ (s.size : Int) := by omega
              have HW3 := hfin hen fun h => absurd h (by rw [HBL.out]; exact hen2)
              obtain ⟨x, hx⟩ : ∃ x, s.extract k e = x := ⟨_, rfl⟩
              rw [hx] at HW3
              have HW2 := HW3
              clear hfin HW3
              have hE1 : Ext w (wr.alloc (Obj.cells #[.string x] 9)) := HE.out.alloc _
              have hsx : SlC stC 1 (wr.alloc (Obj.cells #[.string x] 9)) (some ⟨wr.heap.size, 0, none⟩) 1 [x] := SlC.new_ wr [x] stC_len (by simp) _ rfl (0, 0) 1 rfl _
              have ho1 := HO.out.ext ((Ext.refl wr).alloc (Obj.cells #[.string x] 9))
              go_wp2_with (first
                | (at_builtin; refine Hid.out ?_))
              refine Hid.mk_ ?_
              refine appC einfo_sw rfl _ _ rfl ho1 rfl hsx rfl (by omega) hE1.size_le ?_
              intro A7 m7 c7 w7 ho7 hg7 hN7
              have HE7 := Lib.hid (hE1.grown hg7 fun j hj => HO.out.ge j hj)
              have hm7 : m7 ≤ e := by have h1 := ho7.len; have h2 := HO.out.len; rw [List.length_append, ← h2] at h1; simp at h1; omega
              have HO7 := Lib.hid ho7
              clear ho7 hg7 hN7 hsx ho1 hE1
              go_wp2
              go_roundw
              case rel => exact ⟨e, A7, m7, c7, L ++ [x], by omega, hm7, by go_num, rfl, HO7, HW2, HE7⟩
              case measure => simp [intOf]; omega
    · have i1 : ¬ (k : Int) < (s.size : Int) := by have := HN.out; omega
      have HWE : Hid (wordsS s = L) := by
        show _ = _
        rw [HW.out, List.drop_of_length_le (by rw [HBL.out]; omega)]
        exact List.append_nil _
      go_wp2
      go_ret
      exact ⟨A, m, c, rfl, by rw [HWE.out]; exact HO.out, HE.out⟩
end
end Go.Proofs.YtgnchicipmomlaaGreatDoor

/- The distance and the similarity: what the program computes. -/
namespace Go.Proofs.YtgnchicipmomlaaGreatDoor
open Go.RowKit
set_option maxRecDepth 100000
attribute [local go_sem] ext_refl_t ext_alloc_t ext_drew_t ext_drewN_t ext_alloc2_t ext_alloc3_t ext_alloc4_t ext_alloc5_t ext_alloc6_t ext_alloc7_t ext_alloc8_t ext_alloc1d_t ext_alloc2d_t ext_alloc3d_t ext_alloc4d_t
/-- A row of N numbers, of which the first j are known. -/
def IRow (w : World) (g N j : Nat) (f : Nat → Nat) : Prop := ∃ cs : Array Value, Blk w g 3 cs ∧ cs.size = N ∧ ∀ k, k < j → cs[k]? = some (.int .i64 (f k : Int))
section
variable {w w' : World} {g g' N j : Nat} {f : Nat → Nat}
theorem IRow.c (h : IRow w g N j f) {k : Nat} (hk : k < j) : w.cell? ⟨g, k, none⟩ = some (.int .i64 (f k : Int)) := by
  obtain ⟨cs, hb, _, hc⟩ := h
  rw [hb.cell]
  exact hc k hk
theorem IRow.old (h : IRow w g N j f) {k : Nat} (hk : k < N) : ∃ u, w.cell? ⟨g, k, none⟩ = some u := by
  obtain ⟨cs, hb, hs, _⟩ := h
  exact ⟨cs[k], by rw [hb.cell]; exact Array.getElem?_eq_getElem _⟩
theorem IRow.fz (h : IRow w g N j f) (k : Nat) : w.frozen? ⟨g, k, none⟩ = false := by
  obtain ⟨cs, hb, _⟩ := h
  exact hb.frozen k
theorem IRow.set (h : IRow w g N j f) (hj : j < N) {v : Int} (hv : v = f j) : IRow (w.setCell ⟨g, j, none⟩ (.int .i64 v)) g N (j + 1) f := by
  obtain ⟨cs, hb, hs, hc⟩ := h
  refine ⟨_, hb.set_ j _, by rw [Array.size_setIfInBounds]; exact hs, fun k hk => ?_⟩
  rw [Array.getElem?_setIfInBounds]
  by_cases e : j = k
  · subst e
    rw [if_pos rfl, if_pos (by omega), hv]
  · rw [if_neg e]
    exact hc k (by omega)
theorem IRow.far (h : IRow w g N j f) {p : Addr} (hp : g ≠ p.block) (u : Value) : IRow (w.setCell p u) g N j f := by
  obtain ⟨cs, hb, hs, hc⟩ := h
  exact ⟨cs, hb.far hp u, hs, hc⟩
theorem IRow.zero (h : IRow w g N j f) (f' : Nat → Nat) : IRow w g N 0 f' := by
  obtain ⟨cs, hb, hs, _⟩ := h
  exact ⟨cs, hb, hs, fun k hk => absurd hk (Nat.not_lt_zero _)⟩
theorem IRow.congr (h : IRow w g N j f) {f' : Nat → Nat} (he : ∀ k, f k = f' k) : IRow w g N j f' := by
  obtain ⟨cs, hb, hs, hc⟩ := h
  exact ⟨cs, hb, hs, fun k hk => by rw [hc k hk, he k]⟩
theorem IRow.heap (h : IRow w g N j f) (e : w'.heap = w.heap) : IRow w' g N j f := by
  obtain ⟨cs, hb, hs, hc⟩ := h
  exact ⟨cs, by unfold Blk at hb ⊢; rw [e]; exact hb, hs, hc⟩
theorem IRow.alloc (h : IRow w g N j f) (o : Obj) : IRow (w.alloc o) g N j f := by
  obtain ⟨cs, hb, hs, hc⟩ := h
  exact ⟨cs, hb.alloc o, hs, hc⟩
theorem IRow.new_ (w : World) (cs : Array Value) (hs : cs.size = N) (f : Nat → Nat) : IRow (w.alloc (.cells cs 3)) w.heap.size N 0 f :=
  ⟨cs, Blk.new w _ cs, hs, fun _ hk => absurd hk (Nat.not_lt_zero _)⟩
end
theorem info_int : (Tryz.prog.info? 3).map (fun i => (i.zero, i.size, i.bytes)) = some (some (.int .i64 0), 1, 8) := by kernel_rfl
theorem make_ints (N : Nat) (hN : N ≤ 1000) : ∃ M : Array Value, M.size = N ∧ ∀ (W : World) (z : Int), z = N → (Instr.makeSlice 203 (.int .i64 z) (.int .i64 z)).run Tryz.prog W = .ok (.slice (some ⟨W.heap.size, 0, none⟩) N N) (W.alloc (.cells M 3)) := by
  obtain ⟨i0, hi, hz0, hz1, hz2⟩ := info_parts info_int
  refine ⟨madeCells (Value.int .i64 0).cells ((N : Int).toNat * i0.size), by rw [size_madeCells, hz1]; simp, fun W z hz => ?_⟩
  subst hz
  have h := run_makeSlice (P := Tryz.prog) W 203 3 i0 (.int .i64 0) Tryz.underlying203 hi hz0 .i64 .i64 (N : Int) (N : Int) (by omega) (by omega) (by rw [hz1]; omega) (by rw [hz2]; omega) (by omega)
  simpa using h
section
variable {w : World}
set_option maxHeartbeats 6400000 in
theorem dist_any {A B : Option Addr} {m n : Nat} (c d : Nat) {l1 l2 : List ByteArray} (h1 : SlC stC 1 w A m l1) (h2 : SlC stC 1 w B n l2) (hm : m ≤ 400) (hn : n ≤ 400) :
    Calls Tryz.prog 95 #[.slice A m c, .slice B n d] w fun e w' => e = .returned (.int .i64 (dstL l1 l2 m n : Nat)) ∧ Ext w w' := by
  have H1 := Lib.hid h1
  have H2 := Lib.hid h2
  have HL1 := Lib.hid h1.len
  have HL2 := Lib.hid h2.len
  clear h1 h2
  have i1 : (m : Int) ≤ 400 := by omega
  have i2 : (n : Int) ≤ 400 := by omega
  obtain ⟨N, hNd⟩ : ∃ N, N = n + 1 := ⟨_, rfl⟩
  have hN : N ≤ 401 := by omega
  obtain ⟨M, hM, hmk0⟩ := make_ints N (by omega)
  have hmk := fun W => hmk0 W ((n : Int) + 1) (by omega)
  have hwr : IntKind.i64.wrap ((n : Int) + 1) = (n : Int) + 1 := IntWalk.i64_in _ (by omega)
  have HNd := Lib.hid hNd
  clear hNd hmk0
  go_enter Tryz.func95, Tryz.ntmps95
  go_wp2
  go_cut [5, 6] from 3 (fun a b wx => ∃ g h : Nat, g ≠ h ∧ a = .slice (some ⟨g, 0, none⟩) N N ∧ b = .slice (some ⟨h, 0, none⟩) N N ∧ w.heap.size ≤ g ∧ w.heap.size ≤ h ∧ IRow wx g N 0 id ∧ IRow wx h N 0 id ∧ Ext w wx)
  case first =>
    go_region_law (go_simp)
    all_goals
      go_wp2
      go_meet
      case rel =>
        have hr1 : IRow ((w.alloc (Obj.cells M 3)).alloc (Obj.cells M 3)).drew w.heap.size N 0 id := ((IRow.new_ w M hM id).alloc _).heap rfl
        have hr2 : IRow ((w.alloc (Obj.cells M 3)).alloc (Obj.cells M 3)).drew (w.heap.size + 1) N 0 id := by
          have h9 := IRow.new_ (w.alloc (Obj.cells M 3)) M hM id
          have hs9 : (w.alloc (Obj.cells M 3)).heap.size = w.heap.size + 1 := by simp
          rw [hs9] at h9
          exact h9.heap rfl
        have hE9 := (((Ext.refl w).alloc (Obj.cells M 3)).alloc (Obj.cells M 3)).drew
        first
        | exact ⟨_, _, Nat.ne_of_lt (Nat.lt_succ_self _), rfl, rfl, Nat.le_refl _, Nat.le_succ _, hr1, hr2, hE9⟩
        | exact ⟨_, _, Nat.ne_of_gt (Nat.lt_succ_self _), rfl, rfl, Nat.le_succ _, Nat.le_refl _, hr2, hr1, hE9⟩
  case rest =>
    obtain ⟨g, h, hgh, rfl, rfl, hg, hh, hRG, hRH, hE⟩ := hcut
    clear hmk
    have HRG := Lib.hid hRG
    have HRH := Lib.hid hRH
    have HE := Lib.hid hE
    clear hRG hRH hE
    go_wp2
    go_loopw [31] (fun v wr => ∃ k : Nat, k ≤ N ∧ v = .int .i64 k ∧ Hid (IRow wr g N k id) ∧ Hid (IRow wr h N 0 id) ∧ Hid (Ext w wr)) (fun v _ => N - (intOf v).toNat)
    case atStart => exact ⟨0, Nat.zero_le _, rfl, HRG.out, HRH.out, HE.out⟩
    case round =>
      obtain ⟨k, hk, rfl, HRG, HRH, HE⟩ := hrel
      by_cases hlt : k < N
      · have i3 : (k : Int) < (N : Int) := by omega
        obtain ⟨u, hu⟩ := HRG.out.old hlt
        have hf := HRG.out.fz k
        have HRG2 : Hid (IRow (wr.setCell ⟨g, k, none⟩ (.int .i64 (k : Int))) g N (k + 1) id) := HRG.out.set hlt rfl
        have HRH2 : Hid (IRow (wr.setCell ⟨g, k, none⟩ (.int .i64 (k : Int))) h N 0 id) := HRH.out.far (p := ⟨g, k, none⟩) (Ne.symm hgh) _
        have HE2 : Hid (Ext w (wr.setCell ⟨g, k, none⟩ (.int .i64 (k : Int)))) := HE.out.set_ (p := ⟨g, k, none⟩) hg _
        go_wp2
        go_roundw
        case rel => exact ⟨k + 1, by omega, by go_num, HRG2, HRH2, HE2⟩
        case measure => simp [intOf]; omega
      · have i3 : ¬ (k : Int) < (N : Int) := by omega
        have hkN : k = N := by omega
        rw [hkN] at HRG
        clear hkN
        have HG0 : Hid (IRow wr g N N (dstL l1 l2 0)) := HRG.out.congr fun _ => rfl
        go_wp2
        go_loopw [5, 6, 41] (fun a b v wq => ∃ (i : Nat) (p q : Nat), i ≤ m ∧ p ≠ q ∧ a = .slice (some ⟨p, 0, none⟩) N N ∧ b = .slice (some ⟨q, 0, none⟩) N N ∧ v = .int .i64 i ∧ w.heap.size ≤ p ∧ w.heap.size ≤ q ∧ Hid (IRow wq p N N (dstL l1 l2 i)) ∧ Hid (IRow wq q N 0 id) ∧ Hid (Ext w wq)) (fun _ _ v _ => m - (intOf v).toNat)
        case atStart => exact ⟨0, g, h, Nat.zero_le _, hgh, rfl, rfl, rfl, hg, hh, HG0.out, HRH.out, HE.out⟩
        case round =>
          obtain ⟨i, p, q, hi, hpq, rfl, rfl, rfl, hp, hq, HRP, HRQ, HEQ⟩ := hrel
          obtain ⟨wq, rfl⟩ : ∃ wq : World, wq = wr := ⟨_, rfl⟩
          by_cases hlt2 : i < m
          · obtain ⟨bA, oA, rfl, _, hcA⟩ := (H1.out.ext HEQ.out).at_ hlt2 (by omega)
            have hil : i < l1.length := by rw [← HL1.out]; exact hlt2
            obtain ⟨x, hx⟩ : ∃ x, x = l1[i] := ⟨_, rfl⟩
            have x0 := hcA i hil 0 (by omega)
            simp only [← hx, stC, List.getElem_cons_zero, Nat.mul_one, Nat.add_zero] at x0
            have HXI : Hid (l1[i]? = some x) := by show _ = _; rw [List.getElem?_eq_getElem hil, hx]
            have i4 : (i : Int) < (m : Int) := by omega
            have hN0 : 0 < N := by have := HNd.out; omega
            have hN0I : (0 : Int) < (N : Int) := by omega
            obtain ⟨u, hu⟩ := HRQ.out.old hN0
            have hf := HRQ.out.fz 0
            have HRQ1 : Hid (IRow (wq.setCell ⟨q, 0, none⟩ (.int .i64 ((i : Int) + 1))) q N 1 (dstL l1 l2 (i + 1))) := (HRQ.out.zero (dstL l1 l2 (i + 1))).set hN0 (by rw [dstL_sz]; omega)
            have HRP1 : Hid (IRow (wq.setCell ⟨q, 0, none⟩ (.int .i64 ((i : Int) + 1))) p N N (dstL l1 l2 i)) := HRP.out.far (p := ⟨q, 0, none⟩) hpq _
            have HEQ1 : Hid (Ext w (wq.setCell ⟨q, 0, none⟩ (.int .i64 ((i : Int) + 1)))) := HEQ.out.set_ (p := ⟨q, 0, none⟩) hq _
            clear hcA hx
            go_wp2
            go_loopw [52] (fun v wr => ∃ k : Nat, k ≤ n ∧ v = .int .i64 k ∧ Hid (IRow wr p N N (dstL l1 l2 i)) ∧ Hid (IRow wr q N (k + 1) (dstL l1 l2 (i + 1))) ∧ Hid (Ext w wr)) (fun v _ => n - (intOf v).toNat)
            case atStart => exact ⟨0, Nat.zero_le _, rfl, HRP1.out, HRQ1.out, HEQ1.out⟩
            case round =>
              obtain ⟨k, hk, rfl, HRG, HRH, HE⟩ := hrel
              by_cases hlt3 : k < n
              · obtain ⟨bB, oB, rfl, _, hcB⟩ := (H2.out.ext HE.out).at_ hlt3 (by omega)
                have hkl : k < l2.length := by rw [← HL2.out]; exact hlt3
                obtain ⟨y, hy⟩ : ∃ y, y = l2[k] := ⟨_, rfl⟩
                have y0 := hcB k hkl 0 (by omega)
                simp only [← hy, stC, List.getElem_cons_zero, Nat.mul_one, Nat.add_zero] at y0
                have HYK : Hid (l2[k]? = some y) := by show _ = _; rw [List.getElem?_eq_getElem hkl, hy]
                have i5 : (k : Int) < (n : Int) := by omega
                have hkN : k < N := by have := HNd.out; omega
                have hkN1 : k + 1 < N := by have := HNd.out; omega
                have i6 : (k : Int) < (N : Int) := by omega
                have i7 : (k : Int) + 1 < (N : Int) := by omega
                have hkl2 := dstL_le l1 l2 i k
                have hkl3 := dstL_le l1 l2 i (k + 1)
                have hkl4 := dstL_le l1 l2 (i + 1) k
                have HSS := Lib.hid (dstL_ss l1 l2 i k)
                obtain ⟨a1, ha1⟩ : ∃ a1 : Nat, a1 = dstL l1 l2 i k := ⟨_, rfl⟩
                obtain ⟨a2, ha2⟩ : ∃ a2 : Nat, a2 = dstL l1 l2 i (k + 1) := ⟨_, rfl⟩
                obtain ⟨a3, ha3⟩ : ∃ a3 : Nat, a3 = dstL l1 l2 (i + 1) k := ⟨_, rfl⟩
                rw [← ha1, ← ha2, ← ha3] at HSS
                have z1 : wr.cell? ⟨p, k, none⟩ = some (.int .i64 (a1 : Int)) := by rw [ha1]; exact HRG.out.c hkN
                have z2 : wr.cell? ⟨p, k + 1, none⟩ = some (.int .i64 (a2 : Int)) := by rw [ha2]; exact HRG.out.c hkN1
                have z3 : wr.cell? ⟨q, k, none⟩ = some (.int .i64 (a3 : Int)) := by rw [ha3]; exact HRH.out.c (Nat.lt_succ_self k)
                obtain ⟨u, hu⟩ := HRH.out.old hkN1
                have hf := HRH.out.fz (k + 1)
                rw [← ha1] at hkl2
                rw [← ha2] at hkl3
                rw [← ha3] at hkl4
                have hb1 : a1 ≤ 401 := by omega
                have hb2 : a2 ≤ 401 := by omega
                have hb3 : a3 ≤ 401 := by omega
                clear hcB hy ha1 ha2 ha3 hkl2 hkl3 hkl4
                have hset : ∀ v : Int, v = (dstL l1 l2 (i + 1) (k + 1) : Nat) → Hid (IRow (wr.setCell ⟨q, k + 1, none⟩ (.int .i64 v)) q N (k + 1 + 1) (dstL l1 l2 (i + 1))) := fun v hv => HRH.out.set hkN1 hv
                have hfar : ∀ v : Int, Hid (IRow (wr.setCell ⟨q, k + 1, none⟩ (.int .i64 v)) p N N (dstL l1 l2 i)) := fun v => HRG.out.far (p := ⟨q, k + 1, none⟩) hpq _
                have hext : ∀ v : Int, Hid (Ext w (wr.setCell ⟨q, k + 1, none⟩ (.int .i64 v))) := fun v => HE.out.set_ (p := ⟨q, k + 1, none⟩) hq _
                by_cases hxy : x = y
                · have e1 : (x.toList == y.toList) = true := by rw [hxy]; simp
                  have e2 : (x.toList != y.toList) = false := by rw [bne, e1]; rfl
                  have HV : Hid (dstL l1 l2 (i + 1) (k + 1) = a1) := by show _ = _; rw [HSS.out, HXI.out, HYK.out, if_pos (by rw [hxy])]
                  have HRG2 := hfar (a1 : Int)
                  have HRH2 := hset (a1 : Int) (by rw [HV.out])
                  have HE2 := hext (a1 : Int)
                  clear hxy hset hfar hext
                  go_wp2
                  go_roundw
                  case rel => exact ⟨k + 1, by omega, by go_num, HRG2, HRH2, HE2⟩
                  case measure => simp [intOf]; omega
                · have e1 : (x.toList == y.toList) = false := by rw [beq_eq_false_iff_ne]; exact fun e => hxy (toList_iff.1 e)
                  have e2 : (x.toList != y.toList) = true := by rw [bne, e1]; rfl
                  have HV : Hid (dstL l1 l2 (i + 1) (k + 1) = 1 + min (min a1 a2) a3) := by show _ = _; rw [HSS.out, HXI.out, HYK.out, if_neg (fun e => hxy (Option.some.inj e))]
                  clear hxy
                  by_cases h21 : a2 < a1
                  · have j1 : (a2 : Int) < (a1 : Int) := by omega
                    by_cases h32 : a3 < a2
                    · have j2 : (a3 : Int) < (a2 : Int) := by omega
                      have HRG2 := hfar (1 + (a3 : Int))
                      have HRH2 := hset (1 + (a3 : Int)) (by rw [HV.out]; omega)
                      have HE2 := hext (1 + (a3 : Int))
                      clear hset hfar hext
                      have q1 : IntKind.i64.wrap ((k : Int) + 1) = (k : Int) + 1 := IntWalk.i64_in _ (by omega)
                      have q2 : (0 : Int) ≤ (k : Int) + 1 := by omega
                      have q3 : ((k : Int) + 1).toNat = k + 1 := by omega
                      have q4 : IntKind.i64.wrap (1 + (a3 : Int)) = 1 + (a3 : Int) := IntWalk.i64_in _ (by omega)
                      go_wp2
                      go_region_law (go_simp)
                      all_goals
                        go_wp2
                        go_roundw
                        case rel => exact ⟨k + 1, by omega, by go_num, HRG2.out.heap rfl, HRH2.out.heap rfl, HE2.out.drew⟩
                        case measure => simp [intOf]; omega
                    · have j2 : ¬ (a3 : Int) < (a2 : Int) := by omega
                      have HRG2 := hfar (1 + (a2 : Int))
                      have HRH2 := hset (1 + (a2 : Int)) (by rw [HV.out]; omega)
                      have HE2 := hext (1 + (a2 : Int))
                      clear hset hfar hext
                      have q1 : IntKind.i64.wrap ((k : Int) + 1) = (k : Int) + 1 := IntWalk.i64_in _ (by omega)
                      have q2 : (0 : Int) ≤ (k : Int) + 1 := by omega
                      have q3 : ((k : Int) + 1).toNat = k + 1 := by omega
                      have q4 : IntKind.i64.wrap (1 + (a2 : Int)) = 1 + (a2 : Int) := IntWalk.i64_in _ (by omega)
                      go_wp2
                      go_region_law (go_simp)
                      all_goals
                        go_wp2
                        go_roundw
                        case rel => exact ⟨k + 1, by omega, by go_num, HRG2.out.heap rfl, HRH2.out.heap rfl, HE2.out.drew⟩
                        case measure => simp [intOf]; omega
                  · have j1 : ¬ (a2 : Int) < (a1 : Int) := by omega
                    by_cases h32 : a3 < a1
                    · have j2 : (a3 : Int) < (a1 : Int) := by omega
                      have HRG2 := hfar (1 + (a3 : Int))
                      have HRH2 := hset (1 + (a3 : Int)) (by rw [HV.out]; omega)
                      have HE2 := hext (1 + (a3 : Int))
                      clear hset hfar hext
                      have q1 : IntKind.i64.wrap ((k : Int) + 1) = (k : Int) + 1 := IntWalk.i64_in _ (by omega)
                      have q2 : (0 : Int) ≤ (k : Int) + 1 := by omega
                      have q3 : ((k : Int) + 1).toNat = k + 1 := by omega
                      have q4 : IntKind.i64.wrap (1 + (a3 : Int)) = 1 + (a3 : Int) := IntWalk.i64_in _ (by omega)
                      go_wp2
                      go_region_law (go_simp)
                      all_goals
                        go_wp2
                        go_roundw
                        case rel => exact ⟨k + 1, by omega, by go_num, HRG2.out.heap rfl, HRH2.out.heap rfl, HE2.out.drew⟩
                        case measure => simp [intOf]; omega
                    · have j2 : ¬ (a3 : Int) < (a1 : Int) := by omega
                      have HRG2 := hfar (1 + (a1 : Int))
                      have HRH2 := hset (1 + (a1 : Int)) (by rw [HV.out]; omega)
                      have HE2 := hext (1 + (a1 : Int))
                      clear hset hfar hext
                      have q1 : IntKind.i64.wrap ((k : Int) + 1) = (k : Int) + 1 := IntWalk.i64_in _ (by omega)
                      have q2 : (0 : Int) ≤ (k : Int) + 1 := by omega
                      have q3 : ((k : Int) + 1).toNat = k + 1 := by omega
                      have q4 : IntKind.i64.wrap (1 + (a1 : Int)) = 1 + (a1 : Int) := IntWalk.i64_in _ (by omega)
                      go_wp2
                      go_region_law (go_simp)
                      all_goals
                        go_wp2
                        go_roundw
                        case rel => exact ⟨k + 1, by omega, by go_num, HRG2.out.heap rfl, HRH2.out.heap rfl, HE2.out.drew⟩
                        case measure => simp [intOf]; omega
              · have i5 : ¬ (k : Int) < (n : Int) := by omega
                have hkN : k + 1 = N := by have := HNd.out; omega
                rw [hkN] at HRH
                clear hkN
                have HRG0 : Hid (IRow wr p N 0 id) := HRG.out.zero id
                go_wp2
                go_roundw
                case rel => exact ⟨i + 1, q, p, by omega, Ne.symm hpq, rfl, rfl, by go_num, hq, hp, HRH, HRG0, HE⟩
                case measure => simp [intOf]; omega
          · have i4 : ¬ (i : Int) < (m : Int) := by omega
            have him : i = m := by omega
            rw [him] at HRP
            have hnN : n < N := by have := HNd.out; omega
            have hnI : (n : Int) < (N : Int) := by omega
            have z1 := HRP.out.c hnN
            clear him
            go_wp2
            go_ret
            exact ⟨rfl, HEQ.out⟩
set_option maxHeartbeats 1600000 in
theorem distBig_any {A B : Option Addr} {m n : Nat} (c d : Nat) (h : 400 < m ∨ 400 < n) :
    Calls Tryz.prog 95 #[.slice A m c, .slice B n d] w fun e w' => e = .returned (.int .i64 (-1)) ∧ w = w' := by
  by_cases h1 : 400 < m
  · have i1 : (400 : Int) < (m : Int) := by omega
    clear h
    go_enter Tryz.func95, Tryz.ntmps95
    go_wp2
    go_ret
    exact ⟨rfl, rfl⟩
  · have i1 : ¬ (400 : Int) < (m : Int) := by omega
    have i2 : (400 : Int) < (n : Int) := by omega
    clear h
    go_enter Tryz.func95, Tryz.ntmps95
    go_wp2
    go_ret
    exact ⟨rfl, rfl⟩
set_option maxHeartbeats 3200000 in
theorem similar_any {A B : Option Addr} {m n : Nat} (c d : Nat) {l1 l2 : List ByteArray} (h1 : SlC stC 1 w A m l1) (h2 : SlC stC 1 w B n l2) :
    Calls Tryz.prog 62 #[.slice A m c, .slice B n d] w fun e w' => e = .returned (.int .i64 (simL l1 l2)) ∧ Ext w w' := by
  have hl1 := h1.len
  have hl2 := h2.len
  have hm6 := h1.le
  have hn6 := h2.le
  by_cases hb : 400 < m ∨ 400 < n
  · have HS : Hid (simL l1 l2 = -1) := by show _ = _; unfold simL; rw [← hl1, ← hl2, if_pos hb]
    clear hl1 hl2 h1 h2
    by_cases hmn : m < n
    · have i1 : (m : Int) < (n : Int) := by omega
      go_enter Tryz.func62, Tryz.ntmps62
      go_wp2_with (first
        | (go_at_call 95; refine Hid.out ?_))
      refine Hid.mk_ ((distBig_any c d hb).mono ?_)
      rintro e w1 ⟨rfl, rfl⟩
      go_wp2
      go_ret
      exact ⟨by rw [HS.out]; rfl, Ext.refl _⟩
    · have i1 : ¬ (m : Int) < (n : Int) := by omega
      go_enter Tryz.func62, Tryz.ntmps62
      go_wp2_with (first
        | (go_at_call 95; refine Hid.out ?_))
      refine Hid.mk_ ((distBig_any c d hb).mono ?_)
      rintro e w1 ⟨rfl, rfl⟩
      go_wp2
      go_ret
      exact ⟨by rw [HS.out]; rfl, Ext.refl _⟩
  · have hm4 : m ≤ 400 := by omega
    have hn4 : n ≤ 400 := by omega
    have hdl := dstL_le l1 l2 m n
    have HD : Hid (∀ W, Ext w W → Calls Tryz.prog 95 #[.slice A m c, .slice B n d] W fun e w' => e = .returned (.int .i64 (dstL l1 l2 m n : Nat)) ∧ Ext W w') := fun W hE => dist_any c d (h1.ext hE) (h2.ext hE) hm4 hn4
    have HS0 : Hid (simL l1 l2 = if max m n = 0 then 1000 else (((max m n - dstL l1 l2 m n) * 1000 / max m n : Nat) : Int)) := by show _ = _; unfold simL; rw [← hl1, ← hl2, if_neg hb]
    obtain ⟨D, hD⟩ : ∃ D, D = dstL l1 l2 m n := ⟨_, rfl⟩
    rw [← hD] at HD HS0 hdl
    clear hD hl1 hl2 h1 h2 hb hm6 hn6
    obtain ⟨X, hX⟩ : ∃ X, X = max m n := ⟨_, rfl⟩
    rw [← hX] at HS0 hdl
    have hX4 : X ≤ 400 := by omega
    by_cases hmn : m < n
    · have i1 : (m : Int) < (n : Int) := by omega
      obtain rfl : X = n := by omega
      clear hX hmn
      have i3 : ¬ (D : Int) < 0 := by omega
      by_cases h0 : X = 0
      · have e1 : ((X : Int) == 0) = true := by rw [h0]; rfl
        have HS : Hid (simL l1 l2 = 1000) := by show _ = _; rw [HS0.out, if_pos h0]
        clear HS0 h0
        go_enter Tryz.func62, Tryz.ntmps62
        go_wp2_with (first
          | (go_at_call 95; refine Hid.out ?_))
        refine Hid.mk_ ((HD.out _ (Ext.refl _)).mono ?_)
        rintro e w1 ⟨rfl, hE1⟩
        go_wp2
        go_ret
        exact ⟨by rw [HS.out]; rfl, hE1⟩
      · have e1 : ((X : Int) == 0) = false := by rw [beq_eq_false_iff_ne]; omega
        have e2 : ¬ (X : Int) = 0 := by omega
        have e3 : (0 : Int) < (X : Int) := by omega
        have HS : Hid (simL l1 l2 = (((X - D) * 1000 / X : Nat) : Int)) := by show _ = _; rw [HS0.out, if_neg h0]
        obtain ⟨q, hq⟩ : ∃ q : Nat, q = X - D := ⟨_, rfl⟩
        have hqI : (X : Int) - (D : Int) = (q : Int) := by omega
        rw [← hq] at HS
        have hq4 : q ≤ 400 := by omega
        obtain ⟨v, hv⟩ : ∃ v : Nat, v = q * 1000 / X := ⟨_, rfl⟩
        rw [← hv] at HS
        have hvI : ((q : Int) * 1000).tdiv (X : Int) = (v : Int) := by rw [hv, Int.tdiv_eq_ediv_of_nonneg (by omega)]; simp
        have hvI2 : ((q : Int) * 1000) / (X : Int) = (v : Int) := by rw [hv]; simp
        have hv4 : v ≤ 400000 := by rw [hv]; exact Nat.le_trans (Nat.div_le_self _ _) (by omega)
        clear HS0 h0 hq hv
        go_enter Tryz.func62, Tryz.ntmps62
        go_wp2_with (first
          | (go_at_call 95; refine Hid.out ?_))
        refine Hid.mk_ ((HD.out _ (Ext.refl _)).mono ?_)
        rintro e w1 ⟨rfl, hE1⟩
        go_wp2
        go_ret
        exact ⟨by rw [HS.out]; rfl, hE1⟩
    · have i1 : ¬ (m : Int) < (n : Int) := by omega
      obtain rfl : X = m := by omega
      clear hX hmn
      have i3 : ¬ (D : Int) < 0 := by omega
      by_cases h0 : X = 0
      · have e1 : ((X : Int) == 0) = true := by rw [h0]; rfl
        have HS : Hid (simL l1 l2 = 1000) := by show _ = _; rw [HS0.out, if_pos h0]
        clear HS0 h0
        go_enter Tryz.func62, Tryz.ntmps62
        go_wp2_with (first
          | (go_at_call 95; refine Hid.out ?_))
        refine Hid.mk_ ((HD.out _ (Ext.refl _)).mono ?_)
        rintro e w1 ⟨rfl, hE1⟩
        go_wp2
        go_ret
        exact ⟨by rw [HS.out]; rfl, hE1⟩
      · have e1 : ((X : Int) == 0) = false := by rw [beq_eq_false_iff_ne]; omega
        have e2 : ¬ (X : Int) = 0 := by omega
        have e3 : (0 : Int) < (X : Int) := by omega
        have HS : Hid (simL l1 l2 = (((X - D) * 1000 / X : Nat) : Int)) := by show _ = _; rw [HS0.out, if_neg h0]
        obtain ⟨q, hq⟩ : ∃ q : Nat, q = X - D := ⟨_, rfl⟩
        have hqI : (X : Int) - (D : Int) = (q : Int) := by omega
        rw [← hq] at HS
        have hq4 : q ≤ 400 := by omega
        obtain ⟨v, hv⟩ : ∃ v : Nat, v = q * 1000 / X := ⟨_, rfl⟩
        rw [← hv] at HS
        have hvI : ((q : Int) * 1000).tdiv (X : Int) = (v : Int) := by rw [hv, Int.tdiv_eq_ediv_of_nonneg (by omega)]; simp
        have hvI2 : ((q : Int) * 1000) / (X : Int) = (v : Int) := by rw [hv]; simp
        have hv4 : v ≤ 400000 := by rw [hv]; exact Nat.le_trans (Nat.div_le_self _ _) (by omega)
        clear HS0 h0 hq hv
        go_enter Tryz.func62, Tryz.ntmps62
        go_wp2_with (first
          | (go_at_call 95; refine Hid.out ?_))
        refine Hid.mk_ ((HD.out _ (Ext.refl _)).mono ?_)
        rintro e w1 ⟨rfl, hE1⟩
        go_wp2
        go_ret
        exact ⟨by rw [HS.out]; rfl, hE1⟩
end
end Go.Proofs.YtgnchicipmomlaaGreatDoor
