/- Functions of package strings, as far as their results are bounded. -/
import Derived.Test.YtgnchicipmomlaaGreatDoorPK05
import Derived.Test.YtgnchicipmomlaaGreatDoorPK06
import Derived.Test.YtgnchicipmomlaaGreatDoorPK07
import Derived.Lib.ItoaLen
import Derived.Lib.SmallJoins
import Derived.ChangeKeysEq
namespace Go.Proofs.YtgnchicipmomlaaGreatDoor
open Go.RowKit Go.Shelf Go.Sort Go.Lib
set_option maxRecDepth 100000
attribute [local go_sem] ext_refl_t ext_alloc_t ext_drew_t ext_drewN_t ext_alloc2_t ext_alloc3_t ext_alloc4_t ext_alloc5_t ext_alloc6_t ext_alloc7_t ext_alloc8_t ext_alloc1d_t ext_alloc2d_t ext_alloc3d_t ext_alloc4d_t
/-- A cut: two strings and a bool. -/
def CutR (s : ByteArray) (e : Ending) : Prop := ∃ (a b : ByteArray) (r : Bool), e = .returned (.tuple #[.string a, .string b, .bool r]) ∧ a.size ≤ s.size ∧ b.size ≤ s.size ∧ (r = true → a.size + b.size < s.size)
/-- A prefix of n bytes, cut off or not. -/
def CutP (s : ByteArray) (n : Nat) (e : Ending) : Prop := ∃ (a : ByteArray) (r : Bool), e = .returned (.tuple #[.string a, .bool r]) ∧ (r = false → a = s) ∧ (r = true → a.size + n = s.size)
theorem sz_mk (l : List UInt8) : (⟨l.toArray⟩ : ByteArray).size = l.length := by simp [ByteArray.size]
theorem sz_list (s : ByteArray) : s.data.toList.length = s.size := Array.length_toList
theorem hasPre_le {s p : List UInt8} (h : hasPrefix s p = true) : p.length ≤ s.length := (List.isPrefixOf_iff_prefix.1 h).length_le
/-- The table of powers of ten is as it was laid. -/
def PTt (w : World) : Prop := Lib.TabIs Tryz.prog w "internal/strconv.uint64pow10" .u64 Lib.pow10Tab
theorem PTt.ext {w w' : World} (h : PTt w) (hE : Ext w w') : PTt w' := Go.Joins.tab_stays (g := 3) (by kernel_rfl) h hE (Nat.le_refl _)
section
variable {w : World}
theorem indexByteT_any (s : ByteArray) (c : Nat) :
    Calls Tryz.prog 122 #[.string s, .int .u8 (c : Int)] w fun e w' => RetZs (fun z => -1 ≤ z ∧ z < 140737488355328 ∨ 140737488355328 < s.size) e ∧ Ext w w' := by
  have h := Any.strings_IndexByte Tryz.laysIB s (c : Int) w
  change Calls Tryz.prog 122 _ _ _ at h
  refine h.mono ?_
  rintro e w' ⟨rfl, rfl⟩
  refine ⟨⟨_, rfl, ?_⟩, Ext.refl _⟩
  have h1 := indexByte_ge s.data.toList (c : Int).toNat.toUInt8
  by_cases hs : 140737488355328 < s.size
  · exact .inr hs
  · refine .inl ⟨h1, ?_⟩
    obtain ⟨z, hz⟩ : ∃ z, z = indexByte s.data.toList (c : Int).toNat.toUInt8 := ⟨_, rfl⟩
    rw [← hz] at h1 ⊢
    by_cases h0 : z < 0
    · omega
    · obtain ⟨o, ho⟩ : ∃ o : Nat, z = o := ⟨z.toNat, by omega⟩
      have h2 := (indexByte_some (hz.symm.trans ho)).1
      have h3 := (List.getElem?_eq_some_iff.1 h2).1
      rw [sz_list] at h3
      omega
theorem cutPreT_any (s p : ByteArray) :
    Calls Tryz.prog 42 #[.string s, .string p] w fun e w' => CutP s p.size e ∧ Ext w w' := by
  have h := Any.strings_CutPrefix Tryz.laysCP s p w
  change Calls Tryz.prog 42 _ _ _ at h
  refine h.mono ?_
  rintro e w' ⟨rfl, rfl⟩
  refine ⟨⟨_, _, rfl, fun hr => ?_, fun hr => ?_⟩, Ext.refl _⟩
  · unfold trimPrefix
    rw [hr]
    rfl
  · unfold trimPrefix
    rw [if_pos hr, sz_mk, List.length_drop, sz_list, sz_list]
    have h2 := hasPre_le hr
    rw [sz_list, sz_list] at h2
    omega
set_option maxHeartbeats 800000 in
theorem cutlite_any (s : ByteArray) (c : UInt8) (hs : s.size ≤ 140737488351232) :
    Calls Tryz.prog 69 #[.string s, .string ⟨#[c]⟩] w fun e w' => CutR s e ∧ Ext w w' := by
  have h0 := Any.stringslite_Index_one Tryz.laysIx s c w
  change Calls Tryz.prog 99 _ _ _ at h0
  have h1 := indexByte_ge s.data.toList c
  obtain ⟨z, hz⟩ : ∃ z, z = indexByte s.data.toList c := ⟨_, rfl⟩
  rw [← hz] at h0 h1
  have HC := Lib.hid h0
  clear h0
  by_cases hz0 : z < 0
  · obtain rfl : z = -1 := by omega
    clear hz h1
    go_enter Tryz.func69, Tryz.ntmps69
    go_wp2_with (first
      | (go_at_call 99; refine Hid.out ?_))
    refine Hid.mk_ ((HC.out).mono ?_)
    rintro e w2 ⟨rfl, rfl⟩
    go_wp2
    go_ret3
    exact ⟨⟨_, _, _, rfl, Nat.le_refl _, Nat.zero_le _, by simp⟩, Ext.refl _⟩
  · obtain ⟨o, rfl⟩ : ∃ o : Nat, z = o := ⟨z.toNat, by omega⟩
    have h3 := (List.getElem?_eq_some_iff.1 (indexByte_some hz.symm).1).1
    rw [sz_list] at h3
    clear hz h1 hz0
    have b1 : (o : Int) ≤ (s.size : Int) := by omega
    have b2 : (o : Int) + 1 ≤ (s.size : Int) := by omega
    go_enter Tryz.func69, Tryz.ntmps69
    go_wp2_with (first
      | (go_at_call 99; refine Hid.out ?_))
    refine Hid.mk_ ((HC.out).mono ?_)
    rintro e w2 ⟨rfl, rfl⟩
    go_wp2
    refine wp_region_ext_lit (by kernel_rfl) (by kernel_rfl) ?_
    try dsimp only [List.append]
    repeat (go_big_quiet_step (fail))
    refine wpQuiet_nil ?_
    rintro w5 ⟨⟨_, h5⟩, rfl⟩
    try dsimp only
    go_wp2
    go_ret3
    exact ⟨⟨_, _, _, rfl, by rw [ByteArray.size_extract]; omega, by rw [ByteArray.size_extract]; omega, fun _ => by rw [ByteArray.size_extract, ByteArray.size_extract]; omega⟩, h5⟩
theorem cutT_any (s : ByteArray) (c : UInt8) (hs : s.size ≤ 140737488351232) :
    Calls Tryz.prog 41 #[.string s, .string ⟨#[c]⟩] w fun e w' => CutR s e ∧ Ext w w' := by
  go_enter Tryz.func41, Tryz.ntmps41
  go_wp2_with (first
    | (go_at_call 69; refine Hid.out ?_))
  refine Hid.mk_ ((cutlite_any s c hs).mono ?_)
  rintro e w2 ⟨⟨a, b, r, rfl, h1, h2, h3⟩, hE2⟩
  have HR := Lib.hid h3
  clear h3
  go_wp2
  go_ret3
  exact ⟨⟨_, _, _, rfl, h1, h2, HR.out⟩, hE2⟩
theorem trimLeftT_any (s t : ByteArray) (ht : t.size ≤ 100) (ha : ∀ (j : Nat) b, t.data.toList[j]? = some b → b.toNat < 128) :
    Calls Tryz.prog 113 #[.string s, .string t] w fun e w' => RetStr s.size e ∧ Ext w w' := by
  have h := Any.strings_TrimLeft_laid Tryz.laysTL (by kernel_rfl) s t w (by omega) ha
  change Calls Tryz.prog 113 _ _ _ at h
  refine h.mono ?_
  rintro e w' ⟨rfl, hE⟩
  refine ⟨⟨_, rfl, ?_⟩, hE⟩
  rw [sz_mk]
  have h1 := (List.dropWhile_sublist (fun x => t.data.toList.contains x) (l := s.data.toList)).length_le
  rw [sz_list] at h1
  exact h1
theorem trimRightT_any (s : ByteArray) (c : UInt8) (hc : c.toNat < 128) (hs : s.size ≤ 140737488355328) :
    Calls Tryz.prog 112 #[.string s, .string ⟨#[c]⟩] w fun e w' => RetStr s.size e ∧ Ext w w' := by
  have h := Any.strings_TrimRight_one Tryz.laysTR s c hc w (by omega)
  change Calls Tryz.prog 112 _ _ _ at h
  refine h.mono ?_
  rintro e w' ⟨rfl, rfl⟩
  refine ⟨⟨_, rfl, ?_⟩, Ext.refl _⟩
  rw [sz_mk]
  unfold trimRightB
  rw [List.length_reverse]
  have h1 := (List.dropWhile_sublist (fun x => x == c) (l := s.data.toList.reverse)).length_le
  rw [List.length_reverse, sz_list] at h1
  exact h1
end
end Go.Proofs.YtgnchicipmomlaaGreatDoor

/- The program's scripts: words, marks, bytes as they are written. -/
namespace Go.Proofs.YtgnchicipmomlaaGreatDoor
open Go.RowKit
set_option maxRecDepth 100000
attribute [local go_sem] ext_refl_t ext_alloc_t ext_drew_t ext_drewN_t ext_alloc2_t ext_alloc3_t ext_alloc4_t ext_alloc5_t ext_alloc6_t ext_alloc7_t ext_alloc8_t ext_alloc1d_t ext_alloc2d_t ext_alloc3d_t ext_alloc4d_t
def MarkR (e : Ending) : Prop := ∃ (s : ByteArray) (b : Bool), e = .returned (.tuple #[.string s, .bool b]) ∧ s.size ≤ 1
theorem eq2i (W : World) (a b c d : Int) : (Op.equalIn 10000 239 (.agg #[.int .i64 a, .int .i64 b]) (.agg #[.int .i64 c, .int .i64 d])).run Tryz.prog W = .ok (a == c && b == d) W := by
  obtain ⟨i, hi, -⟩ : ∃ i, Tryz.prog.info? 3 = some i ∧ True := by
    cases h : Tryz.prog.info? 3 with
    | none => exact absurd h (by have : (Tryz.prog.info? 3).isSome = true := by kernel_rfl
                                 intro hh; rw [hh] at this; cases this)
    | some i => exact ⟨i, rfl, trivial⟩
  have h := run_equalIn_array (P := Tryz.prog) W 9999 #[.int .i64 a, .int .i64 b] #[.int .i64 c, .int .i64 d] Tryz.underlying239 hi
  rw [show (10000 : Nat) = 9999 + 1 from rfl, h]
  have hc : Tryz.prog.cellsOf 3 = 1 := by kernel_rfl
  have p0 : ∀ x y : Value, (part 3 #[x, y] 0).run Tryz.prog W = .ok x W := fun x y => by kernel_rfl
  have p1 : ∀ x y : Value, (part 3 #[x, y] 1).run Tryz.prog W = .ok y W := fun x y => by kernel_rfl
  have q : ∀ x y : Int, (Op.equalIn 9999 3 (.int .i64 x) (.int .i64 y)).run Tryz.prog W = .ok (x == y) W := fun x y => run_equalIn_int W 9998 _ _ _ _ _ Tryz.underlying3
  rw [hc, show List.range 2 = [0, 1] from rfl]
  simp only [Op.eqItems, Sem.run_bind, Nat.zero_mul, Nat.one_mul, p0, q, Result.andThen_ok]
  clear h hi p0
  cases a == c with
  | false => simp
  | true =>
    cases h2 : b == d with
    | false => simp [p1, q]; simpa using h2
    | true => simp [p1, q]; simpa using h2
section
variable {w : World}
set_option maxHeartbeats 1600000 in
theorem wordS_any (s : ByteArray) (hs : GoodStr s) :
    Calls Tryz.prog 44 #[.string s] w fun e w' => RetB (fun _ => True) e ∧ Ext w w' := by
  unfold GoodStr at hs
  go_enter Tryz.func44, Tryz.ntmps44
  go_wp2
  go_loopw [6] (fun i wr => ∃ q : Nat, q ≤ s.size ∧ i = .int .i64 q ∧ Ext w wr) (fun i _ => s.size - (intOf i).toNat)
  case atStart => exact ⟨0, Nat.zero_le _, rfl, Ext.refl _⟩
  case round =>
    obtain ⟨q, hq, rfl, hE⟩ := hrel
    by_cases hlt : q < s.size
    · obtain ⟨z, hz⟩ : ∃ z : Nat, s[q].toNat = z := ⟨_, rfl⟩
      have hz256 : z < 256 := by rw [← hz]; exact UInt8.toNat_lt _
      have hi1 : (q : Int) < (s.size : Int) := by omega
      go_wp2
      all_goals first
        | (go_ret; exact ⟨⟨_, rfl, trivial⟩, hE⟩)
        | (refine ⟨⟨q + 1, by omega, by go_num, hE⟩, ?_⟩; first | (simp [intOf]; omega) | (simp [intOf]) | omega)
        | (go_roundw; (case rel => exact ⟨q + 1, by omega, by go_num, hE⟩); (case measure => first | (simp [intOf]; omega) | (simp [intOf])))
    · have hi1 : ¬ (q : Int) < (s.size : Int) := by omega
      go_wp2
      all_goals first
        | (go_ret; exact ⟨⟨_, rfl, trivial⟩, hE⟩)
        | (refine ⟨⟨q + 1, by omega, by go_num, hE⟩, ?_⟩; first | (simp [intOf]; omega) | (simp [intOf]) | omega)
        | (go_roundw; (case rel => exact ⟨q + 1, by omega, by go_num, hE⟩); (case measure => first | (simp [intOf]; omega) | (simp [intOf])))

set_option maxHeartbeats 3200000 in
theorem mark_any (x : Itm) :
    Calls Tryz.prog 124 #[itmV x] w fun e w' => MarkR e ∧ Ext w w' := by
  obtain ⟨text, rng, no, least, most, ⟨A, m, c⟩⟩ := x
  unfold itmV
  dsimp only
  have q1 := fun W => eq2i W least most 1 1
  have q2 := fun W => eq2i W least most 0 1
  have q3 := fun W => eq2i W least most 0 (-1)
  have q4 := fun W => eq2i W least most 1 (-1)
  generalize (least == 1 && most == 1) = r1 at q1
  generalize (least == 0 && most == 1) = r2 at q2
  generalize (least == 0 && most == -1) = r3 at q3
  generalize (least == 1 && most == -1) = r4 at q4
  cases r1
  · cases r2
    · cases r3
      · cases r4
        · go_enter Tryz.func124, Tryz.ntmps124
          go_wp2
          go_ret2
          exact ⟨⟨_, _, rfl, by decide⟩, (Ext.refl w).alloc _⟩
        · go_enter Tryz.func124, Tryz.ntmps124
          go_wp2
          go_ret2
          exact ⟨⟨_, _, rfl, by decide⟩, (Ext.refl w).alloc _⟩
      · go_enter Tryz.func124, Tryz.ntmps124
        go_wp2
        go_ret2
        exact ⟨⟨_, _, rfl, by decide⟩, (Ext.refl w).alloc _⟩
    · go_enter Tryz.func124, Tryz.ntmps124
      go_wp2
      go_ret2
      exact ⟨⟨_, _, rfl, by decide⟩, (Ext.refl w).alloc _⟩
  · go_enter Tryz.func124, Tryz.ntmps124
    go_wp2
    go_ret2
    exact ⟨⟨_, _, rfl, by decide⟩, (Ext.refl w).alloc _⟩

set_option maxHeartbeats 1600000 in
theorem hex_any (z : Nat) (hz : z < 256) :
    Calls Tryz.prog 152 #[.int .u8 (z : Int)] w fun e w' => RetStr 4 e ∧ Ext w w' := by
  obtain ⟨q, hq⟩ : ∃ q : Nat, q = z / 16 := ⟨_, rfl⟩
  obtain ⟨r, hr⟩ : ∃ r : Nat, r = z % 16 := ⟨_, rfl⟩
  have e1 : IntKind.u8.wrap ((z : Int) / 16) = (q : Int) := by rw [IntWalk.u8_in _ (by omega)]; omega
  have e4 : (z : Int) % 16 = (r : Int) := by omega
  have q16 : q < 16 := by omega
  have r16 : r < 16 := by omega
  have q1 : (q : Int) < 16 := by omega
  have r1 : (r : Int) < 16 := by omega
  have q0 : (0 : Int) ≤ (q : Int) := by omega
  have r0 : (0 : Int) ≤ (r : Int) := by omega
  obtain ⟨u, x1⟩ : ∃ u : UInt8, ∀ hb, (⟨#[48, 49, 50, 51, 52, 53, 54, 55, 56, 57, 97, 98, 99, 100, 101, 102]⟩ : ByteArray)[q]'hb = u := ⟨(⟨#[48, 49, 50, 51, 52, 53, 54, 55, 56, 57, 97, 98, 99, 100, 101, 102]⟩ : ByteArray)[q]'q16, fun _ => rfl⟩
  obtain ⟨v, x2⟩ : ∃ v : UInt8, ∀ hb, (⟨#[48, 49, 50, 51, 52, 53, 54, 55, 56, 57, 97, 98, 99, 100, 101, 102]⟩ : ByteArray)[r]'hb = v := ⟨(⟨#[48, 49, 50, 51, 52, 53, 54, 55, 56, 57, 97, 98, 99, 100, 101, 102]⟩ : ByteArray)[r]'r16, fun _ => rfl⟩
  have hcv : (convert 180 9 (.slice (some ⟨w.heap.size, 0, none⟩) 2 2)).run Tryz.prog (w.alloc (.cells #[.int .u8 (u.toNat : Int), .int .u8 (v.toNat : Int)] 5)).drew = .ok (.string (str [u, v])) (w.alloc (.cells #[.int .u8 (u.toNat : Int), .int .u8 (v.toNat : Int)] 5)).drew :=
    conv_str ((OsB.new_ w w.heap.size (Nat.le_refl _) [u, v] (by simp) _ rfl 2 rfl).sl.ext (Ext.refl _).drew) 2
  obtain ⟨t, ht⟩ : ∃ t, t = str [u, v] := ⟨_, rfl⟩
  have hts : t.size = 2 := by rw [ht]; rfl
  rw [← ht] at hcv
  clear hq hr ht
  go_enter Tryz.func152, Tryz.ntmps152
  go_wp2
  go_region
  all_goals
    go_wp2
    go_ret
    exact ⟨⟨_, rfl, by rw [ByteArray.size_append, hts]; exact Nat.le_refl 4⟩, ((Ext.refl _).alloc _).drew⟩

set_option maxHeartbeats 1600000 in
theorem quoted_any (z : Nat) (hz : z < 256) :
    Calls Tryz.prog 128 #[.int .u8 (z : Int)] w fun e w' => RetStr 4 e ∧ Ext w w' := by
  have hcv := conv1t w z hz
  obtain ⟨t, ht⟩ : ∃ t, t = str [byt z] := ⟨_, rfl⟩
  have hts : t.size = 1 := by rw [ht]; rfl
  rw [← ht] at hcv
  clear ht
  by_cases h1 : z < 32
  · have i1 : (z : Int) < 32 := by omega
    go_enter Tryz.func128, Tryz.ntmps128
    go_wp2_with (first
      | (go_at_call 152; refine Hid.out ?_))
    refine Hid.mk_ ((hex_any z hz).mono ?_)
    rintro e w2 ⟨⟨t2, rfl, ht2⟩, hE2⟩
    go_wp2
    go_ret
    exact ⟨⟨_, rfl, ht2⟩, hE2⟩
  have i1 : ¬ (z : Int) < 32 := by omega
  by_cases h2 : 126 < z
  · have i2 : 126 < (z : Int) := by omega
    go_enter Tryz.func128, Tryz.ntmps128
    go_wp2_with (first
      | (go_at_call 152; refine Hid.out ?_))
    refine Hid.mk_ ((hex_any z hz).mono ?_)
    rintro e w2 ⟨⟨t2, rfl, ht2⟩, hE2⟩
    go_wp2
    go_ret
    exact ⟨⟨_, rfl, ht2⟩, hE2⟩
  have i2 : ¬ 126 < (z : Int) := by omega
  by_cases h3 : z = 34
  · have b1 : ((z : Int) == 34) = true := by simp [h3]
    clear h3 h1 h2
    go_enter Tryz.func128, Tryz.ntmps128
    go_wp2
    go_ret
    exact ⟨⟨_, rfl, by rw [ByteArray.size_append, hts]; decide⟩, (Ext.refl w).alloc _⟩
  have b1 : ((z : Int) == 34) = false := by simp; omega
  by_cases h4 : z = 92
  · have b2 : ((z : Int) == 92) = true := by simp [h4]
    clear h3 h1 h2 h4
    go_enter Tryz.func128, Tryz.ntmps128
    go_wp2
    go_ret
    exact ⟨⟨_, rfl, by rw [ByteArray.size_append, hts]; decide⟩, (Ext.refl w).alloc _⟩
  have b2 : ((z : Int) == 92) = false := by simp; omega
  clear h1 h2 h3 h4
  go_enter Tryz.func128, Tryz.ntmps128
  go_wp2
  go_ret
  exact ⟨⟨_, rfl, by rw [hts]; decide⟩, (Ext.refl w).alloc _⟩

set_option maxHeartbeats 1600000 in
theorem bracketed_any (z : Nat) (hz : z < 256) :
    Calls Tryz.prog 129 #[.int .u8 (z : Int)] w fun e w' => RetStr 4 e ∧ Ext w w' := by
  by_cases h1 : z ≤ 32
  · have i1 : (z : Int) ≤ 32 := by omega
    go_enter Tryz.func129, Tryz.ntmps129
    go_wp2_with (first
      | (go_at_call 152; refine Hid.out ?_))
    refine Hid.mk_ ((hex_any z hz).mono ?_)
    rintro e w2 ⟨⟨t2, rfl, ht2⟩, hE2⟩
    go_wp2
    go_ret
    exact ⟨⟨_, rfl, ht2⟩, hE2⟩
  have i1 : ¬ (z : Int) ≤ 32 := by omega
  by_cases h2 : 126 < z
  · have i2 : 126 < (z : Int) := by omega
    go_enter Tryz.func129, Tryz.ntmps129
    go_wp2_with (first
      | (go_at_call 152; refine Hid.out ?_))
    refine Hid.mk_ ((hex_any z hz).mono ?_)
    rintro e w2 ⟨⟨t2, rfl, ht2⟩, hE2⟩
    go_wp2
    go_ret
    exact ⟨⟨_, rfl, ht2⟩, hE2⟩
  have i2 : ¬ 126 < (z : Int) := by omega
  clear h1 h2
  go_enter Tryz.func129, Tryz.ntmps129
  go_wp2_with (first
    | (go_at_call 122; refine Hid.out ?_))
  refine Hid.mk_ ((indexByteT_any _ z).mono ?_)
  rintro e w2 ⟨⟨y, rfl, hy⟩, hE2⟩
  have hcv := conv1t w2 z hz
  obtain ⟨t, ht⟩ : ∃ t, t = str [byt z] := ⟨_, rfl⟩
  have hts : t.size = 1 := by rw [ht]; rfl
  rw [← ht] at hcv
  clear ht hy
  by_cases h0 : 0 ≤ y
  · go_wp2
    go_ret
    exact ⟨⟨_, rfl, by rw [ByteArray.size_append, hts]; decide⟩, hE2.alloc _⟩
  · go_wp2
    go_ret
    exact ⟨⟨_, rfl, by rw [hts]; decide⟩, hE2.alloc _⟩
end
end Go.Proofs.YtgnchicipmomlaaGreatDoor

/- The program's scripts: an item is written. -/
namespace Go.Proofs.YtgnchicipmomlaaGreatDoor
open Go.RowKit
set_option maxRecDepth 100000
attribute [local go_sem] ext_refl_t ext_alloc_t ext_drew_t ext_drewN_t ext_alloc2_t ext_alloc3_t ext_alloc4_t ext_alloc5_t ext_alloc6_t ext_alloc7_t ext_alloc8_t ext_alloc1d_t ext_alloc2d_t ext_alloc3d_t ext_alloc4d_t
/-- An item, a rule, a state of a text of at most 4000000 bytes. -/
def LgI (x : Itm) : Prop := x.text.size ≤ 4000000 ∧ x.rng.length ≤ 4000000
def LgR (x : Rul) : Prop := x.kind.size ≤ 4000000 ∧ x.next.size ≤ 4000000 ∧ x.items.length ≤ 21 ∧ ∀ i ∈ x.items, LgI i
def LgT (x : Sta) : Prop := x.name.size ≤ 4000000 ∧ ∀ r ∈ x.rules, LgR r
theorem ext_of {B : Nat} {w0 w : World} (e : B = w0.heap.size) (h : Below B w0 w) : Ext w0 w := by rw [e] at h; exact h
theorem Below.size_le' {B : Nat} {w0 w : World} (h : Below B w0 w) (e : B = w0.heap.size) : B ≤ w.heap.size := by rw [e]; exact h.size
section
variable {w0 w : World}
set_option maxHeartbeats 6400000 in
theorem itemS_any {x : Itm} (hx : ItmW w0 x) (hlg : LgI x) (hE : Ext w0 w) {b n : Nat} (hb : BuN w w0.heap.size b n) (hn : n + 40000000 ≤ 140737488355328) :
    Calls Tryz.prog 107 #[.pointer (some ⟨b, 0, none⟩), itmV x] w fun e w' => e = .returned (.tuple #[]) ∧ BuN w' w0.heap.size b (n + 40000000) ∧ Ext w0 w' ∧ FrB w w' := by
  unfold LgI at hlg
  unfold itmV
  obtain ⟨text, rng, no, least, most, ⟨A, m, c⟩⟩ := x
  have hr := hx.r
  have hgt := hx.text
  have hgl := hx.least
  have hgm := hx.most
  unfold GoodStr at hgt
  unfold I64 at hgl hgm
  dsimp only at hr hgt hgl hgm ⊢
  have HL := Lib.hid hr.sl.len
  have hle := hr.sl.le
  dsimp only at HL hle
  dsimp only at hlg
  obtain ⟨hlg1, hlg2⟩ := hlg
  have hm4 : m ≤ 4000000 := by rw [HL.out]; exact hlg2
  clear hlg2
  obtain ⟨B0, hB0⟩ : ∃ B0, B0 = w0.heap.size := ⟨_, rfl⟩
  rw [← hB0] at hb ⊢
  have HB0 := Lib.hid hB0
  have hEB : Below B0 w0 w := by rw [hB0]; exact hE
  clear hB0
  obtain ⟨W0, hW0⟩ : ∃ W0, W0 = w.alloc (Obj.cells #[.string text, .slice A m c, .bool no, .int .i64 least, .int .i64 most] 152) := ⟨_, rfl⟩
  have hbx : Blk W0 w.heap.size 152 #[.string text, .slice A m c, .bool no, .int .i64 least, .int .i64 most] := by rw [hW0]; exact Blk.new w _ _
  have hE0 : Ext w W0 := by rw [hW0]; exact (Ext.refl w).alloc _
  have hbB := hb.ext hE0
  have hf0 := FrB.of_ext hE0
  have hle0 : B0 ≤ W0.heap.size := by have h1 := hE.size_le; have h2 := hE0.size_le; rw [HB0.out]; omega
  go_enter Tryz.func107, Tryz.ntmps107
  go_wp2_with (first
    | (go_at_call 124; refine Hid.out ?_))
  refine Hid.mk_ ((mark_any ⟨text, rng, no, least, most, ⟨A, m, c⟩⟩).mono ?_)
  rintro e w1 ⟨⟨suf, bb, rfl, hsuf⟩, hE1⟩
  rw [← hW0] at hE1
  have hb1 := hbB.ext hE1
  have hf1 := hf0.ext hE1
  have hx1 := hbx.below hE1 hbx.lt
  have hB1 : Below B0 w0 w1 := (hEB.trans (Below.mono hE0 (by rw [HB0.out]; exact hE.size_le))).trans (Below.mono hE1 hle0)
  clear hbx hE1 hW0 hE0 hbB hf0 hb
  have hle1 : B0 ≤ w1.heap.size := Below.size_le' hB1 HB0.out
  have x0 := hx1.cell 0
  simp at x0
  by_cases ht : text.size = 0
  · have hte := tl_empty ht
    clear ht
    go_wp2_with (first
      | (go_at_call 106; refine Hid.out ?_))
    refine Hid.mk_ ((wbyteF_any 91 (by decide) hb1 (by omega) hle1).mono ?_)
    rintro e w2 ⟨rfl, hb2, hB2, hf2⟩
    have hx2 := hf2.block _ _ _ hx1 (by decide) (by decide)
    have hB2' := hB1.trans hB2
    have hle2 : B0 ≤ w2.heap.size := Below.size_le' hB2' HB0.out
    have x2 := hx2.cell 2
    have x1 := hx2.cell 1
    simp at x2 x1
    cases no with
    | false =>
      have hb3 := hb2.mono (n' := n + 2) (by omega)
      have hf3 := hf1.trans hf2
      clear hb1 hf1 hx1 hB1 hle1 x0 hb2 hB2 hf2
      go_wp2
      go_loopw [46] (fun i wr => ∃ (q : Nat), q ≤ m ∧ i = .int .i64 q ∧ Hid (BuN wr B0 b (n + 2 + 9 * q)) ∧ Hid (Below B0 w0 wr) ∧ Hid (FrB w wr)) (fun i _ => m - (intOf i).toNat)
      case atStart => exact ⟨0, Nat.zero_le _, rfl, hb3, hB2', hf3⟩
      case round =>
        obtain ⟨q, hq, rfl, HU, HB, HF⟩ := hrel
        have hrle : B0 ≤ wr.heap.size := Below.size_le' HB.out HB0.out
        have hE0r : Ext w0 wr := by have h1 := HB.out; rw [HB0.out] at h1; exact h1
        by_cases hlt : q < m
        · obtain ⟨b3, off, e0, hbl, hcs⟩ := (hr.sl.ext hE0r).at_ hlt (by omega)
          try dsimp only at e0
          subst e0
          have hlt1 : q < rng.length := by rw [← HL.out]; exact hlt
          obtain ⟨⟨y, z⟩, hyq⟩ : ∃ y, y = rng[q] := ⟨_, rfl⟩
          have y0 := hcs q hlt1 0 (by omega)
          have y1 := hcs q hlt1 1 (by omega)
          simp only [← hyq, rngC, bv, List.getElem_cons_zero, List.getElem_cons_succ, Nat.add_zero, ← Nat.add_assoc] at y0 y1
          have hi1 : (q : Int) < (m : Int) := by omega
          clear hcs hyq
          have by1 : y.toNat < 256 := y.toNat_lt
          have bz1 : z.toNat < 256 := z.toNat_lt
          obtain ⟨yn, hyn⟩ : ∃ yn, yn = y.toNat := ⟨_, rfl⟩
          obtain ⟨zn, hzn⟩ : ∃ zn, zn = z.toNat := ⟨_, rfl⟩
          rw [← hyn] at y0 by1
          rw [← hzn] at y1 bz1
          clear hyn hzn
          have hxr := Blk.new wr 179 #[.int .u8 (yn : Int), .int .u8 (zn : Int)]
          have hE3 : Ext wr (wr.alloc (Obj.cells #[.int .u8 (yn : Int), .int .u8 (zn : Int)] 179)) := (Ext.refl wr).alloc _
          go_wp2_with (first
            | (go_at_call 129; refine Hid.out ?_))
          refine Hid.mk_ ((bracketed_any yn by1).mono ?_)
          rintro e w4 ⟨⟨t2, rfl, ht2⟩, hE4⟩
          have hE5 := hE3.trans hE4
          have hle4 : B0 ≤ w4.heap.size := by have := hE5.size_le; omega
          have hxr4 := hxr.below hE4 hxr.lt
          go_wp2_with (first
            | (go_at_call 105; refine Hid.out ?_))
          refine Hid.mk_ ((wstrF_any t2 (HU.out.ext hE5) (by omega) hle4).mono ?_)
          rintro e w5 ⟨rfl, hb5, hB5, hf5⟩
          have hxr5 := hf5.block _ _ _ hxr4 (by decide) (by decide)
          have k0 := hxr5.cell 0
          have k1 := hxr5.cell 1
          simp at k0 k1
          have hB5' := (HB.out.trans (Below.mono hE5 hrle)).trans hB5
          have hF5' := (HF.out.ext hE5).trans hf5
          have hle5 : B0 ≤ w5.heap.size := Below.size_le' hB5' HB0.out
          clear hxr hE3 hE4 hxr4 hB5 hf5
          by_cases hyz : zn = yn
          · have c1 : ((zn : Int) != (yn : Int)) = false := by simp [hyz]
            have c2 : ((zn : Int) == (yn : Int)) = true := by simp [hyz]
            have HU6 : Hid (BuN w5 B0 b (n + 2 + 9 * (q + 1))) := hb5.mono (by omega)
            have HB6 := Lib.hid hB5'
            have HF6 := Lib.hid hF5'
            clear hyz hb5 hB5' hF5'
            go_wp2
            all_goals first
              | (go_ret; exact ⟨rfl, hb2, hE, hf1⟩)
              | (refine ⟨⟨q + 1, by omega, by go_num, HU6, HB6, HF6⟩, ?_⟩; first | (simp [intOf]; omega) | (simp [intOf]) | omega)
              | (go_roundw; (case rel => exact ⟨q + 1, by omega, by go_num, HU6, HB6, HF6⟩); (case measure => first | (simp [intOf]; omega) | (simp [intOf])))
          · have c1 : ((zn : Int) != (yn : Int)) = true := by simp; omega
            have c2 : ((zn : Int) == (yn : Int)) = false := by simp; omega
            clear hyz
            go_wp2_with (first
              | (go_at_call 129; refine Hid.out ?_))
            refine Hid.mk_ ((bracketed_any zn bz1).mono ?_)
            rintro e w6 ⟨⟨t3, rfl, ht3⟩, hE6⟩
            have hle6 : B0 ≤ w6.heap.size := by have := hE6.size_le; omega
            have hss : (⟨#[45]⟩ ++ t3 : ByteArray).size ≤ 5 := by simp only [ByteArray.size_append, bsz1]; omega
            go_wp2_with (first
              | (go_at_call 105; refine Hid.out ?_))
            refine Hid.mk_ ((wstrF_any _ (hb5.ext hE6) (by omega) hle6).mono ?_)
            rintro e w7 ⟨rfl, hb7, hB7, hf7⟩
            have HU6 : Hid (BuN w7 B0 b (n + 2 + 9 * (q + 1))) := hb7.mono (by omega)
            have HB6 : Hid (Below B0 w0 w7) := (hB5'.trans (Below.mono hE6 hle5)).trans hB7
            have HF6 : Hid (FrB w w7) := (hF5'.ext hE6).trans hf7
            clear hb5 hB5' hF5' hb7 hB7 hf7
            go_wp2
            all_goals first
              | (go_ret; exact ⟨rfl, hb2, hE, hf1⟩)
              | (refine ⟨⟨q + 1, by omega, by go_num, HU6, HB6, HF6⟩, ?_⟩; first | (simp [intOf]; omega) | (simp [intOf]) | omega)
              | (go_roundw; (case rel => exact ⟨q + 1, by omega, by go_num, HU6, HB6, HF6⟩); (case measure => first | (simp [intOf]; omega) | (simp [intOf])))
        · have hi1 : ¬ (q : Int) < (m : Int) := by omega
          have hss : (⟨#[93]⟩ ++ suf : ByteArray).size ≤ 2 := by simp only [ByteArray.size_append, bsz1]; omega
          go_wp2_with (first
            | (go_at_call 105; refine Hid.out ?_))
          refine Hid.mk_ ((wstrF_any _ HU.out (by omega) hrle).mono ?_)
          rintro e w4 ⟨rfl, hb4, hB4, hf4⟩
          go_wp2
          go_end0
          exact ⟨rfl, hb4.mono (by omega), ext_of HB0.out (HB.out.trans hB4), HF.out.trans hf4⟩
    | true =>
      go_wp2_with (first
        | (go_at_call 106; refine Hid.out ?_))
      refine Hid.mk_ ((wbyteF_any 94 (by decide) hb2 (by omega) hle2).mono ?_)
      rintro e w3 ⟨rfl, hb3, hB3, hf3⟩
      have hx3 := hf3.block _ _ _ hx2 (by decide) (by decide)
      have hB3' := hB2'.trans hB3
      have hle3 : B0 ≤ w3.heap.size := Below.size_le' hB3' HB0.out
      have x1 := hx3.cell 1
      simp at x1
      have hf4 := (hf1.trans hf2).trans hf3
      clear hb1 hf1 hx1 hB1 hle1 x0 hb2 hB2 hf2 hx2 hB2' hle2 x2 hB3 hf3
      go_wp2
      go_loopw [46] (fun i wr => ∃ (q : Nat), q ≤ m ∧ i = .int .i64 q ∧ Hid (BuN wr B0 b (n + 2 + 9 * q)) ∧ Hid (Below B0 w0 wr) ∧ Hid (FrB w wr)) (fun i _ => m - (intOf i).toNat)
      case atStart => exact ⟨0, Nat.zero_le _, rfl, hb3, hB3', hf4⟩
      case round =>
        obtain ⟨q, hq, rfl, HU, HB, HF⟩ := hrel
        have hrle : B0 ≤ wr.heap.size := Below.size_le' HB.out HB0.out
        have hE0r : Ext w0 wr := by have h1 := HB.out; rw [HB0.out] at h1; exact h1
        by_cases hlt : q < m
        · obtain ⟨b3, off, e0, hbl, hcs⟩ := (hr.sl.ext hE0r).at_ hlt (by omega)
          try dsimp only at e0
          subst e0
          have hlt1 : q < rng.length := by rw [← HL.out]; exact hlt
          obtain ⟨⟨y, z⟩, hyq⟩ : ∃ y, y = rng[q] := ⟨_, rfl⟩
          have y0 := hcs q hlt1 0 (by omega)
          have y1 := hcs q hlt1 1 (by omega)
          simp only [← hyq, rngC, bv, List.getElem_cons_zero, List.getElem_cons_succ, Nat.add_zero, ← Nat.add_assoc] at y0 y1
          have hi1 : (q : Int) < (m : Int) := by omega
          clear hcs hyq
          have by1 : y.toNat < 256 := y.toNat_lt
          have bz1 : z.toNat < 256 := z.toNat_lt
          obtain ⟨yn, hyn⟩ : ∃ yn, yn = y.toNat := ⟨_, rfl⟩
          obtain ⟨zn, hzn⟩ : ∃ zn, zn = z.toNat := ⟨_, rfl⟩
          rw [← hyn] at y0 by1
          rw [← hzn] at y1 bz1
          clear hyn hzn
          have hxr := Blk.new wr 179 #[.int .u8 (yn : Int), .int .u8 (zn : Int)]
          have hE3 : Ext wr (wr.alloc (Obj.cells #[.int .u8 (yn : Int), .int .u8 (zn : Int)] 179)) := (Ext.refl wr).alloc _
          go_wp2_with (first
            | (go_at_call 129; refine Hid.out ?_))
          refine Hid.mk_ ((bracketed_any yn by1).mono ?_)
          rintro e w4 ⟨⟨t2, rfl, ht2⟩, hE4⟩
          have hE5 := hE3.trans hE4
          have hle4 : B0 ≤ w4.heap.size := by have := hE5.size_le; omega
          have hxr4 := hxr.below hE4 hxr.lt
          go_wp2_with (first
            | (go_at_call 105; refine Hid.out ?_))
          refine Hid.mk_ ((wstrF_any t2 (HU.out.ext hE5) (by omega) hle4).mono ?_)
          rintro e w5 ⟨rfl, hb5, hB5, hf5⟩
          have hxr5 := hf5.block _ _ _ hxr4 (by decide) (by decide)
          have k0 := hxr5.cell 0
          have k1 := hxr5.cell 1
          simp at k0 k1
          have hB5' := (HB.out.trans (Below.mono hE5 hrle)).trans hB5
          have hF5' := (HF.out.ext hE5).trans hf5
          have hle5 : B0 ≤ w5.heap.size := Below.size_le' hB5' HB0.out
          clear hxr hE3 hE4 hxr4 hB5 hf5
          by_cases hyz : zn = yn
          · have c1 : ((zn : Int) != (yn : Int)) = false := by simp [hyz]
            have c2 : ((zn : Int) == (yn : Int)) = true := by simp [hyz]
            have HU6 : Hid (BuN w5 B0 b (n + 2 + 9 * (q + 1))) := hb5.mono (by omega)
            have HB6 := Lib.hid hB5'
            have HF6 := Lib.hid hF5'
            clear hyz hb5 hB5' hF5'
            go_wp2
            all_goals first
              | (go_ret; exact ⟨rfl, hb2, hE, hf1⟩)
              | (refine ⟨⟨q + 1, by omega, by go_num, HU6, HB6, HF6⟩, ?_⟩; first | (simp [intOf]; omega) | (simp [intOf]) | omega)
              | (go_roundw; (case rel => exact ⟨q + 1, by omega, by go_num, HU6, HB6, HF6⟩); (case measure => first | (simp [intOf]; omega) | (simp [intOf])))
          · have c1 : ((zn : Int) != (yn : Int)) = true := by simp; omega
            have c2 : ((zn : Int) == (yn : Int)) = false := by simp; omega
            clear hyz
            go_wp2_with (first
              | (go_at_call 129; refine Hid.out ?_))
            refine Hid.mk_ ((bracketed_any zn bz1).mono ?_)
            rintro e w6 ⟨⟨t3, rfl, ht3⟩, hE6⟩
            have hle6 : B0 ≤ w6.heap.size := by have := hE6.size_le; omega
            have hss : (⟨#[45]⟩ ++ t3 : ByteArray).size ≤ 5 := by simp only [ByteArray.size_append, bsz1]; omega
            go_wp2_with (first
              | (go_at_call 105; refine Hid.out ?_))
            refine Hid.mk_ ((wstrF_any _ (hb5.ext hE6) (by omega) hle6).mono ?_)
            rintro e w7 ⟨rfl, hb7, hB7, hf7⟩
            have HU6 : Hid (BuN w7 B0 b (n + 2 + 9 * (q + 1))) := hb7.mono (by omega)
            have HB6 : Hid (Below B0 w0 w7) := (hB5'.trans (Below.mono hE6 hle5)).trans hB7
            have HF6 : Hid (FrB w w7) := (hF5'.ext hE6).trans hf7
            clear hb5 hB5' hF5' hb7 hB7 hf7
            go_wp2
            all_goals first
              | (go_ret; exact ⟨rfl, hb2, hE, hf1⟩)
              | (refine ⟨⟨q + 1, by omega, by go_num, HU6, HB6, HF6⟩, ?_⟩; first | (simp [intOf]; omega) | (simp [intOf]) | omega)
              | (go_roundw; (case rel => exact ⟨q + 1, by omega, by go_num, HU6, HB6, HF6⟩); (case measure => first | (simp [intOf]; omega) | (simp [intOf])))
        · have hi1 : ¬ (q : Int) < (m : Int) := by omega
          have hss : (⟨#[93]⟩ ++ suf : ByteArray).size ≤ 2 := by simp only [ByteArray.size_append, bsz1]; omega
          go_wp2_with (first
            | (go_at_call 105; refine Hid.out ?_))
          refine Hid.mk_ ((wstrF_any _ HU.out (by omega) hrle).mono ?_)
          rintro e w4 ⟨rfl, hb4, hB4, hf4⟩
          go_wp2
          go_end0
          exact ⟨rfl, hb4.mono (by omega), ext_of HB0.out (HB.out.trans hB4), HF.out.trans hf4⟩
  · have hte := tl_full ht
    clear ht
    go_wp2_with (first
      | (go_at_call 106; refine Hid.out ?_))
    refine Hid.mk_ ((wbyteF_any 34 (by decide) hb1 (by omega) hle1).mono ?_)
    rintro e w2 ⟨rfl, hb2, hB2, hf2⟩
    have hx2 := hf2.block _ _ _ hx1 (by decide) (by decide)
    have x0 := hx2.cell 0
    simp at x0
    go_wp2
    go_loopw [22] (fun i wr => ∃ (q : Nat), q ≤ text.size ∧ i = .int .i64 q ∧ Hid (BuN wr B0 b (n + 1 + 4 * q)) ∧ Hid (Below B0 w0 wr) ∧ Hid (FrB w wr) ∧ Hid (Blk wr w.heap.size 152 #[.string text, .slice A m c, .bool no, .int .i64 least, .int .i64 most])) (fun i _ => text.size - (intOf i).toNat)
    case atStart => exact ⟨0, Nat.zero_le _, rfl, hb2, hB1.trans hB2, hf1.trans hf2, hx2⟩
    case round =>
      obtain ⟨q, hq, rfl, HU, HB, HF, HXX⟩ := hrel
      have x0 := HXX.out.cell 0
      simp at x0
      by_cases hlt : q < text.size
      · obtain ⟨z, hz⟩ : ∃ z : Nat, text[q].toNat = z := ⟨_, rfl⟩
        have hz256 : z < 256 := by rw [← hz]; exact UInt8.toNat_lt _
        have hi1 : (q : Int) < (text.size : Int) := by omega
        go_wp2_with (first
          | (go_at_call 128; refine Hid.out ?_))
        refine Hid.mk_ ((quoted_any z hz256).mono ?_)
        rintro e w3 ⟨⟨t2, rfl, ht2⟩, hE3⟩
        have hrle : B0 ≤ wr.heap.size := Below.size_le' HB.out HB0.out
        have hle3 : B0 ≤ w3.heap.size := by have := hE3.size_le; omega
        go_wp2_with (first
          | (go_at_call 105; refine Hid.out ?_))
        refine Hid.mk_ ((wstrF_any t2 (HU.out.ext hE3) (by omega) hle3).mono ?_)
        rintro e w4 ⟨rfl, hb4, hB4, hf4⟩
        have HU4 : Hid (BuN w4 B0 b (n + 1 + 4 * (q + 1))) := hb4.mono (by omega)
        have HB4 : Hid (Below B0 w0 w4) := (HB.out.trans (Below.mono hE3 hrle)).trans hB4
        have HF4 : Hid (FrB w w4) := (HF.out.ext hE3).trans hf4
        have HX4 : Hid (Blk w4 w.heap.size 152 #[.string text, .slice A m c, .bool no, .int .i64 least, .int .i64 most]) := hf4.block _ _ _ (HXX.out.below hE3 HXX.out.lt) (by decide) (by decide)
        clear hb4 hB4 hf4
        go_wp2
        all_goals first
          | (go_ret; exact ⟨rfl, hb2, hE, hf1⟩)
          | (refine ⟨⟨q + 1, by omega, by go_num, HU4, HB4, HF4, HX4⟩, ?_⟩; first | (simp [intOf]; omega) | (simp [intOf]) | omega)
          | (go_roundw; (case rel => exact ⟨q + 1, by omega, by go_num, HU4, HB4, HF4, HX4⟩); (case measure => first | (simp [intOf]; omega) | (simp [intOf])))
      · have hi1 : ¬ (q : Int) < (text.size : Int) := by omega
        have hss : (⟨#[34]⟩ ++ suf : ByteArray).size ≤ 2 := by simp only [ByteArray.size_append, bsz1]; omega
        go_wp2_with (first
          | (go_at_call 105; refine Hid.out ?_))
        refine Hid.mk_ ((wstrF_any _ HU.out (by omega) (Below.size_le' HB.out HB0.out)).mono ?_)
        rintro e w4 ⟨rfl, hb4, hB4, hf4⟩
        go_wp2
        (try simp only [Exit.inBlock, Exit.then]); refine bodyPost_ret (results_none rfl _ _ _) rfl ?_
        exact ⟨rfl, hb4.mono (by omega), ext_of HB0.out (HB.out.trans hB4), HF.out.trans hf4⟩
end
end Go.Proofs.YtgnchicipmomlaaGreatDoor

/- The program's scripts: a line, the text. -/
namespace Go.Proofs.YtgnchicipmomlaaGreatDoor
open Go.RowKit
set_option maxRecDepth 100000
attribute [local go_sem] ext_refl_t ext_alloc_t ext_drew_t ext_drewN_t ext_alloc2_t ext_alloc3_t ext_alloc4_t ext_alloc5_t ext_alloc6_t ext_alloc7_t ext_alloc8_t ext_alloc1d_t ext_alloc2d_t ext_alloc3d_t ext_alloc4d_t
section
variable {w0 w : World}
set_option maxHeartbeats 6400000 in
theorem lineS_any {x : Rul} (hx : RulW w x) (hlg : LgR x) :
    Calls Tryz.prog 74 #[rulV x] w fun e w' => RetStr 900000000 e ∧ Ext w w' := by
  unfold LgR at hlg
  unfold rulV
  obtain ⟨hk, hn, hi, hI⟩ := hlg
  obtain ⟨kind, items, next, ⟨A, m, c⟩⟩ := x
  have hr := hx.i
  have hgk := hx.kind
  have hgn := hx.next
  unfold GoodStr at hgk hgn
  dsimp only at hr hgk hgn ⊢
  have HL := Lib.hid hr.sl.len
  have hle := hr.sl.le
  dsimp only at HL hle
  dsimp only at hk hn hi hI
  have HI := Lib.hid hI
  have hm21 : m ≤ 21 := by rw [HL.out]; exact hi
  clear hi hI
  obtain ⟨W0, hW0⟩ : ∃ W0, W0 = w.alloc (Obj.cells #[.string kind, .slice A m c, .string next] 110) := ⟨_, rfl⟩
  have hbx : Blk W0 w.heap.size 110 #[.string kind, .slice A m c, .string next] := by rw [hW0]; exact Blk.new w _ _
  have hE0 : Ext w W0 := by rw [hW0]; exact (Ext.refl w).alloc _
  have hr0 := ItmsW.ext hr hE0
  have HG := Lib.hid hr0.good
  have hs := hr0.sl
  have hs0 : W0.heap.size = w.heap.size + 1 := by rw [hW0]; simp
  have hbn := BuN.new W0
  have hE1 : Ext W0 (W0.alloc (.cells #[.pointer none, .slice none 0 0] 185)) := (Ext.refl _).alloc _
  obtain ⟨W1, hW1⟩ : ∃ W1, W1 = W0.alloc (.cells #[.pointer none, .slice none 0 0] 185) := ⟨_, rfl⟩
  rw [← hW1] at hbn hE1
  have X0 := laters (hbx.cell 0)
  have X1 := laters (hbx.cell 1)
  have X2 := laters (hbx.cell 2)
  simp at X0 X1 X2
  go_enter Tryz.func74, Tryz.ntmps74
  go_upto_region 2 with fail
  rw [← hW0, ← hW1]
  obtain ⟨bp, hbq⟩ : ∃ bp, bp = w.heap.size + 1 := ⟨_, rfl⟩
  have hb1 : BuN W1 W0.heap.size bp 0 := by rw [hbq, ← hs0]; exact hbn
  rw [← hbq]
  obtain ⟨g, hg⟩ : ∃ g, g = w.heap.size := ⟨_, rfl⟩
  rw [← hg] at X0 X1 X2 ⊢
  have h0 := X0 _ hE1
  have hsW := hE1.size_le
  clear hbn hbq hg hW0 hW1 hs0 hbx
  go_wp2_with (first
    | (go_at_call 105; refine Hid.out ?_))
  refine Hid.mk_ ((wstrF_any kind hb1 (by omega) hsW).mono ?_)
  rintro e w2 ⟨rfl, hb2, hB2, hf2⟩
  have hE2 : Ext W0 w2 := Below.trans hE1 hB2
  have h1 := X1 _ hE2
  have hb2 := hb2.mono (n' := 4000000) (by omega)
  clear hb1 hB2 hf2
  go_wp2
  go_loopw [12] (fun i wr => ∃ (q : Nat), q ≤ m ∧ i = .int .i64 q ∧ Hid (BuN wr W0.heap.size bp (4000000 + 40000001 * q)) ∧ Hid (Ext W0 wr)) (fun i _ => m - (intOf i).toNat)
  case atStart => exact ⟨0, Nat.zero_le _, rfl, hb2, hE2⟩
  case round =>
    obtain ⟨q, hq, rfl, HU, HE⟩ := hrel
    by_cases hlt : q < m
    ·
      obtain ⟨b, off, e0, hbl, hcs⟩ := (hs.ext HE.out).at_ hlt (by omega)
      try dsimp only at e0
      subst e0
      have hlt1 : q < (items).length := by rw [← HL.out]; exact hlt
      have HM : Hid ((items)[q] ∈ items) := List.getElem_mem hlt1
      obtain ⟨y, hyq⟩ : ∃ y, y = (items)[q] := ⟨_, rfl⟩
      have y0 := hcs q hlt1 0 (by omega)
      have y1 := hcs q hlt1 1 (by omega)
      have y2 := hcs q hlt1 2 (by omega)
      have y3 := hcs q hlt1 3 (by omega)
      have y4 := hcs q hlt1 4 (by omega)
      simp only [← hyq, itmC, List.getElem_cons_zero, List.getElem_cons_succ, Nat.add_zero, ← Nat.add_assoc] at y0 y1 y2 y3 y4
      have hi1 : (q : Int) < (m : Int) := by omega
      rw [← hyq] at HM
      have HY := Lib.hid hyq
      clear hcs hyq
      have hW3 : Ext wr (wr.alloc (Obj.cells #[.string y.text, .slice y.h.A y.h.m y.h.c, .bool y.no, .int .i64 y.least, .int .i64 y.most] 152)) := (Ext.refl wr).alloc _
      have hbi := Blk.new wr 152 #[.string y.text, .slice y.h.A y.h.m y.h.c, .bool y.no, .int .i64 y.least, .int .i64 y.most]
      have hsr := HE.out.size_le
      have hE3 := HE.out.trans hW3
      go_wp2_with (first
        | (go_at_call 106; refine Hid.out ?_))
      refine Hid.mk_ ((wbyteF_any 32 (by decide) (HU.out.ext hW3) (by omega) hE3.size_le).mono ?_)
      rintro e w4 ⟨rfl, hb4, hB4, hf4⟩
      have hbi4 := hf4.block _ _ _ hbi (by decide) (by decide)
      have hE4 : Ext W0 w4 := Below.trans hE3 hB4
      have c0 := hbi4.cell 0
      have c1 := hbi4.cell 1
      have c2 := hbi4.cell 2
      have c3 := hbi4.cell 3
      have c4 := hbi4.cell 4
      simp at c0 c1 c2 c3 c4
      go_wp2_with (first
        | (go_at_call 107; refine Hid.out ?_))
      refine Hid.mk_ ((itemS_any (w0 := W0) (x := y) (HG.out y HM.out) (HI.out y HM.out) hE4 hb4 (by omega)).mono ?_)
      rintro e w5 ⟨rfl, hb5, hE5, hf5⟩
      have HU5 : Hid (BuN w5 W0.heap.size bp (4000000 + 40000001 * (q + 1))) := hb5.mono (by omega)
      have HE5 := Lib.hid hE5
      clear hb4 hB4 hf4 hbi4 hE4 hb5 hE5 hf5 hE3 hW3 hbi
      go_wp2
      all_goals first
        | (go_ret; exact ⟨rfl, hb2, hE, hf1⟩)
        | (refine ⟨⟨q + 1, by omega, by go_num, HU5, HE5⟩, ?_⟩; first | (simp [intOf]; omega) | (simp [intOf]) | omega)
        | (go_roundw; (case rel => exact ⟨q + 1, by omega, by go_num, HU5, HE5⟩); (case measure => first | (simp [intOf]; omega) | (simp [intOf])))
    · have hi1 : ¬ (q : Int) < (m : Int) := by omega
      have h2 := X2 _ HE.out
      have hb6 := HU.out.mono (n' := 850000000) (by omega)
      by_cases hnx : next.size = 0
      · have hte := tl_empty hnx
        clear hnx
        go_wp2_with (first
          | (go_at_call 108; refine Hid.out ?_))
        refine Hid.mk_ ((bstrN_any hb6.bld HE.out.size_le).mono ?_)
        rintro e w6 ⟨⟨t, rfl, ht⟩, hB6⟩
        go_wp2
        go_ret
        exact ⟨⟨_, rfl, by omega⟩, hE0.trans (Below.trans HE.out hB6)⟩
      · have hte := tl_full hnx
        clear hnx
        have hss : (⟨#[32, 45, 62, 32]⟩ ++ next : ByteArray).size ≤ 4000004 := by simp only [ByteArray.size_append, bsz4]; omega
        go_wp2_with (first
          | (go_at_call 105; refine Hid.out ?_))
        refine Hid.mk_ ((wstrF_any _ hb6 (by omega) HE.out.size_le).mono ?_)
        rintro e w5 ⟨rfl, hb7, hB7, hf7⟩
        have hE7 : Ext W0 w5 := Below.trans HE.out hB7
        go_wp2_with (first
          | (go_at_call 108; refine Hid.out ?_))
        refine Hid.mk_ ((bstrN_any hb7.bld hE7.size_le).mono ?_)
        rintro e w6 ⟨⟨t, rfl, ht⟩, hB6⟩
        go_wp2
        go_ret
        exact ⟨⟨_, rfl, by omega⟩, hE0.trans (Below.trans hE7 hB6)⟩

set_option maxHeartbeats 6400000 in
theorem textS_any {h : SlH} {l : List Sta} (hs : ScrW w h l) (h20 : l.length ≤ 20) (hT : ∀ x ∈ l, LgT x ∧ x.rules.length ≤ 40) :
    Calls Tryz.prog 75 #[.slice h.A h.m h.c] w fun e w' => RetStr 1000000000000 e ∧ Ext w w' := by
  obtain ⟨A, m, c⟩ := h
  have HL := Lib.hid hs.sl.len
  have hle := hs.sl.le
  have HG := Lib.hid hs.good
  have HT := Lib.hid hT
  dsimp only at HL hle ⊢
  have hm20 : m ≤ 20 := by rw [HL.out]; exact h20
  have hs := hs.sl
  clear h20 hT
  have hbn := BuN.new w
  have hE1 : Ext w (w.alloc (.cells #[.pointer none, .slice none 0 0] 185)) := (Ext.refl _).alloc _
  obtain ⟨W1, hW1⟩ : ∃ W1, W1 = w.alloc (.cells #[.pointer none, .slice none 0 0] 185) := ⟨_, rfl⟩
  rw [← hW1] at hbn hE1
  go_enter Tryz.func75, Tryz.ntmps75
  go_upto_region 2 with fail
  rw [← hW1]
  obtain ⟨bp, hbq⟩ : ∃ bp, bp = w.heap.size := ⟨_, rfl⟩
  have hb1 : BuN W1 w.heap.size bp 0 := by rw [hbq]; exact hbn
  rw [← hbq]
  clear hbn hbq hW1
  go_wp2
  go_loopw [10] (fun i wr => ∃ (q : Nat), q ≤ m ∧ i = .int .i64 q ∧ Hid (BuN wr w.heap.size bp (36004000047 * q)) ∧ Hid (Ext w wr)) (fun i _ => m - (intOf i).toNat)
  case atStart => exact ⟨0, Nat.zero_le _, rfl, hb1, hE1⟩
  case round =>
    obtain ⟨q, hq, rfl, HU, HE⟩ := hrel
    obtain ⟨wo, rfl⟩ : ∃ wo : World, wo = wr := ⟨_, rfl⟩
    by_cases hlt : q < m
    ·
      obtain ⟨b, off, e0, hbl, hcs⟩ := (hs.ext HE.out).at_ hlt (by omega)
      try dsimp only at e0
      subst e0
      have hlt1 : q < (l).length := by rw [← HL.out]; exact hlt
      have HM : Hid ((l)[q] ∈ l) := List.getElem_mem hlt1
      obtain ⟨⟨nm, rules, ⟨B, n, d⟩⟩, hyq⟩ : ∃ y, y = (l)[q] := ⟨_, rfl⟩
      have x0 := hcs q hlt1 0 (by omega)
      have x1 := hcs q hlt1 1 (by omega)
      simp only [← hyq, staC, List.getElem_cons_zero, List.getElem_cons_succ, Nat.add_zero, ← Nat.add_assoc] at x0 x1
      have hi1 : (q : Int) < (m : Int) := by omega
      rw [← hyq] at HM
      have HY := Lib.hid hyq
      clear hcs hyq
      have hw : RulsW w ⟨B, n, d⟩ rules := (HG.out _ HM.out).r
      obtain ⟨⟨hn16, hR⟩, hr40⟩ := HT.out _ HM.out
      dsimp only at hn16 hr40 hR
      have HG2 := Lib.hid hw.good
      have HR := Lib.hid hR
      have hw := hw.sl
      have HL2 := Lib.hid hw.len
      have hle2 := hw.le
      dsimp only at HL2 hle2
      have hn40 : n ≤ 40 := by rw [HL2.out]; exact hr40
      have hW3 : Ext wo (wo.alloc (Obj.cells #[.string nm, .slice B n d] 115)) := (Ext.refl wo).alloc _
      have hbi := Blk.new wo 115 #[.string nm, .slice B n d]
      have hE3 := HE.out.trans hW3
      have hss : (⟨#[115, 116, 97, 116, 101, 32]⟩ ++ nm ++ ⟨#[10]⟩ : ByteArray).size ≤ 4000007 := by simp only [ByteArray.size_append, bsz1, bsz6]; omega
      clear hr40 hR HM HY
      go_wp2_with (first
        | (go_at_call 105; refine Hid.out ?_))
      refine Hid.mk_ ((wstrF_any _ (HU.out.ext hW3) (by omega) hE3.size_le).mono ?_)
      rintro e w4 ⟨rfl, hb4, hB4, hf4⟩
      have hbi4 := hf4.block _ _ _ hbi (by decide) (by decide)
      have hE4 : Ext w w4 := Below.trans hE3 hB4
      have c1 := hbi4.cell 1
      simp at c1
      have HU4 : Hid (BuN w4 w.heap.size bp (36004000047 * q + 4000007)) := hb4.mono (by omega)
      have HE4 := Lib.hid hE4
      clear hb4 hB4 hf4 hbi4 hbi hE4 hE3 hW3
      go_wp2
      go_loopw [22] (fun i wr => ∃ (k : Nat), k ≤ n ∧ i = .int .i64 k ∧ Hid (BuN wr w.heap.size bp (36004000047 * q + 4000007 + 900000001 * k)) ∧ Hid (Ext w wr)) (fun i _ => n - (intOf i).toNat)
      case atStart => exact ⟨0, Nat.zero_le _, rfl, HU4, HE4⟩
      case round =>
        obtain ⟨k, hk, rfl, HU5, HE5⟩ := hrel
        by_cases hltk : k < n
        ·
          obtain ⟨b2, off2, e0, hbl2, hcs2⟩ := (hw.ext HE5.out).at_ hltk (by omega)
          try dsimp only at e0
          subst e0
          have hlt2 : k < (rules).length := by rw [← (HL2).out]; exact hltk
          have HM2 : Hid ((rules)[k] ∈ rules) := List.getElem_mem hlt2
          obtain ⟨y, hyq⟩ : ∃ y, y = (rules)[k] := ⟨_, rfl⟩
          have y0 := hcs2 k hlt2 0 (by omega)
          have y1 := hcs2 k hlt2 1 (by omega)
          have y2 := hcs2 k hlt2 2 (by omega)
          simp only [← hyq, rulC, List.getElem_cons_zero, List.getElem_cons_succ, Nat.add_zero, ← Nat.add_assoc] at y0 y1 y2
          have hi2 : (k : Int) < (n : Int) := by omega
          rw [← hyq] at HM2
          have HY2 := Lib.hid hyq
          clear hcs2 hyq
          have hW6 : Ext wr (wr.alloc (Obj.cells #[.string y.kind, .slice y.h.A y.h.m y.h.c, .string y.next] 110)) := (Ext.refl wr).alloc _
          have hE6 := HE5.out.trans hW6
          go_wp2_with (first
            | (go_at_call 74; refine Hid.out ?_))
          refine Hid.mk_ ((lineS_any (x := y) ((HG2.out y HM2.out).ext hE6) (HR.out y HM2.out)).mono ?_)
          rintro e w7 ⟨⟨t2, rfl, ht2⟩, hE7⟩
          have hE8 := hE6.trans hE7
          have hss : (t2 ++ ⟨#[10]⟩ : ByteArray).size ≤ 900000001 := by simp only [ByteArray.size_append, bsz1]; omega
          go_wp2_with (first
            | (go_at_call 105; refine Hid.out ?_))
          refine Hid.mk_ ((wstrF_any _ (HU5.out.ext (hW6.trans hE7)) (by omega) hE8.size_le).mono ?_)
          rintro e w9 ⟨rfl, hb9, hB9, hf9⟩
          have HU9 : Hid (BuN w9 w.heap.size bp (36004000047 * q + 4000007 + 900000001 * (k + 1))) := hb9.mono (by omega)
          have HE9 : Hid (Ext w w9) := Below.trans hE8 hB9
          clear hb9 hB9 hf9 hE8 hE7 hE6 hW6
          go_wp2
          all_goals first
            | (go_ret; exact ⟨rfl, hb2, hE, hf1⟩)
            | (refine ⟨⟨k + 1, by omega, by go_num, HU9, HE9⟩, ?_⟩; first | (simp [intOf]; omega) | (simp [intOf]) | omega)
            | (go_roundw; (case rel => exact ⟨k + 1, by omega, by go_num, HU9, HE9⟩); (case measure => first | (simp [intOf]; omega) | (simp [intOf])))
        · have hi2 : ¬ (k : Int) < (n : Int) := by omega
          have HU9 : Hid (BuN wr w.heap.size bp (36004000047 * (q + 1))) := HU5.out.mono (by omega)
          go_wp2
          all_goals first
            | (go_ret; exact ⟨rfl, hb2, hE, hf1⟩)
            | (refine ⟨⟨q + 1, by omega, by go_num, HU9, HE5⟩, ?_⟩; first | (simp [intOf]; omega) | (simp [intOf]) | omega)
            | (go_roundw; (case rel => exact ⟨q + 1, by omega, by go_num, HU9, HE5⟩); (case measure => first | (simp [intOf]; omega) | (simp [intOf])))
    · have hi1 : ¬ (q : Int) < (m : Int) := by omega
      go_wp2_with (first
        | (go_at_call 108; refine Hid.out ?_))
      refine Hid.mk_ ((bstrN_any HU.out.bld HE.out.size_le).mono ?_)
      rintro e w6 ⟨⟨t, rfl, ht⟩, hB6⟩
      go_wp2
      go_ret
      exact ⟨⟨_, rfl, by omega⟩, Below.trans HE.out hB6⟩
end
end Go.Proofs.YtgnchicipmomlaaGreatDoor
