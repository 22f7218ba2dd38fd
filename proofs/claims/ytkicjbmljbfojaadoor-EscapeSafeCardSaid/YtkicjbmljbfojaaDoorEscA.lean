/- Small functions of package escape: style, control, hex, entity. -/
import Derived.Test.YtkicjbmljbfojaaDoorEscP
import Derived.Test.YtkicjbmljbfojaaDoorHex
import Derived.Test.YtkicjbmljbfojaaDoorLayStr
import Derived.Test.YtkicjbmljbfojaaDoorLayB
import Derived.Test.YtkicjbmljbfojaaDoorExtS
import Derived.Lib.SmallJoins
namespace Go.Proofs.YtkicjbmljbfojaaDoor
open Go.RowKit Go.Shelf Go.Sort Go.Lib
set_option maxRecDepth 100000

theorem bys_app (s t : ByteArray) : bys (s ++ t) = bys s ++ bys t := by simp [bys]
theorem ret_str {s t : ByteArray} (h : bys s = bys t) : Ending.returned (.string s) = Ending.returned (.string t) := by rw [bys_inj h]
/-- string([]byte{c}). -/
theorem conv1 (W : World) (b : Nat) (hb : b < 256) : (convert 34 9 (.slice (some ⟨W.heap.size, 0, none⟩) 1 1)).run Tryd.prog (W.alloc (.cells #[.int .u8 (b : Int)] 5)) = .ok (.string (str [by_ b])) (W.alloc (.cells #[.int .u8 (b : Int)] 5)) :=
  conv_str (OsB.new1 W W.heap.size (Nat.le_refl _) (by_ b) (n := (b : Int)) (by unfold by_; rw [UInt8.toNat_ofNat']; omega)).sl 1
theorem conv2 (W : World) (a b : Nat) (ha : a < 256) (hb : b < 256) : (convert 34 9 (.slice (some ⟨W.heap.size, 0, none⟩) 2 2)).run Tryd.prog (W.alloc (.cells #[.int .u8 (a : Int), .int .u8 (b : Int)] 5)) = .ok (.string (str [by_ a, by_ b])) (W.alloc (.cells #[.int .u8 (a : Int), .int .u8 (b : Int)] 5)) :=
  conv_str (OsB.new_ W W.heap.size (Nat.le_refl _) [by_ a, by_ b] (by simp) _ (by unfold by_; simp [bv]; omega) 2 rfl).sl 2
/-- Go's tables that this program reads. -/
structure T2 (w : World) : Prop where
  tz : TZ w
  pt : Lib.TabIs Tryd.prog w "internal/strconv.uint64pow10" .u64 Lib.pow10Tab
theorem T2.ext {w w' : World} (h : T2 w) (hE : Ext w w') : T2 w' :=
  ⟨h.tz.ext hE, Go.Joins.tab_stays (g := 1) (by kernel_rfl) h.pt hE (Nat.le_refl _)⟩
section
variable {w : World}
theorem style_any (n : Int) : Calls Tryd.prog 19 #[.int .i64 n] w fun e w' => e = .returned (.bool (styleZ n)) ∧ w' = w := by
  by_cases h1 : 1 ≤ n
  · by_cases h2 : n ≤ 4
    · have hs : styleZ n = true := decide_eq_true ⟨h1, h2⟩
      rw [hs]
      go_enter Tryd.func19, Tryd.ntmps19
      go_wp2
      go_ret
      exact ⟨rfl, rfl⟩
    · have hs : styleZ n = false := decide_eq_false fun h => h2 h.2
      rw [hs]
      go_enter Tryd.func19, Tryd.ntmps19
      go_wp2
      go_ret
      exact ⟨rfl, rfl⟩
  · have hs : styleZ n = false := decide_eq_false fun h => h1 h.1
    rw [hs]
    go_enter Tryd.func19, Tryd.ntmps19
    go_wp2
    go_ret
    exact ⟨rfl, rfl⟩
theorem control_any (b : Nat) : Calls Tryd.prog 32 #[.int .u8 (b : Int)] w fun e w' => e = .returned (.bool (ctl b)) ∧ w' = w := by
  by_cases h1 : b < 32
  · have hs : ctl b = true := decide_eq_true (.inl h1)
    rw [hs]
    go_enter Tryd.func32, Tryd.ntmps32
    go_wp2
    go_ret
    exact ⟨rfl, rfl⟩
  · by_cases h2 : b = 127
    · subst h2
      go_enter Tryd.func32, Tryd.ntmps32
      go_wp2
      go_ret
      exact ⟨rfl, rfl⟩
    · have hs : ctl b = false := decide_eq_false (by omega)
      have h3 : ((b : Int) == 127) = false := by rw [beq_eq_false_iff_ne]; omega
      rw [hs]
      clear hs h2
      go_enter Tryd.func32, Tryd.ntmps32
      go_wp2
      go_ret
      exact ⟨ret_bool (decide_eq_false (by omega)), rfl⟩
theorem extraB : Builder.Extra Tryd.prog Tryd.laysB_ren where
  sizeBuilder := by kernel_rfl
  liesBuilder := by kernel_rfl
  t5 := by kernel_rfl
  a5 := fun _ => by kernel_rfl
  z5 := fun _ => by kernel_rfl
  v5 := fun _ => by kernel_rfl
  infoByte := by kernel_rfl
  cellsByte := by kernel_rfl
  sizeByte := by kernel_rfl
  neB5 := by decide
theorem extraRep : Builder.Extra Tryd.prog Tryd.laysRepeat_ren where
  sizeBuilder := by kernel_rfl
  liesBuilder := by kernel_rfl
  t5 := by kernel_rfl
  a5 := fun _ => by kernel_rfl
  z5 := fun _ => by kernel_rfl
  v5 := fun _ => by kernel_rfl
  infoByte := by kernel_rfl
  cellsByte := by kernel_rfl
  sizeByte := by kernel_rfl
  neB5 := by decide
theorem repeatL_zero (c : Nat) : repeatL [48] c = List.replicate c 48 := by
  induction c with
  | zero => rfl
  | succ c ih => rw [repeatL, ih]; rfl
theorem repeat0 (c : Int) (k : Nat) (hc : c = k) (hk : k ≤ 16) :
    Calls Tryd.prog 48 #[.string ⟨#[48]⟩, .int .i64 c] w fun e w' => e = .returned (.string (str (List.replicate k 48))) ∧ Ext w w' := by
  subst hc
  have h := Any.strings_Repeat Tryd.laysRepeat extraRep ⟨#[48]⟩ k w (by omega) (by show 1 * k ≤ _; omega)
  change Calls Tryd.prog 48 _ _ _ at h
  refine h.mono fun e w' ⟨he, hb⟩ => ⟨?_, hb⟩
  rw [he]
  have e1 : (⟨#[48]⟩ : ByteArray).data.toList = [48] := rfl
  rw [e1, repeatL_zero]
  rfl
theorem itoa_any (b : Nat) (hb : b < 256) (hT : T2 w) : Calls Tryd.prog 33 #[.int .i64 (b : Int)] w fun e w' => e = .returned (.string (str (decL b))) ∧ Ext w w' := by
  have h := Any.strconv_Itoa Tryd.laysItoa (b : Int) (by omega) (by omega) w hT.pt
  change Calls Tryd.prog 33 _ _ _ at h
  refine h.mono ?_
  rintro e w' ⟨he, k, os, rfl⟩
  refine ⟨?_, ?_⟩
  · rw [he]
    apply ret_str
    rw [bys_str]
    show (itoa (b : Int)).toArray.toList = _
    unfold itoa
    rw [if_neg (by omega)]
    simp only [Int.toNat_natCast]
    unfold decL by_
    rw [decDigits]
    by_cases h1 : b < 10
    · simp [h1]
    · rw [dif_neg h1, if_neg h1, decDigits]
      by_cases h2 : b < 100
      · have : b / 10 < 10 := by omega
        simp [h2, this]
      · have h3 : ¬ b / 10 < 10 := by omega
        rw [dif_neg h3, if_neg h2, decDigits, dif_pos (show b / 10 / 10 < 10 by omega), Nat.div_div_eq_div_mul]
        rfl
  · exact ⟨rfl, rfl, rfl, by simp, fun j hj => by rw [heap_grow_old _ _ (by simpa using hj)]; rfl⟩
end

end Go.Proofs.YtkicjbmljbfojaaDoor
