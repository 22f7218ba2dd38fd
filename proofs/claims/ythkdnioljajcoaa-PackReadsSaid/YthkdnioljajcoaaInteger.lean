/- (*pack.Reader).integer. -/
import Derived.Test.YthkdnioljajcoaaReader
import Derived.Test.YthkdnioljajcoaaDec
namespace Go.Proofs.Ythkdnioljajcoaa
open Go.RowKit

theorem andNot16 : ∀ n : Fin 256, bits BinOp.andNot IntKind.i64 (n.val : Int) 16 = ((if n.val / 16 % 2 = 1 then n.val - 16 else n.val : Nat) : Int) := by decide +kernel
theorem and16 : ∀ n : Fin 256, bits BinOp.and IntKind.i64 (n.val : Int) 16 = if n.val / 16 % 2 = 1 then 16 else 0 := by decide +kernel
theorem headK_bits (x : UInt8) : bits BinOp.andNot IntKind.i64 (x.toNat : Int) 16 = (headK x : Int) := andNot16 ⟨x.toNat, x.toNat_lt⟩
theorem headL_bits (x : UInt8) : bits BinOp.and IntKind.i64 (x.toNat : Int) 16 = if headL x = true then 16 else 0 := by
  have := and16 ⟨x.toNat, x.toNat_lt⟩
  rw [this]
  simp [headL]

theorem shl_or (u y : Nat) (hu : u < 72057594037927936) (hy : y < 256) : bits BinOp.or IntKind.u64 ((u : Int) * 256) (y : Int) = ((256 * u + y : Nat) : Int) := by
  have e1 : (u : Int) * 256 = ((256 * u : Nat) : Int) := by omega
  rw [e1, u64_or_nat _ _ (by omega) (by omega)]
  congr 1
  exact (Nat.two_pow_add_eq_or_of_lt (i := 8) hy u).symm

theorem neg_wrap (u : Nat) (h : u ≤ 9223372036854775808) : wrap64 (IntKind.u64.wrap (-(u : Int))) = -(u : Int) := by
  unfold wrap64
  simp only [IntKind.wrap, IntKind.signed, IntKind.bits, Bool.false_and, Bool.false_eq_true, if_false]
  omega

/-- What 'integer' returns at an offset. -/
def IntR (bs : List UInt8) (i : Nat) (n : Int) (next : Nat) (ok : Bool) : Prop :=
  match readI (bs.drop i) with
  | some (a, k) => ok = true ∧ n = a ∧ next = i + k
  | none => ok = false ∧ n = 0 ∧ next = i
def RetI (bs : List UInt8) (i : Nat) (e : Ending) : Prop := ∃ (n : Int) (next : Nat) (ok : Bool), e = .returned (.tuple #[.int .i64 n, .int .i64 next, .bool ok]) ∧ IntR bs i n next ok
theorem IntR.none_ {bs : List UInt8} {i : Nat} (h : readI (bs.drop i) = none) : RetI bs i (.returned (.tuple #[.int .i64 0, .int .i64 i, .bool false])) :=
  ⟨0, i, false, rfl, by unfold IntR; rw [h]; exact ⟨rfl, rfl, rfl⟩⟩
theorem IntR.some_ {bs : List UInt8} {i : Nat} {n : Int} {k : Nat} (h : readI (bs.drop i) = some (n, k)) {a b : Int} (ha : a = n) (hb : b = (i : Int) + k) : RetI bs i (.returned (.tuple #[.int .i64 a, .int .i64 b, .bool true])) :=
  ⟨n, i + k, true, by rw [ha, hb]; rfl, by unfold IntR; rw [h]; exact ⟨rfl, rfl, rfl⟩⟩

section
variable {w : World} {g : Nat} {A : Option Addr} {m c : Nat} {bs : List UInt8} {at_ : Nat} {f : Bool}
set_option maxHeartbeats 400000 in
theorem integer_out (hR : Rdr w g A m c bs at_ f) :
    Calls Try.prog 34 #[.pointer (some ⟨g, 0, none⟩), .int .i64 m] w fun e w' => w = w' ∧ RetI bs m e := by
  have c0 := hR.c0
  have hle := hR.rd.le
  have hfin : readI (bs.drop m) = none := by rw [List.drop_of_length_le (by rw [hR.rd.len]; omega)]; rfl
  have HF := Lib.hid hfin; clear hfin
  go_enter Try.func34, Try.ntmps34
  go_wp2
  go_ret3
  exact ⟨rfl, IntR.none_ HF.out⟩

set_option maxHeartbeats 800000 in
theorem integer_short (i : Nat) (hR : Rdr w g A m c bs at_ f) (x : UInt8) (t : List UInt8) (hd : bs.drop i = x :: t) (hk : 8 < headK x ∨ t.length < headK x) :
    Calls Try.prog 34 #[.pointer (some ⟨g, 0, none⟩), .int .i64 i] w fun e w' => w = w' ∧ RetI bs i e := by
  have hfin : readI (bs.drop i) = none := by rw [hd, readI, if_pos hk]
  have HF := Lib.hid hfin; clear hfin
  have hlen := congrArg List.length hd
  rw [List.length_drop, ← hR.rd.len, List.length_cons] at hlen
  have hi : i < m := by omega
  obtain ⟨b, off, rfl, _, hc⟩ := hR.rd.at_ hi
  have hcx := hc i (by rw [← hR.rd.len]; exact hi)
  have hx : bs[i]'(by rw [← hR.rd.len]; exact hi) = x := by
    have := List.drop_eq_getElem_cons (l := bs) (i := i) (by rw [← hR.rd.len]; exact hi)
    rw [hd] at this
    injection this with h1 _
    exact h1.symm
  rw [hx] at hcx
  have c0 := hR.c0
  have hle := hR.rd.le
  have hi1 : (i : Int) < (m : Int) := by omega
  have hx2 : x.toNat < 256 := x.toNat_lt
  have hkb := headK_bits x
  obtain ⟨k, hk0⟩ : ∃ k, k = headK x := ⟨_, rfl⟩
  rw [← hk0] at hkb hk
  have hk3 : (8 : Int) < (k : Int) ∨ (m : Int) - (i : Int) - 1 < (k : Int) := by omega
  clear hk hd hc hx hk0 hlen
  by_cases h8 : 8 < k
  · clear hk3
    go_enter Try.func34, Try.ntmps34
    go_wp2
    go_ret3
    exact ⟨rfl, IntR.none_ HF.out⟩
  · have hk4 : (m : Int) - (i : Int) - 1 < (k : Int) := by omega
    clear hk3
    go_enter Try.func34, Try.ntmps34
    go_wp2
    go_ret3
    exact ⟨rfl, IntR.none_ HF.out⟩

set_option maxRecDepth 100000 in
set_option maxHeartbeats 1600000 in
theorem integer_long (i : Nat) (hR : Rdr w g A m c bs at_ f) (x : UInt8) (t : List UInt8) (hd : bs.drop i = x :: t) (hk8 : headK x ≤ 8) (hkt : headK x ≤ t.length) :
    Calls Try.prog 34 #[.pointer (some ⟨g, 0, none⟩), .int .i64 i] w fun e w' => w = w' ∧ RetI bs i e := by
  have hlen := congrArg List.length hd
  rw [List.length_drop, ← hR.rd.len, List.length_cons] at hlen
  have hi : i < m := by omega
  have hcap := hR.cap
  obtain ⟨A2, hr1, _, _, hs2, _⟩ := cut_run hR.rd (i := i + 1) (j := i + 1 + headK x) (by omega) (by omega) hcap
  have hseg : (bs.take (i + 1 + headK x)).drop (i + 1) = t.take (headK x) := by
    have e1 : bs.drop (i + 1) = t := by rw [← List.drop_drop, hd]; rfl
    rw [← List.take_drop, e1]
  rw [hseg] at hs2
  have hsl := fun W => (hr1 W .i64 .i64 ((i : Int) + 1) ((i : Int) + 1 + (headK x : Int)) (by omega) (by omega)).1
  have hsl' := fun W => (hr1 W .i64 .i64 ((i : Int) + 1) ((i : Int) + 1 + (headK x : Int)) (by omega) (by omega)).2
  rw [show i + 1 + headK x - (i + 1) = headK x by omega] at hs2 hsl hsl'
  clear hcap
  obtain ⟨b, off, rfl, _, hcall⟩ := hR.rd.at_ hi
  have hcx := hcall i (by rw [← hR.rd.len]; exact hi)
  have HC := Lib.hid hcall; clear hcall
  have hx : bs[i]'(by rw [← hR.rd.len]; exact hi) = x := by
    have := List.drop_eq_getElem_cons (l := bs) (i := i) (by rw [← hR.rd.len]; exact hi)
    rw [hd] at this
    injection this with h1 _
    exact h1.symm
  rw [hx] at hcx
  have c0 := hR.c0
  have hle := hR.rd.le
  have hi1 : (i : Int) < (m : Int) := by omega
  have hx2 : x.toNat < 256 := x.toNat_lt
  have hkb := headK_bits x
  have hlb := headL_bits x
  cases hL : headL x with
  | true =>
    rw [hL, if_pos rfl] at hlb
    have HL := Lib.hid hL; clear hL
    obtain ⟨k, hk0⟩ : ∃ k, k = headK x := ⟨_, rfl⟩
    have HK0 := Lib.hid hk0
    rw [← hk0] at hkb hk8 hkt hs2 hsl hsl'
    clear hk0 hx hr1 hseg
    have HD := Lib.hid hd; clear hd
    have HT := Lib.hid hlen; clear hlen
    have hkm : i + 1 + k ≤ m := by have := HT.out; omega
    go_enter Try.func34, Try.ntmps34
    go_wp2
    obtain ⟨seg, hseg⟩ : ∃ seg, seg = t.take k := ⟨_, rfl⟩
    rw [← hseg] at hs2
    have HSEG := Lib.hid hseg; clear hseg
    have HSL := Lib.hid hs2.len
    go_loop [9, 58] (fun u j => ∃ q : Nat, q ≤ k ∧ j = .int .i64 q ∧ u = .int .u64 (numBE (seg.take q))) (fun _ j => k - (intOf j).toNat)
    case atStart => exact ⟨0, Nat.zero_le _, rfl, rfl⟩
    case round =>
      obtain ⟨q, hq, rfl, rfl⟩ := hrel
      by_cases hlt : q < k
      · obtain ⟨b2, off2, rfl, _, hc2⟩ := hs2.at_ hlt
        have hlt1 : q < seg.length := by rw [← HSL.out]; exact hlt
        have hcq := hc2 q hlt1
        obtain ⟨y, hy⟩ : ∃ y, y = seg[q] := ⟨_, rfl⟩
        rw [← hy] at hcq
        have HY := Lib.hid hy; clear hy hc2
        have hy2 : y.toNat < 256 := y.toNat_lt
        obtain ⟨u, hu⟩ : ∃ u, u = numBE (seg.take q) := ⟨_, rfl⟩
        rw [← hu]
        have HU := Lib.hid hu; clear hu
        have hub : u < 72057594037927936 := by
          have h1 := numBE_lt (seg.take q)
          have h2 : (seg.take q).length ≤ 7 := by rw [List.length_take]; omega
          have h3 := Nat.pow_le_pow_right (show 0 < 256 by omega) h2
          have h4 := HU.out
          omega
        go_wp2
        go_round
        case rel =>
          refine ⟨q + 1, by omega, by go_num, ?_⟩
          rw [shl_or u y.toNat hub hy2, List.take_succ_eq_append_getElem hlt1, numBE_snoc, ← HU.out, ← HY.out]
        case measure => simp [intOf]; omega
      · have hqk : seg.take q = seg := List.take_of_length_le (by have := HSL.out; omega)
        rw [hqk]
        clear hqk
        clear hq
        have hub2 : numBE seg < 18446744073709551616 := by
          have h1 := numBE_lt seg
          have h3 := Nat.pow_le_pow_right (show 0 < 256 by omega) (show seg.length ≤ 8 by have := HSL.out; omega)
          omega
        obtain ⟨u, hu⟩ : ∃ u, u = numBE seg := ⟨_, rfl⟩
        rw [← hu] at hub2 ⊢
        have HU := Lib.hid hu; clear hu
        have HF : Hid (readI (bs.drop i) = if (0 < k ∧ t.head? = some 0) ∨ (k = 0 ∧ headL x = true) then none
            else if (headL x = true ∧ 9223372036854775808 < u) ∨ (headL x = false ∧ 9223372036854775807 < u) then none
            else some (if headL x = true then - (u : Int) else (u : Int), k + 1)) := by
          rw [HD.out, readI, ← HK0.out, if_neg (by omega), ← HSEG.out, ← HU.out]
          exact Lib.hid rfl
        by_cases hk0 : k = 0
        · subst hk0
          have hu0 : u = 0 := by
            have h1 := HU.out
            have h2 : seg = [] := List.eq_nil_of_length_eq_zero HSL.out.symm
            rw [h2] at h1
            exact h1
          subst hu0
          have hfin : readI (bs.drop i) = none := by rw [HF.out, if_pos (.inr ⟨rfl, HL.out⟩)]
          have HFI := Lib.hid hfin; clear hfin
          go_wp2
          go_ret3
          exact ⟨rfl, IntR.none_ HFI.out⟩
        · have hkp : 0 < k := by omega
          have hkb0 : ((k : Int) == 0) = false := by rw [beq_eq_false_iff_ne]; omega
          obtain ⟨y0, t', ht'⟩ : ∃ y0 t', t = y0 :: t' := by
            cases t with
            | nil => simp at hkt; omega
            | cons y0 t' => exact ⟨y0, t', rfl⟩
          have hb1 : i + 1 < bs.length := by have := hR.rd.len; omega
          have hcy := HC.out (i + 1) hb1
          have hy0 : bs[i + 1] = y0 := by
            have h1 := HD.out
            rw [ht'] at h1
            have h2 := congrArg (fun l => l[1]?) h1
            simp only [List.getElem?_drop, List.getElem?_cons_succ, List.getElem?_cons_zero] at h2
            rw [List.getElem?_eq_getElem hb1] at h2
            injection h2
          rw [hy0] at hcy
          have hi2 : (i : Int) + 1 < (m : Int) := by omega
          have hy02 : y0.toNat < 256 := y0.toNat_lt
          have HT' := Lib.hid ht'; clear ht' hy0 hk0
          by_cases hz : y0.toNat = 0
          · have hyb : ((y0.toNat : Int) == 0) = true := by rw [beq_iff_eq]; omega
            have hfin : readI (bs.drop i) = none := by
              rw [HF.out, if_pos]
              left
              refine ⟨hkp, ?_⟩
              rw [HT'.out, List.head?_cons, UInt8.toNat_inj.1 (show y0.toNat = (0 : UInt8).toNat by simpa using hz)]
            have HFI := Lib.hid hfin; clear hfin hz
            go_wp2
            go_ret3
            exact ⟨rfl, IntR.none_ HFI.out⟩
          · have hyb : ((y0.toNat : Int) == 0) = false := by rw [beq_eq_false_iff_ne]; omega
            have hfin : readI (bs.drop i) = if 9223372036854775808 < u then none else some (- (u : Int), k + 1) := by
              rw [HF.out, if_neg]
              · rw [HL.out]; simp
              · rintro (⟨_, h1⟩ | ⟨h1, _⟩)
                · rw [HT'.out, List.head?_cons] at h1
                  injection h1 with h1
                  rw [h1] at hz
                  exact hz rfl
                · omega
            have HFI := Lib.hid hfin; clear hfin hz
            by_cases hbig : 9223372036854775808 < u
            · have hbI : (9223372036854775808 : Int) < (u : Int) := by omega
              have HB := Lib.hid hbig; clear hbig
              go_wp2
              go_ret3
              exact ⟨rfl, IntR.none_ (by rw [HFI.out, if_pos HB.out])⟩
            · have hbI : ¬ (9223372036854775808 : Int) < (u : Int) := by omega
              have HB := Lib.hid hbig; clear hbig
              go_wp2
              go_ret3
              refine ⟨rfl, IntR.some_ (by rw [HFI.out, if_neg HB.out]) ?_ (by omega)⟩
              exact neg_wrap u (by omega)
  | false =>
    rw [hL, if_neg (by simp)] at hlb
    have HL := Lib.hid hL; clear hL
    obtain ⟨k, hk0⟩ : ∃ k, k = headK x := ⟨_, rfl⟩
    have HK0 := Lib.hid hk0
    rw [← hk0] at hkb hk8 hkt hs2 hsl hsl'
    clear hk0 hx hr1 hseg
    have HD := Lib.hid hd; clear hd
    have HT := Lib.hid hlen; clear hlen
    have hkm : i + 1 + k ≤ m := by have := HT.out; omega
    go_enter Try.func34, Try.ntmps34
    go_wp2
    obtain ⟨seg, hseg⟩ : ∃ seg, seg = t.take k := ⟨_, rfl⟩
    rw [← hseg] at hs2
    have HSEG := Lib.hid hseg; clear hseg
    have HSL := Lib.hid hs2.len
    go_loop [9, 58] (fun u j => ∃ q : Nat, q ≤ k ∧ j = .int .i64 q ∧ u = .int .u64 (numBE (seg.take q))) (fun _ j => k - (intOf j).toNat)
    case atStart => exact ⟨0, Nat.zero_le _, rfl, rfl⟩
    case round =>
      obtain ⟨q, hq, rfl, rfl⟩ := hrel
      by_cases hlt : q < k
      · obtain ⟨b2, off2, rfl, _, hc2⟩ := hs2.at_ hlt
        have hlt1 : q < seg.length := by rw [← HSL.out]; exact hlt
        have hcq := hc2 q hlt1
        obtain ⟨y, hy⟩ : ∃ y, y = seg[q] := ⟨_, rfl⟩
        rw [← hy] at hcq
        have HY := Lib.hid hy; clear hy hc2
        have hy2 : y.toNat < 256 := y.toNat_lt
        obtain ⟨u, hu⟩ : ∃ u, u = numBE (seg.take q) := ⟨_, rfl⟩
        rw [← hu]
        have HU := Lib.hid hu; clear hu
        have hub : u < 72057594037927936 := by
          have h1 := numBE_lt (seg.take q)
          have h2 : (seg.take q).length ≤ 7 := by rw [List.length_take]; omega
          have h3 := Nat.pow_le_pow_right (show 0 < 256 by omega) h2
          have h4 := HU.out
          omega
        go_wp2
        go_round
        case rel =>
          refine ⟨q + 1, by omega, by go_num, ?_⟩
          rw [shl_or u y.toNat hub hy2, List.take_succ_eq_append_getElem hlt1, numBE_snoc, ← HU.out, ← HY.out]
        case measure => simp [intOf]; omega
      · have hqk : seg.take q = seg := List.take_of_length_le (by have := HSL.out; omega)
        rw [hqk]
        clear hqk
        clear hq
        have hub2 : numBE seg < 18446744073709551616 := by
          have h1 := numBE_lt seg
          have h3 := Nat.pow_le_pow_right (show 0 < 256 by omega) (show seg.length ≤ 8 by have := HSL.out; omega)
          omega
        obtain ⟨u, hu⟩ : ∃ u, u = numBE seg := ⟨_, rfl⟩
        rw [← hu] at hub2 ⊢
        have HU := Lib.hid hu; clear hu
        have HF : Hid (readI (bs.drop i) = if (0 < k ∧ t.head? = some 0) ∨ (k = 0 ∧ headL x = true) then none
            else if (headL x = true ∧ 9223372036854775808 < u) ∨ (headL x = false ∧ 9223372036854775807 < u) then none
            else some (if headL x = true then - (u : Int) else (u : Int), k + 1)) := by
          rw [HD.out, readI, ← HK0.out, if_neg (by omega), ← HSEG.out, ← HU.out]
          exact Lib.hid rfl
        by_cases hk0 : k = 0
        · subst hk0
          have hu0 : u = 0 := by
            have h1 := HU.out
            have h2 : seg = [] := List.eq_nil_of_length_eq_zero HSL.out.symm
            rw [h2] at h1
            exact h1
          subst hu0
          have hfin : readI (bs.drop i) = some (0, 0 + 1) := by
            have hl := HL.out
            rw [HF.out, if_neg (by rw [hl]; simp), if_neg (by rw [hl]; simp), hl]
            rfl
          have HFI := Lib.hid hfin; clear hfin
          go_wp2
          go_ret3
          exact ⟨rfl, IntR.some_ HFI.out rfl (by omega)⟩
        · have hkp : 0 < k := by omega
          have hkb0 : ((k : Int) == 0) = false := by rw [beq_eq_false_iff_ne]; omega
          obtain ⟨y0, t', ht'⟩ : ∃ y0 t', t = y0 :: t' := by
            cases t with
            | nil => simp at hkt; omega
            | cons y0 t' => exact ⟨y0, t', rfl⟩
          have hb1 : i + 1 < bs.length := by have := hR.rd.len; omega
          have hcy := HC.out (i + 1) hb1
          have hy0 : bs[i + 1] = y0 := by
            have h1 := HD.out
            rw [ht'] at h1
            have h2 := congrArg (fun l => l[1]?) h1
            simp only [List.getElem?_drop, List.getElem?_cons_succ, List.getElem?_cons_zero] at h2
            rw [List.getElem?_eq_getElem hb1] at h2
            injection h2
          rw [hy0] at hcy
          have hi2 : (i : Int) + 1 < (m : Int) := by omega
          have hy02 : y0.toNat < 256 := y0.toNat_lt
          have HT' := Lib.hid ht'; clear ht' hy0 hk0
          by_cases hz : y0.toNat = 0
          · have hyb : ((y0.toNat : Int) == 0) = true := by rw [beq_iff_eq]; omega
            have hfin : readI (bs.drop i) = none := by
              rw [HF.out, if_pos]
              left
              refine ⟨hkp, ?_⟩
              rw [HT'.out, List.head?_cons, UInt8.toNat_inj.1 (show y0.toNat = (0 : UInt8).toNat by simpa using hz)]
            have HFI := Lib.hid hfin; clear hfin hz
            go_wp2
            go_ret3
            exact ⟨rfl, IntR.none_ HFI.out⟩
          · have hyb : ((y0.toNat : Int) == 0) = false := by rw [beq_eq_false_iff_ne]; omega
            have hfin : readI (bs.drop i) = if 9223372036854775807 < u then none else some ((u : Int), k + 1) := by
              rw [HF.out, if_neg]
              · rw [HL.out]; simp
              · rintro (⟨_, h1⟩ | ⟨h1, _⟩)
                · rw [HT'.out, List.head?_cons] at h1
                  injection h1 with h1
                  rw [h1] at hz
                  exact hz rfl
                · omega
            have HFI := Lib.hid hfin; clear hfin hz
            by_cases hbig : 9223372036854775807 < u
            · have hbI : (9223372036854775808 : Int) ≤ (u : Int) := by omega
              have HB := Lib.hid hbig; clear hbig
              go_wp2
              go_ret3
              exact ⟨rfl, IntR.none_ (by rw [HFI.out, if_pos HB.out])⟩
            · have hbI : ¬ (9223372036854775808 : Int) ≤ (u : Int) := by omega
              have HB := Lib.hid hbig; clear hbig
              go_wp2
              go_ret3
              refine ⟨rfl, IntR.some_ (by rw [HFI.out, if_neg HB.out]) ?_ (by omega)⟩
              rfl
theorem integer_any (i : Nat) (hi : i ≤ m) (hR : Rdr w g A m c bs at_ f) :
    Calls Try.prog 34 #[.pointer (some ⟨g, 0, none⟩), .int .i64 i] w fun e w' => w = w' ∧ RetI bs i e := by
  cases hd : bs.drop i with
  | nil =>
    have h1 := congrArg List.length hd
    rw [List.length_drop, ← hR.rd.len, List.length_nil] at h1
    have h2 : i = m := by omega
    rw [h2]
    exact integer_out hR
  | cons x t =>
    by_cases hk : 8 < headK x ∨ t.length < headK x
    · exact integer_short i hR x t hd hk
    · exact integer_long i hR x t hd (by omega) (by omega)
end
end Go.Proofs.Ythkdnioljajcoaa
