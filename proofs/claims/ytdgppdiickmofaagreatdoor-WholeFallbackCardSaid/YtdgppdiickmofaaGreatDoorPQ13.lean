/- The program's tags: DeleteFunc of the empty parts, text, Text. -/
import Derived.Test.YtdgppdiickmofaaGreatDoorPQ11
import Derived.Test.YtdgppdiickmofaaGreatDoorPQ12
namespace Go.Proofs.YtdgppdiickmofaaGreatDoor
open Go.RowKit
set_option maxRecDepth 100000
def neP (l : List UInt8) : Bool := !l.isEmpty
theorem ne_snoc (l : List (List UInt8)) {j : Nat} (hj : j < l.length) : (l.take (j + 1)).filter neP = (l.take j).filter neP ++ (if neP l[j] then [l[j]] else []) := by
  rw [List.take_succ_eq_append_getElem hj, List.filter_append]
  cases h : neP l[j] <;> simp [h]
theorem ne_none (l : List (List UInt8)) (h : ∀ f ∈ l, neP f = true) : l.filter neP = l := List.filter_eq_self.2 h
section
variable {w : World}
set_option maxHeartbeats 800000 in
theorem emp1_any (y : List UInt8) : Calls Tryz.prog 146 #[.string (str y)] w fun e w' => e = .returned (.bool y.isEmpty) ∧ w = w' := by
  have HY : Hid ((str y).toList = y) := str_toList y
  obtain ⟨x, hx⟩ : ∃ x, x = str y := ⟨_, rfl⟩
  rw [← hx] at HY ⊢
  clear hx
  cases y with
  | nil =>
    have h0 : x.toList = [] := HY.out
    go_enter Tryz.func146, Tryz.ntmps146
    go_wp2
    go_ret
    exact ⟨rfl, rfl⟩
  | cons a r =>
    have h0 : ¬ x.toList = [] := fun e => by rw [HY.out] at e; cases e
    go_enter Tryz.func146, Tryz.ntmps146
    go_wp2
    go_ret
    exact ⟨by simp [h0], rfl⟩
set_option maxHeartbeats 1600000 in
theorem idxEmp_any {A : Option Addr} {m c : Nat} {l : List (List UInt8)} (hs : SlC strF 1 w A m (l.map str)) :
    Calls Tryz.prog 179 #[.slice A m c, .func (.func 146) #[] #[]] w fun e w' => (∃ z : Int, e = .returned (.int .i64 z) ∧ ((z = -1 ∧ ∀ i (h : i < l.length), neP l[i] = true) ∨ ∃ k : Nat, z = k ∧ ∃ hk : k < l.length, neP l[k] = false ∧ ∀ i (h : i < k), neP (l[i]'(by omega)) = true)) ∧ w = w' := by
  have HL : Hid (m = l.length) := by have := hs.len; rw [List.length_map] at this; exact this
  have hle := hs.le
  have HS := Lib.hid hs
  clear hs
  go_enter Tryz.func179, Tryz.ntmps179
  go_wp2
  go_loopw [5, 8] (fun _ i wr => ∃ q : Nat, q ≤ m ∧ i = .int .i64 q ∧ wr = w ∧ Hid (∀ j (_ : j < q) (h : j < l.length), neP l[j] = true)) (fun _ i _ => m - (intOf i).toNat)
  case atStart => exact ⟨0, Nat.zero_le _, rfl, rfl, fun j hj _ => absurd hj (by omega)⟩
  case round =>
    obtain ⟨q, hq, rfl, rfl, HC⟩ := hrel
    by_cases hlt : q < m
    · obtain ⟨b, off, rfl, hbl, hcs⟩ := strs_cells HS.out (by omega)
      have hlt1 : q < l.length := by rw [← HL.out]; exact hlt
      have x0 := hcs q (str l[q]) (by rw [List.getElem?_map, List.getElem?_eq_getElem hlt1]; rfl)
      obtain ⟨y, hy⟩ : ∃ y, y = l[q] := ⟨_, rfl⟩
      rw [← hy] at x0
      have HY := Lib.hid hy
      have K := Lib.hid (emp1_any (w := wr) y)
      have hi1 : (q : Int) < (m : Int) := by omega
      clear hcs hy
      obtain ⟨cy, hcy⟩ : ∃ c, c = y.isEmpty := ⟨_, rfl⟩
      have HCY := Lib.hid hcy
      have K : Hid (Calls Tryz.prog 146 #[.string (str y)] wr fun e w' => e = .returned (.bool cy) ∧ wr = w') := by show Calls _ _ _ _ _; rw [hcy]; exact K.out
      clear hcy
      obtain ⟨s, hs⟩ : ∃ s, s = str y := ⟨_, rfl⟩
      rw [← hs] at x0 K
      clear hs
      cases cy with
      | true =>
        have HF : Hid (neP l[q] = false) := by show _ = _; rw [← HY.out]; unfold neP; rw [← HCY.out]; rfl
        go_wp2_with (first
          | (go_at_call 146; refine Hid.out ?_))
        refine Hid.mk_ ((K.out).mono ?_)
        rintro e w2 ⟨rfl, rfl⟩
        go_wp2
        go_ret
        exact ⟨⟨q, rfl, .inr ⟨q, rfl, hlt1, HF.out, fun i hi => HC.out i hi _⟩⟩, rfl⟩
      | false =>
        have HN : Hid (∀ j (_ : j < q + 1) (h : j < l.length), neP l[j] = true) := fun j hj h => by
          rcases Nat.lt_or_ge j q with h2 | h2
          · exact HC.out j h2 h
          · obtain rfl : j = q := by omega
            rw [← HY.out]; unfold neP; rw [← HCY.out]; rfl
        go_wp2_with (first
          | (go_at_call 146; refine Hid.out ?_))
        refine Hid.mk_ ((K.out).mono ?_)
        rintro e w2 ⟨rfl, rfl⟩
        go_wp2
        go_roundw
        case rel => exact ⟨q + 1, by omega, by go_num, by first | trivial | rfl, HN⟩
        case measure => simp [intOf]; omega
    · have hi1 : ¬ (q : Int) < (m : Int) := by omega
      have HN : Hid (∀ i (h : i < l.length), neP l[i] = true) := fun i h => HC.out i (by have := HL.out; omega) h
      go_wp2
      go_ret
      exact ⟨⟨-1, rfl, .inl ⟨rfl, HN.out⟩⟩, rfl⟩
set_option maxHeartbeats 6400000 in
theorem delEmp_any {base : Nat} {A : Option Addr} {m c : Nat} {l : List (List UInt8)} (hown : OsC strF 9 1 w base A m c (l.map str)) (hm4 : m ≤ 4000) :
    Calls Tryz.prog 145 #[.slice A m c, .func (.func 146) #[] #[]] w fun e w' => (∃ m', e = .returned (.slice A m' c) ∧ OsC strF 9 1 w' base A m' c ((l.filter neP).map str)) ∧ w.grownBy w' (ob A) := by
  have HL : Hid (m = l.length) := by have := hown.len; rw [List.length_map] at this; exact this
  go_enter Tryz.func145, Tryz.ntmps145
  go_wp2_with (first
    | (go_at_call 179; refine Hid.out ?_))
  refine Hid.mk_ ((idxEmp_any hown.sl).mono ?_)
  rintro e w1 ⟨⟨z, rfl, hz⟩, rfl⟩
  rcases hz with ⟨rfl, hno⟩ | ⟨k, rfl, hk, hk1, hk2⟩
  · have HD : Hid (l.filter neP = l) := ne_none l fun f hf => by
      obtain ⟨i, hi, rfl⟩ := List.getElem_of_mem hf
      exact hno i hi
    clear hno
    go_wp2
    go_ret
    exact ⟨⟨m, rfl, by rw [HD.out]; exact hown⟩, (Ext.refl _).grownBy _⟩
  · have hlt : k < m := by rw [HL.out]; exact hk
    obtain ⟨g, cur, hA, hg, hh, hmc, hcm, hsz, htk⟩ := hown.row (by omega)
    subst hA
    have HD0 : Hid (l.take k = (l.take (k + 1)).filter neP) := by
      show _ = _
      rw [ne_snoc l hk, hk1, if_neg (by decide), List.append_nil, ne_none]
      intro f hf
      obtain ⟨i, hi, rfl⟩ := List.getElem_of_mem hf
      rw [List.length_take] at hi
      rw [List.getElem_take]
      exact hk2 i (by omega)
    have hkm : (k : Int) < (m : Int) := by omega
    have hcm' : c ≤ 9223372036854775807 := by simpa [maxLen] using hcm
    have hneg : ((k : Int) == -1) = false := by rw [beq_eq_false_iff_ne]; omega
    have hmci : (m : Int) ≤ (c : Int) := by omega
    clear hh hsz htk hcm hk1 hk2
    go_wp2
    go_loopw [5, 6] (fun s t wr => ∃ (i j : Nat) (R : List (List UInt8)), i < j ∧ j ≤ m ∧ s = .int .i64 i ∧ t = .int .i64 j ∧ OsC strF 9 1 wr base (some ⟨g, 0, none⟩) m c (R.map str) ∧ Hid (R.take i = (l.take j).filter neP) ∧ Hid (R.drop j = l.drop j) ∧ w.grownBy wr (some g)) (fun _ t _ => m - (intOf t).toNat)
    case atStart => exact ⟨k, k + 1, l, by omega, by omega, rfl, by go_num, hown, HD0, Lib.hid rfl, (Ext.refl _).grownBy _⟩
    case round =>
      obtain ⟨i, j, R, hij, hj, rfl, rfl, ho, HT, HDR, hgw⟩ := hrel
      have HRL : Hid (m = R.length) := by have := ho.len; rw [List.length_map] at this; exact this
      by_cases hjm : j < m
      · have hjl : j < l.length := by rw [← HL.out]; exact hjm
        have hjR : j < R.length := by rw [← HRL.out]; exact hjm
        obtain ⟨b, off, e0, hbl, hcs⟩ := strs_cells ho.sl (by omega)
        simp only [Option.some.injEq, Addr.mk.injEq, and_true] at e0
        obtain ⟨e0, e00⟩ := e0
        subst e0
        subst e00
        obtain ⟨y, hyq⟩ : ∃ y, y = R[j] := ⟨_, rfl⟩
        have HY : Hid (y = l[j]) := by
          show _ = _
          have h9 := congrArg (fun L : List (List UInt8) => L[0]?) HDR.out
          simp only [List.getElem?_drop, Nat.add_zero] at h9
          rw [List.getElem?_eq_getElem hjR, List.getElem?_eq_getElem hjl] at h9
          injection h9 with h9
          rw [hyq, h9]
        have HDR2 : Hid (R.drop (j + 1) = l.drop (j + 1)) := by
          show _ = _
          have h9 := congrArg (List.drop 1) HDR.out
          rwa [List.drop_drop, List.drop_drop] at h9
        have y0 := hcs j (str y) (by rw [List.getElem?_map, List.getElem?_eq_getElem hjR, hyq]; rfl)
        simp only [Nat.zero_add] at y0
        have hji : (j : Int) < (m : Int) := by omega
        have K0 := Lib.hid (emp1_any (w := wr) y)
        obtain ⟨cy, hcy⟩ : ∃ c, c = y.isEmpty := ⟨_, rfl⟩
        have HCY : Hid (neP l[j] = !cy) := by show _ = _; rw [← HY.out, hcy]; rfl
        have K : Hid (Calls Tryz.prog 146 #[.string (str y)] wr fun e w' => e = .returned (.bool cy) ∧ wr = w') := by show Calls _ _ _ _ _; rw [hcy]; exact K0.out
        clear hcy K0 hcs hyq
        obtain ⟨s, hs⟩ : ∃ s, s = str y := ⟨_, rfl⟩
        have HS := Lib.hid hs
        rw [← hs] at y0 K
        clear hs
        cases cy with
        | true =>
          have HT2 : Hid (R.take i = (l.take (j + 1)).filter neP) := by
            show _ = _
            rw [ne_snoc l hjl, HCY.out, if_neg (by decide), List.append_nil]; exact HT.out
          go_wp2_with (first
            | (go_at_call 146; refine Hid.out ?_))
          refine Hid.mk_ ((K.out).mono ?_)
          rintro e w2 ⟨rfl, rfl⟩
          go_wp2
          go_roundw
          case rel => exact ⟨i, j + 1, R, by omega, by omega, rfl, by go_num, ho, HT2, HDR2, hgw⟩
          case measure => simp [intOf]; omega
        | false =>
          have him : i < m := by omega
          have hiR : i < R.length := by have := HRL.out; omega
          have HT2 : Hid ((R.set i y).take (i + 1) = (l.take (j + 1)).filter neP) := by
            show _ = _
            rw [ne_snoc l hjl, HCY.out, if_pos (by decide), ← HT.out, List.take_succ_eq_append_getElem (by rw [List.length_set]; exact hiR), List.getElem_set_self, List.take_set_of_le (Nat.le_refl _), HY.out]
          have HDR3 : Hid ((R.set i y).drop (j + 1) = l.drop (j + 1)) := by
            show _ = _
            rw [← HDR2.out, List.drop_set_of_lt (by omega)]
          obtain ⟨hq, hoW, hgW, hsW⟩ := ho.setE him rfl (str y)
          obtain ⟨⟨u0, k0⟩, m0⟩ := hq 0 (by omega)
          simp only [Nat.add_zero, Nat.mul_one] at k0 m0
          have HOW := Lib.hid hoW
          have HGW := Lib.hid (hgw.trans hgW)
          rw [← List.map_set, ← HS.out] at HOW
          rw [← HS.out] at HGW
          have hii : (i : Int) < (m : Int) := by omega
          clear hq hoW hgW hsW hiR
          go_wp2_with (first
            | (go_at_call 146; refine Hid.out ?_))
          refine Hid.mk_ ((K.out).mono ?_)
          rintro e w2 ⟨rfl, rfl⟩
          go_wp2
          go_roundw
          case rel => exact ⟨i + 1, j + 1, R.set i y, by omega, by omega, by go_num, by go_num, by first | exact HOW.out | (have h := HOW.out; rw [Nat.mul_one] at h; exact h), HT2, HDR3, by first | exact HGW.out | (have h := HGW.out; rw [Nat.mul_one] at h; exact h)⟩
          case measure => simp [intOf]; omega
      · have hjm' : j = m := by omega
        have hi1 : ¬ (j : Int) < (m : Int) := by omega
        have HF : Hid (R.take i = l.filter neP) := by
          show _ = _
          rw [HT.out, List.take_of_length_le (by have := HL.out; omega)]
        obtain ⟨w7, hrun, ho7, hg7, hs7⟩ := run_clearC einfo_ss zok_ss (p := i) (n := m - i) (d := c - i) (ho.take_ (i := i) (by omega)) rfl (Nat.le_refl _) (by omega)
        have i2 : (i : Int) ≤ (m : Int) := by omega
        have i3 : (i : Int) ≤ (c : Int) := by omega
        have i4 : ¬ (c = i) := by omega
        have i5 : ¬ ((c : Int) = (i : Int)) := by omega
        simp only [Nat.mul_one] at hrun
        clear hjm'
        go_wp2
        go_ret
        exact ⟨⟨i, rfl, by rw [← HF.out, List.map_take]; exact ho7⟩, hgw.trans hg7⟩
end
end Go.Proofs.YtdgppdiickmofaaGreatDoor

/- The program's tags: text, Text. -/
namespace Go.Proofs.YtdgppdiickmofaaGreatDoor
open Go.RowKit
set_option maxRecDepth 100000
theorem partsT_eq (t : Tg) : partsT t = ([t.lang, t.scr, t.reg] ++ t.vars).filter neP := rfl
theorem join_len (sep : List UInt8) (hs : sep.length ≤ 1) {N : Nat} : ∀ (l : List (List UInt8)), (∀ x ∈ l, x.length ≤ N) → (Lib.join l sep).length ≤ l.length * (N + 1)
  | [], _ => by simp [Lib.join]
  | [a], h => by have := h a (by simp); simp [Lib.join]; omega
  | a :: b :: r, h => by
    have h1 := h a (by simp)
    have ih := join_len sep hs (b :: r) (fun x hx => h x (List.mem_cons_of_mem _ hx))
    have e : Lib.join (a :: b :: r) sep = a ++ sep ++ Lib.join (b :: r) sep := by simp [Lib.join]
    rw [e, List.length_append, List.length_append, List.length_cons, Nat.succ_mul]
    omega
section
variable {w : World}
set_option maxHeartbeats 3200000 in
theorem ttext_any {h : SlH} {t : Tg} (hs : TgW w h t) :
    Calls Tryz.prog 97 #[tgV h t] w fun e w' => e = .returned (.string (str (joinT t))) ∧ Ext w w' := by
  obtain ⟨A, m, c⟩ := h
  obtain ⟨lang, hla⟩ : ∃ x, x = str t.lang := ⟨_, rfl⟩
  obtain ⟨scr, hsc⟩ : ∃ x, x = str t.scr := ⟨_, rfl⟩
  obtain ⟨reg, hrg⟩ : ∃ x, x = str t.reg := ⟨_, rfl⟩
  unfold tgV
  rw [← hla, ← hsc, ← hrg]
  have HL : Hid (m = t.vars.length) := by have := hs.sl.len; rw [List.length_map] at this; exact this
  have hn : m ≤ 1000 := by have := hs.n; have := HL.out; omega
  have HM3 : Hid ([lang, scr, reg] ++ t.vars.map str = ([t.lang, t.scr, t.reg] ++ t.vars).map str) := by show _ = _; rw [hla, hsc, hrg]; rfl
  have HJ : Hid ((Lib.join (partsT t) [45]).length ≤ 140737488355328) := by
    show _ ≤ _
    have h1 := join_len [45] (by simp) (N := 1000) (partsT t) (fun x hx => by
      have hx2 := (List.mem_filter.1 hx).1
      rcases List.mem_append.1 hx2 with h3 | h3
      · have a1 := hs.ln; have a2 := hs.sn; have a3 := hs.rn
        simp only [List.mem_cons, List.not_mem_nil, or_false] at h3
        rcases h3 with rfl | rfl | rfl <;> assumption
      · exact hs.sz x h3)
    have h2 : (partsT t).length ≤ 1003 := Nat.le_trans (List.length_filter_le _ _) (by rw [List.length_append]; have := hs.n; simp; omega)
    have h3 := Nat.mul_le_mul_right (1000 + 1) h2
    omega
  have HS := Lib.hid hs
  clear hla hsc hrg hs
  dsimp only
  go_enter Tryz.func97, Tryz.ntmps97
  have hE0 : Ext w ((w.alloc (.cells #[.string lang, .string scr, .string reg, .slice A m c] 108)).alloc (.cells #[.string lang, .string scr, .string reg] 9)) := ((Ext.refl w).alloc _).alloc _
  obtain ⟨W1, hW1⟩ : ∃ W1, W1 = (w.alloc (.cells #[.string lang, .string scr, .string reg, .slice A m c] 108)).alloc (.cells #[.string lang, .string scr, .string reg] 9) := ⟨_, rfl⟩
  have ho0 : OsC strF 9 1 W1 w.heap.size (some ⟨w.heap.size + 1, 0, none⟩) 3 3 [lang, scr, reg] := by
    have hh := heap_alloc_new (w.alloc (.cells #[.string lang, .string scr, .string reg, .slice A m c] 108)) (.cells #[.string lang, .string scr, .string reg] 9)
    rw [← hW1, show (w.alloc (.cells #[.string lang, .string scr, .string reg, .slice A m c] 108)).heap.size = w.heap.size + 1 by simp] at hh
    exact OsC.of_row (cs := strF) (e := 9) (k := 1) (base := w.heap.size) (m := 3) (c := 3) (l := [lang, scr, reg]) rfl (by omega) hh (by omega) (by simp [maxLen]) rfl rfl strF_len strF_cell rfl (by omega)
  rw [← hW1] at hE0
  have hs1 : SlC strF 1 W1 A m (t.vars.map str) := HS.out.sl.ext hE0
  have hsz1 := hE0.size_le
  go_wp2_with (first
    | (at_builtin; refine Hid.out ?_))
  rw [← hW1]
  clear hW1
  refine Hid.mk_ ?_
  refine appC einfo_ss rfl _ _ rfl ho0 rfl hs1 rfl (by omega) hsz1 ?_
  intro A2 m2 c2 w3 ho3 hg3 hat3
  rw [HM3.out] at ho3
  have hE3 : Ext w w3 := hE0.grown hg3 ho0.ge
  have hm2 : m2 ≤ 4000 := by have := ho3.len; rw [List.length_map] at this; simp at this; have := HL.out; omega
  go_wp2_with (first
    | (go_at_call 145; refine Hid.out ?_))
  refine Hid.mk_ ((delEmp_any ho3 hm2).mono ?_)
  rintro e w4 ⟨⟨m3, rfl, ho4⟩, hg4⟩
  have hE4 : Ext w w4 := hE3.grown hg4 ho3.ge
  go_wp2_with (first
    | (go_at_call 144; refine Hid.out ?_))
  refine Hid.mk_ ((join_any (l := partsT t) ho4.sl ho4.cap [45] HJ.out).mono ?_)
  rintro e w5 ⟨rfl, hE5⟩
  go_wp2
  go_ret
  exact ⟨rfl, hE4.trans hE5⟩
set_option maxHeartbeats 1600000 in
theorem tText_any {h : SlH} {t : Tg} (hs : TgW w h t) :
    Calls Tryz.prog 66 #[tgV h t] w fun e w' => e = .returned (.string (str (textT t))) ∧ Ext w w' := by
  obtain ⟨A, m, c⟩ := h
  have hE0 : Ext w (w.alloc (.cells #[.string (str t.lang), .string (str t.scr), .string (str t.reg), .slice A m c] 108)) := (Ext.refl w).alloc _
  have K1 := tvalid_any (hs.ext hE0)
  obtain ⟨cv, hcv⟩ : ∃ c, c = validT t := ⟨_, rfl⟩
  rw [← hcv] at K1
  have HT : Hid (textT t = if cv = true then joinT t else []) := by show _ = _; unfold textT; rw [hcv]
  have HS := Lib.hid hs
  have HK := Lib.hid K1
  unfold tgV at HK
  unfold tgV
  dsimp only at HK
  obtain ⟨lang, hla⟩ : ∃ x, x = str t.lang := ⟨_, rfl⟩
  obtain ⟨scr, hsc⟩ : ∃ x, x = str t.scr := ⟨_, rfl⟩
  obtain ⟨reg, hrg⟩ : ∃ x, x = str t.reg := ⟨_, rfl⟩
  have H2 : Hid (∀ w2, Ext w w2 → Calls Tryz.prog 97 #[.agg #[.string lang, .string scr, .string reg, .slice A m c]] w2 fun e w' => e = .returned (.string (str (joinT t))) ∧ Ext w2 w') := fun w2 hE => by
    rw [hla, hsc, hrg]
    exact ttext_any (h := ⟨A, m, c⟩) (t := t) (hs.ext hE)
  rw [← hla, ← hsc, ← hrg] at HK hE0 ⊢
  clear hla hsc hrg hs hcv K1
  dsimp only
  cases cv with
  | false =>
    go_enter Tryz.func66, Tryz.ntmps66
    go_wp2_with (first
      | (go_at_call 74; refine Hid.out ?_))
    refine Hid.mk_ ((HK.out).mono ?_)
    rintro e w2 ⟨rfl, hE2⟩
    go_wp2
    go_ret
    exact ⟨by rw [HT.out]; rfl, hE0.trans hE2⟩
  | true =>
    go_enter Tryz.func66, Tryz.ntmps66
    have hB := (Blk.new w 108 #[.string lang, .string scr, .string reg, .slice A m c])
    go_wp2_with (first
      | (go_at_call 74; refine Hid.out ?_))
    refine Hid.mk_ ((HK.out).mono ?_)
    rintro e w2 ⟨rfl, hE2⟩
    have hB2 := hB.below hE2 (by simp)
    have y0 := hB2.cell 0
    have y1 := hB2.cell 1
    have y2 := hB2.cell 2
    have y3 := hB2.cell 3
    simp only [List.getElem?_toArray, List.getElem?_cons_zero, List.getElem?_cons_succ] at y0 y1 y2 y3
    go_wp2_with (first
      | (go_at_call 97; refine Hid.out ?_))
    refine Hid.mk_ ((H2.out w2 (hE0.trans hE2)).mono ?_)
    rintro e w3 ⟨rfl, hE3⟩
    go_wp2
    go_ret
    exact ⟨by rw [HT.out]; rfl, (hE0.trans hE2).trans hE3⟩
end
end Go.Proofs.YtdgppdiickmofaaGreatDoor
