/- The program's tags: Ancestors. -/
import Derived.Test.YtdgppdiickmofaaGreatDoorPQ18
namespace Go.Proofs.YtdgppdiickmofaaGreatDoor
open Go.RowKit
set_option maxRecDepth 100000
attribute [local go_sem] ext_refl_t ext_alloc_t ext_drew_t ext_drewN_t ext_alloc2_t ext_alloc3_t ext_alloc4_t ext_alloc5_t ext_alloc6_t ext_alloc7_t ext_alloc8_t ext_alloc1d_t ext_alloc2d_t ext_alloc3d_t ext_alloc4d_t
/-- How many ancestors a tag has at most. -/
def depT (t : Tg) : Nat := t.vars.length + ((if t.reg = [] then 0 else 1) + ((if t.scr = [] then 0 else 1) + (if t.lang = undL then 0 else 1)))
theorem depT_le {t : Tg} : depT t ≤ t.vars.length + 3 := by
  unfold depT
  split <;> split <;> split <;> omega
theorem parent_dep {t p : Tg} (h : parentT t = some p) : depT p + 1 ≤ depT t := by
  unfold parentT at h
  split at h
  · rename_i hv
    injection h with h
    subst h
    have : 0 < t.vars.length := List.length_pos_iff.2 hv
    unfold depT
    dsimp only
    rw [List.length_take]
    omega
  split at h
  · rename_i hr
    injection h with h
    subst h
    unfold depT
    dsimp only
    rw [if_neg hr, if_pos rfl]
    omega
  split at h
  · rename_i hr
    injection h with h
    subst h
    unfold depT
    dsimp only
    rw [if_neg hr, if_pos rfl]
    omega
  split at h
  · rename_i hr
    injection h with h
    subst h
    unfold depT
    dsimp only
    rw [if_neg (show ¬ t.lang = undL from hr), if_pos (show ([117, 110, 100] : List UInt8) = undL from rfl)]
    omega
  · cases h
theorem ancT_none {k : Nat} {t : Tg} (h : parentT t = none) : ancT k t = [] := by
  cases k with
  | zero => rfl
  | succ k => unfold ancT; rw [h]
theorem ancT_some {k : Nat} {t p : Tg} (h : parentT t = some p) : ancT (k + 1) t = joinT p :: ancT k p := by
  rw [ancT, h]
/-- What is still to come: the tag at hand, if it is one, and its ancestors. -/
def restA (ok : Bool) (k : Nat) (t : Tg) : List (List UInt8) := if ok = true then joinT t :: ancT k t else []
theorem rest_par {k : Nat} {t t' : Tg} {h' : SlH} {ok : Bool} (hp : ParR t h' t' ok) (hk : depT t ≤ k) : ∃ k', ancT k t = restA ok k' t' ∧ depT t' ≤ k' ∧ (ok = true → k' + 1 = k) ∧ k' ≤ k + 7 := by
  unfold ParR at hp
  cases h : parentT t with
  | none =>
    rw [h] at hp
    obtain ⟨rfl, rfl, _⟩ := hp
    have h7 : depT tg0 ≤ 1 := by decide
    exact ⟨k + 7, by rw [ancT_none h]; rfl, by omega, (fun e => by cases e), Nat.le_refl _⟩
  | some p =>
    rw [h] at hp
    obtain ⟨rfl, rfl⟩ := hp
    have h1 := parent_dep h
    obtain ⟨k', rfl⟩ : ∃ k', k = k' + 1 := ⟨k - 1, by omega⟩
    exact ⟨k', by rw [ancT_some h]; rfl, by omega, fun _ => rfl, by omega⟩
/-- Ancestors between two rounds: w is the world ahead. -/
structure AnS (w wr : World) (g : Nat) (h : SlH) (t : Tg) (A : Option Addr) (m c : Nat) (L : List (List UInt8)) : Prop where
  ext : Ext w wr
  ge : w.heap.size ≤ g
  bt : Blk wr g 108 #[.string (str t.lang), .string (str t.scr), .string (str t.reg), .slice h.A h.m h.c]
  tg : TgW wr h t
  own : OsC strF 9 1 wr w.heap.size A m c (L.map str)
  ap : Apart (ob A) h
theorem TgW.kept {w w' : World} {h : SlH} {t : Tg} {r : Option Nat} (hh : TgW w h t) (hg : w.grownBy w' r) (ha : Apart r h) : TgW w' h t := ⟨hh.sl.kept' hg ha, hh.cap, hh.n, hh.sz, hh.ln, hh.sn, hh.rn⟩
theorem TgW.far {w : World} {h : SlH} {t : Tg} (hh : TgW w h t) {r : Option Nat} (hr : ∀ g, r = some g → w.heap.size ≤ g) : Apart r h := by
  rcases Nat.eq_zero_or_pos h.m with h0 | h0
  · exact .inl h0
  · obtain ⟨ad, hA, hb, _⟩ := hh.sl.rd.2 h0
    refine .inr (.inr fun e => ?_)
    rw [hA] at e
    have := hr ad.block (by rw [← e]; rfl)
    omega
theorem apart_new {w : World} {h h' : SlH} {r : Option Nat} (ha : Apart r h) (hr : ∀ g, r = some g → g < w.heap.size) (hn : h' = h ∨ ∀ k, ob h'.A = some k → w.heap.size ≤ k) : Apart r h' := by
  rcases hn with rfl | hn
  · exact ha
  · cases hA : ob h'.A with
    | none => exact .inr (.inl hA)
    | some k =>
      refine .inr (.inr fun e => ?_)
      rw [hA] at e
      have h1 := hn k hA
      have h2 := hr k e.symm
      omega
theorem AnS.extn {w wr w2 : World} {g : Nat} {h : SlH} {t : Tg} {A : Option Addr} {m c : Nat} {L : List (List UInt8)} (hh : AnS w wr g h t A m c L) (hE : Ext wr w2) : AnS w w2 g h t A m c L :=
  ⟨hh.ext.trans hE, hh.ge, hh.bt.below hE hh.bt.lt, hh.tg.ext hE, hh.own.ext hE, hh.ap⟩
theorem AnS.app {w wr w2 : World} {g : Nat} {h : SlH} {t : Tg} {A A' : Option Addr} {m c m' c' : Nat} {L : List (List UInt8)} {x : List UInt8} (hh : AnS w wr g h t A m c L) (ho : OsC strF 9 1 w2 w.heap.size A' m' c' (L.map str ++ [str x])) (hg : wr.grownBy w2 (ob A)) (hn : NewOr wr.heap.size (ob A) (ob A')) : AnS w w2 g h t A' m' c' (L ++ [x]) := by
  have hne := own_ne_tg hh.own hh.bt
  refine ⟨hh.ext.grown hg hh.own.ge, hh.ge, hh.bt.grown hg (fun e => ?_), hh.tg.kept hg hh.ap, by rw [List.map_append]; exact ho, ?_⟩
  · rcases hne with h4 | h4
    · rw [h4] at e; cases e
    · exact h4 e.symm
  · rcases hh.ap with h1 | h1 | h1
    · exact .inl h1
    · exact .inr (.inl h1)
    · rcases Nat.eq_zero_or_pos h.m with h0 | h0
      · exact .inl h0
      · refine .inr (.inr fun e => ?_)
        obtain ⟨ad, hA, hb, _⟩ := hh.tg.sl.rd.2 h0
        rcases hn ad.block (by rw [← e, hA]; rfl) with h2 | h2
        · omega
        · exact h1 (by rw [hA, h2]; rfl)
section
variable {w : World}
set_option maxHeartbeats 12800000 in
theorem anc_any {s : List UInt8} (hs : s.length ≤ 1000) (hM : MX w) :
    Calls Tryz.prog 106 #[.string (str s)] w fun e w' => (∃ A m c, ∃ z : Int, e = .returned (.tuple #[.slice A m c, .int .i64 z]) ∧ SlC strF 1 w' A m ((ancS s).map str) ∧ m ≤ c) ∧ Ext w w' := by
  have HP := Lib.hid (parse_any hs hM)
  obtain ⟨s0, hs0⟩ : ∃ x, x = str s := ⟨_, rfl⟩
  rw [← hs0] at HP ⊢
  clear hs0 hs hM
  go_enter Tryz.func106, Tryz.ntmps106
  go_wp2_with (first
    | (go_at_call 65; refine Hid.out ?_))
  refine Hid.mk_ (HP.out.mono ?_)
  rintro e w1 ⟨⟨⟨A0, m0, c0⟩, rfl, hT, -⟩, hE1⟩
  obtain ⟨t0, ht⟩ : ∃ t, t = (parseT s).1 := ⟨_, rfl⟩
  rw [← ht] at hT ⊢
  obtain ⟨er, her⟩ : ∃ er, er = (parseT s).2 := ⟨_, rfl⟩
  rw [← her]
  have HTT := Lib.hid ht
  have HER := Lib.hid her
  clear ht her
  unfold tgV
  dsimp only at hT ⊢
  obtain ⟨lang, hla⟩ : ∃ x, x = str (t0).lang := ⟨_, rfl⟩
  obtain ⟨scr, hsc⟩ : ∃ x, x = str (t0).scr := ⟨_, rfl⟩
  obtain ⟨reg, hrg⟩ : ∃ x, x = str (t0).reg := ⟨_, rfl⟩
  have HLA := Lib.hid hla
  have HSC := Lib.hid hsc
  have HRG := Lib.hid hrg
  rw [← hla, ← hsc, ← hrg]
  clear hla hsc hrg
  have HT := Lib.hid hT
  clear hT
  have hE2 : Ext w1 (w1.alloc (.cells #[.string lang, .string scr, .string reg, .slice A0 m0 c0] 108)) := (Ext.refl w1).alloc _
  have HPK : Hid (∀ W, Ext w1 W → Calls Tryz.prog 109 #[.agg #[.string lang, .string scr, .string reg, .slice A0 m0 c0]] W fun e w' => ParPost W ⟨A0, m0, c0⟩ t0 e w' ∧ Ext W w') := fun W hE => by
    rw [HLA.out, HSC.out, HRG.out]
    exact tparent_any (h := ⟨A0, m0, c0⟩) (HT.out.ext hE)
  by_cases h0 : er = 0
  case neg =>
    have HC : Hid (ancS s = []) := by show _ = _; unfold ancS; rw [← HER.out, if_neg h0]
    go_wp2
    go_ret2
    exact ⟨⟨none, 0, 0, er, rfl, by rw [HC.out]; exact SlC.nil_ strF_len, Nat.le_refl _⟩, hE1.trans hE2⟩
  case pos =>
    have HC : Hid (ancS s = ancT 10 t0) := by show _ = _; unfold ancS; rw [← HER.out, if_pos h0, ← HTT.out]
    have hv : validT t0 = true := by
      refine parse_valid (s := s) ?_
      rw [HTT.out]
      refine Prod.ext rfl ?_
      rw [← HER.out, h0]
    have HD : Hid (depT t0 ≤ 10) := by show _ ≤ _; have h1 := depT_le (t := t0); have h2 := (valid_parts hv).2.2.2.2.2; omega
    subst h0
    clear hv
    go_wp2_with (first
      | (go_at_call 109; refine Hid.out ?_))
    refine Hid.mk_ ((HPK.out _ hE2).mono ?_)
    rintro e w3 ⟨⟨h3, t3, ok, rfl, hpr, ht3, -⟩, hE3⟩
    obtain ⟨k, hk1, hk2, hk3, hk4⟩ := rest_par hpr HD.out
    have HAN : Hid (AnS w (w3.alloc (.cells #[.string (str t3.lang), .string (str t3.scr), .string (str t3.reg), .slice h3.A h3.m h3.c] 108)) w3.heap.size h3 t3 none 0 0 []) :=
      ⟨((hE1.trans hE2).trans hE3).alloc _, Nat.le_trans ((hE1.trans hE2).trans hE3).size_le (Nat.le_refl _), Blk.new w3 _ _, ht3.ext ((Ext.refl w3).alloc _), OsC.nil_ strF_len strF_cell, by
        rcases hA : ob h3.A with _ | k
        · exact .inr (.inl hA)
        · exact .inr (.inr (by rw [hA]; intro e; cases e))⟩
    have HR : Hid (ancS s = [] ++ restA ok k t3) := by show _ = _; rw [HC.out, hk1]; rfl
    have HK : Hid (depT t3 ≤ k ∧ (ok = true → k + 1 ≤ 10 ∧ ([] : List (List UInt8)).length + k ≤ 20)) := ⟨hk2, fun e => by have := hk3 e; exact ⟨by omega, by simp; omega⟩⟩
    unfold tgV
    dsimp only
    obtain ⟨g0, hg0⟩ : ∃ g0, g0 = w3.heap.size := ⟨_, rfl⟩
    obtain ⟨l3, hl3⟩ : ∃ x, x = str t3.lang := ⟨_, rfl⟩
    obtain ⟨s3, hs3⟩ : ∃ x, x = str t3.scr := ⟨_, rfl⟩
    obtain ⟨r3, hr3⟩ : ∃ x, x = str t3.reg := ⟨_, rfl⟩
    obtain ⟨W4, hW4⟩ : ∃ W4, W4 = (w3.alloc (.cells #[.string (str t3.lang), .string (str t3.scr), .string (str t3.reg), .slice h3.A h3.m h3.c] 108)) := ⟨_, rfl⟩
    rw [← hW4, ← hg0] at HAN
    rw [← hl3, ← hs3, ← hr3] at hW4
    rw [← hl3, ← hs3, ← hr3]
    clear hk1 hk2 hk3 hk4 hpr ht3 hE3 hE2 hl3 hs3 hr3 HPK
    go_upto_region 6 with fail
    rw [← hW4, ← hg0]
    clear hW4 hg0
    go_loopg [6, 7, 8] 10 (fun gz s6 s7 s8 wx => ∃ (g : Nat) (h : SlH) (t : Tg) (ok : Bool) (A : Option Addr) (m c k : Nat) (L : List (List UInt8)), s6 = .slice A m c ∧ s7 = .pointer (some ⟨g, 0, none⟩) ∧ s8 = .bool ok ∧ Hid (AnS w wx g h t A m c L) ∧ Hid (ancS s = L ++ restA ok k t) ∧ Hid (depT t ≤ k ∧ (ok = true → k + 1 ≤ gz ∧ L.length + k ≤ 20)))
    case atStart => exact ⟨g0, h3, t3, ok, none, 0, 0, k, [], rfl, rfl, rfl, HAN, HR, HK⟩
    case round =>
      obtain ⟨g, ⟨hA, hm, hc⟩, t, ok, A, m, c, k, L, rfl, rfl, rfl, HA, HRR, HKK⟩ := hrel
      cases ok with
      | false =>
        have HF : Hid (ancS s = L) := by have h := HRR.out; rw [show restA false k t = [] from rfl, List.append_nil] at h; exact h
        go_wp2
        go_ret2
        exact ⟨⟨A, m, c, 0, rfl, by rw [HF.out]; exact HA.out.own.sl, HA.out.own.cap⟩, HA.out.ext⟩
      | true =>
        obtain ⟨hd1, hd2⟩ := HKK.out
        obtain ⟨hd3, hd4⟩ := hd2 rfl
        cases gk with
        | zero => omega
        | succ gz =>
          have hm20 : m ≤ 20 := by have := HA.out.own.len; rw [List.length_map] at this; omega
          have hb := HA.out.bt
          obtain ⟨l, hl⟩ : ∃ x, x = str t.lang := ⟨_, rfl⟩
          obtain ⟨sc, hs⟩ : ∃ x, x = str t.scr := ⟨_, rfl⟩
          obtain ⟨r, hr⟩ : ∃ x, x = str t.reg := ⟨_, rfl⟩
          rw [← hl, ← hs, ← hr] at hb
          have HB := Lib.hid hb
          have hEr := Ext.refl wr
          have x0 := (hb).cell 0
          have x1 := (hb).cell 1
          have x2 := (hb).cell 2
          have x3 := (hb).cell 3
          simp only [List.getElem?_toArray, List.getElem?_cons_zero, List.getElem?_cons_succ] at x0 x1 x2 x3
          obtain ⟨x, hx⟩ : ∃ x, x = str (joinT t) := ⟨_, rfl⟩
          have HX := Lib.hid hx
          have HKT : Hid (∀ W, Ext wr W → Calls Tryz.prog 97 #[.agg #[.string l, .string sc, .string r, .slice hA hm hc]] W fun e w' => e = .returned (.string x) ∧ Ext W w') := fun W hE => by
            rw [hl, hs, hr, hx]
            exact ttext_any (h := ⟨hA, hm, hc⟩) (HA.out.tg.ext hE)
          have HL := Lib.hid hl
          have HS := Lib.hid hs
          have HRG2 := Lib.hid hr
          have HKK2 := Lib.hid (And.intro hd1 (And.intro hd3 hd4))
          clear hl hs hr hb hd1 hd2 hd3 hd4 hx
          go_wp2_with (first
            | (go_at_call 97; refine Hid.out ?_))
          refine Hid.mk_ ((HKT.out _ (Ext.refl _)).mono ?_)
          rintro e w5 ⟨rfl, hE5⟩
          have hE6 : Ext wr (w5.alloc (.cells #[.string x] 9)) := hE5.alloc _
          have hnew : SlC strF 1 (w5.alloc (.cells #[.string x] 9)) (some ⟨w5.heap.size, 0, none⟩) 1 [x] := SlC.new_ (cs := strF) w5 [x] (fun _ => rfl) (by simp) _ rfl (0, 0) _ rfl _
          have HA6 := Lib.hid (HA.out.extn hE6)
          have hbase : w.heap.size ≤ (w5.alloc (.cells #[.string x] 9)).heap.size := HA6.out.ext.size_le
          go_wp2_with (first
            | (at_builtin; refine Hid.out ?_))
          refine Hid.mk_ ?_
          refine appC einfo_ss rfl _ _ rfl HA6.out.own rfl hnew rfl (by omega) hbase ?_
          intro A7 m7 c7 w7 ho7 hg7 hn7
          have HA7 : Hid (AnS w w7 g ⟨hA, hm, hc⟩ t A7 m7 c7 (L ++ [joinT t])) := HA6.out.app (by rw [← HX.out]; exact ho7) hg7 hn7
          have hb7 := HA7.out.bt
          rw [← HL.out, ← HS.out, ← HRG2.out] at hb7
          clear x0 x1 x2 x3 hE6 hnew hbase ho7 hg7 hn7 hEr
          have x0 := (hb7).cell 0
          have x1 := (hb7).cell 1
          have x2 := (hb7).cell 2
          have x3 := (hb7).cell 3
          simp only [List.getElem?_toArray, List.getElem?_cons_zero, List.getElem?_cons_succ] at x0 x1 x2 x3
          have hE8 : Ext w7 (w7.alloc (.cells #[.string l, .string sc, .string r, .slice hA hm hc] 108)) := (Ext.refl w7).alloc _
          have hK8 := tparent_any (w := w7.alloc (.cells #[.string l, .string sc, .string r, .slice hA hm hc] 108)) (h := ⟨hA, hm, hc⟩) (t := t) (HA7.out.tg.ext hE8)
          unfold tgV at hK8
          rw [← HL.out, ← HS.out, ← HRG2.out] at hK8
          have HK8 := Lib.hid hK8
          have hb8 := Blk.new w7 108 #[.string l, .string sc, .string r, .slice hA hm hc]
          clear hK8 hb7
          go_wp2_with (first
            | (go_at_call 109; refine Hid.out ?_))
          refine Hid.mk_ (HK8.out.mono ?_)
          rintro e w9 ⟨⟨h9, t9, ok9, rfl, hpr9, ht9, hn9⟩, hE9⟩
          have hb9 := hb8.below hE9 (by simp)
          obtain ⟨hd1, hd3, hd4⟩ := HKK2.out
          obtain ⟨k9, hk1, hk2, hk3, hk4⟩ := rest_par hpr9 hd1
          have HR9 : Hid (ancS s = (L ++ [joinT t]) ++ restA ok9 k9 t9) := by
            show _ = _
            rw [HRR.out, show restA true k t = joinT t :: ancT k t from rfl, hk1, List.append_assoc]
            rfl
          have HK9 : Hid (depT t9 ≤ k9 ∧ (ok9 = true → k9 + 1 ≤ gz ∧ (L ++ [joinT t]).length + k9 ≤ 20)) := ⟨hk2, fun e => by have := hk3 e; rw [List.length_append]; exact ⟨by omega, by simp; omega⟩⟩
          clear hk1 hk2 hk3 hk4 hd1 hd3 hd4 hb8
          obtain ⟨g9, hg9⟩ : ∃ g9, g9 = w7.heap.size := ⟨_, rfl⟩
          rw [← hg9] at hb9 ⊢
          have HA9 : Hid (OsC strF 9 1 w9 w.heap.size A7 m7 c7 ((L ++ [joinT t]).map str)) := (HA7.out.own.ext hE8).ext hE9
          have HE9 : Hid (Ext w w9 ∧ w.heap.size ≤ g9) := ⟨(HA7.out.ext.trans hE8).trans hE9, by rw [hg9]; exact HA7.out.ext.size_le⟩
          have hlt7 : ∀ j, ob A7 = some j → j < w7.heap.size := HA7.out.own.lt
          have HAP : Hid (Apart (ob A7) h9 ∧ Apart (some g9) h9) := by
            refine ⟨apart_new (w := w7.alloc (.cells #[.string l, .string sc, .string r, .slice hA hm hc] 108)) HA7.out.ap (fun j hj => Nat.lt_of_lt_of_le (hlt7 j hj) hE8.size_le) hn9, ?_⟩
            refine apart_new (w := w7.alloc (.cells #[.string l, .string sc, .string r, .slice hA hm hc] 108)) (HA7.out.tg.far (r := some g9) fun j hj => ?_) (fun j hj => ?_) hn9
            · injection hj with hj; omega
            · injection hj with hj; simp; omega
          clear hg9 hE8 hE9 hlt7 hn9 x0 x1 x2 x3
          have q0 := (hb9).cell 0
          have q1 := (hb9).cell 1
          have q2 := (hb9).cell 2
          have q3 := (hb9).cell 3
          have gf0 := (hb9).frozen 0
          have gf1 := (hb9).frozen 1
          have gf2 := (hb9).frozen 2
          have gf3 := (hb9).frozen 3
          simp only [List.getElem?_toArray, List.getElem?_cons_zero, List.getElem?_cons_succ] at q0 q1 q2 q3
          have HRB := Lib.hid (hb9)
          have HT9 := Lib.hid ht9
          have HB9 := Lib.hid hb9
          obtain ⟨l9, hl9⟩ : ∃ x, x = str t9.lang := ⟨_, rfl⟩
          obtain ⟨s9, hs9⟩ : ∃ x, x = str t9.scr := ⟨_, rfl⟩
          obtain ⟨r9, hr9⟩ : ∃ x, x = str t9.reg := ⟨_, rfl⟩
          unfold tgV
          rw [← hl9, ← hs9, ← hr9]
          have HL9 := Lib.hid hl9
          have HS9 := Lib.hid hs9
          have HRG9 := Lib.hid hr9
          clear hl9 hs9 hr9 ht9 hb9 hpr9
          go_wp2
          go_roundg gz
          case measure => omega
          case rel =>
            refine ⟨g9, h9, t9, ok9, A7, m7, c7, k9, L ++ [joinT t], rfl, rfl, rfl, ?_, HR9, HK9⟩
            have hne := own_ne_tg HA9.out HB9.out
            have HE := HE9.out
            refine ⟨(((HE.1.set_ (p := ⟨g9, 0, none⟩) HE.2 _).set_ (p := ⟨g9, 1, none⟩) HE.2 _).set_ (p := ⟨g9, 2, none⟩) HE.2 _).set_ (p := ⟨g9, 3, none⟩) HE.2 _, HE.2, ?_, ?_, ?_, HAP.out.1⟩
            · rw [← HL9.out, ← HS9.out, ← HRG9.out]
              exact (((HB9.out.set_ 0 _).set_ 1 _).set_ 2 _).set_ 3 _
            · have hA9 := HAP.out.2
              exact (((HT9.out.kept (grown_setM w9 g9 0 (.string l9)) hA9).kept (grown_setM _ g9 1 (.string s9)) hA9).kept (grown_setM _ g9 2 (.string r9)) hA9).kept (grown_setM _ g9 3 (.slice h9.A h9.m h9.c)) hA9
            · exact (((HA9.out.kept (grown_setM w9 g9 0 (.string l9)) hne).kept (grown_setM _ g9 1 (.string s9)) hne).kept (grown_setM _ g9 2 (.string r9)) hne).kept (grown_setM _ g9 3 (.slice h9.A h9.m h9.c)) hne
end
end Go.Proofs.YtdgppdiickmofaaGreatDoor
