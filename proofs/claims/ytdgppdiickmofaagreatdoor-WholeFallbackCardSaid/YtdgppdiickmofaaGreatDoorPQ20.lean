/- Sets of strings as maps to true. -/
import Derived.Test.YtdgppdiickmofaaGreatDoorPQ19
import Derived.Maps.Own
import Derived.Maps.OwnSet
import Derived.Maps.Views
import Derived.Sort.KeysCollected
namespace Go.Proofs.YtdgppdiickmofaaGreatDoor
open Go.RowKit Go.Maps
set_option maxRecDepth 100000
theorem keyedS : Keyed Tryz.prog 9 := string_keyed Tryz.underlying9
theorem keyS (s : List UInt8) (h : s.length ≤ maxLen) : keyOf Tryz.prog 9 (.string (str s)) = some (.string s) := by
  have h2 : (str s).size ≤ maxLen := by rw [str_size]; exact h
  have h3 : (str s).data.toList = s := bys_str s
  simp [keyOf, Tryz.underlying9, mapKey, h2, h3]
theorem zero_b (w : World) : (zeroValue 4).run Tryz.prog w = .ok (.bool false) w := by kernel_rfl
/-- Block bm is a set of at most n strings, S, as a map to true. -/
def SM (w : World) (bm n : Nat) (S : List (List UInt8)) : Prop :=
  ∃ D : DataW Unit, w.ownsMap Tryz.prog 9 (plainElem Tryz.prog 4) bm n D ∧ ∀ s : List UInt8, s.length ≤ maxLen → D.atKey (.string s) (.lit (.bool false)) = .lit (.bool (decide (s ∈ S))) ∧ has D (.string s) = decide (s ∈ S)
section
variable {w w' : World} {bm n : Nat} {S : List (List UInt8)}
theorem SM.lt (h : SM w bm n S) : bm < w.heap.size := by obtain ⟨D, ho, _⟩ := h; exact ho.lt
theorem SM.kept {r : Option Nat} (h : SM w bm n S) (hg : w.grownBy w' r) (hr : some bm ≠ r) : SM w' bm n S := by
  obtain ⟨D, ho, hv⟩ := h
  exact ⟨D, ho.kept hg hr, hv⟩
theorem SM.ext (h : SM w bm n S) (hE : Ext w w') : SM w' bm n S := h.kept (hE.grownBy none) (by simp)
theorem SM.made (w : World) : SM (w.alloc (.map #[] 0)) w.heap.size 0 [] :=
  ⟨.map [], World.ownsMap_made _ _ _ _, fun _ _ => ⟨rfl, rfl⟩⟩
theorem SM.look (h : SM w bm n S) (s : List UInt8) (hs : s.length ≤ maxLen) : (Instr.lookup 125 (.map (some bm)) (.string (str s)) false).run Tryz.prog w = .ok (.bool (decide (s ∈ S))) w := by
  obtain ⟨D, ho, hv⟩ := h
  obtain ⟨v, ps, hrun, hR⟩ := ho.lookup keyedS Tryz.underlying125 (zero_b w) (plainElem_bool Tryz.underlying4 false) (keyS s hs)
  rw [(hv s hs).1] at hR
  have e : v = .bool (decide (s ∈ S)) := by
    unfold plainElem at hR
    rw [Tryz.underlying4] at hR
    cases v <;> simp at hR
    rw [hR.1]
  rw [← e]
  exact hrun
theorem SM.store (h : SM w bm n S) (hn : n < maxLen) (s : List UInt8) (hs : s.length ≤ maxLen) :
    ∃ w', (Instr.mapUpdate 125 (.map (some bm)) (.string (str s)) (.bool true)).run Tryz.prog w = .ok () w' ∧ SM w' bm (n + 1) (S ++ [s]) ∧ w.grownBy w' (some bm) := by
  obtain ⟨D, ho, hv⟩ := h
  obtain ⟨w', hrun, ho', hg⟩ := ho.update keyedS Tryz.underlying125 hn (keyS s hs) (plainElem_bool Tryz.underlying4 true)
  refine ⟨w', hrun, ⟨_, ho', fun t ht => ?_⟩, hg⟩
  by_cases hk : t = s
  · subst hk
    rw [decide_eq_true (show t ∈ S ++ [t] by simp)]
    exact ⟨atKey_put_same ho.isMap (keyedS.key (keyS t hs)) _ _, has_put_same ho.isMap (keyedS.key (keyS t hs)) _⟩
  · have hne : (Lit.string t) ≠ Lit.string s := fun e => by
      injection e with e
      exact hk e
    rw [atKey_put_other hne, has_put_other hne, (hv t ht).1, (hv t ht).2]
    by_cases hm : t ∈ S
    · rw [decide_eq_true hm, decide_eq_true (show t ∈ S ++ [s] by simp [hm])]
      exact ⟨rfl, rfl⟩
    · rw [decide_eq_false hm, decide_eq_false (show ¬ t ∈ S ++ [s] by simp [hm, hk])]
      exact ⟨rfl, rfl⟩
theorem SM.ne_blk {g : Nat} {t : TypeId} {cs : Array Value} (h : SM w bm n S) (hb : Blk w g t cs) : g ≠ bm := by
  intro e
  obtain ⟨D, ⟨es, clock, h1, _⟩, _⟩ := h
  unfold Blk at hb
  rw [e, h1] at hb
  cases hb
theorem SM.kp {P : Nat → Prop} (hk : KpS P w w') (h : SM w bm n S) (hb : ¬ P bm) : SM w' bm n S := by
  have hlt := h.lt
  obtain ⟨D, ⟨es, clock, h1, h2⟩, hv⟩ := h
  exact ⟨D, ⟨es, clock, (hk.block bm hlt hb).trans h1, h2⟩, hv⟩
/-- The keys of a set, sorted. -/
theorem SM.keys (h : SM w bm n S) (hS : ∀ s ∈ S, s.length ≤ maxLen) : ∃ D : DataW Unit, w.ownsMap Tryz.prog 9 (plainElem Tryz.prog 4) bm n D ∧ ∀ ss : List (List UInt8), ss.Perm (strKeys D) → sortV ss = sortV (nubL S) := by
  obtain ⟨D, ho, hv⟩ := h
  refine ⟨D, ho, fun ss hp => ?_⟩
  obtain ⟨es, rfl, hks⟩ := ho.keysOf
  obtain ⟨es', he', htd⟩ := ho.tidy keyedS
  injection he' with he'
  subst he'
  have hkl : ∀ p ∈ es, ∃ x : List UInt8, p.1 = .string x ∧ x.length ≤ maxLen := fun p hpm => by
    obtain ⟨key, hkey⟩ := hks p hpm
    obtain ⟨x, _, h2, h3⟩ := Maps.keyOf_str Tryz.underlying9 hkey
    exact ⟨x, h2, h3⟩
  have hp2 : (nubL S).Perm (strKeys (.map es)) := perm_strKeys htd (fun p hp => by obtain ⟨x, h1, _⟩ := hkl p hp; exact ⟨x, h1⟩) (nub_nodup S) fun x => by
    rw [nub_mem]
    by_cases hx : x.length ≤ maxLen
    · rw [(hv x hx).2, decide_eq_true_eq]
    · refine ⟨fun e => absurd (hS x e) hx, fun e => ?_⟩
      rw [has_eq, List.any_eq_true] at e
      obtain ⟨p, hpm, e⟩ := e
      obtain ⟨y, h1, h2⟩ := hkl p hpm
      rw [h1] at e
      have : y = x := by simpa [Lit.sameKey] using e
      rw [this] at h2
      exact absurd h2 hx
  exact mergeSort_of_perm (hp.trans hp2.symm)
end
end Go.Proofs.YtdgppdiickmofaaGreatDoor

/- The program's aliases: rules in memory, read. -/
namespace Go.Proofs.YtdgppdiickmofaaGreatDoor
open Go.RowKit
set_option maxRecDepth 100000
attribute [local go_sem] ext_refl_t ext_alloc_t ext_drew_t ext_drewN_t ext_alloc2_t ext_alloc3_t ext_alloc4_t ext_alloc5_t ext_alloc6_t ext_alloc7_t ext_alloc8_t ext_alloc1d_t ext_alloc2d_t ext_alloc3d_t ext_alloc4d_t
theorem yielded_undef : Go.yielded.match_1 (fun _ => Option Bool) (some undef) (fun b => some b) (fun _ => none) = none := rfl
attribute [local go_sem] yielded_undef
/-- A rule with the slices of its variants. -/
structure RuH where
  r : Ral
  a : SlH
  b : SlH
def ruC (x : RuH) : List Value := [.string (str x.r.a.lang), .string (str x.r.a.scr), .string (str x.r.a.reg), .slice x.a.A x.a.m x.a.c, .string (str x.r.b.lang), .string (str x.r.b.scr), .string (str x.r.b.reg), .slice x.b.A x.b.m x.b.c]
abbrev ruV (x : RuH) : Value := .agg #[.string (str x.r.a.lang), .string (str x.r.a.scr), .string (str x.r.a.reg), .slice x.a.A x.a.m x.a.c, .string (str x.r.b.lang), .string (str x.r.b.scr), .string (str x.r.b.reg), .slice x.b.A x.b.m x.b.c]
theorem ruC_len (x : RuH) : (ruC x).length = 8 := rfl
theorem ruC_cell : ∀ x : RuH, ∀ u ∈ ruC x, u.oneCell' = true := by
  intro x u hu
  simp only [ruC, List.mem_cons, List.not_mem_nil, or_false] at hu
  rcases hu with rfl | rfl | rfl | rfl | rfl | rfl | rfl | rfl <;> rfl
/-- A rule in memory. -/
structure RuW (w : World) (x : RuH) : Prop where
  a : TgW w x.a x.r.a
  b : TgW w x.b x.r.b
theorem RuW.ext {w w' : World} {x : RuH} (h : RuW w x) (hE : Ext w w') : RuW w' x := ⟨h.a.ext hE, h.b.ext hE⟩
abbrev AlP := List UInt8 × List UInt8
def alC (x : AlP) : List Value := [.string (str x.1), .string (str x.2)]
theorem info_ru8 : (Tryz.prog.info? 160).map (·.size) = some 8 := by kernel_rfl
theorem readR_eq (a : AlP) : (readR a).isSome = (decide ((parseT a.1).2 = 0) && (decide ((parseT a.2).2 = 0) && (decide (textT (parseT a.1).1 = a.1) && (decide (textT (parseT a.2).1 = a.2) && !decide (a.1 = undL))))) := by
  unfold readR
  by_cases h1 : (parseT a.1).2 = 0 <;> by_cases h2 : (parseT a.2).2 = 0 <;> by_cases h3 : textT (parseT a.1).1 = a.1 <;> by_cases h4 : textT (parseT a.2).1 = a.2 <;> by_cases h5 : a.1 = undL <;> simp [h1, h2, h3, h4, h5]
theorem readR_some {a : AlP} (h : (readR a).isSome = true) : readR a = some ⟨(parseT a.1).1, (parseT a.2).1⟩ := by
  unfold readR at h ⊢
  split
  · rfl
  · rename_i hc; rw [if_neg hc] at h; cases h
theorem str_eqB (x y : List UInt8) : ((str x).toList == (str y).toList) = decide (x = y) := by
  rw [str_toList, str_toList]
  by_cases h : x = y
  · rw [decide_eq_true h, h]; simp
  · rw [decide_eq_false h]; simpa using h
/-- What read returns. -/
def ReadPost (w : World) (a : AlP) (e : Ending) (w' : World) : Prop := ∃ x : RuH, e = .returned (.tuple #[ruV x, .bool (readR a).isSome]) ∧ x.r = ⟨(parseT a.1).1, (parseT a.2).1⟩ ∧ RuW w' x ∧ (∀ k, ob x.a.A = some k → w.heap.size ≤ k) ∧ ∀ k, ob x.b.A = some k → w.heap.size ≤ k
section
variable {w : World}
set_option maxHeartbeats 12800000 in
theorem aread_any {a : AlP} (ha : a.1.length ≤ 1000 ∧ a.2.length ≤ 1000) (hM : MX w) :
    Calls Tryz.prog 86 #[.agg #[.string (str a.1), .string (str a.2)]] w fun e w' => ReadPost w a e w' ∧ Ext w w' := by
  have HP1 : Hid (∀ W, Ext w W → Calls Tryz.prog 65 #[.string (str a.1)] W fun e w' => (∃ h, e = .returned (.tuple #[tgV h (parseT a.1).1, .int .i64 (parseT a.1).2]) ∧ TgW w' h (parseT a.1).1 ∧ ∀ k, ob h.A = some k → W.heap.size ≤ k) ∧ Ext W w') := fun W hE => parse_any ha.1 (hM.ext hE)
  have HP2 : Hid (∀ W, Ext w W → Calls Tryz.prog 65 #[.string (str a.2)] W fun e w' => (∃ h, e = .returned (.tuple #[tgV h (parseT a.2).1, .int .i64 (parseT a.2).2]) ∧ TgW w' h (parseT a.2).1 ∧ ∀ k, ob h.A = some k → W.heap.size ≤ k) ∧ Ext W w') := fun W hE => parse_any ha.2 (hM.ext hE)
  obtain ⟨X1, hX1⟩ : ∃ x, x = str a.1 := ⟨_, rfl⟩
  obtain ⟨X2, hX2⟩ : ∃ x, x = str a.2 := ⟨_, rfl⟩
  rw [← hX1] at HP1 ⊢
  rw [← hX2] at HP2 ⊢
  have HX1 := Lib.hid hX1
  have HX2 := Lib.hid hX2
  clear hX1 hX2 ha hM
  go_enter Tryz.func86, Tryz.ntmps86
  have hE0 : Ext w ((w.alloc (.cells #[.string X1, .string X2] 114)).alloc (.cells #[.string ⟨#[]⟩, .string ⟨#[]⟩, .string ⟨#[]⟩, .slice none 0 0, .string ⟨#[]⟩, .string ⟨#[]⟩, .string ⟨#[]⟩, .slice none 0 0] 160)) := ((Ext.refl w).alloc _).alloc _
  have hbb : Blk ((w.alloc (.cells #[.string X1, .string X2] 114)).alloc (.cells #[.string ⟨#[]⟩, .string ⟨#[]⟩, .string ⟨#[]⟩, .slice none 0 0, .string ⟨#[]⟩, .string ⟨#[]⟩, .string ⟨#[]⟩, .slice none 0 0] 160)) w.heap.size 114 #[.string X1, .string X2] := (Blk.new w _ _).alloc _
  have hbr : Blk ((w.alloc (.cells #[.string X1, .string X2] 114)).alloc (.cells #[.string ⟨#[]⟩, .string ⟨#[]⟩, .string ⟨#[]⟩, .slice none 0 0, .string ⟨#[]⟩, .string ⟨#[]⟩, .string ⟨#[]⟩, .slice none 0 0] 160)) (w.heap.size + 1) 160 #[.string ⟨#[]⟩, .string ⟨#[]⟩, .string ⟨#[]⟩, .slice none 0 0, .string ⟨#[]⟩, .string ⟨#[]⟩, .string ⟨#[]⟩, .slice none 0 0] := by
    have h := Blk.new (w.alloc (.cells #[.string X1, .string X2] 114)) 160 #[.string ⟨#[]⟩, .string ⟨#[]⟩, .string ⟨#[]⟩, .slice none 0 0, .string ⟨#[]⟩, .string ⟨#[]⟩, .string ⟨#[]⟩, .slice none 0 0]
    rwa [show (w.alloc (.cells #[.string X1, .string X2] 114)).heap.size = w.heap.size + 1 by simp] at h
  go_upto_region 1 with fail
  obtain ⟨W0, hW0⟩ : ∃ W0, W0 = ((w.alloc (.cells #[.string X1, .string X2] 114)).alloc (.cells #[.string ⟨#[]⟩, .string ⟨#[]⟩, .string ⟨#[]⟩, .slice none 0 0, .string ⟨#[]⟩, .string ⟨#[]⟩, .string ⟨#[]⟩, .slice none 0 0] 160)) := ⟨_, rfl⟩
  rw [← hW0] at hE0 hbb hbr ⊢
  obtain ⟨gb, hgb⟩ : ∃ g, g = w.heap.size := ⟨_, rfl⟩
  obtain ⟨gr, hgr⟩ : ∃ g, g = w.heap.size + 1 := ⟨_, rfl⟩
  rw [← hgb] at hbb
  rw [← hgr] at hbr
  rw [← hgr, ← hgb]
  have HGR : Hid (w.heap.size ≤ gr) := by show _ ≤ _; omega
  have HBR := Lib.hid hbr
  have hx0 := hbb.cell 0
  have hx1 := hbb.cell 1
  simp only [List.getElem?_toArray, List.getElem?_cons_zero, List.getElem?_cons_succ] at hx0 hx1
  have hgrl := hbr.lt
  clear hW0 hgb hgr hbr hbb
  go_wp2_with (first
    | (go_at_call 65; refine Hid.out ?_))
  refine Hid.mk_ ((HP1.out _ hE0).mono ?_)
  rintro e w1 ⟨⟨h1, rfl, hT1, hn1⟩, hE1⟩
  have HN1 : Hid (∀ k, ob h1.A = some k → w.heap.size ≤ k) := fun k hk => Nat.le_trans hE0.size_le (hn1 k hk)
  have HF1 : Hid (Apart (some gr) h1) := apart_new (w := W0) (h := ⟨none, 0, 0⟩) (.inl rfl) (fun j hj => by injection hj with hj; omega) (.inr hn1)
  have x0 := later hE1 hx0
  have x1 := later hE1 hx1
  clear hx0 hx1
  obtain ⟨t1, ht1⟩ : ∃ t, t = (parseT a.1).1 := ⟨_, rfl⟩
  obtain ⟨e1, he1⟩ : ∃ t, t = (parseT a.1).2 := ⟨_, rfl⟩
  rw [← ht1] at hT1
  rw [← he1, ← ht1]
  have HTT1 := Lib.hid ht1
  have HER1 := Lib.hid he1
  unfold tgV
  dsimp only
  obtain ⟨l1, hla⟩ : ∃ x, x = str (t1).lang := ⟨_, rfl⟩
  obtain ⟨s1, hsc⟩ : ∃ x, x = str (t1).scr := ⟨_, rfl⟩
  obtain ⟨r1, hrg⟩ : ∃ x, x = str (t1).reg := ⟨_, rfl⟩
  have HL1 := Lib.hid hla
  have HS1 := Lib.hid hsc
  have HR1 := Lib.hid hrg
  rw [← hla, ← hsc, ← hrg]
  clear hla hsc hrg
  have hb4 := Blk.new w1 108 #[.string l1, .string s1, .string r1, .slice h1.A h1.m h1.c]
  have hE2 : Ext w1 (w1.alloc (.cells #[.string l1, .string s1, .string r1, .slice h1.A h1.m h1.c] 108)) := (Ext.refl w1).alloc _
  have HTW := Lib.hid (hT1.ext hE2)
  have HB := Lib.hid (HBR.out.below (hE1.trans hE2) hgrl)
  have X0 := later hE2 x0
  have X1' := later hE2 x1
  have hE02 := (hE0.trans hE1).trans hE2
  obtain ⟨W2, hW2⟩ : ∃ W2, W2 = (w1.alloc (.cells #[.string l1, .string s1, .string r1, .slice h1.A h1.m h1.c] 108)) := ⟨_, rfl⟩
  obtain ⟨g4, hg4⟩ : ∃ g, g = w1.heap.size := ⟨_, rfl⟩
  rw [← hW2] at hb4 HTW HB X0 X1' hE02
  rw [← hg4] at hb4
  have hl4 := hb4.lt
  clear ht1 he1 hT1 HBR x0 x1
  go_upto_region 2 with fail
  rw [← hW2, ← hg4]
  clear hW2 hg4 hE2
  go_wp2_with (first
    | (go_at_call 65; refine Hid.out ?_))
  refine Hid.mk_ ((HP2.out _ hE02).mono ?_)
  rintro e w3 ⟨⟨h2, rfl, hT2, hn2⟩, hE3⟩
  have HN2 : Hid (∀ k, ob h2.A = some k → w.heap.size ≤ k) := fun k hk => Nat.le_trans hE02.size_le (hn2 k hk)
  have HF2 : Hid (Apart (some gr) h2) := apart_new (w := W2) (h := ⟨none, 0, 0⟩) (.inl rfl) (fun j hj => by injection hj with hj; have := HB.out.lt; omega) (.inr hn2)
  obtain ⟨t2, ht2⟩ : ∃ t, t = (parseT a.2).1 := ⟨_, rfl⟩
  obtain ⟨e2, he2⟩ : ∃ t, t = (parseT a.2).2 := ⟨_, rfl⟩
  rw [← ht2] at hT2
  rw [← he2, ← ht2]
  have HTT2 := Lib.hid ht2
  have HER2 := Lib.hid he2
  unfold tgV
  dsimp only
  obtain ⟨l2, hla⟩ : ∃ x, x = str (t2).lang := ⟨_, rfl⟩
  obtain ⟨s2, hsc⟩ : ∃ x, x = str (t2).scr := ⟨_, rfl⟩
  obtain ⟨r2, hrg⟩ : ∃ x, x = str (t2).reg := ⟨_, rfl⟩
  have HL2 := Lib.hid hla
  have HS2 := Lib.hid hsc
  have HR2 := Lib.hid hrg
  rw [← hla, ← hsc, ← hrg]
  clear hla hsc hrg
  have hb6 := Blk.new w3 108 #[.string l2, .string s2, .string r2, .slice h2.A h2.m h2.c]
  have hE4 : Ext w3 (w3.alloc (.cells #[.string l2, .string s2, .string r2, .slice h2.A h2.m h2.c] 108)) := (Ext.refl w3).alloc _
  have hb4' := hb4.below (hE3.trans hE4) hl4
  have HTW1 := Lib.hid (HTW.out.ext (hE3.trans hE4))
  have HTW2 := Lib.hid (hT2.ext hE4)
  have HBR := Lib.hid (HB.out.below (hE3.trans hE4) HB.out.lt)
  have x0 := later (hE3.trans hE4) X0
  have x1 := later (hE3.trans hE4) X1'
  have HE04 := Lib.hid ((hE02.trans hE3).trans hE4)
  obtain ⟨W4, hW4⟩ : ∃ W4, W4 = (w3.alloc (.cells #[.string l2, .string s2, .string r2, .slice h2.A h2.m h2.c] 108)) := ⟨_, rfl⟩
  obtain ⟨g6, hg6⟩ : ∃ g, g = w3.heap.size := ⟨_, rfl⟩
  rw [← hW4] at hb6 hb4' HTW1 HTW2 HBR x0 x1 HE04 hE4
  rw [← hg6] at hb6
  clear ht2 he2
  go_upto_region 3 with fail
  rw [← hW4, ← hg6]
  have HT1 : Hid (∀ W, Ext W4 W → Calls Tryz.prog 66 #[.agg #[.string l1, .string s1, .string r1, .slice h1.A h1.m h1.c]] W fun e w' => e = .returned (.string (str (textT t1))) ∧ Ext W w') := fun W hE => by
    rw [HL1.out, HS1.out, HR1.out]
    exact tText_any (HTW1.out.ext hE)
  have HT2 : Hid (∀ W, Ext W4 W → Calls Tryz.prog 66 #[.agg #[.string l2, .string s2, .string r2, .slice h2.A h2.m h2.c]] W fun e w' => e = .returned (.string (str (textT t2))) ∧ Ext W w') := fun W hE => by
    rw [HL2.out, HS2.out, HR2.out]
    exact tText_any (HTW2.out.ext hE)
  have HRQ := Lib.hid (readR_eq a)
  rw [← HER1.out, ← HER2.out, ← HTT1.out, ← HTT2.out] at HRQ
  obtain ⟨T1, hT1q⟩ : ∃ x, x = str (textT t1) := ⟨_, rfl⟩
  obtain ⟨T2, hT2q⟩ : ∃ x, x = str (textT t2) := ⟨_, rfl⟩
  rw [← hT1q] at HT1
  rw [← hT2q] at HT2
  have q1 : (T1.toList == X1.toList) = decide (textT t1 = a.1) := by rw [hT1q, HX1.out]; exact str_eqB _ _
  have q2 : (T2.toList == X2.toList) = decide (textT t2 = a.2) := by rw [hT2q, HX2.out]; exact str_eqB _ _
  have q3 : (X1.toList == (str undL).toList) = decide (a.1 = undL) := by rw [HX1.out]; exact (str_eqB a.1 undL)
  rw [show (str undL).toList = [117, 110, 100] from str_toList undL] at q3
  obtain ⟨b1, hb1⟩ : ∃ b, b = decide (textT t1 = a.1) := ⟨_, rfl⟩
  obtain ⟨b2, hb2⟩ : ∃ b, b = decide (textT t2 = a.2) := ⟨_, rfl⟩
  obtain ⟨b3, hb3⟩ : ∃ b, b = decide (a.1 = undL) := ⟨_, rfl⟩
  rw [← hb1] at q1
  rw [← hb2] at q2
  rw [← hb3] at q3
  rw [← hb1, ← hb2, ← hb3] at HRQ
  have k0 := (hb4').cell 0
  have k1 := (hb4').cell 1
  have k2 := (hb4').cell 2
  have k3 := (hb4').cell 3
  simp only [List.getElem?_toArray, List.getElem?_cons_zero, List.getElem?_cons_succ] at k0 k1 k2 k3
  have m0 := (hb6).cell 0
  have m1 := (hb6).cell 1
  have m2 := (hb6).cell 2
  have m3 := (hb6).cell 3
  simp only [List.getElem?_toArray, List.getElem?_cons_zero, List.getElem?_cons_succ] at m0 m1 m2 m3
  have K0 := latersU k0
  have K1 := latersU k1
  have K2 := latersU k2
  have K3 := latersU k3
  have M0 := latersU m0
  have M1 := latersU m1
  have M2 := latersU m2
  have M3 := latersU m3
  have Y0 := latersU x0
  have Y1 := latersU x1
  have HE4 := Lib.hid hE4
  clear hb1 hb2 hb3 hT1q hT2q hb4 hb4' hb6 hT2 hE0 hE1 hE02 hE3 hE4 hW4 hg6 hl4 HTW HB X0 X1' hgrl HP1 HP2 hn1 hn2
  by_cases c1 : e1 = 0
  · by_cases c2 : e2 = 0
    · subst c1 c2
      cases b1 with
      | true =>
        cases b2 with
        | true =>
          cases b3 with
          | true =>
            refine wp_region_ext_lit (by kernel_rfl) (by kernel_rfl) ?_
            try dsimp only [List.append]
            repeat (go_big_quiet_step ((go_at_call 66; first | with_reducible exact Calls.quiet_ext (HT1.out _ (ExtOf.ext _)) | with_reducible exact Calls.quiet_ext (HT2.out _ (ExtOf.ext _)))))
            refine wpQuiet_nil ?_
            rintro w5 ⟨⟨_, h5⟩, rfl⟩
            try dsimp only
            have HOK : Hid ((readR a).isSome = _) := HRQ.out
            have hbr := HBR.out.below h5 HBR.out.lt
            have y0 := later h5 k0
            have y1 := later h5 k1
            have y2 := later h5 k2
            have y3 := later h5 k3
            have z0 := later h5 m0
            have z1 := later h5 m1
            have z2 := later h5 m2
            have z3 := later h5 m3
            have q0 := hbr.cell 0
            have q1 := hbr.cell 1
            have q2 := hbr.cell 2
            have q3 := hbr.cell 3
            have q4 := hbr.cell 4
            have q5 := hbr.cell 5
            have q6 := hbr.cell 6
            have q7 := hbr.cell 7
            simp only [List.getElem?_toArray, List.getElem?_cons_zero, List.getElem?_cons_succ] at q0 q1 q2 q3 q4 q5 q6 q7
            have f0 := hbr.frozen 0
            have f1 := hbr.frozen 1
            have f2 := hbr.frozen 2
            have f3 := hbr.frozen 3
            have f4 := hbr.frozen 4
            have f5 := hbr.frozen 5
            have f6 := hbr.frozen 6
            have f7 := hbr.frozen 7
            have HB5 := Lib.hid hbr
            have HE5 := Lib.hid h5
            clear hbr h5 k0 k1 k2 k3 m0 m1 m2 m3 x0 x1
            go_wp2
            refine bodyPost_ret (results_cell_row_tmpT rfl _ _ gr 160 _ (0, 0) _ rfl ((((((((HB5.out.set_ 0 _).set_ 1 _).set_ 2 _).set_ 3 _).set_ 4 _).set_ 5 _).set_ 6 _).set_ 7 _) Tryz.underlying160 rfl info_ru8) rfl ?_
            have hgr := HGR.out
            refine ⟨⟨⟨⟨t1, t2⟩, h1, h2⟩, ?_, ?_, ?_, HN1.out, HN2.out⟩, ?_⟩
            · rw [HOK.out]
              show _ = Ending.returned (.tuple #[.agg #[.string (str t1.lang), .string (str t1.scr), .string (str t1.reg), .slice h1.A h1.m h1.c, .string (str t2.lang), .string (str t2.scr), .string (str t2.reg), .slice h2.A h2.m h2.c], .bool _])
              rw [← HL1.out, ← HS1.out, ← HR1.out, ← HL2.out, ← HS2.out, ← HR2.out]
              rfl
            · rw [HTT1.out, HTT2.out]
            · have hF1 := HF1.out
              have hF2 := HF2.out
              refine ⟨?_, ?_⟩
              · have hh := HTW1.out.ext HE5.out
                exact ((((((((hh.kept (grown_setM _ gr 0 _) hF1).kept (grown_setM _ gr 1 _) hF1).kept (grown_setM _ gr 2 _) hF1).kept (grown_setM _ gr 3 _) hF1).kept (grown_setM _ gr 4 _) hF1).kept (grown_setM _ gr 5 _) hF1).kept (grown_setM _ gr 6 _) hF1).kept (grown_setM _ gr 7 _) hF1)
              · have hh := HTW2.out.ext HE5.out
                exact ((((((((hh.kept (grown_setM _ gr 0 _) hF2).kept (grown_setM _ gr 1 _) hF2).kept (grown_setM _ gr 2 _) hF2).kept (grown_setM _ gr 3 _) hF2).kept (grown_setM _ gr 4 _) hF2).kept (grown_setM _ gr 5 _) hF2).kept (grown_setM _ gr 6 _) hF2).kept (grown_setM _ gr 7 _) hF2)
            · have hE := HE04.out.trans HE5.out
              exact ((((((((hE.set_ (p := ⟨gr, 0, none⟩) hgr _).set_ (p := ⟨gr, 1, none⟩) hgr _).set_ (p := ⟨gr, 2, none⟩) hgr _).set_ (p := ⟨gr, 3, none⟩) hgr _).set_ (p := ⟨gr, 4, none⟩) hgr _).set_ (p := ⟨gr, 5, none⟩) hgr _).set_ (p := ⟨gr, 6, none⟩) hgr _).set_ (p := ⟨gr, 7, none⟩) hgr _)
          | false =>
            refine wp_region_ext_lit (by kernel_rfl) (by kernel_rfl) ?_
            try dsimp only [List.append]
            repeat (go_big_quiet_step ((go_at_call 66; first | with_reducible exact Calls.quiet_ext (HT1.out _ (ExtOf.ext _)) | with_reducible exact Calls.quiet_ext (HT2.out _ (ExtOf.ext _)))))
            refine wpQuiet_nil ?_
            rintro w5 ⟨⟨_, h5⟩, rfl⟩
            try dsimp only
            have HOK : Hid ((readR a).isSome = _) := HRQ.out
            have hbr := HBR.out.below h5 HBR.out.lt
            have y0 := later h5 k0
            have y1 := later h5 k1
            have y2 := later h5 k2
            have y3 := later h5 k3
            have z0 := later h5 m0
            have z1 := later h5 m1
            have z2 := later h5 m2
            have z3 := later h5 m3
            have q0 := hbr.cell 0
            have q1 := hbr.cell 1
            have q2 := hbr.cell 2
            have q3 := hbr.cell 3
            have q4 := hbr.cell 4
            have q5 := hbr.cell 5
            have q6 := hbr.cell 6
            have q7 := hbr.cell 7
            simp only [List.getElem?_toArray, List.getElem?_cons_zero, List.getElem?_cons_succ] at q0 q1 q2 q3 q4 q5 q6 q7
            have f0 := hbr.frozen 0
            have f1 := hbr.frozen 1
            have f2 := hbr.frozen 2
            have f3 := hbr.frozen 3
            have f4 := hbr.frozen 4
            have f5 := hbr.frozen 5
            have f6 := hbr.frozen 6
            have f7 := hbr.frozen 7
            have HB5 := Lib.hid hbr
            have HE5 := Lib.hid h5
            clear hbr h5 k0 k1 k2 k3 m0 m1 m2 m3 x0 x1
            go_wp2
            refine bodyPost_ret (results_cell_row_tmpT rfl _ _ gr 160 _ (0, 0) _ rfl ((((((((HB5.out.set_ 0 _).set_ 1 _).set_ 2 _).set_ 3 _).set_ 4 _).set_ 5 _).set_ 6 _).set_ 7 _) Tryz.underlying160 rfl info_ru8) rfl ?_
            have hgr := HGR.out
            refine ⟨⟨⟨⟨t1, t2⟩, h1, h2⟩, ?_, ?_, ?_, HN1.out, HN2.out⟩, ?_⟩
            · rw [HOK.out]
              show _ = Ending.returned (.tuple #[.agg #[.string (str t1.lang), .string (str t1.scr), .string (str t1.reg), .slice h1.A h1.m h1.c, .string (str t2.lang), .string (str t2.scr), .string (str t2.reg), .slice h2.A h2.m h2.c], .bool _])
              rw [← HL1.out, ← HS1.out, ← HR1.out, ← HL2.out, ← HS2.out, ← HR2.out]
              rfl
            · rw [HTT1.out, HTT2.out]
            · have hF1 := HF1.out
              have hF2 := HF2.out
              refine ⟨?_, ?_⟩
              · have hh := HTW1.out.ext HE5.out
                exact ((((((((hh.kept (grown_setM _ gr 0 _) hF1).kept (grown_setM _ gr 1 _) hF1).kept (grown_setM _ gr 2 _) hF1).kept (grown_setM _ gr 3 _) hF1).kept (grown_setM _ gr 4 _) hF1).kept (grown_setM _ gr 5 _) hF1).kept (grown_setM _ gr 6 _) hF1).kept (grown_setM _ gr 7 _) hF1)
              · have hh := HTW2.out.ext HE5.out
                exact ((((((((hh.kept (grown_setM _ gr 0 _) hF2).kept (grown_setM _ gr 1 _) hF2).kept (grown_setM _ gr 2 _) hF2).kept (grown_setM _ gr 3 _) hF2).kept (grown_setM _ gr 4 _) hF2).kept (grown_setM _ gr 5 _) hF2).kept (grown_setM _ gr 6 _) hF2).kept (grown_setM _ gr 7 _) hF2)
            · have hE := HE04.out.trans HE5.out
              exact ((((((((hE.set_ (p := ⟨gr, 0, none⟩) hgr _).set_ (p := ⟨gr, 1, none⟩) hgr _).set_ (p := ⟨gr, 2, none⟩) hgr _).set_ (p := ⟨gr, 3, none⟩) hgr _).set_ (p := ⟨gr, 4, none⟩) hgr _).set_ (p := ⟨gr, 5, none⟩) hgr _).set_ (p := ⟨gr, 6, none⟩) hgr _).set_ (p := ⟨gr, 7, none⟩) hgr _)
        | false =>
          refine wp_region_ext_lit (by kernel_rfl) (by kernel_rfl) ?_
          try dsimp only [List.append]
          repeat (go_big_quiet_step ((go_at_call 66; first | with_reducible exact Calls.quiet_ext (HT1.out _ (ExtOf.ext _)) | with_reducible exact Calls.quiet_ext (HT2.out _ (ExtOf.ext _)))))
          refine wpQuiet_nil ?_
          rintro w5 ⟨⟨_, h5⟩, rfl⟩
          try dsimp only
          have HOK : Hid ((readR a).isSome = _) := HRQ.out
          have hbr := HBR.out.below h5 HBR.out.lt
          have y0 := later h5 k0
          have y1 := later h5 k1
          have y2 := later h5 k2
          have y3 := later h5 k3
          have z0 := later h5 m0
          have z1 := later h5 m1
          have z2 := later h5 m2
          have z3 := later h5 m3
          have q0 := hbr.cell 0
          have q1 := hbr.cell 1
          have q2 := hbr.cell 2
          have q3 := hbr.cell 3
          have q4 := hbr.cell 4
          have q5 := hbr.cell 5
          have q6 := hbr.cell 6
          have q7 := hbr.cell 7
          simp only [List.getElem?_toArray, List.getElem?_cons_zero, List.getElem?_cons_succ] at q0 q1 q2 q3 q4 q5 q6 q7
          have f0 := hbr.frozen 0
          have f1 := hbr.frozen 1
          have f2 := hbr.frozen 2
          have f3 := hbr.frozen 3
          have f4 := hbr.frozen 4
          have f5 := hbr.frozen 5
          have f6 := hbr.frozen 6
          have f7 := hbr.frozen 7
          have HB5 := Lib.hid hbr
          have HE5 := Lib.hid h5
          clear hbr h5 k0 k1 k2 k3 m0 m1 m2 m3 x0 x1
          go_wp2
          refine bodyPost_ret (results_cell_row_tmpT rfl _ _ gr 160 _ (0, 0) _ rfl ((((((((HB5.out.set_ 0 _).set_ 1 _).set_ 2 _).set_ 3 _).set_ 4 _).set_ 5 _).set_ 6 _).set_ 7 _) Tryz.underlying160 rfl info_ru8) rfl ?_
          have hgr := HGR.out
          refine ⟨⟨⟨⟨t1, t2⟩, h1, h2⟩, ?_, ?_, ?_, HN1.out, HN2.out⟩, ?_⟩
          · rw [HOK.out]
            show _ = Ending.returned (.tuple #[.agg #[.string (str t1.lang), .string (str t1.scr), .string (str t1.reg), .slice h1.A h1.m h1.c, .string (str t2.lang), .string (str t2.scr), .string (str t2.reg), .slice h2.A h2.m h2.c], .bool _])
            rw [← HL1.out, ← HS1.out, ← HR1.out, ← HL2.out, ← HS2.out, ← HR2.out]
            rfl
          · rw [HTT1.out, HTT2.out]
          · have hF1 := HF1.out
            have hF2 := HF2.out
            refine ⟨?_, ?_⟩
            · have hh := HTW1.out.ext HE5.out
              exact ((((((((hh.kept (grown_setM _ gr 0 _) hF1).kept (grown_setM _ gr 1 _) hF1).kept (grown_setM _ gr 2 _) hF1).kept (grown_setM _ gr 3 _) hF1).kept (grown_setM _ gr 4 _) hF1).kept (grown_setM _ gr 5 _) hF1).kept (grown_setM _ gr 6 _) hF1).kept (grown_setM _ gr 7 _) hF1)
            · have hh := HTW2.out.ext HE5.out
              exact ((((((((hh.kept (grown_setM _ gr 0 _) hF2).kept (grown_setM _ gr 1 _) hF2).kept (grown_setM _ gr 2 _) hF2).kept (grown_setM _ gr 3 _) hF2).kept (grown_setM _ gr 4 _) hF2).kept (grown_setM _ gr 5 _) hF2).kept (grown_setM _ gr 6 _) hF2).kept (grown_setM _ gr 7 _) hF2)
          · have hE := HE04.out.trans HE5.out
            exact ((((((((hE.set_ (p := ⟨gr, 0, none⟩) hgr _).set_ (p := ⟨gr, 1, none⟩) hgr _).set_ (p := ⟨gr, 2, none⟩) hgr _).set_ (p := ⟨gr, 3, none⟩) hgr _).set_ (p := ⟨gr, 4, none⟩) hgr _).set_ (p := ⟨gr, 5, none⟩) hgr _).set_ (p := ⟨gr, 6, none⟩) hgr _).set_ (p := ⟨gr, 7, none⟩) hgr _)
      | false =>
        refine wp_region_ext_lit (by kernel_rfl) (by kernel_rfl) ?_
        try dsimp only [List.append]
        repeat (go_big_quiet_step ((go_at_call 66; first | with_reducible exact Calls.quiet_ext (HT1.out _ (ExtOf.ext _)) | with_reducible exact Calls.quiet_ext (HT2.out _ (ExtOf.ext _)))))
        refine wpQuiet_nil ?_
        rintro w5 ⟨⟨_, h5⟩, rfl⟩
        try dsimp only
        have HOK : Hid ((readR a).isSome = _) := HRQ.out
        have hbr := HBR.out.below h5 HBR.out.lt
        have y0 := later h5 k0
        have y1 := later h5 k1
        have y2 := later h5 k2
        have y3 := later h5 k3
        have z0 := later h5 m0
        have z1 := later h5 m1
        have z2 := later h5 m2
        have z3 := later h5 m3
        have q0 := hbr.cell 0
        have q1 := hbr.cell 1
        have q2 := hbr.cell 2
        have q3 := hbr.cell 3
        have q4 := hbr.cell 4
        have q5 := hbr.cell 5
        have q6 := hbr.cell 6
        have q7 := hbr.cell 7
        simp only [List.getElem?_toArray, List.getElem?_cons_zero, List.getElem?_cons_succ] at q0 q1 q2 q3 q4 q5 q6 q7
        have f0 := hbr.frozen 0
        have f1 := hbr.frozen 1
        have f2 := hbr.frozen 2
        have f3 := hbr.frozen 3
        have f4 := hbr.frozen 4
        have f5 := hbr.frozen 5
        have f6 := hbr.frozen 6
        have f7 := hbr.frozen 7
        have HB5 := Lib.hid hbr
        have HE5 := Lib.hid h5
        clear hbr h5 k0 k1 k2 k3 m0 m1 m2 m3 x0 x1
        go_wp2
        refine bodyPost_ret (results_cell_row_tmpT rfl _ _ gr 160 _ (0, 0) _ rfl ((((((((HB5.out.set_ 0 _).set_ 1 _).set_ 2 _).set_ 3 _).set_ 4 _).set_ 5 _).set_ 6 _).set_ 7 _) Tryz.underlying160 rfl info_ru8) rfl ?_
        have hgr := HGR.out
        refine ⟨⟨⟨⟨t1, t2⟩, h1, h2⟩, ?_, ?_, ?_, HN1.out, HN2.out⟩, ?_⟩
        · rw [HOK.out]
          show _ = Ending.returned (.tuple #[.agg #[.string (str t1.lang), .string (str t1.scr), .string (str t1.reg), .slice h1.A h1.m h1.c, .string (str t2.lang), .string (str t2.scr), .string (str t2.reg), .slice h2.A h2.m h2.c], .bool _])
          rw [← HL1.out, ← HS1.out, ← HR1.out, ← HL2.out, ← HS2.out, ← HR2.out]
          rfl
        · rw [HTT1.out, HTT2.out]
        · have hF1 := HF1.out
          have hF2 := HF2.out
          refine ⟨?_, ?_⟩
          · have hh := HTW1.out.ext HE5.out
            exact ((((((((hh.kept (grown_setM _ gr 0 _) hF1).kept (grown_setM _ gr 1 _) hF1).kept (grown_setM _ gr 2 _) hF1).kept (grown_setM _ gr 3 _) hF1).kept (grown_setM _ gr 4 _) hF1).kept (grown_setM _ gr 5 _) hF1).kept (grown_setM _ gr 6 _) hF1).kept (grown_setM _ gr 7 _) hF1)
          · have hh := HTW2.out.ext HE5.out
            exact ((((((((hh.kept (grown_setM _ gr 0 _) hF2).kept (grown_setM _ gr 1 _) hF2).kept (grown_setM _ gr 2 _) hF2).kept (grown_setM _ gr 3 _) hF2).kept (grown_setM _ gr 4 _) hF2).kept (grown_setM _ gr 5 _) hF2).kept (grown_setM _ gr 6 _) hF2).kept (grown_setM _ gr 7 _) hF2)
        · have hE := HE04.out.trans HE5.out
          exact ((((((((hE.set_ (p := ⟨gr, 0, none⟩) hgr _).set_ (p := ⟨gr, 1, none⟩) hgr _).set_ (p := ⟨gr, 2, none⟩) hgr _).set_ (p := ⟨gr, 3, none⟩) hgr _).set_ (p := ⟨gr, 4, none⟩) hgr _).set_ (p := ⟨gr, 5, none⟩) hgr _).set_ (p := ⟨gr, 6, none⟩) hgr _).set_ (p := ⟨gr, 7, none⟩) hgr _)
    · subst c1
      have d2 : (e2 == 0) = false := by simpa using c2
      refine wp_region_ext_lit (by kernel_rfl) (by kernel_rfl) ?_
      try dsimp only [List.append]
      repeat (go_big_quiet_step ((go_at_call 66; first | with_reducible exact Calls.quiet_ext (HT1.out _ (ExtOf.ext _)) | with_reducible exact Calls.quiet_ext (HT2.out _ (ExtOf.ext _)))))
      refine wpQuiet_nil ?_
      rintro w5 ⟨⟨_, h5⟩, rfl⟩
      try dsimp only
      have HOK : Hid ((readR a).isSome = _) := HRQ.out.trans (show _ = false by simp [c2])
      have hbr := HBR.out.below h5 HBR.out.lt
      have y0 := later h5 k0
      have y1 := later h5 k1
      have y2 := later h5 k2
      have y3 := later h5 k3
      have z0 := later h5 m0
      have z1 := later h5 m1
      have z2 := later h5 m2
      have z3 := later h5 m3
      have q0 := hbr.cell 0
      have q1 := hbr.cell 1
      have q2 := hbr.cell 2
      have q3 := hbr.cell 3
      have q4 := hbr.cell 4
      have q5 := hbr.cell 5
      have q6 := hbr.cell 6
      have q7 := hbr.cell 7
      simp only [List.getElem?_toArray, List.getElem?_cons_zero, List.getElem?_cons_succ] at q0 q1 q2 q3 q4 q5 q6 q7
      have f0 := hbr.frozen 0
      have f1 := hbr.frozen 1
      have f2 := hbr.frozen 2
      have f3 := hbr.frozen 3
      have f4 := hbr.frozen 4
      have f5 := hbr.frozen 5
      have f6 := hbr.frozen 6
      have f7 := hbr.frozen 7
      have HB5 := Lib.hid hbr
      have HE5 := Lib.hid h5
      clear hbr h5 k0 k1 k2 k3 m0 m1 m2 m3 x0 x1
      go_wp2
      refine bodyPost_ret (results_cell_row_tmpT rfl _ _ gr 160 _ (0, 0) _ rfl ((((((((HB5.out.set_ 0 _).set_ 1 _).set_ 2 _).set_ 3 _).set_ 4 _).set_ 5 _).set_ 6 _).set_ 7 _) Tryz.underlying160 rfl info_ru8) rfl ?_
      have hgr := HGR.out
      refine ⟨⟨⟨⟨t1, t2⟩, h1, h2⟩, ?_, ?_, ?_, HN1.out, HN2.out⟩, ?_⟩
      · rw [HOK.out]
        show _ = Ending.returned (.tuple #[.agg #[.string (str t1.lang), .string (str t1.scr), .string (str t1.reg), .slice h1.A h1.m h1.c, .string (str t2.lang), .string (str t2.scr), .string (str t2.reg), .slice h2.A h2.m h2.c], .bool _])
        rw [← HL1.out, ← HS1.out, ← HR1.out, ← HL2.out, ← HS2.out, ← HR2.out]
        rfl
      · rw [HTT1.out, HTT2.out]
      · have hF1 := HF1.out
        have hF2 := HF2.out
        refine ⟨?_, ?_⟩
        · have hh := HTW1.out.ext HE5.out
          exact ((((((((hh.kept (grown_setM _ gr 0 _) hF1).kept (grown_setM _ gr 1 _) hF1).kept (grown_setM _ gr 2 _) hF1).kept (grown_setM _ gr 3 _) hF1).kept (grown_setM _ gr 4 _) hF1).kept (grown_setM _ gr 5 _) hF1).kept (grown_setM _ gr 6 _) hF1).kept (grown_setM _ gr 7 _) hF1)
        · have hh := HTW2.out.ext HE5.out
          exact ((((((((hh.kept (grown_setM _ gr 0 _) hF2).kept (grown_setM _ gr 1 _) hF2).kept (grown_setM _ gr 2 _) hF2).kept (grown_setM _ gr 3 _) hF2).kept (grown_setM _ gr 4 _) hF2).kept (grown_setM _ gr 5 _) hF2).kept (grown_setM _ gr 6 _) hF2).kept (grown_setM _ gr 7 _) hF2)
      · have hE := HE04.out.trans HE5.out
        exact ((((((((hE.set_ (p := ⟨gr, 0, none⟩) hgr _).set_ (p := ⟨gr, 1, none⟩) hgr _).set_ (p := ⟨gr, 2, none⟩) hgr _).set_ (p := ⟨gr, 3, none⟩) hgr _).set_ (p := ⟨gr, 4, none⟩) hgr _).set_ (p := ⟨gr, 5, none⟩) hgr _).set_ (p := ⟨gr, 6, none⟩) hgr _).set_ (p := ⟨gr, 7, none⟩) hgr _)
  · have d1 : (e1 == 0) = false := by simpa using c1
    refine wp_region_ext_lit (by kernel_rfl) (by kernel_rfl) ?_
    try dsimp only [List.append]
    repeat (go_big_quiet_step ((go_at_call 66; first | with_reducible exact Calls.quiet_ext (HT1.out _ (ExtOf.ext _)) | with_reducible exact Calls.quiet_ext (HT2.out _ (ExtOf.ext _)))))
    refine wpQuiet_nil ?_
    rintro w5 ⟨⟨_, h5⟩, rfl⟩
    try dsimp only
    have HOK : Hid ((readR a).isSome = _) := HRQ.out.trans (show _ = false by simp [c1])
    have hbr := HBR.out.below h5 HBR.out.lt
    have y0 := later h5 k0
    have y1 := later h5 k1
    have y2 := later h5 k2
    have y3 := later h5 k3
    have z0 := later h5 m0
    have z1 := later h5 m1
    have z2 := later h5 m2
    have z3 := later h5 m3
    have q0 := hbr.cell 0
    have q1 := hbr.cell 1
    have q2 := hbr.cell 2
    have q3 := hbr.cell 3
    have q4 := hbr.cell 4
    have q5 := hbr.cell 5
    have q6 := hbr.cell 6
    have q7 := hbr.cell 7
    simp only [List.getElem?_toArray, List.getElem?_cons_zero, List.getElem?_cons_succ] at q0 q1 q2 q3 q4 q5 q6 q7
    have f0 := hbr.frozen 0
    have f1 := hbr.frozen 1
    have f2 := hbr.frozen 2
    have f3 := hbr.frozen 3
    have f4 := hbr.frozen 4
    have f5 := hbr.frozen 5
    have f6 := hbr.frozen 6
    have f7 := hbr.frozen 7
    have HB5 := Lib.hid hbr
    have HE5 := Lib.hid h5
    clear hbr h5 k0 k1 k2 k3 m0 m1 m2 m3 x0 x1
    go_wp2
    refine bodyPost_ret (results_cell_row_tmpT rfl _ _ gr 160 _ (0, 0) _ rfl ((((((((HB5.out.set_ 0 _).set_ 1 _).set_ 2 _).set_ 3 _).set_ 4 _).set_ 5 _).set_ 6 _).set_ 7 _) Tryz.underlying160 rfl info_ru8) rfl ?_
    have hgr := HGR.out
    refine ⟨⟨⟨⟨t1, t2⟩, h1, h2⟩, ?_, ?_, ?_, HN1.out, HN2.out⟩, ?_⟩
    · rw [HOK.out]
      show _ = Ending.returned (.tuple #[.agg #[.string (str t1.lang), .string (str t1.scr), .string (str t1.reg), .slice h1.A h1.m h1.c, .string (str t2.lang), .string (str t2.scr), .string (str t2.reg), .slice h2.A h2.m h2.c], .bool _])
      rw [← HL1.out, ← HS1.out, ← HR1.out, ← HL2.out, ← HS2.out, ← HR2.out]
      rfl
    · rw [HTT1.out, HTT2.out]
    · have hF1 := HF1.out
      have hF2 := HF2.out
      refine ⟨?_, ?_⟩
      · have hh := HTW1.out.ext HE5.out
        exact ((((((((hh.kept (grown_setM _ gr 0 _) hF1).kept (grown_setM _ gr 1 _) hF1).kept (grown_setM _ gr 2 _) hF1).kept (grown_setM _ gr 3 _) hF1).kept (grown_setM _ gr 4 _) hF1).kept (grown_setM _ gr 5 _) hF1).kept (grown_setM _ gr 6 _) hF1).kept (grown_setM _ gr 7 _) hF1)
      · have hh := HTW2.out.ext HE5.out
        exact ((((((((hh.kept (grown_setM _ gr 0 _) hF2).kept (grown_setM _ gr 1 _) hF2).kept (grown_setM _ gr 2 _) hF2).kept (grown_setM _ gr 3 _) hF2).kept (grown_setM _ gr 4 _) hF2).kept (grown_setM _ gr 5 _) hF2).kept (grown_setM _ gr 6 _) hF2).kept (grown_setM _ gr 7 _) hF2)
    · have hE := HE04.out.trans HE5.out
      exact ((((((((hE.set_ (p := ⟨gr, 0, none⟩) hgr _).set_ (p := ⟨gr, 1, none⟩) hgr _).set_ (p := ⟨gr, 2, none⟩) hgr _).set_ (p := ⟨gr, 3, none⟩) hgr _).set_ (p := ⟨gr, 4, none⟩) hgr _).set_ (p := ⟨gr, 5, none⟩) hgr _).set_ (p := ⟨gr, 6, none⟩) hgr _).set_ (p := ⟨gr, 7, none⟩) hgr _)
end
end Go.Proofs.YtdgppdiickmofaaGreatDoor

/- The program's aliases: readAll. -/
namespace Go.Proofs.YtdgppdiickmofaaGreatDoor
open Go.RowKit
set_option maxRecDepth 100000
attribute [local go_sem] ext_refl_t ext_alloc_t ext_drew_t ext_drewN_t ext_alloc2_t ext_alloc3_t ext_alloc4_t ext_alloc5_t ext_alloc6_t ext_alloc7_t ext_alloc8_t ext_alloc1d_t ext_alloc2d_t ext_alloc3d_t ext_alloc4d_t
theorem readRs_cons (a : AlP) (l : List AlP) : readRs (a :: l) = match readR a with | none => none | some r => match readRs l with | none => none | some rs => some (r :: rs) := rfl
theorem readRs_app (a b : List AlP) : readRs (a ++ b) = match readRs a with | none => none | some x => match readRs b with | none => none | some y => some (x ++ y) := by
  induction a with
  | nil => rw [List.nil_append, show readRs [] = some [] from rfl]; cases readRs b <;> rfl
  | cons x r ih =>
    rw [List.cons_append, readRs_cons, readRs_cons, ih]
    cases readR x with
    | none => rfl
    | some y =>
      dsimp only
      cases readRs r with
      | none => rfl
      | some z =>
        dsimp only
        cases readRs b <;> rfl
theorem readRs_step {l : List AlP} {q : Nat} (hq : q < l.length) {rs : List Ral} (h : readRs (l.take q) = some rs) {r : Ral} (hr : readR l[q] = some r) : readRs (l.take (q + 1)) = some (rs ++ [r]) := by
  rw [List.take_succ_eq_append_getElem hq, readRs_app, h]
  show (match readRs [l[q]] with | none => none | some y => some (rs ++ y)) = _
  have : readRs [l[q]] = some [r] := by unfold readRs; rw [hr]; rfl
  rw [this]
theorem readRs_stop {l : List AlP} {q : Nat} (hq : q < l.length) {rs : List Ral} (h : readRs (l.take q) = some rs) (hr : readR l[q] = none) : readRs l = none := by
  have e : l = l.take (q + 1) ++ l.drop (q + 1) := (List.take_append_drop _ _).symm
  rw [e, readRs_app, List.take_succ_eq_append_getElem hq, readRs_app, h]
  have : readRs [l[q]] = none := by unfold readRs; rw [hr]
  rw [this]
theorem einfo_ru : EInfo 134 160 8 144 := EInfo.mk_ (z := .agg #[.string ⟨#[]⟩, .string ⟨#[]⟩, .string ⟨#[]⟩, .slice none 0 0, .string ⟨#[]⟩, .string ⟨#[]⟩, .string ⟨#[]⟩, .slice none 0 0]) Tryz.underlying134 (by kernel_rfl) rfl (by omega) (by omega)
/-- Rules in memory. -/
def RusW (w : World) (h : SlH) (rs : List Ral) : Prop := ∃ L : List RuH, L.map (·.r) = rs ∧ SlC ruC 8 w h.A h.m L ∧ h.m ≤ h.c ∧ ∀ x ∈ L, RuW w x
theorem RusW.ext {w w' : World} {h : SlH} {rs : List Ral} (hh : RusW w h rs) (hE : Ext w w') : RusW w' h rs := by
  obtain ⟨L, h1, h2, h3, h4⟩ := hh
  exact ⟨L, h1, h2.ext hE, h3, fun x hx => (h4 x hx).ext hE⟩
/-- Aliases in memory. -/
abbrev AlsW (w : World) (h : SlH) (al : List AlP) : Prop := HW alC 2 32 (fun x => x.1.length ≤ 120 ∧ x.2.length ≤ 120) w h al
/-- The rules that are being gathered: w is the world ahead. -/
structure RusS (w wr : World) (A : Option Addr) (m c : Nat) (L : List RuH) : Prop where
  ext : Ext w wr
  own : OsC ruC 160 8 wr w.heap.size A m c L
  ru : ∀ x ∈ L, RuW wr x
  ap : ∀ x ∈ L, Apart (ob A) x.a ∧ Apart (ob A) x.b
theorem RusS.extn {w wr w2 : World} {A : Option Addr} {m c : Nat} {L : List RuH} (h : RusS w wr A m c L) (hE : Ext wr w2) : RusS w w2 A m c L := ⟨h.ext.trans hE, h.own.ext hE, fun x hx => (h.ru x hx).ext hE, h.ap⟩
theorem apart_app {w : World} {t : Tg} {h : SlH} {r r' : Option Nat} (hh : TgW w h t) (ha : Apart r h) (hn : NewOr w.heap.size r r') : Apart r' h := by
  rcases ha with h1 | h1 | h1
  · exact .inl h1
  · exact .inr (.inl h1)
  · rcases Nat.eq_zero_or_pos h.m with h0 | h0
    · exact .inl h0
    · refine .inr (.inr fun e => ?_)
      obtain ⟨ad, hA, hb, _⟩ := hh.sl.rd.2 h0
      rcases hn ad.block (by rw [← e, hA]; rfl) with h2 | h2
      · omega
      · exact h1 (by rw [hA, h2]; rfl)
theorem RuW.kept {w w' : World} {x : RuH} {r : Option Nat} (h : RuW w x) (hg : w.grownBy w' r) (ha : Apart r x.a ∧ Apart r x.b) : RuW w' x := ⟨h.a.kept hg ha.1, h.b.kept hg ha.2⟩
theorem RusS.app {w wr w2 : World} {A A' : Option Addr} {m c m' c' : Nat} {L : List RuH} {x : RuH} (h : RusS w wr A m c L) (hx : RuW wr x) (ha : Apart (ob A) x.a ∧ Apart (ob A) x.b)
    (ho : OsC ruC 160 8 w2 w.heap.size A' m' c' (L ++ [x])) (hg : wr.grownBy w2 (ob A)) (hn : NewOr wr.heap.size (ob A) (ob A')) : RusS w w2 A' m' c' (L ++ [x]) := by
  have hall : ∀ y ∈ L ++ [x], RuW wr y ∧ Apart (ob A) y.a ∧ Apart (ob A) y.b := fun y hy => by
    rcases List.mem_append.1 hy with hy | hy
    · exact ⟨h.ru y hy, h.ap y hy⟩
    · rw [List.mem_singleton] at hy; rw [hy]; exact ⟨hx, ha⟩
  exact ⟨h.ext.grown hg h.own.ge, ho, fun y hy => (hall y hy).1.kept hg (hall y hy).2, fun y hy => ⟨apart_app (hall y hy).1.a (hall y hy).2.1 hn, apart_app (hall y hy).1.b (hall y hy).2.2 hn⟩⟩
section
variable {w : World}
/-- What readAll returns. -/
def ReadsPost (al : List AlP) (e : Ending) (w' : World) : Prop := ∃ h : SlH, e = .returned (.tuple #[.slice h.A h.m h.c, .bool (readRs al).isSome]) ∧ ∀ rs, readRs al = some rs → RusW w' h rs
set_option maxHeartbeats 12800000 in
theorem readAll_any {h : SlH} {al : List AlP} (hs : AlsW w h al) (hl : al.length ≤ 12) (hM : MX w) :
    Calls Tryz.prog 64 #[.slice h.A h.m h.c] w fun e w' => ReadsPost al e w' ∧ Ext w w' := by
  obtain ⟨A0, n, c0⟩ := h
  dsimp only
  have HL : Hid (n = al.length) := hs.sl.len
  have hn : n ≤ 12 := by have := HL.out; omega
  have HS := Lib.hid hs
  have HM := Lib.hid hM
  clear hs hl hM
  go_enter Tryz.func64, Tryz.ntmps64
  go_wp2
  go_loopw [2, 3, 4, 6, 7, 8, 11] (fun _ _ s4 _ _ _ i wr => ∃ (q : Nat) (A : Option Addr) (m c : Nat) (L : List RuH), q ≤ n ∧ i = .int .i64 q ∧ s4 = .slice A m c ∧ Hid (RusS w wr A m c L) ∧ Hid (readRs (al.take q) = some (L.map (·.r))) ∧ Hid (L.length = q)) (fun _ _ _ _ _ _ i _ => n - (intOf i).toNat)
  case atStart => exact ⟨0, none, 0, 0, [], Nat.zero_le _, rfl, rfl, ⟨Ext.refl _, OsC.nil_ ruC_len ruC_cell, (fun x hx => by cases hx), fun x hx => by cases hx⟩, rfl, rfl⟩
  case round =>
    obtain ⟨q, A, m, c, L, hq, rfl, rfl, HR, HC, HLq⟩ := hrel
    by_cases hlt : q < n
    · have hi1 : (q : Int) < (n : Int) := by omega
      obtain ⟨b, off, e0, hbl, hcs⟩ := (HS.out.sl.ext HR.out.ext).at_ hlt (by omega)
      dsimp only at e0
      subst e0
      have hlt1 : q < al.length := by rw [← HL.out]; exact hlt
      obtain ⟨y, hyq⟩ : ∃ y, y = al[q] := ⟨_, rfl⟩
      have y0 := hcs q hlt1 0 (by omega)
      have y1 := hcs q hlt1 1 (by omega)
      simp only [← hyq, alC, List.getElem_cons_zero, List.getElem_cons_succ, Nat.add_zero, ← Nat.add_assoc] at y0 y1
      have hgood := HS.out.good y (by rw [hyq]; exact List.getElem_mem hlt1)
      have HYQ := Lib.hid hyq
      have HGD := Lib.hid hgood
      clear hcs hyq hgood
      have hEa : ∀ cs, Ext wr (wr.alloc (.cells cs 114)) := fun cs => (Ext.refl wr).alloc _
      have HK : Hid (∀ W, Ext wr W → Calls Tryz.prog 86 #[.agg #[.string (str y.1), .string (str y.2)]] W fun e w' => ReadPost W y e w' ∧ Ext W w') := fun W hE => aread_any ⟨by have := HGD.out.1; omega, by have := HGD.out.2; omega⟩ (HM.out.ext (HR.out.ext.trans hE))
      obtain ⟨Y1, hY1⟩ : ∃ x, x = str y.1 := ⟨_, rfl⟩
      obtain ⟨Y2, hY2⟩ : ∃ x, x = str y.2 := ⟨_, rfl⟩
      rw [← hY1] at y0 HK
      rw [← hY2] at y1 HK
      clear hY1 hY2
      go_wp2_with (first
        | (go_at_call 86; refine Hid.out ?_))
      refine Hid.mk_ ((HK.out _ (hEa _)).mono ?_)
      rintro e w3 ⟨⟨x, rfl, hxr, hxW, hxn1, hxn2⟩, hE3⟩
      obtain ⟨ok, hok⟩ : ∃ ok, ok = (readR y).isSome := ⟨_, rfl⟩
      have hE13 := (hEa #[.string Y1, .string Y2]).trans hE3
      have HAP : Hid (Apart (ob A) x.a ∧ Apart (ob A) x.b) := by
        have hlt7 : ∀ j, ob A = some j → j < wr.heap.size := HR.out.own.lt
        have hs7 := (hEa #[.string Y1, .string Y2]).size_le
        exact ⟨apart_new (h := ⟨none, 0, 0⟩) (.inl rfl) (fun j hj => Nat.lt_of_lt_of_le (hlt7 j hj) hs7) (.inr hxn1), apart_new (h := ⟨none, 0, 0⟩) (.inl rfl) (fun j hj => Nat.lt_of_lt_of_le (hlt7 j hj) hs7) (.inr hxn2)⟩
      have HXW := Lib.hid hxW
      have HXR := Lib.hid hxr
      have HOK := Lib.hid hok
      rw [← hok]
      have HE13 := Lib.hid hE13
      clear hok hxr hxW hxn1 hxn2 hE3 hEa hE13
      have hE4 : Ext w3 (w3.alloc (.cells (ruC x).toArray 160)) := (Ext.refl w3).alloc _
      have hE5 : Ext w3 ((w3.alloc (.cells (ruC x).toArray 160)).alloc (.cells (ruC x).toArray 160)) := hE4.alloc _
      cases ok with
      | false =>
        have HN : Hid (readRs al = none) := readRs_stop hlt1 HC.out (by
          rw [← HYQ.out]
          cases h : readR y with
          | none => rfl
          | some r => have := HOK.out; rw [h] at this; cases this)
        go_wp2
        go_ret2
        exact ⟨⟨⟨none, 0, 0⟩, by rw [HN.out]; rfl, fun rs h => by rw [HN.out] at h; cases h⟩, (HR.out.ext.trans HE13.out).trans hE4⟩
      | true =>
        have HST : Hid (readRs (al.take (q + 1)) = some ((L ++ [x]).map (·.r))) := by
          show _ = _
          rw [List.map_append, List.map_singleton, HXR.out]
          exact readRs_step hlt1 HC.out (by rw [← HYQ.out]; exact readR_some HOK.out.symm)
        have hnew : SlC ruC 8 ((w3.alloc (.cells (ruC x).toArray 160)).alloc (.cells (ruC x).toArray 160)) (some ⟨w3.heap.size + 1, 0, none⟩) 1 [x] := by
          have h := SlC.new_ (cs := ruC) (w3.alloc (.cells (ruC x).toArray 160)) [x] ruC_len (by simp) (ruC x).toArray (by simp) (0, 0) 1 rfl 160
          rwa [show (w3.alloc (.cells (ruC x).toArray 160)).heap.size = w3.heap.size + 1 by simp] at h
        have HR5 := Lib.hid (HR.out.extn (HE13.out.trans hE5))
        have hm : m ≤ 12 := by have := HR.out.own.len; have := HLq.out; omega
        have hbase := HR5.out.ext.size_le
        simp only [ruC] at hnew hbase
        go_wp2_with (first
          | (at_builtin; refine Hid.out ?_))
        refine Hid.mk_ ?_
        refine appC einfo_ru rfl _ _ rfl HR5.out.own rfl hnew rfl (by omega) hbase ?_
        intro A7 m7 c7 w7 ho7 hg7 hn7
        have HR7 : Hid (RusS w w7 A7 m7 c7 (L ++ [x])) := HR5.out.app (HXW.out.ext hE5) HAP.out ho7 hg7 hn7
        clear hnew hbase ho7 hg7 hn7 y0 y1 hE4 hE5
        go_wp2
        go_roundw
        case rel => exact ⟨q + 1, A7, m7, c7, L ++ [x], by omega, by go_num, rfl, HR7, HST, by show _ = _; rw [List.length_append, HLq.out]; rfl⟩
        case measure => simp [intOf]; omega
    · have hi1 : ¬ (q : Int) < (n : Int) := by omega
      have HF : Hid (readRs al = some (L.map (·.r))) := by
        have h := HC.out
        rwa [List.take_of_length_le (by have := HL.out; omega)] at h
      go_wp2
      go_ret2
      refine ⟨⟨⟨A, m, c⟩, by rw [HF.out]; rfl, fun rs h => ?_⟩, HR.out.ext⟩
      rw [HF.out] at h
      injection h with h
      exact ⟨L, h, HR.out.own.sl, HR.out.own.cap, HR.out.ru⟩
end
end Go.Proofs.YtdgppdiickmofaaGreatDoor
