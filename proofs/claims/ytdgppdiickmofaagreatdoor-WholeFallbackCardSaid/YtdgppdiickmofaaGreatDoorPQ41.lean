/- The program's match: slices.SortFunc of places, order, prepare, Best. -/
import Derived.Test.YtdgppdiickmofaaGreatDoorPQ39
import Derived.Test.YtdgppdiickmofaaGreatDoorPQ40
import Derived.Shelf.Small.Bits
import Derived.OwnWalk
import Derived.WalkMore
import Derived.Deep.LoopGhost
import Derived.Test.YtdgppdiickmofaaGreatDoorPQ27
namespace Go.Proofs.YtdgppdiickmofaaGreatDoor
open Go.RowKit Go.Shelf
set_option maxRecDepth 100000
attribute [local go_sem] ext_refl_t ext_alloc_t ext_drew_t ext_drewN_t ext_alloc2_t ext_alloc3_t ext_alloc4_t ext_alloc5_t ext_alloc6_t ext_alloc7_t ext_alloc8_t ext_alloc1d_t ext_alloc2d_t ext_alloc3d_t ext_alloc4d_t
attribute [local go_sem] yielded_undef
section
variable {w wb : World}
set_option maxHeartbeats 6400000 in
theorem pdq_any {g3 g4 g5 : Nat} {l : List NrP} {hn : SlH} {t : Tg} {ht : SlH} {hs : SlH} {L : List TaH} (h : OrdW wb g3 g4 g5 l hn t ht hs L) {g m c : Nat} {li : List Nat} (hr : RowS wb w L.length g m c li) (hm : m ≤ 12) (lim : Int) :
    Calls Tryz.prog 150 #[.slice (some ⟨g, 0, none⟩) m c, .int .i64 0, .int .i64 (m : Int), .int .i64 lim, .func (.func 104) #[] #[.pointer (some ⟨g3, 0, none⟩), .pointer (some ⟨g4, 0, none⟩), .pointer (some ⟨g5, 0, none⟩)]] w fun e w' => e = .returned (.tuple #[]) ∧ ∃ li', RowS wb w' L.length g m c li' := by
  have HK := Lib.hid (isort_any h hr hm)
  clear h hr
  go_enter Tryz.func150, Tryz.ntmps150
  have hmi : (m : Int) ≤ 12 := by omega
  have hm2 : (m : Int) - 0 ≤ 12 := by omega
  go_wp2
  go_loopw [1, 2] (fun a b wr => a = .int .i64 0 ∧ b = .int .i64 (m : Int) ∧ wr = w) (fun _ _ _ => 0)
  case atStart => exact ⟨rfl, rfl, rfl⟩
  case round =>
    obtain ⟨rfl, rfl, rfl⟩ := hrel
    go_wp2_with (first
      | (go_at_call 183; refine Hid.out ?_))
    refine Hid.mk_ (HK.out.mono ?_)
    rintro e w1 ⟨rfl, li', hr'⟩
    have HR := Lib.hid hr'
    clear hr'
    go_wp2
    refine bodyPost_ret (results_none rfl _ _ _) rfl ?_
    exact ⟨rfl, li', HR.out⟩
theorem bits_any (x : Nat) (hx : x ≤ 1000000) : Calls Tryz.prog 83 #[.int .u64 (x : Int)] w fun e w' => e = .returned (.int .i64 (Lib.bitLen x)) ∧ w' = w := by
  have h := Any.bits_Len Tryz.laysLen (x : Int) w (by omega) (by omega)
  rwa [Int.toNat_natCast] at h
set_option maxHeartbeats 6400000 in
theorem sortI_any {g3 g4 g5 : Nat} {l : List NrP} {hn : SlH} {t : Tg} {ht : SlH} {hs : SlH} {L : List TaH} (h : OrdW wb g3 g4 g5 l hn t ht hs L) {g m c : Nat} {li : List Nat} (hr : RowS wb w L.length g m c li) (hm : m ≤ 12) :
    Calls Tryz.prog 103 #[.slice (some ⟨g, 0, none⟩) m c, .func (.func 104) #[] #[.pointer (some ⟨g3, 0, none⟩), .pointer (some ⟨g4, 0, none⟩), .pointer (some ⟨g5, 0, none⟩)]] w fun e w' => e = .returned (.tuple #[]) ∧ ∃ li', RowS wb w' L.length g m c li' := by
  have HK := Lib.hid fun lim => pdq_any h hr hm lim
  have HB := Lib.hid (bits_any (w := w) m (by omega))
  clear h hr
  have hm0 : (0 : Int) ≤ (m : Int) := by omega
  go_enter Tryz.func103, Tryz.ntmps103
  go_wp2_with (first
    | (go_at_call 83; refine Hid.out ?_))
  refine Hid.mk_ (HB.out.mono ?_)
  rintro e w1 ⟨rfl, rfl⟩
  go_wp2_with (first
    | (go_at_call 150; refine Hid.out ?_))
  refine Hid.mk_ ((HK.out _).mono ?_)
  rintro e w1 ⟨rfl, li', hr'⟩
  have HR := Lib.hid hr'
  clear hr'
  go_wp2
  go_end0
  exact ⟨rfl, li', HR.out⟩
end
end Go.Proofs.YtdgppdiickmofaaGreatDoor

/- The program's match: order, prepare, Best. -/
namespace Go.Proofs.YtdgppdiickmofaaGreatDoor
open Go.RowKit
set_option maxRecDepth 100000
attribute [local go_sem] ext_refl_t ext_alloc_t ext_drew_t ext_drewN_t ext_alloc2_t ext_alloc3_t ext_alloc4_t ext_alloc5_t ext_alloc6_t ext_alloc7_t ext_alloc8_t ext_alloc1d_t ext_alloc2d_t ext_alloc3d_t ext_alloc4d_t
attribute [local go_sem] yielded_undef
section
variable {w : World}
set_option maxHeartbeats 6400000 in
theorem order_any {hn ht hs : SlH} {l : List NrP} {t : Tg} {L : List TaH} (h1 : NrW w hn l) (h2 : l.length ≤ 30) (h3 : ∀ x ∈ l, 1 ≤ x.c ∧ x.c ≤ 99) (h4 : TgW w ht t) (h5 : SlC tgC 4 w hs.A hs.m L) (h6 : ∀ x ∈ L, TgW w x.h x.t) (h7 : 0 < L.length) (h8 : L.length ≤ 12) :
    Calls Tryz.prog 73 #[.slice hn.A hn.m hn.c, tgV ht t, .slice hs.A hs.m hs.c] w fun e w' => (∃ (A : Option Addr) (m c : Nat) (li : List Nat), e = .returned (.slice A m c) ∧ SlC niC 1 w' A m li ∧ m = L.length ∧ ∀ i ∈ li, i < L.length) ∧ Ext w w' := by
  have HML : Hid (hs.m = L.length) := h5.len
  have hm12 : hs.m ≤ 12 := by have := HML.out; omega
  obtain ⟨A5, m5, c5⟩ := hs
  dsimp only at HML hm12 h5
  unfold tgV
  obtain ⟨l3, hl3⟩ : ∃ x, x = str t.lang := ⟨_, rfl⟩
  obtain ⟨s3, hs3⟩ : ∃ x, x = str t.scr := ⟨_, rfl⟩
  obtain ⟨r3, hr3⟩ : ∃ x, x = str t.reg := ⟨_, rfl⟩
  rw [← hl3, ← hs3, ← hr3]
  obtain ⟨W0, hW0⟩ : ∃ W0, W0 = (((w.alloc (.cells #[.slice hn.A hn.m hn.c] 24)).alloc (.cells #[.string l3, .string s3, .string r3, .slice ht.A ht.m ht.c] 108)).alloc (.cells #[.slice A5 m5 c5] 103)) := ⟨_, rfl⟩
  have hE0 : Ext w W0 := by rw [hW0]; exact (((Ext.refl w).alloc _).alloc _).alloc _
  have hb3 : Blk W0 w.heap.size 24 #[.slice hn.A hn.m hn.c] := by rw [hW0]; exact ((Blk.new w _ _).alloc _).alloc _
  have hb4 : Blk W0 (w.heap.size + 1) 108 #[.string l3, .string s3, .string r3, .slice ht.A ht.m ht.c] := by
    rw [hW0]
    have h := Blk.new (w.alloc (.cells #[.slice hn.A hn.m hn.c] 24)) 108 #[.string l3, .string s3, .string r3, .slice ht.A ht.m ht.c]
    rw [show (w.alloc (.cells #[.slice hn.A hn.m hn.c] 24)).heap.size = w.heap.size + 1 by simp] at h
    exact h.alloc _
  have hb5 : Blk W0 (w.heap.size + 1 + 1) 103 #[.slice A5 m5 c5] := by
    rw [hW0]
    have h := Blk.new ((w.alloc (.cells #[.slice hn.A hn.m hn.c] 24)).alloc (.cells #[.string l3, .string s3, .string r3, .slice ht.A ht.m ht.c] 108)) 103 #[.slice A5 m5 c5]
    rwa [show ((w.alloc (.cells #[.slice hn.A hn.m hn.c] 24)).alloc (.cells #[.string l3, .string s3, .string r3, .slice ht.A ht.m ht.c] 108)).heap.size = w.heap.size + 1 + 1 by simp] at h
  obtain ⟨g3, hg3⟩ : ∃ g, g = w.heap.size := ⟨_, rfl⟩
  obtain ⟨g4, hg4⟩ : ∃ g, g = w.heap.size + 1 := ⟨_, rfl⟩
  obtain ⟨g5, hg5⟩ : ∃ g, g = w.heap.size + 1 + 1 := ⟨_, rfl⟩
  rw [← hg3] at hb3
  rw [← hg4] at hb4
  rw [← hg5] at hb5
  have HO : Hid (OrdW W0 g3 g4 g5 l hn t ht ⟨A5, m5, c5⟩ L) := ⟨HW.ext h1 hE0, h2, h3, h4.ext hE0, h5.ext hE0, fun x hx => (h6 x hx).ext hE0, hb3.cell 0, by rw [← hl3, ← hs3, ← hr3]; exact hb4, hb5.cell 0⟩
  have HG := Lib.hid (And.intro hg3 (And.intro hg4 hg5))
  have HE0 := Lib.hid hE0
  have hl0 : 0 < m5 := by have := HML.out; omega
  have hk5 := (show W0.cell? ⟨g5, 0, none⟩ = some (.slice A5 m5 c5) from hb5.cell 0)
  have hl : m5 ≤ 17592186044416 := by omega
  clear hl3 hs3 hr3 h1 h2 h3 h4 h5 h6 h7 h8 hE0 hb3 hb4 hb5 hg3 hg4 hg5
  go_enter Tryz.func73, Tryz.ntmps73
  go_upto_region 1 with fail
  rw [← hW0, ← HG.out.2.2, ← HG.out.2.1, ← HG.out.1]
  clear hW0
  go_wp2
  go_loopw [7, 8, 11] (fun s7 _ i wr => ∃ (q : Nat) (A : Option Addr) (m c : Nat) (li : List Nat), q ≤ m5 ∧ i = .int .i64 q ∧ s7 = .slice A m c ∧ Hid (Ext W0 wr) ∧ Hid (OsC niC 3 1 wr W0.heap.size A m c li) ∧ Hid (m = q) ∧ Hid (∀ i ∈ li, i < L.length)) (fun _ _ i _ => m5 - (intOf i).toNat)
  case atStart => exact ⟨0, none, 0, 0, [], Nat.zero_le _, rfl, rfl, Ext.refl _, OsC.nil_ niC_len niC_cell, rfl, fun i hi => by cases hi⟩
  case round =>
    obtain ⟨q, A, m, c, li, hq, rfl, rfl, HE, HOW, HMQ, HLT⟩ := hrel
    by_cases hlt : q < m5
    · have hi1 : (q : Int) < (m5 : Int) := by omega
      have hnew : SlC niC 1 (wr.alloc (.cells #[.int .i64 (q : Int)] 3)) (some ⟨wr.heap.size, 0, none⟩) 1 [q] := SlC.new_ (cs := niC) wr [q] niC_len (by simp) _ rfl (0, 0) _ rfl _
      have hE1 : Ext wr (wr.alloc (.cells #[.int .i64 (q : Int)] 3)) := (Ext.refl wr).alloc _
      have HOW1 := Lib.hid (HOW.out.ext hE1)
      have hbase : W0.heap.size ≤ (wr.alloc (.cells #[.int .i64 (q : Int)] 3)).heap.size := (HE.out.trans hE1).size_le
      have hm20 : m ≤ 20 := by have := HMQ.out; omega
      have HE1 := Lib.hid (HE.out.trans hE1)
      clear hE1
      go_wp2_with (first
        | (at_builtin; refine Hid.out ?_))
      refine Hid.mk_ ?_
      refine appC einfo_ni rfl _ _ rfl HOW1.out rfl hnew rfl (by omega) hbase ?_
      intro A7 m7 c7 w7 ho7 hg7 hn7
      have HO7 := Lib.hid ho7
      have HE7 := Lib.hid (HE1.out.grown hg7 HOW1.out.ge)
      have HM7 : Hid (m7 = q + 1) := by
        have h1 := ho7.len
        have h2 := HOW.out.len
        have h3 := HMQ.out
        rw [List.length_append, List.length_singleton] at h1
        show _ = _
        omega
      have HL7 : Hid (∀ i ∈ li ++ [q], i < L.length) := fun i hi => by
        rcases List.mem_append.1 hi with hi | hi
        · exact HLT.out i hi
        · rw [List.mem_singleton] at hi; have := HML.out; omega
      clear ho7 hg7 hn7 hnew hbase
      go_wp2
      go_roundw
      case rel => exact ⟨q + 1, A7, m7, c7, li ++ [q], by omega, by go_num, rfl, HE7, HO7, HM7, HL7⟩
      case measure => simp [intOf]; omega
    · have hi1 : ¬ (q : Int) < (m5 : Int) := by omega
      have hmm5 : m = m5 := by have := HMQ.out; omega
      obtain ⟨g, cur, hA, _⟩ := HOW.out.row (by omega)
      subst hmm5
      subst hA
      have HRS : Hid (RowS W0 wr L.length g m c li) := ⟨HE.out, HOW.out, HLT.out⟩
      have HSK := Lib.hid (sortI_any HO.out HRS.out hm12)
      go_wp2_with (first
        | (go_at_call 103; refine Hid.out ?_))
      refine Hid.mk_ (HSK.out.mono ?_)
      rintro e w1 ⟨rfl, li', hr'⟩
      have HR := Lib.hid hr'
      clear hr'
      go_wp2
      go_ret
      exact ⟨⟨some ⟨g, 0, none⟩, m, c, li', rfl, HR.out.own.sl, HML.out, HR.out.lt⟩, HE0.out.trans HR.out.ext⟩
end
end Go.Proofs.YtdgppdiickmofaaGreatDoor

/- The program's match: prepare, Best. -/
namespace Go.Proofs.YtdgppdiickmofaaGreatDoor
open Go.RowKit
set_option maxRecDepth 100000
attribute [local go_sem] ext_refl_t ext_alloc_t ext_drew_t ext_drewN_t ext_alloc2_t ext_alloc3_t ext_alloc4_t ext_alloc5_t ext_alloc6_t ext_alloc7_t ext_alloc8_t ext_alloc1d_t ext_alloc2d_t ext_alloc3d_t ext_alloc4d_t
attribute [local go_sem] yielded_undef
/-- What prepare returns. -/
def PrepPost (rq sp : List (List UInt8)) (e : Ending) (w' : World) : Prop := ∃ (hr hs : SlH) (z : Int), e = .returned (.tuple #[.slice hr.A hr.m hr.c, .slice hs.A hs.m hs.c, .int .i64 z]) ∧ (z = 0 → (∀ s ∈ rq, (parseT s).2 = 0) ∧ TgsW w' hr (rq.map fun s => (parseT s).1) ∧ (∀ s ∈ sp, (parseT s).2 = 0) ∧ TgsW w' hs (sp.map fun s => (parseT s).1))
section
variable {w : World}
set_option maxHeartbeats 6400000 in
theorem prep_any {hn : SlH} {l : List NrP} {Ar As : Option Addr} {nr cr ns cs : Nat} {rq sp : List (List UInt8)} (h1 : NrW w hn l) (h2 : l.length ≤ 30) (hv : valN l = true) (hrq : SlC strF 1 w Ar nr (rq.map str)) (hsp : SlC strF 1 w As ns (sp.map str))
    (hrl : rq.length ≤ 20) (hsl : sp.length ≤ 20) (hrz : ∀ s ∈ rq, s.length ≤ 1000) (hsz : ∀ s ∈ sp, s.length ≤ 1000) (hM : MX w) :
    Calls Tryz.prog 72 #[.slice hn.A hn.m hn.c, .slice Ar nr cr, .slice As ns cs] w fun e w' => PrepPost rq sp e w' ∧ Ext w w' := by
  have HKV := Lib.hid (mvalid_any h1 h2)
  rw [hv] at HKV
  have HR1 : Hid (∀ W, Ext w W → Calls Tryz.prog 48 #[.slice Ar nr cr] W fun e w' => ReadTPost rq e w' ∧ Ext W w') := fun W hE => mread_any (hrq.ext hE) hrl hrz (hM.ext hE)
  have HR2 : Hid (∀ W, Ext w W → Calls Tryz.prog 48 #[.slice As ns cs] W fun e w' => ReadTPost sp e w' ∧ Ext W w') := fun W hE => mread_any (hsp.ext hE) hsl hsz (hM.ext hE)
  clear h1 h2 hv hrq hsp hrl hrz hsz hM
  go_enter Tryz.func72, Tryz.ntmps72
  go_wp2_with (first
    | (go_at_call 11; refine Hid.out ?_))
  refine Hid.mk_ ((HKV.out).mono ?_)
  rintro e w1 ⟨rfl, hE1⟩
  go_wp2_with (first
    | (go_at_call 48; refine Hid.out ?_))
  refine Hid.mk_ ((HR1.out _ hE1).mono ?_)
  rintro e w3 ⟨⟨hr, z, rfl, hz⟩, hE3⟩
  have hE13 := hE1.trans hE3
  rcases hz with ⟨rfl, hz1, hz2⟩ | ⟨hz, -⟩
  case inr =>
    have hz0 : (z == 0) = false := by simpa using hz
    have HZ := Lib.hid hz
    go_wp2
    go_ret3
    exact ⟨⟨⟨none, 0, 0⟩, ⟨none, 0, 0⟩, z, rfl, fun e => absurd e HZ.out⟩, hE13⟩
  case inl =>
    have HQ1 := Lib.hid hz1
    have HQ2 := Lib.hid hz2
    clear hz1 hz2
    go_wp2_with (first
      | (go_at_call 48; refine Hid.out ?_))
    refine Hid.mk_ ((HR2.out _ hE13).mono ?_)
    rintro e w5 ⟨⟨hs, z, rfl, hz⟩, hE5⟩
    have hE15 := hE13.trans hE5
    rcases hz with ⟨rfl, hz1, hz2⟩ | ⟨hz, -⟩
    case inr =>
      have hz0 : (z == 0) = false := by simpa using hz
      have HZ := Lib.hid hz
      go_wp2
      go_ret3
      exact ⟨⟨⟨none, 0, 0⟩, ⟨none, 0, 0⟩, z, rfl, fun e => absurd e HZ.out⟩, hE15⟩
    case inl =>
      have HP1 := Lib.hid hz1
      have HP2 := Lib.hid hz2
      obtain ⟨L, hL1, hL2, hL3, hL4⟩ := hz2
      obtain ⟨As2, ms, cs2⟩ := hs
      have HML : Hid (ms = sp.length) := by have := hL2.len; dsimp only at this; have h9 := congrArg List.length hL1; rw [List.length_map, List.length_map] at h9; show _ = _; omega
      have HMM : Hid (ms = L.length) := hL2.len
      have hms : ms ≤ 20 := by have := HML.out; omega
      have HSL := Lib.hid hL2
      have HRU := Lib.hid hL4
      have HQ2 := Lib.hid (HQ2.out.ext hE5)
      have HE15 := Lib.hid hE15
      dsimp only at HSL
      have hmm := @run_makeMap Tryz.prog
      obtain ⟨W6, hW6⟩ : ∃ W6, W6 = w5.alloc (.map #[] 0) := ⟨_, rfl⟩
      obtain ⟨bm, hbm⟩ : ∃ b, b = w5.heap.size := ⟨_, rfl⟩
      have hSM : SM W6 bm 0 [] := by rw [hW6, hbm]; exact SM.made w5
      have hE56 : Ext w5 W6 := by rw [hW6]; exact (Ext.refl w5).alloc _
      have HW6 := Lib.hid hW6
      have HBM := Lib.hid hbm
      clear hL1 hL2 hL3 hL4 hz1 hE1 hE3 hE13 hE5 hE15 hW6 hbm hsl
      go_upto_region 10 with fail
      rw [← HW6.out, ← HBM.out]
      clear hmm
      go_wp2
      go_loopw [6, 7, 11, 34] (fun s6 s7 _ i wr => ∃ (q n : Nat) (S : List (List UInt8)), q ≤ ms ∧ n ≤ q ∧ i = .int .i64 q ∧ s6 = .slice hr.A hr.m hr.c ∧ s7 = .slice As2 ms cs2 ∧ Hid (SM wr bm n S) ∧ Hid (Ext w5 wr)) (fun _ _ _ i _ => ms - (intOf i).toNat)
      case atStart => exact ⟨0, 0, [], Nat.zero_le _, Nat.le_refl _, rfl, rfl, rfl, hSM, hE56⟩
      case round =>
        obtain ⟨q, n, S, hq, hnq, rfl, rfl, rfl, HSM, HE⟩ := hrel
        by_cases hlt : q < ms
        · have hi1 : (q : Int) < (ms : Int) := by omega
          obtain ⟨b, off, e0, hbl, hcs⟩ := (HSL.out.ext HE.out).at_ hlt (by omega)
          subst e0
          have hlt1 : q < L.length := by rw [← HMM.out]; exact hlt
          obtain ⟨x, hxq⟩ : ∃ x, x = L[q] := ⟨_, rfl⟩
          have x0 := hcs q hlt1 0 (by omega)
          have x1 := hcs q hlt1 1 (by omega)
          have x2 := hcs q hlt1 2 (by omega)
          have x3 := hcs q hlt1 3 (by omega)
          simp only [← hxq, tgC, List.getElem_cons_zero, List.getElem_cons_succ, Nat.add_zero, ← Nat.add_assoc] at x0 x1 x2 x3
          have hxW : TgW w5 x.h x.t := HRU.out x (by rw [hxq]; exact List.getElem_mem hlt1)
          have HT : Hid (∀ W, Ext wr W → Calls Tryz.prog 66 #[tgV x.h x.t] W fun e w' => e = .returned (.string (str (textT x.t))) ∧ Ext W w') := fun W hE => tText_any (hxW.ext (HE.out.trans hE))
          have HTL : Hid ((textT x.t).length ≤ maxLen) := by
            show _ ≤ _
            unfold textT
            split
            · have h9 := join_len [45] (by simp) (N := 1000) (partsT x.t) (fun y hy => by
                have hy2 := (List.mem_filter.1 hy).1
                rcases List.mem_append.1 hy2 with h3 | h3
                · have a1 := hxW.ln; have a2 := hxW.sn; have a3 := hxW.rn
                  simp only [List.mem_cons, List.not_mem_nil, or_false] at h3
                  rcases h3 with rfl | rfl | rfl <;> assumption
                · exact hxW.sz y h3)
              have h2 : (partsT x.t).length ≤ 1003 := Nat.le_trans (List.length_filter_le _ _) (by rw [List.length_append]; have := hxW.n; simp; omega)
              have h3 := Nat.mul_le_mul_right (1000 + 1) h2
              show (Lib.join (partsT x.t) [45]).length ≤ _
              simp [maxLen]
              omega
            · simp [maxLen]
          obtain ⟨T, hT⟩ : ∃ T, T = textT x.t := ⟨_, rfl⟩
          rw [← hT] at HT HTL
          have hEa : ∀ cs, Ext wr (wr.alloc (.cells cs 108)) := fun cs => (Ext.refl wr).alloc _
          have hbx := Blk.new wr 108 (tgC x).toArray
          clear hT hcs hxq hxW
          go_wp2_with (first
            | (go_at_call 66; refine Hid.out ?_))
          refine Hid.mk_ ((HT.out _ (hEa _)).mono ?_)
          rintro e w7 ⟨rfl, hE7⟩
          have hE17 : Ext wr w7 := (hEa (tgC x).toArray).trans hE7
          have hb7 : Blk w7 wr.heap.size 108 (tgC x).toArray := hbx.below hE7 (by simp)
          have y0 := (hb7.cell 0).trans (show _ = some (.string (str x.t.lang)) from rfl)
          have y1 := (hb7.cell 1).trans (show _ = some (.string (str x.t.scr)) from rfl)
          have y2 := (hb7.cell 2).trans (show _ = some (.string (str x.t.reg)) from rfl)
          have y3 := (hb7.cell 3).trans (show _ = some (.slice x.h.A x.h.m x.h.c) from rfl)
          have hlk := (HSM.out.ext hE17).look T HTL.out
          obtain ⟨bq, hbq⟩ : ∃ b, b = decide (T ∈ S) := ⟨_, rfl⟩
          rw [← hbq] at hlk
          have HE17 := Lib.hid hE17
          clear hbq hb7 hbx hE7 hEa hE17 x0 x1 x2 x3
          cases bq with
          | true =>
            go_wp2
            go_ret3
            exact ⟨⟨⟨none, 0, 0⟩, ⟨none, 0, 0⟩, 9, rfl, fun e => by cases e⟩, (HE15.out.trans HE.out).trans HE17.out⟩
          | false =>
            go_wp2_with (first
              | (go_at_call 66; refine Hid.out ?_))
            refine Hid.mk_ ((HT.out _ HE17.out).mono ?_)
            rintro e w8 ⟨rfl, hE8⟩
            obtain ⟨w9, hrun, hS9, hg9⟩ := ((HSM.out.ext HE17.out).ext hE8).store (by simp [maxLen]; omega) T HTL.out
            have HS9 := Lib.hid hS9
            have HE9 : Hid (Ext w5 w9) := ((HE.out.trans HE17.out).trans hE8).grown hg9 (fun j hj => by injection hj with hj; rw [← hj, HBM.out]; exact Nat.le_refl _)
            clear hS9 hg9 hE8 y0 y1 y2 y3 hlk
            go_wp2
            go_roundw
            case rel => exact ⟨q + 1, n + 1, S ++ [T], by omega, by omega, by go_num, rfl, rfl, HS9, HE9⟩
            case measure => simp [intOf]; omega
        · have hi1 : ¬ (q : Int) < (ms : Int) := by omega
          go_wp2
          go_ret3
          exact ⟨⟨hr, ⟨As2, ms, cs2⟩, 0, rfl, fun _ => ⟨HQ1.out, HQ2.out.ext HE.out, HP1.out, HP2.out.ext HE.out⟩⟩, HE15.out.trans HE.out⟩
/-- What Best returns. -/
def BestPost (l : List NrP) (a : List UInt8) (sp : List (List UInt8)) (e : Ending) : Prop := ∃ z er : Int, e = .returned (.tuple #[.int .i64 z, .int .i64 er]) ∧ (er = 0 → ∃ i : Nat, z = i ∧ ∃ hi : i < sp.length, distT l (parseT a).1 (parseT sp[i]).1 ≤ 60 ∧ (parseT sp[i]).2 = 0 ∧ (parseT a).2 = 0)
set_option maxHeartbeats 6400000 in
theorem best_any {hn : SlH} {l : List NrP} {Ar As : Option Addr} {nr cr ns cs : Nat} {a : List UInt8} {sp : List (List UInt8)} (h1 : NrW w hn l) (h2 : l.length ≤ 30) (hv : valN l = true) (hrq : SlC strF 1 w Ar nr ([a].map str)) (hsp : SlC strF 1 w As ns (sp.map str))
    (hs0 : 0 < sp.length) (hsl : sp.length ≤ 12) (hrz : a.length ≤ 1000) (hsz : ∀ s ∈ sp, s.length ≤ 1000) (hM : MX w) :
    Calls Tryz.prog 45 #[.slice hn.A hn.m hn.c, .slice Ar nr cr, .slice As ns cs] w fun e w' => BestPost l a sp e ∧ Ext w w' := by
  have HPR := Lib.hid (prep_any (cr := cr) (cs := cs) h1 h2 hv hrq hsp (by simp) (by omega) (fun s hs => by rw [List.mem_singleton] at hs; rw [hs]; exact hrz) hsz hM)
  have HN := Lib.hid h1
  have H2 := Lib.hid (And.intro h2 (And.intro hs0 hsl))
  have HC := Lib.hid (valN_cost hv)
  clear h1 h2 hv hrq hsp hs0 hsl hrz hsz hM
  go_enter Tryz.func45, Tryz.ntmps45
  go_wp2
  go_step3
  go_wp2_with (first
    | (go_at_call 72; refine Hid.out ?_))
  refine Hid.mk_ (HPR.out.mono ?_)
  rintro e w1 ⟨⟨hr, hs, z, rfl, hz⟩, hE1⟩
  by_cases hz0 : z = 0
  case neg =>
    have HZ := Lib.hid hz0
    clear hz
    go_wp2
    try rw [Exit.noGoto_ret]
    go_ret2
    exact ⟨⟨0, z, rfl, fun e => absurd e HZ.out⟩, hE1⟩
  case pos =>
    obtain ⟨hp1, ⟨L1, hL1, hL2, -, hL3⟩, hp2, ⟨L2, hM1, hM2, -, hM3⟩⟩ := hz hz0
    obtain ⟨x, rfl⟩ : ∃ x, L1 = [x] := by
      have : L1.length = 1 := by have := congrArg List.length hL1; simpa using this
      exact List.length_eq_one_iff.1 this
    obtain ⟨A1, m1, c1⟩ := hr
    obtain ⟨A2, m2, c2⟩ := hs
    dsimp only at hL2 hM2 ⊢
    have hm1 : m1 = 1 := hL2.len
    subst hm1
    have HX : Hid (x.t = (parseT a).1) := by show _ = _; simpa using hL1
    have HSP := Lib.hid hM1
    have HP := Lib.hid (And.intro hp1 hp2)
    have HL2 := Lib.hid hL2
    have HS2 := Lib.hid hM2
    have HR1 := Lib.hid (hL3 x (by simp))
    have HR2 := Lib.hid hM3
    have HE1 := Lib.hid hE1
    have HLN : Hid (L2.length = sp.length) := by have := congrArg List.length hM1; rw [List.length_map, List.length_map] at this; exact this
    subst hz0
    clear hz hp1 hp2 hL1 hL2 hL3 hM1 hM2 hM3 hE1
    go_wp2
    go_step3
    go_wp2
    go_loopg [11, 13, 14, 28] 2 (fun gz s11 _ _ i wr => ∃ (q : Nat) (bst : Int), 2 ≤ q + gz ∧ q ≤ 1 ∧ i = .int .i64 q ∧ s11 = .int .i64 bst ∧ Ext w1 wr ∧ Hid (bst = -1))
    case atStart => exact ⟨0, -1, by omega, by omega, rfl, rfl, Ext.refl _, rfl⟩
    case round =>
      obtain ⟨q, bst, hqz, hq1, rfl, rfl, hE, HBS⟩ := hrel
      by_cases hq : q < 1
      · have hqi : (q : Int) < 1 := by omega
        obtain rfl : q = 0 := by omega
        obtain ⟨gz', rfl⟩ : ∃ gz', gk = gz' + 1 := ⟨gk - 1, by omega⟩
        obtain ⟨b, off, e0, hbl, hcs⟩ := (HL2.out.ext hE).at_ (i := 0) (by omega) (by omega)
        subst e0
        have x0 := hcs 0 (by simp) 0 (by omega)
        have x1 := hcs 0 (by simp) 1 (by omega)
        have x2 := hcs 0 (by simp) 2 (by omega)
        have x3 := hcs 0 (by simp) 3 (by omega)
        simp only [tgC, List.getElem_cons_zero, List.getElem_cons_succ, Nat.add_zero, Nat.zero_mul, ← Nat.add_assoc] at x0 x1 x2 x3
        have hEa : ∀ cs, Ext wr (wr.alloc (.cells cs 108)) := fun cs => (Ext.refl wr).alloc _
        have hbx := Blk.new wr 108 (tgC x).toArray
        have HOD : Hid (∀ W, Ext wr W → Calls Tryz.prog 73 #[.slice hn.A hn.m hn.c, tgV x.h x.t, .slice A2 m2 c2] W fun e w' => (∃ (A : Option Addr) (m c : Nat) (li : List Nat), e = .returned (.slice A m c) ∧ SlC niC 1 w' A m li ∧ m = L2.length ∧ ∀ i ∈ li, i < L2.length) ∧ Ext W w') := fun W hEW => by
          have hEE := hE.trans hEW
          exact order_any (hs := ⟨A2, m2, c2⟩) (HW.ext HN.out (HE1.out.trans hEE)) H2.out.1 HC.out (HR1.out.ext hEE) (HS2.out.ext hEE) (fun y hy => (HR2.out y hy).ext hEE) (by rw [HLN.out]; exact H2.out.2.1) (by rw [HLN.out]; exact H2.out.2.2)
        clear hcs
        go_wp2_with (first
          | (go_at_call 73; refine Hid.out ?_))
        refine Hid.mk_ ((HOD.out _ (hEa _)).mono ?_)
        rintro e w5 ⟨⟨A5, m5, c5, li, rfl, hli, hml, hlt⟩, hE5⟩
        have hE15 : Ext wr w5 := (hEa (tgC x).toArray).trans hE5
        have hEw5 := hE.trans hE15
        have hm50 : 0 < m5 := by rw [hml, HLN.out]; exact H2.out.2.1
        have hlil := hli.len
        obtain ⟨bo, oo, rfl, hbo, hco⟩ := ni_cells hli hm50
        have hl0 : 0 < li.length := by omega
        have o0 := hco 0 hl0
        obtain ⟨i0, hi0⟩ : ∃ i, i = li[0] := ⟨_, rfl⟩
        rw [← hi0] at o0
        simp only [Nat.add_zero] at o0
        have hi0L : i0 < L2.length := hlt i0 (by rw [hi0]; exact List.getElem_mem hl0)
        have hm2L : m2 = L2.length := HS2.out.len
        obtain ⟨b2, off2, e2, hbl2, hcs2⟩ := (HS2.out.ext hEw5).at_ (i := i0) (by omega) (by omega)
        subst e2
        obtain ⟨y, hyq⟩ : ∃ y, y = L2[i0] := ⟨_, rfl⟩
        have y0 := hcs2 i0 hi0L 0 (by omega)
        have y1 := hcs2 i0 hi0L 1 (by omega)
        have y2 := hcs2 i0 hi0L 2 (by omega)
        have y3 := hcs2 i0 hi0L 3 (by omega)
        simp only [← hyq, tgC, List.getElem_cons_zero, List.getElem_cons_succ, Nat.add_zero, ← Nat.add_assoc] at y0 y1 y2 y3
        have hb5 : Blk w5 wr.heap.size 108 (tgC x).toArray := hbx.below hE5 (by simp)
        have z0 := latersU ((hb5.cell 0).trans (show _ = some (.string (str x.t.lang)) from rfl))
        have z1 := latersU ((hb5.cell 1).trans (show _ = some (.string (str x.t.scr)) from rfl))
        have z2 := latersU ((hb5.cell 2).trans (show _ = some (.string (str x.t.reg)) from rfl))
        have z3 := latersU ((hb5.cell 3).trans (show _ = some (.slice x.h.A x.h.m x.h.c) from rfl))
        have Y0 := latersU y0
        have Y1 := latersU y1
        have Y2 := latersU y2
        have Y3 := latersU y3
        have O0 := latersU o0
        have hyW : TgW w1 y.h y.t := HR2.out y (by rw [hyq]; exact List.getElem_mem hi0L)
        have HD : Hid (∀ W, Ext w5 W → Calls Tryz.prog 49 #[.slice hn.A hn.m hn.c, tgV x.h x.t, tgV y.h y.t] W fun e w' => e = .returned (.int .i64 (distT l x.t y.t)) ∧ Ext W w') := fun W hEW => by
          have hEE := hEw5.trans hEW
          exact distance_any (HW.ext HN.out (HE1.out.trans hEE)) H2.out.1 HC.out (HR1.out.ext hEE) (hyW.ext hEE)
        obtain ⟨d, hd⟩ : ∃ d, d = distT l x.t y.t := ⟨_, rfl⟩
        rw [← hd] at HD
        have HDQ := Lib.hid hd
        have HYQ : Hid (L2[i0]? = some y) := by show _ = _; rw [hyq]; exact List.getElem?_eq_getElem hi0L
        have HIL := Lib.hid hi0L
        have HEw5 := Lib.hid hEw5
        have hm5i : (0 : Int) < (m5 : Int) := by omega
        have hi0m : (i0 : Int) < (m2 : Int) := by omega
        clear hEa hbx hE5 hE15 hEw5 hli hml hlt hlil hco hl0 hi0 hi0L hcs2 hyq y0 y1 y2 y3 hb5 hyW hd x0 x1 x2 x3 hm2L
        by_cases hd60 : d ≤ 60
        · have HF : Hid (∃ hi : i0 < sp.length, distT l (parseT a).1 (parseT sp[i0]).1 ≤ 60 ∧ (parseT sp[i0]).2 = 0 ∧ (parseT a).2 = 0) := by
            have hil : i0 < sp.length := by rw [← HLN.out]; exact HIL.out
            refine ⟨hil, ?_, HP.out.2 _ (List.getElem_mem hil), HP.out.1 a (by simp)⟩
            have h9 : y.t = (parseT sp[i0]).1 := by
              have h8 := congrArg (fun L => L[i0]?) HSP.out
              simp only [List.getElem?_map] at h8
              rw [HYQ.out, List.getElem?_eq_getElem hil] at h8
              simp only [Option.map_some, Option.some.injEq] at h8
              exact h8
            rw [← HX.out, ← h9, ← HDQ.out]
            exact hd60
          have hi00 : ¬ (i0 : Int) < 0 := by omega
          go_wp2
          refine wp_region_ext_lit (by kernel_rfl) (by kernel_rfl) ?_
          try dsimp only [List.append]
          repeat (go_big_quiet_step ((go_at_call 49; with_reducible exact Calls.quiet_ext (HD.out _ (ExtOf.ext _)))))
          refine wpQuiet_nil ?_
          rintro w7 ⟨⟨_, h7⟩, rfl⟩
          try dsimp only
          have o7 := later h7 o0
          have HE7 := Lib.hid ((HE1.out.trans HEw5.out).trans h7)
          clear h7 O0 o0 z0 z1 z2 z3 Y0 Y1 Y2 Y3
          go_wp2
          try rw [Exit.noGoto_ret]
          go_ret2
          exact ⟨⟨(i0 : Int), 0, rfl, fun _ => ⟨i0, rfl, HF.out⟩⟩, HE7.out⟩
        · go_wp2
          refine wp_region_ext_lit (by kernel_rfl) (by kernel_rfl) ?_
          try dsimp only [List.append]
          repeat (go_big_quiet_step ((go_at_call 49; with_reducible exact Calls.quiet_ext (HD.out _ (ExtOf.ext _)))))
          refine wpQuiet_nil ?_
          rintro w7 ⟨⟨_, h7⟩, rfl⟩
          try dsimp only
          have HE7 := Lib.hid (HEw5.out.trans h7)
          clear h7 O0 o0 z0 z1 z2 z3 Y0 Y1 Y2 Y3
          go_wp2
          go_roundg gz'
          case measure => omega
          case rel => exact ⟨1, bst, by omega, by omega, by go_num, rfl, HE7.out, HBS⟩
      · have hqi : ¬ (q : Int) < 1 := by omega
        have hb := HBS.out
        subst hb
        go_wp2
        try rw [Exit.noGoto_ret]
        go_ret2
        exact ⟨⟨0, 8, rfl, fun e => by cases e⟩, HE1.out.trans hE⟩
end
end Go.Proofs.YtdgppdiickmofaaGreatDoor

/- The program's chains: text, what is usable in the aliases. -/
namespace Go.Proofs.YtdgppdiickmofaaGreatDoor
open Go.RowKit
set_option maxRecDepth 100000
attribute [local go_sem] ext_refl_t ext_alloc_t ext_drew_t ext_drewN_t ext_alloc2_t ext_alloc3_t ext_alloc4_t ext_alloc5_t ext_alloc6_t ext_alloc7_t ext_alloc8_t ext_alloc1d_t ext_alloc2d_t ext_alloc3d_t ext_alloc4d_t
attribute [local go_sem] yielded_undef
theorem textB_eq (s : List UInt8) : textB s = (((canonT s).2 == 0) && decide ((canonT s).1 = s)) := by
  unfold textB canonT
  by_cases h : (parseT s).2 = 0
  · rw [if_pos h, decide_eq_true h]; rfl
  · rw [if_neg h, decide_eq_false h, Bool.false_and]
    have : ((parseT s).2 == 0) = false := beq_eq_false_iff_ne.2 h
    dsimp only
    rw [this, Bool.false_and]
def okA (a : AlP) : Bool := textB a.1 && (textB a.2 && !decide (a.1 = undL))
def okAll (al : List AlP) : Bool := al.all okA
section
variable {w : World}
set_option maxHeartbeats 3200000 in
theorem text_any {s : List UInt8} (hs : s.length ≤ 1000) (hM : MX w) :
    Calls Tryz.prog 69 #[.string (str s)] w fun e w' => e = .returned (.bool (textB s)) ∧ Ext w w' := by
  have HK := Lib.hid (tcanon_any hs hM)
  have q1 := str_eqB (canonT s).1 s
  have HF : Hid (textB s = (((canonT s).2 == 0) && decide ((canonT s).1 = s))) := textB_eq s
  obtain ⟨x, hx⟩ : ∃ x, x = str s := ⟨_, rfl⟩
  obtain ⟨y, hy⟩ : ∃ x, x = str (canonT s).1 := ⟨_, rfl⟩
  obtain ⟨z, hz⟩ : ∃ x, x = (canonT s).2 := ⟨_, rfl⟩
  obtain ⟨b, hb⟩ : ∃ b, b = decide ((canonT s).1 = s) := ⟨_, rfl⟩
  rw [← hb, ← hz] at HF
  rw [← hb, ← hx, ← hy] at q1
  rw [← hx, ← hy, ← hz] at HK
  rw [← hx]
  have HQ := Lib.hid q1
  clear hx hy hz hb hs hM q1
  go_enter Tryz.func69, Tryz.ntmps69
  go_wp2_with (first
    | (go_at_call 101; refine Hid.out ?_))
  refine Hid.mk_ ((HK.out).mono ?_)
  rintro e w2 ⟨rfl, hE2⟩
  have q1 := HQ.out
  by_cases h0 : z = 0
  · have q2 : (z == 0) = true := by rw [h0]; rfl
    rw [q2] at HF
    cases b with
    | true =>
      go_wp2
      go_ret
      exact ⟨by rw [HF.out]; rfl, hE2⟩
    | false =>
      go_wp2
      go_ret
      exact ⟨by rw [HF.out]; rfl, hE2⟩
  · have q2 : (z == 0) = false := beq_eq_false_iff_ne.2 h0
    rw [q2] at HF
    clear h0
    go_wp2
    go_ret
    exact ⟨by rw [HF.out]; rfl, hE2⟩
set_option maxHeartbeats 6400000 in
theorem usable1_any {a : AlP} (ha : a.1.length ≤ 120 ∧ a.2.length ≤ 120) (hM : MX w) :
    Calls Tryz.prog 71 #[.agg #[.string (str a.1), .string (str a.2)]] w fun e w' => e = .returned (.bool (!okA a)) ∧ Ext w w' := by
  have HK1 : Hid (∀ W, Ext w W → Calls Tryz.prog 69 #[.string (str a.1)] W fun e w' => e = .returned (.bool (textB a.1)) ∧ Ext W w') := fun W hE => text_any (by omega) (hM.ext hE)
  have HK2 : Hid (∀ W, Ext w W → Calls Tryz.prog 69 #[.string (str a.2)] W fun e w' => e = .returned (.bool (textB a.2)) ∧ Ext W w') := fun W hE => text_any (by omega) (hM.ext hE)
  have q3 : ((str a.1).toList == [117, 110, 100]) = decide (a.1 = undL) := by rw [← str_toList [117, 110, 100]]; exact str_eqB _ _
  have HF : Hid (okA a = (textB a.1 && (textB a.2 && !decide (a.1 = undL)))) := rfl
  obtain ⟨x, hx⟩ : ∃ x, x = str a.1 := ⟨_, rfl⟩
  obtain ⟨y, hy⟩ : ∃ x, x = str a.2 := ⟨_, rfl⟩
  obtain ⟨b1, hb1⟩ : ∃ b, b = textB a.1 := ⟨_, rfl⟩
  obtain ⟨b2, hb2⟩ : ∃ b, b = textB a.2 := ⟨_, rfl⟩
  obtain ⟨b3, hb3⟩ : ∃ b, b = decide (a.1 = undL) := ⟨_, rfl⟩
  rw [← hb1, ← hb2, ← hb3] at HF
  rw [← hx, ← hb1] at HK1
  rw [← hy, ← hb2] at HK2
  rw [← hx, ← hb3] at q3
  rw [← hx, ← hy]
  clear hx hy hb1 hb2 hb3
  have hE0 : Ext w (w.alloc (Obj.cells #[.string x, .string y] 114)) := (Ext.refl w).alloc _
  have hb0 := Blk.new w 114 #[.string x, .string y]
  go_enter Tryz.func71, Tryz.ntmps71
  have k0 := laters (show (w.alloc (Obj.cells #[.string x, .string y] 114)).cell? ⟨w.heap.size, 0, none⟩ = some (.string x) from hb0.cell 0)
  have k1 := laters (show (w.alloc (Obj.cells #[.string x, .string y] 114)).cell? ⟨w.heap.size, 1, none⟩ = some (.string y) from hb0.cell 1)
  clear hb0
  go_wp2_with (first
    | (go_at_call 69; refine Hid.out ?_))
  refine Hid.mk_ ((HK1.out _ hE0).mono ?_)
  rintro e w2 ⟨rfl, hE2⟩
  have hE3 := hE0.trans hE2
  cases b1 with
  | false =>
    go_wp2
    go_ret
    exact ⟨by rw [HF.out]; rfl, hE3⟩
  | true =>
    go_wp2_with (first
      | (go_at_call 69; refine Hid.out ?_))
    refine Hid.mk_ ((HK2.out _ hE3).mono ?_)
    rintro e w4 ⟨rfl, hE4⟩
    have hE5 := hE3.trans hE4
    have hE6 := hE2.trans hE4
    cases b2 with
    | false =>
      go_wp2
      go_ret
      exact ⟨by rw [HF.out]; rfl, hE5⟩
    | true =>
      cases b3 with
      | false =>
        go_wp2
        go_ret
        exact ⟨by rw [HF.out]; rfl, hE5⟩
      | true =>
        go_wp2
        go_ret
        exact ⟨by rw [HF.out]; rfl, hE5⟩
set_option maxHeartbeats 3200000 in
theorem idxA_any {h : SlH} {al : List AlP} (hs : AlsW w h al) (hM : MX w) :
    Calls Tryz.prog 102 #[.slice h.A h.m h.c, .func (.func 71) #[] #[]] w fun e w' => (∃ z : Int, e = .returned (.int .i64 z) ∧ ((okAll al = false ∧ 0 ≤ z) ∨ (okAll al = true ∧ z = -1))) ∧ Ext w w' := by
  obtain ⟨A, m, c⟩ := h
  dsimp only
  have HL : Hid (m = al.length) := hs.sl.len
  have hle : m < 2 ^ 44 := by have := hs.bd; dsimp only at this; omega
  have HS := Lib.hid hs
  have HM := Lib.hid hM
  clear hM hs
  go_enter Tryz.func102, Tryz.ntmps102
  go_wp2
  go_loopw [5, 8] (fun _ i wr => ∃ q : Nat, q ≤ m ∧ i = .int .i64 q ∧ Ext w wr ∧ Hid (∀ j (_ : j < q) (h : j < al.length), okA al[j] = true)) (fun _ i _ => m - (intOf i).toNat)
  case atStart => exact ⟨0, Nat.zero_le _, rfl, Ext.refl _, fun j hj _ => absurd hj (by omega)⟩
  case round =>
    obtain ⟨q, hq, rfl, hE, HC⟩ := hrel
    by_cases hlt : q < m
    · obtain ⟨b, off, e0, hbl, hcs⟩ := (HS.out.sl.ext hE).at_ hlt (by omega)
      dsimp only at e0
      subst e0
      have hlt1 : q < al.length := by rw [← HL.out]; exact hlt
      obtain ⟨y, hyq⟩ : ∃ y, y = al[q] := ⟨_, rfl⟩
      have y0 := hcs q hlt1 0 (by omega)
      have y1 := hcs q hlt1 1 (by omega)
      simp only [← hyq, alC, List.getElem_cons_zero, List.getElem_cons_succ, Nat.add_zero, ← Nat.add_assoc] at y0 y1
      have hi1 : (q : Int) < (m : Int) := by omega
      have HY := Lib.hid hyq
      have HG := Lib.hid (HS.out.good y (by rw [hyq]; exact List.getElem_mem hlt1))
      clear hcs hyq
      go_wp2_with (first
        | (go_at_call 71; refine Hid.out ?_))
      refine Hid.mk_ ((usable1_any HG.out (HM.out.ext hE)).mono ?_)
      rintro e w2 ⟨rfl, hE2⟩
      cases hp : okA y with
      | false =>
        have HF : Hid (okAll al = false) := by
          show al.all okA = _
          cases h : al.all okA with
          | false => rfl
          | true =>
            have := List.all_eq_true.1 h _ (List.getElem_mem hlt1)
            rw [← HY.out, hp] at this
            cases this
        clear hp
        go_wp2
        go_ret
        exact ⟨⟨_, rfl, .inl ⟨HF.out, by omega⟩⟩, hE.trans hE2⟩
      | true =>
        have HN : Hid (∀ j (_ : j < q + 1) (h : j < al.length), okA al[j] = true) := fun j hj h => by
          rcases Nat.lt_or_ge j q with h2 | h2
          · exact HC.out j h2 h
          · obtain rfl : j = q := by omega
            rw [← HY.out]; exact hp
        clear hp
        go_wp2
        go_roundw
        case rel => exact ⟨q + 1, by omega, by go_num, hE.trans hE2, HN⟩
        case measure => simp [intOf]; omega
    · have hi1 : ¬ (q : Int) < (m : Int) := by omega
      have HF : Hid (okAll al = true) := by
        show al.all okA = _
        rw [List.all_eq_true]
        intro x hx
        obtain ⟨j, hj, rfl⟩ := List.getElem_of_mem hx
        exact HC.out j (by have := HL.out; omega) hj
      go_wp2
      go_ret
      exact ⟨⟨_, rfl, .inr ⟨HF.out, rfl⟩⟩, hE⟩
set_option maxHeartbeats 1600000 in
theorem cntA_any {h : SlH} {al : List AlP} (hs : AlsW w h al) (hM : MX w) :
    Calls Tryz.prog 70 #[.slice h.A h.m h.c, .func (.func 71) #[] #[]] w fun e w' => e = .returned (.bool (!okAll al)) ∧ Ext w w' := by
  have HK := Lib.hid (idxA_any hs hM)
  go_enter Tryz.func70, Tryz.ntmps70
  go_wp2_with (first
    | (go_at_call 102; refine Hid.out ?_))
  refine Hid.mk_ ((HK.out).mono ?_)
  rintro e w1 ⟨⟨z, rfl, hz⟩, hE⟩
  rcases hz with ⟨h1, h2⟩ | ⟨h1, rfl⟩
  · have H1 := Lib.hid h1
    clear h1
    go_wp2
    go_ret
    exact ⟨by rw [H1.out]; rfl, hE⟩
  · have H1 := Lib.hid h1
    clear h1
    go_wp2
    go_ret
    exact ⟨by rw [H1.out]; rfl, hE⟩
end
end Go.Proofs.YtdgppdiickmofaaGreatDoor

/- The program's chains: usable. -/
namespace Go.Proofs.YtdgppdiickmofaaGreatDoor
open Go.RowKit
set_option maxRecDepth 100000
attribute [local go_sem] ext_refl_t ext_alloc_t ext_drew_t ext_drewN_t ext_alloc2_t ext_alloc3_t ext_alloc4_t ext_alloc5_t ext_alloc6_t ext_alloc7_t ext_alloc8_t ext_alloc1d_t ext_alloc2d_t ext_alloc3d_t ext_alloc4d_t
attribute [local go_sem] yielded_undef
def useS : List LcH → List (List UInt8) → Bool
  | [], _ => true
  | x :: r, S => !(decide (x.tag ∈ S) || !textB x.tag) && useS r (S ++ [x.tag])
theorem useS_iff : ∀ {l : List LcH} {S : List (List UInt8)}, useS l S = true ↔ (l.map LcH.tag).Nodup ∧ (∀ x ∈ l, x.tag ∉ S) ∧ ∀ x ∈ l, textB x.tag = true
  | [], S => by simp [useS]
  | x :: r, S => by
    unfold useS
    rw [Bool.and_eq_true, useS_iff, List.map_cons, List.nodup_cons]
    simp only [Bool.not_eq_true', Bool.or_eq_false_iff, decide_eq_false_iff_not, Bool.not_eq_false', List.mem_append, not_or, List.mem_cons, forall_eq_or_imp, List.mem_map, not_exists, not_and]
    constructor
    · rintro ⟨⟨h1, h2⟩, h3, h4, h5⟩
      exact ⟨⟨fun y hy => (h4 y hy).2.1, h3⟩, ⟨h1, fun y hy => (h4 y hy).1⟩, h2, h5⟩
    · rintro ⟨⟨h1, h2⟩, ⟨h3, h4⟩, h5, h6⟩
      exact ⟨⟨h3, h5⟩, h2, fun y hy => ⟨h4 y hy, h1 y hy, by simp⟩, h6⟩
def headB (ls : List LcH) : Bool := decide ((ls.head?.map LcH.tag) = some undL)
theorem usab_eq (ls : List LcH) (al : List AlP) : usabP (tabL ls) al = (headB ls && (useS ls [] && okAll al)) := by
  have h1 : ((tabL ls).head?.map Prod.fst) = ls.head?.map LcH.tag := by unfold tabL; cases ls <;> rfl
  have h2 : (tabL ls).map Prod.fst = ls.map LcH.tag := by unfold tabL; rw [List.map_map]; rfl
  have h3 : (tabL ls).all (fun x => textB x.1) = ls.all fun x => textB x.tag := by unfold tabL; rw [List.all_map]; rfl
  have h4 : useS ls [] = (decide (ls.map LcH.tag).Nodup && ls.all fun x => textB x.tag) := by
    rw [Bool.eq_iff_iff, useS_iff, Bool.and_eq_true, decide_eq_true_eq, List.all_eq_true]
    simp
  unfold usabP headB
  rw [h1, h2, h3, h4]
  unfold okAll okA
  rw [Bool.and_assoc]
section
variable {w : World}
set_option maxHeartbeats 12800000 in
theorem usable_any {t : TabH} (ht : TabW w t) (hM : MX w) :
    Calls Tryz.prog 44 #[tbV t] w fun e w' => e = .returned (.bool (usabP (tabL t.ls) t.al)) ∧ Ext w w' := by
  rw [usab_eq]
  obtain ⟨ls, al, nr, ⟨A1, m1, c1⟩, ⟨A2, m2, c2⟩, ⟨A3, m3, c3⟩⟩ := t
  have HT := Lib.hid ht
  have HM := Lib.hid hM
  unfold tbV
  dsimp only at HT ⊢
  clear ht hM
  have HL : Hid (m1 = ls.length) := HT.out.ls.sl.len
  have hm : m1 ≤ 12 := by have := HL.out; have := HT.out.l12; dsimp only at *; omega
  obtain ⟨fv, hfv⟩ : ∃ v, v = (headB ls && (useS ls [] && okAll al)) := ⟨_, rfl⟩
  have HF := Lib.hid hfv
  rw [← hfv]
  clear hfv
  obtain ⟨W0, hW0⟩ : ∃ W0, W0 = w.alloc (Obj.cells #[.slice A1 m1 c1, .slice A2 m2 c2, .slice A3 m3 c3] 26) := ⟨_, rfl⟩
  have hE0 : Ext w W0 := by rw [hW0]; exact (Ext.refl w).alloc _
  have hb0 : Blk W0 w.heap.size 26 #[.slice A1 m1 c1, .slice A2 m2 c2, .slice A3 m3 c3] := by rw [hW0]; exact Blk.new w _ _
  go_enter Tryz.func44, Tryz.ntmps44
  go_upto_region 1 with fail
  rw [← hW0]
  obtain ⟨g0, hg0⟩ : ∃ g, g = w.heap.size := ⟨_, rfl⟩
  rw [← hg0] at hb0 ⊢
  have HB0 := Lib.hid hb0
  have HE0 := Lib.hid hE0
  have HG0 : Hid (w.heap.size ≤ g0) := by show _ ≤ _; omega
  have z0 := (show W0.cell? ⟨g0, 0, none⟩ = some (.slice A1 m1 c1) from HB0.out.cell 0)
  have z1 := (show W0.cell? ⟨g0, 1, none⟩ = some (.slice A2 m2 c2) from HB0.out.cell 1)
  clear hb0 hW0 hg0 hE0
  rcases Nat.eq_zero_or_pos m1 with hm0 | hm0
  · subst hm0
    have hl : ls = [] := List.eq_nil_of_length_eq_zero HL.out.symm
    have HFF : Hid (fv = false) := by show _ = _; rw [HF.out, hl]; rfl
    go_wp2
    go_ret
    exact ⟨by rw [HFF.out]; rfl, HE0.out⟩
  have h10 : ((m1 : Int) == 0) = false := beq_eq_false_iff_ne.2 (by omega)
  have hi0 : (0 : Int) < (m1 : Int) := by omega
  obtain ⟨b, off, e0, hbl, hcs⟩ := (HT.out.ls.sl.ext HE0.out).at_ hm0 (by omega)
  dsimp only at e0
  subst e0
  have hlt0 : 0 < ls.length := by rw [← HL.out]; exact hm0
  have x0 := hcs 0 hlt0 0 (by omega)
  simp only [lcC, List.getElem_cons_zero, Nat.add_zero, Nat.zero_mul] at x0
  have q1 : ((str ls[0].tag).toList == [117, 110, 100]) = headB ls := by
    rw [← str_toList [117, 110, 100]]
    refine (str_eqB _ _).trans ?_
    unfold headB
    cases ls with
    | nil => cases hlt0
    | cons a r => simp [undL]
  have q2 : ((str ls[0].tag).toList != [117, 110, 100]) = !headB ls := by rw [← q1]; rfl
  obtain ⟨s0, hs0⟩ : ∃ s, s = str ls[0].tag := ⟨_, rfl⟩
  rw [← hs0] at q1 q2 x0
  obtain ⟨hb, hhb⟩ : ∃ b, b = headB ls := ⟨_, rfl⟩
  rw [← hhb] at q1 q2 HF
  clear hs0 hhb hcs
  cases hb with
  | false =>
    have HFF : Hid (fv = false) := HF.out
    go_wp2
    go_ret
    exact ⟨by rw [HFF.out]; rfl, HE0.out⟩
  | true =>
  have HF2 : Hid (fv = (useS ls [] && okAll al)) := HF.out
  go_upto_region 3 with fail
  have hmm := @run_makeMap Tryz.prog
  obtain ⟨W1, hW1⟩ : ∃ W1, W1 = W0.alloc (.map #[] 0) := ⟨_, rfl⟩
  obtain ⟨bm, hbm⟩ : ∃ b, b = W0.heap.size := ⟨_, rfl⟩
  have hSM : SM W1 bm 0 [] := by rw [hW1, hbm]; exact SM.made W0
  have hE01 : Ext W0 W1 := by rw [hW1]; exact (Ext.refl W0).alloc _
  have HGB : Hid (w.heap.size ≤ bm ∧ g0 ≠ bm) := ⟨by rw [hbm]; exact HE0.out.size_le, fun e => by have := HB0.out.lt; omega⟩
  have HW1 := Lib.hid hW1
  have HBM := Lib.hid hbm
  have HE1 := Lib.hid (HE0.out.trans hE01)
  have HB1 := Lib.hid (HB0.out.below hE01 HB0.out.lt)
  clear hW1 hbm hE01 z0 z1 x0 q1 q2
  have hz1 := HB0.out
  have z0 := (show W1.cell? ⟨g0, 0, none⟩ = some (.slice (some ⟨b, off, none⟩) m1 c1) from HB1.out.cell 0)
  go_upto_region 4 with fail
  rw [← HW1.out, ← HBM.out]
  clear hmm hz1
  go_wp2
  go_loopw [5, 22] (fun _ i wr => ∃ (q n : Nat) (S : List (List UInt8)), q ≤ m1 ∧ n ≤ q ∧ i = .int .i64 q ∧ Hid (SM wr bm n S) ∧ Hid (Ext w wr) ∧ Hid (Blk wr g0 26 #[.slice (some ⟨b, off, none⟩) m1 c1, .slice A2 m2 c2, .slice A3 m3 c3]) ∧ Hid (useS ls [] = useS (ls.drop q) S)) (fun _ i _ => m1 - (intOf i).toNat)
  case atStart => exact ⟨0, 0, [], Nat.zero_le _, Nat.le_refl _, rfl, hSM, HE1, HB1, Lib.hid (by rw [List.drop_zero])⟩
  case round =>
    obtain ⟨q, n, S, hq, hnq, rfl, HSM, HE, HB, HC⟩ := hrel
    by_cases hlt : q < m1
    · obtain ⟨b', off', e0, hbl, hcs⟩ := (HT.out.ls.sl.ext HE.out).at_ hlt (by omega)
      dsimp only at e0
      injection e0 with e0
      injection e0 with e1 e2 e3
      subst e1 e2
      have hlt1 : q < ls.length := by rw [← HL.out]; exact hlt
      obtain ⟨y, hyq⟩ : ∃ y, y = ls[q] := ⟨_, rfl⟩
      have y0 := hcs q hlt1 0 (by omega)
      have y1 := hcs q hlt1 1 (by omega)
      have y2 := hcs q hlt1 2 (by omega)
      have y3 := hcs q hlt1 3 (by omega)
      have y4 := hcs q hlt1 4 (by omega)
      have y5 := hcs q hlt1 5 (by omega)
      have y6 := hcs q hlt1 6 (by omega)
      have y7 := hcs q hlt1 7 (by omega)
      have y8 := hcs q hlt1 8 (by omega)
      have y9 := hcs q hlt1 9 (by omega)
      have y10 := hcs q hlt1 10 (by omega)
      have y11 := hcs q hlt1 11 (by omega)
      have y12 := hcs q hlt1 12 (by omega)
      have y13 := hcs q hlt1 13 (by omega)
      have y14 := hcs q hlt1 14 (by omega)
      have y15 := hcs q hlt1 15 (by omega)
      simp only [← hyq, lcC, List.getElem_cons_zero, List.getElem_cons_succ, Nat.add_zero, ← Nat.add_assoc] at y0 y1 y2 y3 y4 y5 y6 y7 y8 y9 y10 y11 y12 y13 y14 y15
      have hi1 : (q : Int) < (m1 : Int) := by omega
      have HY := Lib.hid hyq
      have HG := Lib.hid (HT.out.ls.good y (by rw [hyq]; exact List.getElem_mem hlt1))
      have HDV : Hid (useS ls [] = (!(decide (y.tag ∈ S) || !textB y.tag) && useS (ls.drop (q + 1)) (S ++ [y.tag]))) := by
        show _ = _
        rw [HC.out, List.drop_eq_getElem_cons hlt1, ← hyq]
        rfl
      clear hcs hyq HC
      have htl : y.tag.length ≤ maxLen := Nat.le_trans HG.out.1 (by simp [maxLen])
      have HK : Hid (∀ W, Ext w W → Calls Tryz.prog 69 #[.string (str y.tag)] W fun e w' => e = .returned (.bool (textB y.tag)) ∧ Ext W w') := fun W hE => text_any (by have := HG.out.1; omega) (HM.out.ext hE)
      have HLK : Hid (∀ W, Ext wr W → (Instr.lookup 125 (.map (some bm)) (.string (str y.tag)) false).run Tryz.prog W = .ok (.bool (decide (y.tag ∈ S))) W) := fun W hE => (HSM.out.ext hE).look y.tag htl
      obtain ⟨tg, htg⟩ : ∃ s, s = str y.tag := ⟨_, rfl⟩
      obtain ⟨bq, hbq⟩ : ∃ b, b = decide (y.tag ∈ S) := ⟨_, rfl⟩
      obtain ⟨bt, hbt⟩ : ∃ b, b = textB y.tag := ⟨_, rfl⟩
      rw [← hbq] at HLK HDV
      rw [← hbt] at HK HDV
      rw [← htg] at HLK HK y0
      have HTG := Lib.hid htg
      have HTL := Lib.hid htl
      clear hbq hbt htg htl
      obtain ⟨W2, hW2⟩ : ∃ W2, W2 = wr.alloc (.cells #[.string tg, .string (str y.par), .string (str y.dir), .slice y.card.A y.card.m y.card.c, .slice y.ord.A y.ord.m y.ord.c, .string (str y.dec), .string (str y.grp), .string (str y.min), .string (str y.pct), .int .i64 y.p1, .int .i64 y.p2, .slice y.lst.A y.lst.m y.lst.c, .slice y.unt.A y.unt.m y.unt.c, .slice y.dat.A y.dat.m y.dat.c, .slice y.mon.A y.mon.m y.mon.c, .slice y.day.A y.day.m y.day.c] 38) := ⟨_, rfl⟩
      obtain ⟨g2, hg2⟩ : ∃ g, g = wr.heap.size := ⟨_, rfl⟩
      have hE2 : Ext wr W2 := by rw [hW2]; exact (Ext.refl wr).alloc _
      have hc2 : W2.cell? ⟨g2, 0, none⟩ = some (.string tg) := by rw [hW2, hg2]; exact (Blk.new wr 38 _).cell 0
      have HW2 := Lib.hid hW2
      have HG2 := Lib.hid hg2
      have HE2 := Lib.hid hE2
      have HC2 := Lib.hid hc2
      clear hW2 hg2 hc2 hE2
      go_upto_region 7 with fail
      rw [← HW2.out, ← HG2.out]
      clear y0 y1 y2 y3 y4 y5 y6 y7 y8 y9 y10 y11 y12 y13 y14 y15
      have hlk := HLK.out W2 HE2.out
      have x0 := HC2.out
      cases bq with
      | true =>
        have HFF : Hid (fv = false) := by show _ = _; rw [HF2.out, HDV.out]; rfl
        go_wp2
        go_ret
        exact ⟨by rw [HFF.out]; rfl, HE.out.trans HE2.out⟩
      | false =>
        go_wp2_with (first
          | (go_at_call 69; refine Hid.out ?_))
        refine Hid.mk_ ((HK.out _ (HE.out.trans HE2.out)).mono ?_)
        rintro e w3 ⟨rfl, hE3⟩
        have HE3 := Lib.hid ((HE.out.trans HE2.out).trans hE3)
        cases bt with
        | false =>
          have HFF : Hid (fv = false) := by show _ = _; rw [HF2.out, HDV.out]; rfl
          go_wp2
          go_ret
          exact ⟨by rw [HFF.out]; rfl, HE3.out⟩
        | true =>
          have x3 := later hE3 x0
          have hn12 : n < maxLen := by simp [maxLen]; omega
          obtain ⟨w4, hrun, hS4, hg4⟩ := ((HSM.out.ext HE2.out).ext hE3).store hn12 y.tag HTL.out
          rw [← HTG.out] at hrun
          have HS4 := Lib.hid hS4
          have HE4 := Lib.hid (HE3.out.grown hg4 (fun j hj => by injection hj with hj; rw [← hj]; exact HGB.out.1))
          have HB4 := Lib.hid (((HB.out.below HE2.out HB.out.lt).below hE3 (Nat.lt_of_lt_of_le HB.out.lt HE2.out.size_le)).grown hg4 (by simpa using HGB.out.2))
          have HVN : Hid (useS ls [] = useS (ls.drop (q + 1)) (S ++ [y.tag])) := by show _ = _; rw [HDV.out]; rfl
          clear hn12 hS4 hg4 hlk
          go_wp2
          go_roundw
          case rel => exact ⟨q + 1, n + 1, S ++ [y.tag], by omega, by omega, by go_num, HS4, HE4, HB4, HVN⟩
          case measure => simp [intOf]; omega
    · have hi1 : ¬ (q : Int) < (m1 : Int) := by omega
      have HFF : Hid (fv = okAll al) := by
        show _ = _
        rw [HF2.out, HC.out, List.drop_eq_nil_of_le (by have := HL.out; omega)]
        rfl
      have z1 := (show wr.cell? ⟨g0, 1, none⟩ = some (.slice A2 m2 c2) from HB.out.cell 1)
      go_wp2_with (first
        | (go_at_call 70; refine Hid.out ?_))
      refine Hid.mk_ ((cntA_any (h := ⟨A2, m2, c2⟩) (HT.out.al.ext HE.out) (HM.out.ext HE.out)).mono ?_)
      rintro e w3 ⟨rfl, hE3⟩
      go_wp2
      go_ret
      exact ⟨by rw [HFF.out]; simp, HE.out.trans hE3⟩
end
end Go.Proofs.YtdgppdiickmofaaGreatDoor
