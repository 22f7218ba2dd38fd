/- The program's scripts: the tokens. -/
import Derived.Test.YtgnchicipmomlaaGreatDoorPK32
import Derived.Lib.OthersKept
import Derived.Laws.RangeAny
import Derived.WalkMore
namespace Go.Proofs.YtgnchicipmomlaaGreatDoor
open Go.RowKit Go.Maps
set_option maxRecDepth 100000
attribute [local go_sem] ext_refl_t ext_alloc_t ext_drew_t ext_drewN_t ext_alloc2_t ext_alloc3_t ext_alloc4_t ext_alloc5_t ext_alloc6_t ext_alloc7_t ext_alloc8_t ext_alloc1d_t ext_alloc2d_t ext_alloc3d_t ext_alloc4d_t
theorem einfo_tok : EInfo 121 161 3 40 := EInfo.mk_ (z := .agg #[.string ⟨#[]⟩, .string ⟨#[]⟩, .int .i64 0]) Tryz.underlying121 (by kernel_rfl) rfl (by omega) (by omega)
abbrev ToksW (n : Nat) (w : World) (h : SlH) (l : List Tok) : Prop := HW tokC 3 40 (TokG n) w h l
/-- What Tokens gives. -/
def TksR (w w' : World) (n : Nat) (e : Ending) : Prop := ∃ (h : SlH) (at_ er : Int), e = .returned (.tuple #[.slice h.A h.m h.c, .int .i64 at_, .int .i64 er]) ∧ Ext w w' ∧ (er = 0 → ∃ (L : List Tok) (b : Nat), OsC tokC 161 3 w' b h.A h.m h.c L ∧ (∀ t ∈ L, TokG n t) ∧ L.length ≤ n)
section
variable {w : World}
set_option maxHeartbeats 6400000 in
theorem tokens_any {h : SlH} {l : List Sta} (hs : ScrW w h l) (hT : ∀ x ∈ l, LgT x) (s : ByteArray) (hz : s.size ≤ 1000) :
    Calls Tryz.prog 48 #[.slice h.A h.m h.c, .string s] w fun e w' => TksR w w' s.size e := by
  have HS := Lib.hid hs
  have HT := Lib.hid hT
  clear hs hT
  go_enter Tryz.func48, Tryz.ntmps48
  go_wp2_with (first
    | (go_at_call 45; refine Hid.out ?_))
  refine Hid.mk_ ((ValidS_any HS.out HT.out).mono ?_)
  rintro e w1 ⟨⟨ok, rfl, hok⟩, hE1⟩
  cases ok with
  | false =>
    clear hok
    go_wp2
    go_ret3
    exact ⟨⟨none, 0, 0⟩, _, _, rfl, hE1, fun h => absurd h (by decide)⟩
  | true =>
    obtain ⟨hl1, hl20, hl40⟩ := hok rfl
    have H40 := Lib.hid hl40
    clear hok hl40
    go_wp2_with (first
      | (go_at_call 77; refine Hid.out ?_))
    refine Hid.mk_ ((lexerOf_any (HS.out.ext hE1) HT.out hl20 H40.out).mono ?_)
    rintro e w2 ⟨b, rfl, hE2, hlx⟩
    have HLX := Lib.hid hlx
    have hE3 := hE1.trans hE2
    clear hlx
    go_wp2
    go_loopw [4, 5, 8] (fun v4 v5 v8 wr => ∃ (at_ : Nat) (A : Option Addr) (m c : Nat) (L : List Tok) (q : Nat), at_ ≤ s.size ∧ m ≤ at_ ∧ q < l.length ∧ v4 = .slice A m c ∧ v5 = .int .i64 at_ ∧ v8 = .int .i64 q ∧ Hid (Ext w2 wr) ∧ Hid (OsC tokC 161 3 wr w2.heap.size A m c L) ∧ Hid (∀ t ∈ L, TokG s.size t)) (fun _ v5 _ _ => s.size - (intOf v5).toNat)
    case atStart => exact ⟨0, none, 0, 0, [], 0, Nat.zero_le _, Nat.zero_le _, by omega, rfl, rfl, rfl, Ext.refl _, OsC.nil_ tokC_len tokC_cell, fun t ht => by cases ht⟩
    case round =>
      obtain ⟨at_, A, m, c, L, q, hat, hma, hql, rfl, rfl, rfl, HE, HO, HG⟩ := hrel
      by_cases hlt : at_ < s.size
      · have hi1 : (at_ : Int) < (s.size : Int) := by omega
        go_wp2_with (first
          | (go_at_call 78; refine Hid.out ?_))
        refine Hid.mk_ ((step_any ((HS.out.ext hE3).ext HE.out) HT.out (HLX.out.ext HE.out) hql s (by omega) hat).mono ?_)
        rintro e w4 ⟨t, nx, ok, rfl, hE4, hok⟩
        unfold tokV
        have hbk := Blk.new w4 161 #[.string t.kind, .string t.text, .int .i64 (t.at_ : Int)]
        have hEk : Ext w4 (w4.alloc (Obj.cells #[.string t.kind, .string t.text, .int .i64 (t.at_ : Int)] 161)) := (Ext.refl _).alloc _
        cases ok with
        | false =>
          clear hok
          go_wp2
          go_ret3
          exact ⟨⟨none, 0, 0⟩, _, _, rfl, ((hE3.trans HE.out).trans hE4).trans hEk, fun h => absurd h (by decide)⟩
        | true =>
          obtain ⟨htg, ht0, hta, hnx⟩ := hok rfl
          have HTG := Lib.hid htg
          have hts : at_ + t.text.size ≤ s.size := by rw [← hta]; exact htg.2
          clear hok htg hta
          obtain ⟨W5, hW5⟩ : ∃ W5, W5 = w4.alloc (Obj.cells #[.string t.kind, .string t.text, .int .i64 (t.at_ : Int)] 161) := ⟨_, rfl⟩
          go_upto_region 10 with fail
          rw [← hW5] at hbk hEk ⊢
          obtain ⟨gk, hgk⟩ : ∃ gk, gk = w4.heap.size := ⟨_, rfl⟩
          rw [← hgk] at hbk ⊢
          have hgk2 : w4.heap.size ≤ gk := by omega
          clear hW5 hgk
          have k0 := hbk.cell 0
          have k1 := hbk.cell 1
          have k2 := hbk.cell 2
          simp at k0 k1 k2
          have hEa : Ext W5 (W5.alloc (Obj.cells #[.string t.kind, .string t.text, .int .i64 (t.at_ : Int)] 161)) := (Ext.refl _).alloc _
          have hnew := SlC.new_ (cs := tokC) W5 [t] tokC_len (by simp) #[.string t.kind, .string t.text, .int .i64 (t.at_ : Int)] rfl (0, 0) 1 rfl 161
          have hEb := (hE4.trans hEk).trans hEa
          have hO8 := HO.out.ext hEb
          have hs5 := (HE.out.trans hEb).size_le
          go_wp2_with (first
            | (at_builtin; refine Hid.out ?_))
          refine Hid.mk_ ?_
          refine appC einfo_tok rfl _ _ rfl hO8 rfl hnew rfl (by omega) hs5 ?_
          intro A8 m8 c8 w8 ho8 hg8 hn8
          have hbk8 : Blk w8 gk 161 #[.string t.kind, .string t.text, .int .i64 (t.at_ : Int)] := (hbk.below hEa hbk.lt).grown hg8 (fun e => by
            have h1 := HO.out.lt gk e.symm
            have h2 := hE4.size_le
            omega)
          have l1 := hbk8.cell 1
          simp at l1
          have HM8 : Hid (m8 ≤ m + 1) := by show m8 ≤ m + 1; rw [ho8.len, List.length_append, ← hO8.len]; exact Nat.le_refl _
          have HO8 := Lib.hid ho8
          have HE8 : Hid (Ext w2 w8) := (HE.out.trans hEb).grown hg8 (fun j hj => HO.out.ge j hj)
          have HG8 : Hid (∀ z ∈ L ++ [t], TokG s.size z) := fun z hz => by
            rcases List.mem_append.1 hz with hz | hz
            · exact HG.out z hz
            · rw [List.mem_singleton] at hz; rw [hz]; exact HTG.out
          clear ho8 hg8 hn8 hbk8 hO8 hnew hEa hEb hs5 hbk hEk k0 k1 k2
          go_wp2
          all_goals first
            | (go_ret; exact ⟨rfl, hb2, hE, hf1⟩)
            | (refine ⟨⟨at_ + t.text.size, A8, m8, c8, _, nx, by omega, by have := HM8.out; omega, hnx, rfl, by go_num, rfl, HE8, HO8, HG8⟩, ?_⟩; first | (simp [intOf]; omega) | (simp [intOf]) | omega)
            | (go_roundw; (case rel => exact ⟨at_ + t.text.size, A8, m8, c8, _, nx, by omega, by have := HM8.out; omega, hnx, rfl, by go_num, rfl, HE8, HO8, HG8⟩); (case measure => first | (simp [intOf]; omega) | (simp [intOf])))
      · have hi1 : ¬ (at_ : Int) < (s.size : Int) := by omega
        go_wp2
        go_ret3
        exact ⟨⟨A, m, c⟩, _, _, rfl, hE3.trans HE.out, fun _ => ⟨L, _, HO.out, HG.out, by rw [← HO.out.len]; omega⟩⟩
end
end Go.Proofs.YtgnchicipmomlaaGreatDoor

/- The program's extract: small functions. -/
namespace Go.Proofs.YtgnchicipmomlaaGreatDoor
open Go.RowKit Go.Maps
set_option maxRecDepth 100000
attribute [local go_sem] ext_refl_t ext_alloc_t ext_drew_t ext_drewN_t ext_alloc2_t ext_alloc3_t ext_alloc4_t ext_alloc5_t ext_alloc6_t ext_alloc7_t ext_alloc8_t ext_alloc1d_t ext_alloc2d_t ext_alloc3d_t ext_alloc4d_t
/-- A string and a bool. -/
def StrB (n : Nat) (e : Ending) : Prop := ∃ (s : ByteArray) (b : Bool), e = .returned (.tuple #[.string s, .bool b]) ∧ s.size ≤ n
section
variable {w : World}
set_option maxHeartbeats 1600000 in
theorem blank_any (t : Tok) :
    Calls Tryz.prog 82 #[tokV t] w fun e w' => RetB (fun _ => True) e ∧ Ext w w' := by
  unfold tokV
  go_enter Tryz.func82, Tryz.ntmps82
  go_wp2
  all_goals go_ret
  all_goals exact ⟨⟨_, rfl, trivial⟩, (Ext.refl w).alloc _⟩

set_option maxHeartbeats 6400000 in
theorem ValidE_any {h : SlH} {l : List Cll} (hs : CllsW w h l) (h45 : l.length ≤ 45) :
    Calls Tryz.prog 46 #[.slice h.A h.m h.c] w fun e w' => RetB (fun _ => True) e ∧ Ext w w' := by
  obtain ⟨A, m, c⟩ := h
  have HL := Lib.hid hs.sl.len
  have hle := hs.sl.le
  have HG := Lib.hid hs.good
  dsimp only at HL hle ⊢
  have hs := hs.sl
  have hm45 : m ≤ 45 := by rw [HL.out]; exact h45
  clear h45
  have hmm := @run_makeMap Tryz.prog
  have hm0 := SMN.made w
  have hEm : Ext w (w.alloc (.map #[] 0)) := (Ext.refl _).alloc _
  go_enter Tryz.func46, Tryz.ntmps46
  go_wp2
  obtain ⟨W4, hW4⟩ : ∃ W4, W4 = w.alloc (.map #[] 0) := ⟨_, rfl⟩
  rw [← hW4] at hm0 hEm ⊢
  obtain ⟨bm, hbm⟩ : ∃ bm, bm = w.heap.size := ⟨_, rfl⟩
  rw [← hbm] at hm0 ⊢
  have HBM : Hid (∀ k, some bm = some k → w.heap.size ≤ k) := fun k hk => by injection hk with hk; omega
  clear hmm hW4 hbm
  go_loopw [9] (fun i wr => ∃ q : Nat, q ≤ m ∧ i = .int .i64 q ∧ Ext w wr ∧ Hid (SMN wr bm q)) (fun i _ => m - (intOf i).toNat)
  case atStart => exact ⟨0, Nat.zero_le _, rfl, hEm, hm0⟩
  case round =>
    obtain ⟨q, hq, rfl, hE, HS⟩ := hrel
    by_cases hlt : q < m
    · obtain ⟨b, off, e0, hbl, hcs⟩ := (hs.ext hE).at_ hlt (by omega)
      subst e0
      have hlt1 : q < l.length := by rw [← HL.out]; exact hlt
      have hgs := HG.out _ (List.getElem_mem hlt1)
      obtain ⟨⟨nm, id, src⟩, hyq⟩ : ∃ y, y = l[q] := ⟨_, rfl⟩
      have y0 := hcs q hlt1 0 (by omega)
      have y1 := hcs q hlt1 1 (by omega)
      have y2 := hcs q hlt1 2 (by omega)
      rw [← hyq] at hgs
      unfold CllG GoodStr I64 at hgs
      dsimp only at hgs
      obtain ⟨hg1, hg2, hg3⟩ := hgs
      simp only [← hyq, cllC, List.getElem_cons_zero, List.getElem_cons_succ, Nat.add_zero, ← Nat.add_assoc] at y0 y1 y2
      have hi1 : (q : Int) < (m : Int) := by omega
      clear hcs hyq
      have hbi := Blk.new wr 87 #[.string nm, .int .i64 id, .int .i64 src]
      have hEx : Ext wr (wr.alloc (Obj.cells #[.string nm, .int .i64 id, .int .i64 src] 87)) := (Ext.refl _).alloc _
      have HS2 := Lib.hid (HS.out.ext hEx)
      obtain ⟨r2, hr2⟩ := HS2.out.look nm (by omega)
      obtain ⟨w3, hst, hS3, hg3'⟩ := HS2.out.store (by omega) nm (by omega)
      have HS3 := Lib.hid hS3
      have hE4 := hE.trans hEx
      have HE5 := Lib.hid (hE4.grown hg3' HBM.out)
      clear hS3 hg3'
      cases r2 with
      | true =>
        by_cases ht : nm.size = 0
        · have hte := tl_empty ht
          go_wp2
          go_ret
          exact ⟨⟨_, rfl, trivial⟩, hE4⟩
        · have hte := tl_full ht
          go_wp2
          go_ret
          exact ⟨⟨_, rfl, trivial⟩, hE4⟩
      | false =>
        by_cases ht : nm.size = 0
        · have hte := tl_empty ht
          go_wp2
          go_ret
          exact ⟨⟨_, rfl, trivial⟩, hE4⟩
        · have hte := tl_full ht
          clear ht
          by_cases hb : id < -1 ∨ 9 < id ∨ src < -1 ∨ 9 < src
          · rcases hb with hb | hb | hb | hb
            all_goals
              go_wp2
              all_goals go_ret
              all_goals exact ⟨⟨_, rfl, trivial⟩, hE4⟩
          · have b1 : ¬ id < -1 := by omega
            have b2 : ¬ 9 < id := by omega
            have b3 : ¬ src < -1 := by omega
            have b4 : ¬ 9 < src := by omega
            clear hb
            by_cases hi : id = -1
            · have c1 : (id == -1) = true := by simp [hi]
              by_cases hj : src = -1
              · have c2 : (src == -1) = true := by simp [hj]
                clear hi hj
                go_wp2
                go_ret
                exact ⟨⟨_, rfl, trivial⟩, hE4⟩
              · have c2 : (src == -1) = false := by simp [hj]
                clear hi hj
                go_wp2
                all_goals first
                  | (go_ret; exact ⟨⟨_, rfl, by first | (intro h; cases h; done) | (intro h; simp at h; omega) | (intro h; omega) | omega⟩, hE⟩)
                  | (refine ⟨⟨q + 1, by omega, by go_num, HE5.out, HS3⟩, ?_⟩; first | (simp [intOf]; omega) | (simp [intOf]) | omega)
                  | (go_roundw; (case rel => exact ⟨q + 1, by omega, by go_num, HE5.out, HS3⟩); (case measure => first | (simp [intOf]; omega) | (simp [intOf])))
            · have c1 : (id == -1) = false := by simp [hi]
              clear hi
              go_wp2
              all_goals first
                | (go_ret; exact ⟨⟨_, rfl, by first | (intro h; cases h; done) | (intro h; simp at h; omega) | (intro h; omega) | omega⟩, hE⟩)
                | (refine ⟨⟨q + 1, by omega, by go_num, HE5.out, HS3⟩, ?_⟩; first | (simp [intOf]; omega) | (simp [intOf]) | omega)
                | (go_roundw; (case rel => exact ⟨q + 1, by omega, by go_num, HE5.out, HS3⟩); (case measure => first | (simp [intOf]; omega) | (simp [intOf])))
    · have hi1 : ¬ (q : Int) < (m : Int) := by omega
      go_wp2
      go_ret
      exact ⟨⟨_, rfl, trivial⟩, hE⟩
end
end Go.Proofs.YtgnchicipmomlaaGreatDoor

/- strings.ContainsAny at two bytes, for any text; the names of files. -/
namespace Go.Proofs.YtgnchicipmomlaaGreatDoor
open Go.RowKit Go.Maps
set_option maxRecDepth 100000
attribute [local go_sem] ext_refl_t ext_alloc_t ext_drew_t ext_drewN_t ext_alloc2_t ext_alloc3_t ext_alloc4_t ext_alloc5_t ext_alloc6_t ext_alloc7_t ext_alloc8_t ext_alloc1d_t ext_alloc2d_t ext_alloc3d_t ext_alloc4d_t
theorem dec_facts (s : ByteArray) (pos : Nat) (h : pos < s.size) : 0 ≤ (Utf8.decode s pos).1 ∧ (Utf8.decode s pos).1 ≤ 2147483647 ∧ 1 ≤ (Utf8.decode s pos).2 := by
  by_cases ha : (s[pos]'h).toNat < 128
  · rw [decode_ascii s pos h ha]
    dsimp only
    omega
  · have h1 := decode_high s pos h (by omega)
    exact ⟨by omega, decode_le s pos, h1.2⟩
theorem iterAt_ext {w0 w : World} (hE : Ext w0 w) {k : Nat} (hk : w0.heap.size ≤ k) (s : ByteArray) (p : Nat) : Ext w0 (w.iterAt k s p) := by
  refine ⟨hE.os, hE.tape, hE.output, ?_, fun j hj => ?_⟩
  · show _ ≤ (w.heap.setIfInBounds k _).size
    rw [Array.size_setIfInBounds]
    exact hE.size
  · show (w.heap.setIfInBounds k _)[j]? = _
    rw [Array.getElem?_setIfInBounds, if_neg (by omega)]
    exact hE.block j hj
section
open Go.Lib
variable {w : World}
set_option maxHeartbeats 1600000 in
theorem validRune_any (r : Int) (h0 : -2147483648 ≤ r) (h1 : r ≤ 2147483647) :
    Calls Tryz.prog 153 #[.int .i32 r] w fun e w' => RetB (fun v => v = true → Utf8.valid r = true) e ∧ Ext w w' := by
  by_cases ha : 0 ≤ r
  · by_cases hb : r < 55296
    · go_enter Tryz.func153, Tryz.ntmps153
      go_wp2
      go_ret
      exact ⟨⟨true, rfl, fun _ => by unfold Utf8.valid; simp; omega⟩, Ext.refl _⟩
    · by_cases hc : 57343 < r
      · by_cases hd : r ≤ 1114111
        · go_enter Tryz.func153, Tryz.ntmps153
          go_wp2
          go_ret
          exact ⟨⟨true, rfl, fun _ => by unfold Utf8.valid; simp; omega⟩, Ext.refl _⟩
        · go_enter Tryz.func153, Tryz.ntmps153
          go_wp2
          go_ret
          exact ⟨⟨false, rfl, fun h => by cases h⟩, Ext.refl _⟩
      · go_enter Tryz.func153, Tryz.ntmps153
        go_wp2
        go_ret
        exact ⟨⟨false, rfl, fun h => by cases h⟩, Ext.refl _⟩
  · by_cases hc : 57343 < r
    · omega
    · go_enter Tryz.func153, Tryz.ntmps153
      go_wp2
      go_ret
      exact ⟨⟨false, rfl, fun h => by cases h⟩, Ext.refl _⟩
def RetZ1 (e : Ending) : Prop := ∃ z, e = .returned (.int .i64 z) ∧ -1 ≤ z ∧ z ≤ 140737488355328
set_option maxHeartbeats 6400000 in
theorem indexRune_any (r : Int) (h0 : 0 ≤ r) (h1 : r ≤ 2147483647) :
    Calls Tryz.prog 130 #[.string ⟨#[32, 10]⟩, .int .i32 r] w fun e w' => RetZ1 e ∧ Ext w w' := by
  by_cases ha : r < 128
  · obtain ⟨n, rfl⟩ : ∃ n : Nat, r = n := ⟨r.toNat, by omega⟩
    go_enter Tryz.func130, Tryz.ntmps130
    go_wp2_with (first
      | (go_at_call 122; refine Hid.out ?_))
    refine Hid.mk_ ((indexByteT_any ⟨#[32, 10]⟩ n).mono ?_)
    rintro e w2 ⟨⟨z, rfl, hz⟩, hE2⟩
    have hz2 : -1 ≤ z ∧ z < 140737488355328 := by
      rcases hz with hz | hz
      · exact hz
      · exact absurd hz (by decide)
    clear hz
    go_wp2
    go_ret
    exact ⟨⟨z, rfl, by omega, by omega⟩, hE2⟩
  · have ha' : ¬ r < 128 := ha
    by_cases hb : r = 65533
    · subst hb
      go_enter Tryz.func130, Tryz.ntmps130
      go_wp2
      go_loopg [5, 6] 2 (fun g _ _ wx => ∃ i : Nat, i + g = 2 ∧ wx = w.iter ⟨#[32, 10]⟩ i)
      case atStart => exact ⟨0, rfl, rfl⟩
      case round =>
        obtain ⟨i, hig, rfl⟩ := hrel
        cases gk with
        | zero =>
          obtain rfl : i = 2 := by omega
          have hnx := fun ty => run_next_end (P := Tryz.prog) w ⟨#[32, 10]⟩ 2 ty (by decide)
          go_wp2
          go_ret
          exact ⟨⟨_, rfl, by omega, by omega⟩, (Ext.refl w).alloc _⟩
        | succ g =>
          have hi : i = 0 ∨ i = 1 := by omega
          rcases hi with rfl | rfl
          · have hnx := fun ty => run_next_ascii (P := Tryz.prog) w ⟨#[32, 10]⟩ 0 ty (by decide) (by decide)
            go_wp2
            go_roundg g
            case measure => omega
            case rel => exact ⟨1, by omega, rfl⟩
          · have hnx := fun ty => run_next_ascii (P := Tryz.prog) w ⟨#[32, 10]⟩ 1 ty (by decide) (by decide)
            go_wp2
            go_roundg g
            case measure => omega
            case rel => exact ⟨2, by omega, rfl⟩
    · have b1 : (r == 65533) = false := by simp [hb]
      go_enter Tryz.func130, Tryz.ntmps130
      go_wp2_with (first
        | (go_at_call 153; refine Hid.out ?_))
      refine Hid.mk_ ((validRune_any r (by omega) h1).mono ?_)
      rintro e w2 ⟨⟨v, rfl, hv⟩, hE2⟩
      cases v with
      | false =>
        clear hv
        go_wp2
        go_ret
        exact ⟨⟨_, rfl, by omega, by omega⟩, hE2⟩
      | true =>
        have hef := encode_facts r (hv rfl) (by omega)
        obtain ⟨es, hes⟩ : ∃ es, es = Utf8.encode r := ⟨_, rfl⟩
        rw [← hes] at hef
        obtain ⟨e1, e2, e3⟩ := hef
        clear hv
        go_wp2
        go_step3
        go_upto_region 2 with fail
        rw [← hes]
        clear hes
        by_cases hs2 : es.size = 2
        · obtain ⟨y, hy⟩ : ∃ y : Nat, (es[1]'(by omega)).toNat = y := ⟨_, rfl⟩
          have hy128 : 128 ≤ y := by
            have h9 := e3 (by omega)
            simp only [hs2] at h9
            rw [← hy]
            exact h9
          have c1 : ((10 : Int) != (y : Int)) = true := by simp; omega
          have c3 : ((((⟨#[32, 10]⟩ : ByteArray)[1]'(by decide)).toNat : Int) != (y : Int)) = true := c1
          clear c1
          have hi1 : (1 : Int) < (es.size : Int) := by omega
          have hi2 : 1 < es.size := by omega
          have hIB : Hid (∀ W, Calls Tryz.prog 122 #[.string ((⟨#[32, 10]⟩ : ByteArray).extract 2 2), .int .u8 (y : Int)] W fun e w' => e = .returned (.int .i64 (-1)) ∧ Ext W w') := fun W => by
            have h := Go.Proofs.Any.strings_IndexByte Tryz.laysIB ((⟨#[32, 10]⟩ : ByteArray).extract 2 2) (y : Int) W
            change Calls Tryz.prog 122 _ _ _ at h
            exact h.mono fun e w' ⟨he, hw⟩ => ⟨he, by rw [hw]; exact Ext.refl _⟩
          clear e3
          go_upto_region 5 with fail
          go_loopw [9, 10] (fun v9 v10 wr => v9 = .int .i64 1 ∧ v10 = .int .i64 0 ∧ Ext w2 wr) (fun _ _ _ => 0)
          case atStart => exact ⟨rfl, rfl, Ext.refl _⟩
          case round =>
            obtain ⟨rfl, rfl, hE3⟩ := hrel
            go_wp2
            repeat (first | refine wp_scope_straight ?_ | refine wp_seq ?_)
            refine wp_region_ext_lit (by kernel_rfl) (by kernel_rfl) ?_
            try dsimp only [List.append]
            repeat (go_big_quiet_step (fail))
            refine wpQuiet_nil ?_
            rintro w5 ⟨⟨_, h5⟩, rfl⟩
            try dsimp only
            simp only [Exit.then]
            go_wp2
            repeat (first | refine wp_scope_straight ?_ | refine wp_seq ?_)
            refine wp_region_ext_lit (by kernel_rfl) (by kernel_rfl) ?_
            try dsimp only [List.append]
            repeat (go_big_quiet_step ((go_at_call 122; exact Calls.quiet_ext (hIB.out _))))
            refine wpQuiet_nil ?_
            rintro w6 ⟨⟨_, h6⟩, rfl⟩
            try dsimp only
            go_wp2
            go_simp
            go_wp2
            go_simp
            go_wp2
            go_ret
            exact ⟨⟨_, rfl, by omega, by omega⟩, hE2.trans ((hE3.trans h5).trans h6)⟩
        · have hs3 : 2 ≤ es.size - 1 := by omega
          obtain ⟨la, hla⟩ : ∃ la, es.size = la + 1 := ⟨es.size - 1, by omega⟩
          have hl2 : 2 ≤ la := by omega
          clear e3
          go_upto_region 5 with fail
          go_loopw [9, 10] (fun v9 v10 wr => v9 = .int .i64 (la : Int) ∧ v10 = .int .i64 0 ∧ Ext w2 wr) (fun _ _ _ => 0)
          case atStart => exact ⟨by first | rfl | go_num, rfl, Ext.refl _⟩
          case round =>
            obtain ⟨rfl, rfl, hE3⟩ := hrel
            have hi1 : ¬ (la : Int) < 2 := by omega
            go_wp2
            first
            | go_ret
            | (simp only [Exit.noGoto]; go_ret)
            exact ⟨⟨_, rfl, by omega, by omega⟩, hE2.trans hE3⟩
set_option maxHeartbeats 6400000 in
theorem indexAnyS_any (s : ByteArray) (hs : s.size ≤ 4000000) :
    Calls Tryz.prog 109 #[.string s, .string ⟨#[32, 10]⟩] w fun e w' => RetZs (fun _ => True) e ∧ Ext w w' := by
  by_cases h8 : 8 < s.size
  · have h116 : (Tryz.prog.info? (Tryz.laysCA_ren.t 116)).map (fun i => (i.zero, i.size)) = some (some (.agg (Array.replicate 256 (.bool false))), 256) := by kernel_rfl
    have h := Any.strings_IndexAny_long (P := Tryz.prog) (ρ := Tryz.laysCA_ren) { Tryz.laysCA with } (zero_of_info h116).1 (zero_of_info h116).2 s ⟨#[32, 10]⟩ w (by decide) h8 (by omega) (by decide) (by
      intro j b hb
      match j, hb with
      | 0, hb => injection hb with hb; subst hb; decide
      | 1, hb => injection hb with hb; subst hb; decide
      | j + 2, hb => simp at hb)
    change Calls Tryz.prog 109 _ _ _ at h
    refine h.mono fun e w' ⟨he, hw⟩ => ⟨⟨_, he, trivial⟩, ?_⟩
    rw [hw]
    exact ((Ext.refl w).alloc _).alloc _
  · have h8' : (s.size : Int) ≤ 8 := by omega
    have hnx := fun (W : World) (pos : Nat) ty (hk : W.heap[w.heap.size]? = some (.stringIter s pos)) (h : pos < s.size) => run_next_any_at (P := Tryz.prog) W w.heap.size s pos ty hk h
    have hne := fun (W : World) (pos : Nat) ty (hk : W.heap[w.heap.size]? = some (.stringIter s pos)) (h : ¬ pos < s.size) => run_next_end_at (P := Tryz.prog) W w.heap.size s pos ty hk h
    have HNX := Lib.hid hnx
    have HNE := Lib.hid hne
    clear hnx hne
    go_enter Tryz.func109, Tryz.ntmps109
    go_wp2
    obtain ⟨k, hk⟩ : ∃ k, k = w.heap.size := ⟨_, rfl⟩
    obtain ⟨W0, hW0⟩ : ∃ W0, W0 = w.iter s 0 := ⟨_, rfl⟩
    have hk0 : W0.heap[k]? = some (.stringIter s 0) := by rw [hW0, hk]; exact World.iter_heap _ _ _
    have hE0 : Ext w W0 := by rw [hW0]; exact (Ext.refl w).alloc _
    have hkle : w.heap.size ≤ k := by omega
    rw [← hk] at HNX HNE
    rw [← hW0, ← hk]
    clear hW0 hk
    go_loopg [9, 10] s.size (fun g _ _ wr => ∃ i : Nat, s.size ≤ i + g ∧ Ext w wr ∧ wr.heap[k]? = some (.stringIter s i))
    case atStart => exact ⟨0, by omega, hE0, hk0⟩
    case round =>
      obtain ⟨i, hig, hE, hki⟩ := hrel
      by_cases hlt : i < s.size
      · cases gk with
        | zero => omega
        | succ g =>
          have hnx := fun ty => HNX.out wr i ty hki hlt
          obtain ⟨hd0, hd1, hd2⟩ := dec_facts s i hlt
          generalize Utf8.decode s i = d at hnx hd0 hd1 hd2
          obtain ⟨r, n⟩ := d
          dsimp only at hnx hd0 hd1 hd2
          have hE2 := iterAt_ext hE hkle s (i + n)
          have hk2 : (wr.iterAt k s (i + n)).heap[k]? = some (.stringIter s (i + n)) := by
            have hlt : k < wr.heap.size := (Array.getElem?_eq_some_iff.1 hki).1
            show (wr.heap.setIfInBounds k _)[k]? = _
            rw [Array.getElem?_setIfInBounds, if_pos rfl, if_pos hlt]
          go_wp2_with (first
            | (go_at_call 130; refine Hid.out ?_))
          refine Hid.mk_ ((indexRune_any r (by omega) (by omega)).mono ?_)
          rintro e w3 ⟨⟨z, rfl, hz1, hz2⟩, hE3⟩
          go_wp2
          all_goals first
            | (go_ret; exact ⟨⟨_, rfl, trivial⟩, hE2.trans hE3⟩)
            | (go_roundg g; (case measure => omega); (case rel => exact ⟨i + n, by omega, hE2.trans hE3, by rw [hE3.block k (Array.getElem?_eq_some_iff.1 hk2).1]; exact hk2⟩))
      · have hne := fun ty => HNE.out wr i ty hki hlt
        go_wp2
        go_ret
        exact ⟨⟨_, rfl, trivial⟩, hE⟩
theorem containsAnyS_any (s : ByteArray) (hs : s.size ≤ 4000000) :
    Calls Tryz.prog 76 #[.string s, .string ⟨#[32, 10]⟩] w fun e w' => RetB (fun _ => True) e ∧ Ext w w' := by
  go_enter Tryz.func76, Tryz.ntmps76
  go_wp2_with (first
    | (go_at_call 109; refine Hid.out ?_))
  refine Hid.mk_ ((indexAnyS_any s hs).mono ?_)
  rintro e w2 ⟨⟨z, rfl, -⟩, hE2⟩
  go_wp2
  go_ret
  exact ⟨⟨_, rfl, trivial⟩, hE2⟩
end
section
variable {w : World}
set_option maxHeartbeats 6400000 in
theorem named_any {h : SlH} {l : List (ByteArray × ByteArray)} (hs : FilsW w h l) (h6 : l.length ≤ 6) (hb : ∀ x ∈ l, x.1.size ≤ 200) :
    Calls Tryz.prog 47 #[.slice h.A h.m h.c] w fun e w' => RetB (fun _ => True) e ∧ Ext w w' := by
  obtain ⟨A, m, c⟩ := h
  have HL := Lib.hid hs.sl.len
  have hle := hs.sl.le
  have HB := Lib.hid hb
  dsimp only at HL hle ⊢
  have hs := hs.sl
  have hm6 : m ≤ 6 := by rw [HL.out]; exact h6
  clear h6 hb
  have hmm := @run_makeMap Tryz.prog
  have hm0 := SMN.made w
  have hEm : Ext w (w.alloc (.map #[] 0)) := (Ext.refl _).alloc _
  go_enter Tryz.func47, Tryz.ntmps47
  go_wp2
  obtain ⟨W4, hW4⟩ : ∃ W4, W4 = w.alloc (.map #[] 0) := ⟨_, rfl⟩
  rw [← hW4] at hm0 hEm ⊢
  obtain ⟨bm, hbm⟩ : ∃ bm, bm = w.heap.size := ⟨_, rfl⟩
  rw [← hbm] at hm0 ⊢
  have HBM : Hid (∀ k, some bm = some k → w.heap.size ≤ k) := fun k hk => by injection hk with hk; omega
  clear hmm hW4 hbm
  go_loopw [9] (fun i wr => ∃ q : Nat, q ≤ m ∧ i = .int .i64 q ∧ Ext w wr ∧ Hid (SMN wr bm q)) (fun i _ => m - (RowKit.intOf i).toNat)
  case atStart => exact ⟨0, Nat.zero_le _, rfl, hEm, hm0⟩
  case round =>
    obtain ⟨q, hq, rfl, hE, HS⟩ := hrel
    by_cases hlt : q < m
    · obtain ⟨b, off, e0, hbl, hcs⟩ := (hs.ext hE).at_ hlt (by omega)
      subst e0
      have hlt1 : q < l.length := by rw [← HL.out]; exact hlt
      have hgs := HB.out _ (List.getElem_mem hlt1)
      obtain ⟨⟨nm, tx⟩, hyq⟩ : ∃ y, y = l[q] := ⟨_, rfl⟩
      have y0 := hcs q hlt1 0 (by omega)
      have y1 := hcs q hlt1 1 (by omega)
      rw [← hyq] at hgs
      dsimp only at hgs
      simp only [← hyq, filC, List.getElem_cons_zero, List.getElem_cons_succ, Nat.add_zero, ← Nat.add_assoc] at y0 y1
      have hi1 : (q : Int) < (m : Int) := by omega
      clear hcs hyq
      have hbi := Blk.new wr 89 #[.string nm, .string tx]
      have hEx : Ext wr (wr.alloc (Obj.cells #[.string nm, .string tx] 89)) := (Ext.refl _).alloc _
      have HS2 := Lib.hid (HS.out.ext hEx)
      obtain ⟨r2, hr2⟩ := HS2.out.look nm (by omega)
      have hE4 := hE.trans hEx
      by_cases ht : nm.size = 0
      · have hte := tl_empty ht
        go_wp2
        go_ret
        exact ⟨⟨_, rfl, trivial⟩, hE4⟩
      · have hte := tl_full ht
        clear ht
        by_cases h100 : 100 < nm.size
        · have h100' : (100 : Int) < (nm.size : Int) := by omega
          go_wp2
          go_ret
          exact ⟨⟨_, rfl, trivial⟩, hE4⟩
        · have h100' : ¬ (100 : Int) < (nm.size : Int) := by omega
          clear h100
          cases r2 with
          | true =>
            go_wp2
            go_ret
            exact ⟨⟨_, rfl, trivial⟩, hE4⟩
          | false =>
            go_wp2_with (first
              | (go_at_call 76; refine Hid.out ?_))
            refine Hid.mk_ ((containsAnyS_any nm (by omega)).mono ?_)
            rintro e w5 ⟨⟨r, rfl, -⟩, hE5⟩
            have HS5 := Lib.hid (HS2.out.ext hE5)
            obtain ⟨w3, hst, hS3, hg3'⟩ := HS5.out.store (by omega) nm (by omega)
            have HS3 := Lib.hid hS3
            have hE6 := hE4.trans hE5
            have HE5 := Lib.hid (hE6.grown hg3' HBM.out)
            have hbi5 : Blk w5 wr.heap.size 89 #[.string nm, .string tx] := (hE5.block _ (Array.getElem?_eq_some_iff.1 hbi).1).trans hbi
            have hc5 : w5.cell? ⟨wr.heap.size, 0, none⟩ = some (.string nm) := by rw [Blk.cell hbi5 0]; rfl
            clear hS3 hg3' hbi hbi5
            go_wp2
            all_goals first
              | (go_ret; exact ⟨⟨_, rfl, trivial⟩, hE6⟩)
              | (refine ⟨⟨q + 1, by omega, by go_num, HE5.out, HS3⟩, ?_⟩; first | (simp [intOf]; omega) | (simp [intOf]) | omega)
              | (go_roundw; (case rel => exact ⟨q + 1, by omega, by go_num, HE5.out, HS3⟩); (case measure => first | (simp [intOf]; omega) | (simp [intOf])))
    · have hi1 : ¬ (q : Int) < (m : Int) := by omega
      go_wp2
      go_ret
      exact ⟨⟨_, rfl, trivial⟩, hE⟩
end
end Go.Proofs.YtgnchicipmomlaaGreatDoor

/- The program's extract: a literal, a value, a comment. -/
namespace Go.Proofs.YtgnchicipmomlaaGreatDoor
open Go.RowKit Go.Maps
set_option maxRecDepth 100000
attribute [local go_sem] ext_refl_t ext_alloc_t ext_drew_t ext_drewN_t ext_alloc2_t ext_alloc3_t ext_alloc4_t ext_alloc5_t ext_alloc6_t ext_alloc7_t ext_alloc8_t ext_alloc1d_t ext_alloc2d_t ext_alloc3d_t ext_alloc4d_t
/-- Tokens that are small. -/
abbrev ToksS (w : World) (h : SlH) (l : List Tok) : Prop := ToksW 1000 w h l ∧ l.length ≤ 1000
section
variable {w : World}
set_option maxHeartbeats 6400000 in
theorem Literal_any {h : SlH} {l : List Tok} (hs : ToksS w h l) :
    Calls Tryz.prog 114 #[.slice h.A h.m h.c] w fun e w' => StrB 1000000 e ∧ Ext w w' := by
  obtain ⟨A, m, c⟩ := h
  have HL := Lib.hid hs.1.sl.len
  have hle := hs.1.sl.le
  have hcap := hs.1.cap
  have hl1000 := hs.2
  have HG := Lib.hid hs.1.good
  have hs := hs.1.sl
  dsimp only at HL hle hcap hs ⊢
  have hm1000 : m ≤ 1000 := by rw [HL.out]; exact hl1000
  clear hl1000
  by_cases h2 : m < 2
  · have hi : (m : Int) < 2 := by omega
    go_enter Tryz.func114, Tryz.ntmps114
    go_wp2
    go_ret2
    exact ⟨⟨_, _, rfl, by decide⟩, Ext.refl _⟩
  · have hi : ¬ (m : Int) < 2 := by omega
    obtain ⟨n, rfl⟩ : ∃ n, m = n + 1 := ⟨m - 1, by omega⟩
    obtain ⟨b, off, e0, hbl, hcs⟩ := hs.at_ (i := 0) (by omega) (by omega)
    subst e0
    have hl0 : 0 < l.length := by rw [← HL.out]; omega
    have hln : n < l.length := by rw [← HL.out]; omega
    have x0 := hcs 0 hl0 0 (by omega)
    have z0 := hcs n hln 0 (by omega)
    obtain ⟨⟨kd0, tx0, an0⟩, hy0⟩ : ∃ y, y = l[0] := ⟨_, rfl⟩
    obtain ⟨⟨kdn, txn, ann⟩, hyn⟩ : ∃ y, y = l[n] := ⟨_, rfl⟩
    simp only [← hy0, ← hyn, tokC, List.getElem_cons_zero, Nat.add_zero, Nat.zero_mul] at x0 z0
    clear hcs hy0 hyn
    have hi0 : (0 : Int) < (n : Int) + 1 := by omega
    have hcut := ((cut_runC einfo_tok (A := some ⟨b, off, none⟩) (m := n + 1) (c := c)).2.2 · .i64 .i64 1 n (by omega) (by omega))
    have hs2 := (hs.cut (i := 1) (by omega) hcap).take_ (i := n - 1) (by omega)
    rw [cutA_lt (by omega), Nat.one_mul] at hs2
    have hn1000 : n - 1 ≤ 1000 := by omega
    obtain ⟨L, hLL⟩ : ∃ L, L = List.take (n - 1) (List.drop 1 l) := ⟨_, rfl⟩
    have HG : Hid (∀ t ∈ L, TokG 1000 t) := fun t ht => by rw [hLL] at ht; exact HG.out t (List.mem_of_mem_drop (List.mem_of_mem_take ht))
    rw [← hLL] at hs2
    clear hcut hLL
    go_enter Tryz.func114, Tryz.ntmps114
    go_wp2
    all_goals first
      | (go_ret2; exact ⟨⟨_, _, rfl, by decide⟩, Ext.refl _⟩)
      | skip
    generalize hD : (some (⟨b, off + 3, none⟩ : Addr)) = D at hs2 ⊢
    generalize hM : n - 1 = M at hs2 hn1000 ⊢
    have HH := Lib.hid hs2
    have HL2 := Lib.hid hs2.len
    clear hD hM hs2
    have hB0 := BuN.new w
    obtain ⟨W0, hW0⟩ : ∃ W0, W0 = w.alloc (.cells #[.pointer none, .slice none 0 0] 185) := ⟨_, rfl⟩
    have hE0 : Ext w W0 := by rw [hW0]; exact (Ext.refl w).alloc _
    obtain ⟨g, hg⟩ : ∃ g, g = w.heap.size := ⟨_, rfl⟩
    rw [← hW0, ← hg] at hB0
    rw [← hW0, ← hg]
    have hB0 : BuN W0 w.heap.size g 0 := by rw [hg] at hB0 ⊢; exact hB0
    clear hW0 hg x0 z0 HL hs hcap hle hm1000 h2 hi hi0 hl0 hln
    go_loopw [33] (fun i wr => ∃ q : Nat, q ≤ M ∧ i = .int .i64 q ∧ Ext w wr ∧ Hid (BuN wr w.heap.size g (q * 1000))) (fun i _ => M - (intOf i).toNat)
    case atStart => exact ⟨0, Nat.zero_le _, rfl, hE0, hB0⟩
    case round =>
      obtain ⟨q, hq, rfl, hE, HB⟩ := hrel
      have HL := HL2
      by_cases hlt : q < M
      ·
        obtain ⟨b, off, e0, hbl, hcs⟩ := (HH.out.ext hE).at_ hlt (by omega)
        try dsimp only at e0
        have hlt1 : q < (L).length := by rw [← HL.out]; exact hlt
        have HTG := Lib.hid (HG.out _ (List.getElem_mem hlt1))
        obtain ⟨⟨kd, tx, an⟩, hyq⟩ : ∃ y, y = (L)[q] := ⟨_, rfl⟩
        have y0 := hcs q hlt1 0 (by omega)
        have y1 := hcs q hlt1 1 (by omega)
        have y2 := hcs q hlt1 2 (by omega)
        rw [← hyq] at HTG
        simp only [← hyq, tokC, List.getElem_cons_zero, List.getElem_cons_succ, Nat.add_zero, ← Nat.add_assoc] at y0 y1 y2
        clear hcs hyq
        subst e0
        have hi1 : (q : Int) < (M : Int) := by omega
        have htx : tx.size ≤ 1000 := by have := HTG.out.2; dsimp only at this; omega
        have hEx : Ext wr (wr.alloc (Obj.cells #[.string kd, .string tx, .int .i64 (an : Int)] 161)) := (Ext.refl _).alloc _
        have HB2 := Lib.hid (HB.out.ext hEx)
        have hE2 := hE.trans hEx
        by_cases ht : tx.size = 0
        · have hte := tl_empty ht
          go_wp2_with (first
            | (go_at_call 105; refine Hid.out ?_)
            | (go_at_call 106; refine Hid.out ?_))
          all_goals first
            | (go_ret2; exact ⟨⟨_, _, rfl, by decide⟩, hE2⟩)
            | (refine Hid.mk_ (Calls.mono (wstrF_any _ HB2.out (by omega) hE2.size_le) ?_)
               rintro e w3 ⟨rfl, HB3, hb3, -⟩
               have HB4 : Hid (BuN w3 w.heap.size g ((q + 1) * 1000)) := BuN.mono HB3 (by omega)
               clear HB3
               go_wp2
               all_goals first
                 | (go_ret; exact ⟨⟨_, _, rfl, by decide⟩, hE2⟩)
                 | (refine ⟨⟨q + 1, by omega, by go_num, Below.trans hE2 hb3, HB4⟩, ?_⟩; first | (simp [intOf]; omega) | (simp [intOf]) | omega)
                 | (go_roundw; (case rel => exact ⟨q + 1, by omega, by go_num, Below.trans hE2 hb3, HB4⟩); (case measure => first | (simp [intOf]; omega) | (simp [intOf])))
            )
            | (refine Hid.mk_ (Calls.mono (wbyteF_any _ (by decide) HB2.out (by omega) hE2.size_le) ?_)
               rintro e w3 ⟨rfl, HB3, hb3, -⟩
               have HB4 : Hid (BuN w3 w.heap.size g ((q + 1) * 1000)) := BuN.mono HB3 (by omega)
               clear HB3
               go_wp2
               all_goals first
                 | (go_ret; exact ⟨⟨_, _, rfl, by decide⟩, hE2⟩)
                 | (refine ⟨⟨q + 1, by omega, by go_num, Below.trans hE2 hb3, HB4⟩, ?_⟩; first | (simp [intOf]; omega) | (simp [intOf]) | omega)
                 | (go_roundw; (case rel => exact ⟨q + 1, by omega, by go_num, Below.trans hE2 hb3, HB4⟩); (case measure => first | (simp [intOf]; omega) | (simp [intOf])))
            )
        · have hte := tl_full ht
          have ht1 : (1 : Int) ≤ (tx.size : Int) := by omega
          have ht1' : 1 ≤ tx.size := by omega
          have hxs : (tx.extract 1 tx.size).size ≤ 1000 := by rw [ByteArray.size_extract]; omega
          go_wp2_with (first
            | (go_at_call 105; refine Hid.out ?_)
            | (go_at_call 106; refine Hid.out ?_))
          all_goals first
            | (go_ret2; exact ⟨⟨_, _, rfl, by decide⟩, hE2⟩)
            | (refine Hid.mk_ (Calls.mono (wstrF_any _ HB2.out (by omega) hE2.size_le) ?_)
               rintro e w3 ⟨rfl, HB3, hb3, -⟩
               have HB4 : Hid (BuN w3 w.heap.size g ((q + 1) * 1000)) := BuN.mono HB3 (by omega)
               clear HB3
               go_wp2
               all_goals first
                 | (go_ret; exact ⟨⟨_, _, rfl, by decide⟩, hE2⟩)
                 | (refine ⟨⟨q + 1, by omega, by go_num, Below.trans hE2 hb3, HB4⟩, ?_⟩; first | (simp [intOf]; omega) | (simp [intOf]) | omega)
                 | (go_roundw; (case rel => exact ⟨q + 1, by omega, by go_num, Below.trans hE2 hb3, HB4⟩); (case measure => first | (simp [intOf]; omega) | (simp [intOf])))
            )
            | (refine Hid.mk_ (Calls.mono (wbyteF_any _ (by decide) HB2.out (by omega) hE2.size_le) ?_)
               rintro e w3 ⟨rfl, HB3, hb3, -⟩
               have HB4 : Hid (BuN w3 w.heap.size g ((q + 1) * 1000)) := BuN.mono HB3 (by omega)
               clear HB3
               go_wp2
               all_goals first
                 | (go_ret; exact ⟨⟨_, _, rfl, by decide⟩, hE2⟩)
                 | (refine ⟨⟨q + 1, by omega, by go_num, Below.trans hE2 hb3, HB4⟩, ?_⟩; first | (simp [intOf]; omega) | (simp [intOf]) | omega)
                 | (go_roundw; (case rel => exact ⟨q + 1, by omega, by go_num, Below.trans hE2 hb3, HB4⟩); (case measure => first | (simp [intOf]; omega) | (simp [intOf])))
            )
      · have hi1 : ¬ (q : Int) < (M : Int) := by omega
        go_wp2_with (first
          | (go_at_call 108; refine Hid.out ?_))
        refine Hid.mk_ ((bstrN_any (HB.out.bld) hE.size_le).mono ?_)
        rintro e w3 ⟨⟨t, rfl, ht⟩, hb3⟩
        go_wp2
        go_ret2
        exact ⟨⟨_, _, rfl, by omega⟩, Below.trans hE hb3⟩
/-- Rows of small tokens. -/
def RowsS (w : World) (rows : List SlH) : Prop := ∀ r ∈ rows, ∃ L, ToksS w r L
set_option maxHeartbeats 1600000 in
theorem valueX_any {h : SlH} {rows : List SlH} (hs : SlC shC 1 w h.A h.m rows) (hr : RowsS w rows) (z : Int) (hz : 0 ≤ z) :
    Calls Tryz.prog 85 #[.slice h.A h.m h.c, .int .i64 z] w fun e w' => StrB 1000000 e ∧ Ext w w' := by
  obtain ⟨A, m, c⟩ := h
  have HL := Lib.hid hs.len
  have HR := Lib.hid hr
  have hle := hs.le
  dsimp only at HL hle hs ⊢
  obtain ⟨q, rfl⟩ : ∃ q : Nat, z = q := ⟨z.toNat, by omega⟩
  clear hr hz
  by_cases hlt : q < m
  · obtain ⟨b, off, e0, hbl, hcs⟩ := hs.at_ hlt (by omega)
    subst e0
    have hlt1 : q < rows.length := by rw [← HL.out]; exact hlt
    obtain ⟨L, hL⟩ := HR.out _ (List.getElem_mem hlt1)
    obtain ⟨⟨B, n, d⟩, hyq⟩ : ∃ y, y = rows[q] := ⟨_, rfl⟩
    have y0 := hcs q hlt1 0 (by omega)
    rw [← hyq] at hL
    have HT := Lib.hid hL
    simp only [← hyq, shC, List.getElem_cons_zero, Nat.mul_one, Nat.add_zero] at y0
    clear hcs hyq hL
    have hi : ¬ (m : Int) ≤ (q : Int) := by omega
    have hi1 : (q : Int) < (m : Int) := by omega
    go_enter Tryz.func85, Tryz.ntmps85
    go_wp2_with (first
      | (go_at_call 114; refine Hid.out ?_))
    refine Hid.mk_ ((Literal_any (h := ⟨B, n, d⟩) HT.out).mono ?_)
    rintro e w2 ⟨⟨t, ok, rfl, ht⟩, hE2⟩
    go_wp2
    go_ret2
    exact ⟨⟨_, _, rfl, ht⟩, hE2⟩
  · have hi : (m : Int) ≤ (q : Int) := by omega
    go_enter Tryz.func85, Tryz.ntmps85
    go_wp2
    go_ret2
    exact ⟨⟨_, _, rfl, by decide⟩, Ext.refl _⟩
set_option maxHeartbeats 6400000 in
theorem comment_any {h : SlH} {l : List Tok} (hs : ToksS w h l) (i : Nat) (hi : i ≤ h.m) :
    Calls Tryz.prog 84 #[.slice h.A h.m h.c, .int .i64 (i : Int)] w fun e w' => RetStr 1000 e ∧ Ext w w' := by
  obtain ⟨A, m, c⟩ := h
  have HL := Lib.hid hs.1.sl.len
  have hle := hs.1.sl.le
  have HG := Lib.hid hs.1.good
  have HH := Lib.hid hs.1.sl
  dsimp only at HL hle HH hi ⊢
  clear hs
  go_enter Tryz.func84, Tryz.ntmps84
  go_wp2
  go_loopw [1] (fun v wr => ∃ j : Nat, j ≤ m ∧ v = .int .i64 ((j : Int) - 1) ∧ Ext w wr) (fun v _ => (intOf v + 1).toNat)
  case atStart => exact ⟨i, hi, rfl, Ext.refl _⟩
  case round =>
    obtain ⟨j, hj, rfl, hE⟩ := hrel
    cases j with
    | zero =>
      go_wp2
      go_ret
      exact ⟨⟨_, rfl, by decide⟩, hE⟩
    | succ q =>
      have hlt : q < m := by omega
      have hqe : ((q + 1 : Nat) : Int) - 1 = (q : Int) := by omega
      rw [hqe]
      obtain ⟨b, off, e0, hbl, hcs⟩ := (HH.out.ext hE).at_ hlt (by omega)
      try dsimp only at e0
      have hlt1 : q < (l).length := by rw [← HL.out]; exact hlt
      have HTG := Lib.hid (HG.out _ (List.getElem_mem hlt1))
      obtain ⟨⟨kd, tx, an⟩, hyq⟩ : ∃ y, y = (l)[q] := ⟨_, rfl⟩
      have y0 := hcs q hlt1 0 (by omega)
      have y1 := hcs q hlt1 1 (by omega)
      have y2 := hcs q hlt1 2 (by omega)
      rw [← hyq] at HTG
      simp only [← hyq, tokC, List.getElem_cons_zero, List.getElem_cons_succ, Nat.add_zero, ← Nat.add_assoc] at y0 y1 y2
      clear hcs hyq
      subst e0
      have hi1 : (q : Int) < (m : Int) := by omega
      have htx : tx.size ≤ 1000 := by have := HTG.out.2; dsimp only at this; omega
      go_wp2_with (first
        | (go_at_call 113; refine Hid.out ?_))
      all_goals first
        | (go_ret; exact ⟨⟨_, rfl, by decide⟩, hE⟩)
        | (refine ⟨⟨q, by omega, by first | rfl | go_num, hE⟩, ?_⟩; first | (simp [intOf]; omega) | (simp [intOf]) | omega)
        | (go_roundw; (case rel => exact ⟨q, by omega, by first | rfl | go_num, hE⟩); (case measure => first | (simp [intOf]; omega) | (simp [intOf])))
        | skip
      refine Hid.mk_ (Calls.mono (trimLeftT_any tx ⟨#[47, 35, 42, 32]⟩ (by decide) (by
        intro j b hb
        match j, hb with
        | 0, hb => injection hb with hb; subst hb; decide
        | 1, hb => injection hb with hb; subst hb; decide
        | 2, hb => injection hb with hb; subst hb; decide
        | 3, hb => injection hb with hb; subst hb; decide
        | j + 4, hb => simp at hb)) ?_)
      rintro e w3 ⟨⟨t, rfl, ht⟩, hE3⟩
      go_wp2_with (first
        | (go_at_call 112; refine Hid.out ?_))
      refine Hid.mk_ (Calls.mono (trimRightT_any t 32 (by decide) (by omega)) ?_)
      rintro e w4 ⟨⟨t4, rfl, ht4⟩, hE4⟩
      go_wp2
      go_ret
      exact ⟨⟨_, rfl, by omega⟩, (hE.trans hE3).trans hE4⟩
end
end Go.Proofs.YtgnchicipmomlaaGreatDoor
