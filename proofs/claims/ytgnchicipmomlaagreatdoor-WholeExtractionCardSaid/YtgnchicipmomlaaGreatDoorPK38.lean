/- The program's extract: Extract. -/
import Derived.Test.YtgnchicipmomlaaGreatDoorPK37
namespace Go.Proofs.YtgnchicipmomlaaGreatDoor
open Go.RowKit Go.Maps
set_option maxRecDepth 100000
attribute [local go_sem] ext_refl_t ext_alloc_t ext_drew_t ext_drewN_t ext_alloc2_t ext_alloc3_t ext_alloc4_t ext_alloc5_t ext_alloc6_t ext_alloc7_t ext_alloc8_t ext_alloc1d_t ext_alloc2d_t ext_alloc3d_t ext_alloc4d_t
attribute [local go_sem] Oper.semAt_some
/-- The tokens of the files so far. -/
def TkR (wr : World) (files : List (ByteArray × ByteArray)) (rows : List SlH) : Prop :=
  ∀ i (h1 : i < rows.length) (h2 : i < files.length), ∃ (L : List Tok) (b : Nat), OsC tokC 161 3 wr b rows[i].A rows[i].m rows[i].c L ∧ (∀ t ∈ L, TokG files[i].2.size t) ∧ L.length ≤ files[i].2.size
theorem TkR.ext {w w' : World} {files : List (ByteArray × ByteArray)} {rows : List SlH} (h : TkR w files rows) (hE : Ext w w') : TkR w' files rows := fun i h1 h2 => by
  obtain ⟨L, b, e1, e2⟩ := h i h1 h2
  exact ⟨L, b, e1.ext hE, e2⟩
theorem TkR.app {w w' : World} {files : List (ByteArray × ByteArray)} {rows : List SlH} {base m c : Nat} {A : Option Addr} {y : SlH} (h : TkR w files rows) (ho : OsC shC 121 1 w base A m c rows) (hg : w.grownBy w' (ob A))
    (hy : ∀ (h2 : rows.length < files.length), ∃ (L : List Tok) (b : Nat), OsC tokC 161 3 w b y.A y.m y.c L ∧ (∀ t ∈ L, TokG files[rows.length].2.size t) ∧ L.length ≤ files[rows.length].2.size) : TkR w' files (rows ++ [y]) := fun i h1 h2 => by
  have hf : FrT (fun t => t = 121) w w' := FrT.own ho rfl hg
  rw [List.length_append] at h1
  simp only [List.length_singleton] at h1
  by_cases hi : i < rows.length
  · obtain ⟨L, b, e1, e2⟩ := h i hi h2
    rw [List.getElem_append_left hi]
    exact ⟨L, b, e1.frt hf (by decide), e2⟩
  · obtain rfl : i = rows.length := by omega
    obtain ⟨L, b, e1, e2⟩ := hy h2
    rw [List.getElem_append_right (Nat.le_refl _)]
    simp only [Nat.sub_self, List.getElem_singleton]
    exact ⟨L, b, e1.frt hf (by decide), e2⟩
/-- The slots that the second loop only reads. -/
structure SlR (f : Nat → Value) (v0 v1 v2 v6 v7 v8 v9 v15 v16 v69 v70 : Value) : Prop where
  s0 : f 0 = v0
  s1 : f 1 = v1
  s2 : f 2 = v2
  s6 : f 6 = v6
  s7 : f 7 = v7
  s8 : f 8 = v8
  s9 : f 9 = v9
  s15 : f 15 = v15
  s16 : f 16 = v16
  s69 : f 69 = v69
  s70 : f 70 = v70
theorem slots (f : Nat → Value) : (List.range 187).map f = [f 0, f 1, f 2, f 3, f 4, f 5, f 6, f 7, f 8, f 9, f 10, f 11, f 12, f 13, f 14, f 15, f 16, f 17, f 18, f 19, f 20, f 21, f 22, f 23, f 24, f 25, f 26, f 27, f 28, f 29, f 30, f 31, f 32, f 33, f 34, f 35, f 36, f 37, f 38, f 39, f 40, f 41, f 42, f 43, f 44, f 45, f 46, f 47, f 48, f 49, f 50, f 51, f 52, f 53, f 54, f 55, f 56, f 57, f 58, f 59, f 60, f 61, f 62, f 63, f 64, f 65, f 66, f 67, f 68, f 69, f 70, f 71, f 72, f 73, f 74, f 75, f 76, f 77, f 78, f 79, f 80, f 81, f 82, f 83, f 84, f 85, f 86, f 87, f 88, f 89, f 90, f 91, f 92, f 93, f 94, f 95, f 96, f 97, f 98, f 99, f 100, f 101, f 102, f 103, f 104, f 105, f 106, f 107, f 108, f 109, f 110, f 111, f 112, f 113, f 114, f 115, f 116, f 117, f 118, f 119, f 120, f 121, f 122, f 123, f 124, f 125, f 126, f 127, f 128, f 129, f 130, f 131, f 132, f 133, f 134, f 135, f 136, f 137, f 138, f 139, f 140, f 141, f 142, f 143, f 144, f 145, f 146, f 147, f 148, f 149, f 150, f 151, f 152, f 153, f 154, f 155, f 156, f 157, f 158, f 159, f 160, f 161, f 162, f 163, f 164, f 165, f 166, f 167, f 168, f 169, f 170, f 171, f 172, f 173, f 174, f 175, f 176, f 177, f 178, f 179, f 180, f 181, f 182, f 183, f 184, f 185, f 186] := rfl
section
variable {w : World}
set_option maxHeartbeats 12800000 in
theorem Extract_any {ha hc hf : SlH} {scr : List Sta} {calls : List Cll} {files : List (ByteArray × ByteArray)} (hs : ScrW w ha scr) (hlg : ∀ x ∈ scr, LgT x) (hcl : CllsW w hc calls) (hfl : FilsW w hf files)
    (h45 : calls.length ≤ 45) (h6 : files.length ≤ 6) (hfb : ∀ x ∈ files, x.1.size ≤ 200 ∧ x.2.size ≤ 400) (hT : PTt w) :
    Calls Tryz.prog 26 #[.slice ha.A ha.m ha.c, .slice hc.A hc.m hc.c, .slice hf.A hf.m hf.c] w fun e w' => ExR w w' e := by
  obtain ⟨A, m, c⟩ := hf
  have HS := Lib.hid hs
  have HLG := Lib.hid hlg
  have HC := Lib.hid hcl
  have HF := Lib.hid hfl
  have HFB := Lib.hid hfb
  have HT := Lib.hid hT
  have HL := Lib.hid hfl.sl.len
  have hle := hfl.sl.le
  dsimp only at HL hle ⊢
  have hm6 : m ≤ 6 := by rw [HL.out]; exact h6
  have hl6 : files.length ≤ 6 := h6
  clear hs hlg hcl hfl hfb hT h6
  obtain ⟨W0, hW0⟩ : ∃ W0, W0 = ((w.alloc (Obj.cells #[.slice none 0 0] 30)).alloc (Obj.cells #[.int .i64 0, .int .i64 0] 91)).alloc (Obj.cells #[.int .i64 0] 35) := ⟨_, rfl⟩
  have hE0 : Ext w W0 := by rw [hW0]; exact (((Ext.refl w).alloc _).alloc _).alloc _
  obtain ⟨g6, hg6⟩ : ∃ g6, g6 = w.heap.size := ⟨_, rfl⟩
  obtain ⟨g7, hg7⟩ : ∃ g7, g7 = w.heap.size + 1 := ⟨_, rfl⟩
  obtain ⟨g8, hg8⟩ : ∃ g8, g8 = w.heap.size + 1 + 1 := ⟨_, rfl⟩
  have HR0 : Hid (Rs3 W0 g6 g7 g8 (.slice none 0 0) (.int .i64 0) (.int .i64 0) (.int .i64 0)) := by
    have e1 : (w.alloc (Obj.cells #[.slice none 0 0] 30)).heap.size = w.heap.size + 1 := by simp
    have e2 : ((w.alloc (Obj.cells #[.slice none 0 0] 30)).alloc (Obj.cells #[.int .i64 0, .int .i64 0] 91)).heap.size = w.heap.size + 1 + 1 := by simp
    have b6 := Blk.new w 30 #[.slice none 0 0]
    have b7 := Blk.new (w.alloc (Obj.cells #[.slice none 0 0] 30)) 91 #[.int .i64 0, .int .i64 0]
    have b8 := Blk.new ((w.alloc (Obj.cells #[.slice none 0 0] 30)).alloc (Obj.cells #[.int .i64 0, .int .i64 0] 91)) 35 #[.int .i64 0]
    rw [e1] at b7
    rw [e2] at b8
    rw [hW0, hg6, hg7, hg8]
    exact ⟨(b6.alloc _).alloc _, b7.alloc _, b8⟩
  refine callsIn_wide.1 (callsIn_of_wp_marks (n := 3) Tryz.func26 rfl trivial (wpIn_wide.2 ?_))
  simp only [Tryz.ntmps26, List.size_toArray, List.length_cons, List.length_nil, Nat.reduceAdd, Nat.reduceSub, Array.replicate_succ, Array.replicate_zero, List.push_toArray, List.append_toArray, List.nil_append, List.cons_append]
  go_wp2_with (first
    | (go_at_call 45; refine Hid.out ?_))
  rw [← hW0, ← hg8, ← hg7, ← hg6]
  clear hW0
  replace hg6 : w.heap.size ≤ g6 := by omega
  replace hg7 : w.heap.size ≤ g7 := by omega
  replace hg8 : w.heap.size ≤ g8 := by omega
  refine Hid.mk_ ((ValidS_any (HS.out.ext hE0) HLG.out).mono ?_)
  rintro e w1 ⟨⟨ok1, rfl, hok⟩, hE1⟩
  have hE01 := hE0.trans hE1
  have HR1 := Lib.hid (HR0.out.ext hE1)
  cases ok1 with
  | false =>
    clear hok
    obtain ⟨r1, r2, r3, r4, r5, r6, r7, r8⟩ := (HR1).out.facts
    go_wp2
    refine ⟨_, ((HR1).out.set_ _ _ _ _).res _ rfl rfl rfl, ?_⟩
    exact ⟨setR3_ext hE01 hg6 hg7 hg8 _ _ _ _, ⟨none, 0, 0⟩, _, _, _, rfl, fun h => absurd h (by decide)⟩
  | true =>
    clear hok
    go_wp2_with (first
      | (go_at_call 46; refine Hid.out ?_))
    refine Hid.mk_ ((ValidE_any (HC.out.ext hE01) h45).mono ?_)
    rintro e w2 ⟨⟨ok2, rfl, -⟩, hE2⟩
    have hE02 := hE01.trans hE2
    have HR2 := Lib.hid (HR1.out.ext hE2)
    cases ok2 with
    | false =>
      obtain ⟨r1, r2, r3, r4, r5, r6, r7, r8⟩ := (HR2).out.facts
      go_wp2
      refine ⟨_, ((HR2).out.set_ _ _ _ _).res _ rfl rfl rfl, ?_⟩
      exact ⟨setR3_ext hE02 hg6 hg7 hg8 _ _ _ _, ⟨none, 0, 0⟩, _, _, _, rfl, fun h => absurd h (by decide)⟩
    | true =>
      go_wp2_with (first
        | (go_at_call 47; refine Hid.out ?_))
      refine Hid.mk_ ((named_any (h := ⟨A, m, c⟩) (HW.ext HF.out hE02) hl6 (fun x hx => (HFB.out x hx).1)).mono ?_)
      rintro e w3 ⟨⟨ok3, rfl, -⟩, hE3⟩
      have hE03 := hE02.trans hE3
      have HR3 := Lib.hid (HR2.out.ext hE3)
      cases ok3 with
      | false =>
        obtain ⟨r1, r2, r3, r4, r5, r6, r7, r8⟩ := (HR3).out.facts
        go_wp2
        refine ⟨_, ((HR3).out.set_ _ _ _ _).res _ rfl rfl rfl, ?_⟩
        exact ⟨setR3_ext hE03 hg6 hg7 hg8 _ _ _ _, ⟨none, 0, 0⟩, _, _, _, rfl, fun h => absurd h (by decide)⟩
      | true =>
        have hm100 : ¬ (100 : Int) < (m : Int) := by omega
        have HH := Lib.hid HF.out.sl
        dsimp only at HH
        go_wp2
        go_loopw [9, 44] (fun v9 v44 wr => ∃ (q : Nat) (A9 : Option Addr) (m9 c9 : Nat) (rows : List SlH), q ≤ m ∧ v44 = .int .i64 q ∧ v9 = .slice A9 m9 c9 ∧ m9 = q ∧ Hid (Ext w3 wr) ∧ Hid (OsC shC 121 1 wr w3.heap.size A9 m9 c9 rows) ∧ Hid (TkR wr files rows) ∧ Hid (Rs3 wr g6 g7 g8 (.slice none 0 0) (.int .i64 0) (.int .i64 0) (.int .i64 0))) (fun _ v _ => m - (intOf v).toNat)
        case atStart => exact ⟨0, none, 0, 0, [], Nat.zero_le _, rfl, rfl, rfl, Ext.refl _, OsC.nil_ shC_len shC_cell, fun i h1 _ => absurd h1 (Nat.not_lt_zero i), HR3⟩
        case round =>
          obtain ⟨q, A9, m9, c9, rows, hq, rfl, rfl, hm9, HE, HO, HTK, HR⟩ := hrel
          have HM9 := Lib.hid hm9
          clear hm9
          have hEw := hE03.trans HE.out
          by_cases hlt : q < m
          · have hskip : True := trivial
            --S[ l1
            obtain ⟨b, off, e0, hbl, hcs⟩ := (HH.out.ext hEw).at_ hlt (by omega)
            try dsimp only at e0
            subst e0
            have hlt1 : q < files.length := by rw [← HL.out]; exact hlt
            obtain ⟨⟨nm, tx⟩, hyq⟩ : ∃ y, y = files[q] := ⟨_, rfl⟩
            have y0 := hcs q hlt1 0 (by omega)
            have y1 := hcs q hlt1 1 (by omega)
            have hfb := HFB.out _ (List.getElem_mem hlt1)
            rw [← hyq] at hfb
            dsimp only at hfb
            obtain ⟨hnm, htx⟩ := hfb
            simp only [← hyq, filC, List.getElem_cons_zero, List.getElem_cons_succ, Nat.add_zero, ← Nat.add_assoc] at y0 y1
            have HYQ := Lib.hid hyq
            have hi1 : (q : Int) < (m : Int) := by omega
            clear hcs hyq
            have hEx : Ext wr (wr.alloc (Obj.cells #[.string nm, .string tx] 89)) := (Ext.refl _).alloc _
            have hEwx := hEw.trans hEx
            go_wp2_with (first
              | (go_at_call 48; refine Hid.out ?_))
            refine Hid.mk_ ((tokens_any (HS.out.ext hEwx) HLG.out tx (by omega)).mono ?_)
            rintro e w4 ⟨hx, at_, er, rfl, hE4, htk⟩
            have HTQ := Lib.hid htk
            have hE5 := hEx.trans hE4
            have hEw4 := hEw.trans hE5
            have HR4 := Lib.hid (HR.out.ext hE5)
            clear htk
            by_cases her : er = 0
            · have hb1 : (er != 0) = false := by simp [her]
              obtain ⟨L, b5, ho5, hg5, hl5⟩ := HTQ.out her
              clear her
              have hEa : Ext w4 (w4.alloc (Obj.cells #[.slice hx.A hx.m hx.c] 121)) := (Ext.refl _).alloc _
              have hnew := SlC.new_ (cs := shC) w4 [hx] shC_len (by simp) #[.slice hx.A hx.m hx.c] rfl (0, 0) 1 rfl 121
              have hO8 := HO.out.ext (hE5.trans hEa)
              have hsz := ((HE.out.trans hE5).trans hEa).size_le
              go_wp2_with (first
                | (at_builtin; refine Hid.out ?_))
              refine Hid.mk_ ?_
              refine appC einfo_toks rfl _ _ rfl hO8 rfl hnew rfl (by have := HM9.out; omega) hsz ?_
              intro A8 m8 c8 w8 ho8 hg8 hn8
              have hrl : rows.length = q := by rw [← HO.out.len]; exact HM9.out
              have HT8 : Hid (TkR w8 files (rows ++ [hx])) := TkR.app ((HTK.out.ext hE5).ext hEa) hO8 hg8 (fun h2 => by
                have hyq := HYQ.out
                subst hrl
                rw [← hyq]
                exact ⟨L, b5, ho5.ext hEa, hg5, hl5⟩)
              have HM8 : Hid (m8 = q + 1) := by show m8 = q + 1; rw [ho8.len, List.length_append, hrl]; rfl
              have HE8 : Hid (Ext w3 w8) := ((HE.out.trans hE5).trans hEa).grown hg8 (fun j hj => HO.out.ge j hj)
              have HR8 : Hid (Rs3 w8 g6 g7 g8 (.slice none 0 0) (.int .i64 0) (.int .i64 0) (.int .i64 0)) := HR3.out.ext HE8.out
              have HO8 := Lib.hid ho8
              clear ho8 hg8 hn8 hO8 hnew
              go_wp2
              all_goals first
                | (refine ⟨⟨q + 1, A8, m8, c8, _, by omega, by go_num, rfl, HM8.out, HE8, HO8, HT8, HR8⟩, ?_⟩; first | (simp [intOf]; omega) | (simp [intOf]) | omega)
                | (go_roundw; (case rel => exact ⟨q + 1, A8, m8, c8, _, by omega, by go_num, rfl, HM8.out, HE8, HO8, HT8, HR8⟩); (case measure => first | (simp [intOf]; omega) | (simp [intOf])))
            · have hb1 : (er != 0) = true := by simp [her]
              obtain ⟨r1, r2, r3, r4, r5, r6, r7, r8⟩ := (HR4).out.facts
              go_wp2
              refine ⟨_, ((HR4).out.set_ _ _ _ _).res _ rfl rfl rfl, ?_⟩
              exact ⟨setR3_ext hEw4 hg6 hg7 hg8 _ _ _ _, ⟨none, 0, 0⟩, _, _, _, rfl, fun h => absurd h her⟩
            --S]
          · have hi1 : ¬ (q : Int) < (m : Int) := by omega
            obtain rfl : q = m := by omega
            obtain ⟨w1, rfl⟩ : ∃ w1 : World, w1 = wr := ⟨_, rfl⟩
            have hE1 : Ext w w1 := hEw
            have HRL : Hid (rows.length = q) := by show _ = _; rw [← HO.out.len]; exact HM9.out
            have hmm := @run_makeMap Tryz.prog
            go_wp2
            clear hmm
            obtain ⟨W2, hW2⟩ : ∃ W2, W2 = ((w1.alloc (Obj.cells #[.slice none 0 0] 30)).alloc (Obj.map #[] 0)).alloc (Obj.cells #[.map (some (w1.heap.size + 1))] 49) := ⟨_, rfl⟩
            have b15 := ((Blk.new w1 30 #[.slice none 0 0]).alloc (Obj.map #[] 0)).alloc (Obj.cells #[.map (some (w1.heap.size + 1))] 49)
            have him := (IM.made (w1.alloc (Obj.cells #[.slice none 0 0] 30))).ext ((Ext.refl _).alloc (Obj.cells #[.map (some (w1.heap.size + 1))] 49))
            have b16 := Blk.new ((w1.alloc (Obj.cells #[.slice none 0 0] 30)).alloc (Obj.map #[] 0)) 49 #[.map (some (w1.heap.size + 1))]
            have hE2w : Ext w1 W2 := by rw [hW2]; exact (((Ext.refl _).alloc _).alloc _).alloc _
            simp only [World.size_alloc] at him b16
            rw [← hW2] at b15 him b16 ⊢
            clear hW2
            obtain ⟨g16, hg16⟩ : ∃ g, g = w1.heap.size + 1 + 1 := ⟨_, rfl⟩
            obtain ⟨bm, hbm⟩ : ∃ g, g = w1.heap.size + 1 := ⟨_, rfl⟩
            obtain ⟨g15, hg15⟩ : ∃ g, g = w1.heap.size := ⟨_, rfl⟩
            rw [← hg16] at b16 ⊢
            rw [← hbm] at b16 him
            rw [← hg15] at b15 ⊢
            have hbm1 : w1.heap.size ≤ bm := by omega
            have hg151 : w1.heap.size ≤ g15 := by omega
            have hw0 : w.heap.size ≤ w1.heap.size := hE1.size
            have hne15 : g15 ≠ bm := by omega
            have HJ0 : Hid (ExI w1 g15 g16 bm (1000 * 0) W2) := ⟨b16, none, 0, 0, [], 0, _, (ExS.nil_ hE2w).mono (Nat.zero_le _) (Nat.zero_le _), b15, him, (fun s v e => by cases e), Nat.zero_le _⟩
            clear hg16 hbm hg15 b15 him b16
            refine wp_loop (fun a' w' => ∃ (f : Nat → Value) (ds : List Deferred), a' = ⟨((List.range 187).map f).toArray, ds⟩ ∧ SlR f (.slice ha.A ha.m ha.c) (.slice hc.A hc.m hc.c) (.slice A q c) (.pointer (some ⟨g6, 0, none⟩)) (.pointer (some ⟨g7, 0, none⟩)) (.pointer (some ⟨g8, 0, none⟩)) (.slice A9 m9 c9) (.pointer (some ⟨g15, 0, none⟩)) (.pointer (some ⟨g16, 0, none⟩)) (.slice A q c) (.int .i64 q) ∧ ∃ z : Nat, z ≤ q ∧ f 71 = .int .i64 z ∧ Hid (ExI w1 g15 g16 bm (1000 * z) w') ∧ Hid (Mks (bm + 1) w' w'.heap.size ds)) (fun a' _ => q - (intOf (a'.tmps.getD 71 undef)).toNat) ?start ?round2
            case start =>
              refine act_inv (R := fun f ds => SlR f _ _ _ _ _ _ _ _ _ _ _ ∧ ∃ z : Nat, z ≤ q ∧ f 71 = .int .i64 z ∧ Hid (ExI w1 g15 g16 bm (1000 * z) W2) ∧ Hid (Mks (bm + 1) W2 W2.heap.size ds)) _ rfl _ ?_
              exact ⟨⟨rfl, rfl, rfl, rfl, rfl, rfl, rfl, rfl, rfl, rfl, rfl⟩, 0, Nat.zero_le _, rfl, HJ0, trivial⟩
            case round2 =>
              rintro _ wr ⟨f, ds, rfl, hsl, z, hz, h71, HJ, HM⟩
              rw [slots, hsl.s0, hsl.s1, hsl.s2, hsl.s6, hsl.s7, hsl.s8, hsl.s9, hsl.s15, hsl.s16, hsl.s69, hsl.s70, h71]
              have HSL := Lib.hid hsl
              have hE1r := HJ.out.base
              have hEr := hE1.trans hE1r
              clear hsl h71
              by_cases hlz : z < q
              · have hskip : True := trivial
                --S[ l2
                have hi2 : (z : Int) < (q : Int) := by omega
                obtain ⟨b, off, e0, hbl, hcs⟩ := (HH.out.ext hEr).at_ hlz (by omega)
                try dsimp only at e0
                subst e0
                have hltf : z < files.length := by rw [← HL.out]; exact hlz
                obtain ⟨⟨nm, tx⟩, hyq⟩ : ∃ y, y = files[z] := ⟨_, rfl⟩
                have y0 := hcs z hltf 0 (by omega)
                have y1 := hcs z hltf 1 (by omega)
                simp only [← hyq, filC, List.getElem_cons_zero, List.getElem_cons_succ, Nat.add_zero, ← Nat.add_assoc] at y0 y1
                have hfb := HFB.out _ (List.getElem_mem hltf)
                rw [← hyq] at hfb
                obtain ⟨hnm, htx⟩ := hfb
                dsimp only at hnm htx
                have hltr : z < rows.length := by rw [HRL.out]; exact hlz
                obtain ⟨L, bL, hoL, hgL, hlL⟩ := HTK.out z hltr hltf
                rw [← hyq] at hgL hlL
                dsimp only at hgL hlL
                obtain ⟨b9, off9, e0, -, hcs9⟩ := (HO.out.sl.ext hE1r).at_ (i := z) (by have := HM9.out; omega) (by have := HM9.out; omega)
                try dsimp only at e0
                subst e0
                obtain ⟨⟨TA, tm, tc⟩, hrz⟩ : ∃ y, y = rows[z] := ⟨_, rfl⟩
                have z0 := hcs9 z hltr 0 (by omega)
                rw [← hrz] at hoL
                simp only [← hrz, shC, List.getElem_cons_zero, Nat.mul_one, Nat.add_zero] at z0
                dsimp only at hoL
                have HTOK : Hid (ToksW tx.size w1 ⟨TA, tm, tc⟩ L) := ⟨hoL.sl, hoL.cap, by have := hoL.len; show tm * 40 ≤ _; omega, hgL⟩
                have HLL : Hid (L.length ≤ 1000) := by show _ ≤ _; omega
                have hi9 : (z : Int) < (m9 : Int) := by have := HM9.out; omega
                have Y0 := laters y0
                have Y1 := laters y1
                have Z0 := laters z0
                have hErr := Ext.refl wr
                clear hcs hyq hcs9 hrz hoL hgL hlL y0 y1 z0 hbl hltr hltf
                go_wp2_with (first
                  | (go_at_call 49; refine Hid.out ?_))
                refine Hid.mk_ ((occs_any (h := ⟨TA, tm, tc⟩) (hc := hc)).mono ?_)
                rintro e w5 ⟨rfl, hw5⟩
                dsimp only at hw5 ⊢
                have hE5 : Ext wr w5 := by rw [hw5]; exact ((((Ext.refl _).alloc _).alloc _).alloc _).alloc _
                have b17 : Blk w5 wr.heap.size 3 #[.int .i64 (z : Int)] := by rw [hw5]; exact (((Blk.new wr _ _).alloc _).alloc _).alloc _
                have b18 : Blk w5 (wr.heap.size + 1) 89 #[.string nm, .string tx] := by
                  have h1 := Blk.new (wr.alloc (Obj.cells #[.int .i64 (z : Int)] 3)) 89 #[.string nm, .string tx]
                  simp only [World.size_alloc] at h1
                  rw [hw5]; exact (h1.alloc _).alloc _
                have bt : Blk w5 (wr.heap.size + 1 + 1) 121 #[.slice TA tm tc] := by
                  have h1 := Blk.new ((wr.alloc (Obj.cells #[.int .i64 (z : Int)] 3)).alloc (Obj.cells #[.string nm, .string tx] 89)) 121 #[.slice TA tm tc]
                  simp only [World.size_alloc] at h1
                  rw [hw5]; exact h1.alloc _
                have bc : Blk w5 (wr.heap.size + 1 + 1 + 1) 86 #[.slice hc.A hc.m hc.c] := by
                  have h1 := Blk.new (((wr.alloc (Obj.cells #[.int .i64 (z : Int)] 3)).alloc (Obj.cells #[.string nm, .string tx] 89)).alloc (Obj.cells #[.slice TA tm tc] 121)) 86 #[.slice hc.A hc.m hc.c]
                  simp only [World.size_alloc] at h1
                  rw [hw5]; exact h1
                simp only [World.size_alloc]
                clear hw5
                obtain ⟨gc, hgc⟩ : ∃ g, g = wr.heap.size + 1 + 1 + 1 := ⟨_, rfl⟩
                obtain ⟨gt, hgt⟩ : ∃ g, g = wr.heap.size + 1 + 1 := ⟨_, rfl⟩
                obtain ⟨g18, hg18⟩ : ∃ g, g = wr.heap.size + 1 := ⟨_, rfl⟩
                obtain ⟨g17, hg17⟩ : ∃ g, g = wr.heap.size := ⟨_, rfl⟩
                rw [← hgc] at bc ⊢
                rw [← hgt] at bt ⊢
                rw [← hg18] at b18 ⊢
                rw [← hg17] at b17 ⊢
                clear hgc hgt hg18 hg17 Y0 Y1 Z0 hErr
                have HB17 := Lib.hid b17
                have HB18 := Lib.hid b18
                have HBT := Lib.hid bt
                have HBC := Lib.hid bc
                have HJ5 := Lib.hid (HJ.out.extn hE5)
                have hE15 := HJ5.out.base
                have HM5 : Hid (Mks (bm + 1) w5 w5.heap.size ds) := (KO.mks (KO.of_ext hE5) HM.out).mono hE5.size
                clear b17 b18 bt bc
                go_wp2
                refine (wpIn_wide (n := 3)).1 ?_
                generalize ha1 : Act.mk _ _ = a1
                have hw15 : w1.heap.size ≤ w5.heap.size := hE15.size
                have hbm5 : bm < w5.heap.size := by
                  obtain ⟨_, _, _, _, _, _, _, _, _, h1, _⟩ := HJ5.out
                  exact h1.lt
                have hH5 : Hid (InI w1 g15 g16 bm g17 g18 gt gc z w5.heap.size nm tx ds (.slice TA tm tc) (.slice hc.A hc.m hc.c) ([] : List {x : Occ // OccG tx.size x}) w5) := ⟨HJ5.out, HB17.out, HB18.out, HBT.out, HBC.out, HM5.out, Nat.le_refl _⟩
                refine wpIn_rangeFunc_ownH (w0 := w5) rfl (by omega) (gf := 79) (lb := #[.pointer (some ⟨gt, 0, none⟩), .pointer (some ⟨gc, 0, none⟩)]) (by rw [← ha1]; rfl) trivial (enters_of Tryz.func79 (by kernel_rfl) rfl)
                  (occ_stops 2 (by omega) HTOK.out HLL.out (show tx.size ≤ 1000 by omega) (HW.ext HC.out hE1) (⟨hE15, HBT.out, HBC.out⟩ : OcS w1 gt gc TA tm tc hc.A hc.m hc.c w5)) KpO.trans ?hKb (Below.refl _ _) (fun _ => rfl)
                  (InI w1 g15 g16 bm g17 g18 gt gc z w5.heap.size nm tx ds (.slice TA tm tc) (.slice hc.A hc.m hc.c)) (InX w g6 g7 g8 bm w5.heap.size ds) (InI.own hw15 hbm5) (InX.own (Nat.le_trans hw0 hw15)) hH5.out (InA a1 w5.heap.size) (InA.own a1) ?hassign ?hbody ?hdone ?hstop
                case hKb => exact fun W l o o' hl ho hc _ => KpO.put o' (Nat.le_trans hw15 hl) ho hc
                case hassign =>
                  intro l pre x W K hI hK
                  rw [← ha1]
                  obtain ⟨⟨call, an, id, src, com⟩, hx⟩ := x
                  have HI := Lib.hid hI
                  clear hI
                  have hEa : Ext W (W.alloc (Obj.cells #[.int .i64 call, .int .i64 (an : Int), .string id, .string src, .string com] 128)) := (Ext.refl _).alloc _
                  have hWU : w5.heap.size ≤ W.heap.size := HI.out.2.2.2.2.2.2
                  rw [fold1]
                  unfold occV
                  simp only [List.setIfInBounds_toArray, List.set_cons_zero, List.set_cons_succ]
                  gi_wp2
                  refine hK _ _ (KeepsOthers.from (KeepsOthers.alloc W _) _) (KpO.of_ext hEa (Nat.le_trans hw15 hWU)) (HI.out.extn hEa) ⟨W.heap.size, ?_, Blk.new W _ _, hWU⟩
                  rw [← ha1]
                  unfold occV
                  simp only [List.setIfInBounds_toArray, List.set_cons_zero, List.set_cons_succ]
                case hbody =>
                  intro l pre x a' W hl hlr hI hA hpl
                  obtain ⟨g19, rfl, hb19, hg19⟩ := hA
                  rw [← ha1]
                  obtain ⟨⟨call, an, id, src, com⟩, hoff, hids, hsrs, hcom⟩ := x
                  unfold occV
                  dsimp only at hb19 hoff hids hsrs hcom
                  simp only [List.setIfInBounds_toArray, List.set_cons_zero, List.set_cons_succ]
                  obtain ⟨hJ, hb17, hb18, hbt, hbc, hmk, hWU⟩ := hI
                  have hw1W : w1.heap.size ≤ W.heap.size := Nat.le_trans hw15 hWU
                  obtain ⟨K, hK⟩ : ∃ K, K = 1000 * z + pre.length := ⟨_, rfl⟩
                  rw [← hK] at hJ
                  have hK6 : K < 6000 := by omega
                  have HK := Lib.hid hK
                  obtain ⟨hb16, A8, m8, c8, es, ni, F, hex, hb15, him, hF, hni⟩ := hJ
                  have HB16 := Lib.hid hb16
                  have HEX := Lib.hid hex
                  have HB15' := Lib.hid hb15
                  have HIM := Lib.hid him
                  have HFF := Lib.hid hF
                  have HMK := Lib.hid hmk
                  have HB17' := Lib.hid hb17
                  have HB18' := Lib.hid hb18
                  have HB19 := Lib.hid hb19
                  have HBT' := Lib.hid hbt
                  have HBC' := Lib.hid hbc
                  have U0 := latersU (show _ = some (.string nm) from hb18.cell 0)
                  have U1 := latersU (show _ = some (.string tx) from hb18.cell 1)
                  have U2 := latersU (show _ = some (.int .i64 (an : Int)) from hb19.cell 1)
                  clear hK hb16 hex hb15 him hF hmk hb17 hb18 hb19 hbt hbc ha1
                  obtain ⟨cnt, hcnt⟩ : ∃ n : Nat, n = Lib.countByte (tx.extract 0 an).data.toList 10 := ⟨_, rfl⟩
                  have hcn : cnt ≤ 400 := by
                    have h2 := List.count_le_length (a := (10 : UInt8)) (l := (tx.extract 0 an).data.toList)
                    rw [sz_list, ByteArray.size_extract] at h2
                    have h3 : cnt ≤ min an tx.size - 0 := by rw [hcnt]; exact h2
                    omega
                  have HC1 : Hid (∀ u : ExtOf W, Calls Tryz.prog 51 #[.string (tx.extract 0 an), .string ⟨#[10]⟩] u.1 fun e w' => e = .returned (.int .i64 (cnt : Int)) ∧ Ext u.1 w') := fun u => by
                    have h := countX_any (w := u.1) (tx.extract 0 an) 10
                    rw [← hcnt] at h
                    exact h
                  clear hcnt
                  obtain ⟨si, hsi⟩ : ∃ s : ByteArray, s = ⟨(Lib.itoa (1 + (cnt : Int))).toArray⟩ := ⟨_, rfl⟩
                  have hsz : si.size ≤ 21 := by rw [hsi, sz_mk]; exact Lib.itoa_length_le _ (by omega) (by omega)
                  have HC2 : Hid (∀ u : ExtOf W, Calls Tryz.prog 50 #[.int .i64 (1 + (cnt : Int))] u.1 fun e w' => e = .returned (.string si) ∧ Ext u.1 w') := fun u => by
                    have h := itoaX_any (w := u.1) (1 + (cnt : Int)) (by omega) (by omega) (HT.out.ext ((hE1.trans (HEX.out.ext)).trans u.2))
                    rw [← hsi] at h
                    exact h
                  clear hsi
                  have hoi : (an : Int) ≤ (tx.size : Int) := by omega
                  have hwr : IntKind.i64.wrap (1 + (cnt : Int)) = 1 + (cnt : Int) := IntWalk.i64_in _ (by omega)
                  gi_wp2
                  refine wpIn_region_extW (by rintro ⟨_, _, h⟩; exact h) (by kernel_rfl) (by kernel_rfl) (by kernel_rfl) ?_
                  try dsimp only [List.append]
                  repeat (go_big_quiet_step (first | (go_at_call 51; with_reducible exact Calls.quiet_ext (HC1.out _)) | (go_at_call 50; with_reducible exact Calls.quiet_ext (HC2.out _))))
                  refine wpQuiet_nil ?_
                  rintro w2 ⟨⟨_, hE2⟩, rfl⟩
                  try dsimp only
                  have hrs : (nm ++ (⟨#[58]⟩ : ByteArray) ++ si).size ≤ 299 := by rw [ByteArray.size_append, ByteArray.size_append]; show nm.size + 1 + si.size ≤ 299; omega
                  obtain ⟨rf, hrf⟩ : ∃ rf, rf = nm ++ (⟨#[58]⟩ : ByteArray) ++ si := ⟨_, rfl⟩
                  rw [← hrf] at hrs ⊢
                  clear hrf U0 U1 U2 HC1 HC2 hwr hcn hoi hsz
                  have hx2 := HEX.out.extn hE2
                  have him2 := HIM.out.ext hE2
                  have hb15_2 := HB15'.out.below hE2 HB15'.out.lt
                  have k16 := (HB16.out.below hE2 HB16.out.lt).cell 0
                  have k192 := (HB19.out.below hE2 HB19.out.lt).cell 2
                  simp at k16 k192
                  have hlk := him2.look id (by unfold maxLen; omega)
                  have hFR2 := (FrE.refl w1.heap.size bm W).ext hE2 hw1W
                  have hw12 := Nat.le_trans hw1W hE2.size
                  have HX2 := Lib.hid hx2
                  have HIM2 := Lib.hid him2
                  have HB15_2 := Lib.hid hb15_2
                  have HFR2 := Lib.hid hFR2
                  have hml := Lib.hid hx2.own.len
                  have hm12 : m8 ≤ 12000 := by have h1 := hx2.own.len; have h2 := hx2.len; omega
                  clear hx2 him2 hb15_2 hFR2
                  cases hFi : F id with
                  | none =>
                    rw [hFi] at hlk
                    simp only [Option.getD_none, Option.isSome_none] at hlk
                    have hskip : True := trivial
                    --S[ un
                    obtain ⟨w3, hup, him3, hg3⟩ := HIM2.out.store (show ni < maxLen by unfold maxLen; omega) id (by unfold maxLen; omega) m8 (by omega)
                    have k15_2 := HB15_2.out.cell 0
                    have hb15_3 : Blk w3 g15 30 #[.slice A8 m8 c8] := HB15_2.out.grown hg3 (fun e => hne15 (by injection e))
                    have hb19_3 : Blk w3 g19 128 #[.int .i64 call, .int .i64 (an : Int), .string id, .string src, .string com] := (HB19.out.below hE2 HB19.out.lt).grown hg3 (fun e => HIM2.out.ne_blk (HB19.out.below hE2 HB19.out.lt) (by injection e))
                    have k15_3 := hb15_3.cell 0
                    have k192_3 := hb19_3.cell 2
                    have k193_3 := hb19_3.cell 3
                    simp at k15_2 k15_3 k192_3 k193_3
                    have HUP := Lib.hid hup
                    obtain ⟨w4, hw4⟩ : ∃ w4, w4 = (w3.alloc (Obj.cells #[.string ⟨#[114, 101, 102]⟩, .string ⟨#[]⟩] 56)).alloc (Obj.cells #[.string id, .string src, .string ⟨#[]⟩, .slice none 0 0, .slice none 0 0, .int .i64 0, .slice (some ⟨w3.heap.size, 0, none⟩) 1 1] 39) := ⟨_, rfl⟩
                    have hE34 : Ext w3 w4 := by rw [hw4]; exact ((Ext.refl _).alloc _).alloc _
                    have hnew := SlC.new_ (cs := entC) (w3.alloc (Obj.cells #[.string ⟨#[114, 101, 102]⟩, .string ⟨#[]⟩] 56)) [(⟨⟨id, src, ⟨#[]⟩, [], [], 0, [(refS, ⟨#[]⟩)]⟩, ⟨none, 0, 0⟩, ⟨none, 0, 0⟩, ⟨some ⟨w3.heap.size, 0, none⟩, 1, 1⟩⟩ : Ent)] entC_len (by simp) #[.string id, .string src, .string ⟨#[]⟩, .slice none 0 0, .slice none 0 0, .int .i64 0, .slice (some ⟨w3.heap.size, 0, none⟩) 1 1] rfl (0, 0) 1 rfl 39
                    have hw13 : w1.heap.size ≤ w3.heap.size := Nat.le_trans hw12 hg3.size
                    have hfd := (OsC.newL w3 w1.heap.size hw13 [(refS, (⟨#[]⟩ : ByteArray))] fdC_len fdC_cell (by simp) #[.string ⟨#[114, 101, 102]⟩, .string ⟨#[]⟩] rfl 1 rfl (e := 56)).ext ((Ext.refl _).alloc (Obj.cells #[.string id, .string src, .string ⟨#[]⟩, .slice none 0 0, .slice none 0 0, .int .i64 0, .slice (some ⟨w3.heap.size, 0, none⟩) 1 1] 39))
                    rw [← hw4] at hnew hfd
                    simp only [World.size_alloc] at hnew
                    have hfm : FrT (fun _ => False) w2 w3 := fun k t cs hb _ => hb.grown hg3 (fun e => HIM2.out.ne_blk hb (by injection e))
                    have hE13 : Ext w1 w3 := HX2.out.ext.grown hg3 (fun j hj => by injection hj with hj; rw [← hj]; exact hbm1)
                    have hx3 := HX2.out.frt hE13 hfm (fun e => e) (fun e => e) (fun e => e)
                    have hx4 := hx3.extn hE34
                    have hFR3 := HFR2.out.map_ HIM2.out hg3 hbm1 hw12
                    have hFR4 := hFR3.ext hE34 hw13
                    have hnf : ∀ i (hi : i < es.length), ob es[i].d.A ≠ some w3.heap.size := fun i hi e => by have := (hx3.fld i hi).lt _ e; omega
                    have hb15_4 := hb15_3.below hE34 hb15_3.lt
                    have him4 := him3.ext hE34
                    have hb1 := hx4.own
                    have hsz4 := hx4.ext.size_le
                    have HX4 := Lib.hid hx4
                    have HNEW := Lib.hid hnew
                    have HFD := Lib.hid hfd
                    have HNF := Lib.hid hnf
                    have HFR4 := Lib.hid hFR4
                    have HB15_4 := Lib.hid hb15_4
                    have HIM4 := Lib.hid him4
                    have HW4 := Lib.hid hw4
                    have HW13 := Lib.hid hw13
                    clear hx3 hE34 hb15_3 hb19_3 hfm hE13 hFR3 hup hx4 hnew hfd hnf hFR4 hb15_4 him4 hb1 hw4 him3 hw13
                    gi_wp2
                    clear hg3 hlk k15_2 k192 k16
                    rw [HUP.out]
                    gi_upon
                    gi_wp2_with (first
                      | (gi_at_builtin; refine Hid.out ?_))
                    refine Hid.mk_ ?_
                    rw [← HW4.out]
                    refine appCI einfo_ent rfl _ _ rfl HX4.out.own rfl HNEW.out rfl (by omega) HX4.out.ext.size_le ?_
                    intro At mt ct w8 ho8 hg8 hn8
                    have hf8 : FrT (fun t => t = 39) w4 w8 := FrT.own HX4.out.own rfl hg8
                    have hb15_8 := hf8 _ _ _ HB15_4.out (by decide)
                    have hx8 := HX4.out.app hids hsrs HFD.out HNF.out ho8 hg8
                    have hFR8 := HFR4.out.own HX4.out.own (.inl rfl) (Nat.le_refl _) HX4.out.ext.size_le hg8
                    have him8 : IM w8 bm (ni + 1) (updI F id m8) := HIM4.out.kept hg8 (fun e => by
                      obtain ⟨xs, hxs⟩ := HX4.out.own.blk_ e.symm
                      exact HIM4.out.ne_blk hxs rfl)
                    have k15_8 := hb15_8.cell 0
                    have f15_8 := hb15_8.frozen 0
                    simp at k15_8
                    have HX8 := Lib.hid hx8
                    have HFR8 := Lib.hid hFR8
                    have HIM8 := Lib.hid him8
                    have HB15_8 := Lib.hid hb15_8
                    clear ho8 hg8 hn8 hf8 hx8 hFR8 him8 hb15_8 HX4 HNEW HFD HNF HFR4 HB15_4 HIM4 HW4
                    gi_wp2
                    obtain ⟨wt, hwt⟩ : ∃ wt, wt = w8.setCell ⟨g15, 0, none⟩ (.slice At mt ct) := ⟨_, rfl⟩
                    have hl8 : mt = m8 + 1 := by have h1 := HX8.out.own.len; rw [List.length_append, ← hml.out] at h1; exact h1
                    have HFT : Hid (∀ s v, updI F id m8 s = some v → v < (es ++ [(⟨⟨id, src, ⟨#[]⟩, [], [], 0, [(refS, ⟨#[]⟩)]⟩, ⟨none, 0, 0⟩, ⟨none, 0, 0⟩, ⟨some ⟨w3.heap.size, 0, none⟩, 1, 1⟩⟩ : Ent)]).length) := fun s v e => by
                      rw [List.length_append, ← hml.out]
                      show v < m8 + 1
                      unfold updI at e
                      split at e
                      · injection e with e; omega
                      · have h1 := HFF.out s v e; rw [← hml.out] at h1; omega
                    have hf9 : FrT (fun t => t = 30) w8 wt := by rw [hwt]; exact FrT.set_ (T := fun t => t = 30) HB15_8.out rfl _ _
                    have HFRT : Hid (FrE w1.heap.size bm W wt) := by
                      show FrE _ _ _ _
                      rw [hwt]
                      exact HFR8.out.set_ HB15_8.out (.inr (.inr (.inr rfl))) hg151 HX8.out.ext.size_le 0 _
                    have HXT : Hid (ExS w1 wt (2 * K + 1) (300 * K) At mt ct (es ++ [(⟨⟨id, src, ⟨#[]⟩, [], [], 0, [(refS, ⟨#[]⟩)]⟩, ⟨none, 0, 0⟩, ⟨none, 0, 0⟩, ⟨some ⟨w3.heap.size, 0, none⟩, 1, 1⟩⟩ : Ent)])) := HX8.out.frt (by rw [hwt]; exact HX8.out.ext.set_ (p := ⟨g15, 0, none⟩) hg151 _) hf9 (by decide) (by decide) (by decide)
                    have HIMT : Hid (IM wt bm (ni + 1) (updI F id m8)) := by
                      show IM _ _ _ _
                      rw [hwt]
                      exact HIM8.out.kept (grown_setB w8 ⟨g15, 0, none⟩ _) (fun e => hne15 (by injection e with e; exact e.symm))
                    have HBT15 : Hid (Blk wt g15 30 #[.slice At mt ct]) := by
                      show Blk _ _ _ _
                      rw [hwt]
                      exact HB15_8.out.set_ 0 _
                    have hnt : ni + 1 ≤ K + 1 := by omega
                    have hk : m8 < (es ++ [(⟨⟨id, src, ⟨#[]⟩, [], [], 0, [(refS, ⟨#[]⟩)]⟩, ⟨none, 0, 0⟩, ⟨none, 0, 0⟩, ⟨some ⟨w3.heap.size, 0, none⟩, 1, 1⟩⟩ : Ent)]).length := by rw [List.length_append, ← hml.out]; exact Nat.lt_succ_self _
                    rw [← hwt]
                    clear hwt hf9 HX8 HFR8 HIM8 HB15_8 HFF HIM2 HX2 HFR2 HB15_2 hl8 k15_8 f15_8
                    generalize (es ++ [(⟨⟨id, src, ⟨#[]⟩, [], [], 0, [(refS, ⟨#[]⟩)]⟩, ⟨none, 0, 0⟩, ⟨none, 0, 0⟩, ⟨some ⟨w3.heap.size, 0, none⟩, 1, 1⟩⟩ : Ent)]) = et at HFT HXT hk
                    generalize ni + 1 = nt at HIMT hnt
                    generalize updI F id m8 = Ft at HIMT HFT
                    obtain ⟨gb, cur, eA, hgb, hbh, -⟩ := HXT.out.own.row (by have := HXT.out.own.len; omega)
                    subst eA
                    have hkm : (m8 : Int) < (mt : Int) := by have := HXT.out.own.len; omega
                    obtain ⟨y, hek⟩ : ∃ y, y = et[m8] := ⟨_, rfl⟩
                    obtain ⟨b', off', e0, -, hcs⟩ := HXT.out.own.sl.at_ (i := m8) (by omega) (by omega)
                    simp only [Option.some.injEq, Addr.mk.injEq, and_true] at e0
                    obtain ⟨rfl, rfl⟩ := e0
                    have e1 := hcs m8 hk 1 (by omega)
                    have e3 := hcs m8 hk 3 (by omega)
                    have e6 := hcs m8 hk 6 (by omega)
                    have hpl := HXT.out.pl _ (List.getElem_mem hk)
                    have hfl := HXT.out.fld m8 hk
                    rw [← hek] at hpl hfl
                    have HEK := Lib.hid hek
                    simp only [← hek, entC, List.getElem_cons_zero, List.getElem_cons_succ, Nat.zero_add] at e1 e3 e6
                    obtain ⟨⟨eid, esrc, etgt, ecom, efl, est, efd⟩, ⟨Ac, mc, cc⟩, ehf, ⟨Ad, md, cd⟩⟩ := y
                    dsimp only at e1 e3 e6 hpl hfl
                    obtain ⟨v0, hv0, hv1⟩ := hpl.fd
                    dsimp only at hv0
                    subst hv0
                    have HPL := Lib.hid hpl
                    have HFL := Lib.hid hfl
                    clear hcs hek hpl hfl
                    have b19 := HFRT.out.blk HB19.out (by unfold TE; decide)
                    have k193 := latersU (show _ = some (.string src) from b19.cell 3)
                    have k194 := latersU (show _ = some (.string com) from b19.cell 4)
                    have l1 := latersU e1
                    have hEtt := Ext.refl wt
                    go_simp
                    gi_wp2
                    by_cases hss : esrc = src
                    case neg =>
                      have hsn : (esrc.toList == src.toList) = false := by rw [beq_eq_false_iff_ne]; exact fun e => hss (toList_iff.1 e)
                      refine wpIn_region_extW (by rintro ⟨_, _, h⟩; exact h) (by kernel_rfl) (by kernel_rfl) (by kernel_rfl) ?_
                      try dsimp only [List.append]
                      repeat (go_big_quiet_step (fail))
                      refine wpQuiet_nil ?_
                      rintro w10 ⟨⟨_, hE10⟩, rfl⟩
                      try dsimp only
                      gi_wp2
                      obtain ⟨wd, hwd⟩ : ∃ wd : World, wd = w10.drew := ⟨_, rfl⟩
                      have hE10d : Ext wt wd := by rw [hwd]; exact hE10.drew
                      have hE110 : Ext w1 wd := HXT.out.ext.trans hE10d
                      have HR10 := Lib.hid (HR.out.ext hE110)
                      have b17 := HFRT.out.blk HB17'.out (by unfold TE; decide)
                      have HB17d := Lib.hid (b17.below hE10d b17.lt)
                      have HB19d := Lib.hid (b19.below hE10d b19.lt)
                      have HSS : Hid (∀ W', FrT TR wd W' → W'.cell? ⟨g17, 0, none⟩ = some (.int .i64 (z : Int)) ∧ W'.cell? ⟨g19, 1, none⟩ = some (.int .i64 (an : Int))) := fun W' hf =>
                        ⟨(hf _ _ _ HB17d.out (by unfold TR; decide)).cell 0, (hf _ _ _ HB19d.out (by unfold TR; decide)).cell 1⟩
                      obtain ⟨r1, r2, r3, r4, r5, r6, r7, r8⟩ := HR10.out.facts
                      have HFRD := Lib.hid (HFRT.out.ko.trans (KO.of_ext hE10d))
                      have HE1D := Lib.hid (hE1.trans hE110)
                      refine wpIn_region_heldW (S := fun W' => FrT TR wd W') (by rintro ⟨_, _, h⟩; exact h) (by kernel_rfl) (by kernel_rfl) ?_
                      have hHeld : FrT TR wd wd := FrT.of_ext (Ext.refl _)
                      change wpAnyH _ _ _ _ _ _ _ _ w10.drew
                      rw [← hwd]
                      clear hwd hE10 hE10d hE110 b17
                      refine wpAnyH_takeD (i := 0) (d := 130) (v := ?_) rfl rfl (by kernel_rfl) (by kernel_rfl) (by kernel_rfl) (fun _ _ _ h => h) (Or.inl ⟨by rfl, ?_⟩) hHeld ?_
                      rotate_left
                      · rintro w hS4
                        obtain ⟨c0, c1⟩ := HSS.out w hS4
                        go_simp
                        try with_reducible rfl
                      simp only [Act.put, List.setIfInBounds_toArray, List.set_cons_zero, List.set_cons_succ]
                      refine wpAnyH_takeD (i := 1) (d := 131) (v := ?_) rfl rfl (by kernel_rfl) (by kernel_rfl) (by kernel_rfl) (fun _ _ _ h => h) (Or.inl ⟨by rfl, ?_⟩) hHeld ?_
                      rotate_left
                      · rintro w hS4
                        obtain ⟨c0, c1⟩ := HSS.out w hS4
                        go_simp
                        try with_reducible rfl
                      simp only [Act.put, List.setIfInBounds_toArray, List.set_cons_zero, List.set_cons_succ]
                      refine wpAnyH_takeD (i := 2) (d := 132) (v := ?_) rfl rfl (by kernel_rfl) (by kernel_rfl) (by kernel_rfl) (fun _ _ _ h => h) (Or.inl ⟨by rfl, ?_⟩) hHeld ?_
                      rotate_left
                      · rintro w hS4
                        obtain ⟨c0, c1⟩ := HSS.out w hS4
                        go_simp
                        try with_reducible rfl
                      simp only [Act.put, List.setIfInBounds_toArray, List.set_cons_zero, List.set_cons_succ]
                      refine wpAnyH_takeD (i := 3) (d := 133) (v := ?_) rfl rfl (by kernel_rfl) (by kernel_rfl) (by kernel_rfl) (fun _ _ _ h => h) (Or.inl ⟨by rfl, ?_⟩) hHeld ?_
                      rotate_left
                      · rintro w hS4
                        obtain ⟨c0, c1⟩ := HSS.out w hS4
                        go_simp
                        try with_reducible rfl
                      simp only [Act.put, List.setIfInBounds_toArray, List.set_cons_zero, List.set_cons_succ]
                      obtain ⟨p1, p2, p3⟩ := HR10.out.parts (.slice none 0 0) (.int .i64 (z : Int)) (.int .i64 (an : Int)) (.int .i64 14)
                      have HP1 := Lib.hid p1
                      have HP2 := Lib.hid p2
                      have HP3 := Lib.hid p3
                      clear p1 p2 p3
                      refine wpAnyH_ready (rs := [4]) (by kernel_rfl) (by simp) ?_
                      refine AllReadyH.cons rfl (fun K1 hK => ?_) (AllReadyH.nil)
                      go_simp
                      refine hK.out _ _ HP1.out (fun _ => ?_)
                      clear hK K1
                      refine wpAnyH_ready (rs := [5]) (by kernel_rfl) (by simp) ?_
                      refine AllReadyH.cons rfl (fun K1 hK => ?_) (AllReadyH.nil)
                      go_simp
                      refine hK.out _ _ HP2.out (fun _ => ?_)
                      clear hK K1
                      refine wpAnyH_ready (rs := [6]) (by kernel_rfl) (by simp) ?_
                      refine AllReadyH.cons rfl (fun K1 hK => ?_) (AllReadyH.nil)
                      go_simp
                      refine hK.out _ _ HP3.out (fun _ => ?_)
                      clear hK K1
                      refine wpAnyH_done (by kernel_rfl) ?_ _
                      gi_wp2
                      exact ⟨(HFRD.out.trans (setR3_ko bm g6 g7 g8 _ _ _ _)).from_ hbm5, rfl, setR3_ext HE1D.out hg6 hg7 hg8 _ _ _ _, (HFRD.out.trans (setR3_ko bm g6 g7 g8 _ _ _ _)).mks HMK.out, _, _, 14, by decide, HR10.out.set_ _ _ _ _⟩
                    subst hss
                    refine wpIn_region_extW (by rintro ⟨_, _, h⟩; exact h) (by kernel_rfl) (by kernel_rfl) (by kernel_rfl) ?_
                    try dsimp only [List.append]
                    repeat (go_big_quiet_step (fail))
                    refine wpQuiet_nil ?_
                    rintro w10 ⟨⟨_, hE10⟩, rfl⟩
                    try dsimp only
                    have HXU := Lib.hid (HXT.out.extn hE10)
                    have HFRU := Lib.hid (HFRT.out.ext hE10 HXT.out.ext.size)
                    have HIMU := Lib.hid (HIMT.out.ext hE10)
                    have HBU15 := Lib.hid (HBT15.out.below hE10 HBT15.out.lt)
                    have b19u := b19.below hE10 b19.lt
                    have U3 := Lib.hid (later hE10 e3)
                    have u3 := latersU U3.out
                    have u4 := latersU (show _ = some (.string com) from b19u.cell 4)
                    have HKU := Lib.hid hk
                    have HEK2 : Hid (∀ hk' : m8 < et.length, et[m8].d = ⟨Ad, md, cd⟩ ∧ et[m8].p.fd = [(refS, v0)] ∧ et[m8].c = ⟨Ac, mc, cc⟩ ∧ et[m8].p.com = ecom) := fun hk' => by rw [← HEK.out]; exact ⟨rfl, rfl, rfl, rfl⟩
                    have hmt := Lib.hid HXU.out.own.len
                    clear k193 k194 l1 e1 e3 e6 hEtt HEK HFL HPL hk HXT HFRT HIMT HBT15 hE10 hbh
                    gi_wp2
                    by_cases hcz : com.size = 0
                    case pos =>
                      have hce : com.toList.isEmpty = true := by rw [isEmpty_size, hcz]; rfl
                      refine wpIn_region_extW (by rintro ⟨_, _, h⟩; exact h) (by kernel_rfl) (by kernel_rfl) (by kernel_rfl) ?_
                      try dsimp only [List.append]
                      repeat (go_big_quiet_step (fail))
                      refine wpQuiet_nil ?_
                      rintro w11 ⟨⟨_, hE11⟩, rfl⟩
                      try dsimp only
                      have HXZ : Hid (ExS w1 w11 (2 * K + 2) (300 * K) (some ⟨gb, 0, none⟩) mt ct et) := (HXU.out.extn hE11).mono (by omega) (Nat.le_refl _)
                      have HFRZ := Lib.hid (HFRU.out.ext hE11 HXU.out.ext.size)
                      have HIMZ := Lib.hid (HIMU.out.ext hE11)
                      have HBZ15 := Lib.hid (HBU15.out.below hE11 HBU15.out.lt)
                      have HKZ := HKU
                      have HDZ : Hid (∀ hk' : m8 < et.length, et[m8].d = ⟨Ad, md, cd⟩ ∧ et[m8].p.fd = [(refS, v0)]) := fun hk' => ⟨(HEK2.out hk').1, (HEK2.out hk').2.1⟩
                      have HFZ := HFT
                      clear hcz hce u3 u4 b19u hE11
                      have hkz := HKZ.out
                      obtain ⟨hd0, hd1⟩ := HDZ.out hkz
                      obtain ⟨b', off', e0, -, hcs⟩ := HXZ.out.own.sl.at_ (i := m8) (by have := HXZ.out.own.len; omega) (by have := HXZ.out.own.le; omega)
                      simp only [Option.some.injEq, Addr.mk.injEq, and_true] at e0
                      obtain ⟨rfl, rfl⟩ := e0
                      have c6 := hcs m8 hkz 6 (by omega)
                      simp only [entC, List.getElem_cons_zero, List.getElem_cons_succ, Nat.zero_add] at c6
                      rw [hd0] at c6
                      dsimp only at c6
                      have hfz := HXZ.out.fld m8 hkz
                      rw [hd0, hd1] at hfz
                      dsimp only at hfz
                      have hmd : md = 1 := by have := hfz.len; simpa using this
                      obtain ⟨gf, curf, eF, hgf, hbf, -⟩ := hfz.row (by omega)
                      subst eF
                      subst hmd
                      obtain ⟨b', off', e0, -, hcf⟩ := hfz.sl.at_ (i := 0) (by omega) (by omega)
                      simp only [Option.some.injEq, Addr.mk.injEq, and_true] at e0
                      obtain ⟨rfl, rfl⟩ := e0
                      have cv := hcf 0 (by simp) 1 (by omega)
                      simp only [fdC, List.getElem_cons_zero, List.getElem_cons_succ, Nat.zero_add, Nat.zero_mul] at cv
                      have hbF : Blk w11 gf 56 curf := hbf
                      have fzv := hbF.frozen 1
                      have hgbf : gb ≠ gf := by
                        obtain ⟨xs, hxs⟩ := HXZ.out.own.blk_ (g := gb) rfl
                        exact Blk.ne_ hxs hbF (by decide)
                      have c6' : ∀ v, ((w11).setCell ⟨gf, 1, none⟩ v).cell? ⟨gb, m8 * 7 + 6, none⟩ = some (.slice (some ⟨gf, 0, none⟩) 1 cd) := fun v => (World.cell?_setCell_other w11 ⟨gf, 1, none⟩ ⟨gb, m8 * 7 + 6, none⟩ v (fun e => hgbf (by injection e with e; first | exact e | exact e.symm))).trans c6
                      have cv' : ∀ v, ((w11).setCell ⟨gf, 1, none⟩ v).cell? ⟨gf, 1, none⟩ = some v := fun v => World.cell?_setCell_same' _ _ _ (by rw [cv]; rfl)
                      have HBF := Lib.hid hbF
                      have HGF := Lib.hid hgf
                      have hnbm : gf ≠ bm := HIMZ.out.ne_blk hbF
                      have hn15 : g15 ≠ gf := Blk.ne_ HBZ15.out hbF (by decide)
                      have hszz := HXZ.out.ext.size
                      clear hcs hcf hfz hbf hgf hbF hd0 hd1
                      gi_wp2
                      have hx1 := HXZ.out.fldSet (gf := gf) (k := m8) (v := v0 ++ rf) (V' := 300 * (K + 1)) hkz (by rw [(HDZ.out hkz).1]) (by rw [ByteArray.size_append]; omega) (by omega)
                      have HXF := Lib.hid hx1
                      have HFRF := Lib.hid (HFRZ.out.set_ HBF.out (.inr (.inr (.inl rfl))) HGF.out hszz 1 (.string (v0 ++ rf)))
                      have HIMF := Lib.hid (HIMZ.out.kept (grown_setB w11 ⟨gf, 1, none⟩ (.string (v0 ++ rf))) (fun e => hnbm (by injection e with e; exact e.symm)))
                      have HBF15 := Lib.hid (HBZ15.out.far (p := ⟨gf, 1, none⟩) hn15 (.string (v0 ++ rf)))
                      have HFF' : Hid (∀ s v, Ft s = some v → v < ((et).set m8 ⟨{ ((et)[m8]).p with fd := [(refS, v0 ++ rf)] }, ((et)[m8]).c, ((et)[m8]).f, ((et)[m8]).d⟩).length) := fun s v e => by rw [List.length_set]; exact HFZ.out s v e
                      clear hx1
                      have hKK : ∀ x : {x : Occ // OccG tx.size x}, 1000 * z + (pre ++ [x]).length = K + 1 := fun x => by rw [List.length_append, HK.out]; rfl
                      refine ⟨HFRF.out.ko.from_ hbm5, KpO.of_fr HFRF.out HBT'.out HBC'.out, ?_, HFRF.out.blk HB17'.out (by unfold TE; decide), HFRF.out.blk HB18'.out (by unfold TE; decide), HFRF.out.blk HBT'.out (by unfold TE; decide), HFRF.out.blk HBC'.out (by unfold TE; decide), HFRF.out.ko.mks HMK.out, Nat.le_trans hWU HFRF.out.ko.size⟩
                      rw [hKK]
                      exact ⟨HFRF.out.blk HB16.out (by unfold TE; decide), _, _, _, _, _, _, HXF.out.mono (by omega) (Nat.le_refl _), HBF15.out, HIMF.out, (fun s v e => by have := HFF'.out s v e; first | simpa using this | exact this), hnt⟩
                    have hce : com.toList.isEmpty = false := by rw [isEmpty_size]; exact decide_eq_false hcz
                    obtain ⟨bin, hbin⟩ : ∃ b, b = inB ecom com := ⟨_, rfl⟩
                    have HCT : Hid (∀ u : ExtOf w10, Calls Tryz.prog 52 #[.slice Ac mc cc, .string com] u.1 fun e w' => e = .returned (.bool bin) ∧ Ext u.1 w') := fun u => by
                      have h1 := (HXU.out.com m8 HKU.out).sl.ext u.2
                      rw [(HEK2.out HKU.out).2.2.1, (HEK2.out HKU.out).2.2.2] at h1
                      rw [hbin]
                      exact (containsS_any cc h1 com).mono fun e w' ⟨h2, h3⟩ => ⟨h2, by rw [← h3]; exact Ext.refl _⟩
                    clear hbin
                    refine wpIn_region_extW (by rintro ⟨_, _, h⟩; exact h) (by kernel_rfl) (by kernel_rfl) (by kernel_rfl) ?_
                    try dsimp only [List.append]
                    repeat (go_big_quiet_step ((go_at_call 52; with_reducible exact Calls.quiet_ext (HCT.out _))))
                    refine wpQuiet_nil ?_
                    rintro w11 ⟨⟨_, hE11⟩, rfl⟩
                    try dsimp only
                    clear HCT
                    cases bin with
                    | true =>
                      have HXZ : Hid (ExS w1 w11 (2 * K + 2) (300 * K) (some ⟨gb, 0, none⟩) mt ct et) := (HXU.out.extn hE11).mono (by omega) (Nat.le_refl _)
                      have HFRZ := Lib.hid (HFRU.out.ext hE11 HXU.out.ext.size)
                      have HIMZ := Lib.hid (HIMU.out.ext hE11)
                      have HBZ15 := Lib.hid (HBU15.out.below hE11 HBU15.out.lt)
                      have HKZ := HKU
                      have HDZ : Hid (∀ hk' : m8 < et.length, et[m8].d = ⟨Ad, md, cd⟩ ∧ et[m8].p.fd = [(refS, v0)]) := fun hk' => ⟨(HEK2.out hk').1, (HEK2.out hk').2.1⟩
                      have HFZ := HFT
                      clear hcz hce u3 u4 b19u hE11
                      have hkz := HKZ.out
                      obtain ⟨hd0, hd1⟩ := HDZ.out hkz
                      obtain ⟨b', off', e0, -, hcs⟩ := HXZ.out.own.sl.at_ (i := m8) (by have := HXZ.out.own.len; omega) (by have := HXZ.out.own.le; omega)
                      simp only [Option.some.injEq, Addr.mk.injEq, and_true] at e0
                      obtain ⟨rfl, rfl⟩ := e0
                      have c6 := hcs m8 hkz 6 (by omega)
                      simp only [entC, List.getElem_cons_zero, List.getElem_cons_succ, Nat.zero_add] at c6
                      rw [hd0] at c6
                      dsimp only at c6
                      have hfz := HXZ.out.fld m8 hkz
                      rw [hd0, hd1] at hfz
                      dsimp only at hfz
                      have hmd : md = 1 := by have := hfz.len; simpa using this
                      obtain ⟨gf, curf, eF, hgf, hbf, -⟩ := hfz.row (by omega)
                      subst eF
                      subst hmd
                      obtain ⟨b', off', e0, -, hcf⟩ := hfz.sl.at_ (i := 0) (by omega) (by omega)
                      simp only [Option.some.injEq, Addr.mk.injEq, and_true] at e0
                      obtain ⟨rfl, rfl⟩ := e0
                      have cv := hcf 0 (by simp) 1 (by omega)
                      simp only [fdC, List.getElem_cons_zero, List.getElem_cons_succ, Nat.zero_add, Nat.zero_mul] at cv
                      have hbF : Blk w11 gf 56 curf := hbf
                      have fzv := hbF.frozen 1
                      have hgbf : gb ≠ gf := by
                        obtain ⟨xs, hxs⟩ := HXZ.out.own.blk_ (g := gb) rfl
                        exact Blk.ne_ hxs hbF (by decide)
                      have c6' : ∀ v, ((w11).setCell ⟨gf, 1, none⟩ v).cell? ⟨gb, m8 * 7 + 6, none⟩ = some (.slice (some ⟨gf, 0, none⟩) 1 cd) := fun v => (World.cell?_setCell_other w11 ⟨gf, 1, none⟩ ⟨gb, m8 * 7 + 6, none⟩ v (fun e => hgbf (by injection e with e; first | exact e | exact e.symm))).trans c6
                      have cv' : ∀ v, ((w11).setCell ⟨gf, 1, none⟩ v).cell? ⟨gf, 1, none⟩ = some v := fun v => World.cell?_setCell_same' _ _ _ (by rw [cv]; rfl)
                      have HBF := Lib.hid hbF
                      have HGF := Lib.hid hgf
                      have hnbm : gf ≠ bm := HIMZ.out.ne_blk hbF
                      have hn15 : g15 ≠ gf := Blk.ne_ HBZ15.out hbF (by decide)
                      have hszz := HXZ.out.ext.size
                      clear hcs hcf hfz hbf hgf hbF hd0 hd1
                      gi_wp2
                      have hx1 := HXZ.out.fldSet (gf := gf) (k := m8) (v := v0 ++ rf) (V' := 300 * (K + 1)) hkz (by rw [(HDZ.out hkz).1]) (by rw [ByteArray.size_append]; omega) (by omega)
                      have HXF := Lib.hid hx1
                      have HFRF := Lib.hid (HFRZ.out.set_ HBF.out (.inr (.inr (.inl rfl))) HGF.out hszz 1 (.string (v0 ++ rf)))
                      have HIMF := Lib.hid (HIMZ.out.kept (grown_setB w11 ⟨gf, 1, none⟩ (.string (v0 ++ rf))) (fun e => hnbm (by injection e with e; exact e.symm)))
                      have HBF15 := Lib.hid (HBZ15.out.far (p := ⟨gf, 1, none⟩) hn15 (.string (v0 ++ rf)))
                      have HFF' : Hid (∀ s v, Ft s = some v → v < ((et).set m8 ⟨{ ((et)[m8]).p with fd := [(refS, v0 ++ rf)] }, ((et)[m8]).c, ((et)[m8]).f, ((et)[m8]).d⟩).length) := fun s v e => by rw [List.length_set]; exact HFZ.out s v e
                      clear hx1
                      have hKK : ∀ x : {x : Occ // OccG tx.size x}, 1000 * z + (pre ++ [x]).length = K + 1 := fun x => by rw [List.length_append, HK.out]; rfl
                      refine ⟨HFRF.out.ko.from_ hbm5, KpO.of_fr HFRF.out HBT'.out HBC'.out, ?_, HFRF.out.blk HB17'.out (by unfold TE; decide), HFRF.out.blk HB18'.out (by unfold TE; decide), HFRF.out.blk HBT'.out (by unfold TE; decide), HFRF.out.blk HBC'.out (by unfold TE; decide), HFRF.out.ko.mks HMK.out, Nat.le_trans hWU HFRF.out.ko.size⟩
                      rw [hKK]
                      exact ⟨HFRF.out.blk HB16.out (by unfold TE; decide), _, _, _, _, _, _, HXF.out.mono (by omega) (Nat.le_refl _), HBF15.out, HIMF.out, (fun s v e => by have := HFF'.out s v e; first | simpa using this | exact this), hnt⟩
                    | false =>
                      gi_wp2
                      obtain ⟨wd, hwd⟩ : ∃ wd : World, wd = w11.drew := ⟨_, rfl⟩
                      have hEd : Ext w10 wd := by rw [hwd]; exact hE11.drew
                      have HXD := Lib.hid (HXU.out.extn hEd)
                      have HFRD := Lib.hid (HFRU.out.ext hEd HXU.out.ext.size)
                      have HIMD := Lib.hid (HIMU.out.ext hEd)
                      have HBD15 := Lib.hid (HBU15.out.below hEd HBU15.out.lt)
                      have HB19d := Lib.hid (b19u.below hEd b19u.lt)
                      have D3 := laters (later hEd U3.out)
                      have HSS : Hid (∀ W', Blk W' g19 128 #[.int .i64 call, .int .i64 (an : Int), .string id, .string esrc, .string com] → W'.cell? ⟨g19, 4, none⟩ = some (.string com) ∧ True) := fun W' hb => ⟨hb.cell 4, trivial⟩
                      refine wpIn_region_heldW (S := fun W' => Blk W' g19 128 #[.int .i64 call, .int .i64 (an : Int), .string id, .string esrc, .string com]) (by rintro ⟨_, _, h⟩; exact h) (by kernel_rfl) (by kernel_rfl) ?_
                      have hHeld := HB19d.out
                      change wpAnyH _ _ _ _ _ _ _ _ w11.drew
                      rw [← hwd]
                      clear hwd hE11 hEd b19u u3 u4 hce hcz HXU HFRU HIMU HBU15
                      refine wpAnyH_takeD (i := 0) (d := 147) (v := ?_) rfl rfl (by kernel_rfl) (by kernel_rfl) (by kernel_rfl) (fun _ _ _ h => h) (Or.inl ⟨by rfl, ?_⟩) hHeld ?_
                      rotate_left
                      · rintro w hS4
                        obtain ⟨c0, c1⟩ := HSS.out w hS4
                        go_simp
                        try with_reducible rfl
                      simp only [Act.put, List.setIfInBounds_toArray, List.set_cons_zero, List.set_cons_succ]
                      refine wpAnyH_takeD (i := 1) (d := 148) (v := ?_) rfl rfl (by kernel_rfl) (by kernel_rfl) (by kernel_rfl) (fun _ _ _ h => h) (Or.inl ⟨by rfl, ?_⟩) hHeld ?_
                      rotate_left
                      · rintro w hS4
                        obtain ⟨c0, c1⟩ := HSS.out w hS4
                        go_simp
                        try with_reducible rfl
                      simp only [Act.put, List.setIfInBounds_toArray, List.set_cons_zero, List.set_cons_succ]
                      refine wpAnyH_takeD (i := 2) (d := 149) (v := ?_) rfl rfl (by kernel_rfl) (by kernel_rfl) (by kernel_rfl) (fun _ _ _ h => h) (Or.inl ⟨by rfl, ?_⟩) hHeld ?_
                      rotate_left
                      · rintro w hS4
                        obtain ⟨c0, c1⟩ := HSS.out w hS4
                        go_simp
                        try with_reducible rfl
                      simp only [Act.put, List.setIfInBounds_toArray, List.set_cons_zero, List.set_cons_succ]
                      refine wpAnyH_takeD (i := 3) (d := 150) (v := ?_) rfl rfl (by kernel_rfl) (by kernel_rfl) (by kernel_rfl) (fun _ _ _ h => h) (Or.inl ⟨by rfl, ?_⟩) hHeld ?_
                      rotate_left
                      · rintro w hS4
                        obtain ⟨c0, c1⟩ := HSS.out w hS4
                        go_simp
                        try with_reducible rfl
                      simp only [Act.put, List.setIfInBounds_toArray, List.set_cons_zero, List.set_cons_succ]
                      refine wpAnyH_takeD (i := 5) (d := 152) (v := ?_) rfl rfl (by kernel_rfl) (by kernel_rfl) (by kernel_rfl) (fun _ _ _ h => h) (Or.inl ⟨by rfl, ?_⟩) hHeld ?_
                      rotate_left
                      · rintro w hS4
                        obtain ⟨c0, c1⟩ := HSS.out w hS4
                        go_simp
                        try with_reducible rfl
                      simp only [Act.put, List.setIfInBounds_toArray, List.set_cons_zero, List.set_cons_succ]
                      refine wpAnyH_takeD (i := 6) (d := 153) (v := ?_) rfl rfl (by kernel_rfl) (by kernel_rfl) (by kernel_rfl) (fun _ _ _ h => h) (Or.inl ⟨by rfl, ?_⟩) hHeld ?_
                      rotate_left
                      · rintro w hS4
                        obtain ⟨c0, c1⟩ := HSS.out w hS4
                        go_simp
                        try with_reducible rfl
                      simp only [Act.put, List.setIfInBounds_toArray, List.set_cons_zero, List.set_cons_succ]
                      have hEdd := Ext.refl wd
                      have hA19 : Blk (wd.alloc (Obj.cells #[.string com] 9)) g19 128 #[.int .i64 call, .int .i64 (an : Int), .string id, .string esrc, .string com] := HB19d.out.alloc _
                      refine wpAnyH_ready (rs := [4, 7]) (by kernel_rfl) (by simp) ?_
                      refine AllReadyH.cons rfl (fun K1 hK => ?_) (AllReadyH.cons rfl (fun K1 hK => ?_) AllReadyH.nil)
                      · go_simp
                        refine hK.out _ _ hHeld (fun _ => ?_)
                        clear hK K1
                        refine wpAnyH_ready (rs := [7]) (by kernel_rfl) (by simp) ?_
                        refine AllReadyH.cons rfl (fun K1 hK => ?_) AllReadyH.nil
                        go_simp
                        refine hK.out _ _ hA19 (fun _ => ?_)
                        clear hK K1 hA19 hHeld
                        have hk' := HKU.out
                        have hEa : Ext wd (wd.alloc (Obj.cells #[.string com] 9)) := (Ext.refl _).alloc _
                        have hxA := HXD.out.extn hEa
                        have hcA := hxA.com m8 hk'
                        have hclA := (hxA.pl _ (List.getElem_mem hk')).cl
                        rw [(HEK2.out hk').2.2.1, (HEK2.out hk').2.2.2] at hcA
                        rw [(HEK2.out hk').2.2.2] at hclA
                        dsimp only at hcA
                        have hmcl := hcA.len
                        have hnewA := SlC.new_ (cs := strF) wd [com] strF_len (by simp) #[.string com] rfl (0, 0) 1 rfl 9
                        have hszA := hxA.ext.size_le
                        refine wpAnyH_ready (rs := [8]) (by kernel_rfl) (by simp) ?_
                        refine AllReadyH.cons rfl (fun K1 hK => ?_) AllReadyH.nil
                        refine step_appC einfo_ss rfl _ _ rfl hcA rfl hnewA rfl (by omega) hszA ?_
                        intro A2 m2 c2 w8 ho8 hg8 hn8
                        have hf8 : FrT (fun t => t = 9) (wd.alloc (Obj.cells #[.string com] 9)) w8 := FrT.own hcA rfl hg8
                        have hbA := HB19d.out.below hEa HB19d.out.lt
                        have hHeld := hf8 _ _ _ hbA (by decide)
                        refine hK.out _ _ hHeld (fun _ => ?_)
                        clear hK K1
                        refine wpAnyH_takeD (i := 9) (d := 156) (v := ?_) rfl rfl (by kernel_rfl) (by kernel_rfl) (by kernel_rfl) (fun _ _ _ h => h) (Or.inl ⟨by rfl, ?_⟩) hHeld ?_
                        rotate_left
                        · rintro w hS4
                          obtain ⟨c0, c1⟩ := HSS.out w hS4
                          go_simp
                          try with_reducible rfl
                        refine wpAnyH_takeD (i := 10) (d := 157) (v := ?_) rfl rfl (by kernel_rfl) (by kernel_rfl) (by kernel_rfl) (fun _ _ _ h => h) (Or.inl ⟨by rfl, ?_⟩) hHeld ?_
                        rotate_left
                        · rintro w hS4
                          obtain ⟨c0, c1⟩ := HSS.out w hS4
                          go_simp
                          try with_reducible rfl
                        obtain ⟨curE, hcurE⟩ := hxA.own.blk_ (g := gb) rfl
                        have hcurE8 := hf8 _ _ _ hcurE (by decide)
                        have f3_8 := hcurE8.frozen (m8 * 7 + 3)
                        have k3_8 : w8.cell? ⟨gb, m8 * 7 + 3, none⟩ = some (.slice Ac mc cc) := by
                          rw [hcurE8.cell, ← hcurE.cell]
                          exact D3 _ hEa
                        have hx8 := hxA.comAdd rfl hk' hcom (by rw [(HEK2.out hk').2.2.2]; exact ho8) (by rw [(HEK2.out hk').2.2.1]; exact hg8) (by rw [(HEK2.out hk').2.2.1]; exact hn8)
                        have hFRA := HFRD.out.ext hEa HXD.out.ext.size
                        have hFR8 := hFRA.own hcA (.inr (.inl rfl)) (Nat.le_refl _) hszA hg8
                        have hgb1 : w1.heap.size ≤ gb := hgb
                        have hw18 : w1.heap.size ≤ w8.heap.size := Nat.le_trans hszA hg8.size
                        have hFRZ := hFR8.set_ hcurE8 (.inl rfl) hgb1 hw18 (m8 * 7 + 3) (.slice A2 m2 c2)
                        have himA := HIMD.out.ext hEa
                        have him8 : IM w8 bm nt Ft := himA.kept hg8 (fun e => by
                          obtain ⟨xs, hxs⟩ := hcA.blk_ e.symm
                          exact himA.ne_blk hxs rfl)
                        have himZ := him8.kept (grown_setB w8 ⟨gb, m8 * 7 + 3, none⟩ (.slice A2 m2 c2)) (fun e => him8.ne_blk hcurE8 (by injection e with e; exact e.symm))
                        have hb15_8 := hf8 _ _ _ (HBD15.out.below hEa HBD15.out.lt) (by decide)
                        have hbZ15 := hb15_8.far (p := ⟨gb, m8 * 7 + 3, none⟩) (Blk.ne_ hb15_8 hcurE8 (by decide)) (.slice A2 m2 c2)
                        have hHeldZ := hHeld.far (p := ⟨gb, m8 * 7 + 3, none⟩) (Blk.ne_ hHeld hcurE8 (by decide)) (.slice A2 m2 c2)
                        refine wpAnyH_ready (rs := [11]) (by kernel_rfl) (by simp) ?_
                        refine AllReadyH.cons rfl (fun K1 hK => ?_) AllReadyH.nil
                        go_simp
                        refine hK.out _ _ hHeldZ (fun _ => ?_)
                        clear hK K1
                        refine wpAnyH_done (by kernel_rfl) ?_ _
                        obtain ⟨wz, hwz⟩ : ∃ wz, wz = w8.setCell ⟨gb, m8 * 7 + 3, none⟩ (.slice A2 m2 c2) := ⟨_, rfl⟩
                        rw [← hwz] at hx8 hFRZ himZ hbZ15 ⊢
                        have HXZ0 := Lib.hid hx8
                        have HFRZ := Lib.hid hFRZ
                        have HIMZ := Lib.hid himZ
                        have HBZ15 := Lib.hid hbZ15
                        clear hwz hx8 hFRZ himZ hbZ15 hHeldZ hHeld ho8 hg8 hn8 hf8 hbA hcurE hcurE8 f3_8 k3_8 hFRA hFR8 himA him8 hb15_8 hcA hxA hnewA hszA hEa hclA hmcl hw18
                        obtain ⟨ez, hez⟩ : ∃ ez, ez = et.set m8 ⟨{ (et[m8]).p with com := (et[m8]).p.com ++ [com] }, ⟨A2, m2, c2⟩, (et[m8]).f, (et[m8]).d⟩ := ⟨_, rfl⟩
                        have HKZ : Hid (m8 < ez.length) := by show _ < _; rw [hez, List.length_set]; exact hk'
                        have HDZ : Hid (∀ hk2 : m8 < ez.length, ez[m8].d = ⟨Ad, md, cd⟩ ∧ ez[m8].p.fd = [(refS, v0)]) := fun hk2 => by
                          subst hez
                          rw [List.getElem_set_self]
                          exact ⟨(HEK2.out hk').1, (HEK2.out hk').2.1⟩
                        have HFZ : Hid (∀ s v, Ft s = some v → v < ez.length) := fun s v e => by rw [hez, List.length_set]; exact HFT.out s v e
                        have HXZ : Hid (ExS w1 wz (2 * K + 2) (300 * K) (some ⟨gb, 0, none⟩) mt ct ez) := by show ExS _ _ _ _ _ _ _ _; rw [hez]; exact HXZ0.out
                        clear HXZ0 hez hk'
                        have hkz := HKZ.out
                        obtain ⟨hd0, hd1⟩ := HDZ.out hkz
                        obtain ⟨b', off', e0, -, hcs⟩ := HXZ.out.own.sl.at_ (i := m8) (by have := HXZ.out.own.len; omega) (by have := HXZ.out.own.le; omega)
                        simp only [Option.some.injEq, Addr.mk.injEq, and_true] at e0
                        obtain ⟨rfl, rfl⟩ := e0
                        have c6 := hcs m8 hkz 6 (by omega)
                        simp only [entC, List.getElem_cons_zero, List.getElem_cons_succ, Nat.zero_add] at c6
                        rw [hd0] at c6
                        dsimp only at c6
                        have hfz := HXZ.out.fld m8 hkz
                        rw [hd0, hd1] at hfz
                        dsimp only at hfz
                        have hmd : md = 1 := by have := hfz.len; simpa using this
                        obtain ⟨gf, curf, eF, hgf, hbf, -⟩ := hfz.row (by omega)
                        subst eF
                        subst hmd
                        obtain ⟨b', off', e0, -, hcf⟩ := hfz.sl.at_ (i := 0) (by omega) (by omega)
                        simp only [Option.some.injEq, Addr.mk.injEq, and_true] at e0
                        obtain ⟨rfl, rfl⟩ := e0
                        have cv := hcf 0 (by simp) 1 (by omega)
                        simp only [fdC, List.getElem_cons_zero, List.getElem_cons_succ, Nat.zero_add, Nat.zero_mul] at cv
                        have hbF : Blk wz gf 56 curf := hbf
                        have fzv := hbF.frozen 1
                        have hgbf : gb ≠ gf := by
                          obtain ⟨xs, hxs⟩ := HXZ.out.own.blk_ (g := gb) rfl
                          exact Blk.ne_ hxs hbF (by decide)
                        have c6' : ∀ v, ((wz).setCell ⟨gf, 1, none⟩ v).cell? ⟨gb, m8 * 7 + 6, none⟩ = some (.slice (some ⟨gf, 0, none⟩) 1 cd) := fun v => (World.cell?_setCell_other wz ⟨gf, 1, none⟩ ⟨gb, m8 * 7 + 6, none⟩ v (fun e => hgbf (by injection e with e; first | exact e | exact e.symm))).trans c6
                        have cv' : ∀ v, ((wz).setCell ⟨gf, 1, none⟩ v).cell? ⟨gf, 1, none⟩ = some v := fun v => World.cell?_setCell_same' _ _ _ (by rw [cv]; rfl)
                        have HBF := Lib.hid hbF
                        have HGF := Lib.hid hgf
                        have hnbm : gf ≠ bm := HIMZ.out.ne_blk hbF
                        have hn15 : g15 ≠ gf := Blk.ne_ HBZ15.out hbF (by decide)
                        have hszz := HXZ.out.ext.size
                        clear hcs hcf hfz hbf hgf hbF hd0 hd1
                        gi_wp2
                        have hx1 := HXZ.out.fldSet (gf := gf) (k := m8) (v := v0 ++ rf) (V' := 300 * (K + 1)) hkz (by rw [(HDZ.out hkz).1]) (by rw [ByteArray.size_append]; omega) (by omega)
                        have HXF := Lib.hid hx1
                        have HFRF := Lib.hid (HFRZ.out.set_ HBF.out (.inr (.inr (.inl rfl))) HGF.out hszz 1 (.string (v0 ++ rf)))
                        have HIMF := Lib.hid (HIMZ.out.kept (grown_setB wz ⟨gf, 1, none⟩ (.string (v0 ++ rf))) (fun e => hnbm (by injection e with e; exact e.symm)))
                        have HBF15 := Lib.hid (HBZ15.out.far (p := ⟨gf, 1, none⟩) hn15 (.string (v0 ++ rf)))
                        have HFF' : Hid (∀ s v, Ft s = some v → v < ((ez).set m8 ⟨{ ((ez)[m8]).p with fd := [(refS, v0 ++ rf)] }, ((ez)[m8]).c, ((ez)[m8]).f, ((ez)[m8]).d⟩).length) := fun s v e => by rw [List.length_set]; exact HFZ.out s v e
                        clear hx1
                        have hKK : ∀ x : {x : Occ // OccG tx.size x}, 1000 * z + (pre ++ [x]).length = K + 1 := fun x => by rw [List.length_append, HK.out]; rfl
                        refine ⟨HFRF.out.ko.from_ hbm5, KpO.of_fr HFRF.out HBT'.out HBC'.out, ?_, HFRF.out.blk HB17'.out (by unfold TE; decide), HFRF.out.blk HB18'.out (by unfold TE; decide), HFRF.out.blk HBT'.out (by unfold TE; decide), HFRF.out.blk HBC'.out (by unfold TE; decide), HFRF.out.ko.mks HMK.out, Nat.le_trans hWU HFRF.out.ko.size⟩
                        rw [hKK]
                        exact ⟨HFRF.out.blk HB16.out (by unfold TE; decide), _, _, _, _, _, _, HXF.out.mono (by omega) (Nat.le_refl _), HBF15.out, HIMF.out, (fun s v e => by have := HFF'.out s v e; first | simpa using this | exact this), hnt⟩
                      · go_simp
                        refine hK.out _ _ hA19 (fun _ => ?_)
                        clear hK K1
                        refine wpAnyH_ready (rs := [4]) (by kernel_rfl) (by simp) ?_
                        refine AllReadyH.cons rfl (fun K1 hK => ?_) AllReadyH.nil
                        go_simp
                        refine hK.out _ _ hA19 (fun _ => ?_)
                        clear hK K1 hA19 hHeld
                        have hk' := HKU.out
                        have hEa : Ext wd (wd.alloc (Obj.cells #[.string com] 9)) := (Ext.refl _).alloc _
                        have hxA := HXD.out.extn hEa
                        have hcA := hxA.com m8 hk'
                        have hclA := (hxA.pl _ (List.getElem_mem hk')).cl
                        rw [(HEK2.out hk').2.2.1, (HEK2.out hk').2.2.2] at hcA
                        rw [(HEK2.out hk').2.2.2] at hclA
                        dsimp only at hcA
                        have hmcl := hcA.len
                        have hnewA := SlC.new_ (cs := strF) wd [com] strF_len (by simp) #[.string com] rfl (0, 0) 1 rfl 9
                        have hszA := hxA.ext.size_le
                        refine wpAnyH_ready (rs := [8]) (by kernel_rfl) (by simp) ?_
                        refine AllReadyH.cons rfl (fun K1 hK => ?_) AllReadyH.nil
                        refine step_appC einfo_ss rfl _ _ rfl hcA rfl hnewA rfl (by omega) hszA ?_
                        intro A2 m2 c2 w8 ho8 hg8 hn8
                        have hf8 : FrT (fun t => t = 9) (wd.alloc (Obj.cells #[.string com] 9)) w8 := FrT.own hcA rfl hg8
                        have hbA := HB19d.out.below hEa HB19d.out.lt
                        have hHeld := hf8 _ _ _ hbA (by decide)
                        refine hK.out _ _ hHeld (fun _ => ?_)
                        clear hK K1
                        refine wpAnyH_takeD (i := 9) (d := 156) (v := ?_) rfl rfl (by kernel_rfl) (by kernel_rfl) (by kernel_rfl) (fun _ _ _ h => h) (Or.inl ⟨by rfl, ?_⟩) hHeld ?_
                        rotate_left
                        · rintro w hS4
                          obtain ⟨c0, c1⟩ := HSS.out w hS4
                          go_simp
                          try with_reducible rfl
                        refine wpAnyH_takeD (i := 10) (d := 157) (v := ?_) rfl rfl (by kernel_rfl) (by kernel_rfl) (by kernel_rfl) (fun _ _ _ h => h) (Or.inl ⟨by rfl, ?_⟩) hHeld ?_
                        rotate_left
                        · rintro w hS4
                          obtain ⟨c0, c1⟩ := HSS.out w hS4
                          go_simp
                          try with_reducible rfl
                        obtain ⟨curE, hcurE⟩ := hxA.own.blk_ (g := gb) rfl
                        have hcurE8 := hf8 _ _ _ hcurE (by decide)
                        have f3_8 := hcurE8.frozen (m8 * 7 + 3)
                        have k3_8 : w8.cell? ⟨gb, m8 * 7 + 3, none⟩ = some (.slice Ac mc cc) := by
                          rw [hcurE8.cell, ← hcurE.cell]
                          exact D3 _ hEa
                        have hx8 := hxA.comAdd rfl hk' hcom (by rw [(HEK2.out hk').2.2.2]; exact ho8) (by rw [(HEK2.out hk').2.2.1]; exact hg8) (by rw [(HEK2.out hk').2.2.1]; exact hn8)
                        have hFRA := HFRD.out.ext hEa HXD.out.ext.size
                        have hFR8 := hFRA.own hcA (.inr (.inl rfl)) (Nat.le_refl _) hszA hg8
                        have hgb1 : w1.heap.size ≤ gb := hgb
                        have hw18 : w1.heap.size ≤ w8.heap.size := Nat.le_trans hszA hg8.size
                        have hFRZ := hFR8.set_ hcurE8 (.inl rfl) hgb1 hw18 (m8 * 7 + 3) (.slice A2 m2 c2)
                        have himA := HIMD.out.ext hEa
                        have him8 : IM w8 bm nt Ft := himA.kept hg8 (fun e => by
                          obtain ⟨xs, hxs⟩ := hcA.blk_ e.symm
                          exact himA.ne_blk hxs rfl)
                        have himZ := him8.kept (grown_setB w8 ⟨gb, m8 * 7 + 3, none⟩ (.slice A2 m2 c2)) (fun e => him8.ne_blk hcurE8 (by injection e with e; exact e.symm))
                        have hb15_8 := hf8 _ _ _ (HBD15.out.below hEa HBD15.out.lt) (by decide)
                        have hbZ15 := hb15_8.far (p := ⟨gb, m8 * 7 + 3, none⟩) (Blk.ne_ hb15_8 hcurE8 (by decide)) (.slice A2 m2 c2)
                        have hHeldZ := hHeld.far (p := ⟨gb, m8 * 7 + 3, none⟩) (Blk.ne_ hHeld hcurE8 (by decide)) (.slice A2 m2 c2)
                        refine wpAnyH_ready (rs := [11]) (by kernel_rfl) (by simp) ?_
                        refine AllReadyH.cons rfl (fun K1 hK => ?_) AllReadyH.nil
                        go_simp
                        refine hK.out _ _ hHeldZ (fun _ => ?_)
                        clear hK K1
                        refine wpAnyH_done (by kernel_rfl) ?_ _
                        obtain ⟨wz, hwz⟩ : ∃ wz, wz = w8.setCell ⟨gb, m8 * 7 + 3, none⟩ (.slice A2 m2 c2) := ⟨_, rfl⟩
                        rw [← hwz] at hx8 hFRZ himZ hbZ15 ⊢
                        have HXZ0 := Lib.hid hx8
                        have HFRZ := Lib.hid hFRZ
                        have HIMZ := Lib.hid himZ
                        have HBZ15 := Lib.hid hbZ15
                        clear hwz hx8 hFRZ himZ hbZ15 hHeldZ hHeld ho8 hg8 hn8 hf8 hbA hcurE hcurE8 f3_8 k3_8 hFRA hFR8 himA him8 hb15_8 hcA hxA hnewA hszA hEa hclA hmcl hw18
                        obtain ⟨ez, hez⟩ : ∃ ez, ez = et.set m8 ⟨{ (et[m8]).p with com := (et[m8]).p.com ++ [com] }, ⟨A2, m2, c2⟩, (et[m8]).f, (et[m8]).d⟩ := ⟨_, rfl⟩
                        have HKZ : Hid (m8 < ez.length) := by show _ < _; rw [hez, List.length_set]; exact hk'
                        have HDZ : Hid (∀ hk2 : m8 < ez.length, ez[m8].d = ⟨Ad, md, cd⟩ ∧ ez[m8].p.fd = [(refS, v0)]) := fun hk2 => by
                          subst hez
                          rw [List.getElem_set_self]
                          exact ⟨(HEK2.out hk').1, (HEK2.out hk').2.1⟩
                        have HFZ : Hid (∀ s v, Ft s = some v → v < ez.length) := fun s v e => by rw [hez, List.length_set]; exact HFT.out s v e
                        have HXZ : Hid (ExS w1 wz (2 * K + 2) (300 * K) (some ⟨gb, 0, none⟩) mt ct ez) := by show ExS _ _ _ _ _ _ _ _; rw [hez]; exact HXZ0.out
                        clear HXZ0 hez hk'
                        have hkz := HKZ.out
                        obtain ⟨hd0, hd1⟩ := HDZ.out hkz
                        obtain ⟨b', off', e0, -, hcs⟩ := HXZ.out.own.sl.at_ (i := m8) (by have := HXZ.out.own.len; omega) (by have := HXZ.out.own.le; omega)
                        simp only [Option.some.injEq, Addr.mk.injEq, and_true] at e0
                        obtain ⟨rfl, rfl⟩ := e0
                        have c6 := hcs m8 hkz 6 (by omega)
                        simp only [entC, List.getElem_cons_zero, List.getElem_cons_succ, Nat.zero_add] at c6
                        rw [hd0] at c6
                        dsimp only at c6
                        have hfz := HXZ.out.fld m8 hkz
                        rw [hd0, hd1] at hfz
                        dsimp only at hfz
                        have hmd : md = 1 := by have := hfz.len; simpa using this
                        obtain ⟨gf, curf, eF, hgf, hbf, -⟩ := hfz.row (by omega)
                        subst eF
                        subst hmd
                        obtain ⟨b', off', e0, -, hcf⟩ := hfz.sl.at_ (i := 0) (by omega) (by omega)
                        simp only [Option.some.injEq, Addr.mk.injEq, and_true] at e0
                        obtain ⟨rfl, rfl⟩ := e0
                        have cv := hcf 0 (by simp) 1 (by omega)
                        simp only [fdC, List.getElem_cons_zero, List.getElem_cons_succ, Nat.zero_add, Nat.zero_mul] at cv
                        have hbF : Blk wz gf 56 curf := hbf
                        have fzv := hbF.frozen 1
                        have hgbf : gb ≠ gf := by
                          obtain ⟨xs, hxs⟩ := HXZ.out.own.blk_ (g := gb) rfl
                          exact Blk.ne_ hxs hbF (by decide)
                        have c6' : ∀ v, ((wz).setCell ⟨gf, 1, none⟩ v).cell? ⟨gb, m8 * 7 + 6, none⟩ = some (.slice (some ⟨gf, 0, none⟩) 1 cd) := fun v => (World.cell?_setCell_other wz ⟨gf, 1, none⟩ ⟨gb, m8 * 7 + 6, none⟩ v (fun e => hgbf (by injection e with e; first | exact e | exact e.symm))).trans c6
                        have cv' : ∀ v, ((wz).setCell ⟨gf, 1, none⟩ v).cell? ⟨gf, 1, none⟩ = some v := fun v => World.cell?_setCell_same' _ _ _ (by rw [cv]; rfl)
                        have HBF := Lib.hid hbF
                        have HGF := Lib.hid hgf
                        have hnbm : gf ≠ bm := HIMZ.out.ne_blk hbF
                        have hn15 : g15 ≠ gf := Blk.ne_ HBZ15.out hbF (by decide)
                        have hszz := HXZ.out.ext.size
                        clear hcs hcf hfz hbf hgf hbF hd0 hd1
                        gi_wp2
                        have hx1 := HXZ.out.fldSet (gf := gf) (k := m8) (v := v0 ++ rf) (V' := 300 * (K + 1)) hkz (by rw [(HDZ.out hkz).1]) (by rw [ByteArray.size_append]; omega) (by omega)
                        have HXF := Lib.hid hx1
                        have HFRF := Lib.hid (HFRZ.out.set_ HBF.out (.inr (.inr (.inl rfl))) HGF.out hszz 1 (.string (v0 ++ rf)))
                        have HIMF := Lib.hid (HIMZ.out.kept (grown_setB wz ⟨gf, 1, none⟩ (.string (v0 ++ rf))) (fun e => hnbm (by injection e with e; exact e.symm)))
                        have HBF15 := Lib.hid (HBZ15.out.far (p := ⟨gf, 1, none⟩) hn15 (.string (v0 ++ rf)))
                        have HFF' : Hid (∀ s v, Ft s = some v → v < ((ez).set m8 ⟨{ ((ez)[m8]).p with fd := [(refS, v0 ++ rf)] }, ((ez)[m8]).c, ((ez)[m8]).f, ((ez)[m8]).d⟩).length) := fun s v e => by rw [List.length_set]; exact HFZ.out s v e
                        clear hx1
                        have hKK : ∀ x : {x : Occ // OccG tx.size x}, 1000 * z + (pre ++ [x]).length = K + 1 := fun x => by rw [List.length_append, HK.out]; rfl
                        refine ⟨HFRF.out.ko.from_ hbm5, KpO.of_fr HFRF.out HBT'.out HBC'.out, ?_, HFRF.out.blk HB17'.out (by unfold TE; decide), HFRF.out.blk HB18'.out (by unfold TE; decide), HFRF.out.blk HBT'.out (by unfold TE; decide), HFRF.out.blk HBC'.out (by unfold TE; decide), HFRF.out.ko.mks HMK.out, Nat.le_trans hWU HFRF.out.ko.size⟩
                        rw [hKK]
                        exact ⟨HFRF.out.blk HB16.out (by unfold TE; decide), _, _, _, _, _, _, HXF.out.mono (by omega) (Nat.le_refl _), HBF15.out, HIMF.out, (fun s v e => by have := HFF'.out s v e; first | simpa using this | exact this), hnt⟩
                    --S]
                  | some kv =>
                    rw [hFi] at hlk
                    simp only [Option.getD_some, Option.isSome_some] at hlk
                    have hskip : True := trivial
                    --S[ kn
                    have hk := HFF.out id kv hFi
                    have k15_2 := HB15_2.out.cell 0
                    simp at k15_2
                    gi_wp2
                    clear hlk k15_2 k16 k192 hFi
                    have HXT : Hid (ExS w1 w2 (2 * K + 1) (300 * K) A8 m8 c8 es) := HX2.out.mono (by omega) (Nat.le_refl _)
                    have HFRT := HFR2
                    have HIMT := HIM2
                    have HBT15 := HB15_2
                    have HFT := HFF
                    have hnt : ni ≤ K + 1 := by omega
                    clear HX2 HFR2 HIM2 HB15_2 HFF hni hml hm12 HEX HIM HB15'
                    obtain ⟨wt, rfl⟩ : ∃ x : World, x = w2 := ⟨_, rfl⟩
                    obtain ⟨At, rfl⟩ : ∃ x : Option Addr, x = A8 := ⟨_, rfl⟩
                    obtain ⟨mt, rfl⟩ : ∃ x : Nat, x = m8 := ⟨_, rfl⟩
                    obtain ⟨ct, rfl⟩ : ∃ x : Nat, x = c8 := ⟨_, rfl⟩
                    obtain ⟨et, rfl⟩ : ∃ x : List Ent, x = es := ⟨_, rfl⟩
                    obtain ⟨nt, rfl⟩ : ∃ x : Nat, x = ni := ⟨_, rfl⟩
                    obtain ⟨Ft, rfl⟩ : ∃ x : ByteArray → Option Nat, x = F := ⟨_, rfl⟩
                    obtain ⟨gb, cur, eA, hgb, hbh, -⟩ := HXT.out.own.row (by have := HXT.out.own.len; omega)
                    subst eA
                    have hkm : (kv : Int) < (mt : Int) := by have := HXT.out.own.len; omega
                    obtain ⟨y, hek⟩ : ∃ y, y = et[kv] := ⟨_, rfl⟩
                    obtain ⟨b', off', e0, -, hcs⟩ := HXT.out.own.sl.at_ (i := kv) (by omega) (by omega)
                    simp only [Option.some.injEq, Addr.mk.injEq, and_true] at e0
                    obtain ⟨rfl, rfl⟩ := e0
                    have e1 := hcs kv hk 1 (by omega)
                    have e3 := hcs kv hk 3 (by omega)
                    have e6 := hcs kv hk 6 (by omega)
                    have hpl := HXT.out.pl _ (List.getElem_mem hk)
                    have hfl := HXT.out.fld kv hk
                    rw [← hek] at hpl hfl
                    have HEK := Lib.hid hek
                    simp only [← hek, entC, List.getElem_cons_zero, List.getElem_cons_succ, Nat.zero_add] at e1 e3 e6
                    obtain ⟨⟨eid, esrc, etgt, ecom, efl, est, efd⟩, ⟨Ac, mc, cc⟩, ehf, ⟨Ad, md, cd⟩⟩ := y
                    dsimp only at e1 e3 e6 hpl hfl
                    obtain ⟨v0, hv0, hv1⟩ := hpl.fd
                    dsimp only at hv0
                    subst hv0
                    have HPL := Lib.hid hpl
                    have HFL := Lib.hid hfl
                    clear hcs hek hpl hfl
                    have b19 := HFRT.out.blk HB19.out (by unfold TE; decide)
                    have k193 := latersU (show _ = some (.string src) from b19.cell 3)
                    have k194 := latersU (show _ = some (.string com) from b19.cell 4)
                    have l1 := latersU e1
                    have hEtt := Ext.refl wt
                    go_simp
                    gi_wp2
                    by_cases hss : esrc = src
                    case neg =>
                      have hsn : (esrc.toList == src.toList) = false := by rw [beq_eq_false_iff_ne]; exact fun e => hss (toList_iff.1 e)
                      refine wpIn_region_extW (by rintro ⟨_, _, h⟩; exact h) (by kernel_rfl) (by kernel_rfl) (by kernel_rfl) ?_
                      try dsimp only [List.append]
                      repeat (go_big_quiet_step (fail))
                      refine wpQuiet_nil ?_
                      rintro w10 ⟨⟨_, hE10⟩, rfl⟩
                      try dsimp only
                      gi_wp2
                      obtain ⟨wd, hwd⟩ : ∃ wd : World, wd = w10.drew := ⟨_, rfl⟩
                      have hE10d : Ext wt wd := by rw [hwd]; exact hE10.drew
                      have hE110 : Ext w1 wd := HXT.out.ext.trans hE10d
                      have HR10 := Lib.hid (HR.out.ext hE110)
                      have b17 := HFRT.out.blk HB17'.out (by unfold TE; decide)
                      have HB17d := Lib.hid (b17.below hE10d b17.lt)
                      have HB19d := Lib.hid (b19.below hE10d b19.lt)
                      have HSS : Hid (∀ W', FrT TR wd W' → W'.cell? ⟨g17, 0, none⟩ = some (.int .i64 (z : Int)) ∧ W'.cell? ⟨g19, 1, none⟩ = some (.int .i64 (an : Int))) := fun W' hf =>
                        ⟨(hf _ _ _ HB17d.out (by unfold TR; decide)).cell 0, (hf _ _ _ HB19d.out (by unfold TR; decide)).cell 1⟩
                      obtain ⟨r1, r2, r3, r4, r5, r6, r7, r8⟩ := HR10.out.facts
                      have HFRD := Lib.hid (HFRT.out.ko.trans (KO.of_ext hE10d))
                      have HE1D := Lib.hid (hE1.trans hE110)
                      refine wpIn_region_heldW (S := fun W' => FrT TR wd W') (by rintro ⟨_, _, h⟩; exact h) (by kernel_rfl) (by kernel_rfl) ?_
                      have hHeld : FrT TR wd wd := FrT.of_ext (Ext.refl _)
                      change wpAnyH _ _ _ _ _ _ _ _ w10.drew
                      rw [← hwd]
                      clear hwd hE10 hE10d hE110 b17
                      refine wpAnyH_takeD (i := 0) (d := 130) (v := ?_) rfl rfl (by kernel_rfl) (by kernel_rfl) (by kernel_rfl) (fun _ _ _ h => h) (Or.inl ⟨by rfl, ?_⟩) hHeld ?_
                      rotate_left
                      · rintro w hS4
                        obtain ⟨c0, c1⟩ := HSS.out w hS4
                        go_simp
                        try with_reducible rfl
                      simp only [Act.put, List.setIfInBounds_toArray, List.set_cons_zero, List.set_cons_succ]
                      refine wpAnyH_takeD (i := 1) (d := 131) (v := ?_) rfl rfl (by kernel_rfl) (by kernel_rfl) (by kernel_rfl) (fun _ _ _ h => h) (Or.inl ⟨by rfl, ?_⟩) hHeld ?_
                      rotate_left
                      · rintro w hS4
                        obtain ⟨c0, c1⟩ := HSS.out w hS4
                        go_simp
                        try with_reducible rfl
                      simp only [Act.put, List.setIfInBounds_toArray, List.set_cons_zero, List.set_cons_succ]
                      refine wpAnyH_takeD (i := 2) (d := 132) (v := ?_) rfl rfl (by kernel_rfl) (by kernel_rfl) (by kernel_rfl) (fun _ _ _ h => h) (Or.inl ⟨by rfl, ?_⟩) hHeld ?_
                      rotate_left
                      · rintro w hS4
                        obtain ⟨c0, c1⟩ := HSS.out w hS4
                        go_simp
                        try with_reducible rfl
                      simp only [Act.put, List.setIfInBounds_toArray, List.set_cons_zero, List.set_cons_succ]
                      refine wpAnyH_takeD (i := 3) (d := 133) (v := ?_) rfl rfl (by kernel_rfl) (by kernel_rfl) (by kernel_rfl) (fun _ _ _ h => h) (Or.inl ⟨by rfl, ?_⟩) hHeld ?_
                      rotate_left
                      · rintro w hS4
                        obtain ⟨c0, c1⟩ := HSS.out w hS4
                        go_simp
                        try with_reducible rfl
                      simp only [Act.put, List.setIfInBounds_toArray, List.set_cons_zero, List.set_cons_succ]
                      obtain ⟨p1, p2, p3⟩ := HR10.out.parts (.slice none 0 0) (.int .i64 (z : Int)) (.int .i64 (an : Int)) (.int .i64 14)
                      have HP1 := Lib.hid p1
                      have HP2 := Lib.hid p2
                      have HP3 := Lib.hid p3
                      clear p1 p2 p3
                      refine wpAnyH_ready (rs := [4]) (by kernel_rfl) (by simp) ?_
                      refine AllReadyH.cons rfl (fun K1 hK => ?_) (AllReadyH.nil)
                      go_simp
                      refine hK.out _ _ HP1.out (fun _ => ?_)
                      clear hK K1
                      refine wpAnyH_ready (rs := [5]) (by kernel_rfl) (by simp) ?_
                      refine AllReadyH.cons rfl (fun K1 hK => ?_) (AllReadyH.nil)
                      go_simp
                      refine hK.out _ _ HP2.out (fun _ => ?_)
                      clear hK K1
                      refine wpAnyH_ready (rs := [6]) (by kernel_rfl) (by simp) ?_
                      refine AllReadyH.cons rfl (fun K1 hK => ?_) (AllReadyH.nil)
                      go_simp
                      refine hK.out _ _ HP3.out (fun _ => ?_)
                      clear hK K1
                      refine wpAnyH_done (by kernel_rfl) ?_ _
                      gi_wp2
                      exact ⟨(HFRD.out.trans (setR3_ko bm g6 g7 g8 _ _ _ _)).from_ hbm5, rfl, setR3_ext HE1D.out hg6 hg7 hg8 _ _ _ _, (HFRD.out.trans (setR3_ko bm g6 g7 g8 _ _ _ _)).mks HMK.out, _, _, 14, by decide, HR10.out.set_ _ _ _ _⟩
                    subst hss
                    refine wpIn_region_extW (by rintro ⟨_, _, h⟩; exact h) (by kernel_rfl) (by kernel_rfl) (by kernel_rfl) ?_
                    try dsimp only [List.append]
                    repeat (go_big_quiet_step (fail))
                    refine wpQuiet_nil ?_
                    rintro w10 ⟨⟨_, hE10⟩, rfl⟩
                    try dsimp only
                    have HXU := Lib.hid (HXT.out.extn hE10)
                    have HFRU := Lib.hid (HFRT.out.ext hE10 HXT.out.ext.size)
                    have HIMU := Lib.hid (HIMT.out.ext hE10)
                    have HBU15 := Lib.hid (HBT15.out.below hE10 HBT15.out.lt)
                    have b19u := b19.below hE10 b19.lt
                    have U3 := Lib.hid (later hE10 e3)
                    have u3 := latersU U3.out
                    have u4 := latersU (show _ = some (.string com) from b19u.cell 4)
                    have HKU := Lib.hid hk
                    have HEK2 : Hid (∀ hk' : kv < et.length, et[kv].d = ⟨Ad, md, cd⟩ ∧ et[kv].p.fd = [(refS, v0)] ∧ et[kv].c = ⟨Ac, mc, cc⟩ ∧ et[kv].p.com = ecom) := fun hk' => by rw [← HEK.out]; exact ⟨rfl, rfl, rfl, rfl⟩
                    have hmt := Lib.hid HXU.out.own.len
                    clear k193 k194 l1 e1 e3 e6 hEtt HEK HFL HPL hk HXT HFRT HIMT HBT15 hE10 hbh
                    gi_wp2
                    by_cases hcz : com.size = 0
                    case pos =>
                      have hce : com.toList.isEmpty = true := by rw [isEmpty_size, hcz]; rfl
                      refine wpIn_region_extW (by rintro ⟨_, _, h⟩; exact h) (by kernel_rfl) (by kernel_rfl) (by kernel_rfl) ?_
                      try dsimp only [List.append]
                      repeat (go_big_quiet_step (fail))
                      refine wpQuiet_nil ?_
                      rintro w11 ⟨⟨_, hE11⟩, rfl⟩
                      try dsimp only
                      have HXZ : Hid (ExS w1 w11 (2 * K + 2) (300 * K) (some ⟨gb, 0, none⟩) mt ct et) := (HXU.out.extn hE11).mono (by omega) (Nat.le_refl _)
                      have HFRZ := Lib.hid (HFRU.out.ext hE11 HXU.out.ext.size)
                      have HIMZ := Lib.hid (HIMU.out.ext hE11)
                      have HBZ15 := Lib.hid (HBU15.out.below hE11 HBU15.out.lt)
                      have HKZ := HKU
                      have HDZ : Hid (∀ hk' : kv < et.length, et[kv].d = ⟨Ad, md, cd⟩ ∧ et[kv].p.fd = [(refS, v0)]) := fun hk' => ⟨(HEK2.out hk').1, (HEK2.out hk').2.1⟩
                      have HFZ := HFT
                      clear hcz hce u3 u4 b19u hE11
                      have hkz := HKZ.out
                      obtain ⟨hd0, hd1⟩ := HDZ.out hkz
                      obtain ⟨b', off', e0, -, hcs⟩ := HXZ.out.own.sl.at_ (i := kv) (by have := HXZ.out.own.len; omega) (by have := HXZ.out.own.le; omega)
                      simp only [Option.some.injEq, Addr.mk.injEq, and_true] at e0
                      obtain ⟨rfl, rfl⟩ := e0
                      have c6 := hcs kv hkz 6 (by omega)
                      simp only [entC, List.getElem_cons_zero, List.getElem_cons_succ, Nat.zero_add] at c6
                      rw [hd0] at c6
                      dsimp only at c6
                      have hfz := HXZ.out.fld kv hkz
                      rw [hd0, hd1] at hfz
                      dsimp only at hfz
                      have hmd : md = 1 := by have := hfz.len; simpa using this
                      obtain ⟨gf, curf, eF, hgf, hbf, -⟩ := hfz.row (by omega)
                      subst eF
                      subst hmd
                      obtain ⟨b', off', e0, -, hcf⟩ := hfz.sl.at_ (i := 0) (by omega) (by omega)
                      simp only [Option.some.injEq, Addr.mk.injEq, and_true] at e0
                      obtain ⟨rfl, rfl⟩ := e0
                      have cv := hcf 0 (by simp) 1 (by omega)
                      simp only [fdC, List.getElem_cons_zero, List.getElem_cons_succ, Nat.zero_add, Nat.zero_mul] at cv
                      have hbF : Blk w11 gf 56 curf := hbf
                      have fzv := hbF.frozen 1
                      have hgbf : gb ≠ gf := by
                        obtain ⟨xs, hxs⟩ := HXZ.out.own.blk_ (g := gb) rfl
                        exact Blk.ne_ hxs hbF (by decide)
                      have c6' : ∀ v, ((w11).setCell ⟨gf, 1, none⟩ v).cell? ⟨gb, kv * 7 + 6, none⟩ = some (.slice (some ⟨gf, 0, none⟩) 1 cd) := fun v => (World.cell?_setCell_other w11 ⟨gf, 1, none⟩ ⟨gb, kv * 7 + 6, none⟩ v (fun e => hgbf (by injection e with e; first | exact e | exact e.symm))).trans c6
                      have cv' : ∀ v, ((w11).setCell ⟨gf, 1, none⟩ v).cell? ⟨gf, 1, none⟩ = some v := fun v => World.cell?_setCell_same' _ _ _ (by rw [cv]; rfl)
                      have HBF := Lib.hid hbF
                      have HGF := Lib.hid hgf
                      have hnbm : gf ≠ bm := HIMZ.out.ne_blk hbF
                      have hn15 : g15 ≠ gf := Blk.ne_ HBZ15.out hbF (by decide)
                      have hszz := HXZ.out.ext.size
                      clear hcs hcf hfz hbf hgf hbF hd0 hd1
                      gi_wp2
                      have hs1 : (v0 ++ (⟨#[32]⟩ : ByteArray)).size = v0.size + 1 := by rw [ByteArray.size_append]; rfl
                      have hx1 := HXZ.out.fldSet (gf := gf) (k := kv) (v := v0 ++ (⟨#[32]⟩ : ByteArray)) (V' := 300 * K + 1) hkz (by rw [(HDZ.out hkz).1]) (by omega) (by omega)
                      have hx2 := hx1.fldSet (gf := gf) (k := kv) (v := v0 ++ (⟨#[32]⟩ : ByteArray) ++ rf) (V' := 300 * (K + 1)) (by rw [List.length_set]; exact hkz) (by rw [List.getElem_set_self]; dsimp only; rw [(HDZ.out hkz).1]) (by rw [ByteArray.size_append]; omega) (by omega)
                      have HXF := Lib.hid hx2
                      have HFRF := Lib.hid ((HFRZ.out.set_ HBF.out (.inr (.inr (.inl rfl))) HGF.out hszz 1 (.string (v0 ++ (⟨#[32]⟩ : ByteArray)))).set_ (HBF.out.set_ 1 (.string (v0 ++ (⟨#[32]⟩ : ByteArray)))) (.inr (.inr (.inl rfl))) HGF.out (Nat.le_trans hszz (KeepsWalks.setCell _ _ _).size) 1 (.string (v0 ++ (⟨#[32]⟩ : ByteArray) ++ rf)))
                      have HIMF := Lib.hid ((HIMZ.out.kept (grown_setB w11 ⟨gf, 1, none⟩ (.string (v0 ++ (⟨#[32]⟩ : ByteArray)))) (fun e => hnbm (by injection e with e; exact e.symm))).kept (grown_setB _ ⟨gf, 1, none⟩ (.string (v0 ++ (⟨#[32]⟩ : ByteArray) ++ rf))) (fun e => hnbm (by injection e with e; exact e.symm)))
                      have HBF15 := Lib.hid ((HBZ15.out.far (p := ⟨gf, 1, none⟩) hn15 (.string (v0 ++ (⟨#[32]⟩ : ByteArray)))).far (p := ⟨gf, 1, none⟩) hn15 (.string (v0 ++ (⟨#[32]⟩ : ByteArray) ++ rf)))
                      have HFF' : Hid (∀ s v, Ft s = some v → v < (et).length) := HFZ
                      clear hx1 hx2
                      have hKK : ∀ x : {x : Occ // OccG tx.size x}, 1000 * z + (pre ++ [x]).length = K + 1 := fun x => by rw [List.length_append, HK.out]; rfl
                      refine ⟨HFRF.out.ko.from_ hbm5, KpO.of_fr HFRF.out HBT'.out HBC'.out, ?_, HFRF.out.blk HB17'.out (by unfold TE; decide), HFRF.out.blk HB18'.out (by unfold TE; decide), HFRF.out.blk HBT'.out (by unfold TE; decide), HFRF.out.blk HBC'.out (by unfold TE; decide), HFRF.out.ko.mks HMK.out, Nat.le_trans hWU HFRF.out.ko.size⟩
                      rw [hKK]
                      exact ⟨HFRF.out.blk HB16.out (by unfold TE; decide), _, _, _, _, _, _, HXF.out.mono (by omega) (Nat.le_refl _), HBF15.out, HIMF.out, (fun s v e => by have := HFF'.out s v e; first | simpa using this | exact this), hnt⟩
                    have hce : com.toList.isEmpty = false := by rw [isEmpty_size]; exact decide_eq_false hcz
                    obtain ⟨bin, hbin⟩ : ∃ b, b = inB ecom com := ⟨_, rfl⟩
                    have HCT : Hid (∀ u : ExtOf w10, Calls Tryz.prog 52 #[.slice Ac mc cc, .string com] u.1 fun e w' => e = .returned (.bool bin) ∧ Ext u.1 w') := fun u => by
                      have h1 := (HXU.out.com kv HKU.out).sl.ext u.2
                      rw [(HEK2.out HKU.out).2.2.1, (HEK2.out HKU.out).2.2.2] at h1
                      rw [hbin]
                      exact (containsS_any cc h1 com).mono fun e w' ⟨h2, h3⟩ => ⟨h2, by rw [← h3]; exact Ext.refl _⟩
                    clear hbin
                    refine wpIn_region_extW (by rintro ⟨_, _, h⟩; exact h) (by kernel_rfl) (by kernel_rfl) (by kernel_rfl) ?_
                    try dsimp only [List.append]
                    repeat (go_big_quiet_step ((go_at_call 52; with_reducible exact Calls.quiet_ext (HCT.out _))))
                    refine wpQuiet_nil ?_
                    rintro w11 ⟨⟨_, hE11⟩, rfl⟩
                    try dsimp only
                    clear HCT
                    cases bin with
                    | true =>
                      have HXZ : Hid (ExS w1 w11 (2 * K + 2) (300 * K) (some ⟨gb, 0, none⟩) mt ct et) := (HXU.out.extn hE11).mono (by omega) (Nat.le_refl _)
                      have HFRZ := Lib.hid (HFRU.out.ext hE11 HXU.out.ext.size)
                      have HIMZ := Lib.hid (HIMU.out.ext hE11)
                      have HBZ15 := Lib.hid (HBU15.out.below hE11 HBU15.out.lt)
                      have HKZ := HKU
                      have HDZ : Hid (∀ hk' : kv < et.length, et[kv].d = ⟨Ad, md, cd⟩ ∧ et[kv].p.fd = [(refS, v0)]) := fun hk' => ⟨(HEK2.out hk').1, (HEK2.out hk').2.1⟩
                      have HFZ := HFT
                      clear hcz hce u3 u4 b19u hE11
                      have hkz := HKZ.out
                      obtain ⟨hd0, hd1⟩ := HDZ.out hkz
                      obtain ⟨b', off', e0, -, hcs⟩ := HXZ.out.own.sl.at_ (i := kv) (by have := HXZ.out.own.len; omega) (by have := HXZ.out.own.le; omega)
                      simp only [Option.some.injEq, Addr.mk.injEq, and_true] at e0
                      obtain ⟨rfl, rfl⟩ := e0
                      have c6 := hcs kv hkz 6 (by omega)
                      simp only [entC, List.getElem_cons_zero, List.getElem_cons_succ, Nat.zero_add] at c6
                      rw [hd0] at c6
                      dsimp only at c6
                      have hfz := HXZ.out.fld kv hkz
                      rw [hd0, hd1] at hfz
                      dsimp only at hfz
                      have hmd : md = 1 := by have := hfz.len; simpa using this
                      obtain ⟨gf, curf, eF, hgf, hbf, -⟩ := hfz.row (by omega)
                      subst eF
                      subst hmd
                      obtain ⟨b', off', e0, -, hcf⟩ := hfz.sl.at_ (i := 0) (by omega) (by omega)
                      simp only [Option.some.injEq, Addr.mk.injEq, and_true] at e0
                      obtain ⟨rfl, rfl⟩ := e0
                      have cv := hcf 0 (by simp) 1 (by omega)
                      simp only [fdC, List.getElem_cons_zero, List.getElem_cons_succ, Nat.zero_add, Nat.zero_mul] at cv
                      have hbF : Blk w11 gf 56 curf := hbf
                      have fzv := hbF.frozen 1
                      have hgbf : gb ≠ gf := by
                        obtain ⟨xs, hxs⟩ := HXZ.out.own.blk_ (g := gb) rfl
                        exact Blk.ne_ hxs hbF (by decide)
                      have c6' : ∀ v, ((w11).setCell ⟨gf, 1, none⟩ v).cell? ⟨gb, kv * 7 + 6, none⟩ = some (.slice (some ⟨gf, 0, none⟩) 1 cd) := fun v => (World.cell?_setCell_other w11 ⟨gf, 1, none⟩ ⟨gb, kv * 7 + 6, none⟩ v (fun e => hgbf (by injection e with e; first | exact e | exact e.symm))).trans c6
                      have cv' : ∀ v, ((w11).setCell ⟨gf, 1, none⟩ v).cell? ⟨gf, 1, none⟩ = some v := fun v => World.cell?_setCell_same' _ _ _ (by rw [cv]; rfl)
                      have HBF := Lib.hid hbF
                      have HGF := Lib.hid hgf
                      have hnbm : gf ≠ bm := HIMZ.out.ne_blk hbF
                      have hn15 : g15 ≠ gf := Blk.ne_ HBZ15.out hbF (by decide)
                      have hszz := HXZ.out.ext.size
                      clear hcs hcf hfz hbf hgf hbF hd0 hd1
                      gi_wp2
                      have hs1 : (v0 ++ (⟨#[32]⟩ : ByteArray)).size = v0.size + 1 := by rw [ByteArray.size_append]; rfl
                      have hx1 := HXZ.out.fldSet (gf := gf) (k := kv) (v := v0 ++ (⟨#[32]⟩ : ByteArray)) (V' := 300 * K + 1) hkz (by rw [(HDZ.out hkz).1]) (by omega) (by omega)
                      have hx2 := hx1.fldSet (gf := gf) (k := kv) (v := v0 ++ (⟨#[32]⟩ : ByteArray) ++ rf) (V' := 300 * (K + 1)) (by rw [List.length_set]; exact hkz) (by rw [List.getElem_set_self]; dsimp only; rw [(HDZ.out hkz).1]) (by rw [ByteArray.size_append]; omega) (by omega)
                      have HXF := Lib.hid hx2
                      have HFRF := Lib.hid ((HFRZ.out.set_ HBF.out (.inr (.inr (.inl rfl))) HGF.out hszz 1 (.string (v0 ++ (⟨#[32]⟩ : ByteArray)))).set_ (HBF.out.set_ 1 (.string (v0 ++ (⟨#[32]⟩ : ByteArray)))) (.inr (.inr (.inl rfl))) HGF.out (Nat.le_trans hszz (KeepsWalks.setCell _ _ _).size) 1 (.string (v0 ++ (⟨#[32]⟩ : ByteArray) ++ rf)))
                      have HIMF := Lib.hid ((HIMZ.out.kept (grown_setB w11 ⟨gf, 1, none⟩ (.string (v0 ++ (⟨#[32]⟩ : ByteArray)))) (fun e => hnbm (by injection e with e; exact e.symm))).kept (grown_setB _ ⟨gf, 1, none⟩ (.string (v0 ++ (⟨#[32]⟩ : ByteArray) ++ rf))) (fun e => hnbm (by injection e with e; exact e.symm)))
                      have HBF15 := Lib.hid ((HBZ15.out.far (p := ⟨gf, 1, none⟩) hn15 (.string (v0 ++ (⟨#[32]⟩ : ByteArray)))).far (p := ⟨gf, 1, none⟩) hn15 (.string (v0 ++ (⟨#[32]⟩ : ByteArray) ++ rf)))
                      have HFF' : Hid (∀ s v, Ft s = some v → v < (et).length) := HFZ
                      clear hx1 hx2
                      have hKK : ∀ x : {x : Occ // OccG tx.size x}, 1000 * z + (pre ++ [x]).length = K + 1 := fun x => by rw [List.length_append, HK.out]; rfl
                      refine ⟨HFRF.out.ko.from_ hbm5, KpO.of_fr HFRF.out HBT'.out HBC'.out, ?_, HFRF.out.blk HB17'.out (by unfold TE; decide), HFRF.out.blk HB18'.out (by unfold TE; decide), HFRF.out.blk HBT'.out (by unfold TE; decide), HFRF.out.blk HBC'.out (by unfold TE; decide), HFRF.out.ko.mks HMK.out, Nat.le_trans hWU HFRF.out.ko.size⟩
                      rw [hKK]
                      exact ⟨HFRF.out.blk HB16.out (by unfold TE; decide), _, _, _, _, _, _, HXF.out.mono (by omega) (Nat.le_refl _), HBF15.out, HIMF.out, (fun s v e => by have := HFF'.out s v e; first | simpa using this | exact this), hnt⟩
                    | false =>
                      gi_wp2
                      obtain ⟨wd, hwd⟩ : ∃ wd : World, wd = w11.drew := ⟨_, rfl⟩
                      have hEd : Ext w10 wd := by rw [hwd]; exact hE11.drew
                      have HXD := Lib.hid (HXU.out.extn hEd)
                      have HFRD := Lib.hid (HFRU.out.ext hEd HXU.out.ext.size)
                      have HIMD := Lib.hid (HIMU.out.ext hEd)
                      have HBD15 := Lib.hid (HBU15.out.below hEd HBU15.out.lt)
                      have HB19d := Lib.hid (b19u.below hEd b19u.lt)
                      have D3 := laters (later hEd U3.out)
                      have HSS : Hid (∀ W', Blk W' g19 128 #[.int .i64 call, .int .i64 (an : Int), .string id, .string esrc, .string com] → W'.cell? ⟨g19, 4, none⟩ = some (.string com) ∧ True) := fun W' hb => ⟨hb.cell 4, trivial⟩
                      refine wpIn_region_heldW (S := fun W' => Blk W' g19 128 #[.int .i64 call, .int .i64 (an : Int), .string id, .string esrc, .string com]) (by rintro ⟨_, _, h⟩; exact h) (by kernel_rfl) (by kernel_rfl) ?_
                      have hHeld := HB19d.out
                      change wpAnyH _ _ _ _ _ _ _ _ w11.drew
                      rw [← hwd]
                      clear hwd hE11 hEd b19u u3 u4 hce hcz HXU HFRU HIMU HBU15
                      refine wpAnyH_takeD (i := 0) (d := 147) (v := ?_) rfl rfl (by kernel_rfl) (by kernel_rfl) (by kernel_rfl) (fun _ _ _ h => h) (Or.inl ⟨by rfl, ?_⟩) hHeld ?_
                      rotate_left
                      · rintro w hS4
                        obtain ⟨c0, c1⟩ := HSS.out w hS4
                        go_simp
                        try with_reducible rfl
                      simp only [Act.put, List.setIfInBounds_toArray, List.set_cons_zero, List.set_cons_succ]
                      refine wpAnyH_takeD (i := 1) (d := 148) (v := ?_) rfl rfl (by kernel_rfl) (by kernel_rfl) (by kernel_rfl) (fun _ _ _ h => h) (Or.inl ⟨by rfl, ?_⟩) hHeld ?_
                      rotate_left
                      · rintro w hS4
                        obtain ⟨c0, c1⟩ := HSS.out w hS4
                        go_simp
                        try with_reducible rfl
                      simp only [Act.put, List.setIfInBounds_toArray, List.set_cons_zero, List.set_cons_succ]
                      refine wpAnyH_takeD (i := 2) (d := 149) (v := ?_) rfl rfl (by kernel_rfl) (by kernel_rfl) (by kernel_rfl) (fun _ _ _ h => h) (Or.inl ⟨by rfl, ?_⟩) hHeld ?_
                      rotate_left
                      · rintro w hS4
                        obtain ⟨c0, c1⟩ := HSS.out w hS4
                        go_simp
                        try with_reducible rfl
                      simp only [Act.put, List.setIfInBounds_toArray, List.set_cons_zero, List.set_cons_succ]
                      refine wpAnyH_takeD (i := 3) (d := 150) (v := ?_) rfl rfl (by kernel_rfl) (by kernel_rfl) (by kernel_rfl) (fun _ _ _ h => h) (Or.inl ⟨by rfl, ?_⟩) hHeld ?_
                      rotate_left
                      · rintro w hS4
                        obtain ⟨c0, c1⟩ := HSS.out w hS4
                        go_simp
                        try with_reducible rfl
                      simp only [Act.put, List.setIfInBounds_toArray, List.set_cons_zero, List.set_cons_succ]
                      refine wpAnyH_takeD (i := 5) (d := 152) (v := ?_) rfl rfl (by kernel_rfl) (by kernel_rfl) (by kernel_rfl) (fun _ _ _ h => h) (Or.inl ⟨by rfl, ?_⟩) hHeld ?_
                      rotate_left
                      · rintro w hS4
                        obtain ⟨c0, c1⟩ := HSS.out w hS4
                        go_simp
                        try with_reducible rfl
                      simp only [Act.put, List.setIfInBounds_toArray, List.set_cons_zero, List.set_cons_succ]
                      refine wpAnyH_takeD (i := 6) (d := 153) (v := ?_) rfl rfl (by kernel_rfl) (by kernel_rfl) (by kernel_rfl) (fun _ _ _ h => h) (Or.inl ⟨by rfl, ?_⟩) hHeld ?_
                      rotate_left
                      · rintro w hS4
                        obtain ⟨c0, c1⟩ := HSS.out w hS4
                        go_simp
                        try with_reducible rfl
                      simp only [Act.put, List.setIfInBounds_toArray, List.set_cons_zero, List.set_cons_succ]
                      have hEdd := Ext.refl wd
                      have hA19 : Blk (wd.alloc (Obj.cells #[.string com] 9)) g19 128 #[.int .i64 call, .int .i64 (an : Int), .string id, .string esrc, .string com] := HB19d.out.alloc _
                      refine wpAnyH_ready (rs := [4, 7]) (by kernel_rfl) (by simp) ?_
                      refine AllReadyH.cons rfl (fun K1 hK => ?_) (AllReadyH.cons rfl (fun K1 hK => ?_) AllReadyH.nil)
                      · go_simp
                        refine hK.out _ _ hHeld (fun _ => ?_)
                        clear hK K1
                        refine wpAnyH_ready (rs := [7]) (by kernel_rfl) (by simp) ?_
                        refine AllReadyH.cons rfl (fun K1 hK => ?_) AllReadyH.nil
                        go_simp
                        refine hK.out _ _ hA19 (fun _ => ?_)
                        clear hK K1 hA19 hHeld
                        have hk' := HKU.out
                        have hEa : Ext wd (wd.alloc (Obj.cells #[.string com] 9)) := (Ext.refl _).alloc _
                        have hxA := HXD.out.extn hEa
                        have hcA := hxA.com kv hk'
                        have hclA := (hxA.pl _ (List.getElem_mem hk')).cl
                        rw [(HEK2.out hk').2.2.1, (HEK2.out hk').2.2.2] at hcA
                        rw [(HEK2.out hk').2.2.2] at hclA
                        dsimp only at hcA
                        have hmcl := hcA.len
                        have hnewA := SlC.new_ (cs := strF) wd [com] strF_len (by simp) #[.string com] rfl (0, 0) 1 rfl 9
                        have hszA := hxA.ext.size_le
                        refine wpAnyH_ready (rs := [8]) (by kernel_rfl) (by simp) ?_
                        refine AllReadyH.cons rfl (fun K1 hK => ?_) AllReadyH.nil
                        refine step_appC einfo_ss rfl _ _ rfl hcA rfl hnewA rfl (by omega) hszA ?_
                        intro A2 m2 c2 w8 ho8 hg8 hn8
                        have hf8 : FrT (fun t => t = 9) (wd.alloc (Obj.cells #[.string com] 9)) w8 := FrT.own hcA rfl hg8
                        have hbA := HB19d.out.below hEa HB19d.out.lt
                        have hHeld := hf8 _ _ _ hbA (by decide)
                        refine hK.out _ _ hHeld (fun _ => ?_)
                        clear hK K1
                        refine wpAnyH_takeD (i := 9) (d := 156) (v := ?_) rfl rfl (by kernel_rfl) (by kernel_rfl) (by kernel_rfl) (fun _ _ _ h => h) (Or.inl ⟨by rfl, ?_⟩) hHeld ?_
                        rotate_left
                        · rintro w hS4
                          obtain ⟨c0, c1⟩ := HSS.out w hS4
                          go_simp
                          try with_reducible rfl
                        refine wpAnyH_takeD (i := 10) (d := 157) (v := ?_) rfl rfl (by kernel_rfl) (by kernel_rfl) (by kernel_rfl) (fun _ _ _ h => h) (Or.inl ⟨by rfl, ?_⟩) hHeld ?_
                        rotate_left
                        · rintro w hS4
                          obtain ⟨c0, c1⟩ := HSS.out w hS4
                          go_simp
                          try with_reducible rfl
                        obtain ⟨curE, hcurE⟩ := hxA.own.blk_ (g := gb) rfl
                        have hcurE8 := hf8 _ _ _ hcurE (by decide)
                        have f3_8 := hcurE8.frozen (kv * 7 + 3)
                        have k3_8 : w8.cell? ⟨gb, kv * 7 + 3, none⟩ = some (.slice Ac mc cc) := by
                          rw [hcurE8.cell, ← hcurE.cell]
                          exact D3 _ hEa
                        have hx8 := hxA.comAdd rfl hk' hcom (by rw [(HEK2.out hk').2.2.2]; exact ho8) (by rw [(HEK2.out hk').2.2.1]; exact hg8) (by rw [(HEK2.out hk').2.2.1]; exact hn8)
                        have hFRA := HFRD.out.ext hEa HXD.out.ext.size
                        have hFR8 := hFRA.own hcA (.inr (.inl rfl)) (Nat.le_refl _) hszA hg8
                        have hgb1 : w1.heap.size ≤ gb := hgb
                        have hw18 : w1.heap.size ≤ w8.heap.size := Nat.le_trans hszA hg8.size
                        have hFRZ := hFR8.set_ hcurE8 (.inl rfl) hgb1 hw18 (kv * 7 + 3) (.slice A2 m2 c2)
                        have himA := HIMD.out.ext hEa
                        have him8 : IM w8 bm nt Ft := himA.kept hg8 (fun e => by
                          obtain ⟨xs, hxs⟩ := hcA.blk_ e.symm
                          exact himA.ne_blk hxs rfl)
                        have himZ := him8.kept (grown_setB w8 ⟨gb, kv * 7 + 3, none⟩ (.slice A2 m2 c2)) (fun e => him8.ne_blk hcurE8 (by injection e with e; exact e.symm))
                        have hb15_8 := hf8 _ _ _ (HBD15.out.below hEa HBD15.out.lt) (by decide)
                        have hbZ15 := hb15_8.far (p := ⟨gb, kv * 7 + 3, none⟩) (Blk.ne_ hb15_8 hcurE8 (by decide)) (.slice A2 m2 c2)
                        have hHeldZ := hHeld.far (p := ⟨gb, kv * 7 + 3, none⟩) (Blk.ne_ hHeld hcurE8 (by decide)) (.slice A2 m2 c2)
                        refine wpAnyH_ready (rs := [11]) (by kernel_rfl) (by simp) ?_
                        refine AllReadyH.cons rfl (fun K1 hK => ?_) AllReadyH.nil
                        go_simp
                        refine hK.out _ _ hHeldZ (fun _ => ?_)
                        clear hK K1
                        refine wpAnyH_done (by kernel_rfl) ?_ _
                        obtain ⟨wz, hwz⟩ : ∃ wz, wz = w8.setCell ⟨gb, kv * 7 + 3, none⟩ (.slice A2 m2 c2) := ⟨_, rfl⟩
                        rw [← hwz] at hx8 hFRZ himZ hbZ15 ⊢
                        have HXZ0 := Lib.hid hx8
                        have HFRZ := Lib.hid hFRZ
                        have HIMZ := Lib.hid himZ
                        have HBZ15 := Lib.hid hbZ15
                        clear hwz hx8 hFRZ himZ hbZ15 hHeldZ hHeld ho8 hg8 hn8 hf8 hbA hcurE hcurE8 f3_8 k3_8 hFRA hFR8 himA him8 hb15_8 hcA hxA hnewA hszA hEa hclA hmcl hw18
                        obtain ⟨ez, hez⟩ : ∃ ez, ez = et.set kv ⟨{ (et[kv]).p with com := (et[kv]).p.com ++ [com] }, ⟨A2, m2, c2⟩, (et[kv]).f, (et[kv]).d⟩ := ⟨_, rfl⟩
                        have HKZ : Hid (kv < ez.length) := by show _ < _; rw [hez, List.length_set]; exact hk'
                        have HDZ : Hid (∀ hk2 : kv < ez.length, ez[kv].d = ⟨Ad, md, cd⟩ ∧ ez[kv].p.fd = [(refS, v0)]) := fun hk2 => by
                          subst hez
                          rw [List.getElem_set_self]
                          exact ⟨(HEK2.out hk').1, (HEK2.out hk').2.1⟩
                        have HFZ : Hid (∀ s v, Ft s = some v → v < ez.length) := fun s v e => by rw [hez, List.length_set]; exact HFT.out s v e
                        have HXZ : Hid (ExS w1 wz (2 * K + 2) (300 * K) (some ⟨gb, 0, none⟩) mt ct ez) := by show ExS _ _ _ _ _ _ _ _; rw [hez]; exact HXZ0.out
                        clear HXZ0 hez hk'
                        have hkz := HKZ.out
                        obtain ⟨hd0, hd1⟩ := HDZ.out hkz
                        obtain ⟨b', off', e0, -, hcs⟩ := HXZ.out.own.sl.at_ (i := kv) (by have := HXZ.out.own.len; omega) (by have := HXZ.out.own.le; omega)
                        simp only [Option.some.injEq, Addr.mk.injEq, and_true] at e0
                        obtain ⟨rfl, rfl⟩ := e0
                        have c6 := hcs kv hkz 6 (by omega)
                        simp only [entC, List.getElem_cons_zero, List.getElem_cons_succ, Nat.zero_add] at c6
                        rw [hd0] at c6
                        dsimp only at c6
                        have hfz := HXZ.out.fld kv hkz
                        rw [hd0, hd1] at hfz
                        dsimp only at hfz
                        have hmd : md = 1 := by have := hfz.len; simpa using this
                        obtain ⟨gf, curf, eF, hgf, hbf, -⟩ := hfz.row (by omega)
                        subst eF
                        subst hmd
                        obtain ⟨b', off', e0, -, hcf⟩ := hfz.sl.at_ (i := 0) (by omega) (by omega)
                        simp only [Option.some.injEq, Addr.mk.injEq, and_true] at e0
                        obtain ⟨rfl, rfl⟩ := e0
                        have cv := hcf 0 (by simp) 1 (by omega)
                        simp only [fdC, List.getElem_cons_zero, List.getElem_cons_succ, Nat.zero_add, Nat.zero_mul] at cv
                        have hbF : Blk wz gf 56 curf := hbf
                        have fzv := hbF.frozen 1
                        have hgbf : gb ≠ gf := by
                          obtain ⟨xs, hxs⟩ := HXZ.out.own.blk_ (g := gb) rfl
                          exact Blk.ne_ hxs hbF (by decide)
                        have c6' : ∀ v, ((wz).setCell ⟨gf, 1, none⟩ v).cell? ⟨gb, kv * 7 + 6, none⟩ = some (.slice (some ⟨gf, 0, none⟩) 1 cd) := fun v => (World.cell?_setCell_other wz ⟨gf, 1, none⟩ ⟨gb, kv * 7 + 6, none⟩ v (fun e => hgbf (by injection e with e; first | exact e | exact e.symm))).trans c6
                        have cv' : ∀ v, ((wz).setCell ⟨gf, 1, none⟩ v).cell? ⟨gf, 1, none⟩ = some v := fun v => World.cell?_setCell_same' _ _ _ (by rw [cv]; rfl)
                        have HBF := Lib.hid hbF
                        have HGF := Lib.hid hgf
                        have hnbm : gf ≠ bm := HIMZ.out.ne_blk hbF
                        have hn15 : g15 ≠ gf := Blk.ne_ HBZ15.out hbF (by decide)
                        have hszz := HXZ.out.ext.size
                        clear hcs hcf hfz hbf hgf hbF hd0 hd1
                        gi_wp2
                        have hs1 : (v0 ++ (⟨#[32]⟩ : ByteArray)).size = v0.size + 1 := by rw [ByteArray.size_append]; rfl
                        have hx1 := HXZ.out.fldSet (gf := gf) (k := kv) (v := v0 ++ (⟨#[32]⟩ : ByteArray)) (V' := 300 * K + 1) hkz (by rw [(HDZ.out hkz).1]) (by omega) (by omega)
                        have hx2 := hx1.fldSet (gf := gf) (k := kv) (v := v0 ++ (⟨#[32]⟩ : ByteArray) ++ rf) (V' := 300 * (K + 1)) (by rw [List.length_set]; exact hkz) (by rw [List.getElem_set_self]; dsimp only; rw [(HDZ.out hkz).1]) (by rw [ByteArray.size_append]; omega) (by omega)
                        have HXF := Lib.hid hx2
                        have HFRF := Lib.hid ((HFRZ.out.set_ HBF.out (.inr (.inr (.inl rfl))) HGF.out hszz 1 (.string (v0 ++ (⟨#[32]⟩ : ByteArray)))).set_ (HBF.out.set_ 1 (.string (v0 ++ (⟨#[32]⟩ : ByteArray)))) (.inr (.inr (.inl rfl))) HGF.out (Nat.le_trans hszz (KeepsWalks.setCell _ _ _).size) 1 (.string (v0 ++ (⟨#[32]⟩ : ByteArray) ++ rf)))
                        have HIMF := Lib.hid ((HIMZ.out.kept (grown_setB wz ⟨gf, 1, none⟩ (.string (v0 ++ (⟨#[32]⟩ : ByteArray)))) (fun e => hnbm (by injection e with e; exact e.symm))).kept (grown_setB _ ⟨gf, 1, none⟩ (.string (v0 ++ (⟨#[32]⟩ : ByteArray) ++ rf))) (fun e => hnbm (by injection e with e; exact e.symm)))
                        have HBF15 := Lib.hid ((HBZ15.out.far (p := ⟨gf, 1, none⟩) hn15 (.string (v0 ++ (⟨#[32]⟩ : ByteArray)))).far (p := ⟨gf, 1, none⟩) hn15 (.string (v0 ++ (⟨#[32]⟩ : ByteArray) ++ rf)))
                        have HFF' : Hid (∀ s v, Ft s = some v → v < (ez).length) := HFZ
                        clear hx1 hx2
                        have hKK : ∀ x : {x : Occ // OccG tx.size x}, 1000 * z + (pre ++ [x]).length = K + 1 := fun x => by rw [List.length_append, HK.out]; rfl
                        refine ⟨HFRF.out.ko.from_ hbm5, KpO.of_fr HFRF.out HBT'.out HBC'.out, ?_, HFRF.out.blk HB17'.out (by unfold TE; decide), HFRF.out.blk HB18'.out (by unfold TE; decide), HFRF.out.blk HBT'.out (by unfold TE; decide), HFRF.out.blk HBC'.out (by unfold TE; decide), HFRF.out.ko.mks HMK.out, Nat.le_trans hWU HFRF.out.ko.size⟩
                        rw [hKK]
                        exact ⟨HFRF.out.blk HB16.out (by unfold TE; decide), _, _, _, _, _, _, HXF.out.mono (by omega) (Nat.le_refl _), HBF15.out, HIMF.out, (fun s v e => by have := HFF'.out s v e; first | simpa using this | exact this), hnt⟩
                      · go_simp
                        refine hK.out _ _ hA19 (fun _ => ?_)
                        clear hK K1
                        refine wpAnyH_ready (rs := [4]) (by kernel_rfl) (by simp) ?_
                        refine AllReadyH.cons rfl (fun K1 hK => ?_) AllReadyH.nil
                        go_simp
                        refine hK.out _ _ hA19 (fun _ => ?_)
                        clear hK K1 hA19 hHeld
                        have hk' := HKU.out
                        have hEa : Ext wd (wd.alloc (Obj.cells #[.string com] 9)) := (Ext.refl _).alloc _
                        have hxA := HXD.out.extn hEa
                        have hcA := hxA.com kv hk'
                        have hclA := (hxA.pl _ (List.getElem_mem hk')).cl
                        rw [(HEK2.out hk').2.2.1, (HEK2.out hk').2.2.2] at hcA
                        rw [(HEK2.out hk').2.2.2] at hclA
                        dsimp only at hcA
                        have hmcl := hcA.len
                        have hnewA := SlC.new_ (cs := strF) wd [com] strF_len (by simp) #[.string com] rfl (0, 0) 1 rfl 9
                        have hszA := hxA.ext.size_le
                        refine wpAnyH_ready (rs := [8]) (by kernel_rfl) (by simp) ?_
                        refine AllReadyH.cons rfl (fun K1 hK => ?_) AllReadyH.nil
                        refine step_appC einfo_ss rfl _ _ rfl hcA rfl hnewA rfl (by omega) hszA ?_
                        intro A2 m2 c2 w8 ho8 hg8 hn8
                        have hf8 : FrT (fun t => t = 9) (wd.alloc (Obj.cells #[.string com] 9)) w8 := FrT.own hcA rfl hg8
                        have hbA := HB19d.out.below hEa HB19d.out.lt
                        have hHeld := hf8 _ _ _ hbA (by decide)
                        refine hK.out _ _ hHeld (fun _ => ?_)
                        clear hK K1
                        refine wpAnyH_takeD (i := 9) (d := 156) (v := ?_) rfl rfl (by kernel_rfl) (by kernel_rfl) (by kernel_rfl) (fun _ _ _ h => h) (Or.inl ⟨by rfl, ?_⟩) hHeld ?_
                        rotate_left
                        · rintro w hS4
                          obtain ⟨c0, c1⟩ := HSS.out w hS4
                          go_simp
                          try with_reducible rfl
                        refine wpAnyH_takeD (i := 10) (d := 157) (v := ?_) rfl rfl (by kernel_rfl) (by kernel_rfl) (by kernel_rfl) (fun _ _ _ h => h) (Or.inl ⟨by rfl, ?_⟩) hHeld ?_
                        rotate_left
                        · rintro w hS4
                          obtain ⟨c0, c1⟩ := HSS.out w hS4
                          go_simp
                          try with_reducible rfl
                        obtain ⟨curE, hcurE⟩ := hxA.own.blk_ (g := gb) rfl
                        have hcurE8 := hf8 _ _ _ hcurE (by decide)
                        have f3_8 := hcurE8.frozen (kv * 7 + 3)
                        have k3_8 : w8.cell? ⟨gb, kv * 7 + 3, none⟩ = some (.slice Ac mc cc) := by
                          rw [hcurE8.cell, ← hcurE.cell]
                          exact D3 _ hEa
                        have hx8 := hxA.comAdd rfl hk' hcom (by rw [(HEK2.out hk').2.2.2]; exact ho8) (by rw [(HEK2.out hk').2.2.1]; exact hg8) (by rw [(HEK2.out hk').2.2.1]; exact hn8)
                        have hFRA := HFRD.out.ext hEa HXD.out.ext.size
                        have hFR8 := hFRA.own hcA (.inr (.inl rfl)) (Nat.le_refl _) hszA hg8
                        have hgb1 : w1.heap.size ≤ gb := hgb
                        have hw18 : w1.heap.size ≤ w8.heap.size := Nat.le_trans hszA hg8.size
                        have hFRZ := hFR8.set_ hcurE8 (.inl rfl) hgb1 hw18 (kv * 7 + 3) (.slice A2 m2 c2)
                        have himA := HIMD.out.ext hEa
                        have him8 : IM w8 bm nt Ft := himA.kept hg8 (fun e => by
                          obtain ⟨xs, hxs⟩ := hcA.blk_ e.symm
                          exact himA.ne_blk hxs rfl)
                        have himZ := him8.kept (grown_setB w8 ⟨gb, kv * 7 + 3, none⟩ (.slice A2 m2 c2)) (fun e => him8.ne_blk hcurE8 (by injection e with e; exact e.symm))
                        have hb15_8 := hf8 _ _ _ (HBD15.out.below hEa HBD15.out.lt) (by decide)
                        have hbZ15 := hb15_8.far (p := ⟨gb, kv * 7 + 3, none⟩) (Blk.ne_ hb15_8 hcurE8 (by decide)) (.slice A2 m2 c2)
                        have hHeldZ := hHeld.far (p := ⟨gb, kv * 7 + 3, none⟩) (Blk.ne_ hHeld hcurE8 (by decide)) (.slice A2 m2 c2)
                        refine wpAnyH_ready (rs := [11]) (by kernel_rfl) (by simp) ?_
                        refine AllReadyH.cons rfl (fun K1 hK => ?_) AllReadyH.nil
                        go_simp
                        refine hK.out _ _ hHeldZ (fun _ => ?_)
                        clear hK K1
                        refine wpAnyH_done (by kernel_rfl) ?_ _
                        obtain ⟨wz, hwz⟩ : ∃ wz, wz = w8.setCell ⟨gb, kv * 7 + 3, none⟩ (.slice A2 m2 c2) := ⟨_, rfl⟩
                        rw [← hwz] at hx8 hFRZ himZ hbZ15 ⊢
                        have HXZ0 := Lib.hid hx8
                        have HFRZ := Lib.hid hFRZ
                        have HIMZ := Lib.hid himZ
                        have HBZ15 := Lib.hid hbZ15
                        clear hwz hx8 hFRZ himZ hbZ15 hHeldZ hHeld ho8 hg8 hn8 hf8 hbA hcurE hcurE8 f3_8 k3_8 hFRA hFR8 himA him8 hb15_8 hcA hxA hnewA hszA hEa hclA hmcl hw18
                        obtain ⟨ez, hez⟩ : ∃ ez, ez = et.set kv ⟨{ (et[kv]).p with com := (et[kv]).p.com ++ [com] }, ⟨A2, m2, c2⟩, (et[kv]).f, (et[kv]).d⟩ := ⟨_, rfl⟩
                        have HKZ : Hid (kv < ez.length) := by show _ < _; rw [hez, List.length_set]; exact hk'
                        have HDZ : Hid (∀ hk2 : kv < ez.length, ez[kv].d = ⟨Ad, md, cd⟩ ∧ ez[kv].p.fd = [(refS, v0)]) := fun hk2 => by
                          subst hez
                          rw [List.getElem_set_self]
                          exact ⟨(HEK2.out hk').1, (HEK2.out hk').2.1⟩
                        have HFZ : Hid (∀ s v, Ft s = some v → v < ez.length) := fun s v e => by rw [hez, List.length_set]; exact HFT.out s v e
                        have HXZ : Hid (ExS w1 wz (2 * K + 2) (300 * K) (some ⟨gb, 0, none⟩) mt ct ez) := by show ExS _ _ _ _ _ _ _ _; rw [hez]; exact HXZ0.out
                        clear HXZ0 hez hk'
                        have hkz := HKZ.out
                        obtain ⟨hd0, hd1⟩ := HDZ.out hkz
                        obtain ⟨b', off', e0, -, hcs⟩ := HXZ.out.own.sl.at_ (i := kv) (by have := HXZ.out.own.len; omega) (by have := HXZ.out.own.le; omega)
                        simp only [Option.some.injEq, Addr.mk.injEq, and_true] at e0
                        obtain ⟨rfl, rfl⟩ := e0
                        have c6 := hcs kv hkz 6 (by omega)
                        simp only [entC, List.getElem_cons_zero, List.getElem_cons_succ, Nat.zero_add] at c6
                        rw [hd0] at c6
                        dsimp only at c6
                        have hfz := HXZ.out.fld kv hkz
                        rw [hd0, hd1] at hfz
                        dsimp only at hfz
                        have hmd : md = 1 := by have := hfz.len; simpa using this
                        obtain ⟨gf, curf, eF, hgf, hbf, -⟩ := hfz.row (by omega)
                        subst eF
                        subst hmd
                        obtain ⟨b', off', e0, -, hcf⟩ := hfz.sl.at_ (i := 0) (by omega) (by omega)
                        simp only [Option.some.injEq, Addr.mk.injEq, and_true] at e0
                        obtain ⟨rfl, rfl⟩ := e0
                        have cv := hcf 0 (by simp) 1 (by omega)
                        simp only [fdC, List.getElem_cons_zero, List.getElem_cons_succ, Nat.zero_add, Nat.zero_mul] at cv
                        have hbF : Blk wz gf 56 curf := hbf
                        have fzv := hbF.frozen 1
                        have hgbf : gb ≠ gf := by
                          obtain ⟨xs, hxs⟩ := HXZ.out.own.blk_ (g := gb) rfl
                          exact Blk.ne_ hxs hbF (by decide)
                        have c6' : ∀ v, ((wz).setCell ⟨gf, 1, none⟩ v).cell? ⟨gb, kv * 7 + 6, none⟩ = some (.slice (some ⟨gf, 0, none⟩) 1 cd) := fun v => (World.cell?_setCell_other wz ⟨gf, 1, none⟩ ⟨gb, kv * 7 + 6, none⟩ v (fun e => hgbf (by injection e with e; first | exact e | exact e.symm))).trans c6
                        have cv' : ∀ v, ((wz).setCell ⟨gf, 1, none⟩ v).cell? ⟨gf, 1, none⟩ = some v := fun v => World.cell?_setCell_same' _ _ _ (by rw [cv]; rfl)
                        have HBF := Lib.hid hbF
                        have HGF := Lib.hid hgf
                        have hnbm : gf ≠ bm := HIMZ.out.ne_blk hbF
                        have hn15 : g15 ≠ gf := Blk.ne_ HBZ15.out hbF (by decide)
                        have hszz := HXZ.out.ext.size
                        clear hcs hcf hfz hbf hgf hbF hd0 hd1
                        gi_wp2
                        have hs1 : (v0 ++ (⟨#[32]⟩ : ByteArray)).size = v0.size + 1 := by rw [ByteArray.size_append]; rfl
                        have hx1 := HXZ.out.fldSet (gf := gf) (k := kv) (v := v0 ++ (⟨#[32]⟩ : ByteArray)) (V' := 300 * K + 1) hkz (by rw [(HDZ.out hkz).1]) (by omega) (by omega)
                        have hx2 := hx1.fldSet (gf := gf) (k := kv) (v := v0 ++ (⟨#[32]⟩ : ByteArray) ++ rf) (V' := 300 * (K + 1)) (by rw [List.length_set]; exact hkz) (by rw [List.getElem_set_self]; dsimp only; rw [(HDZ.out hkz).1]) (by rw [ByteArray.size_append]; omega) (by omega)
                        have HXF := Lib.hid hx2
                        have HFRF := Lib.hid ((HFRZ.out.set_ HBF.out (.inr (.inr (.inl rfl))) HGF.out hszz 1 (.string (v0 ++ (⟨#[32]⟩ : ByteArray)))).set_ (HBF.out.set_ 1 (.string (v0 ++ (⟨#[32]⟩ : ByteArray)))) (.inr (.inr (.inl rfl))) HGF.out (Nat.le_trans hszz (KeepsWalks.setCell _ _ _).size) 1 (.string (v0 ++ (⟨#[32]⟩ : ByteArray) ++ rf)))
                        have HIMF := Lib.hid ((HIMZ.out.kept (grown_setB wz ⟨gf, 1, none⟩ (.string (v0 ++ (⟨#[32]⟩ : ByteArray)))) (fun e => hnbm (by injection e with e; exact e.symm))).kept (grown_setB _ ⟨gf, 1, none⟩ (.string (v0 ++ (⟨#[32]⟩ : ByteArray) ++ rf))) (fun e => hnbm (by injection e with e; exact e.symm)))
                        have HBF15 := Lib.hid ((HBZ15.out.far (p := ⟨gf, 1, none⟩) hn15 (.string (v0 ++ (⟨#[32]⟩ : ByteArray)))).far (p := ⟨gf, 1, none⟩) hn15 (.string (v0 ++ (⟨#[32]⟩ : ByteArray) ++ rf)))
                        have HFF' : Hid (∀ s v, Ft s = some v → v < (ez).length) := HFZ
                        clear hx1 hx2
                        have hKK : ∀ x : {x : Occ // OccG tx.size x}, 1000 * z + (pre ++ [x]).length = K + 1 := fun x => by rw [List.length_append, HK.out]; rfl
                        refine ⟨HFRF.out.ko.from_ hbm5, KpO.of_fr HFRF.out HBT'.out HBC'.out, ?_, HFRF.out.blk HB17'.out (by unfold TE; decide), HFRF.out.blk HB18'.out (by unfold TE; decide), HFRF.out.blk HBT'.out (by unfold TE; decide), HFRF.out.blk HBC'.out (by unfold TE; decide), HFRF.out.ko.mks HMK.out, Nat.le_trans hWU HFRF.out.ko.size⟩
                        rw [hKK]
                        exact ⟨HFRF.out.blk HB16.out (by unfold TE; decide), _, _, _, _, _, _, HXF.out.mono (by omega) (Nat.le_refl _), HBF15.out, HIMF.out, (fun s v e => by have := HFF'.out s v e; first | simpa using this | exact this), hnt⟩
                    --S]
                case hdone =>
                  intro D xs W hD hlen hI hdf
                  subst ha1
                  obtain ⟨hJx, -, -, -, -, hMx, -⟩ := hI
                  have HJX := Lib.hid (hJx.mono (show 1000 * z + xs.length ≤ 1000 * (z + 1) by omega))
                  have HMX := Lib.hid (hMx.push hD (Nat.succ_le_of_lt hbm5) hdf)
                  clear hJx hMx hdf hH5
                  go_wp2
                  refine ⟨act_inv (R := fun f ds => SlR f _ _ _ _ _ _ _ _ _ _ _ ∧ ∃ z' : Nat, z' ≤ q ∧ f 71 = .int .i64 z' ∧ Hid (ExI w1 g15 g16 bm (1000 * z') W) ∧ Hid (Mks (bm + 1) W W.heap.size ds)) _ rfl _ ?_, ?_⟩
                  · exact ⟨⟨rfl, rfl, rfl, rfl, rfl, rfl, rfl, rfl, rfl, rfl, rfl⟩, z + 1, by omega, by show Value.int .i64 _ = _; go_num, HJX, HMX⟩
                  · show q - (intOf (Value.int .i64 _)).toNat < q - (intOf (Value.int .i64 (z : Int))).toNat
                    simp only [intOf]
                    omega
                case hstop =>
                  intro D c0 pre W hD hlen hX hdf
                  subst ha1
                  obtain ⟨rfl, hEX, hMx, x1, x2, er, her, hRX⟩ := hX
                  refine wpIn_wide.2 ?_
                  have HMX := Lib.hid (hMx.push hD (Nat.succ_le_of_lt hbm5) hdf)
                  go_wp2
                  refine leaves_mks (B := bm + 1) (_ :: ds) W.heap.size W HMX.out fun W' hB' hf' => ?_
                  refine ⟨_, (hRX.frt hf').res _ rfl rfl rfl, ?_⟩
                  exact ⟨Below.trans hEX (hB'.mono (by omega)), ⟨none, 0, 0⟩, _, _, _, rfl, fun h => absurd h her⟩
                --S]
              · have hskip : True := trivial
                --S[ fin
                have hi2 : ¬ (z : Int) < (q : Int) := by omega
                obtain ⟨hb16, A8, m8, c8, es, ni, F, hex, hb15, him, hF, hni⟩ := HJ.out
                have k15 := hb15.cell 0
                simp at k15
                have HR9 := Lib.hid (HR.out.ext hE1r)
                obtain ⟨r1, r2, r3, r4, r5, r6, r7, r8⟩ := HR9.out.facts
                have HEX := Lib.hid (hex.base hE1)
                clear hex hb15 him hF hni hb16
                by_cases hbig : 1000 < m8
                · have hi3 : (1000 : Int) < (m8 : Int) := by omega
                  go_wp2
                  refine leaves_mks (B := bm + 1) ds wr.heap.size _ ((setR3_ko bm g6 g7 g8 _ _ _ _).mks HM.out) fun W' hB' hf' => ?_
                  refine ⟨_, ((HR9.out.set_ _ _ _ _).frt hf').res _ rfl rfl rfl, ?_⟩
                  exact ⟨Below.trans (setR3_ext hEr hg6 hg7 hg8 _ _ _ _) (hB'.mono (by omega)), ⟨none, 0, 0⟩, _, _, _, rfl, fun h => absurd h (by decide)⟩
                · have hi3 : ¬ (1000 : Int) < (m8 : Int) := by omega
                  go_wp2
                  refine leaves_mks (B := bm + 1) ds wr.heap.size _ ((setR3_ko bm g6 g7 g8 _ _ _ _).mks HM.out) fun W' hB' hf' => ?_
                  refine ⟨_, ((HR9.out.set_ _ _ _ _).frt hf').res _ rfl rfl rfl, ?_⟩
                  have hX1 := setR3_ext hEr hg6 hg7 hg8 (.slice A8 m8 c8) (.int .i64 0) (.int .i64 0) (.int .i64 0)
                  have hX2 : Ext w W' := Below.trans hX1 (hB'.mono (by omega))
                  have hX3 := (HEX.out.frt hX1 (setR3_frt HR9.out _ _ _ _) (by decide) (by decide) (by decide)).frt hX2 hf' (fun e => e) (fun e => e) (fun e => e)
                  exact ⟨hX2, ⟨A8, m8, c8⟩, _, _, _, rfl, fun _ => ⟨es, hX3.ents (by omega) (by omega)⟩⟩
                --S]
end
end Go.Proofs.YtgnchicipmomlaaGreatDoor
