/- The program's scripts: a rule is read. -/
import Derived.Test.YtgnchicipmomlaaGreatDoorPK17
import Derived.Test.YtgnchicipmomlaaGreatDoorPK28
import Derived.Test.YtgnchicipmomlaaGreatDoorPK29
namespace Go.Proofs.YtgnchicipmomlaaGreatDoor
open Go.RowKit
set_option maxRecDepth 100000
attribute [local go_sem] ext_refl_t ext_alloc_t ext_drew_t ext_drewN_t ext_alloc2_t ext_alloc3_t ext_alloc4_t ext_alloc5_t ext_alloc6_t ext_alloc7_t ext_alloc8_t ext_alloc1d_t ext_alloc2d_t ext_alloc3d_t ext_alloc4d_t
theorem einfo_itm : EInfo 108 152 5 64 := EInfo.mk_ (z := .agg #[.string ⟨#[]⟩, .slice none 0 0, .bool false, .int .i64 0, .int .i64 0]) Tryz.underlying108 (by kernel_rfl) rfl (by omega) (by omega)
theorem itmC_cell (x : Itm) : ∀ u ∈ itmC x, u.oneCell' = true := fun u hu => by
  simp [itmC] at hu
  rcases hu with rfl | rfl | rfl | rfl | rfl <;> rfl
theorem info_rul3 : (Tryz.prog.info? 110).map (·.size) = some 3 := by kernel_rfl
theorem ItmW.kp {S : Nat → Prop} {w w' : World} {x : Itm} (hk : KpS S w w') (h : ItmW w x) (ha : ApS S x.h) : ItmW w' x := ⟨HW.kp hk h.r ha, h.text, h.least, h.most⟩
theorem KpS.rdw {w w' : World} {g : Nat} {s : ByteArray} (h : RdW w w' g s) : KpS (fun k => k = g) w w' := (KpS.grown h.g).mono fun _ _ e => (Option.some.inj e).symm
/-- A rule that is being read: its reader in g8, itself in g7, the result's block g2, its items. -/
structure RuS (w wr : World) (g2 g7 g8 : Nat) (s : ByteArray) (kd nx : ByteArray) (A : Option Addr) (m c : Nat) (L : List Itm) : Prop where
  ext : Ext w wr
  r : Rdr wr g8 s
  x : Blk wr g7 110 #[.string kd, .slice A m c, .string nx]
  y : Blk wr g2 110 #[.string ⟨#[]⟩, .slice none 0 0, .string ⟨#[]⟩]
  own : OsC itmC 152 5 wr w.heap.size A m c L
  it : ∀ x ∈ L, ItmW wr x ∧ LgI x ∧ ApS (fun k => k = g2 ∨ k = g7 ∨ k = g8 ∨ ob A = some k) x.h ∧ ∀ j, ob x.h.A = some j → w.heap.size ≤ j
  e2 : w.heap.size ≤ g2
  e7 : w.heap.size ≤ g7
  e8 : w.heap.size ≤ g8
  ne : g2 ≠ g7
section
variable {w wr w2 : World} {g2 g7 g8 m c : Nat} {s s' kd nx : ByteArray} {A : Option Addr} {L : List Itm}
theorem RuS.ne7 (h : RuS w wr g2 g7 g8 s kd nx A m c L) : ob A ≠ some g7 := by
  have n := own_blk_ne h.own.own h.x (by decide)
  rw [ob_own] at n
  exact n
theorem RuS.ne2 (h : RuS w wr g2 g7 g8 s kd nx A m c L) : ob A ≠ some g2 := by
  have n := own_blk_ne h.own.own h.y (by decide)
  rw [ob_own] at n
  exact n
theorem RuS.ne8 (h : RuS w wr g2 g7 g8 s kd nx A m c L) : ob A ≠ some g8 := by
  have n := own_blk_ne h.own.own h.r (by decide)
  rw [ob_own] at n
  exact n
theorem RuS.extn (h : RuS w wr g2 g7 g8 s kd nx A m c L) (hE : Ext wr w2) : RuS w w2 g2 g7 g8 s kd nx A m c L :=
  ⟨h.ext.trans hE, Blk.below h.r hE h.r.lt, h.x.below hE h.x.lt, h.y.below hE h.y.lt, h.own.ext hE, fun x hx => ⟨(h.it x hx).1.ext hE, (h.it x hx).2⟩, h.e2, h.e7, h.e8, h.ne⟩
theorem RuS.cut (h : RuS w wr g2 g7 g8 s kd nx A m c L) (k : RdW wr w2 g8 s') : RuS w w2 g2 g7 g8 s' kd nx A m c L := by
  have n7 := Blk.ne_ h.r h.x (by decide)
  have n2 := Blk.ne_ h.r h.y (by decide)
  exact ⟨h.ext.grown k.g (fun j hj => by injection hj with hj; rw [← hj]; exact h.e8), k.r, h.x.grown k.g (fun e => n7 (by injection e with e; exact e.symm)), h.y.grown k.g (fun e => n2 (by injection e with e; exact e.symm)),
    h.own.kept k.g (.inr h.ne8), fun x hx => ⟨(h.it x hx).1.kp (KpS.rdw k) ((h.it x hx).2.2.1.mono fun j _ hj => .inr (.inr (.inl hj))), (h.it x hx).2⟩, h.e2, h.e7, h.e8, h.ne⟩
/-- Behind a store of the rule's next state. -/
theorem RuS.setn (h : RuS w wr g2 g7 g8 s kd nx A m c L) (z : ByteArray) : RuS w (wr.setCell ⟨g7, 2, none⟩ (.string z)) g2 g7 g8 s kd z A m c L := by
  have n8 := Blk.ne_ h.r h.x (by decide)
  refine ⟨h.ext.set_ (p := ⟨g7, 2, none⟩) h.e7 _, Blk.far h.r (p := ⟨g7, 2, none⟩) n8 _, ?_, Blk.far h.y (p := ⟨g7, 2, none⟩) h.ne _, h.own.kept (grown_setB wr ⟨g7, 2, none⟩ _) (.inr h.ne7), fun x hx => ⟨(h.it x hx).1.kp (KpS.setCell wr g7 2 _) ((h.it x hx).2.2.1.mono fun j _ hj => .inr (.inl hj)), (h.it x hx).2⟩, h.e2, h.e7, h.e8, h.ne⟩
  have := h.x.set_ 2 (.string z)
  simpa using this
/-- Behind an append of an item that has just been read. -/
theorem RuS.app {A' : Option Addr} {m' c' : Nat} {x : Itm} {B : Nat} (h : RuS w wr g2 g7 g8 s kd nx A m c L) (hx : ItmW wr x) (hl : LgI x) (hn : ∀ j, ob x.h.A = some j → B ≤ j) (hB : w.heap.size ≤ B) (hB2 : g2 < B) (hB7 : g7 < B) (hB8 : g8 < B) (hBA : ∀ j, ob A = some j → j < B)
    (ho : OsC itmC 152 5 w2 w.heap.size A' m' c' (L ++ [x])) (hg : wr.grownBy w2 (ob A)) (hN : NewOr wr.heap.size (ob A) (ob A')) :
    RuS w (w2.setCell ⟨g7, 1, none⟩ (.slice A' m' c')) g2 g7 g8 s kd nx A' m' c' (L ++ [x]) := by
  have hsz := hg.size
  have x2 := h.x.grown hg (fun e => h.ne7 e.symm)
  have y2 := h.y.grown hg (fun e => h.ne2 e.symm)
  have r2 := Blk.grown h.r hg (fun e => h.ne8 e.symm)
  have n7 := own_blk_ne ho.own x2 (by decide)
  rw [ob_own] at n7
  have n8 := Blk.ne_ r2 x2 (by decide)
  have hap : ∀ z, ItmW wr z → ApS (fun k => k = g2 ∨ k = g7 ∨ k = g8 ∨ ob A = some k) z.h → ItmW (w2.setCell ⟨g7, 1, none⟩ (.slice A' m' c')) z ∧ ApS (fun k => k = g2 ∨ k = g7 ∨ k = g8 ∨ ob A' = some k) z.h := fun z hz ha => by
    have h1 := hz.kp (KpS.grown hg) (ha.mono fun j _ hj => .inr (.inr (.inr hj)))
    refine ⟨h1.kp (KpS.setCell w2 g7 1 _) (ha.mono fun j _ hj => .inr (.inl hj)), ApS.lt hz.r ha fun j hj => ?_⟩
    rcases hj with hj | hj | hj | hj
    · exact .inl (.inl hj)
    · exact .inl (.inr (.inl hj))
    · exact .inl (.inr (.inr (.inl hj)))
    · rcases hN j hj with h3 | h3
      · exact .inr h3
      · exact .inl (.inr (.inr (.inr h3)))
  refine ⟨(h.ext.grown hg (fun j hj => h.own.ge j hj)).set_ (p := ⟨g7, 1, none⟩) h.e7 _, Blk.far r2 (p := ⟨g7, 1, none⟩) n8 _, ?_, Blk.far y2 (p := ⟨g7, 1, none⟩) h.ne _, ho.kept (grown_setB w2 ⟨g7, 1, none⟩ _) (.inr n7), fun z hz => ?_, h.e2, h.e7, h.e8, h.ne⟩
  · have := x2.set_ 1 (.slice A' m' c')
    simpa using this
  · rcases List.mem_append.1 hz with hz | hz
    · have h1 := h.it z hz
      have h2 := hap z h1.1 h1.2.2.1
      exact ⟨h2.1, h1.2.1, h2.2, h1.2.2.2⟩
    · rw [List.mem_singleton] at hz
      subst hz
      have h2 := hap z hx (.inr fun j hj hs => by
        have h3 := hn j hj
        rcases hs with hs | hs | hs | hs
        · omega
        · omega
        · omega
        · have := hBA j hs; omega)
      exact ⟨h2.1, hl, h2.2, fun j hj => Nat.le_trans hB (hn j hj)⟩
theorem results_cell_row_tmpS {P : Program} {fn : Func} {p u : Tmp} {ty : TypeId} (h : fn.results = #[.cell p ty, .tmp u]) (tmps : Array Value) (w : World) (g : Nat) (t : TypeId) (cs : Array Value) (fr : Nat × Nat) (d : TypeDesc)
    (hp : tmps.getD p undef = .pointer (some ⟨g, 0, none⟩)) (hg : w.heap[g]? = some (.cells cs t fr))
    (hu : P.underlying ty = some d) (hd : (match d with | .struct _ | .array _ _ => true | _ => false) = true) (hi : (P.info? ty).map (·.size) = some cs.size) :
    (results fn tmps).run P w = .ok (.tuple #[.agg cs, tmps.getD u undef]) w := by
  rw [results_cell_tmp h, hp]
  simp [asAddr, run_loadVar_row w g t ty cs fr d hg hu hd hi, Result.andThen]
theorem laterfz {w : World} {g : Nat} {t : TypeId} {cs : Array Value} (h : Blk w g t cs) (i : Nat) : ∀ W, Ext w W → W.frozen? ⟨g, i, none⟩ = false := fun _ hE => (h.below hE h.lt).frozen i
theorem RulW.kp {S : Nat → Prop} {w w' : World} {x : Rul} (hk : KpS S w w') (h : RulW w x) (ha : ApS S x.h) (hi : ∀ i ∈ x.items, ApS S i.h) : RulW w' x :=
  ⟨⟨hk.slc h.i.sl ha, h.i.cap, h.i.bd, fun i hm => (h.i.good i hm).kp hk (hi i hm)⟩, h.kind, h.next⟩
/-- What rule gives: a rule in new memory, whose parts are no longer than the text. -/
def RulR (w w' : World) (e : Ending) : Prop :=
  ∃ (x : Rul) (ok : Bool), e = .returned (.tuple #[rulV x, .bool ok]) ∧ Ext w w' ∧ RulW w' x ∧ LgR x ∧ (∀ j, ob x.h.A = some j → w.heap.size ≤ j) ∧ ∀ i ∈ x.items, ∀ j, ob i.h.A = some j → w.heap.size ≤ j
set_option maxHeartbeats 6400000 in
theorem ruleR_any (s : ByteArray) (hb : s.size ≤ 4000000) :
    Calls Tryz.prog 43 #[.string s] w fun e w' => RulR w w' e := by
  have hb2 := Blk.new w 110 #[.string ⟨#[]⟩, .slice none 0 0, .string ⟨#[]⟩]
  have hE1 : Ext w (w.alloc (Obj.cells #[.string ⟨#[]⟩, .slice none 0 0, .string ⟨#[]⟩] 110)) := (Ext.refl w).alloc _
  go_enter Tryz.func43, Tryz.ntmps43
  go_wp2_with (first
    | (go_at_call 41; refine Hid.out ?_))
  refine Hid.mk_ ((cutT_any s _ (by omega)).mono ?_)
  rintro e w1 ⟨⟨kd, rest, r, rfl, h1, h2, -⟩, hE2⟩
  have hb2' := hb2.below hE2 hb2.lt
  have hE3 := hE1.trans hE2
  clear hE2 hb2
  have hb7 := (Blk.new w1 110 #[.string kd, .slice none 0 0, .string ⟨#[]⟩]).alloc (Obj.cells #[.string rest] 149)
  have hb8 := Blk.new (w1.alloc (Obj.cells #[.string kd, .slice none 0 0, .string ⟨#[]⟩] 110)) 149 #[.string rest]
  have hsz : (w1.alloc (Obj.cells #[.string kd, .slice none 0 0, .string ⟨#[]⟩] 110)).heap.size = w1.heap.size + 1 := by simp
  have hE4 : Ext w1 ((w1.alloc (Obj.cells #[.string kd, .slice none 0 0, .string ⟨#[]⟩] 110)).alloc (Obj.cells #[.string rest] 149)) := ((Ext.refl _).alloc _).alloc _
  have hb2 := hb2'.below hE4 hb2'.lt
  have hlt2 := hb2'.lt
  have hwsz : w.heap.size ≤ w1.heap.size := hE3.size_le
  rw [hsz] at hb8
  go_upto_region 4 with fail
  obtain ⟨W0, hW0⟩ : ∃ W0, W0 = (w1.alloc (Obj.cells #[.string kd, .slice none 0 0, .string ⟨#[]⟩] 110)).alloc (Obj.cells #[.string rest] 149) := ⟨_, rfl⟩
  rw [← hW0] at hb2 hb7 hb8 hE4 ⊢
  obtain ⟨g8, hg8⟩ : ∃ g8, g8 = w1.heap.size + 1 := ⟨_, rfl⟩
  rw [← hg8] at hb8 ⊢
  obtain ⟨g7, hg7⟩ : ∃ g7, g7 = w1.heap.size := ⟨_, rfl⟩
  rw [← hg7] at hb7 ⊢
  obtain ⟨g2, hg2⟩ : ∃ g2, g2 = w.heap.size := ⟨_, rfl⟩
  rw [← hg2] at hb2 ⊢
  have hR0 : RuS w W0 g2 g7 g8 rest kd ⟨#[]⟩ none 0 0 [] := ⟨hE3.trans hE4, hb8, hb7, hb2, OsC.nil_ itmC_len itmC_cell, (fun x hx => by cases hx), by omega, by omega, by omega, by omega⟩
  have hlt := hb8.lt
  have hlt7 := hb7.lt
  have hltg := hb2.lt
  clear hb2 hb7 hb8 hE4 hW0 hg8 hg7 hg2 hb2' hlt2 hsz hE1 hE3
  go_loopw [20] (fun _ wr => ∃ (s3 : ByteArray) (A : Option Addr) (m c : Nat) (L : List Itm), s3.size ≤ s.size ∧ m ≤ 21 ∧ W0.heap.size ≤ wr.heap.size ∧ Hid (RuS w wr g2 g7 g8 s3 kd ⟨#[]⟩ A m c L)) (fun _ wr => rdSz wr g8)
  case atStart => exact ⟨rest, none, 0, 0, [], h2, by omega, Nat.le_refl _, hR0⟩
  case round =>
    obtain ⟨s3, A, m, c, L, hz3, hm21, hW, HR⟩ := hrel
    have k0 := HR.out.r.cell 0
    have k1 := HR.out.x.cell 1
    simp at k0 k1
    by_cases hs30 : s3.size = 0
    · have hte := tl_empty hs30
      clear hs30
      have hmL := (HR).out.own.len
      have hpf : (⟨#[]⟩ : ByteArray).size ≤ 4000000 := Nat.zero_le _
      have hrx : RulW wr ⟨kd, L, ⟨#[]⟩, ⟨A, m, c⟩⟩ := ⟨⟨(HR).out.own.sl, (HR).out.own.cap, (show m * 64 ≤ 140737488351232 by omega), fun x hx => ((HR).out.it x hx).1⟩, (show kd.size ≤ 140737488351232 by omega), (show (⟨#[]⟩ : ByteArray).size ≤ 140737488351232 by omega)⟩
      have HLG : Hid (LgR ⟨kd, L, ⟨#[]⟩, ⟨A, m, c⟩⟩) := by
        show LgR _
        unfold LgR
        exact ⟨by show kd.size ≤ _; omega, hpf, by show L.length ≤ _; omega, fun i hi => ((HR).out.it i hi).2.1⟩
      have hrd := RulW.ext hrx (Ext.refl (wr)).drew
      have HRX := Lib.hid hrx
      have X0 := laters ((HR).out.x.cell 0)
      have X1 := laters ((HR).out.x.cell 1)
      have X2 := laters ((HR).out.x.cell 2)
      have Y0 := laters ((HR).out.y.cell 0)
      have Y1 := laters ((HR).out.y.cell 1)
      have Y2 := laters ((HR).out.y.cell 2)
      have F0 := laterfz (HR).out.y 0
      have F1 := laterfz (HR).out.y 1
      have F2 := laterfz (HR).out.y 2
      simp at X0 X1 X2 Y0 Y1 Y2
      clear hmL hrx
      have hEd : Ext (wr) (wr).drew := (Ext.refl _).drew
      have hlt2 := (HR).out.y.lt
      have hss : ∀ W', KpS (fun k => k = g2) (wr) W' → W'.cell? ⟨g7, 0, none⟩ = some (.string kd) ∧ W'.cell? ⟨g7, 1, none⟩ = some (.slice A m c) ∧ W'.cell? ⟨g7, 2, none⟩ = some (.string ⟨#[]⟩) := fun W' hk =>
        have hx := KpS.blk hk (HR).out.x (fun e => (HR).out.ne e.symm)
        ⟨hx.cell 0, hx.cell 1, hx.cell 2⟩
      have HSS := Lib.hid hss
      clear hss X0 X1 X2 Y0 Y1 Y2 F0 F1 F2
      go_upto_region 9 with fail
      refine wp_region_held_drew (S := fun w' => KpS (fun k => k = g2) (wr) w') (by kernel_rfl) (KpS.of_ext _ hEd) ?_
      intro hHeld
      refine wpAnyH_takeD (i := 0) (d := 47) (v := ?_) rfl rfl (by kernel_rfl) (by kernel_rfl) (by kernel_rfl) (fun _ _ _ h => h) (Or.inl ⟨by rfl, ?_⟩) hHeld ?_
      rotate_left
      · rintro w hS4
        obtain ⟨c0, c1, c2⟩ := HSS.out w hS4
        go_simp
        try with_reducible rfl
      simp only [Act.put, List.setIfInBounds_toArray, List.set_cons_zero, List.set_cons_succ]
      refine wpAnyH_takeD (i := 1) (d := 48) (v := ?_) rfl rfl (by kernel_rfl) (by kernel_rfl) (by kernel_rfl) (fun _ _ _ h => h) (Or.inl ⟨by rfl, ?_⟩) hHeld ?_
      rotate_left
      · rintro w hS4
        obtain ⟨c0, c1, c2⟩ := HSS.out w hS4
        go_simp
        try with_reducible rfl
      simp only [Act.put, List.setIfInBounds_toArray, List.set_cons_zero, List.set_cons_succ]
      refine wpAnyH_ready (rs := [2]) (by kernel_rfl) (by simp) ?_
      refine AllReadyH.cons rfl (fun K hK => ?_) (AllReadyH.nil)
      go_simp
      go_at_call 73
      refine (soundS_any (x := ⟨kd, L, ⟨#[]⟩, ⟨A, m, c⟩⟩) hrd).mono ?_
      rintro e v1 ⟨⟨ok, rfl, -⟩, hEv⟩
      have hEv1 := hEd.trans hEv
      refine hK.out _ _ (KpS.of_ext _ hEv1) (fun _ => ?_)
      clear hK K hHeld
      have hHeld : KpS (fun k => k = g2) (wr) v1 := KpS.of_ext _ hEv1
      cases ok with
      | false =>
        refine wpAnyH_takeD (i := 3) (d := 50) (v := ?_) rfl rfl (by kernel_rfl) (by kernel_rfl) (by kernel_rfl) (fun _ _ _ h => h) (Or.inl ⟨by rfl, ?_⟩) hHeld ?_
        rotate_left
        · rintro w hS4
          obtain ⟨c0, c1, c2⟩ := HSS.out w hS4
          go_simp
          try with_reducible rfl
        simp only [Act.put, List.setIfInBounds_toArray, List.set_cons_zero, List.set_cons_succ]
        refine wpAnyH_takeD (i := 4) (d := 51) (v := undef) rfl rfl (by kernel_rfl) (by kernel_rfl) (by kernel_rfl) (fun _ _ _ h => h) (Or.inr ⟨by rfl, rfl⟩) hHeld ?_
        simp only [Act.put, List.setIfInBounds_toArray, List.set_cons_zero, List.set_cons_succ]
        refine wpAnyH_takeD (i := 5) (d := 52) (v := undef) rfl rfl (by kernel_rfl) (by kernel_rfl) (by kernel_rfl) (fun _ _ _ h => h) (Or.inr ⟨by rfl, rfl⟩) hHeld ?_
        simp only [Act.put, List.setIfInBounds_toArray, List.set_cons_zero, List.set_cons_succ]
        refine wpAnyH_takeD (i := 6) (d := 53) (v := undef) rfl rfl (by kernel_rfl) (by kernel_rfl) (by kernel_rfl) (fun _ _ _ h => h) (Or.inr ⟨by rfl, rfl⟩) hHeld ?_
        simp only [Act.put, List.setIfInBounds_toArray, List.set_cons_zero, List.set_cons_succ]
        refine wpAnyH_takeD (i := 7) (d := 54) (v := undef) rfl rfl (by kernel_rfl) (by kernel_rfl) (by kernel_rfl) (fun _ _ _ h => h) (Or.inr ⟨by rfl, rfl⟩) hHeld ?_
        simp only [Act.put, List.setIfInBounds_toArray, List.set_cons_zero, List.set_cons_succ]
        refine wpAnyH_takeD (i := 8) (d := 55) (v := ?_) rfl rfl (by kernel_rfl) (by kernel_rfl) (by kernel_rfl) (fun _ _ _ h => h) (Or.inl ⟨by rfl, ?_⟩) hHeld ?_
        rotate_left
        · rintro w hS4
          obtain ⟨c0, c1, c2⟩ := HSS.out w hS4
          go_simp
          try with_reducible rfl
        simp only [Act.put, List.setIfInBounds_toArray, List.set_cons_zero, List.set_cons_succ]
        have hby := (HR).out.y.below hEv1 hlt2
        have hSt : KpS (fun k => k = g2) _ ((v1).setRow g2 #[.string kd, .slice A m c, .string ⟨#[]⟩]) := hHeld.trans ((KpS.grown (grown_setRow v1 g2 #[.string kd, .slice A m c, .string ⟨#[]⟩])).mono fun _ _ e => (Option.some.inj e).symm) (fun _ _ e => e)
        refine wpAnyH_storeR (i := 9) (g := g2) (cells := #[.string kd, .slice A m c, .string ⟨#[]⟩]) (by kernel_rfl) rfl rfl rfl rfl rfl rfl hby info_rul3 rfl (by simp [Value.oneCell']) hSt ?_
        clear hHeld
        have hHeld := hSt
        refine wpAnyH_takeD (i := 10) (d := 3) (v := ?_) rfl rfl (by kernel_rfl) (by kernel_rfl) (by kernel_rfl) (fun _ _ _ h => h) (Or.inl ⟨by rfl, ?_⟩) hHeld ?_
        rotate_left
        · rintro w hS4
          obtain ⟨c0, c1, c2⟩ := HSS.out w hS4
          go_simp
          try with_reducible rfl
        simp only [Act.put, List.setIfInBounds_toArray, List.set_cons_zero, List.set_cons_succ]
        refine wpAnyH_done (by kernel_rfl) ?_ _
        go_wp2
        refine bodyPost_ret (results_cell_row_tmpS rfl _ _ g2 110 #[.string kd, .slice A m c, .string ⟨#[]⟩] (0, 0) _ rfl (setRow_heap' hby _) Tryz.underlying110 rfl info_rul3) rfl ?_
        have hkk : KpS (fun k => k = g2) v1 ((v1).setRow g2 #[.string kd, .slice A m c, .string ⟨#[]⟩]) := (KpS.grown (grown_setRow v1 g2 #[.string kd, .slice A m c, .string ⟨#[]⟩])).mono fun _ _ e => (Option.some.inj e).symm
        exact ⟨⟨kd, L, ⟨#[]⟩, ⟨A, m, c⟩⟩, _, rfl, ((HR).out.ext.trans hEv1).grown (grown_setRow v1 g2 _) (fun k hk => by injection hk with hk; rw [← hk]; exact (HR).out.e2), RulW.kp hkk (RulW.ext HRX.out hEv1) (.inr fun j hj e => (HR).out.ne2 (by rw [hj, e])) (fun i hi => ((HR).out.it i hi).2.2.1.mono fun j _ hj => .inl hj), HLG.out, fun j hj => (HR).out.own.ge j hj, fun i hi => ((HR).out.it i hi).2.2.2⟩
      | true =>
        refine wpAnyH_takeD (i := 3) (d := 50) (v := ?_) rfl rfl (by kernel_rfl) (by kernel_rfl) (by kernel_rfl) (fun _ _ _ h => h) (Or.inl ⟨by rfl, ?_⟩) hHeld ?_
        rotate_left
        · rintro w hS4
          obtain ⟨c0, c1, c2⟩ := HSS.out w hS4
          go_simp
          try with_reducible rfl
        simp only [Act.put, List.setIfInBounds_toArray, List.set_cons_zero, List.set_cons_succ]
        refine wpAnyH_takeD (i := 4) (d := 51) (v := ?_) rfl rfl (by kernel_rfl) (by kernel_rfl) (by kernel_rfl) (fun _ _ _ h => h) (Or.inl ⟨by rfl, ?_⟩) hHeld ?_
        rotate_left
        · rintro w hS4
          obtain ⟨c0, c1, c2⟩ := HSS.out w hS4
          go_simp
          try with_reducible rfl
        simp only [Act.put, List.setIfInBounds_toArray, List.set_cons_zero, List.set_cons_succ]
        refine wpAnyH_takeD (i := 6) (d := 53) (v := ?_) rfl rfl (by kernel_rfl) (by kernel_rfl) (by kernel_rfl) (fun _ _ _ h => h) (Or.inl ⟨by rfl, ?_⟩) hHeld ?_
        rotate_left
        · rintro w hS4
          obtain ⟨c0, c1, c2⟩ := HSS.out w hS4
          go_simp
          try with_reducible rfl
        simp only [Act.put, List.setIfInBounds_toArray, List.set_cons_zero, List.set_cons_succ]
        refine wpAnyH_ready (rs := [5]) (by kernel_rfl) (by simp) ?_
        refine AllReadyH.cons rfl (fun K hK => ?_) (AllReadyH.nil)
        go_simp
        go_at_call 74
        refine (lineS_any (x := ⟨kd, L, ⟨#[]⟩, ⟨A, m, c⟩⟩) (RulW.ext HRX.out hEv1) HLG.out).mono ?_
        rintro e v2 ⟨⟨lt, rfl, -⟩, hEv⟩
        have hEv2 := hEv1.trans hEv
        refine hK.out _ _ (KpS.of_ext _ hEv2) (fun _ => ?_)
        clear hK K hHeld
        have hHeld : KpS (fun k => k = g2) (wr) v2 := KpS.of_ext _ hEv2
        refine wpAnyH_takeD (i := 7) (d := 54) (v := ?_) rfl rfl (by kernel_rfl) (by kernel_rfl) (by kernel_rfl) (fun _ _ _ h => h) (Or.inl ⟨by rfl, ?_⟩) hHeld ?_
        rotate_left
        · rintro w hS4
          obtain ⟨c0, c1, c2⟩ := HSS.out w hS4
          go_simp
          try with_reducible rfl
        simp only [Act.put, List.setIfInBounds_toArray, List.set_cons_zero, List.set_cons_succ]
        refine wpAnyH_takeD (i := 8) (d := 55) (v := ?_) rfl rfl (by kernel_rfl) (by kernel_rfl) (by kernel_rfl) (fun _ _ _ h => h) (Or.inl ⟨by rfl, ?_⟩) hHeld ?_
        rotate_left
        · rintro w hS4
          obtain ⟨c0, c1, c2⟩ := HSS.out w hS4
          go_simp
          try with_reducible rfl
        simp only [Act.put, List.setIfInBounds_toArray, List.set_cons_zero, List.set_cons_succ]
        have hby := (HR).out.y.below hEv2 hlt2
        have hSt : KpS (fun k => k = g2) _ ((v2).setRow g2 #[.string kd, .slice A m c, .string ⟨#[]⟩]) := hHeld.trans ((KpS.grown (grown_setRow v2 g2 #[.string kd, .slice A m c, .string ⟨#[]⟩])).mono fun _ _ e => (Option.some.inj e).symm) (fun _ _ e => e)
        refine wpAnyH_storeR (i := 9) (g := g2) (cells := #[.string kd, .slice A m c, .string ⟨#[]⟩]) (by kernel_rfl) rfl rfl rfl rfl rfl rfl hby info_rul3 rfl (by simp [Value.oneCell']) hSt ?_
        clear hHeld
        have hHeld := hSt
        refine wpAnyH_takeD (i := 10) (d := 3) (v := ?_) rfl rfl (by kernel_rfl) (by kernel_rfl) (by kernel_rfl) (fun _ _ _ h => h) (Or.inl ⟨by rfl, ?_⟩) hHeld ?_
        rotate_left
        · rintro w hS4
          obtain ⟨c0, c1, c2⟩ := HSS.out w hS4
          go_simp
          try with_reducible rfl
        simp only [Act.put, List.setIfInBounds_toArray, List.set_cons_zero, List.set_cons_succ]
        refine wpAnyH_done (by kernel_rfl) ?_ _
        go_wp2
        refine bodyPost_ret (results_cell_row_tmpS rfl _ _ g2 110 #[.string kd, .slice A m c, .string ⟨#[]⟩] (0, 0) _ rfl (setRow_heap' hby _) Tryz.underlying110 rfl info_rul3) rfl ?_
        have hkk : KpS (fun k => k = g2) v2 ((v2).setRow g2 #[.string kd, .slice A m c, .string ⟨#[]⟩]) := (KpS.grown (grown_setRow v2 g2 #[.string kd, .slice A m c, .string ⟨#[]⟩])).mono fun _ _ e => (Option.some.inj e).symm
        exact ⟨⟨kd, L, ⟨#[]⟩, ⟨A, m, c⟩⟩, _, rfl, ((HR).out.ext.trans hEv2).grown (grown_setRow v2 g2 _) (fun k hk => by injection hk with hk; rw [← hk]; exact (HR).out.e2), RulW.kp hkk (RulW.ext HRX.out hEv2) (.inr fun j hj e => (HR).out.ne2 (by rw [hj, e])) (fun i hi => ((HR).out.it i hi).2.2.1.mono fun j _ hj => .inl hj), HLG.out, fun j hj => (HR).out.own.ge j hj, fun i hi => ((HR).out.it i hi).2.2.2⟩
    · have hte := tl_full hs30
      have hs3p : 0 < s3.size := by omega
      clear hs30
      by_cases hm20 : 20 < m
      ·
        have hmL := (HR).out.own.len
        have hpf : (⟨#[]⟩ : ByteArray).size ≤ 4000000 := Nat.zero_le _
        have hrx : RulW wr ⟨kd, L, ⟨#[]⟩, ⟨A, m, c⟩⟩ := ⟨⟨(HR).out.own.sl, (HR).out.own.cap, (show m * 64 ≤ 140737488351232 by omega), fun x hx => ((HR).out.it x hx).1⟩, (show kd.size ≤ 140737488351232 by omega), (show (⟨#[]⟩ : ByteArray).size ≤ 140737488351232 by omega)⟩
        have HLG : Hid (LgR ⟨kd, L, ⟨#[]⟩, ⟨A, m, c⟩⟩) := by
          show LgR _
          unfold LgR
          exact ⟨by show kd.size ≤ _; omega, hpf, by show L.length ≤ _; omega, fun i hi => ((HR).out.it i hi).2.1⟩
        have hrd := RulW.ext hrx (Ext.refl (wr)).drew
        have HRX := Lib.hid hrx
        have X0 := laters ((HR).out.x.cell 0)
        have X1 := laters ((HR).out.x.cell 1)
        have X2 := laters ((HR).out.x.cell 2)
        have Y0 := laters ((HR).out.y.cell 0)
        have Y1 := laters ((HR).out.y.cell 1)
        have Y2 := laters ((HR).out.y.cell 2)
        have F0 := laterfz (HR).out.y 0
        have F1 := laterfz (HR).out.y 1
        have F2 := laterfz (HR).out.y 2
        simp at X0 X1 X2 Y0 Y1 Y2
        clear hmL hrx
        have hEd : Ext (wr) (wr).drew := (Ext.refl _).drew
        have hlt2 := (HR).out.y.lt
        have hss : ∀ W', KpS (fun k => k = g2) (wr) W' → W'.cell? ⟨g7, 0, none⟩ = some (.string kd) ∧ W'.cell? ⟨g7, 1, none⟩ = some (.slice A m c) ∧ W'.cell? ⟨g7, 2, none⟩ = some (.string ⟨#[]⟩) := fun W' hk =>
          have hx := KpS.blk hk (HR).out.x (fun e => (HR).out.ne e.symm)
          ⟨hx.cell 0, hx.cell 1, hx.cell 2⟩
        have HSS := Lib.hid hss
        clear hss X0 X1 X2 Y0 Y1 Y2 F0 F1 F2
        go_upto_region 9 with fail
        refine wp_region_held_drew (S := fun w' => KpS (fun k => k = g2) (wr) w') (by kernel_rfl) (KpS.of_ext _ hEd) ?_
        intro hHeld
        refine wpAnyH_takeD (i := 0) (d := 47) (v := ?_) rfl rfl (by kernel_rfl) (by kernel_rfl) (by kernel_rfl) (fun _ _ _ h => h) (Or.inl ⟨by rfl, ?_⟩) hHeld ?_
        rotate_left
        · rintro w hS4
          obtain ⟨c0, c1, c2⟩ := HSS.out w hS4
          go_simp
          try with_reducible rfl
        simp only [Act.put, List.setIfInBounds_toArray, List.set_cons_zero, List.set_cons_succ]
        refine wpAnyH_takeD (i := 1) (d := 48) (v := ?_) rfl rfl (by kernel_rfl) (by kernel_rfl) (by kernel_rfl) (fun _ _ _ h => h) (Or.inl ⟨by rfl, ?_⟩) hHeld ?_
        rotate_left
        · rintro w hS4
          obtain ⟨c0, c1, c2⟩ := HSS.out w hS4
          go_simp
          try with_reducible rfl
        simp only [Act.put, List.setIfInBounds_toArray, List.set_cons_zero, List.set_cons_succ]
        refine wpAnyH_ready (rs := [2]) (by kernel_rfl) (by simp) ?_
        refine AllReadyH.cons rfl (fun K hK => ?_) (AllReadyH.nil)
        go_simp
        go_at_call 73
        refine (soundS_any (x := ⟨kd, L, ⟨#[]⟩, ⟨A, m, c⟩⟩) hrd).mono ?_
        rintro e v1 ⟨⟨ok, rfl, -⟩, hEv⟩
        have hEv1 := hEd.trans hEv
        refine hK.out _ _ (KpS.of_ext _ hEv1) (fun _ => ?_)
        clear hK K hHeld
        have hHeld : KpS (fun k => k = g2) (wr) v1 := KpS.of_ext _ hEv1
        cases ok with
        | false =>
          refine wpAnyH_takeD (i := 3) (d := 50) (v := ?_) rfl rfl (by kernel_rfl) (by kernel_rfl) (by kernel_rfl) (fun _ _ _ h => h) (Or.inl ⟨by rfl, ?_⟩) hHeld ?_
          rotate_left
          · rintro w hS4
            obtain ⟨c0, c1, c2⟩ := HSS.out w hS4
            go_simp
            try with_reducible rfl
          simp only [Act.put, List.setIfInBounds_toArray, List.set_cons_zero, List.set_cons_succ]
          refine wpAnyH_takeD (i := 4) (d := 51) (v := undef) rfl rfl (by kernel_rfl) (by kernel_rfl) (by kernel_rfl) (fun _ _ _ h => h) (Or.inr ⟨by rfl, rfl⟩) hHeld ?_
          simp only [Act.put, List.setIfInBounds_toArray, List.set_cons_zero, List.set_cons_succ]
          refine wpAnyH_takeD (i := 5) (d := 52) (v := undef) rfl rfl (by kernel_rfl) (by kernel_rfl) (by kernel_rfl) (fun _ _ _ h => h) (Or.inr ⟨by rfl, rfl⟩) hHeld ?_
          simp only [Act.put, List.setIfInBounds_toArray, List.set_cons_zero, List.set_cons_succ]
          refine wpAnyH_takeD (i := 6) (d := 53) (v := undef) rfl rfl (by kernel_rfl) (by kernel_rfl) (by kernel_rfl) (fun _ _ _ h => h) (Or.inr ⟨by rfl, rfl⟩) hHeld ?_
          simp only [Act.put, List.setIfInBounds_toArray, List.set_cons_zero, List.set_cons_succ]
          refine wpAnyH_takeD (i := 7) (d := 54) (v := undef) rfl rfl (by kernel_rfl) (by kernel_rfl) (by kernel_rfl) (fun _ _ _ h => h) (Or.inr ⟨by rfl, rfl⟩) hHeld ?_
          simp only [Act.put, List.setIfInBounds_toArray, List.set_cons_zero, List.set_cons_succ]
          refine wpAnyH_takeD (i := 8) (d := 55) (v := ?_) rfl rfl (by kernel_rfl) (by kernel_rfl) (by kernel_rfl) (fun _ _ _ h => h) (Or.inl ⟨by rfl, ?_⟩) hHeld ?_
          rotate_left
          · rintro w hS4
            obtain ⟨c0, c1, c2⟩ := HSS.out w hS4
            go_simp
            try with_reducible rfl
          simp only [Act.put, List.setIfInBounds_toArray, List.set_cons_zero, List.set_cons_succ]
          have hby := (HR).out.y.below hEv1 hlt2
          have hSt : KpS (fun k => k = g2) _ ((v1).setRow g2 #[.string kd, .slice A m c, .string ⟨#[]⟩]) := hHeld.trans ((KpS.grown (grown_setRow v1 g2 #[.string kd, .slice A m c, .string ⟨#[]⟩])).mono fun _ _ e => (Option.some.inj e).symm) (fun _ _ e => e)
          refine wpAnyH_storeR (i := 9) (g := g2) (cells := #[.string kd, .slice A m c, .string ⟨#[]⟩]) (by kernel_rfl) rfl rfl rfl rfl rfl rfl hby info_rul3 rfl (by simp [Value.oneCell']) hSt ?_
          clear hHeld
          have hHeld := hSt
          refine wpAnyH_takeD (i := 10) (d := 3) (v := ?_) rfl rfl (by kernel_rfl) (by kernel_rfl) (by kernel_rfl) (fun _ _ _ h => h) (Or.inl ⟨by rfl, ?_⟩) hHeld ?_
          rotate_left
          · rintro w hS4
            obtain ⟨c0, c1, c2⟩ := HSS.out w hS4
            go_simp
            try with_reducible rfl
          simp only [Act.put, List.setIfInBounds_toArray, List.set_cons_zero, List.set_cons_succ]
          refine wpAnyH_done (by kernel_rfl) ?_ _
          go_wp2
          refine bodyPost_ret (results_cell_row_tmpS rfl _ _ g2 110 #[.string kd, .slice A m c, .string ⟨#[]⟩] (0, 0) _ rfl (setRow_heap' hby _) Tryz.underlying110 rfl info_rul3) rfl ?_
          have hkk : KpS (fun k => k = g2) v1 ((v1).setRow g2 #[.string kd, .slice A m c, .string ⟨#[]⟩]) := (KpS.grown (grown_setRow v1 g2 #[.string kd, .slice A m c, .string ⟨#[]⟩])).mono fun _ _ e => (Option.some.inj e).symm
          exact ⟨⟨kd, L, ⟨#[]⟩, ⟨A, m, c⟩⟩, _, rfl, ((HR).out.ext.trans hEv1).grown (grown_setRow v1 g2 _) (fun k hk => by injection hk with hk; rw [← hk]; exact (HR).out.e2), RulW.kp hkk (RulW.ext HRX.out hEv1) (.inr fun j hj e => (HR).out.ne2 (by rw [hj, e])) (fun i hi => ((HR).out.it i hi).2.2.1.mono fun j _ hj => .inl hj), HLG.out, fun j hj => (HR).out.own.ge j hj, fun i hi => ((HR).out.it i hi).2.2.2⟩
        | true =>
          refine wpAnyH_takeD (i := 3) (d := 50) (v := ?_) rfl rfl (by kernel_rfl) (by kernel_rfl) (by kernel_rfl) (fun _ _ _ h => h) (Or.inl ⟨by rfl, ?_⟩) hHeld ?_
          rotate_left
          · rintro w hS4
            obtain ⟨c0, c1, c2⟩ := HSS.out w hS4
            go_simp
            try with_reducible rfl
          simp only [Act.put, List.setIfInBounds_toArray, List.set_cons_zero, List.set_cons_succ]
          refine wpAnyH_takeD (i := 4) (d := 51) (v := ?_) rfl rfl (by kernel_rfl) (by kernel_rfl) (by kernel_rfl) (fun _ _ _ h => h) (Or.inl ⟨by rfl, ?_⟩) hHeld ?_
          rotate_left
          · rintro w hS4
            obtain ⟨c0, c1, c2⟩ := HSS.out w hS4
            go_simp
            try with_reducible rfl
          simp only [Act.put, List.setIfInBounds_toArray, List.set_cons_zero, List.set_cons_succ]
          refine wpAnyH_takeD (i := 6) (d := 53) (v := ?_) rfl rfl (by kernel_rfl) (by kernel_rfl) (by kernel_rfl) (fun _ _ _ h => h) (Or.inl ⟨by rfl, ?_⟩) hHeld ?_
          rotate_left
          · rintro w hS4
            obtain ⟨c0, c1, c2⟩ := HSS.out w hS4
            go_simp
            try with_reducible rfl
          simp only [Act.put, List.setIfInBounds_toArray, List.set_cons_zero, List.set_cons_succ]
          refine wpAnyH_ready (rs := [5]) (by kernel_rfl) (by simp) ?_
          refine AllReadyH.cons rfl (fun K hK => ?_) (AllReadyH.nil)
          go_simp
          go_at_call 74
          refine (lineS_any (x := ⟨kd, L, ⟨#[]⟩, ⟨A, m, c⟩⟩) (RulW.ext HRX.out hEv1) HLG.out).mono ?_
          rintro e v2 ⟨⟨lt, rfl, -⟩, hEv⟩
          have hEv2 := hEv1.trans hEv
          refine hK.out _ _ (KpS.of_ext _ hEv2) (fun _ => ?_)
          clear hK K hHeld
          have hHeld : KpS (fun k => k = g2) (wr) v2 := KpS.of_ext _ hEv2
          refine wpAnyH_takeD (i := 7) (d := 54) (v := ?_) rfl rfl (by kernel_rfl) (by kernel_rfl) (by kernel_rfl) (fun _ _ _ h => h) (Or.inl ⟨by rfl, ?_⟩) hHeld ?_
          rotate_left
          · rintro w hS4
            obtain ⟨c0, c1, c2⟩ := HSS.out w hS4
            go_simp
            try with_reducible rfl
          simp only [Act.put, List.setIfInBounds_toArray, List.set_cons_zero, List.set_cons_succ]
          refine wpAnyH_takeD (i := 8) (d := 55) (v := ?_) rfl rfl (by kernel_rfl) (by kernel_rfl) (by kernel_rfl) (fun _ _ _ h => h) (Or.inl ⟨by rfl, ?_⟩) hHeld ?_
          rotate_left
          · rintro w hS4
            obtain ⟨c0, c1, c2⟩ := HSS.out w hS4
            go_simp
            try with_reducible rfl
          simp only [Act.put, List.setIfInBounds_toArray, List.set_cons_zero, List.set_cons_succ]
          have hby := (HR).out.y.below hEv2 hlt2
          have hSt : KpS (fun k => k = g2) _ ((v2).setRow g2 #[.string kd, .slice A m c, .string ⟨#[]⟩]) := hHeld.trans ((KpS.grown (grown_setRow v2 g2 #[.string kd, .slice A m c, .string ⟨#[]⟩])).mono fun _ _ e => (Option.some.inj e).symm) (fun _ _ e => e)
          refine wpAnyH_storeR (i := 9) (g := g2) (cells := #[.string kd, .slice A m c, .string ⟨#[]⟩]) (by kernel_rfl) rfl rfl rfl rfl rfl rfl hby info_rul3 rfl (by simp [Value.oneCell']) hSt ?_
          clear hHeld
          have hHeld := hSt
          refine wpAnyH_takeD (i := 10) (d := 3) (v := ?_) rfl rfl (by kernel_rfl) (by kernel_rfl) (by kernel_rfl) (fun _ _ _ h => h) (Or.inl ⟨by rfl, ?_⟩) hHeld ?_
          rotate_left
          · rintro w hS4
            obtain ⟨c0, c1, c2⟩ := HSS.out w hS4
            go_simp
            try with_reducible rfl
          simp only [Act.put, List.setIfInBounds_toArray, List.set_cons_zero, List.set_cons_succ]
          refine wpAnyH_done (by kernel_rfl) ?_ _
          go_wp2
          refine bodyPost_ret (results_cell_row_tmpS rfl _ _ g2 110 #[.string kd, .slice A m c, .string ⟨#[]⟩] (0, 0) _ rfl (setRow_heap' hby _) Tryz.underlying110 rfl info_rul3) rfl ?_
          have hkk : KpS (fun k => k = g2) v2 ((v2).setRow g2 #[.string kd, .slice A m c, .string ⟨#[]⟩]) := (KpS.grown (grown_setRow v2 g2 #[.string kd, .slice A m c, .string ⟨#[]⟩])).mono fun _ _ e => (Option.some.inj e).symm
          exact ⟨⟨kd, L, ⟨#[]⟩, ⟨A, m, c⟩⟩, _, rfl, ((HR).out.ext.trans hEv2).grown (grown_setRow v2 g2 _) (fun k hk => by injection hk with hk; rw [← hk]; exact (HR).out.e2), RulW.kp hkk (RulW.ext HRX.out hEv2) (.inr fun j hj e => (HR).out.ne2 (by rw [hj, e])) (fun i hi => ((HR).out.it i hi).2.2.1.mono fun j _ hj => .inl hj), HLG.out, fun j hj => (HR).out.own.ge j hj, fun i hi => ((HR).out.it i hi).2.2.2⟩
      · have hm20' : m ≤ 20 := by omega
        go_wp2_with (first
          | (go_at_call 71; refine Hid.out ?_))
        refine Hid.mk_ ((cutW_any HR.out.r _).mono ?_)
        rintro e w4 ⟨s4, r, rfl, hr1, hr2, hr3⟩
        have HR4 := Lib.hid (HR.out.cut hr1)
        have hw4 := hr1.g.size
        cases r with
        | true =>
          have hz4 : s4.size ≤ 4000000 := by have := hr3 rfl; omega
          clear hr1 hr2 hr3
          have hR5 := HR4.out.setn s4
          have t2 := HR4.out.x.cell 2
          have f2 := HR4.out.x.frozen 2
          have t8 := HR4.out.r.cell 0
          simp at t2 t8
          go_upto_region 9 with fail
          obtain ⟨w5, hw5⟩ : ∃ w5, w5 = w4.setCell ⟨g7, 2, none⟩ (.string s4) := ⟨_, rfl⟩
          rw [← hw5] at hR5 ⊢
          have HR5 := Lib.hid hR5
          clear hR5 hw5 t2 f2 t8
          have hmL := (HR5).out.own.len
          have hpf : (s4 : ByteArray).size ≤ 4000000 := hz4
          have hrx : RulW w5 ⟨kd, L, s4, ⟨A, m, c⟩⟩ := ⟨⟨(HR5).out.own.sl, (HR5).out.own.cap, (show m * 64 ≤ 140737488351232 by omega), fun x hx => ((HR5).out.it x hx).1⟩, (show kd.size ≤ 140737488351232 by omega), (show (s4 : ByteArray).size ≤ 140737488351232 by omega)⟩
          have HLG : Hid (LgR ⟨kd, L, s4, ⟨A, m, c⟩⟩) := by
            show LgR _
            unfold LgR
            exact ⟨by show kd.size ≤ _; omega, hpf, by show L.length ≤ _; omega, fun i hi => ((HR5).out.it i hi).2.1⟩
          have hrd := RulW.ext hrx (Ext.refl (w5)).drew
          have HRX := Lib.hid hrx
          have X0 := laters ((HR5).out.x.cell 0)
          have X1 := laters ((HR5).out.x.cell 1)
          have X2 := laters ((HR5).out.x.cell 2)
          have Y0 := laters ((HR5).out.y.cell 0)
          have Y1 := laters ((HR5).out.y.cell 1)
          have Y2 := laters ((HR5).out.y.cell 2)
          have F0 := laterfz (HR5).out.y 0
          have F1 := laterfz (HR5).out.y 1
          have F2 := laterfz (HR5).out.y 2
          simp at X0 X1 X2 Y0 Y1 Y2
          clear hmL hrx
          have hEd : Ext (w5) (w5).drew := (Ext.refl _).drew
          have hlt2 := (HR5).out.y.lt
          have hss : ∀ W', KpS (fun k => k = g2) (w5) W' → W'.cell? ⟨g7, 0, none⟩ = some (.string kd) ∧ W'.cell? ⟨g7, 1, none⟩ = some (.slice A m c) ∧ W'.cell? ⟨g7, 2, none⟩ = some (.string s4) := fun W' hk =>
            have hx := KpS.blk hk (HR5).out.x (fun e => (HR5).out.ne e.symm)
            ⟨hx.cell 0, hx.cell 1, hx.cell 2⟩
          have HSS := Lib.hid hss
          clear hss X0 X1 X2 Y0 Y1 Y2 F0 F1 F2
          go_upto_region 9 with fail
          refine wp_region_held_drew (S := fun w' => KpS (fun k => k = g2) (w5) w') (by kernel_rfl) (KpS.of_ext _ hEd) ?_
          intro hHeld
          refine wpAnyH_takeD (i := 0) (d := 47) (v := ?_) rfl rfl (by kernel_rfl) (by kernel_rfl) (by kernel_rfl) (fun _ _ _ h => h) (Or.inl ⟨by rfl, ?_⟩) hHeld ?_
          rotate_left
          · rintro w hS4
            obtain ⟨c0, c1, c2⟩ := HSS.out w hS4
            go_simp
            try with_reducible rfl
          simp only [Act.put, List.setIfInBounds_toArray, List.set_cons_zero, List.set_cons_succ]
          refine wpAnyH_takeD (i := 1) (d := 48) (v := ?_) rfl rfl (by kernel_rfl) (by kernel_rfl) (by kernel_rfl) (fun _ _ _ h => h) (Or.inl ⟨by rfl, ?_⟩) hHeld ?_
          rotate_left
          · rintro w hS4
            obtain ⟨c0, c1, c2⟩ := HSS.out w hS4
            go_simp
            try with_reducible rfl
          simp only [Act.put, List.setIfInBounds_toArray, List.set_cons_zero, List.set_cons_succ]
          refine wpAnyH_ready (rs := [2]) (by kernel_rfl) (by simp) ?_
          refine AllReadyH.cons rfl (fun K hK => ?_) (AllReadyH.nil)
          go_simp
          go_at_call 73
          refine (soundS_any (x := ⟨kd, L, s4, ⟨A, m, c⟩⟩) hrd).mono ?_
          rintro e v1 ⟨⟨ok, rfl, -⟩, hEv⟩
          have hEv1 := hEd.trans hEv
          refine hK.out _ _ (KpS.of_ext _ hEv1) (fun _ => ?_)
          clear hK K hHeld
          have hHeld : KpS (fun k => k = g2) (w5) v1 := KpS.of_ext _ hEv1
          cases ok with
          | false =>
            refine wpAnyH_takeD (i := 3) (d := 50) (v := ?_) rfl rfl (by kernel_rfl) (by kernel_rfl) (by kernel_rfl) (fun _ _ _ h => h) (Or.inl ⟨by rfl, ?_⟩) hHeld ?_
            rotate_left
            · rintro w hS4
              obtain ⟨c0, c1, c2⟩ := HSS.out w hS4
              go_simp
              try with_reducible rfl
            simp only [Act.put, List.setIfInBounds_toArray, List.set_cons_zero, List.set_cons_succ]
            refine wpAnyH_takeD (i := 4) (d := 51) (v := undef) rfl rfl (by kernel_rfl) (by kernel_rfl) (by kernel_rfl) (fun _ _ _ h => h) (Or.inr ⟨by rfl, rfl⟩) hHeld ?_
            simp only [Act.put, List.setIfInBounds_toArray, List.set_cons_zero, List.set_cons_succ]
            refine wpAnyH_takeD (i := 5) (d := 52) (v := undef) rfl rfl (by kernel_rfl) (by kernel_rfl) (by kernel_rfl) (fun _ _ _ h => h) (Or.inr ⟨by rfl, rfl⟩) hHeld ?_
            simp only [Act.put, List.setIfInBounds_toArray, List.set_cons_zero, List.set_cons_succ]
            refine wpAnyH_takeD (i := 6) (d := 53) (v := undef) rfl rfl (by kernel_rfl) (by kernel_rfl) (by kernel_rfl) (fun _ _ _ h => h) (Or.inr ⟨by rfl, rfl⟩) hHeld ?_
            simp only [Act.put, List.setIfInBounds_toArray, List.set_cons_zero, List.set_cons_succ]
            refine wpAnyH_takeD (i := 7) (d := 54) (v := undef) rfl rfl (by kernel_rfl) (by kernel_rfl) (by kernel_rfl) (fun _ _ _ h => h) (Or.inr ⟨by rfl, rfl⟩) hHeld ?_
            simp only [Act.put, List.setIfInBounds_toArray, List.set_cons_zero, List.set_cons_succ]
            refine wpAnyH_takeD (i := 8) (d := 55) (v := ?_) rfl rfl (by kernel_rfl) (by kernel_rfl) (by kernel_rfl) (fun _ _ _ h => h) (Or.inl ⟨by rfl, ?_⟩) hHeld ?_
            rotate_left
            · rintro w hS4
              obtain ⟨c0, c1, c2⟩ := HSS.out w hS4
              go_simp
              try with_reducible rfl
            simp only [Act.put, List.setIfInBounds_toArray, List.set_cons_zero, List.set_cons_succ]
            have hby := (HR5).out.y.below hEv1 hlt2
            have hSt : KpS (fun k => k = g2) _ ((v1).setRow g2 #[.string kd, .slice A m c, .string s4]) := hHeld.trans ((KpS.grown (grown_setRow v1 g2 #[.string kd, .slice A m c, .string s4])).mono fun _ _ e => (Option.some.inj e).symm) (fun _ _ e => e)
            refine wpAnyH_storeR (i := 9) (g := g2) (cells := #[.string kd, .slice A m c, .string s4]) (by kernel_rfl) rfl rfl rfl rfl rfl rfl hby info_rul3 rfl (by simp [Value.oneCell']) hSt ?_
            clear hHeld
            have hHeld := hSt
            refine wpAnyH_takeD (i := 10) (d := 3) (v := ?_) rfl rfl (by kernel_rfl) (by kernel_rfl) (by kernel_rfl) (fun _ _ _ h => h) (Or.inl ⟨by rfl, ?_⟩) hHeld ?_
            rotate_left
            · rintro w hS4
              obtain ⟨c0, c1, c2⟩ := HSS.out w hS4
              go_simp
              try with_reducible rfl
            simp only [Act.put, List.setIfInBounds_toArray, List.set_cons_zero, List.set_cons_succ]
            refine wpAnyH_done (by kernel_rfl) ?_ _
            go_wp2
            refine bodyPost_ret (results_cell_row_tmpS rfl _ _ g2 110 #[.string kd, .slice A m c, .string s4] (0, 0) _ rfl (setRow_heap' hby _) Tryz.underlying110 rfl info_rul3) rfl ?_
            have hkk : KpS (fun k => k = g2) v1 ((v1).setRow g2 #[.string kd, .slice A m c, .string s4]) := (KpS.grown (grown_setRow v1 g2 #[.string kd, .slice A m c, .string s4])).mono fun _ _ e => (Option.some.inj e).symm
            exact ⟨⟨kd, L, s4, ⟨A, m, c⟩⟩, _, rfl, ((HR5).out.ext.trans hEv1).grown (grown_setRow v1 g2 _) (fun k hk => by injection hk with hk; rw [← hk]; exact (HR5).out.e2), RulW.kp hkk (RulW.ext HRX.out hEv1) (.inr fun j hj e => (HR5).out.ne2 (by rw [hj, e])) (fun i hi => ((HR5).out.it i hi).2.2.1.mono fun j _ hj => .inl hj), HLG.out, fun j hj => (HR5).out.own.ge j hj, fun i hi => ((HR5).out.it i hi).2.2.2⟩
          | true =>
            refine wpAnyH_takeD (i := 3) (d := 50) (v := ?_) rfl rfl (by kernel_rfl) (by kernel_rfl) (by kernel_rfl) (fun _ _ _ h => h) (Or.inl ⟨by rfl, ?_⟩) hHeld ?_
            rotate_left
            · rintro w hS4
              obtain ⟨c0, c1, c2⟩ := HSS.out w hS4
              go_simp
              try with_reducible rfl
            simp only [Act.put, List.setIfInBounds_toArray, List.set_cons_zero, List.set_cons_succ]
            refine wpAnyH_takeD (i := 4) (d := 51) (v := ?_) rfl rfl (by kernel_rfl) (by kernel_rfl) (by kernel_rfl) (fun _ _ _ h => h) (Or.inl ⟨by rfl, ?_⟩) hHeld ?_
            rotate_left
            · rintro w hS4
              obtain ⟨c0, c1, c2⟩ := HSS.out w hS4
              go_simp
              try with_reducible rfl
            simp only [Act.put, List.setIfInBounds_toArray, List.set_cons_zero, List.set_cons_succ]
            refine wpAnyH_takeD (i := 6) (d := 53) (v := ?_) rfl rfl (by kernel_rfl) (by kernel_rfl) (by kernel_rfl) (fun _ _ _ h => h) (Or.inl ⟨by rfl, ?_⟩) hHeld ?_
            rotate_left
            · rintro w hS4
              obtain ⟨c0, c1, c2⟩ := HSS.out w hS4
              go_simp
              try with_reducible rfl
            simp only [Act.put, List.setIfInBounds_toArray, List.set_cons_zero, List.set_cons_succ]
            refine wpAnyH_ready (rs := [5]) (by kernel_rfl) (by simp) ?_
            refine AllReadyH.cons rfl (fun K hK => ?_) (AllReadyH.nil)
            go_simp
            go_at_call 74
            refine (lineS_any (x := ⟨kd, L, s4, ⟨A, m, c⟩⟩) (RulW.ext HRX.out hEv1) HLG.out).mono ?_
            rintro e v2 ⟨⟨lt, rfl, -⟩, hEv⟩
            have hEv2 := hEv1.trans hEv
            refine hK.out _ _ (KpS.of_ext _ hEv2) (fun _ => ?_)
            clear hK K hHeld
            have hHeld : KpS (fun k => k = g2) (w5) v2 := KpS.of_ext _ hEv2
            refine wpAnyH_takeD (i := 7) (d := 54) (v := ?_) rfl rfl (by kernel_rfl) (by kernel_rfl) (by kernel_rfl) (fun _ _ _ h => h) (Or.inl ⟨by rfl, ?_⟩) hHeld ?_
            rotate_left
            · rintro w hS4
              obtain ⟨c0, c1, c2⟩ := HSS.out w hS4
              go_simp
              try with_reducible rfl
            simp only [Act.put, List.setIfInBounds_toArray, List.set_cons_zero, List.set_cons_succ]
            refine wpAnyH_takeD (i := 8) (d := 55) (v := ?_) rfl rfl (by kernel_rfl) (by kernel_rfl) (by kernel_rfl) (fun _ _ _ h => h) (Or.inl ⟨by rfl, ?_⟩) hHeld ?_
            rotate_left
            · rintro w hS4
              obtain ⟨c0, c1, c2⟩ := HSS.out w hS4
              go_simp
              try with_reducible rfl
            simp only [Act.put, List.setIfInBounds_toArray, List.set_cons_zero, List.set_cons_succ]
            have hby := (HR5).out.y.below hEv2 hlt2
            have hSt : KpS (fun k => k = g2) _ ((v2).setRow g2 #[.string kd, .slice A m c, .string s4]) := hHeld.trans ((KpS.grown (grown_setRow v2 g2 #[.string kd, .slice A m c, .string s4])).mono fun _ _ e => (Option.some.inj e).symm) (fun _ _ e => e)
            refine wpAnyH_storeR (i := 9) (g := g2) (cells := #[.string kd, .slice A m c, .string s4]) (by kernel_rfl) rfl rfl rfl rfl rfl rfl hby info_rul3 rfl (by simp [Value.oneCell']) hSt ?_
            clear hHeld
            have hHeld := hSt
            refine wpAnyH_takeD (i := 10) (d := 3) (v := ?_) rfl rfl (by kernel_rfl) (by kernel_rfl) (by kernel_rfl) (fun _ _ _ h => h) (Or.inl ⟨by rfl, ?_⟩) hHeld ?_
            rotate_left
            · rintro w hS4
              obtain ⟨c0, c1, c2⟩ := HSS.out w hS4
              go_simp
              try with_reducible rfl
            simp only [Act.put, List.setIfInBounds_toArray, List.set_cons_zero, List.set_cons_succ]
            refine wpAnyH_done (by kernel_rfl) ?_ _
            go_wp2
            refine bodyPost_ret (results_cell_row_tmpS rfl _ _ g2 110 #[.string kd, .slice A m c, .string s4] (0, 0) _ rfl (setRow_heap' hby _) Tryz.underlying110 rfl info_rul3) rfl ?_
            have hkk : KpS (fun k => k = g2) v2 ((v2).setRow g2 #[.string kd, .slice A m c, .string s4]) := (KpS.grown (grown_setRow v2 g2 #[.string kd, .slice A m c, .string s4])).mono fun _ _ e => (Option.some.inj e).symm
            exact ⟨⟨kd, L, s4, ⟨A, m, c⟩⟩, _, rfl, ((HR5).out.ext.trans hEv2).grown (grown_setRow v2 g2 _) (fun k hk => by injection hk with hk; rw [← hk]; exact (HR5).out.e2), RulW.kp hkk (RulW.ext HRX.out hEv2) (.inr fun j hj e => (HR5).out.ne2 (by rw [hj, e])) (fun i hi => ((HR5).out.it i hi).2.2.1.mono fun j _ hj => .inl hj), HLG.out, fun j hj => (HR5).out.own.ge j hj, fun i hi => ((HR5).out.it i hi).2.2.2⟩
        | false =>
          obtain rfl : s4 = s3 := hr2 rfl
          clear hr1 hr2 hr3
          have k1 := HR4.out.x.cell 1
          simp at k1
          have X1 := laters k1
          have hR5 := HR4.out.extn (Ext.refl w4).drew
          have hd1 : w4.drew.cell? ⟨g7, 1, none⟩ = some (.slice A m c) := k1
          go_upto_region 7 with fail
          go_region_law
            (first
              | (go_simp
                 go_at_call 72
                 (with_reducible refine (itemR_any hR5.r hs3p (by omega)).mono ?_)
                 rintro e w6 ⟨x, s6, rfl, hr6, hz6, hx6, hl1, hl2, hn6⟩
                 unfold itmV
                 have hR6 := hR5.cut hr6
                 have d6 := hR6.x.cell 1
                 simp at d6
                 have hnew : SlC itmC 5 (w6.alloc (Obj.cells #[.string x.text, .slice x.h.A x.h.m x.h.c, .bool x.no, .int .i64 x.least, .int .i64 x.most] 152)) (some ⟨w6.heap.size, 0, none⟩) 1 [x] := SlC.new_ (cs := itmC) w6 [x] itmC_len (by simp) _ rfl (0, 0) 1 rfl 152
                 have hEa : Ext w6 (w6.alloc (Obj.cells #[.string x.text, .slice x.h.A x.h.m x.h.c, .bool x.no, .int .i64 x.least, .int .i64 x.most] 152)) := (Ext.refl w6).alloc _
                 have hR7 := hR6.extn hEa
                 have d7 := hR7.x.cell 1
                 simp at d7)
              | (refine step_appC einfo_itm rfl _ _ rfl hR7.own rfl hnew rfl (by omega) hR7.ext.size_le ?_
                 intro A8 m8 c8 w8 ho8 hg8 hn8
                 have hx8 := hR7.x.grown hg8 (fun e => hR7.ne7 e.symm)
                 have k8 := hx8.cell 1
                 have f8 := hx8.frozen 1
                 simp at k8)
              | fail)
          all_goals
            have HR9 := Lib.hid (hR7.app (B := w4.heap.size) (hx6.ext hEa) ⟨by omega, by omega⟩ hn6 HR4.out.ext.size_le HR4.out.y.lt HR4.out.x.lt HR4.out.r.lt HR4.out.own.lt ho8 hg8 hn8)
            have HM8 : Hid (m8 ≤ 21) := by show m8 ≤ 21; rw [ho8.len, List.length_append, ← hR7.own.len]; simp; omega
            have HW8 : Hid (W0.heap.size ≤ (w8.setCell ⟨g7, 1, none⟩ (.slice A8 m8 c8)).heap.size) := by
              have h1 := hr6.g.size
              have h2 := hEa.size_le
              have h3 := hg8.size
              have h4 : w4.drew.heap.size = w4.heap.size := rfl
              have h5 := (grown_setB w8 ⟨g7, 1, none⟩ (.slice A8 m8 c8)).size
              show _ ≤ _
              omega
            obtain ⟨w9, hw9⟩ : ∃ w9, w9 = w8.setCell ⟨g7, 1, none⟩ (.slice A8 m8 c8) := ⟨_, rfl⟩
            rw [← hw9] at HR9 HW8 ⊢
            clear hw9 hR7 hR6 hR5 hnew hEa d7 d6 ho8 hg8 hn8 hx8 k8 f8 hx6 hn6 hr6 hd1 X1 k1
            go_wp2_with (first
              | (go_at_call 71; refine Hid.out ?_))
            refine Hid.mk_ ((cutW_any HR9.out.r _).mono ?_)
            rintro e w10 ⟨s10, r10, rfl, hr1, hr2, hr3⟩
            have HR10 := Lib.hid (HR9.out.cut hr1)
            have HW10 : Hid (W0.heap.size ≤ w10.heap.size) := Nat.le_trans HW8.out hr1.g.size
            have hz10 : s10.size ≤ s6.size := by
              cases r10 with
              | false => rw [hr2 rfl]; exact Nat.le_refl _
              | true => have := hr3 rfl; omega
            clear hr1 hr2 hr3
            go_wp2
            all_goals first
              | (refine ⟨⟨s10, A8, m8, c8, _, by omega, HM8.out, HW10.out, HR10⟩, ?_⟩; show rdSz _ g8 < rdSz _ g8; rw [rdSz_eq HR10.out.r, rdSz_eq HR.out.r]; omega)
              | (go_roundw; (case rel => exact ⟨s10, A8, m8, c8, _, by omega, HM8.out, HW10.out, HR10⟩); (case measure => (show rdSz _ g8 < rdSz _ g8; rw [rdSz_eq HR10.out.r, rdSz_eq HR.out.r]; omega)))
end
end Go.Proofs.YtgnchicipmomlaaGreatDoor
