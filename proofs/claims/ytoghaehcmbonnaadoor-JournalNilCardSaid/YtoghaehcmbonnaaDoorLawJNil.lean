/- On a nil pointer, Append and Truncate return ErrState and the others zero values; an event that is too long is refused with ErrLimit, and a shorter one is taken. No condition. -/
import Derived.Test.YtoghaehcmbonnaaDoorJrnD
import Derived.Test.YtoghaehcmbonnaaDoorRead
import Derived.Test.YtoghaehcmbonnaaDoorTie
import Derived.Test.YtoghaehcmbonnaaDoorCards
import Derived.Laws.OwnMore
import Derived.ProofKit
import Derived.OpenShut
import Derived.ShutString
import Derived.ChangeOld
import Derived.SizedLaws
namespace Go.Proofs.YtoghaehcmbonnaaDoor
open Go.ChangeShapes Go.WideShapes Go.ChangeAt Go.RowKit
set_option maxRecDepth 100000
section
variable {w : World}
set_option maxHeartbeats 800000 in
theorem jappend_nil (kd xa xb xt : Int) (who nam id txt : ByteArray) : Calls Tryd.prog 14 #[.pointer none, .agg #[.int .i64 kd, .string who, .string nam, .string id, .string txt, .int .i64 xa, .int .i64 xb, .int .i64 xt]] w fun e w' => e = .returned (.int .i64 7) ∧ Ext w w' := by
  have hE : Ext w (w.alloc (Obj.cells #[.int .i64 kd, .string who, .string nam, .string id, .string txt, .int .i64 xa, .int .i64 xb, .int .i64 xt] 31)) := (Ext.refl w).alloc _
  go_enter Tryd.func14, Tryd.ntmps14
  go_wp2
  go_ret
  exact ⟨rfl, hE⟩
theorem jtrunc_nil (n : Int) : Calls Tryd.prog 15 #[.pointer none, .int .i64 n] w fun e w' => e = .returned (.int .i64 7) ∧ Ext w w' := by
  go_enter Tryd.func15, Tryd.ntmps15
  go_wp2
  go_ret
  exact ⟨rfl, Ext.refl w⟩
theorem jevents_nil : Calls Tryd.prog 10 #[.pointer none] w fun e w' => e = .returned (.slice none 0 0) ∧ Ext w w' := by
  go_enter Tryd.func10, Tryd.ntmps10
  go_wp2
  go_ret
  exact ⟨rfl, Ext.refl w⟩
theorem jlen_nil : Calls Tryd.prog 12 #[.pointer none] w fun e w' => e = .returned (.int .i64 0) ∧ Ext w w' := by
  go_enter Tryd.func12, Tryd.ntmps12
  go_wp2
  go_ret
  exact ⟨rfl, Ext.refl w⟩
theorem jbytes_nil : Calls Tryd.prog 9 #[.pointer none] w fun e w' => e = .returned (.slice none 0 0) ∧ Ext w w' := by
  go_enter Tryd.func9, Tryd.ntmps9
  go_wp2
  go_ret
  exact ⟨rfl, Ext.refl w⟩
/-- An event with nothing but a text. -/
def evT (t : ByteArray) : Ev := ⟨0, ⟨#[]⟩, ⟨#[]⟩, ⟨#[]⟩, t, 0, 0, 0⟩
theorem encI0_len : (encI 0).length = 1 := by decide +kernel
theorem evT_len (t : ByteArray) : (encE (evT t)).length = 7 + (encI (t.size : Int)).length + t.size := by
  have h0 : (encS (bys (⟨#[]⟩ : ByteArray))).length = 1 := by
    show (encI 0 ++ []).length = 1
    rw [List.append_nil, encI0_len]
  unfold encE evT
  simp only [List.length_append, encI0_len, h0]
  have h1 : (encS (bys t)).length = (encI (t.size : Int)).length + t.size := by unfold encS; rw [List.length_append, bys_len]
  rw [h1]
  omega
theorem encI_long : 3 ≤ (encI 299991).length := by decide +kernel
theorem evT_good (t : ByteArray) : GoodE (evT t) := by
  have h0 : InR 0 := ⟨by decide, by decide⟩
  exact ⟨h0, h0, h0, h0⟩
variable {j : Nat} {S : Nat → Prop} {l : List Ev} {es : List Int} {k : Nat} {ks : List Nat} {bs : List UInt8}
set_option maxHeartbeats 1600000 in
theorem jappend_long (x : Ev) (hg : GoodE x) (hs : ShortE x) (hlong : 300000 < (encE x).length) :
    Calls Tryd.prog 14 #[.pointer (some ⟨j, 0, none⟩), evV x] w fun e w' => e = .returned (.int .i64 6) ∧ Ext w w' := by
  obtain ⟨le, hle2⟩ : ∃ le, le = encE x := ⟨_, rfl⟩
  have HENC : Hid (∀ W : World, Calls Tryd.prog 19 #[evV x] W fun e w' => ∃ A m c, e = .returned (.slice A m c) ∧ OsB w' W.heap.size A m c le ∧ Ext W w') := fun W => by rw [hle2]; exact jenc_any x hg hs
  rw [← hle2] at hlong
  clear hle2 hg hs
  obtain ⟨kd, who, nam, id, txt, xa, xb, xt⟩ := x
  unfold evV at HENC
  unfold evV
  have hE1 : Ext w (w.alloc (Obj.cells #[.int .i64 kd, .string who, .string nam, .string id, .string txt, .int .i64 xa, .int .i64 xb, .int .i64 xt] 31)) := (Ext.refl w).alloc _
  go_enter Tryd.func14, Tryd.ntmps14
  go_wp2_with (first
    | (go_at_call 19; refine Hid.out ?_))
  refine Hid.mk_ ((HENC.out _).mono ?_)
  rintro e w2 ⟨A2, m2, c2, rfl, ho2, hE2⟩
  have hm2 : (300000 : Int) < (m2 : Int) := by have := ho2.len; omega
  have hE02 := hE1.trans hE2
  clear ho2
  go_wp2
  go_ret
  exact ⟨rfl, hE02⟩
set_option maxHeartbeats 3200000 in
theorem jnil_walk (kd xa xb xt n : Int) (who nam id txt : ByteArray) (hT : PT w) :
    Calls Tryd.prog 4 #[.agg #[.int .i64 kd, .string who, .string nam, .string id, .string txt, .int .i64 xa, .int .i64 xb, .int .i64 xt], .int .i64 n] w fun e w' => e = .returned (.bool true) ∧ Ext w w' := by
  have hE0 : Ext w (w.alloc (Obj.cells #[.int .i64 kd, .string who, .string nam, .string id, .string txt, .int .i64 xa, .int .i64 xb, .int .i64 xt] 31)) := (Ext.refl w).alloc _
  have hbx := Blk.new w 31 #[.int .i64 kd, .string who, .string nam, .string id, .string txt, .int .i64 xa, .int .i64 xb, .int .i64 xt]
  obtain ⟨N, hN⟩ : ∃ N : Nat, N = 299991 := ⟨_, rfl⟩
  have hNI : (299991 : Int) = (N : Int) := by rw [hN]; rfl
  obtain ⟨i0, hi, hz0, hz1, hz2⟩ := info_parts info_u8
  obtain ⟨Z, hZ⟩ : ∃ Z, Z = madeCells #[Value.int .u8 0] N := ⟨_, rfl⟩
  have hmk : ∀ W : World, (Instr.makeSlice 27 (.int .i64 299991) (.int .i64 299991)).run Tryd.prog W = .ok (.slice (some ⟨W.heap.size, 0, none⟩) N N) (W.alloc (.cells Z 5)) := fun W => by
    have h := run_makeSlice (P := Tryd.prog) W 27 5 i0 (.int .u8 0) Tryd.underlying27 hi hz0 .i64 .i64 (N : Int) (N : Int) (by omega) (by omega) (by rw [hz1, hN]; decide) (by rw [hz2, hN]; decide) (by rw [hN]; decide)
    rw [hNI, h]
    rw [Int.toNat_natCast, hz1, Nat.mul_one, hZ]
    rfl
  have hZc : Z = ((List.replicate N (0 : UInt8)).map bv).toArray := by
    have h1 := congrArg List.toArray (toList_madeCells_one (Value.int .u8 0) N)
    rw [Array.toArray_toList] at h1
    rw [hZ, h1, List.map_replicate]
    rfl
  obtain ⟨T, hTd⟩ : ∃ T, T = str (List.replicate N (0 : UInt8)) := ⟨_, rfl⟩
  have hTs : T.size = N := by rw [hTd, str_size, List.length_replicate]
  have hcv : ∀ W : World, (convert 27 9 (.slice (some ⟨W.heap.size, 0, none⟩) N N)).run Tryd.prog (W.alloc (.cells Z 5)) = .ok (.string T) (W.alloc (.cells Z 5)) := fun W => by
    rw [hTd]
    exact conv_str (SlB.new_ W (List.replicate N (0 : UInt8)) (by rw [List.length_replicate, hN]; decide) Z hZc (0, 0) N (by rw [List.length_replicate]) _) N
  obtain ⟨M, hM⟩ : ∃ M : Nat, M = N - 10 := ⟨_, rfl⟩
  have hMI : (N : Int) - 10 = (M : Int) := by omega
  have hM0 : M ≤ T.size := by omega
  have HSZ : Hid ((T.extract 0 M).size = M) := by show _ = _; rw [ByteArray.size_extract]; omega
  have HLONG : Hid (∀ (W : World) (j : Nat), Calls Tryd.prog 14 #[.pointer (some ⟨j, 0, none⟩), .agg #[.int .i64 0, .string ⟨#[]⟩, .string ⟨#[]⟩, .string ⟨#[]⟩, .string T, .int .i64 0, .int .i64 0, .int .i64 0]] W fun e w' => e = .returned (.int .i64 6) ∧ Ext W w') := fun W j =>
    jappend_long (evT T) (evT_good T) (by show 0 + 0 + 0 + T.size ≤ _; omega) (by rw [evT_len, hTs, ← hNI]; have := encI_long; omega)
  have HSHORT : Hid (∀ (W : World) (S : Nat → Prop) (j : Nat) (t : ByteArray), t.size = M → Jr W j S [] [] 109270082352485 [] magicL → PT W → Calls Tryd.prog 14 #[.pointer (some ⟨j, 0, none⟩), .agg #[.int .i64 0, .string ⟨#[]⟩, .string ⟨#[]⟩, .string ⟨#[]⟩, .string t, .int .i64 0, .int .i64 0, .int .i64 0]] W fun e w' => e = .returned (.int .i64 0) ∧
      (∃ es k ks bs, Jr w' j (fun g => S g ∨ W.heap.size ≤ g) [evT t] es k ks bs) ∧ KeepS S W w') := fun W S j t ht h1 h2 =>
    (jappend_any (evT t) h1 (by decide) (evT_good t) (by show 0 + 0 + 0 + t.size ≤ _; omega) (by rw [evT_len, ht]; have := encI_length_le (M : Int); omega) (by decide) (by decide) (by decide) (by decide) (by decide) h2).mono fun e w' ⟨a, b, c⟩ => ⟨a, ⟨_, _, _, _, b⟩, c⟩
  have hN1 : (10 : Int) ≤ (N : Int) := by omega
  have hN2 : N ≤ 299991 := by omega
  have HMS := Lib.hid hM0
  clear hN hM hZ hZc hTd hNI hi hz0 hz1 hz2
  go_enter Tryd.func4, Tryd.ntmps4
  go_wp2_with (first
    | (go_at_call 6; refine Hid.out ?_))
  refine Hid.mk_ ((awake_jrn (hT.ext hE0)).mono ?_)
  rintro e w1 ⟨rfl, hE1⟩
  have hb1 := hbx.below hE1 hbx.lt
  have x0 : w1.cell? ⟨w.heap.size, 0, none⟩ = some (.int .i64 kd) := hb1.cell 0
  have x1 : w1.cell? ⟨w.heap.size, 1, none⟩ = some (.string who) := hb1.cell 1
  have x2 : w1.cell? ⟨w.heap.size, 2, none⟩ = some (.string nam) := hb1.cell 2
  have x3 : w1.cell? ⟨w.heap.size, 3, none⟩ = some (.string id) := hb1.cell 3
  have x4 : w1.cell? ⟨w.heap.size, 4, none⟩ = some (.string txt) := hb1.cell 4
  have x5 : w1.cell? ⟨w.heap.size, 5, none⟩ = some (.int .i64 xa) := hb1.cell 5
  have x6 : w1.cell? ⟨w.heap.size, 6, none⟩ = some (.int .i64 xb) := hb1.cell 6
  have x7 : w1.cell? ⟨w.heap.size, 7, none⟩ = some (.int .i64 xt) := hb1.cell 7
  have hE01 := hE0.trans hE1
  go_wp2_with (first
    | (go_at_call 14; refine Hid.out ?_))
  refine Hid.mk_ ((jappend_nil kd xa xb xt who nam id txt).mono ?_)
  rintro e w2 ⟨rfl, hE2⟩
  clear x0 x1 x2 x3 x4 x5 x6 x7 hb1 hbx
  go_wp2_with (first
    | (go_at_call 15; refine Hid.out ?_))
  refine Hid.mk_ ((jtrunc_nil n).mono ?_)
  rintro e w3 ⟨rfl, hE3⟩
  go_wp2_with (first
    | (go_at_call 10; refine Hid.out ?_))
  refine Hid.mk_ ((jevents_nil).mono ?_)
  rintro e w4 ⟨rfl, hE4⟩
  go_wp2_with (first
    | (go_at_call 12; refine Hid.out ?_))
  refine Hid.mk_ ((jlen_nil).mono ?_)
  rintro e w5 ⟨rfl, hE5⟩
  go_wp2_with (first
    | (go_at_call 9; refine Hid.out ?_))
  refine Hid.mk_ ((jbytes_nil).mono ?_)
  rintro e w6 ⟨rfl, hE6⟩
  have hE06 := ((((hE01.trans hE2).trans hE3).trans hE4).trans hE5).trans hE6
  go_wp2_with (first
    | (go_at_call 16; refine Hid.out ?_))
  refine Hid.mk_ ((jnew_any).mono ?_)
  rintro e w7 ⟨rfl, hJ7, hE7⟩
  obtain ⟨j, hj⟩ : ∃ j, j = w6.heap.size := ⟨_, rfl⟩
  rw [← hj] at hJ7 ⊢
  have HJ := Lib.hid hj
  clear hj
  have hEZ : Ext w7 (w7.alloc (.cells Z 5)) := (Ext.refl w7).alloc _
  go_wp2_with (first
    | (go_at_call 14; refine Hid.out ?_))
  refine Hid.mk_ ((HLONG.out _ j).mono ?_)
  rintro e w8 ⟨rfl, hE8⟩
  have hE78 := hEZ.trans hE8
  have hJ8 := hJ7.ext hE78
  go_wp2_with (first
    | (go_at_call 12; refine Hid.out ?_))
  refine Hid.mk_ ((jlen_any hJ8).mono ?_)
  rintro e w9 ⟨rfl, hE9⟩
  have hE09 := (hE06.trans hE7).trans (hE78.trans hE9)
  go_wp2_with (first
    | (go_at_call 14; refine Hid.out ?_))
  refine Hid.mk_ ((HSHORT.out w9 _ j (T.extract 0 M) HSZ.out (hJ8.ext hE9) (hT.ext hE09)).mono ?_)
  rintro e w10 ⟨rfl, ⟨es, k, ks, bs, hJ10⟩, hK10⟩
  have hE10 : Ext w w10 := Below.trans hE09 (hK10.toBelow hE09.size_le (fun g hg => Nat.le_trans hE06.size_le (by have h9 : j ≤ g := hg; rw [HJ.out] at h9; exact h9)))
  go_wp2_with (first
    | (go_at_call 12; refine Hid.out ?_))
  refine Hid.mk_ ((jlen_any hJ10).mono ?_)
  rintro e w11 ⟨rfl, hE11⟩
  have HE := Lib.hid (hE10.trans hE11)
  clear hJ7 hJ8 hJ10 hK10 hmk hcv
  go_wp2
  go_ret
  exact ⟨rfl, HE.out⟩
end
theorem cells_sJ : Tryd.prog.cellsOf 9 = 1 := by kernel_rfl
theorem cells_iJ : Tryd.prog.cellsOf 3 = 1 := by kernel_rfl
theorem cells_eJ : Tryd.prog.cellsOf 31 = 8 := by kernel_rfl
section
variable {H : Type} {enc : TypeId × Value → H} {W : World}
theorem opn_ev : Opn enc W 31 evC (fun x => GoodE x ∧ GoodStr x.who ∧ GoodStr x.name ∧ GoodStr x.id ∧ GoodStr x.text) := by
  intro n cs x h hw
  obtain ⟨hl, hp⟩ := opn_part Tryd.underlying31 h hw
  rw [cells_eJ] at hl
  match cs, hl with
  | [a, b, c, d, e, f, g, i], _ =>
    obtain ⟨y0, e0, g0⟩ := hp 0 _ rfl (opn_int Tryd.underlying3)
    obtain ⟨y1, e1, g1⟩ := hp 1 _ rfl (opn_string Tryd.underlying9)
    obtain ⟨y2, e2, g2⟩ := hp 2 _ rfl (opn_string Tryd.underlying9)
    obtain ⟨y3, e3, g3⟩ := hp 3 _ rfl (opn_string Tryd.underlying9)
    obtain ⟨y4, e4, g4⟩ := hp 4 _ rfl (opn_string Tryd.underlying9)
    obtain ⟨y5, e5, g5⟩ := hp 5 _ rfl (opn_int Tryd.underlying3)
    obtain ⟨y6, e6, g6⟩ := hp 6 _ rfl (opn_int Tryd.underlying3)
    obtain ⟨y7, e7, g7⟩ := hp 7 _ rfl (opn_int Tryd.underlying3)
    simp [cells_sJ, cells_iJ, strF, intF] at e0 e1 e2 e3 e4 e5 e6 e7
    subst e0 e1 e2 e3 e4 e5 e6 e7
    exact ⟨⟨y0, y1, y2, y3, y4, y5, y6, y7⟩, rfl, ⟨bounds_i64 g0, bounds_i64 g5, bounds_i64 g6, bounds_i64 g7⟩, g1, g2, g3, g4⟩
end

set_option maxRecDepth 100000 in
theorem liftedJournalNil (os : Os) (started : os.Started) (H : Type) (enc : TypeId × Value → H) :
    ReturnsInHanded {} Tryd.checked os 4 .any (fun w args => (Rows.journalNilSpec.pre enc Tryd.prog Tryd.f4 [] false w args ∧ laidMetH Tryd.prog laidL57 w) ∧ sizedMet enc Tryd.prog Tryd.f4 (OpenSpec.ofChange Rows.journalNilSpec) false w args) (Rows.journalNilSpec.post enc Tryd.prog Tryd.f4 false true false false) := by
  refine returnsInHanded_of_change_and (C := Tryd.checked) (X := fun w _ => laidMetH Tryd.prog laidL57 w) (fun _ _ _ hh h => h.of_heap hh) ownK started (by kernel_rfl) Tryd.func4
    (ChangeSpec.witness_shaped (enc := enc) (C := Tryd.checked) (os := os) (X := fun w _ => laidMetH Tryd.prog laidL57 w) false (World.laidAll Tryd.prog os laidL57) #[.agg #[.int .i64 0, .string ⟨#[]⟩, .string ⟨#[]⟩, .string ⟨#[]⟩, .string ⟨#[]⟩, .int .i64 0, .int .i64 0, .int .i64 0], .int .i64 0] 8 (World.laidAll_os _ _ _)
      (World.shaped_of_ZipB (by kernel_rfl) (by kernel_rfl)) (by kernel_rfl) (by kernel_rfl) (by kernel_rfl)
      (by rw [MakeChecks.laidMetH_plain _ _ _ (by kernel_rfl)]; exact laidMet_laidAll _ (by kernel_rfl) (by kernel_rfl))) ?_
  intro W base args ds gs before hval0 hW hcnd hsz0 hL _
  have hT := pt_of_laid hL
  have hval : ∀ (j : Nat) t v, Tryd.f4.params[j]? = some t → args[j]? = some v → Value.okWide Tryd.prog W .any base t v := hval0
  have hW' := hW
  obtain ⟨p, q, hA0, hV, rfl, hfz, hnd⟩ := hW
  have hA : DataW.TrodAll enc Tryd.prog W 0 (fun _ => true) true Tryd.f4.params.toList args.toList ds p := hA0
  have hsz : (DataW.weightsEach Tryd.prog (Tryd.f4.params.toList ++ Rows.journalNilSpec.plain.varTypes Tryd.prog) (ds ++ gs)).all (· ≤ reachBytes) = true := hsz0
  rw [Tryd.params4] at hA hval hsz
  obtain ⟨v0, vs0, d0, ds0, p0, q0, hargs0, rfl, rfl, h0, r0⟩ := trodAll_cons hA
  obtain ⟨v1, vs1, d1, ds1, p1, q1, hargs1, rfl, rfl, h1, r1⟩ := trodAll_cons r0
  obtain ⟨rfl, rfl, rfl⟩ := trodAll_nil r1
  obtain rfl : args = #[v0, v1] := by cases args; simp_all
  obtain ⟨rfl, rfl⟩ := trodVars_none hV
  have k0 := h0
  have lt0 : ∀ x ∈ p0, x.block < W.heap.size := by obtain ⟨m, hm⟩ := k0; exact DataW.trod_lt m _ _ _ hm
  have k1 := h1
  have lt1 : ∀ x ∈ p1, x.block < W.heap.size := by obtain ⟨m, hm⟩ := k1; exact DataW.trod_lt m _ _ _ hm
  obtain ⟨x0, rfl, g0⟩ := opn_top_agg opn_ev ((okWide_struct Tryd.underlying31 (hval 0 31 v0 rfl rfl)).imp fun _ hh => hh.1) h0 (WOk.top hsz (j := 0) rfl rfl)
  obtain ⟨a1, rfl, rfl, rfl, w1⟩ := open_int Tryd.underlying3 (hval 1 3 v1 rfl rfl) h1
  obtain ⟨y0, y1, y2, y3, y4, y5, y6, y7⟩ := x0
  clear hA0 hval0
  refine (jnil_walk y0 y5 y6 y7 a1 y1 y2 y3 y4 hT).mono fun e W' ⟨he, bel⟩ => ?_
  subst he
  exact ⟨_, rfl, _, _, _, [], _, [], hW', trodAll_mk1 (shut_bool Tryd.underlying4 _), (trodAll_cons_mk (Below.trod laidK (by kernel_rfl) (of_decide_eq_true (by kernel_rfl)) k0 bel lt0) (trodAll_cons_mk (Below.trod laidK (by kernel_rfl) (of_decide_eq_true (by kernel_rfl)) k1 bel lt1) trodAll_mk0)), rfl, Below.frame bel _, fun h => by cases h⟩
theorem JournalNil_row : Rows.JournalNilSaid :=
  OpenClaim.holds_of_wide 4 Tryd.f4 rfl rfl rfl rfl rfl rfl rfl ⟨rfl, rfl, rfl, rfl, rfl⟩ rfl rfl rfl rfl rfl (by kernel_rfl) Tryd.func4 (by kernel_rfl)
    (of_decide_eq_true (by kernel_rfl)) (by unfold Func.isWrapper; rw [if_neg (of_decide_eq_false (by kernel_rfl))]; exact ⟨rfl, rfl⟩)
    (fun os started H enc _ => liftedJournalNil os started H enc)
theorem JournalNil_holds : Rows.JournalNilCardSaid :=
  Claim7.holds_tied_plain_at .later [] Rows.journalNilCard.laidKinds true Rows.journalNilCard.stood.harness Rows.journalNilCard.stood.looks
    JournalNil_row (fun _ h => by cases h) (by kernel_rfl) (fun _ h => by cases h) journalNil_row_tie rfl ⟨rfl, rfl⟩ (by kernel_rfl) rfl
    (fun f fn hf hfn => by
      obtain rfl : f = 4 := Option.some.inj ((show Tryd.prog.funcNamed Rows.journalNilRow.func = some 4 by kernel_rfl).symm.trans hf) |>.symm
      obtain rfl : fn = Tryd.f4 := (Option.some.inj (Tryd.func4.symm.trans hfn)).symm
      exact ⟨by kernel_rfl, fun j t ht => by
        rw [Tryd.params4] at ht
        have hm : t ∈ [31, 3] := by simpa using Array.mem_of_getElem? ht
        have hall : ([31, 3].all fun u => !Tryd.prog.wantsStandIn u) = true := by kernel_rfl
        exact (show Tryd.prog.wantsStandIn t = false by simpa using List.all_eq_true.1 hall t hm)⟩)
    (by kernel_rfl)
#print axioms JournalNil_holds
end Go.Proofs.YtoghaehcmbonnaaDoor
