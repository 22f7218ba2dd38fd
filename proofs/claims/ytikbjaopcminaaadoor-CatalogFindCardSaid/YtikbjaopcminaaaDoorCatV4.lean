/- The program's check of an entry. -/
import Derived.Test.YtikbjaopcminaaaDoorCatV2
import Derived.Test.YtikbjaopcminaaaDoorCatV3
namespace Go.Proofs.YtikbjaopcminaaaDoor
open Go.RowKit
set_option maxRecDepth 100000

theorem empty_size (s : ByteArray) : s.size = 0 ↔ s = ByteArray.empty := by
  constructor
  · intro h
    apply bys_inj
    have h1 : (bys s).length = 0 := by rw [bys_len]; exact h
    rw [List.eq_nil_of_length_eq_zero h1]
    rfl
  · rintro rfl
    rfl
theorem isEmpty_size (s : ByteArray) : s.toList.isEmpty = decide (s.size = 0) := by
  rw [ByteArray.toList_eq, Bool.eq_iff_iff, decide_eq_true_eq, List.isEmpty_iff, ← List.length_eq_zero_iff]
  exact Iff.of_eq (congrArg (· = 0) (bys_len s))
def entV (x : Ent) : Value := .agg #[.string x.p.id, .string x.p.src, .string x.p.tgt, .slice x.c.A x.c.m x.c.c, .slice x.f.A x.f.m x.f.c, .int .i64 x.p.st, .slice x.d.A x.d.m x.d.c]
attribute [local go_sem] ext_refl_t ext_alloc_t ext_drew_t ext_drewN_t ext_alloc2_t ext_alloc3_t ext_alloc4_t ext_alloc5_t ext_alloc6_t ext_alloc7_t ext_alloc8_t ext_alloc1d_t ext_alloc2d_t ext_alloc3d_t ext_alloc4d_t
section
variable {w : World}
set_option maxHeartbeats 6400000 in
theorem validEntry_any {x : Ent} (hx : EntW w x) (hT : Tabs w) :
    Calls Tryd.prog 23 #[entV x] w fun e w' => e = .returned (.bool (validE x.p)) ∧ Ext w w' := by
  obtain ⟨⟨id, src, tgt, com, fl, st, fd⟩, hc, hf, hd⟩ := x
  obtain ⟨kc, kf, kd, gid, gsrc, gtgt, gst1, gst2⟩ := hx
  unfold entV
  dsimp only at *
  have hb := Blk.new w 30 #[.string id, .string src, .string tgt, .slice hc.A hc.m hc.c, .slice hf.A hf.m hf.c, .int .i64 st, .slice hd.A hd.m hd.c]
  have hW0 : Ext w (w.alloc (Obj.cells #[.string id, .string src, .string tgt, .slice hc.A hc.m hc.c, .slice hf.A hf.m hf.c, .int .i64 st, .slice hd.A hd.m hd.c] 30)) := (Ext.refl w).alloc _
  have X0 := laters (show _ = some (.string id) from hb.cell 0)
  have X1 := laters (show _ = some (.string src) from hb.cell 1)
  have X2 := laters (show _ = some (.string tgt) from hb.cell 2)
  have X3 := laters (show _ = some (.slice hc.A hc.m hc.c) from hb.cell 3)
  have X4 := laters (show _ = some (.slice hf.A hf.m hf.c) from hb.cell 4)
  have X5 := laters (show _ = some (.int .i64 st) from hb.cell 5)
  have X6 := laters (show _ = some (.slice hd.A hd.m hd.c) from hb.cell 6)
  clear hb
  by_cases c1 : id = ByteArray.empty
  · subst c1
    have HF : Hid (validE ⟨ByteArray.empty, src, tgt, com, fl, st, fd⟩ = false) := by show validE _ = false; unfold validE; rfl
    go_enter Tryd.func23, Tryd.ntmps23
    go_wp2
    go_ret
    exact ⟨by rw [HF.out]; first | done | rfl, hW0⟩
  have e1 : id.toList.isEmpty = false := by rw [isEmpty_size]; exact decide_eq_false (fun h => c1 ((empty_size _).1 h))
  have z1 : decide (id.size = 0) = false := decide_eq_false (fun h => c1 ((empty_size _).1 h))
  have Z1 := Lib.hid z1
  clear z1
  by_cases c2 : 200 < id.size
  · have c2i : (200 : Int) < (id.size : Int) := by omega
    have HF : Hid (validE ⟨id, src, tgt, com, fl, st, fd⟩ = false) := by show validE _ = false; unfold validE; dsimp only; rw [decide_eq_false (show ¬ id.size ≤ 200 by omega)]; simp
    go_enter Tryd.func23, Tryd.ntmps23
    go_wp2
    go_ret
    exact ⟨by rw [HF.out]; first | done | rfl, hW0⟩
  have c2i : ¬ (200 : Int) < (id.size : Int) := by omega
  have Z2 := Lib.hid (decide_eq_true (show id.size ≤ 200 by omega))
  go_enter Tryd.func23, Tryd.ntmps23
  go_wp2_with (first
    | (go_at_call 17; refine Hid.out ?_))
  refine Hid.mk_ ((validText_any id (hT.ext hW0)).mono ?_)
  rintro e w1 ⟨rfl, hE1⟩
  have hE01 := hW0.trans hE1
  cases ct : textL (bys id) with
  | false =>
    have HF : Hid (validE ⟨id, src, tgt, com, fl, st, fd⟩ = false) := by show validE _ = false; unfold validE; dsimp only; rw [ct]; simp
    clear ct
    go_wp2
    go_ret
    exact ⟨by rw [HF.out]; first | done | rfl, hE01⟩
  | true =>
  have Z3 := Lib.hid ct
  clear ct
  by_cases c4 : st < 0
  · have HF : Hid (validE ⟨id, src, tgt, com, fl, st, fd⟩ = false) := by show validE _ = false; unfold validE; dsimp only; rw [decide_eq_false (show ¬ (0 ≤ st ∧ st ≤ 4) by omega)]; simp
    go_wp2
    go_ret
    exact ⟨by rw [HF.out]; first | done | rfl, hE01⟩
  by_cases c5 : 4 < st
  · have HF : Hid (validE ⟨id, src, tgt, com, fl, st, fd⟩ = false) := by show validE _ = false; unfold validE; dsimp only; rw [decide_eq_false (show ¬ (0 ≤ st ∧ st ≤ 4) by omega)]; simp
    go_wp2
    go_ret
    exact ⟨by rw [HF.out]; first | done | rfl, hE01⟩
  have Z4 := Lib.hid (decide_eq_true (show 0 ≤ st ∧ st ≤ 4 by omega))
  go_wp2_with (first
    | (go_at_call 17; refine Hid.out ?_))
  refine Hid.mk_ ((validText_any src (hT.ext hE01)).mono ?_)
  rintro e w2 ⟨rfl, hE2⟩
  have hE12 := hE1.trans hE2
  have hE02 := hE01.trans hE2
  cases ct : textL (bys src) with
  | false =>
    have HF : Hid (validE ⟨id, src, tgt, com, fl, st, fd⟩ = false) := by show validE _ = false; unfold validE; dsimp only; rw [ct]; simp
    clear ct
    go_wp2
    go_ret
    exact ⟨by rw [HF.out]; first | done | rfl, hE02⟩
  | true =>
  have Z5 := Lib.hid ct
  clear ct
  go_wp2_with (first
    | (go_at_call 17; refine Hid.out ?_))
  refine Hid.mk_ ((validText_any tgt (hT.ext hE02)).mono ?_)
  rintro e w3 ⟨rfl, hE3⟩
  have hE13 := hE12.trans hE3
  have hE03 := hE02.trans hE3
  cases ct : textL (bys tgt) with
  | false =>
    have HF : Hid (validE ⟨id, src, tgt, com, fl, st, fd⟩ = false) := by show validE _ = false; unfold validE; dsimp only; rw [ct]; simp
    clear ct
    go_wp2
    go_ret
    exact ⟨by rw [HF.out]; first | done | rfl, hE03⟩
  | true =>
  have Z6 := Lib.hid ct
  clear ct
  go_wp2_with (first
    | (go_at_call 57; refine Hid.out ?_))
  refine Hid.mk_ ((texts_any (kc.ext hE03) (hT.ext hE03)).mono ?_)
  rintro e w4 ⟨rfl, hE4⟩
  have hE14 := hE13.trans hE4
  have hE04 := hE03.trans hE4
  cases ct : textsP com with
  | false =>
    have HF : Hid (validE ⟨id, src, tgt, com, fl, st, fd⟩ = false) := by show validE _ = false; unfold validE; dsimp only; rw [ct]; simp
    clear ct
    go_wp2
    go_ret
    exact ⟨by rw [HF.out]; first | done | rfl, hE04⟩
  | true =>
  have Z7 := Lib.hid ct
  clear ct
  go_wp2_with (first
    | (go_at_call 60; refine Hid.out ?_))
  refine Hid.mk_ ((flags_any (kf.ext hE04)).mono ?_)
  rintro e w5 ⟨rfl, hE5⟩
  have hE15 := hE14.trans hE5
  have hE05 := hE04.trans hE5
  cases ct : flagsP fl with
  | false =>
    have HF : Hid (validE ⟨id, src, tgt, com, fl, st, fd⟩ = false) := by show validE _ = false; unfold validE; dsimp only; rw [ct]; simp
    clear ct
    go_wp2
    go_ret
    exact ⟨by rw [HF.out]; first | done | rfl, hE05⟩
  | true =>
  have Z8 := Lib.hid ct
  clear ct
  have HF : Hid (validE ⟨id, src, tgt, com, fl, st, fd⟩ = fieldsP fd) := by
    show validE _ = _
    unfold validE
    dsimp only
    rw [Z1.out, Z2.out, Z3.out, Z4.out, Z5.out, Z6.out, Z7.out, Z8.out]
    rfl
  go_wp2_with (first
    | (go_at_call 58; refine Hid.out ?_))
  refine Hid.mk_ ((fields_any (kd.ext hE05) (hT.ext hE05)).mono ?_)
  rintro e w6 ⟨rfl, hE6⟩
  go_wp2
  go_ret
  exact ⟨by rw [HF.out]; first | done | rfl, (hE05.trans hE6)⟩
end

end Go.Proofs.YtikbjaopcminaaaDoor
