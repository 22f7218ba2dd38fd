/- strconv.ParseUint at base 16, and digest.Parse. -/
import Derived.Test.YtghndnacmpckbaaGreatDoorParseI
import Derived.Test.YtghndnacmpckbaaGreatDoorLayTE
namespace Go.Proofs.YtghndnacmpckbaaGreatDoor
open Go.RowKit
set_option maxRecDepth 100000

/-- The two errors of package strconv are laid. -/
def NE (w : World) : Prop := (∃ ev, w.cell? ⟨0, 0, none⟩ = some ev ∧ (ev = .nilIface ∨ ∃ te pe, ev = .iface te pe)) ∧ (∃ ev, w.cell? ⟨1, 0, none⟩ = some ev ∧ (ev = .nilIface ∨ ∃ te pe, ev = .iface te pe))
theorem NE.ext {w w' : World} (h : NE w) (hE : Ext w w') : NE w' := by
  obtain ⟨⟨e1, h1, k1⟩, ⟨e2, h2, k2⟩⟩ := h
  exact ⟨⟨e1, later hE h1, k1⟩, ⟨e2, later hE h2, k2⟩⟩
/-- What strconv.ParseUint returns. -/
def SRes (s : ByteArray) (e : Ending) : Prop := ∃ (v : Nat) (x : Value) (ok : Bool), e = .returned (.tuple #[.int .u64 v, x]) ∧ ((ok = true ∧ x = .nilIface) ∨ (ok = false ∧ ∃ te pe, x = .iface te pe)) ∧ PUOk s v ok
section
variable {w : World}
theorem terr_s (s : ByteArray) (hs : s.size ≤ 1000000) (hN : NE w) :
    Calls Tryz.prog 61 #[.string ⟨#[80, 97, 114, 115, 101, 85, 105, 110, 116]⟩, .string s, .int .i64 16, .int .i64 64, .iface 107 (.int .i64 2)] w fun e w' => (∃ te pe, e = .returned (.iface te pe)) ∧ Ext w w' := by
  obtain ⟨⟨e1, h1, k1⟩, _⟩ := hN
  refine (Any.strconv_toError_syntax Tryz.laysTE _ s 16 64 e1 w (by omega) h1 k1).mono ?_
  rintro e w' ⟨N, rfl, _, _, hB⟩
  exact ⟨⟨_, _, rfl⟩, hB⟩
theorem terr_r (s : ByteArray) (hs : s.size ≤ 1000000) (hN : NE w) :
    Calls Tryz.prog 61 #[.string ⟨#[80, 97, 114, 115, 101, 85, 105, 110, 116]⟩, .string s, .int .i64 16, .int .i64 64, .iface 107 (.int .i64 1)] w fun e w' => (∃ te pe, e = .returned (.iface te pe)) ∧ Ext w w' := by
  obtain ⟨_, ⟨e1, h1, k1⟩⟩ := hN
  refine (Any.strconv_toError_range Tryz.laysTE _ s 16 64 e1 w (by omega) h1 k1).mono ?_
  rintro e w' ⟨N, rfl, _, _, hB⟩
  exact ⟨⟨_, _, rfl⟩, hB⟩
set_option maxHeartbeats 1600000 in
theorem sparse_any (s : ByteArray) (hs : s.size ≤ 1000000) (hN : NE w) :
    Calls Tryz.prog 50 #[.string s, .int .i64 16, .int .i64 64] w fun e w' => SRes s e ∧ Ext w w' := by
  go_enter Tryz.func50, Tryz.ntmps50
  go_wp2_with (first
    | (go_at_call 60; refine Hid.out ?_))
  refine Hid.mk_ ((iparse_any s hs).mono ?_)
  rintro e w1 ⟨⟨v, x, ok, rfl, hx, hP⟩, hE1⟩
  have HP := Lib.hid hP
  clear hP
  rcases hx with ⟨rfl, rfl⟩ | ⟨rfl, rfl | rfl⟩
  · go_wp2
    go_ret2
    exact ⟨⟨v, _, true, rfl, .inl ⟨rfl, rfl⟩, HP.out⟩, hE1⟩
  · skip
    go_wp2_with (first
      | (go_at_call 61; refine Hid.out ?_))
    refine Hid.mk_ ((terr_r s hs (hN.ext hE1)).mono ?_)
    rintro e w2 ⟨⟨te, pe, rfl⟩, hE2⟩
    go_wp2
    go_ret2
    exact ⟨⟨v, _, false, rfl, .inr ⟨rfl, te, pe, rfl⟩, HP.out⟩, hE1.trans hE2⟩
  · skip
    go_wp2_with (first
      | (go_at_call 61; refine Hid.out ?_))
    refine Hid.mk_ ((terr_s s hs (hN.ext hE1)).mono ?_)
    rintro e w2 ⟨⟨te, pe, rfl⟩, hE2⟩
    go_wp2
    go_ret2
    exact ⟨⟨v, _, false, rfl, .inr ⟨rfl, te, pe, rfl⟩, HP.out⟩, hE1.trans hE2⟩
theorem ba_neq {r s : ByteArray} (h : ¬ r = s) : (r.toList == s.toList) = false := by
  refine beq_eq_false_iff_ne.2 (fun e => h ?_)
  rw [ByteArray.toList_eq, ByteArray.toList_eq] at e
  exact ByteArray.ext (Array.ext' e)
theorem PUOk.ok {s : ByteArray} {v : Nat} (h : PUOk s v true) (e : hexT v = s) : ParseOk s (v, 0) := .inl ⟨v, h.1, e.symm, rfl⟩
theorem PUOk.no {s : ByteArray} {v : Nat} (h : PUOk s v true) (e : ¬ hexT v = s) : ParseOk s (0, 3) :=
  .inr ⟨fun n hn hs => e (by rw [(h.2 n hn hs).2]; exact hs.symm), rfl⟩
theorem PUOk.bad {s : ByteArray} {v : Nat} (h : PUOk s v false) : ParseOk s (0, 3) :=
  .inr ⟨fun n hn hs => absurd (h.2 n hn hs).1 (by decide), rfl⟩
set_option maxHeartbeats 1600000 in
theorem dparse_any (s : ByteArray) (hs : s.size ≤ 1000000) (hT : TZ w) (hN : NE w) :
    Calls Tryz.prog 36 #[.string s] w fun e w' => ∃ a b : Nat, e = .returned (.tuple #[.int .u64 a, .int .i64 b]) ∧ ParseOk s (a, b) ∧ Ext w w' := by
  go_enter Tryz.func36, Tryz.ntmps36
  go_wp2_with (first
    | (go_at_call 50; refine Hid.out ?_))
  refine Hid.mk_ ((sparse_any s hs hN).mono ?_)
  rintro e w1 ⟨⟨v, x, ok, rfl, hx, hP⟩, hE1⟩
  have hv := hP.1
  have HP := Lib.hid hP
  clear hP
  rcases hx with ⟨rfl, rfl⟩ | ⟨rfl, te, pe, rfl⟩
  · skip
    go_wp2_with (first
      | (go_at_call 43; refine Hid.out ?_))
    refine Hid.mk_ ((dtext_any v hv (hT.ext hE1)).mono ?_)
    rintro e w2 ⟨rfl, hE2⟩
    have hv' := Lib.hid hv
    clear hv
    by_cases hq : hexT v = s
    · have HR := Lib.hid (HP.out.ok hq)
      obtain ⟨r, hr⟩ : ∃ r, r = hexT v := ⟨_, rfl⟩
      rw [← hr] at hq ⊢
      clear hr
      subst hq
      go_wp2
      go_ret2
      exact ⟨v, 0, rfl, HR.out, hE1.trans hE2⟩
    · have HR := Lib.hid (HP.out.no hq)
      obtain ⟨r, hr⟩ : ∃ r, r = hexT v := ⟨_, rfl⟩
      rw [← hr] at hq ⊢
      clear hr
      have hq1 := ba_neq hq
      clear hq
      go_wp2
      go_ret2
      exact ⟨0, 3, rfl, HR.out, hE1.trans hE2⟩
  · have HR := Lib.hid HP.out.bad
    go_wp2
    go_ret2
    exact ⟨0, 3, rfl, HR.out, hE1⟩
end
end Go.Proofs.YtghndnacmpckbaaGreatDoor
