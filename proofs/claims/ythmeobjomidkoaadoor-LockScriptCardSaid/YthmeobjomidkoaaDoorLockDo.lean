/- Steps of the law: few, do. -/
import Derived.Test.YthmeobjomidkoaaDoorLockExp
import Derived.Test.YthmeobjomidkoaaDoorSlc
namespace Go.Proofs.YthmeobjomidkoaaDoor
open Go.RowKit Go.Maps
set_option maxRecDepth 100000

/-- A step: its operation, its lock, its time. -/
abbrev LStep := Int × Lk × Int
def lsC (s : LStep) : List Value := [.int .i64 s.1, .string s.2.1.name, .string s.2.1.id, .string s.2.1.who, .int .i64 s.2.1.til, .int .i64 s.2.2]
theorem lsC_len (s : LStep) : (lsC s).length = 6 := rfl
theorem lsC_one (s : LStep) : ∀ u ∈ lsC s, u.oneCell' = true := by
  intro u hu
  simp only [lsC, List.mem_cons, List.mem_nil_iff, or_false] at hu
  rcases hu with rfl | rfl | rfl | rfl | rfl | rfl <;> rfl
/-- What came in of a lock: lengths and bounds. -/
def GoodL (x : Lk) : Prop := x.name.size ≤ 140737488351232 ∧ x.id.size ≤ 140737488351232 ∧ x.who.size ≤ 140737488351232 ∧ (-9223372036854775808 ≤ x.til ∧ x.til ≤ 9223372036854775807)
def GoodS (s : LStep) : Prop := GoodL s.2.1 ∧ (-9223372036854775808 ≤ s.2.2 ∧ s.2.2 ≤ 9223372036854775807)

/-- A step of at most 300 bytes. -/
def fewP (s : LStep) : Bool := decide (s.2.1.name.size + s.2.1.id.size + s.2.1.who.size ≤ 300)
def fewL (l : List LStep) : Bool := l.all fewP && decide (l.length ≤ 40)
def fewR (l : List LStep) (q : Nat) : Bool := (l.drop q).all fewP && decide (l.length ≤ 40)
theorem fewR_step {l : List LStep} {q : Nat} (h : q < l.length) (hb : fewP l[q] = true) : fewR l q = fewR l (q + 1) := by
  unfold fewR
  rw [List.drop_eq_getElem_cons h, List.all_cons, hb, Bool.true_and]
theorem fewR_stop {l : List LStep} {q : Nat} (h : q < l.length) (hb : fewP l[q] = false) : fewR l q = false := by
  unfold fewR
  rw [List.drop_eq_getElem_cons h, List.all_cons, hb, Bool.false_and, Bool.false_and]

section
variable {w : World} {A : Option Addr} {m : Nat} {l : List LStep}
set_option maxHeartbeats 1600000 in
theorem few_lk (c : Nat) (hs : SlC lsC 6 w A m l) (hgood : ∀ s ∈ l, GoodS s) :
    Calls Tryd.prog 10 #[.slice A m c] w fun e w' => e = .returned (.bool (fewL l)) ∧ Ext w w' := by
  have hle := hs.le
  have HL := Lib.hid hs.len
  have HG := Lib.hid hgood
  clear hgood
  go_enter Tryd.func10, Tryd.ntmps10
  go_wp2
  go_loopw [3] (fun i wr => ∃ q : Nat, q ≤ m ∧ i = .int .i64 q ∧ Ext w wr ∧ fewL l = fewR l q) (fun i _ => m - (intOf i).toNat)
  case atStart => exact ⟨0, Nat.zero_le _, rfl, Ext.refl _, by unfold fewL fewR; rw [List.drop_zero]⟩
  case round =>
    obtain ⟨q, hq, rfl, hE, hF⟩ := hrel
    have HF := Lib.hid hF
    clear hF
    by_cases hlt : q < m
    · obtain ⟨b, off, rfl, hbl, hcs⟩ := (hs.ext hE).at_ hlt (by omega)
      have hlt1 : q < l.length := by rw [← HL.out]; exact hlt
      have f1 := fewR_step hlt1
      have f2 := fewR_stop hlt1
      have hgs := HG.out _ (List.getElem_mem hlt1)
      obtain ⟨s, hsq⟩ : ∃ s, s = l[q] := ⟨_, rfl⟩
      rw [← hsq] at hgs f1 f2
      have F1 := Lib.hid f1; have F2 := Lib.hid f2
      have x1 := hcs q hlt1 1 (by omega)
      have x2 := hcs q hlt1 2 (by omega)
      have x3 := hcs q hlt1 3 (by omega)
      have x4 := hcs q hlt1 4 (by omega)
      simp only [← hsq, lsC, List.getElem_cons_zero, List.getElem_cons_succ, ← Nat.add_assoc] at x1 x2 x3 x4
      obtain ⟨op, ⟨na, id, wh, ti⟩, no⟩ := s
      obtain ⟨⟨g1, g2, g3, _⟩, _⟩ := hgs
      dsimp only at x1 x2 x3 x4 g1 g2 g3
      have hi1 : (q : Int) < (m : Int) := by omega
      clear hcs hsq f1 f2
      by_cases h300 : na.size + id.size + wh.size ≤ 300
      · have hi3 : (na.size : Int) + id.size + wh.size ≤ 300 := by omega
        have hfs := F1.out (by unfold fewP; exact decide_eq_true h300)
        have HFS := Lib.hid hfs
        clear hfs
        go_wp2
        go_roundw
        case rel => exact ⟨q + 1, by omega, by go_num, hE.alloc _, by rw [HF.out, HFS.out]⟩
        case measure => simp [intOf]; omega
      · have hi3 : ¬ (na.size : Int) + id.size + wh.size ≤ 300 := by omega
        have hfs := F2.out (by unfold fewP; exact decide_eq_false h300)
        have HFS := Lib.hid hfs
        clear hfs
        go_wp2
        go_ret
        exact ⟨by rw [HF.out, HFS.out]; rfl, hE.alloc _⟩
    · have hqm : l.drop q = [] := by rw [List.drop_eq_nil_iff, ← HL.out]; omega
      have hfin : fewL l = decide (m ≤ 40) := by rw [HF.out]; unfold fewR; rw [hqm, HL.out]; rfl
      have HFIN := Lib.hid hfin
      clear hfin hqm
      by_cases h40 : m ≤ 40
      · have h40' : (m : Int) ≤ 40 := by omega
        go_wp2
        go_ret
        exact ⟨by rw [HFIN.out, decide_eq_true h40]; rfl, hE⟩
      · have h40' : ¬ (m : Int) ≤ 40 := by omega
        go_wp2
        go_ret
        exact ⟨by rw [HFIN.out, decide_eq_false h40]; rfl, hE⟩

/-- What a step does. -/
def DoR (F : LF) (s : LStep) (F' : LF) : Prop :=
  (s.1 = 0 ∧ ∃ code, AcqR F s.2.1.who s.2.1.name s.2.1.id s.2.2 s.2.1.til code F') ∨
  (s.1 = 1 ∧ ∃ code, RelR F s.2.1.who s.2.1.name s.2.1.id s.2.2 code F') ∨
  (s.1 ≠ 0 ∧ s.1 ≠ 1 ∧ F' = purge F s.2.2)
def lsV (s : LStep) : Value := .agg #[.int .i64 s.1, .string s.2.1.name, .string s.2.1.id, .string s.2.1.who, .int .i64 s.2.1.til, .int .i64 s.2.2]
theorem einfo_step : EInfo 22 29 6 72 := EInfo.mk_ (z := lsV (0, lk0, 0)) Tryd.underlying22 (by kernel_rfl) rfl (by omega) (by omega)
set_option maxHeartbeats 3200000 in
theorem do_any {g bm n : Nat} {F : LF} (s : LStep) (hl : Lks w g bm n F) (hn : n < maxLen) (hT : Tabs w) (hg : GoodS s) :
    Calls Tryd.prog 12 #[.pointer (some ⟨g, 0, none⟩), lsV s] w fun e w' => ∃ F' n', n' ≤ n + 1 ∧ RetR (fun _ => True) e ∧ DoR F s F' ∧ Lks w' g bm n' F' ∧ w.grownBy w' (some bm) := by
  obtain ⟨op, ⟨na, id, wh, ti⟩, no⟩ := s
  obtain ⟨⟨g1, g2, g3, g4, g5⟩, g6, g7⟩ := hg
  dsimp only at g1 g2 g3 g4 g5 g6 g7
  have g3' : wh.size ≤ 9223372036854775807 := by omega
  have g1' : na.size ≤ 9223372036854775807 := by omega
  have g1m : na.size ≤ maxLen := by unfold maxLen; omega
  have g2m : id.size ≤ maxLen := by unfold maxLen; omega
  have hEa : Ext w ((w.alloc (Obj.cells #[Value.int IntKind.i64 op, .string na, .string id, .string wh, .int .i64 ti, .int .i64 no] 29)).alloc (Obj.cells #[.string na, .string id, .string wh, .int .i64 ti] 24)) := ((Ext.refl w).alloc _).alloc _
  have hla := hl.ext hEa
  by_cases k0 : op = 0
  · subst k0
    go_enter Tryd.func12, Tryd.ntmps12
    unfold lsV
    go_wp2_with (first
      | (go_at_call 13; refine Hid.out ?_))
    refine Hid.mk_ ((acquire_any wh na id no ti hla g1m g2m hn (hT.ext hEa) g3' g1' g6 g7 g4 g5).mono ?_)
    rintro e w2 ⟨F', n', hn', ⟨code, rfl, hA⟩, hl2, hg2⟩
    have HA := Lib.hid hA
    clear hA
    go_wp2
    go_ret
    exact ⟨F', n', hn', ⟨code, rfl, trivial⟩, .inl ⟨rfl, code, HA.out⟩, hl2, (hEa.grownBy _).trans hg2⟩
  · have k0' : (op == 0) = false := by rw [beq_eq_false_iff_ne]; exact k0
    by_cases k1 : op = 1
    · subst k1
      go_enter Tryd.func12, Tryd.ntmps12
      unfold lsV
      go_wp2_with (first
        | (go_at_call 15; refine Hid.out ?_))
      refine Hid.mk_ ((release_any wh na id no hla g1m g2m).mono ?_)
      rintro e w2 ⟨F', ⟨code, rfl, hA⟩, hl2, hg2⟩
      have HA := Lib.hid hA
      clear hA
      go_wp2
      go_ret
      exact ⟨F', n, Nat.le_succ _, ⟨code, rfl, trivial⟩, .inr (.inl ⟨rfl, code, HA.out⟩), hl2, (hEa.grownBy _).trans hg2⟩
    · have k1' : (op == 1) = false := by rw [beq_eq_false_iff_ne]; exact k1
      have HK := Lib.hid (show op ≠ 0 ∧ op ≠ 1 from ⟨k0, k1⟩)
      clear k0 k1
      go_enter Tryd.func12, Tryd.ntmps12
      unfold lsV
      go_wp2_with (first
        | (go_at_call 20; refine Hid.out ?_))
      refine Hid.mk_ ((expire_any no hla hn).mono ?_)
      rintro e w2 ⟨⟨code, rfl, _⟩, hl2, hg2⟩
      go_wp2
      go_ret
      exact ⟨_, n, Nat.le_succ _, ⟨0, rfl, trivial⟩, .inr (.inr ⟨HK.out.1, HK.out.2, rfl⟩), hl2, (hEa.grownBy _).trans hg2⟩
end

end Go.Proofs.YthmeobjomidkoaaDoor
