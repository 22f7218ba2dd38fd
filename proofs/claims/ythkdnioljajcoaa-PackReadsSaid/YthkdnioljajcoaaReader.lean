/- pack.Reader: Read, Offset, End, Fail, move. -/
import Derived.Test.YthkdnioljajcoaaStrs
import Derived.Test.YthkdnioljajcoaaEnc
namespace Go.Proofs.Ythkdnioljajcoaa
open Go.RowKit

/-- The block of a slice's row, if there is any cell. -/
def obm (m : Nat) (A : Option Addr) : Option Nat := if m = 0 then none else ob A
theorem obm_ob {m : Nat} {A : Option Addr} {k : Nat} (h : obm m A = some k) : ob A = some k := by
  unfold obm at h
  split at h
  · cases h
  · exact h
theorem obm_pos {m : Nat} {A : Option Addr} (h : 0 < m) : obm m A = ob A := by unfold obm; rw [if_neg (by omega)]
/-- Block g is a reader of the bytes bs, at an offset, failed or not. -/
structure RdrT (T : TypeId) (w : World) (g : Nat) (A : Option Addr) (m c : Nat) (bs : List UInt8) (at_ : Nat) (f : Bool) : Prop where
  blk : Blk w g T #[.slice A m c, .int .i64 at_, .bool f]
  rd : SlB w A m bs
  ne_ : obm m A = none ∨ obm m A ≠ some g
  at_le : at_ ≤ m
  cap : m ≤ c
  alt : ∀ k, obm m A = some k → k < w.heap.size
section
variable {T : TypeId} {w w' : World} {g : Nat} {A : Option Addr} {m c : Nat} {bs : List UInt8} {at_ : Nat} {f : Bool}
theorem RdrT.ext (h : RdrT T w g A m c bs at_ f) (hE : Ext w w') : RdrT T w' g A m c bs at_ f := ⟨h.blk.below hE h.blk.lt, h.rd.ext hE, h.ne_, h.at_le, h.cap, fun k hk => Nat.lt_of_lt_of_le (h.alt k hk) hE.size_le⟩
theorem RdrT.kept {r : Option Nat} (h : RdrT T w g A m c bs at_ f) (hg : w.grownBy w' r) (h1 : r ≠ some g) (h2 : obm m A = none ∨ obm m A ≠ r) : RdrT T w' g A m c bs at_ f := by
  refine ⟨h.blk.grown hg (Ne.symm h1), ⟨⟨h.rd.rd.1, fun hn => ?_⟩, h.rd.len, h.rd.le⟩, h.ne_, h.at_le, h.cap, fun k hk => Nat.lt_of_lt_of_le (h.alt k hk) hg.size⟩
  obtain ⟨ad, e, hb, hc⟩ := h.rd.rd.2 hn
  refine ⟨ad, e, Nat.lt_of_lt_of_le hb hg.size, fun j u hu => ?_⟩
  have hne : some (ad.add j).block ≠ r := by
    rw [block_of_add]
    subst e
    rw [obm_pos (by omega)] at h2
    rcases h2 with h2 | h2
    · cases h2
    · exact h2
  exact hg.cell (hc j u hu) hne
theorem RdrT.c0 (h : RdrT T w g A m c bs at_ f) : w.cell? ⟨g, 0, none⟩ = some (.slice A m c) := h.blk.cell 0
theorem RdrT.c1 (h : RdrT T w g A m c bs at_ f) : w.cell? ⟨g, 1, none⟩ = some (.int .i64 at_) := h.blk.cell 1
theorem RdrT.c2 (h : RdrT T w g A m c bs at_ f) : w.cell? ⟨g, 2, none⟩ = some (.bool f) := h.blk.cell 2
theorem RdrT.f1 (h : RdrT T w g A m c bs at_ f) : w.frozen? ⟨g, 1, none⟩ = false := h.blk.frozen 1
theorem RdrT.f2 (h : RdrT T w g A m c bs at_ f) : w.frozen? ⟨g, 2, none⟩ = false := h.blk.frozen 2
theorem RdrT.rd_set (h : RdrT T w g A m c bs at_ f) (i : Nat) (u : Value) : SlB (w.setCell ⟨g, i, none⟩ u) A m bs := by
  refine ⟨⟨h.rd.rd.1, fun hn => ?_⟩, h.rd.len, h.rd.le⟩
  obtain ⟨ad, e, hb, hc⟩ := h.rd.rd.2 hn
  refine ⟨ad, e, by simpa [World.setCell] using hb, fun j u hu => ?_⟩
  rw [World.cell?_setCell_other]
  · exact hc j u hu
  · intro e2
    have e3 : g = ad.block := by rw [← block_of_add ad j, ← e2]
    have h0 := h.ne_
    rw [obm_pos (by omega)] at h0
    rcases h0 with h2 | h2
    · rw [e] at h2; cases h2
    · exact h2 (by rw [e, e3]; rfl)
theorem RdrT.set1 (h : RdrT T w g A m c bs at_ f) {n : Nat} (hn : n ≤ m) {i : Int} (hi : i = n) : RdrT T (w.setCell ⟨g, 1, none⟩ (.int .i64 i)) g A m c bs n f := by
  subst hi
  exact ⟨h.blk.set_ 1 _, h.rd_set 1 _, h.ne_, hn, h.cap, fun k hk => by simpa [World.setCell] using h.alt k hk⟩
theorem RdrT.set2 (h : RdrT T w g A m c bs at_ f) (b : Bool) : RdrT T (w.setCell ⟨g, 2, none⟩ (.bool b)) g A m c bs at_ b :=
  ⟨h.blk.set_ 2 _, h.rd_set 2 _, h.ne_, h.at_le, h.cap, fun k hk => by simpa [World.setCell] using h.alt k hk⟩
theorem RdrT.grow (_h : RdrT T w g A m c bs at_ f) (i : Nat) (u : Value) : w.grownBy (w.setCell ⟨g, i, none⟩ u) (some g) :=
  ⟨rfl, rfl, rfl, by simp [World.setCell], fun k _ hk => Below.heap_setCell w _ u k (fun e => hk (by rw [e]))⟩
end
/-- A reader of the program. -/
abbrev Rdr := RdrT 59

set_option maxHeartbeats 400000 in
theorem read_any {A : Option Addr} {m : Nat} (c : Nat) {l : List UInt8} {w : World} (h : SlB w A m l) :
    Calls Try.prog 19 #[.slice A m c] w fun e w' => ∃ g A' m' c', e = .returned (.pointer (some ⟨g, 0, none⟩)) ∧ Rdr w' g A' m' c' l 0 false ∧ Ext w w' ∧ w.heap.size ≤ g ∧ (∀ k, ob A' = some k → w.heap.size ≤ k) := by
  go_enter Try.func19, Try.ntmps19
  go_wp2_with (first
    | (go_at_call 33; refine (cloneB c h).mono ?_; rintro e w1 ⟨A1, m1, c1, rfl, ho1, hE1⟩))
  go_ret
  refine ⟨w1.heap.size, A1, m1, c1, rfl, ⟨Blk.new w1 _ _, ho1.sl.ext ((Ext.refl _).alloc _), ?_, by omega, ho1.cap, fun k hk => by have := ho1.lt k (obm_ob hk); simp; omega⟩, hE1.alloc _, hE1.size_le, ho1.ge⟩
  cases hA : obm m1 A1 with
  | none => exact .inl rfl
  | some k =>
    right
    intro e
    injection e with e
    have := ho1.lt k (obm_ob hA)
    omega

set_option maxHeartbeats 400000 in
theorem offset_any {w : World} {g : Nat} {A : Option Addr} {m c : Nat} {bs : List UInt8} {at_ : Nat} {f : Bool} (h : Rdr w g A m c bs at_ f) :
    Calls Try.prog 21 #[.pointer (some ⟨g, 0, none⟩)] w fun e w' => w = w' ∧ e = .returned (.int .i64 at_) := by
  have c1 := h.c1
  go_enter Try.func21, Try.ntmps21
  go_wp2
  go_ret
  exact ⟨rfl, rfl⟩

/-- What End returns. -/
def endE (n : Nat) (at_ : Nat) (f : Bool) : Int := if f = true ∨ at_ ≠ n then 4 else 0
set_option maxHeartbeats 400000 in
theorem end_quiet {w : World} {g : Nat} {A : Option Addr} {m c : Nat} {bs : List UInt8} {at_ : Nat} {f : Bool} (h : Rdr w g A m c bs at_ f) :
    Calls Try.prog 22 #[.pointer (some ⟨g, 0, none⟩)] w fun e w' => e = .returned (.int .i64 (endE bs.length at_ f)) ∧ ∃ n, w' = w.drewN n := by
  have c0 := h.c0
  have c1 := h.c1
  have c2 := h.c2
  have HL := Lib.hid h.rd.len
  have hle := h.rd.le
  have hle2 := h.at_le
  rw [← HL.out]
  cases f
  · by_cases he : at_ = m
    · have hb : ((at_ : Int) != (m : Int)) = false := by simp [he]
      have hfin : endE m at_ false = 0 := by simp [endE, he]
      have HF := Lib.hid hfin; clear hfin he
      go_enter Try.func22, Try.ntmps22
      go_wp2
      go_quiet (fail)
      go_wp2
      go_ret
      exact ⟨ret_int HF.out.symm, _, rfl⟩
    · have hb : ((at_ : Int) != (m : Int)) = true := by simp only [bne_iff_ne, ne_eq]; omega
      have hfin : endE m at_ false = 4 := by simp [endE, he]
      have HF := Lib.hid hfin; clear hfin he
      go_enter Try.func22, Try.ntmps22
      go_wp2
      go_quiet (fail)
      go_wp2
      go_ret
      exact ⟨ret_int HF.out.symm, _, rfl⟩
  · have hfin : endE m at_ true = 4 := by simp [endE]
    have HF := Lib.hid hfin; clear hfin
    go_enter Try.func22, Try.ntmps22
    go_wp2
    go_quiet (fail)
    go_wp2
    go_ret
    exact ⟨ret_int HF.out.symm, _, rfl⟩

theorem end_any {w : World} {g : Nat} {A : Option Addr} {m c : Nat} {bs : List UInt8} {at_ : Nat} {f : Bool} (h : Rdr w g A m c bs at_ f) :
    Calls Try.prog 22 #[.pointer (some ⟨g, 0, none⟩)] w fun e w' => Ext w w' ∧ e = .returned (.int .i64 (endE bs.length at_ f)) :=
  (end_quiet h).mono fun _ _ ⟨he, n, hw⟩ => ⟨hw ▸ (Ext.refl w).drewN n, he⟩

set_option maxHeartbeats 400000 in
theorem fail_any {w : World} {g : Nat} {A : Option Addr} {m c : Nat} {bs : List UInt8} {at_ : Nat} {f : Bool} (h : Rdr w g A m c bs at_ f) :
    Calls Try.prog 31 #[.pointer (some ⟨g, 0, none⟩)] w fun e w' => e = .returned (.tuple #[]) ∧ Rdr w' g A m c bs at_ true ∧ w.grownBy w' (some g) := by
  have c2 := h.c2
  have f2 := h.f2
  go_enter Try.func31, Try.ntmps31
  go_wp2
  go_end0
  exact ⟨rfl, h.set2 true, h.grow _ _⟩

set_option maxHeartbeats 400000 in
theorem move_any {w : World} {g : Nat} {A : Option Addr} {m c : Nat} {bs : List UInt8} {at_ : Nat} {f : Bool} (n : Nat) (ok : Bool) (hR : Rdr w g A m c bs at_ f) (hn : n ≤ m) :
    Calls Try.prog 35 #[.pointer (some ⟨g, 0, none⟩), .int .i64 n, .bool ok] w fun e w' => e = .returned (.tuple #[]) ∧ Rdr w' g A m c bs (if ok then n else at_) (if ok then f else true) ∧ w.grownBy w' (some g) := by
  have c1 := hR.c1
  have f1 := hR.f1
  have c2 := hR.c2
  have f2 := hR.f2
  cases ok
  · go_enter Try.func35, Try.ntmps35
    go_wp2
    go_end0
    exact ⟨rfl, hR.set2 true, hR.grow _ _⟩
  · go_enter Try.func35, Try.ntmps35
    go_wp2
    go_end0
    exact ⟨rfl, hR.set1 hn rfl, hR.grow _ _⟩

end Go.Proofs.Ythkdnioljajcoaa
