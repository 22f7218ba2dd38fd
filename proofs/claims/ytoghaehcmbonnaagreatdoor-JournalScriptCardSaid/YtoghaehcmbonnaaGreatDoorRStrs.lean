/- pack.Reader: Read, Offset, End, Fail, move. -/
import Derived.Test.YtoghaehcmbonnaaGreatDoorSameS
import Derived.Test.YtoghaehcmbonnaaGreatDoorDec
import Derived.Test.YtoghaehcmbonnaaGreatDoorPackW
namespace Go.Proofs.YtoghaehcmbonnaaGreatDoor
open Go.RowKit
set_option maxRecDepth 100000

/-- The block of a slice's row, if there is any cell. -/
def obm (m : Nat) (A : Option Addr) : Option Nat := if m = 0 then none else ob A
theorem obm_ob {m : Nat} {A : Option Addr} {k : Nat} (h : obm m A = some k) : ob A = some k := by
  unfold obm at h
  split at h
  · cases h
  · exact h
theorem obm_pos {m : Nat} {A : Option Addr} (h : 0 < m) : obm m A = ob A := by unfold obm; rw [if_neg (by omega)]
/-- Block g is a reader of the bytes bs, at an offset, failed or not. -/
structure RdrT (T : TypeId) (w : World) (g : Nat) (A : Option Addr) (m c : Nat) (bs : List UInt8) (at_ : Nat) (f : Bool) : Prop where
  blk : Blk w g T #[.slice A m c, .int .i64 at_, .bool f]
  rd : SlB w A m bs
  ne_ : obm m A = none ∨ obm m A ≠ some g
  at_le : at_ ≤ m
  cap : m ≤ c
  alt : ∀ k, obm m A = some k → k < w.heap.size
section
variable {T : TypeId} {w w' : World} {g : Nat} {A : Option Addr} {m c : Nat} {bs : List UInt8} {at_ : Nat} {f : Bool}
theorem RdrT.ext (h : RdrT T w g A m c bs at_ f) (hE : Ext w w') : RdrT T w' g A m c bs at_ f := ⟨h.blk.below hE h.blk.lt, h.rd.ext hE, h.ne_, h.at_le, h.cap, fun k hk => Nat.lt_of_lt_of_le (h.alt k hk) hE.size_le⟩
theorem RdrT.kept {r : Option Nat} (h : RdrT T w g A m c bs at_ f) (hg : w.grownBy w' r) (h1 : r ≠ some g) (h2 : obm m A = none ∨ obm m A ≠ r) : RdrT T w' g A m c bs at_ f := by
  refine ⟨h.blk.grown hg (Ne.symm h1), ⟨⟨h.rd.rd.1, fun hn => ?_⟩, h.rd.len, h.rd.le⟩, h.ne_, h.at_le, h.cap, fun k hk => Nat.lt_of_lt_of_le (h.alt k hk) hg.size⟩
  obtain ⟨ad, e, hb, hc⟩ := h.rd.rd.2 hn
  refine ⟨ad, e, Nat.lt_of_lt_of_le hb hg.size, fun j u hu => ?_⟩
  have hne : some (ad.add j).block ≠ r := by
    rw [block_of_add]
    subst e
    rw [obm_pos (by omega)] at h2
    rcases h2 with h2 | h2
    · cases h2
    · exact h2
  exact hg.cell (hc j u hu) hne
theorem RdrT.c0 (h : RdrT T w g A m c bs at_ f) : w.cell? ⟨g, 0, none⟩ = some (.slice A m c) := h.blk.cell 0
theorem RdrT.c1 (h : RdrT T w g A m c bs at_ f) : w.cell? ⟨g, 1, none⟩ = some (.int .i64 at_) := h.blk.cell 1
theorem RdrT.c2 (h : RdrT T w g A m c bs at_ f) : w.cell? ⟨g, 2, none⟩ = some (.bool f) := h.blk.cell 2
theorem RdrT.f1 (h : RdrT T w g A m c bs at_ f) : w.frozen? ⟨g, 1, none⟩ = false := h.blk.frozen 1
theorem RdrT.f2 (h : RdrT T w g A m c bs at_ f) : w.frozen? ⟨g, 2, none⟩ = false := h.blk.frozen 2
theorem RdrT.rd_set (h : RdrT T w g A m c bs at_ f) (i : Nat) (u : Value) : SlB (w.setCell ⟨g, i, none⟩ u) A m bs := by
  refine ⟨⟨h.rd.rd.1, fun hn => ?_⟩, h.rd.len, h.rd.le⟩
  obtain ⟨ad, e, hb, hc⟩ := h.rd.rd.2 hn
  refine ⟨ad, e, by simpa [World.setCell] using hb, fun j u hu => ?_⟩
  rw [World.cell?_setCell_other]
  · exact hc j u hu
  · intro e2
    have e3 : g = ad.block := by rw [← block_of_add ad j, ← e2]
    have h0 := h.ne_
    rw [obm_pos (by omega)] at h0
    rcases h0 with h2 | h2
    · rw [e] at h2; cases h2
    · exact h2 (by rw [e, e3]; rfl)
theorem RdrT.set1 (h : RdrT T w g A m c bs at_ f) {n : Nat} (hn : n ≤ m) {i : Int} (hi : i = n) : RdrT T (w.setCell ⟨g, 1, none⟩ (.int .i64 i)) g A m c bs n f := by
  subst hi
  exact ⟨h.blk.set_ 1 _, h.rd_set 1 _, h.ne_, hn, h.cap, fun k hk => by simpa [World.setCell] using h.alt k hk⟩
theorem RdrT.set2 (h : RdrT T w g A m c bs at_ f) (b : Bool) : RdrT T (w.setCell ⟨g, 2, none⟩ (.bool b)) g A m c bs at_ b :=
  ⟨h.blk.set_ 2 _, h.rd_set 2 _, h.ne_, h.at_le, h.cap, fun k hk => by simpa [World.setCell] using h.alt k hk⟩
theorem RdrT.grow (_h : RdrT T w g A m c bs at_ f) (i : Nat) (u : Value) : w.grownBy (w.setCell ⟨g, i, none⟩ u) (some g) :=
  ⟨rfl, rfl, rfl, by simp [World.setCell], fun k _ hk => Below.heap_setCell w _ u k (fun e => hk (by rw [e]))⟩
end
/-- A reader of the program. -/
abbrev Rdr := RdrT 114

set_option maxHeartbeats 400000 in
theorem read_any {A : Option Addr} {m : Nat} (c : Nat) {l : List UInt8} {w : World} (h : SlB w A m l) :
    Calls Tryz.prog 58 #[.slice A m c] w fun e w' => ∃ g A' m' c', e = .returned (.pointer (some ⟨g, 0, none⟩)) ∧ Rdr w' g A' m' c' l 0 false ∧ Ext w w' ∧ w.heap.size ≤ g ∧ (∀ k, ob A' = some k → w.heap.size ≤ k) := by
  go_enter Tryz.func58, Tryz.ntmps58
  go_wp2_with (first
    | (go_at_call 72; refine (cloneB c h).mono ?_; rintro e w1 ⟨A1, m1, c1, rfl, ho1, hE1⟩))
  go_ret
  refine ⟨w1.heap.size, A1, m1, c1, rfl, ⟨Blk.new w1 _ _, ho1.sl.ext ((Ext.refl _).alloc _), ?_, by omega, ho1.cap, fun k hk => by have := ho1.lt k (obm_ob hk); simp; omega⟩, hE1.alloc _, hE1.size_le, ho1.ge⟩
  cases hA : obm m1 A1 with
  | none => exact .inl rfl
  | some k =>
    right
    intro e
    injection e with e
    have := ho1.lt k (obm_ob hA)
    omega

/-- What End returns. -/
def endE (n : Nat) (at_ : Nat) (f : Bool) : Int := if f = true ∨ at_ ≠ n then 4 else 0
set_option maxHeartbeats 400000 in
theorem end_quiet {w : World} {g : Nat} {A : Option Addr} {m c : Nat} {bs : List UInt8} {at_ : Nat} {f : Bool} (h : Rdr w g A m c bs at_ f) :
    Calls Tryz.prog 61 #[.pointer (some ⟨g, 0, none⟩)] w fun e w' => e = .returned (.int .i64 (endE bs.length at_ f)) ∧ ∃ n, w' = w.drewN n := by
  have c0 := h.c0
  have c1 := h.c1
  have c2 := h.c2
  have HL := Lib.hid h.rd.len
  have hle := h.rd.le
  have hle2 := h.at_le
  rw [← HL.out]
  cases f
  · by_cases he : at_ = m
    · have hb : ((at_ : Int) != (m : Int)) = false := by simp [he]
      have hfin : endE m at_ false = 0 := by simp [endE, he]
      have HF := Lib.hid hfin; clear hfin he
      go_enter Tryz.func61, Tryz.ntmps61
      go_wp2
      go_quiet (fail)
      go_wp2
      go_ret
      exact ⟨ret_int HF.out.symm, _, rfl⟩
    · have hb : ((at_ : Int) != (m : Int)) = true := by simp only [bne_iff_ne, ne_eq]; omega
      have hfin : endE m at_ false = 4 := by simp [endE, he]
      have HF := Lib.hid hfin; clear hfin he
      go_enter Tryz.func61, Tryz.ntmps61
      go_wp2
      go_quiet (fail)
      go_wp2
      go_ret
      exact ⟨ret_int HF.out.symm, _, rfl⟩
  · have hfin : endE m at_ true = 4 := by simp [endE]
    have HF := Lib.hid hfin; clear hfin
    go_enter Tryz.func61, Tryz.ntmps61
    go_wp2
    go_quiet (fail)
    go_wp2
    go_ret
    exact ⟨ret_int HF.out.symm, _, rfl⟩

theorem end_any {w : World} {g : Nat} {A : Option Addr} {m c : Nat} {bs : List UInt8} {at_ : Nat} {f : Bool} (h : Rdr w g A m c bs at_ f) :
    Calls Tryz.prog 61 #[.pointer (some ⟨g, 0, none⟩)] w fun e w' => Ext w w' ∧ e = .returned (.int .i64 (endE bs.length at_ f)) :=
  (end_quiet h).mono fun _ _ ⟨he, n, hw⟩ => ⟨hw ▸ (Ext.refl w).drewN n, he⟩

set_option maxHeartbeats 400000 in
theorem move_any {w : World} {g : Nat} {A : Option Addr} {m c : Nat} {bs : List UInt8} {at_ : Nat} {f : Bool} (n : Nat) (ok : Bool) (hR : Rdr w g A m c bs at_ f) (hn : n ≤ m) :
    Calls Tryz.prog 78 #[.pointer (some ⟨g, 0, none⟩), .int .i64 n, .bool ok] w fun e w' => e = .returned (.tuple #[]) ∧ Rdr w' g A m c bs (if ok then n else at_) (if ok then f else true) ∧ w.grownBy w' (some g) := by
  have c1 := hR.c1
  have f1 := hR.f1
  have c2 := hR.c2
  have f2 := hR.f2
  cases ok
  · go_enter Tryz.func78, Tryz.ntmps78
    go_wp2
    go_end0
    exact ⟨rfl, hR.set2 true, hR.grow _ _⟩
  · go_enter Tryz.func78, Tryz.ntmps78
    go_wp2
    go_end0
    exact ⟨rfl, hR.set1 hn rfl, hR.grow _ _⟩

end Go.Proofs.YtoghaehcmbonnaaGreatDoor

/- (*pack.Reader).integer. -/
namespace Go.Proofs.YtoghaehcmbonnaaGreatDoor
open Go.RowKit

theorem andNot16 : ∀ n : Fin 256, bits BinOp.andNot IntKind.i64 (n.val : Int) 16 = ((if n.val / 16 % 2 = 1 then n.val - 16 else n.val : Nat) : Int) := by decide +kernel
theorem and16 : ∀ n : Fin 256, bits BinOp.and IntKind.i64 (n.val : Int) 16 = if n.val / 16 % 2 = 1 then 16 else 0 := by decide +kernel
theorem headK_bits (x : UInt8) : bits BinOp.andNot IntKind.i64 (x.toNat : Int) 16 = (headK x : Int) := andNot16 ⟨x.toNat, x.toNat_lt⟩
theorem headL_bits (x : UInt8) : bits BinOp.and IntKind.i64 (x.toNat : Int) 16 = if headL x = true then 16 else 0 := by
  have := and16 ⟨x.toNat, x.toNat_lt⟩
  rw [this]
  simp [headL]

theorem shl_or (u y : Nat) (hu : u < 72057594037927936) (hy : y < 256) : bits BinOp.or IntKind.u64 ((u : Int) * 256) (y : Int) = ((256 * u + y : Nat) : Int) := by
  have e1 : (u : Int) * 256 = ((256 * u : Nat) : Int) := by omega
  rw [e1, u64_or_nat _ _ (by omega) (by omega)]
  congr 1
  exact (Nat.two_pow_add_eq_or_of_lt (i := 8) hy u).symm

theorem neg_wrap (u : Nat) (h : u ≤ 9223372036854775808) : wrap64 (IntKind.u64.wrap (-(u : Int))) = -(u : Int) := by
  unfold wrap64
  simp only [IntKind.wrap, IntKind.signed, IntKind.bits, Bool.false_and, Bool.false_eq_true, if_false]
  omega

/-- What 'integer' returns at an offset. -/
def IntR (bs : List UInt8) (i : Nat) (n : Int) (next : Nat) (ok : Bool) : Prop :=
  match readI (bs.drop i) with
  | some (a, k) => ok = true ∧ n = a ∧ next = i + k
  | none => ok = false ∧ n = 0 ∧ next = i
def RetI (bs : List UInt8) (i : Nat) (e : Ending) : Prop := ∃ (n : Int) (next : Nat) (ok : Bool), e = .returned (.tuple #[.int .i64 n, .int .i64 next, .bool ok]) ∧ IntR bs i n next ok
theorem IntR.none_ {bs : List UInt8} {i : Nat} (h : readI (bs.drop i) = none) : RetI bs i (.returned (.tuple #[.int .i64 0, .int .i64 i, .bool false])) :=
  ⟨0, i, false, rfl, by unfold IntR; rw [h]; exact ⟨rfl, rfl, rfl⟩⟩
theorem IntR.some_ {bs : List UInt8} {i : Nat} {n : Int} {k : Nat} (h : readI (bs.drop i) = some (n, k)) {a b : Int} (ha : a = n) (hb : b = (i : Int) + k) : RetI bs i (.returned (.tuple #[.int .i64 a, .int .i64 b, .bool true])) :=
  ⟨n, i + k, true, by rw [ha, hb]; rfl, by unfold IntR; rw [h]; exact ⟨rfl, rfl, rfl⟩⟩

section
variable {w : World} {g : Nat} {A : Option Addr} {m c : Nat} {bs : List UInt8} {at_ : Nat} {f : Bool}
set_option maxHeartbeats 400000 in
theorem integer_out (hR : Rdr w g A m c bs at_ f) :
    Calls Tryz.prog 77 #[.pointer (some ⟨g, 0, none⟩), .int .i64 m] w fun e w' => w = w' ∧ RetI bs m e := by
  have c0 := hR.c0
  have hle := hR.rd.le
  have hfin : readI (bs.drop m) = none := by rw [List.drop_of_length_le (by rw [hR.rd.len]; omega)]; rfl
  have HF := Lib.hid hfin; clear hfin
  go_enter Tryz.func77, Tryz.ntmps77
  go_wp2
  go_ret3
  exact ⟨rfl, IntR.none_ HF.out⟩

set_option maxHeartbeats 800000 in
theorem integer_short (i : Nat) (hR : Rdr w g A m c bs at_ f) (x : UInt8) (t : List UInt8) (hd : bs.drop i = x :: t) (hk : 8 < headK x ∨ t.length < headK x) :
    Calls Tryz.prog 77 #[.pointer (some ⟨g, 0, none⟩), .int .i64 i] w fun e w' => w = w' ∧ RetI bs i e := by
  have hfin : readI (bs.drop i) = none := by rw [hd, readI, if_pos hk]
  have HF := Lib.hid hfin; clear hfin
  have hlen := congrArg List.length hd
  rw [List.length_drop, ← hR.rd.len, List.length_cons] at hlen
  have hi : i < m := by omega
  obtain ⟨b, off, rfl, _, hc⟩ := hR.rd.at_ hi
  have hcx := hc i (by rw [← hR.rd.len]; exact hi)
  have hx : bs[i]'(by rw [← hR.rd.len]; exact hi) = x := by
    have := List.drop_eq_getElem_cons (l := bs) (i := i) (by rw [← hR.rd.len]; exact hi)
    rw [hd] at this
    injection this with h1 _
    exact h1.symm
  rw [hx] at hcx
  have c0 := hR.c0
  have hle := hR.rd.le
  have hi1 : (i : Int) < (m : Int) := by omega
  have hx2 : x.toNat < 256 := x.toNat_lt
  have hkb := headK_bits x
  obtain ⟨k, hk0⟩ : ∃ k, k = headK x := ⟨_, rfl⟩
  rw [← hk0] at hkb hk
  have hk3 : (8 : Int) < (k : Int) ∨ (m : Int) - (i : Int) - 1 < (k : Int) := by omega
  clear hk hd hc hx hk0 hlen
  by_cases h8 : 8 < k
  · clear hk3
    go_enter Tryz.func77, Tryz.ntmps77
    go_wp2
    go_ret3
    exact ⟨rfl, IntR.none_ HF.out⟩
  · have hk4 : (m : Int) - (i : Int) - 1 < (k : Int) := by omega
    clear hk3
    go_enter Tryz.func77, Tryz.ntmps77
    go_wp2
    go_ret3
    exact ⟨rfl, IntR.none_ HF.out⟩

set_option maxRecDepth 100000 in
set_option maxHeartbeats 1600000 in
theorem integer_long (i : Nat) (hR : Rdr w g A m c bs at_ f) (x : UInt8) (t : List UInt8) (hd : bs.drop i = x :: t) (hk8 : headK x ≤ 8) (hkt : headK x ≤ t.length) :
    Calls Tryz.prog 77 #[.pointer (some ⟨g, 0, none⟩), .int .i64 i] w fun e w' => w = w' ∧ RetI bs i e := by
  have hlen := congrArg List.length hd
  rw [List.length_drop, ← hR.rd.len, List.length_cons] at hlen
  have hi : i < m := by omega
  have hcap := hR.cap
  obtain ⟨A2, hr1, _, _, hs2, _⟩ := cut_run hR.rd (i := i + 1) (j := i + 1 + headK x) (by omega) (by omega) hcap
  have hseg : (bs.take (i + 1 + headK x)).drop (i + 1) = t.take (headK x) := by
    have e1 : bs.drop (i + 1) = t := by rw [← List.drop_drop, hd]; rfl
    rw [← List.take_drop, e1]
  rw [hseg] at hs2
  have hsl := fun W => (hr1 W .i64 .i64 ((i : Int) + 1) ((i : Int) + 1 + (headK x : Int)) (by omega) (by omega)).1
  have hsl' := fun W => (hr1 W .i64 .i64 ((i : Int) + 1) ((i : Int) + 1 + (headK x : Int)) (by omega) (by omega)).2
  rw [show i + 1 + headK x - (i + 1) = headK x by omega] at hs2 hsl hsl'
  clear hcap
  obtain ⟨b, off, rfl, _, hcall⟩ := hR.rd.at_ hi
  have hcx := hcall i (by rw [← hR.rd.len]; exact hi)
  have HC := Lib.hid hcall; clear hcall
  have hx : bs[i]'(by rw [← hR.rd.len]; exact hi) = x := by
    have := List.drop_eq_getElem_cons (l := bs) (i := i) (by rw [← hR.rd.len]; exact hi)
    rw [hd] at this
    injection this with h1 _
    exact h1.symm
  rw [hx] at hcx
  have c0 := hR.c0
  have hle := hR.rd.le
  have hi1 : (i : Int) < (m : Int) := by omega
  have hx2 : x.toNat < 256 := x.toNat_lt
  have hkb := headK_bits x
  have hlb := headL_bits x
  cases hL : headL x with
  | true =>
    rw [hL, if_pos rfl] at hlb
    have HL := Lib.hid hL; clear hL
    obtain ⟨k, hk0⟩ : ∃ k, k = headK x := ⟨_, rfl⟩
    have HK0 := Lib.hid hk0
    rw [← hk0] at hkb hk8 hkt hs2 hsl hsl'
    clear hk0 hx hr1 hseg
    have HD := Lib.hid hd; clear hd
    have HT := Lib.hid hlen; clear hlen
    have hkm : i + 1 + k ≤ m := by have := HT.out; omega
    go_enter Tryz.func77, Tryz.ntmps77
    go_wp2
    obtain ⟨seg, hseg⟩ : ∃ seg, seg = t.take k := ⟨_, rfl⟩
    rw [← hseg] at hs2
    have HSEG := Lib.hid hseg; clear hseg
    have HSL := Lib.hid hs2.len
    go_loop [9, 58] (fun u j => ∃ q : Nat, q ≤ k ∧ j = .int .i64 q ∧ u = .int .u64 (numBE (seg.take q))) (fun _ j => k - (intOf j).toNat)
    case atStart => exact ⟨0, Nat.zero_le _, rfl, rfl⟩
    case round =>
      obtain ⟨q, hq, rfl, rfl⟩ := hrel
      by_cases hlt : q < k
      · obtain ⟨b2, off2, rfl, _, hc2⟩ := hs2.at_ hlt
        have hlt1 : q < seg.length := by rw [← HSL.out]; exact hlt
        have hcq := hc2 q hlt1
        obtain ⟨y, hy⟩ : ∃ y, y = seg[q] := ⟨_, rfl⟩
        rw [← hy] at hcq
        have HY := Lib.hid hy; clear hy hc2
        have hy2 : y.toNat < 256 := y.toNat_lt
        obtain ⟨u, hu⟩ : ∃ u, u = numBE (seg.take q) := ⟨_, rfl⟩
        rw [← hu]
        have HU := Lib.hid hu; clear hu
        have hub : u < 72057594037927936 := by
          have h1 := numBE_lt (seg.take q)
          have h2 : (seg.take q).length ≤ 7 := by rw [List.length_take]; omega
          have h3 := Nat.pow_le_pow_right (show 0 < 256 by omega) h2
          have h4 := HU.out
          omega
        go_wp2
        go_round
        case rel =>
          refine ⟨q + 1, by omega, by go_num, ?_⟩
          rw [shl_or u y.toNat hub hy2, List.take_succ_eq_append_getElem hlt1, numBE_snoc, ← HU.out, ← HY.out]
        case measure => simp [intOf]; omega
      · have hqk : seg.take q = seg := List.take_of_length_le (by have := HSL.out; omega)
        rw [hqk]
        clear hqk
        clear hq
        have hub2 : numBE seg < 18446744073709551616 := by
          have h1 := numBE_lt seg
          have h3 := Nat.pow_le_pow_right (show 0 < 256 by omega) (show seg.length ≤ 8 by have := HSL.out; omega)
          omega
        obtain ⟨u, hu⟩ : ∃ u, u = numBE seg := ⟨_, rfl⟩
        rw [← hu] at hub2 ⊢
        have HU := Lib.hid hu; clear hu
        have HF : Hid (readI (bs.drop i) = if (0 < k ∧ t.head? = some 0) ∨ (k = 0 ∧ headL x = true) then none
            else if (headL x = true ∧ 9223372036854775808 < u) ∨ (headL x = false ∧ 9223372036854775807 < u) then none
            else some (if headL x = true then - (u : Int) else (u : Int), k + 1)) := by
          rw [HD.out, readI, ← HK0.out, if_neg (by omega), ← HSEG.out, ← HU.out]
          exact Lib.hid rfl
        by_cases hk0 : k = 0
        · subst hk0
          have hu0 : u = 0 := by
            have h1 := HU.out
            have h2 : seg = [] := List.eq_nil_of_length_eq_zero HSL.out.symm
            rw [h2] at h1
            exact h1
          subst hu0
          have hfin : readI (bs.drop i) = none := by rw [HF.out, if_pos (.inr ⟨rfl, HL.out⟩)]
          have HFI := Lib.hid hfin; clear hfin
          go_wp2
          go_ret3
          exact ⟨rfl, IntR.none_ HFI.out⟩
        · have hkp : 0 < k := by omega
          have hkb0 : ((k : Int) == 0) = false := by rw [beq_eq_false_iff_ne]; omega
          obtain ⟨y0, t', ht'⟩ : ∃ y0 t', t = y0 :: t' := by
            cases t with
            | nil => simp at hkt; omega
            | cons y0 t' => exact ⟨y0, t', rfl⟩
          have hb1 : i + 1 < bs.length := by have := hR.rd.len; omega
          have hcy := HC.out (i + 1) hb1
          have hy0 : bs[i + 1] = y0 := by
            have h1 := HD.out
            rw [ht'] at h1
            have h2 := congrArg (fun l => l[1]?) h1
            simp only [List.getElem?_drop, List.getElem?_cons_succ, List.getElem?_cons_zero] at h2
            rw [List.getElem?_eq_getElem hb1] at h2
            injection h2
          rw [hy0] at hcy
          have hi2 : (i : Int) + 1 < (m : Int) := by omega
          have hy02 : y0.toNat < 256 := y0.toNat_lt
          have HT' := Lib.hid ht'; clear ht' hy0 hk0
          by_cases hz : y0.toNat = 0
          · have hyb : ((y0.toNat : Int) == 0) = true := by rw [beq_iff_eq]; omega
            have hfin : readI (bs.drop i) = none := by
              rw [HF.out, if_pos]
              left
              refine ⟨hkp, ?_⟩
              rw [HT'.out, List.head?_cons, UInt8.toNat_inj.1 (show y0.toNat = (0 : UInt8).toNat by simpa using hz)]
            have HFI := Lib.hid hfin; clear hfin hz
            go_wp2
            go_ret3
            exact ⟨rfl, IntR.none_ HFI.out⟩
          · have hyb : ((y0.toNat : Int) == 0) = false := by rw [beq_eq_false_iff_ne]; omega
            have hfin : readI (bs.drop i) = if 9223372036854775808 < u then none else some (- (u : Int), k + 1) := by
              rw [HF.out, if_neg]
              · rw [HL.out]; simp
              · rintro (⟨_, h1⟩ | ⟨h1, _⟩)
                · rw [HT'.out, List.head?_cons] at h1
                  injection h1 with h1
                  rw [h1] at hz
                  exact hz rfl
                · omega
            have HFI := Lib.hid hfin; clear hfin hz
            by_cases hbig : 9223372036854775808 < u
            · have hbI : (9223372036854775808 : Int) < (u : Int) := by omega
              have HB := Lib.hid hbig; clear hbig
              go_wp2
              go_ret3
              exact ⟨rfl, IntR.none_ (by rw [HFI.out, if_pos HB.out])⟩
            · have hbI : ¬ (9223372036854775808 : Int) < (u : Int) := by omega
              have HB := Lib.hid hbig; clear hbig
              go_wp2
              go_ret3
              refine ⟨rfl, IntR.some_ (by rw [HFI.out, if_neg HB.out]) ?_ (by omega)⟩
              exact neg_wrap u (by omega)
  | false =>
    rw [hL, if_neg (by simp)] at hlb
    have HL := Lib.hid hL; clear hL
    obtain ⟨k, hk0⟩ : ∃ k, k = headK x := ⟨_, rfl⟩
    have HK0 := Lib.hid hk0
    rw [← hk0] at hkb hk8 hkt hs2 hsl hsl'
    clear hk0 hx hr1 hseg
    have HD := Lib.hid hd; clear hd
    have HT := Lib.hid hlen; clear hlen
    have hkm : i + 1 + k ≤ m := by have := HT.out; omega
    go_enter Tryz.func77, Tryz.ntmps77
    go_wp2
    obtain ⟨seg, hseg⟩ : ∃ seg, seg = t.take k := ⟨_, rfl⟩
    rw [← hseg] at hs2
    have HSEG := Lib.hid hseg; clear hseg
    have HSL := Lib.hid hs2.len
    go_loop [9, 58] (fun u j => ∃ q : Nat, q ≤ k ∧ j = .int .i64 q ∧ u = .int .u64 (numBE (seg.take q))) (fun _ j => k - (intOf j).toNat)
    case atStart => exact ⟨0, Nat.zero_le _, rfl, rfl⟩
    case round =>
      obtain ⟨q, hq, rfl, rfl⟩ := hrel
      by_cases hlt : q < k
      · obtain ⟨b2, off2, rfl, _, hc2⟩ := hs2.at_ hlt
        have hlt1 : q < seg.length := by rw [← HSL.out]; exact hlt
        have hcq := hc2 q hlt1
        obtain ⟨y, hy⟩ : ∃ y, y = seg[q] := ⟨_, rfl⟩
        rw [← hy] at hcq
        have HY := Lib.hid hy; clear hy hc2
        have hy2 : y.toNat < 256 := y.toNat_lt
        obtain ⟨u, hu⟩ : ∃ u, u = numBE (seg.take q) := ⟨_, rfl⟩
        rw [← hu]
        have HU := Lib.hid hu; clear hu
        have hub : u < 72057594037927936 := by
          have h1 := numBE_lt (seg.take q)
          have h2 : (seg.take q).length ≤ 7 := by rw [List.length_take]; omega
          have h3 := Nat.pow_le_pow_right (show 0 < 256 by omega) h2
          have h4 := HU.out
          omega
        go_wp2
        go_round
        case rel =>
          refine ⟨q + 1, by omega, by go_num, ?_⟩
          rw [shl_or u y.toNat hub hy2, List.take_succ_eq_append_getElem hlt1, numBE_snoc, ← HU.out, ← HY.out]
        case measure => simp [intOf]; omega
      · have hqk : seg.take q = seg := List.take_of_length_le (by have := HSL.out; omega)
        rw [hqk]
        clear hqk
        clear hq
        have hub2 : numBE seg < 18446744073709551616 := by
          have h1 := numBE_lt seg
          have h3 := Nat.pow_le_pow_right (show 0 < 256 by omega) (show seg.length ≤ 8 by have := HSL.out; omega)
          omega
        obtain ⟨u, hu⟩ : ∃ u, u = numBE seg := ⟨_, rfl⟩
        rw [← hu] at hub2 ⊢
        have HU := Lib.hid hu; clear hu
        have HF : Hid (readI (bs.drop i) = if (0 < k ∧ t.head? = some 0) ∨ (k = 0 ∧ headL x = true) then none
            else if (headL x = true ∧ 9223372036854775808 < u) ∨ (headL x = false ∧ 9223372036854775807 < u) then none
            else some (if headL x = true then - (u : Int) else (u : Int), k + 1)) := by
          rw [HD.out, readI, ← HK0.out, if_neg (by omega), ← HSEG.out, ← HU.out]
          exact Lib.hid rfl
        by_cases hk0 : k = 0
        · subst hk0
          have hu0 : u = 0 := by
            have h1 := HU.out
            have h2 : seg = [] := List.eq_nil_of_length_eq_zero HSL.out.symm
            rw [h2] at h1
            exact h1
          subst hu0
          have hfin : readI (bs.drop i) = some (0, 0 + 1) := by
            have hl := HL.out
            rw [HF.out, if_neg (by rw [hl]; simp), if_neg (by rw [hl]; simp), hl]
            rfl
          have HFI := Lib.hid hfin; clear hfin
          go_wp2
          go_ret3
          exact ⟨rfl, IntR.some_ HFI.out rfl (by omega)⟩
        · have hkp : 0 < k := by omega
          have hkb0 : ((k : Int) == 0) = false := by rw [beq_eq_false_iff_ne]; omega
          obtain ⟨y0, t', ht'⟩ : ∃ y0 t', t = y0 :: t' := by
            cases t with
            | nil => simp at hkt; omega
            | cons y0 t' => exact ⟨y0, t', rfl⟩
          have hb1 : i + 1 < bs.length := by have := hR.rd.len; omega
          have hcy := HC.out (i + 1) hb1
          have hy0 : bs[i + 1] = y0 := by
            have h1 := HD.out
            rw [ht'] at h1
            have h2 := congrArg (fun l => l[1]?) h1
            simp only [List.getElem?_drop, List.getElem?_cons_succ, List.getElem?_cons_zero] at h2
            rw [List.getElem?_eq_getElem hb1] at h2
            injection h2
          rw [hy0] at hcy
          have hi2 : (i : Int) + 1 < (m : Int) := by omega
          have hy02 : y0.toNat < 256 := y0.toNat_lt
          have HT' := Lib.hid ht'; clear ht' hy0 hk0
          by_cases hz : y0.toNat = 0
          · have hyb : ((y0.toNat : Int) == 0) = true := by rw [beq_iff_eq]; omega
            have hfin : readI (bs.drop i) = none := by
              rw [HF.out, if_pos]
              left
              refine ⟨hkp, ?_⟩
              rw [HT'.out, List.head?_cons, UInt8.toNat_inj.1 (show y0.toNat = (0 : UInt8).toNat by simpa using hz)]
            have HFI := Lib.hid hfin; clear hfin hz
            go_wp2
            go_ret3
            exact ⟨rfl, IntR.none_ HFI.out⟩
          · have hyb : ((y0.toNat : Int) == 0) = false := by rw [beq_eq_false_iff_ne]; omega
            have hfin : readI (bs.drop i) = if 9223372036854775807 < u then none else some ((u : Int), k + 1) := by
              rw [HF.out, if_neg]
              · rw [HL.out]; simp
              · rintro (⟨_, h1⟩ | ⟨h1, _⟩)
                · rw [HT'.out, List.head?_cons] at h1
                  injection h1 with h1
                  rw [h1] at hz
                  exact hz rfl
                · omega
            have HFI := Lib.hid hfin; clear hfin hz
            by_cases hbig : 9223372036854775807 < u
            · have hbI : (9223372036854775808 : Int) ≤ (u : Int) := by omega
              have HB := Lib.hid hbig; clear hbig
              go_wp2
              go_ret3
              exact ⟨rfl, IntR.none_ (by rw [HFI.out, if_pos HB.out])⟩
            · have hbI : ¬ (9223372036854775808 : Int) ≤ (u : Int) := by omega
              have HB := Lib.hid hbig; clear hbig
              go_wp2
              go_ret3
              refine ⟨rfl, IntR.some_ (by rw [HFI.out, if_neg HB.out]) ?_ (by omega)⟩
              rfl
theorem integer_any (i : Nat) (hi : i ≤ m) (hR : Rdr w g A m c bs at_ f) :
    Calls Tryz.prog 77 #[.pointer (some ⟨g, 0, none⟩), .int .i64 i] w fun e w' => w = w' ∧ RetI bs i e := by
  cases hd : bs.drop i with
  | nil =>
    have h1 := congrArg List.length hd
    rw [List.length_drop, ← hR.rd.len, List.length_nil] at h1
    have h2 : i = m := by omega
    rw [h2]
    exact integer_out hR
  | cons x t =>
    by_cases hk : 8 < headK x ∨ t.length < headK x
    · exact integer_short i hR x t hd hk
    · exact integer_long i hR x t hd (by omega) (by omega)
end
end Go.Proofs.YtoghaehcmbonnaaGreatDoor

/- Int, Bounded, text, String, Strings of a reader. -/
namespace Go.Proofs.YtoghaehcmbonnaaGreatDoor
open Go.RowKit
set_option maxRecDepth 100000

/-- What a step of a reader returns, and its offset and failure afterwards. -/
def stepI (bs : List UInt8) (a : Nat) (f : Bool) : Int × Nat × Bool :=
  if f = true then (0, a, true) else match readI (bs.drop a) with
    | some (n, k) => (n, a + k, false)
    | none => (0, a, true)
def stepB (least most : Int) (bs : List UInt8) (a : Nat) (f : Bool) : Int × Nat × Bool :=
  if f = true then (0, a, true) else match readI (bs.drop a) with
    | some (n, k) => if least ≤ n ∧ n ≤ most then (n, a + k, false) else (0, a, true)
    | none => (0, a, true)
def stepS (bs : List UInt8) (a : Nat) (f : Bool) : List UInt8 × Nat × Bool :=
  if f = true then ([], a, true) else match readS (bs.drop a) with
    | some (s, k) => (s, a + k, false)
    | none => ([], a, true)
def stepL (most : Int) (bs : List UInt8) (a : Nat) (f : Bool) : List (List UInt8) × Nat × Bool :=
  if f = true then ([], a, true) else match readL most (bs.drop a) with
    | some (l, k) => (l, a + k, false)
    | none => ([], a, true)

section
variable {w : World} {g : Nat} {A : Option Addr} {m c : Nat} {bs : List UInt8} {at_ : Nat} {f : Bool}
theorem IntR.le {i : Nat} {n : Int} {next : Nat} {ok : Bool} (h : IntR bs i n next ok) (hi : i ≤ bs.length) : next ≤ bs.length ∧ i ≤ next := by
  unfold IntR at h
  cases hr : readI (bs.drop i) with
  | none => rw [hr] at h; obtain ⟨_, _, rfl⟩ := h; exact ⟨hi, Nat.le_refl _⟩
  | some p =>
    obtain ⟨a, k⟩ := p
    rw [hr] at h
    obtain ⟨_, _, rfl⟩ := h
    have := readI_len hr
    rw [List.length_drop] at this
    omega
theorem IntR.range {i : Nat} {n : Int} {next : Nat} {ok : Bool} (h : IntR bs i n next ok) : -9223372036854775808 ≤ n ∧ n ≤ 9223372036854775807 := by
  unfold IntR at h
  cases hr : readI (bs.drop i) with
  | none => rw [hr] at h; omega
  | some p =>
    obtain ⟨a, k⟩ := p
    rw [hr] at h
    obtain ⟨_, rfl, _⟩ := h
    exact (readI_some hr).1

set_option maxHeartbeats 400000 in
theorem rInt (hR : Rdr w g A m c bs at_ f) :
    Calls Tryz.prog 59 #[.pointer (some ⟨g, 0, none⟩)] w fun e w' => e = .returned (.int .i64 (stepI bs at_ f).1) ∧ Rdr w' g A m c bs (stepI bs at_ f).2.1 (stepI bs at_ f).2.2 ∧ w.grownBy w' (some g) := by
  have c1 := hR.c1
  have c2 := hR.c2
  cases f
  · go_enter Tryz.func59, Tryz.ntmps59
    go_wp2_with (first
      | (go_at_call 77; refine (integer_any _ hR.at_le hR).mono ?_; rintro e w' ⟨rfl, n, next, ok, rfl, hI⟩)
      | (go_at_call 78; refine (move_any _ _ hR (by rw [hR.rd.len]; exact (hI.le (by rw [← hR.rd.len]; exact hR.at_le)).1)).mono ?_; rintro e w2 ⟨rfl, hR2, hg2⟩))
    go_ret
    have e1 : stepI bs at_ false = (n, (if ok then next else at_), (if ok then false else true)) := by
      unfold IntR at hI
      unfold stepI
      cases hr : readI (bs.drop at_) with
      | none => rw [hr] at hI; obtain ⟨rfl, rfl, rfl⟩ := hI; rfl
      | some p => rw [hr] at hI; obtain ⟨rfl, rfl, rfl⟩ := hI; rfl
    rw [e1]
    exact ⟨rfl, hR2, hg2⟩
  · go_enter Tryz.func59, Tryz.ntmps59
    go_wp2
    go_ret
    exact ⟨rfl, hR, (Ext.refl w).grownBy _⟩

/-- What 'text' returns at an offset. -/
def TextR (bs : List UInt8) (i : Nat) (s : List UInt8) (next : Nat) (ok : Bool) : Prop :=
  match readS (bs.drop i) with
  | some (t, k) => ok = true ∧ s = t ∧ next = i + k
  | none => ok = false ∧ s = [] ∧ next = i
def RetT (bs : List UInt8) (i : Nat) (e : Ending) : Prop := ∃ (s : List UInt8) (next : Nat) (ok : Bool), e = .returned (.tuple #[.string (str s), .int .i64 next, .bool ok]) ∧ TextR bs i s next ok
theorem TextR.none_ {bs : List UInt8} {i : Nat} (h : readS (bs.drop i) = none) : RetT bs i (.returned (.tuple #[.string ⟨#[]⟩, .int .i64 i, .bool false])) :=
  ⟨[], i, false, rfl, by unfold TextR; rw [h]; exact ⟨rfl, rfl, rfl⟩⟩
theorem TextR.some_ {bs : List UInt8} {i : Nat} {s : List UInt8} {k : Nat} (h : readS (bs.drop i) = some (s, k)) {b : Int} (hb : b = (i : Int) + k) : RetT bs i (.returned (.tuple #[.string (str s), .int .i64 b, .bool true])) :=
  ⟨s, i + k, true, by rw [hb]; rfl, by unfold TextR; rw [h]; exact ⟨rfl, rfl, rfl⟩⟩
theorem TextR.le {i : Nat} {s : List UInt8} {next : Nat} {ok : Bool} (h : TextR bs i s next ok) (hi : i ≤ bs.length) : next ≤ bs.length ∧ i ≤ next := by
  unfold TextR at h
  cases hr : readS (bs.drop i) with
  | none => rw [hr] at h; obtain ⟨_, _, rfl⟩ := h; exact ⟨hi, Nat.le_refl _⟩
  | some p =>
    obtain ⟨a, k⟩ := p
    rw [hr] at h
    obtain ⟨_, _, rfl⟩ := h
    have := (readS_some hr).2.2.1
    rw [List.length_drop] at this
    omega

set_option maxHeartbeats 800000 in
theorem text_any (i : Nat) (hi : i ≤ m) (hR : Rdr w g A m c bs at_ f) :
    Calls Tryz.prog 79 #[.pointer (some ⟨g, 0, none⟩), .int .i64 i] w fun e w' => w = w' ∧ RetT bs i e := by
  have c0 := hR.c0
  have hle := hR.rd.le
  have HL := Lib.hid hR.rd.len
  go_enter Tryz.func79, Tryz.ntmps79
  go_wp2_with (first
    | (go_at_call 77; refine Hid.out ?_))
  refine Hid.mk_ ((integer_any _ hi hR).mono ?_)
  rintro e w' ⟨rfl, n, next, ok, rfl, hI⟩
  have hnx := hI.le (by rw [← HL.out]; exact hi)
  rw [← HL.out] at hnx
  obtain ⟨hn1, hn2⟩ := hnx
  have hrg := hI.range
  cases hr : readI (bs.drop i) with
  | none =>
    unfold IntR at hI
    rw [hr] at hI
    obtain ⟨rfl, rfl, rfl⟩ := hI
    have hfin : readS (bs.drop next) = none := by unfold readS; rw [hr]
    have HF := Lib.hid hfin; clear hfin hr
    go_wp2
    go_ret3
    exact ⟨rfl, TextR.none_ HF.out⟩
  | some p =>
    obtain ⟨a, k⟩ := p
    unfold IntR at hI
    rw [hr] at hI
    obtain ⟨rfl, rfl, rfl⟩ := hI
    have hrl := readI_len hr
    have hfin : readS (bs.drop i) = if 0 ≤ n ∧ n ≤ ((bs.drop i).length : Int) - k then some (((bs.drop i).drop k).take n.toNat, k + n.toNat) else none := by unfold readS; rw [hr]
    have hdl : (bs.drop i).length = m - i := by rw [List.length_drop, ← HL.out]
    rw [hdl] at hfin hrl
    have HF := Lib.hid hfin; clear hfin hr hdl
    by_cases hc : 0 ≤ n ∧ n ≤ ((m - i : Nat) : Int) - k
    · obtain ⟨q, rfl⟩ := Int.eq_ofNat_of_zero_le hc.1
      have hq : i + k + q ≤ m := by omega
      obtain ⟨A2, hr1, _, _, hs2, _⟩ := cut_run hR.rd (i := i + k) (j := i + k + q) (by omega) (by omega) hR.cap
      have hsl := fun W => (hr1 W .i64 .i64 ((i : Int) + (k : Int)) ((i : Int) + (k : Int) + (q : Int)) (by omega) (by omega)).1
      have hsl' := fun W => (hr1 W .i64 .i64 ((i : Int) + (k : Int)) ((i : Int) + (k : Int) + (q : Int)) (by omega) (by omega)).2
      have hcv := conv_str hs2 (c - (i + k))
      have hseg : (bs.take (i + k + q)).drop (i + k) = ((bs.drop i).drop k).take q := by
        rw [List.drop_drop, ← List.take_drop]
      rw [hseg] at hcv
      rw [show i + k + q - (i + k) = q by omega] at hsl hsl' hcv
      obtain ⟨sg, hsg⟩ : ∃ sg, sg = ((bs.drop i).drop k).take q := ⟨_, rfl⟩
      rw [← hsg] at hcv
      have hfin : readS (bs.drop i) = some (sg, k + q) := by
        rw [HF.out, if_pos hc, hsg]; rfl
      have HFI := Lib.hid hfin
      clear hfin hsg hseg hr1 hs2 HF
      go_wp2
      go_ret3
      exact ⟨rfl, TextR.some_ HFI.out (by omega)⟩
    · have hfin : readS (bs.drop i) = none := by rw [HF.out, if_neg hc]
      have HFI := Lib.hid hfin
      clear hfin HF
      by_cases h0 : n < 0
      · go_wp2
        go_ret3
        exact ⟨rfl, TextR.none_ HFI.out⟩
      · have h1 : (m : Int) - ((i : Int) + (k : Int)) < n := by omega
        go_wp2
        go_ret3
        exact ⟨rfl, TextR.none_ HFI.out⟩
end
end Go.Proofs.YtoghaehcmbonnaaGreatDoor

/- String and Strings of a reader. -/
namespace Go.Proofs.YtoghaehcmbonnaaGreatDoor
open Go.RowKit
set_option maxRecDepth 100000

section
variable {w : World} {g : Nat} {A : Option Addr} {m c : Nat} {bs : List UInt8} {at_ : Nat} {f : Bool}
set_option maxHeartbeats 400000 in
theorem rString (hR : Rdr w g A m c bs at_ f) :
    Calls Tryz.prog 60 #[.pointer (some ⟨g, 0, none⟩)] w fun e w' => e = .returned (.string (str (stepS bs at_ f).1)) ∧ Rdr w' g A m c bs (stepS bs at_ f).2.1 (stepS bs at_ f).2.2 ∧ w.grownBy w' (some g) := by
  have c1 := hR.c1
  have c2 := hR.c2
  cases f
  · go_enter Tryz.func60, Tryz.ntmps60
    go_wp2_with (first
      | (go_at_call 79; refine (text_any _ hR.at_le hR).mono ?_; rintro e w' ⟨rfl, s, next, ok, rfl, hI⟩)
      | (go_at_call 78; refine (move_any _ _ hR (by rw [hR.rd.len]; exact (hI.le (by rw [← hR.rd.len]; exact hR.at_le)).1)).mono ?_; rintro e w2 ⟨rfl, hR2, hg2⟩))
    go_ret
    have e1 : stepS bs at_ false = (s, (if ok then next else at_), (if ok then false else true)) := by
      unfold TextR at hI
      unfold stepS
      cases hr : readS (bs.drop at_) with
      | none => rw [hr] at hI; obtain ⟨rfl, rfl, rfl⟩ := hI; rfl
      | some p => rw [hr] at hI; obtain ⟨rfl, rfl, rfl⟩ := hI; rfl
    rw [e1]
    exact ⟨rfl, hR2, hg2⟩
  · go_enter Tryz.func60, Tryz.ntmps60
    go_wp2
    go_ret
    exact ⟨rfl, hR, (Ext.refl w).grownBy _⟩

/-- After the strings ls, which end at off: what is left to read. -/
def Left (n : Nat) (b : List UInt8) (ls : List (List UInt8)) (d : Nat) (q : Nat) : Prop :=
  ls.length = q ∧ readN n b = match readN (n - q) (b.drop d) with
    | some (l, j) => some (ls ++ l, d + j)
    | none => none
theorem Left.zero (n : Nat) (b : List UInt8) : Left n b [] 0 0 := ⟨rfl, by
  simp only [Nat.sub_zero, List.drop_zero, List.nil_append, Nat.zero_add]
  cases readN n b with
  | none => rfl
  | some p => rfl⟩
theorem Left.step {n : Nat} {b : List UInt8} {ls : List (List UInt8)} {d q : Nat} (h : Left n b ls d q) (hq : q < n) {s : List UInt8} {k : Nat} (hs : readS (b.drop d) = some (s, k)) : Left n b (ls ++ [s]) (d + k) (q + 1) := by
  refine ⟨by simp [h.1], ?_⟩
  rw [h.2, show n - q = (n - (q + 1)) + 1 by omega, readN, hs]
  simp only
  rw [List.drop_drop]
  cases readN (n - (q + 1)) (b.drop (d + k)) with
  | none => rfl
  | some p => simp [Nat.add_assoc]
theorem Left.fail {n : Nat} {b : List UInt8} {ls : List (List UInt8)} {d q : Nat} (h : Left n b ls d q) (hq : q < n) (hs : readS (b.drop d) = none) : readN n b = none := by
  rw [h.2, show n - q = (n - (q + 1)) + 1 by omega, readN, hs]
theorem Left.done {n : Nat} {b : List UInt8} {ls : List (List UInt8)} {d q : Nat} (h : Left n b ls d q) (hq : ¬ q < n) : readN n b = some (ls, d) := by
  rw [h.2, show n - q = 0 by omega, readN]
  simp

end
end Go.Proofs.YtoghaehcmbonnaaGreatDoor
