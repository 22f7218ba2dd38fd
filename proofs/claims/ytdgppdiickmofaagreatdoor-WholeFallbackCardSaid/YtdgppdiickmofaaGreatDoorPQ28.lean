/- The program's effective locales: patterns in memory; a locale with all that it holds; what came in. -/
import Derived.Test.YtdgppdiickmofaaGreatDoorPQ26
import Derived.Test.YtdgppdiickmofaaGreatDoorPQ27
import Derived.Test.YtdgppdiickmofaaGreatDoorPQ08
namespace Go.Proofs.YtdgppdiickmofaaGreatDoor
open Go.RowKit
open Go.WideShapes Go.ChangeShapes Go.Deep
set_option maxRecDepth 100000
attribute [local go_sem] ext_refl_t ext_alloc_t ext_drew_t ext_drewN_t ext_alloc2_t ext_alloc3_t ext_alloc4_t ext_alloc5_t ext_alloc6_t ext_alloc7_t ext_alloc8_t ext_alloc1d_t ext_alloc2d_t ext_alloc3d_t ext_alloc4d_t
structure LpP where
  st : List UInt8
  tw : List UInt8
  sa : List UInt8
  mi : List UInt8
  en : List UInt8
structure UpP where
  un : List UInt8
  cl : List UInt8
  pa : List UInt8
structure DpP where
  sk : List UInt8
  pa : List UInt8
instance : Inhabited LpP := ⟨⟨[], [], [], [], []⟩⟩
instance : Inhabited UpP := ⟨⟨[], [], []⟩⟩
instance : Inhabited DpP := ⟨⟨[], []⟩⟩
def lpC (x : LpP) : List Value := [.string (str x.st), .string (str x.tw), .string (str x.sa), .string (str x.mi), .string (str x.en)]
def upC (x : UpP) : List Value := [.string (str x.un), .string (str x.cl), .string (str x.pa)]
def dpC (x : DpP) : List Value := [.string (str x.sk), .string (str x.pa)]
def upK (x : UpP) : PrP := (x.un, x.cl)
theorem lpC_len (x : LpP) : (lpC x).length = 5 := rfl
theorem upC_len (x : UpP) : (upC x).length = 3 := rfl
theorem dpC_len (x : DpP) : (dpC x).length = 2 := rfl
theorem lpC_cell : ∀ x : LpP, ∀ u ∈ lpC x, u.oneCell' = true := by
  intro x u hu
  simp only [lpC, List.mem_cons, List.not_mem_nil, or_false] at hu
  rcases hu with rfl | rfl | rfl | rfl | rfl <;> rfl
theorem upC_cell : ∀ x : UpP, ∀ u ∈ upC x, u.oneCell' = true := by
  intro x u hu
  simp only [upC, List.mem_cons, List.not_mem_nil, or_false] at hu
  rcases hu with rfl | rfl | rfl <;> rfl
theorem dpC_cell : ∀ x : DpP, ∀ u ∈ dpC x, u.oneCell' = true := by
  intro x u hu
  simp only [dpC, List.mem_cons, List.not_mem_nil, or_false] at hu
  rcases hu with rfl | rfl <;> rfl
theorem einfo_lp : EInfo 34 71 5 80 := EInfo.mk_ (z := .agg #[.string ⟨#[]⟩, .string ⟨#[]⟩, .string ⟨#[]⟩, .string ⟨#[]⟩, .string ⟨#[]⟩]) Tryz.underlying34 (by kernel_rfl) rfl (by omega) (by omega)
theorem einfo_up : EInfo 35 79 3 48 := EInfo.mk_ (z := .agg #[.string ⟨#[]⟩, .string ⟨#[]⟩, .string ⟨#[]⟩]) Tryz.underlying35 (by kernel_rfl) rfl (by omega) (by omega)
theorem einfo_dp : EInfo 36 89 2 32 := EInfo.mk_ (z := .agg #[.string ⟨#[]⟩, .string ⟨#[]⟩]) Tryz.underlying36 (by kernel_rfl) rfl (by omega) (by omega)
abbrev GdS (s : List UInt8) : Prop := s.length ≤ 140737488351232
abbrev GdL (x : LpP) : Prop := GdS x.st
abbrev GdU (x : UpP) : Prop := GdS x.un ∧ GdS x.cl
abbrev GdD (x : DpP) : Prop := GdS x.sk
/-- A locale with all that it holds. -/
structure LxH where
  lc : LcH
  card : List RxH
  ord : List RxH
  lst : List LpP
  unt : List UpP
  dat : List DpP
  mon : List ByteArray
  day : List ByteArray
structure DLx (w : World) (x : LxH) : Prop where
  card : DRs w (fun _ => False) x.lc.card x.card
  ord : DRs w (fun _ => False) x.lc.ord x.ord
  lst : HW lpC 5 80 GdL w x.lc.lst x.lst
  unt : HW upC 3 48 GdU w x.lc.unt x.unt
  dat : HW dpC 2 32 GdD w x.lc.dat x.dat
  mon : HW strF 1 16 (fun _ => True) w x.lc.mon x.mon
  day : HW strF 1 16 (fun _ => True) w x.lc.day x.day
theorem DLx.ext {w w' : World} {x : LxH} (h : DLx w x) (hE : Ext w w') : DLx w' x := ⟨h.card.ext hE, h.ord.ext hE, h.lst.ext hE, h.unt.ext hE, h.dat.ext hE, h.mon.ext hE, h.day.ext hE⟩
/-- A locale's content. -/
structure LpL where
  tag : List UInt8
  par : List UInt8
  dir : List UInt8
  card : List RuleP
  ord : List RuleP
  sym : List UInt8 × List UInt8 × List UInt8 × List UInt8 × Int × Int
  lst : List LpP
  unt : List UpP
  dat : List DpP
  mon : List ByteArray
  day : List ByteArray
abbrev symL (x : LcH) : List UInt8 × List UInt8 × List UInt8 × List UInt8 × Int × Int := (x.dec, x.grp, x.min, x.pct, x.p1, x.p2)
def plx (x : LxH) : LpL := ⟨x.lc.tag, x.lc.par, x.lc.dir, x.card.map plRx, x.ord.map plRx, symL x.lc, x.lst, x.unt, x.dat, x.mon, x.day⟩
def dirP (l : List LcH) : List UInt8 := l.foldl (fun d x => if d = [] then x.dir else d) []
abbrev SymP := List UInt8 × List UInt8 × List UInt8 × List UInt8 × Int × Int
def symZ : SymP := ([], [], [], [], 0, 0)
def symF (l : List LcH) : SymP := l.foldl (fun s x => if s.1 = [] then symL x else s) symZ
def symP (l : List LcH) : SymP := if (symF l).1 = [] then symZ else symF l
/-- What Effective gives of the locales of a chain. -/
structure EfR (l : List LxH) (y : LpL) : Prop where
  tag : l.head?.map (fun x => x.lc.tag) = some y.tag
  par : y.par = []
  dir : y.dir = dirP (l.map LxH.lc)
  sym : y.sym = symP (l.map LxH.lc)
  card : y.card = firstP (l.map fun x => x.card.map plRx)
  ord : y.ord = firstP (l.map fun x => x.ord.map plRx)
  mon : y.mon = firstP (l.map LxH.mon)
  day : y.day = firstP (l.map LxH.day)
  lst : MgP LpP.st cmpL (l.map LxH.lst).flatten y.lst
  unt : MgP upK cmpQ (l.map LxH.unt).flatten y.unt
  dat : MgP DpP.sk cmpL (l.map LxH.dat).flatten y.dat
theorem EfR.uniq {l : List LxH} {y y' : LpL} (h : EfR l y) (h' : EfR l y') : y = y' := by
  have e1 := h.tag.symm.trans h'.tag
  injection e1 with e1
  have e2 := h.lst.uniq ltS_tri h'.lst
  have e3 := h.unt.uniq ltQ_tri' h'.unt
  have e4 := h.dat.uniq ltS_tri h'.dat
  have e5 := h.par.trans h'.par.symm
  have e6 := h.dir.trans h'.dir.symm
  have e7 := h.sym.trans h'.sym.symm
  have e8 := h.card.trans h'.card.symm
  have e9 := h.ord.trans h'.ord.symm
  have ea := h.mon.trans h'.mon.symm
  have eb := h.day.trans h'.day.symm
  obtain ⟨a1, a2, a3, a4, a5, a6, a7, a8, a9, a10, a11⟩ := y
  obtain ⟨b1, b2, b3, b4, b5, b6, b7, b8, b9, b10, b11⟩ := y'
  dsimp only at e1 e2 e3 e4 e5 e6 e7 e8 e9 ea eb
  subst e1 e2 e3 e4 e5 e6 e7 e8 e9 ea eb
  rfl
theorem SlC.map_ {α β : Type} {cs : β → List Value} {g : α → β} {k : Nat} {w : World} {A : Option Addr} {m : Nat} {l : List α} (h : SlC (fun x => cs (g x)) k w A m l) (h1 : ∀ x, (cs x).length = k) : SlC cs k w A m (l.map g) := by
  have e : (l.map g).flatMap cs = l.flatMap fun x => cs (g x) := by rw [List.flatMap_map]
  exact ⟨by rw [e]; exact h.rd, h1, by rw [List.length_map]; exact h.len, h.le⟩
theorem SlC.unmap_ {α β : Type} {cs : β → List Value} {g : α → β} {k : Nat} {w : World} {A : Option Addr} {m : Nat} {l : List α} (h : SlC cs k w A m (l.map g)) : SlC (fun x => cs (g x)) k w A m l := by
  have e : (l.map g).flatMap cs = l.flatMap fun x => cs (g x) := by rw [List.flatMap_map]
  exact ⟨by rw [← e]; exact h.rd, fun x => h.one _, by have := h.len; rw [List.length_map] at this; exact this, h.le⟩
section
variable {H : Type} {enc : TypeId × Value → H} {W : World}
end
end Go.Proofs.YtdgppdiickmofaaGreatDoor

/- The references of the whole fallback: equal lists of strings; few aliases, distances, locales. -/
namespace Go.Proofs.YtdgppdiickmofaaGreatDoor
open Go.RowKit
set_option maxRecDepth 100000
attribute [local go_sem] ext_refl_t ext_alloc_t ext_drew_t ext_drewN_t ext_alloc2_t ext_alloc3_t ext_alloc4_t ext_alloc5_t ext_alloc6_t ext_alloc7_t ext_alloc8_t ext_alloc1d_t ext_alloc2d_t ext_alloc3d_t ext_alloc4d_t
section
variable {w : World}
set_option maxHeartbeats 800000 in
theorem sameStrs_any {A B : Option Addr} {n n' : Nat} (c d : Nat) {l : List ByteArray} (ha : SlC strF 1 w A n l) (hb : SlC strF 1 w B n' l) :
    Calls Tryz.prog 5 #[.slice A n c, .slice B n' d] w fun e w' => e = .returned (.bool true) ∧ Ext w w' := by
  have hlen : n = n' := ha.len.trans hb.len.symm
  subst hlen
  have HL := Lib.hid ha.len
  have hle := ha.le
  have HA := Lib.hid ha
  have HB := Lib.hid hb
  clear ha hb
  go_enter Tryz.func5, Tryz.ntmps5
  go_wp2
  go_loopw [5] (fun i wr => ∃ k : Nat, k ≤ n ∧ i = .int .i64 k ∧ Ext w wr) (fun i _ => n - (intOf i).toNat)
  case atStart => exact ⟨0, Nat.zero_le _, rfl, Ext.refl _⟩
  case round =>
    obtain ⟨k, hk, rfl, hE⟩ := hrel
    by_cases hlt : k < n
    · obtain ⟨b, off, rfl, _, hc⟩ := (HA.out.ext hE).at_ hlt (by omega)
      obtain ⟨b', off', rfl, _, hc'⟩ := (HB.out.ext hE).at_ hlt (by omega)
      have hlt1 : k < l.length := by rw [← HL.out]; exact hlt
      obtain ⟨s, hs⟩ : ∃ s, s = l[k] := ⟨_, rfl⟩
      have h1 := hc k hlt1 0 (by omega)
      have h2 := hc' k hlt1 0 (by omega)
      simp only [← hs, strF, List.getElem_cons_zero, Nat.add_zero, Nat.mul_one] at h1 h2
      have hi1 : (k : Int) < (n : Int) := by omega
      have hbq : (s.toList == s.toList) = true := by simp
      clear hc hc' hs
      go_wp2
      go_quiet (fail)
      go_wp2
      go_roundw
      case rel => exact ⟨k + 1, by omega, by go_num, Ext.drewN hE _⟩
      case measure => simp [intOf]; omega
    · have hi1 : ¬ (k : Int) < (n : Int) := by omega
      go_wp2
      go_ret
      exact ⟨rfl, hE⟩
set_option maxHeartbeats 800000 in
theorem strings22_any {A B : Option Addr} {n n' : Nat} (c d : Nat) {l : List ByteArray} (ha : SlC strF 1 w A n l) (hb : SlC strF 1 w B n' l) :
    Calls Tryz.prog 43 #[.slice A n c, .slice B n' d] w fun e w' => e = .returned (.bool true) ∧ Ext w w' := by
  have hlen : n = n' := ha.len.trans hb.len.symm
  subst hlen
  have HL := Lib.hid ha.len
  have hle := ha.le
  have HA := Lib.hid ha
  have HB := Lib.hid hb
  clear ha hb
  go_enter Tryz.func43, Tryz.ntmps43
  go_wp2
  go_loopw [5] (fun i wr => ∃ k : Nat, k ≤ n ∧ i = .int .i64 k ∧ Ext w wr) (fun i _ => n - (intOf i).toNat)
  case atStart => exact ⟨0, Nat.zero_le _, rfl, Ext.refl _⟩
  case round =>
    obtain ⟨k, hk, rfl, hE⟩ := hrel
    by_cases hlt : k < n
    · obtain ⟨b, off, rfl, _, hc⟩ := (HA.out.ext hE).at_ hlt (by omega)
      obtain ⟨b', off', rfl, _, hc'⟩ := (HB.out.ext hE).at_ hlt (by omega)
      have hlt1 : k < l.length := by rw [← HL.out]; exact hlt
      obtain ⟨s, hs⟩ : ∃ s, s = l[k] := ⟨_, rfl⟩
      have h1 := hc k hlt1 0 (by omega)
      have h2 := hc' k hlt1 0 (by omega)
      simp only [← hs, strF, List.getElem_cons_zero, Nat.add_zero, Nat.mul_one] at h1 h2
      have hi1 : (k : Int) < (n : Int) := by omega
      have hbq : (s.toList == s.toList) = true := by simp
      clear hc hc' hs
      go_wp2
      go_quiet (fail)
      go_wp2
      go_roundw
      case rel => exact ⟨k + 1, by omega, by go_num, Ext.drewN hE _⟩
      case measure => simp [intOf]; omega
    · have hi1 : ¬ (k : Int) < (n : Int) := by omega
      go_wp2
      go_ret
      exact ⟨rfl, hE⟩
def RetR (e : Ending) (Q : Prop) : Prop := ∃ r : Bool, e = .returned (.bool r) ∧ (r = true → Q)
theorem RetR.mk_ {e : Ending} {Q : Prop} (r : Bool) (h : e = .returned (.bool r)) (h2 : r = true → Q) : RetR e Q := ⟨r, h, h2⟩
def FewAl (al : List AlP) : Prop := al.length ≤ 12 ∧ ∀ x ∈ al, x.1.length + x.2.length ≤ 120
def FewNr (al : List NrP) : Prop := al.length ≤ 30 ∧ ∀ x ∈ al, x.a.length + x.b.length ≤ 60
set_option maxHeartbeats 1600000 in
theorem few20_any {h : SlH} {al : List AlP} (hs : HW alC 2 32 (fun x => GdS x.1 ∧ GdS x.2) w h al) :
    Calls Tryz.prog 14 #[.slice h.A h.m h.c] w fun e w' => RetR e (FewAl al) ∧ Ext w w' := by
  obtain ⟨A, m, c⟩ := h
  dsimp only
  have HL : Hid (m = al.length) := hs.sl.len
  have hle : m < 2 ^ 44 := by have := hs.bd; dsimp only at this; omega
  have HS := Lib.hid hs
  clear hs
  go_enter Tryz.func14, Tryz.ntmps14
  go_wp2
  go_loopw [3] (fun i wr => ∃ q : Nat, q ≤ m ∧ i = .int .i64 q ∧ Ext w wr ∧ Hid (∀ x ∈ al.take q, x.1.length + x.2.length ≤ 120)) (fun i _ => m - (intOf i).toNat)
  case atStart => exact ⟨0, Nat.zero_le _, rfl, Ext.refl _, fun x hx => by rw [List.take_zero] at hx; cases hx⟩
  case round =>
    obtain ⟨q, hq, rfl, hE, HC⟩ := hrel
    by_cases hlt : q < m
    · obtain ⟨b, off, e0, hbl, hcs⟩ := (HS.out.sl.ext hE).at_ hlt (by omega)
      dsimp only at e0
      subst e0
      have hlt1 : q < al.length := by rw [← HL.out]; exact hlt
      obtain ⟨x, hx⟩ : ∃ y, y = al[q] := ⟨_, rfl⟩
      have y0 := hcs q hlt1 0 (by omega)
      have y1 := hcs q hlt1 1 (by omega)
      simp only [← hx, alC, List.getElem_cons_zero, List.getElem_cons_succ, Nat.add_zero, ← Nat.add_assoc] at y0 y1
      have hgd := HS.out.good x (by rw [hx]; exact List.getElem_mem hlt1)
      have HST : Hid (al.take (q + 1) = al.take q ++ [x]) := by show _ = _; rw [List.take_succ_eq_append_getElem hlt1, hx]
      have hi1 : (q : Int) < (m : Int) := by omega
      obtain ⟨s1, hs1⟩ : ∃ s, s = str x.1 := ⟨_, rfl⟩
      obtain ⟨s2, hs2⟩ : ∃ s, s = str x.2 := ⟨_, rfl⟩
      have HZ1 : Hid (s1.size = x.1.length) := by show _ = _; rw [hs1, str_size]
      have HZ2 : Hid (s2.size = x.2.length) := by show _ = _; rw [hs2, str_size]
      have b1 : s1.size ≤ 140737488351232 := by rw [HZ1.out]; exact hgd.1
      have b2 : s2.size ≤ 140737488351232 := by rw [HZ2.out]; exact hgd.2
      rw [← hs1] at y0
      rw [← hs2] at y1
      clear hcs hx hs1 hs2 hgd
      by_cases c1 : 120 < s1.size + s2.size
      · have c1i : (120 : Int) < (s1.size : Int) + (s2.size : Int) := by omega
        go_wp2
        go_quiet (fail)
        go_wp2
        go_ret
        exact ⟨RetR.mk_ false rfl (fun e => by cases e), Ext.drewN hE _⟩
      · have c1i : ¬ (120 : Int) < (s1.size : Int) + (s2.size : Int) := by omega
        have HN : Hid (∀ x ∈ al.take (q + 1), x.1.length + x.2.length ≤ 120) := by
          show ∀ _, _
          rw [HST.out]
          intro z hz
          rcases List.mem_append.1 hz with h1 | h1
          · exact HC.out z h1
          · rw [List.mem_singleton] at h1
            subst h1
            have := HZ1.out
            have := HZ2.out
            omega
        go_wp2
        go_quiet (fail)
        go_wp2
        go_roundw
        case rel => exact ⟨q + 1, by omega, by go_num, Ext.drewN hE _, HN⟩
        case measure => simp [intOf]; omega
    · have hi1 : ¬ (q : Int) < (m : Int) := by omega
      have HN : Hid (∀ x ∈ al, x.1.length + x.2.length ≤ 120) := by
        have h := HC.out
        rwa [List.take_of_length_le (by have := HL.out; omega)] at h
      by_cases c3 : m ≤ 12
      · have c3i : (m : Int) ≤ 12 := by omega
        go_wp2
        go_ret
        exact ⟨RetR.mk_ true rfl (fun _ => ⟨by have := HL.out; omega, HN.out⟩), hE⟩
      · have c3i : ¬ (m : Int) ≤ 12 := by omega
        go_wp2
        go_ret
        exact ⟨RetR.mk_ false rfl (fun e => by cases e), hE⟩
abbrev GdN (x : NrP) : Prop := GdS x.a ∧ GdS x.b ∧ -9223372036854775808 ≤ x.c ∧ x.c ≤ 9223372036854775807
set_option maxHeartbeats 1600000 in
theorem fewNear_any {h : SlH} {al : List NrP} (hs : HW nrC 3 40 GdN w h al) :
    Calls Tryz.prog 15 #[.slice h.A h.m h.c] w fun e w' => RetR e (FewNr al) ∧ Ext w w' := by
  obtain ⟨A, m, c⟩ := h
  dsimp only
  have HL : Hid (m = al.length) := hs.sl.len
  have hle : m < 2 ^ 44 := by have := hs.bd; dsimp only at this; omega
  have HS := Lib.hid hs
  clear hs
  go_enter Tryz.func15, Tryz.ntmps15
  go_wp2
  go_loopw [3] (fun i wr => ∃ q : Nat, q ≤ m ∧ i = .int .i64 q ∧ Ext w wr ∧ Hid (∀ x ∈ al.take q, x.a.length + x.b.length ≤ 60)) (fun i _ => m - (intOf i).toNat)
  case atStart => exact ⟨0, Nat.zero_le _, rfl, Ext.refl _, fun x hx => by rw [List.take_zero] at hx; cases hx⟩
  case round =>
    obtain ⟨q, hq, rfl, hE, HC⟩ := hrel
    by_cases hlt : q < m
    · obtain ⟨b, off, e0, hbl, hcs⟩ := (HS.out.sl.ext hE).at_ hlt (by omega)
      dsimp only at e0
      subst e0
      have hlt1 : q < al.length := by rw [← HL.out]; exact hlt
      obtain ⟨x, hx⟩ : ∃ y, y = al[q] := ⟨_, rfl⟩
      have y0 := hcs q hlt1 0 (by omega)
      have y1 := hcs q hlt1 1 (by omega)
      simp only [← hx, nrC, List.getElem_cons_zero, List.getElem_cons_succ, Nat.add_zero, ← Nat.add_assoc] at y0 y1
      have hgd := HS.out.good x (by rw [hx]; exact List.getElem_mem hlt1)
      have HST : Hid (al.take (q + 1) = al.take q ++ [x]) := by show _ = _; rw [List.take_succ_eq_append_getElem hlt1, hx]
      have hi1 : (q : Int) < (m : Int) := by omega
      obtain ⟨s1, hs1⟩ : ∃ s, s = str x.a := ⟨_, rfl⟩
      obtain ⟨s2, hs2⟩ : ∃ s, s = str x.b := ⟨_, rfl⟩
      have HZ1 : Hid (s1.size = x.a.length) := by show _ = _; rw [hs1, str_size]
      have HZ2 : Hid (s2.size = x.b.length) := by show _ = _; rw [hs2, str_size]
      have b1 : s1.size ≤ 140737488351232 := by rw [HZ1.out]; exact hgd.1
      have b2 : s2.size ≤ 140737488351232 := by rw [HZ2.out]; exact hgd.2.1
      rw [← hs1] at y0
      rw [← hs2] at y1
      clear hcs hx hs1 hs2 hgd
      by_cases c1 : 60 < s1.size + s2.size
      · have c1i : (60 : Int) < (s1.size : Int) + (s2.size : Int) := by omega
        go_wp2
        go_quiet (fail)
        go_wp2
        go_ret
        exact ⟨RetR.mk_ false rfl (fun e => by cases e), Ext.drewN hE _⟩
      · have c1i : ¬ (60 : Int) < (s1.size : Int) + (s2.size : Int) := by omega
        have HN : Hid (∀ x ∈ al.take (q + 1), x.a.length + x.b.length ≤ 60) := by
          show ∀ _, _
          rw [HST.out]
          intro z hz
          rcases List.mem_append.1 hz with h1 | h1
          · exact HC.out z h1
          · rw [List.mem_singleton] at h1
            subst h1
            have := HZ1.out
            have := HZ2.out
            omega
        go_wp2
        go_quiet (fail)
        go_wp2
        go_roundw
        case rel => exact ⟨q + 1, by omega, by go_num, Ext.drewN hE _, HN⟩
        case measure => simp [intOf]; omega
    · have hi1 : ¬ (q : Int) < (m : Int) := by omega
      have HN : Hid (∀ x ∈ al, x.a.length + x.b.length ≤ 60) := by
        have h := HC.out
        rwa [List.take_of_length_le (by have := HL.out; omega)] at h
      by_cases c3 : m ≤ 30
      · have c3i : (m : Int) ≤ 30 := by omega
        go_wp2
        go_ret
        exact ⟨RetR.mk_ true rfl (fun _ => ⟨by have := HL.out; omega, HN.out⟩), hE⟩
      · have c3i : ¬ (m : Int) ≤ 30 := by omega
        go_wp2
        go_ret
        exact ⟨RetR.mk_ false rfl (fun e => by cases e), hE⟩
end
end Go.Proofs.YtdgppdiickmofaaGreatDoor

/- The references of the whole fallback: few. -/
namespace Go.Proofs.YtdgppdiickmofaaGreatDoor
open Go.RowKit
set_option maxRecDepth 100000
attribute [local go_sem] ext_refl_t ext_alloc_t ext_drew_t ext_drewN_t ext_alloc2_t ext_alloc3_t ext_alloc4_t ext_alloc5_t ext_alloc6_t ext_alloc7_t ext_alloc8_t ext_alloc1d_t ext_alloc2d_t ext_alloc3d_t ext_alloc4d_t
attribute [local go_sem] yielded_undef
def SecL (x : LcH) : Prop := x.card.m ≤ 17592186044416 ∧ x.ord.m ≤ 17592186044416 ∧ x.lst.m ≤ 17592186044416 ∧ x.unt.m ≤ 17592186044416 ∧ x.dat.m ≤ 17592186044416 ∧ x.mon.m ≤ 17592186044416 ∧ x.day.m ≤ 17592186044416
def GdC (x : LcH) : Prop := GdS x.tag ∧ GdS x.par ∧ SecL x
def FewL (x : LcH) : Prop := x.tag.length + x.par.length ≤ 120 ∧ x.card.m + x.ord.m + x.lst.m + x.unt.m + x.dat.m + x.mon.m + x.day.m ≤ 120
def FewLs (ls : List LcH) : Prop := ls.length ≤ 12 ∧ ∀ x ∈ ls, FewL x
section
variable {w : World}
set_option maxHeartbeats 12800000 in
theorem few22_any {hl ha hn : SlH} {ls : List LcH} {al : List AlP} {nr : List NrP} (hs : HW lcC 16 296 GdC w hl ls) (h2 : HW alC 2 32 (fun x => GdS x.1 ∧ GdS x.2) w ha al) (h3 : HW nrC 3 40 GdN w hn nr) :
    Calls Tryz.prog 6 #[.agg #[.slice hl.A hl.m hl.c, .slice ha.A ha.m ha.c, .slice hn.A hn.m hn.c]] w fun e w' => RetR e (FewLs ls ∧ FewAl al ∧ FewNr nr) ∧ Ext w w' := by
  have HA : Hid (∀ W, Ext w W → Calls Tryz.prog 14 #[.slice ha.A ha.m ha.c] W fun e w' => RetR e (FewAl al) ∧ Ext W w') := fun W hE => few20_any (HW.ext h2 hE)
  have HN : Hid (∀ W, Ext w W → Calls Tryz.prog 15 #[.slice hn.A hn.m hn.c] W fun e w' => RetR e (FewNr nr) ∧ Ext W w') := fun W hE => fewNear_any (HW.ext h3 hE)
  obtain ⟨A1, m1, c1⟩ := hl
  obtain ⟨A2, m2, c2⟩ := ha
  obtain ⟨A3, m3, c3⟩ := hn
  dsimp only at HA HN ⊢
  have HL : Hid (m1 = ls.length) := hs.sl.len
  have hle : m1 < 2 ^ 44 := by have := hs.bd; dsimp only at this; omega
  have HS := Lib.hid hs
  clear hs h2 h3
  obtain ⟨W0, hW0⟩ : ∃ W0, W0 = w.alloc (Obj.cells #[.slice A1 m1 c1, .slice A2 m2 c2, .slice A3 m3 c3] 26) := ⟨_, rfl⟩
  have hE0 : Ext w W0 := by rw [hW0]; exact (Ext.refl w).alloc _
  have hb0 : Blk W0 w.heap.size 26 #[.slice A1 m1 c1, .slice A2 m2 c2, .slice A3 m3 c3] := by rw [hW0]; exact Blk.new w _ _
  go_enter Tryz.func6, Tryz.ntmps6
  go_upto_region 1 with fail
  rw [← hW0]
  obtain ⟨g0, hg0⟩ : ∃ g, g = w.heap.size := ⟨_, rfl⟩
  rw [← hg0] at hb0 ⊢
  have z0 := laters (show W0.cell? ⟨g0, 0, none⟩ = some (.slice A1 m1 c1) from hb0.cell 0)
  have z1 := laters (show W0.cell? ⟨g0, 1, none⟩ = some (.slice A2 m2 c2) from hb0.cell 1)
  have z2 := laters (show W0.cell? ⟨g0, 2, none⟩ = some (.slice A3 m3 c3) from hb0.cell 2)
  have HE0 := Lib.hid hE0
  clear hb0 hW0 hg0 hE0
  go_wp2
  go_loopw [3, 4] (fun i _ wr => ∃ q : Nat, q ≤ m1 ∧ i = .int .i64 q ∧ Ext W0 wr ∧ Hid (∀ x ∈ ls.take q, FewL x)) (fun i _ _ => m1 - (intOf i).toNat)
  case atStart => exact ⟨0, Nat.zero_le _, rfl, Ext.refl _, fun x hx => by rw [List.take_zero] at hx; cases hx⟩
  case round =>
    obtain ⟨q, hq, rfl, hE, HC⟩ := hrel
    by_cases hlt : q < m1
    · obtain ⟨b, off, e0, hbl, hcs⟩ := (HS.out.sl.ext (HE0.out.trans hE)).at_ hlt (by omega)
      dsimp only at e0
      subst e0
      have hlt1 : q < ls.length := by rw [← HL.out]; exact hlt
      obtain ⟨y, hyq⟩ : ∃ y, y = ls[q] := ⟨_, rfl⟩
      have y0 := hcs q hlt1 0 (by omega)
      have y1 := hcs q hlt1 1 (by omega)
      have y2 := hcs q hlt1 2 (by omega)
      have y3 := hcs q hlt1 3 (by omega)
      have y4 := hcs q hlt1 4 (by omega)
      have y5 := hcs q hlt1 5 (by omega)
      have y6 := hcs q hlt1 6 (by omega)
      have y7 := hcs q hlt1 7 (by omega)
      have y8 := hcs q hlt1 8 (by omega)
      have y9 := hcs q hlt1 9 (by omega)
      have y10 := hcs q hlt1 10 (by omega)
      have y11 := hcs q hlt1 11 (by omega)
      have y12 := hcs q hlt1 12 (by omega)
      have y13 := hcs q hlt1 13 (by omega)
      have y14 := hcs q hlt1 14 (by omega)
      have y15 := hcs q hlt1 15 (by omega)
      simp only [← hyq, lcC, List.getElem_cons_zero, List.getElem_cons_succ, Nat.add_zero, ← Nat.add_assoc] at y0 y1 y2 y3 y4 y5 y6 y7 y8 y9 y10 y11 y12 y13 y14 y15
      have hgd := HS.out.good y (by rw [hyq]; exact List.getElem_mem hlt1)
      have HST : Hid (ls.take (q + 1) = ls.take q ++ [y]) := by show _ = _; rw [List.take_succ_eq_append_getElem hlt1, hyq]
      have hi1 : (q : Int) < (m1 : Int) := by omega
      have HGD := Lib.hid hgd
      obtain ⟨W2, hW2⟩ : ∃ W2, W2 = wr.alloc (.cells #[.string (str y.tag), .string (str y.par), .string (str y.dir), .slice y.card.A y.card.m y.card.c, .slice y.ord.A y.ord.m y.ord.c, .string (str y.dec), .string (str y.grp), .string (str y.min), .string (str y.pct), .int .i64 y.p1, .int .i64 y.p2, .slice y.lst.A y.lst.m y.lst.c, .slice y.unt.A y.unt.m y.unt.c, .slice y.dat.A y.dat.m y.dat.c, .slice y.mon.A y.mon.m y.mon.c, .slice y.day.A y.day.m y.day.c] 38) := ⟨_, rfl⟩
      obtain ⟨g2, hg2⟩ : ∃ g, g = wr.heap.size := ⟨_, rfl⟩
      have hE2 : Ext W0 W2 := by rw [hW2]; exact hE.alloc _
      have HB6 : Hid (Blk W2 g2 38 #[.string (str y.tag), .string (str y.par), .string (str y.dir), .slice y.card.A y.card.m y.card.c, .slice y.ord.A y.ord.m y.ord.c, .string (str y.dec), .string (str y.grp), .string (str y.min), .string (str y.pct), .int .i64 y.p1, .int .i64 y.p2, .slice y.lst.A y.lst.m y.lst.c, .slice y.unt.A y.unt.m y.unt.c, .slice y.dat.A y.dat.m y.dat.c, .slice y.mon.A y.mon.m y.mon.c, .slice y.day.A y.day.m y.day.c]) := by show Blk _ _ _ _; rw [hW2, hg2]; exact Blk.new wr 38 _
      have HW2 := Lib.hid hW2
      have HG2 := Lib.hid hg2
      have HE2 := Lib.hid hE2
      clear hcs hbl hyq hW2 hg2 hE2 hgd
      go_upto_region 5 with fail
      rw [← HW2.out, ← HG2.out]
      clear y0 y1 y2 y3 y4 y5 y6 y7 y8 y9 y10 y11 y12 y13 y14 y15 hE
      obtain ⟨s1, hs1⟩ : ∃ s, s = str y.tag := ⟨_, rfl⟩
      obtain ⟨s2, hs2⟩ : ∃ s, s = str y.par := ⟨_, rfl⟩
      have x0 := show W2.cell? ⟨g2, 0, none⟩ = some (.string s1) by rw [hs1]; exact HB6.out.cell 0
      have x1 := show W2.cell? ⟨g2, 1, none⟩ = some (.string s2) by rw [hs2]; exact HB6.out.cell 1
      have HZ1 : Hid (s1.size = y.tag.length) := by show _ = _; rw [hs1, str_size]
      have HZ2 : Hid (s2.size = y.par.length) := by show _ = _; rw [hs2, str_size]
      have b1 : s1.size ≤ 140737488351232 := by rw [HZ1.out]; exact HGD.out.1
      have b2 : s2.size ≤ 140737488351232 := by rw [HZ2.out]; exact HGD.out.2.1
      clear hs1 hs2
      have hEr := HE2.out
      by_cases c1 : 120 < s1.size + s2.size
      · have c1i : (120 : Int) < (s1.size : Int) + (s2.size : Int) := by omega
        go_wp2
        go_ret
        exact ⟨RetR.mk_ false rfl (fun e => by cases e), HE0.out.trans hEr⟩
      · have c1i : ¬ (120 : Int) < (s1.size : Int) + (s2.size : Int) := by omega
        have x3 := show W2.cell? ⟨g2, 3, none⟩ = some (.slice y.card.A y.card.m y.card.c) from HB6.out.cell 3
        have x4 := show W2.cell? ⟨g2, 4, none⟩ = some (.slice y.ord.A y.ord.m y.ord.c) from HB6.out.cell 4
        have x11 := show W2.cell? ⟨g2, 11, none⟩ = some (.slice y.lst.A y.lst.m y.lst.c) from HB6.out.cell 11
        have x12 := show W2.cell? ⟨g2, 12, none⟩ = some (.slice y.unt.A y.unt.m y.unt.c) from HB6.out.cell 12
        have x13 := show W2.cell? ⟨g2, 13, none⟩ = some (.slice y.dat.A y.dat.m y.dat.c) from HB6.out.cell 13
        have x14 := show W2.cell? ⟨g2, 14, none⟩ = some (.slice y.mon.A y.mon.m y.mon.c) from HB6.out.cell 14
        have x15 := show W2.cell? ⟨g2, 15, none⟩ = some (.slice y.day.A y.day.m y.day.c) from HB6.out.cell 15
        obtain ⟨-, -, e3, e4, e5, e6, e7, e8, e9⟩ := HGD.out
        by_cases c2 : 120 < y.card.m + y.ord.m + y.lst.m + y.unt.m + y.dat.m + y.mon.m + y.day.m
        · have c2i : (120 : Int) < (y.card.m : Int) + (y.ord.m : Int) + (y.lst.m : Int) + (y.unt.m : Int) + (y.dat.m : Int) + (y.mon.m : Int) + (y.day.m : Int) := by omega
          go_wp2
          go_ret
          exact ⟨RetR.mk_ false rfl (fun e => by cases e), HE0.out.trans hEr⟩
        · have c2i : ¬ (120 : Int) < (y.card.m : Int) + (y.ord.m : Int) + (y.lst.m : Int) + (y.unt.m : Int) + (y.dat.m : Int) + (y.mon.m : Int) + (y.day.m : Int) := by omega
          have HF : Hid (∀ x ∈ ls.take (q + 1), FewL x) := by
            show ∀ _, _
            rw [HST.out]
            intro z hz
            rcases List.mem_append.1 hz with h1 | h1
            · exact HC.out z h1
            · rw [List.mem_singleton] at h1
              subst h1
              have := HZ1.out
              have := HZ2.out
              exact ⟨by omega, by omega⟩
          go_wp2
          go_roundw
          case rel => exact ⟨q + 1, by omega, by go_num, hEr, HF⟩
          case measure => simp [intOf]; omega
    · have hi1 : ¬ (q : Int) < (m1 : Int) := by omega
      have HF : Hid (∀ x ∈ ls, FewL x) := by
        have h := HC.out
        rwa [List.take_of_length_le (by have := HL.out; omega)] at h
      by_cases c3 : m1 ≤ 12
      · have c3i : (m1 : Int) ≤ 12 := by omega
        have HC3 : Hid (ls.length ≤ 12) := by show _ ≤ _; rw [← HL.out]; exact c3
        go_wp2_with (first
          | (go_at_call 14; refine Hid.out ?_))
        refine Hid.mk_ ((HA.out _ (HE0.out.trans hE)).mono ?_)
        rintro e w5 ⟨⟨r5, rfl, hr5⟩, hE5⟩
        have HR5 := Lib.hid hr5
        clear hr5
        have hEr := hE.trans hE5
        cases r5 with
        | false =>
          go_wp2
          go_ret
          exact ⟨RetR.mk_ false rfl (fun e => by cases e), HE0.out.trans hEr⟩
        | true =>
          go_wp2_with (first
            | (go_at_call 15; refine Hid.out ?_))
          refine Hid.mk_ ((HN.out _ (HE0.out.trans hEr)).mono ?_)
          rintro e w6 ⟨⟨r6, rfl, hr6⟩, hE6⟩
          have HR6 := Lib.hid hr6
          clear hr6
          go_wp2
          go_ret
          exact ⟨RetR.mk_ r6 rfl (fun e => ⟨⟨HC3.out, HF.out⟩, HR5.out trivial, HR6.out e⟩), HE0.out.trans (hEr.trans hE6)⟩
      · have c3i : ¬ (m1 : Int) ≤ 12 := by omega
        go_wp2
        go_ret
        exact ⟨RetR.mk_ false rfl (fun e => by cases e), HE0.out.trans hE⟩
end
end Go.Proofs.YtdgppdiickmofaaGreatDoor

/- The whole fallback: what came in. -/
namespace Go.Proofs.YtdgppdiickmofaaGreatDoor
open Go.RowKit
open Go.WideShapes Go.ChangeShapes Go.Deep
set_option maxRecDepth 100000
section
variable {H : Type} {enc : TypeId × Value → H} {W : World}
def strL (s : List UInt8) : List Value := [.string (str s)]
theorem opn_strL : Opn enc W 9 strL GdS := by
  intro n cs x h hw
  obtain ⟨s, rfl, hs⟩ := opn_string Tryz.underlying9 n cs x h hw
  refine ⟨bys s, by rw [strL, str_bys]; rfl, ?_⟩
  have h2 : (str (bys s)).size ≤ 140737488351232 := by rw [str_bys]; exact hs
  rwa [str_size] at h2
theorem opn_i64 : Opn enc W 3 (intF .i64) (fun z => -9223372036854775808 ≤ z ∧ z ≤ 9223372036854775807) := (opn_int Tryz.underlying3).mono fun z hz => by
  simp [Lit.wf, IntKind.min, IntKind.max, IntKind.signed, IntKind.bits] at hz
  omega
theorem cz_s : Tryz.prog.cellsOf 9 = 1 := by kernel_rfl
theorem cz_i : Tryz.prog.cellsOf 3 = 1 := by kernel_rfl
theorem cz_b : Tryz.prog.cellsOf 4 = 1 := by kernel_rfl
theorem cz_sp : Tryz.prog.cellsOf 118 = 1 := by kernel_rfl
theorem cz_cd : Tryz.prog.cellsOf 59 = 1 := by kernel_rfl
theorem cz_rx : Tryz.prog.cellsOf 31 = 1 := by kernel_rfl
theorem cz_sl : Tryz.prog.cellsOf 27 = 1 := by kernel_rfl
theorem cz_lp : Tryz.prog.cellsOf 34 = 1 := by kernel_rfl
theorem cz_up : Tryz.prog.cellsOf 35 = 1 := by kernel_rfl
theorem cz_dp : Tryz.prog.cellsOf 36 = 1 := by kernel_rfl
theorem cz_sy : Tryz.prog.cellsOf 33 = 6 := by kernel_rfl
theorem cz_lc : Tryz.prog.cellsOf 22 = 1 := by kernel_rfl
theorem cz_al : Tryz.prog.cellsOf 23 = 1 := by kernel_rfl
theorem cz_nr : Tryz.prog.cellsOf 24 = 1 := by kernel_rfl
def symC (x : SymP) : List Value := [.string (str x.1), .string (str x.2.1), .string (str x.2.2.1), .string (str x.2.2.2.1), .int .i64 x.2.2.2.2.1, .int .i64 x.2.2.2.2.2]
theorem opn_span : Opn enc W 123 spC (fun _ => True) := by
  intro n cs x h hw
  obtain ⟨hl, hp⟩ := opn_part Tryz.underlying123 h hw
  rw [show Tryz.prog.cellsOf 123 = 2 by kernel_rfl] at hl
  match cs, hl with
  | [c0, c1], _ =>
    obtain ⟨y0, e0, g0⟩ := hp 0 _ rfl opn_i64
    obtain ⟨y1, e1, g1⟩ := hp 1 _ rfl opn_i64
    simp [cz_i, intF] at e0 e1
    subst e0 e1
    exact ⟨(y0, y1), rfl, trivial⟩
theorem opn_spans : Opn enc W 118 slF (GoodSl W spC 2 16 (fun _ => True)) :=
  opn_slice Tryz.underlying118 (by kernel_rfl) (by kernel_rfl) (by omega) (by omega) (fun _ => rfl) opn_span
theorem hw_of {α : Type} {f : α → List Value} {k b : Nat} {good good2 : α → Prop} {h : SlH} (hh : GoodSl W f k b good h) (hg : ∀ x, good x → good2 x) : ∃ l, HW f k b good2 W h l ∧ ∀ x ∈ l, good x := by
  obtain ⟨l, h1, h2, h3, h4⟩ := hh
  exact ⟨l, ⟨h1, h3, Nat.le_trans (Nat.mul_le_mul_right _ h3) h4, fun x hx => hg x (h2 x hx)⟩, h2⟩
theorem opn_rel : Opn enc W 120 rlC (DRl W (fun _ => False)) := by
  intro n cs x h hw
  obtain ⟨hl, hp⟩ := opn_part Tryz.underlying120 h hw
  rw [show Tryz.prog.cellsOf 120 = 4 by kernel_rfl] at hl
  match cs, hl with
  | [c0, c1, c2, c3], _ =>
    obtain ⟨y0, e0, g0⟩ := hp 0 _ rfl opn_i64
    obtain ⟨y1, e1, g1⟩ := hp 1 _ rfl opn_i64
    obtain ⟨y2, e2, g2⟩ := hp 2 _ rfl (opn_bool Tryz.underlying4)
    obtain ⟨y3, e3, g3⟩ := hp 3 _ rfl opn_spans
    simp [cz_i, intF, cz_b, boolF, cz_sp, slF] at e0 e1 e2 e3
    subst e0 e1 e2 e3
    obtain ⟨l, hl1, _⟩ := hw_of g3 (good2 := fun _ => True) (fun _ _ => trivial)
    exact ⟨⟨y0, y1, y2, y3, l⟩, rfl, hl1, .inr fun _ _ e => e⟩
theorem opn_rels : Opn enc W 116 slF (GoodSl W rlC 4 48 (DRl W (fun _ => False))) :=
  opn_slice Tryz.underlying116 (by kernel_rfl) (by kernel_rfl) (by omega) (by omega) (fun _ => rfl) opn_rel
theorem opn_row : Opn enc W 116 rwC (DRw W (fun _ => False)) := by
  intro n cs x h hw
  obtain ⟨y, e, hy⟩ := opn_rels n cs x h hw
  obtain ⟨l, hl1, hl2⟩ := hw_of hy (good2 := fun _ => True) (fun _ _ => trivial)
  exact ⟨⟨y, l⟩, e, hl1, .inr fun _ _ e => e, hl2⟩
theorem opn_cond : Opn enc W 59 slF (GoodSl W rwC 1 24 (DRw W (fun _ => False))) :=
  opn_slice Tryz.underlying59 (by kernel_rfl) (by kernel_rfl) (by omega) (by omega) (fun _ => rfl) opn_row
theorem opn_rule : Opn enc W 61 rxC (DRx W (fun _ => False)) := by
  intro n cs x h hw
  obtain ⟨hl, hp⟩ := opn_part Tryz.underlying61 h hw
  rw [show Tryz.prog.cellsOf 61 = 2 by kernel_rfl] at hl
  match cs, hl with
  | [c0, c1], _ =>
    obtain ⟨y0, e0, g0⟩ := hp 0 _ rfl opn_strL
    obtain ⟨y1, e1, g1⟩ := hp 1 _ rfl opn_cond
    simp [cz_s, strL, cz_cd, slF] at e0 e1
    subst e0 e1
    obtain ⟨l, hl1, hl2⟩ := hw_of g1 (good2 := fun _ => True) (fun _ _ => trivial)
    exact ⟨⟨y0, y1, l⟩, rfl, hl1, .inr fun _ _ e => e, hl2⟩
theorem opn_rules : Opn enc W 31 slF (GoodSl W rxC 2 40 (DRx W (fun _ => False))) :=
  opn_slice Tryz.underlying31 (by kernel_rfl) (by kernel_rfl) (by omega) (by omega) (fun _ => rfl) opn_rule
theorem opn_lp : Opn enc W 71 lpC GdL := by
  intro n cs x h hw
  obtain ⟨hl, hp⟩ := opn_part Tryz.underlying71 h hw
  rw [show Tryz.prog.cellsOf 71 = 5 by kernel_rfl] at hl
  match cs, hl with
  | [c0, c1, c2, c3, c4], _ =>
    obtain ⟨y0, e0, g0⟩ := hp 0 _ rfl opn_strL
    obtain ⟨y1, e1, g1⟩ := hp 1 _ rfl opn_strL
    obtain ⟨y2, e2, g2⟩ := hp 2 _ rfl opn_strL
    obtain ⟨y3, e3, g3⟩ := hp 3 _ rfl opn_strL
    obtain ⟨y4, e4, g4⟩ := hp 4 _ rfl opn_strL
    simp [cz_s, strL] at e0 e1 e2 e3 e4
    subst e0 e1 e2 e3 e4
    exact ⟨⟨y0, y1, y2, y3, y4⟩, rfl, g0⟩
theorem opn_up : Opn enc W 79 upC GdU := by
  intro n cs x h hw
  obtain ⟨hl, hp⟩ := opn_part Tryz.underlying79 h hw
  rw [show Tryz.prog.cellsOf 79 = 3 by kernel_rfl] at hl
  match cs, hl with
  | [c0, c1, c2], _ =>
    obtain ⟨y0, e0, g0⟩ := hp 0 _ rfl opn_strL
    obtain ⟨y1, e1, g1⟩ := hp 1 _ rfl opn_strL
    obtain ⟨y2, e2, g2⟩ := hp 2 _ rfl opn_strL
    simp [cz_s, strL] at e0 e1 e2
    subst e0 e1 e2
    exact ⟨⟨y0, y1, y2⟩, rfl, g0, g1⟩
theorem opn_dp : Opn enc W 89 dpC GdD := by
  intro n cs x h hw
  obtain ⟨hl, hp⟩ := opn_part Tryz.underlying89 h hw
  rw [show Tryz.prog.cellsOf 89 = 2 by kernel_rfl] at hl
  match cs, hl with
  | [c0, c1], _ =>
    obtain ⟨y0, e0, g0⟩ := hp 0 _ rfl opn_strL
    obtain ⟨y1, e1, g1⟩ := hp 1 _ rfl opn_strL
    simp [cz_s, strL] at e0 e1
    subst e0 e1
    exact ⟨⟨y0, y1⟩, rfl, g0⟩
theorem opn_lps : Opn enc W 34 slF (GoodSl W lpC 5 80 GdL) :=
  opn_slice Tryz.underlying34 (by kernel_rfl) (by kernel_rfl) (by omega) (by omega) (fun _ => rfl) opn_lp
theorem opn_ups : Opn enc W 35 slF (GoodSl W upC 3 48 GdU) :=
  opn_slice Tryz.underlying35 (by kernel_rfl) (by kernel_rfl) (by omega) (by omega) (fun _ => rfl) opn_up
theorem opn_dps : Opn enc W 36 slF (GoodSl W dpC 2 32 GdD) :=
  opn_slice Tryz.underlying36 (by kernel_rfl) (by kernel_rfl) (by omega) (by omega) (fun _ => rfl) opn_dp
theorem opn_sts : Opn enc W 27 slF (GoodSl W strF 1 16 GoodStr) :=
  opn_slice Tryz.underlying27 (by kernel_rfl) (by kernel_rfl) (by omega) (by omega) (fun _ => rfl) (opn_string Tryz.underlying9)
theorem opn_sym : Opn enc W 33 symC (fun _ => True) := by
  intro n cs x h hw
  obtain ⟨hl, hp⟩ := opn_part Tryz.underlying33 h hw
  rw [show Tryz.prog.cellsOf 33 = 6 by kernel_rfl] at hl
  match cs, hl with
  | [c0, c1, c2, c3, c4, c5], _ =>
    obtain ⟨y0, e0, g0⟩ := hp 0 _ rfl opn_strL
    obtain ⟨y1, e1, g1⟩ := hp 1 _ rfl opn_strL
    obtain ⟨y2, e2, g2⟩ := hp 2 _ rfl opn_strL
    obtain ⟨y3, e3, g3⟩ := hp 3 _ rfl opn_strL
    obtain ⟨y4, e4, g4⟩ := hp 4 _ rfl opn_i64
    obtain ⟨y5, e5, g5⟩ := hp 5 _ rfl opn_i64
    simp [cz_s, strL, cz_i, intF] at e0 e1 e2 e3 e4 e5
    subst e0 e1 e2 e3 e4 e5
    exact ⟨(y0, y1, y2, y3, y4, y5), rfl, trivial⟩
theorem opn_loc : Opn enc W 38 (fun x : LxH => lcC x.lc) (fun x => DLx W x ∧ GdC x.lc) := by
  intro n cs x h hw
  obtain ⟨hl, hp⟩ := opn_part Tryz.underlying38 h hw
  rw [show Tryz.prog.cellsOf 38 = 16 by kernel_rfl] at hl
  match cs, hl with
  | [c0, c1, c2, c3, c4, c5, c6, c7, c8, c9, c10, c11, c12, c13, c14, c15], _ =>
    obtain ⟨y0, e0, g0⟩ := hp 0 _ rfl opn_strL
    obtain ⟨y1, e1, g1⟩ := hp 1 _ rfl opn_strL
    obtain ⟨y2, e2, g2⟩ := hp 2 _ rfl opn_strL
    obtain ⟨y3, e3, g3⟩ := hp 3 _ rfl opn_rules
    obtain ⟨y4, e4, g4⟩ := hp 4 _ rfl opn_rules
    obtain ⟨y5, e5, g5⟩ := hp 5 _ rfl opn_sym
    obtain ⟨y6, e6, g6⟩ := hp 6 _ rfl opn_lps
    obtain ⟨y7, e7, g7⟩ := hp 7 _ rfl opn_ups
    obtain ⟨y8, e8, g8⟩ := hp 8 _ rfl opn_dps
    obtain ⟨y9, e9, g9⟩ := hp 9 _ rfl opn_sts
    obtain ⟨y10, e10, g10⟩ := hp 10 _ rfl opn_sts
    simp [cz_s, strL, cz_rx, slF, cz_sy, symC, cz_lp, cz_up, cz_dp, cz_sl] at e0 e1 e2 e3 e4 e5 e6 e7 e8 e9 e10
    obtain ⟨q0, q1, q2, q3, q4, q5⟩ := e5
    subst e0 e1 e2 e3 e4 q0 q1 q2 q3 q4 q5 e6 e7 e8 e9 e10
    obtain ⟨l3, h3, i3⟩ := hw_of g3 (good2 := fun _ => True) (fun _ _ => trivial)
    obtain ⟨l4, h4, i4⟩ := hw_of g4 (good2 := fun _ => True) (fun _ _ => trivial)
    obtain ⟨l6, h6, _⟩ := hw_of g6 (good2 := GdL) (fun _ h => h)
    obtain ⟨l7, h7, _⟩ := hw_of g7 (good2 := GdU) (fun _ h => h)
    obtain ⟨l8, h8, _⟩ := hw_of g8 (good2 := GdD) (fun _ h => h)
    obtain ⟨l9, h9, _⟩ := hw_of g9 (good2 := fun _ => True) (fun _ _ => trivial)
    obtain ⟨l10, h10, _⟩ := hw_of g10 (good2 := fun _ => True) (fun _ _ => trivial)
    refine ⟨⟨⟨y0, y1, y2, y3, y4, y5.1, y5.2.1, y5.2.2.1, y5.2.2.2.1, y5.2.2.2.2.1, y5.2.2.2.2.2, y6, y7, y8, y9, y10⟩, l3, l4, l6, l7, l8, l9, l10⟩, rfl, ⟨⟨h3, .inr fun _ _ e => e, i3⟩, ⟨h4, .inr fun _ _ e => e, i4⟩, h6, h7, h8, h9, h10⟩, g0, g1, ?_⟩
    have b3 := h3.bd
    have b4 := h4.bd
    have b6 := h6.bd
    have b7 := h7.bd
    have b8 := h8.bd
    have b9 := h9.bd
    have b10 := h10.bd
    refine ⟨?_, ?_, ?_, ?_, ?_, ?_, ?_⟩ <;> (dsimp only; omega)
theorem opn_locs : Opn enc W 22 slF (GoodSl W (fun x : LxH => lcC x.lc) 16 296 (fun x => DLx W x ∧ GdC x.lc)) :=
  opn_slice Tryz.underlying22 (by kernel_rfl) (by kernel_rfl) (by omega) (by omega) (fun _ => rfl) opn_loc
theorem opn_alias : Opn enc W 114 alC (fun x => GdS x.1 ∧ GdS x.2) := by
  intro n cs x h hw
  obtain ⟨hl, hp⟩ := opn_part Tryz.underlying114 h hw
  rw [show Tryz.prog.cellsOf 114 = 2 by kernel_rfl] at hl
  match cs, hl with
  | [c0, c1], _ =>
    obtain ⟨y0, e0, g0⟩ := hp 0 _ rfl opn_strL
    obtain ⟨y1, e1, g1⟩ := hp 1 _ rfl opn_strL
    simp [cz_s, strL] at e0 e1
    subst e0 e1
    exact ⟨(y0, y1), rfl, g0, g1⟩
theorem opn_als : Opn enc W 23 slF (GoodSl W alC 2 32 (fun x => GdS x.1 ∧ GdS x.2)) :=
  opn_slice Tryz.underlying23 (by kernel_rfl) (by kernel_rfl) (by omega) (by omega) (fun _ => rfl) opn_alias
theorem opn_near : Opn enc W 99 nrC GdN := by
  intro n cs x h hw
  obtain ⟨hl, hp⟩ := opn_part Tryz.underlying99 h hw
  rw [show Tryz.prog.cellsOf 99 = 3 by kernel_rfl] at hl
  match cs, hl with
  | [c0, c1, c2], _ =>
    obtain ⟨y0, e0, g0⟩ := hp 0 _ rfl opn_strL
    obtain ⟨y1, e1, g1⟩ := hp 1 _ rfl opn_strL
    obtain ⟨y2, e2, g2⟩ := hp 2 _ rfl opn_i64
    simp [cz_s, strL, cz_i, intF] at e0 e1 e2
    subst e0 e1 e2
    exact ⟨⟨y0, y1, y2⟩, rfl, g0, g1, g2⟩
theorem opn_nrs : Opn enc W 24 slF (GoodSl W nrC 3 40 GdN) :=
  opn_slice Tryz.underlying24 (by kernel_rfl) (by kernel_rfl) (by omega) (by omega) (fun _ => rfl) opn_near
/-- A table that came in. -/
structure TabX where
  xs : List LxH
  al : List AlP
  nr : List NrP
  hl : SlH
  ha : SlH
  hn : SlH
def txC (t : TabX) : List Value := [.slice t.hl.A t.hl.m t.hl.c, .slice t.ha.A t.ha.m t.ha.c, .slice t.hn.A t.hn.m t.hn.c]
structure TabI (W : World) (t : TabX) : Prop where
  xs : HW (fun x : LxH => lcC x.lc) 16 296 (fun x => DLx W x ∧ GdC x.lc) W t.hl t.xs
  al : HW alC 2 32 (fun x => GdS x.1 ∧ GdS x.2) W t.ha t.al
  nr : HW nrC 3 40 GdN W t.hn t.nr
theorem opn_table : Opn enc W 26 txC (TabI W) := by
  intro n cs x h hw
  obtain ⟨hl, hp⟩ := opn_part Tryz.underlying26 h hw
  rw [show Tryz.prog.cellsOf 26 = 3 by kernel_rfl] at hl
  match cs, hl with
  | [c0, c1, c2], _ =>
    obtain ⟨y0, e0, g0⟩ := hp 0 _ rfl opn_locs
    obtain ⟨y1, e1, g1⟩ := hp 1 _ rfl opn_als
    obtain ⟨y2, e2, g2⟩ := hp 2 _ rfl opn_nrs
    simp [cz_lc, slF, cz_al, cz_nr] at e0 e1 e2
    subst e0 e1 e2
    obtain ⟨l0, h0, _⟩ := hw_of g0 (good2 := fun x => DLx W x ∧ GdC x.lc) (fun _ h => h)
    obtain ⟨l1, h1, _⟩ := hw_of g1 (good2 := fun x => GdS x.1 ∧ GdS x.2) (fun _ h => h)
    obtain ⟨l2, h2, _⟩ := hw_of g2 (good2 := GdN) (fun _ h => h)
    exact ⟨⟨l0, l1, l2, y0, y1, y2⟩, rfl, h0, h1, h2⟩
end
end Go.Proofs.YtdgppdiickmofaaGreatDoor
