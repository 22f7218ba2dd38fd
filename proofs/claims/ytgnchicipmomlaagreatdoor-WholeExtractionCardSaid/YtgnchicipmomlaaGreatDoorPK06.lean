/- strings.Builder of the call's own, as a list of bytes (no WriteRune). -/
import Derived.Ground.NamesProg
import Derived.Shelf.Strings.Builder1
import Derived.Test.YtgnchicipmomlaaGreatDoorProg
import Derived.Test.YtgnchicipmomlaaGreatDoorPK01
import Derived.Lib.Builder
import Derived.Lib.SmallJoins
namespace Go.Proofs
open Go.Shelf
def Tryz.laysBt_ren : Go.Shelf.Ren := ⟨fun | 166 => 105 | 167 => 106 | 169 => 108 | 240 => 127 | 276 => 151 | n => n, fun | 0 => 0 | 3 => 3 | 4 => 4 | 5 => 5 | 9 => 9 | 37 => 180 | 70 => 183 | 72 => 185 | 75 => 187 | 80 => 192 | 127 => 211 | 164 => 241 | n => n, fun | n => n⟩
theorem Tryz.laysWSt : Go.Proofs.Lays.n166 Tryz.prog Tryz.laysBt_ren := {
  mixed := by kernel_rfl
  f166 := Tryz.func105.trans (congrArg some (by kernel_rfl))
  f240 := Tryz.func127.trans (congrArg some (by kernel_rfl))
  f276 := Tryz.func151.trans (congrArg some (by kernel_rfl))
  t0 := Tryz.underlying0
  a0 := Tryz.isAgg0
  z0 := Tryz.sizeOf0
  v0 := Tryz.zeroValue0
  t3 := Tryz.underlying3
  a3 := Tryz.isAgg3
  z3 := Tryz.sizeOf3
  v3 := Tryz.zeroValue3
  t4 := Tryz.underlying4
  a4 := Tryz.isAgg4
  z4 := Tryz.sizeOf4
  v4 := Tryz.zeroValue4
  t9 := Tryz.underlying9
  a9 := Tryz.isAgg9
  z9 := Tryz.sizeOf9
  v9 := Tryz.zeroValue9
  t20 := Tryz.underlying20
  a20 := Tryz.isAgg20
  z20 := Tryz.sizeOf20
  v20 := Tryz.zeroValue20
  t37 := Tryz.underlying180
  a37 := Tryz.isAgg180
  z37 := Tryz.sizeOf180
  v37 := Tryz.zeroValue180
  t70 := Tryz.underlying183
  a70 := Tryz.isAgg183
  z70 := Tryz.sizeOf183
  v70 := Tryz.zeroValue183
  t72 := Tryz.underlying185
  a72 := Tryz.isAgg185
  z72 := Tryz.sizeOf185
  v72 := Tryz.zeroValue185
  t75 := Tryz.underlying187
  a75 := Tryz.isAgg187
  z75 := Tryz.sizeOf187
  v75 := Tryz.zeroValue187
  t164 := Tryz.underlying241
  a164 := Tryz.isAgg241
  z164 := Tryz.sizeOf241
  v164 := Tryz.zeroValue241
}
theorem Tryz.laysBSt : Go.Proofs.Lays.n169 Tryz.prog Tryz.laysBt_ren := {
  mixed := by kernel_rfl
  f169 := Tryz.func108.trans (congrArg some (by kernel_rfl))
  t0 := Tryz.underlying0
  a0 := Tryz.isAgg0
  z0 := Tryz.sizeOf0
  v0 := Tryz.zeroValue0
  t3 := Tryz.underlying3
  a3 := Tryz.isAgg3
  z3 := Tryz.sizeOf3
  v3 := Tryz.zeroValue3
  t9 := Tryz.underlying9
  a9 := Tryz.isAgg9
  z9 := Tryz.sizeOf9
  v9 := Tryz.zeroValue9
  t37 := Tryz.underlying180
  a37 := Tryz.isAgg180
  z37 := Tryz.sizeOf180
  v37 := Tryz.zeroValue180
  t70 := Tryz.underlying183
  a70 := Tryz.isAgg183
  z70 := Tryz.sizeOf183
  v70 := Tryz.zeroValue183
  t72 := Tryz.underlying185
  a72 := Tryz.isAgg185
  z72 := Tryz.sizeOf185
  v72 := Tryz.zeroValue185
  t127 := Tryz.underlying211
  a127 := Tryz.isAgg211
  z127 := Tryz.sizeOf211
  v127 := Tryz.zeroValue211
}
end Go.Proofs
namespace Go.Proofs.YtgnchicipmomlaaGreatDoor
open Go.RowKit Go.Shelf Go.Sort Go.Lib
set_option maxRecDepth 100000

theorem extraBt : Builder.Extra Tryz.prog Tryz.laysBt_ren where
  sizeBuilder := by kernel_rfl
  liesBuilder := by kernel_rfl
  t5 := by kernel_rfl
  a5 := fun _ => by kernel_rfl
  z5 := fun _ => by kernel_rfl
  v5 := fun _ => by kernel_rfl
  infoByte := by kernel_rfl
  cellsByte := by kernel_rfl
  sizeByte := by kernel_rfl
  neB5 := by decide
/-- A byte of a number. -/
def byt (b : Nat) : UInt8 := UInt8.ofNat b
theorem conv1t (W : World) (b : Nat) (hb : b < 256) : (convert 180 9 (.slice (some ⟨W.heap.size, 0, none⟩) 1 1)).run Tryz.prog (W.alloc (.cells #[.int .u8 (b : Int)] 5)) = .ok (.string (str [byt b])) (W.alloc (.cells #[.int .u8 (b : Int)] 5)) :=
  conv_str (OsB.new1 W W.heap.size (Nat.le_refl _) (byt b) (n := (b : Int)) (by unfold byt; rw [UInt8.toNat_ofNat']; omega)).sl 1
/-- The builder in block b holds l; its memory was made from block B on. -/
def Bld (w : World) (B b : Nat) (l : List UInt8) : Prop := Lib.IsBuilder 185 5 B b (l.map bv) w
section
variable {w w' : World} {B b : Nat} {l : List UInt8}
theorem bstrT_any (h : Bld w B b l) (hB : B ≤ w.heap.size) :
    Calls Tryz.prog 108 #[.pointer (some ⟨b, 0, none⟩)] w fun e w' => e = .returned (.string (str l)) ∧ Below B w w' := by
  have h1 := Any.Builder_String_any Tryz.laysBSt extraBt B b l w h hB
  change Calls Tryz.prog 108 _ _ _ at h1
  exact h1
end
/-- The builder holds at most n bytes. -/
def BldN (w : World) (B b n : Nat) : Prop := ∃ l, l.length ≤ n ∧ Bld w B b l
section
variable {w w' : World} {B b n : Nat}
theorem bstrN_any (h : BldN w B b n) (hB : B ≤ w.heap.size) :
    Calls Tryz.prog 108 #[.pointer (some ⟨b, 0, none⟩)] w fun e w' => (∃ s : ByteArray, e = .returned (.string s) ∧ s.size ≤ n) ∧ Below B w w' := by
  obtain ⟨l, h1, h2⟩ := h
  refine (bstrT_any h2 hB).mono ?_
  rintro e w' ⟨he, h4⟩
  exact ⟨⟨_, he, by simpa [str, ByteArray.size] using h1⟩, h4⟩
end

/-- Blocks that are neither bytes nor builders are as they were. -/
structure FrB (w w' : World) : Prop where
  size : w.heap.size ≤ w'.heap.size
  block : ∀ k t cs, Blk w k t cs → t ≠ 5 → t ≠ 185 → Blk w' k t cs
section
variable {w w' w1 w2 : World} {B b m c : Nat} {p : Value} {A : Option Addr} {l : List UInt8}
theorem FrB.refl (w : World) : FrB w w := ⟨Nat.le_refl _, fun _ _ _ h _ _ => h⟩
theorem FrB.trans (h : FrB w w1) (k : FrB w1 w2) : FrB w w2 := ⟨Nat.le_trans h.size k.size, fun j t cs hb h1 h2 => k.block j t cs (h.block j t cs hb h1 h2) h1 h2⟩
theorem FrB.of_ext (h : Ext w w') : FrB w w' := ⟨h.size_le, fun _ _ _ hb _ _ => Blk.below hb h (Blk.lt hb)⟩
theorem FrB.ext (h : FrB w w1) (k : Ext w1 w2) : FrB w w2 := h.trans (FrB.of_ext k)
theorem FrB.set_ {t : TypeId} {cs : Array Value} (hb : Blk w b t cs) (ht : t = 185) (i : Nat) (u : Value) : FrB w (w.setCell ⟨b, i, none⟩ u) := by
  refine ⟨by simp, fun k t' cs' h h1 h2 => Blk.far h ?_ u⟩
  intro e
  have e2 : k = b := e
  subst e2
  have := h.symm.trans hb
  injection this with this
  injection this with _ h3
  exact h2 (h3.trans ht)
theorem FrB.grown (hg : w.grownBy w' (ob A)) (ho : OsB w B A m c l) : FrB w w' := by
  refine ⟨hg.size, fun k t cs h h1 h2 => Blk.grown h hg ?_⟩
  have h3 := own_blk_ne ho.own h (fun e => h1 e.symm)
  rw [ob_own] at h3
  exact fun e => h3 e.symm
theorem grown_setB (w : World) (p : Addr) (u : Value) : w.grownBy (w.setCell p u) (some p.block) :=
  ⟨rfl, rfl, rfl, by simp, fun k hk hne => Below.heap_setCell w p u k (fun e => hne (by rw [e]))⟩
/-- The builder in block b, its address field p, its bytes. -/
structure BuA (w : World) (B b : Nat) (p : Value) (A : Option Addr) (m c : Nat) (l : List UInt8) : Prop where
  ge : B ≤ b
  blk : Blk w b 185 #[p, .slice A m c]
  own : OsB w B A m c l
  ne : ob A ≠ some b
/-- A builder of at most n bytes, with the frame by types. -/
def BuN (w : World) (B b n : Nat) : Prop := ∃ p A m c l, (p = .pointer none ∨ p = .pointer (some ⟨b, 0, none⟩)) ∧ BuA w B b p A m c l ∧ m ≤ n
theorem BuA.is (h : BuA w B b p A m c l) : Lib.BuilderAt 185 5 B b p (l.map bv) w := by
  refine ⟨h.ge, .slice A m c, h.blk, ?_, ?_⟩
  · rw [List.length_map, ← h.own.len]; exact h.own.own
  · rw [ob_own]; exact h.ne
theorem BuN.bld {n : Nat} (h : BuN w B b n) : BldN w B b n := by
  obtain ⟨p, A, m, c, l, hp, h, hm⟩ := h
  have h1 := h.is
  refine ⟨l, by rw [← h.own.len]; exact hm, ?_⟩
  rcases hp with rfl | rfl
  · exact .inl h1
  · exact .inr h1
theorem BuN.new (w : World) : BuN (w.alloc (.cells #[.pointer none, .slice none 0 0] 185)) w.heap.size w.heap.size 0 :=
  ⟨_, none, 0, 0, [], .inl rfl, ⟨Nat.le_refl _, Blk.new w _ _, OsB.nil_, by simp [ob]⟩, Nat.le_refl _⟩
theorem BuN.ext {n : Nat} (h : BuN w B b n) (hE : Ext w w') : BuN w' B b n := by
  obtain ⟨p, A, m, c, l, hp, h, hm⟩ := h
  exact ⟨p, A, m, c, l, hp, ⟨h.ge, Blk.below h.blk hE (Blk.lt h.blk), h.own.ext hE, h.ne⟩, hm⟩
theorem BuN.mono {n n' : Nat} (h : BuN w B b n) (hn : n ≤ n') : BuN w B b n' := by
  obtain ⟨p, A, m, c, l, hp, h, hm⟩ := h
  exact ⟨p, A, m, c, l, hp, h, by omega⟩
theorem check_any (hp : p = .pointer none ∨ p = .pointer (some ⟨b, 0, none⟩)) (h : BuA w B b p A m c l) :
    Calls Tryz.prog 127 #[.pointer (some ⟨b, 0, none⟩)] w fun e w' => e = .returned (.tuple #[]) ∧ BuA w' B b (.pointer (some ⟨b, 0, none⟩)) A m c l ∧ Below B w w' ∧ FrB w w' := by
  have h1 := h.is
  rcases hp with rfl | rfl
  · have hc := Any.Builder_copyCheck_fresh { Tryz.laysWSt with } extraBt.toX72 b w h1.cell0 h1.shape h1.frozen0
    change Calls Tryz.prog 127 _ _ _ at hc
    refine hc.mono ?_
    rintro e w' ⟨rfl, rfl⟩
    exact ⟨rfl, ⟨h.ge, h.blk.set_ 0 _, h.own.kept (grown_setB w ⟨b, 0, none⟩ _) (.inr h.ne), h.ne⟩, (Below.refl B w).setCell (p := ⟨b, 0, none⟩) h.ge _, FrB.set_ h.blk rfl 0 _⟩
  · have hc := Any.Builder_copyCheck_used { Tryz.laysWSt with } extraBt.toX72 b w h1.cell0
    change Calls Tryz.prog 127 _ _ _ at hc
    refine hc.mono ?_
    rintro e w' ⟨rfl, rfl⟩
    exact ⟨rfl, h, Below.refl B _, FrB.refl _⟩
set_option maxHeartbeats 1600000 in
theorem wstrF_any {n : Nat} (s : ByteArray) (h : BuN w B b n) (hl : n + s.size ≤ 140737488355328) (hB : B ≤ w.heap.size) :
    Calls Tryz.prog 105 #[.pointer (some ⟨b, 0, none⟩), .string s] w fun e w' => e = .returned (.tuple #[.int .i64 s.size, .nilIface]) ∧ BuN w' B b (n + s.size) ∧ Below B w w' ∧ FrB w w' := by
  obtain ⟨p, A, m, c, l, hp, h, hm⟩ := h
  go_enter Tryz.func105, Tryz.ntmps105
  go_wp2_with (first
    | (go_at_call 127; refine Hid.out ?_))
  refine Hid.mk_ ((check_any hp h).mono ?_)
  rintro e w1 ⟨rfl, h1, hb1, hf1⟩
  have k1 := h1.blk.cell 1
  simp at k1
  go_wp2_with (first
    | (at_builtin; refine Hid.out ?_))
  refine Hid.mk_ ?_
  refine appS rfl _ _ rfl h1.own rfl s rfl (by omega) (by have := hb1.size; omega) ?_
  intro A' m' c' w2 ho2 hg2 hn2
  have hne2 : ob A' ≠ some b := fun e => by
    rcases hn2 b e with h3 | h3
    · have := h1.blk.lt; omega
    · exact h1.ne h3
  have hb2 := h1.blk.grown hg2 (fun e => h1.ne e.symm)
  have k2 := hb2.cell 1
  have f2 := hb2.frozen 1
  simp at k2
  go_wp2
  go_ret2
  have hfr : FrB w (w2.setCell ⟨b, 1, none⟩ (.slice A' m' c')) := (hf1.trans (FrB.grown hg2 h1.own)).trans (FrB.set_ hb2 rfl 1 _)
  have hm' := ho2.len
  rw [List.length_append, ← h1.own.len] at hm'
  have hsz : s.data.toList.length = s.size := Array.length_toList
  refine ⟨rfl, ⟨_, A', m', c', _, .inr rfl, ⟨h.ge, hb2.set_ 1 _, ho2.kept (grown_setB w2 ⟨b, 1, none⟩ _) (.inr hne2), hne2⟩, by omega⟩, ?_, hfr⟩
  exact ((hb1.grown hg2 (Nat.le_trans hB hb1.size) (fun k hk => h1.own.ge k hk))).setCell (p := ⟨b, 1, none⟩) h.ge _
set_option maxHeartbeats 1600000 in
theorem wbyteF_any {n : Nat} (z : Nat) (hz : z < 256) (h : BuN w B b n) (hl : n + 1 ≤ 140737488355328) (hB : B ≤ w.heap.size) :
    Calls Tryz.prog 106 #[.pointer (some ⟨b, 0, none⟩), .int .u8 (z : Int)] w fun e w' => e = .returned .nilIface ∧ BuN w' B b (n + 1) ∧ Below B w w' ∧ FrB w w' := by
  obtain ⟨p, A, m, c, l, hp, h, hm⟩ := h
  go_enter Tryz.func106, Tryz.ntmps106
  go_wp2_with (first
    | (go_at_call 127; refine Hid.out ?_))
  refine Hid.mk_ ((check_any hp h).mono ?_)
  rintro e w1 ⟨rfl, h1, hb1, hf1⟩
  have k1 := h1.blk.cell 1
  simp at k1
  have hzz := Lib.hid (show (z : Int) = ((byt z).toNat : Nat) by unfold byt; rw [UInt8.toNat_ofNat', Nat.mod_eq_of_lt hz])
  go_wp2_with (first
    | (at_builtin; refine Hid.out ?_))
  refine Hid.mk_ ?_
  refine appB1 rfl _ _ rfl h1.own rfl (byt z) hzz.out rfl (by omega) (by have := hb1.size; omega) ?_
  intro A' m' c' w2 ho2 hg2 hn2
  have hne2 : ob A' ≠ some b := fun e => by
    rcases hn2 b e with h3 | h3
    · have := h1.blk.lt; omega
    · exact h1.ne h3
  have hb2 := h1.blk.grown hg2 (fun e => h1.ne e.symm)
  have k2 := hb2.cell 1
  have f2 := hb2.frozen 1
  simp at k2
  go_wp2
  go_ret
  have hfr : FrB w (w2.setCell ⟨b, 1, none⟩ (.slice A' m' c')) := (hf1.trans (FrB.grown hg2 h1.own)).trans (FrB.set_ hb2 rfl 1 _)
  have hm' := ho2.len
  rw [List.length_append, ← h1.own.len] at hm'
  simp at hm'
  refine ⟨rfl, ⟨_, A', m', c', _, .inr rfl, ⟨h.ge, hb2.set_ 1 _, ho2.kept (grown_setB w2 ⟨b, 1, none⟩ _) (.inr hne2), hne2⟩, by omega⟩, ?_, hfr⟩
  exact ((hb1.grown hg2 (Nat.le_trans hB hb1.size) (fun k hk => h1.own.ge k hk))).setCell (p := ⟨b, 1, none⟩) h.ge _
end

end Go.Proofs.YtgnchicipmomlaaGreatDoor
