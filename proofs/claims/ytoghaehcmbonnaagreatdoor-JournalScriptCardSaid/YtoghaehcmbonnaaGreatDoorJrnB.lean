/- journal's add. -/
import Derived.Test.YtoghaehcmbonnaaGreatDoorJrnJ
import Derived.Deep.Cut
import Derived.Deep.DrawnRows
namespace Go.Proofs.YtoghaehcmbonnaaGreatDoor
open Go.RowKit
set_option maxRecDepth 100000

attribute [local go_sem] ext_refl_t ext_alloc_t ext_drew_t ext_drewN_t ext_alloc2_t ext_alloc3_t ext_alloc4_t ext_alloc5_t ext_alloc6_t ext_alloc7_t ext_alloc8_t ext_alloc1d_t ext_alloc2d_t ext_alloc3d_t ext_alloc4d_t
/-- What stands ahead of a sealed encoding of m bytes. -/
def frameH (m : Nat) : List UInt8 := eight8 m ++ ([61] ++ (eight8 m ++ [10]))
theorem frameH_length (m : Nat) : (frameH m).length = 18 := by simp [frameH, eight8_length]
theorem blk_new1 (X : World) (a : Nat) (t : TypeId) (cs : Array Value) (ha : a = X.heap.size) : Blk (X.alloc (.cells cs t)) a t cs := by
  subst ha
  exact Blk.new X t cs
theorem slc_evb {W : World} {a : Nat} (kd : Int) (who nam id txt : ByteArray) (xa xb xt : Int) (h : Blk W a 46 #[.int .i64 kd, .string who, .string nam, .string id, .string txt, .int .i64 xa, .int .i64 xb, .int .i64 xt]) :
    SlC evC 8 W (some ⟨a, 0, none⟩) 1 [⟨kd, who, nam, id, txt, xa, xb, xt⟩] := by
  refine ⟨⟨rfl, fun _ => ⟨_, rfl, h.lt, fun q u hu => ?_⟩⟩, evC_len, rfl, by omega⟩
  rw [Addr.add_lit, Nat.zero_add, h.cell q, ← hu]
  simp [evC]
theorem slc_inb {W : World} {a : Nat} (n : Nat) (h : Blk W a 3 #[.int .i64 (n : Int)]) : SlC intC 1 W (some ⟨a, 0, none⟩) 1 [(n : Int)] := by
  refine ⟨⟨rfl, fun _ => ⟨_, rfl, h.lt, fun q u hu => ?_⟩⟩, intC_len, rfl, by omega⟩
  rw [Addr.add_lit, Nat.zero_add, h.cell q, ← hu]
  simp [intC]
theorem exr1 {w w1 : World} (n : Nat) (o : Obj) (h : Ext w w1) : Ext w ((w1.drewN n).alloc o) = True := eq_true ((h.drewN n).alloc o)
theorem exr2 {w w1 : World} (n : Nat) (o : Obj) (h : Ext w w1) : Ext w ((w1.drewN n).alloc o).drew = True := eq_true ((h.drewN n).alloc o).drew
theorem exr3 {w w1 : World} (n : Nat) (o : Obj) (h : Ext w w1) : Ext w ((w1.alloc o).drewN n) = True := eq_true ((h.alloc o).drewN n)
theorem exr4 {w w1 : World} (n : Nat) (o o' : Obj) (h : Ext w w1) : Ext w (((w1.alloc o).drewN n).alloc o') = True := eq_true (((h.alloc o).drewN n).alloc o')
theorem exr5 {w w1 : World} (n : Nat) (o o' : Obj) (h : Ext w w1) : Ext w (((w1.alloc o).drewN n).alloc o').drew = True := eq_true (((h.alloc o).drewN n).alloc o').drew
theorem exr6 {w w1 : World} (n : Nat) (o o' : Obj) (h : Ext w w1) : Ext w (((w1.drewN n).alloc o).alloc o') = True := eq_true (((h.drewN n).alloc o).alloc o')
theorem exr7 {w w1 : World} (n : Nat) (o o' : Obj) (h : Ext w w1) : Ext w (((w1.drewN n).alloc o).alloc o').drew = True := eq_true (((h.drewN n).alloc o).alloc o').drew
attribute [local go_sem ↓] Go.wp_at_zero Go.wp_at_succ
attribute [local go_sem] exr1 exr2 exr3 exr4 exr5 exr6 exr7
section
variable {w w4 w30 : World} {j : Nat} {S S4 : Nat → Prop} {l' : List Ev} {es' : List Int} {kn : Nat} {ks' : List Nat} {bs6 : List UInt8} {v0 v4 : Value} {A10 A30 A7 : Option Addr} {m10 c10 m30 c30 m7 c7 : Nat} {G6 : Option Nat}
theorem jadd_fin (h30 : JrX w30 j S4 (jR v0 v4 (.int .u64 (kn : Int)) (.slice A7 m7 c7)) A10 m10 c10 A30 m30 c30 A7 m7 c7 G6 l' es' ks' bs6) (hS : ∀ g, S4 g → S g ∨ w.heap.size ≤ g) :
    Jr ((w30.setCell ⟨j, 0, none⟩ (.slice A10 m10 c10)).setCell ⟨j, 4, none⟩ (.slice A30 m30 c30)) j (fun g => S g ∨ w.heap.size ≤ g) l' es' kn ks' bs6 := by
  have h31 := h30.set_ 0 (by omega) rfl (.slice A10 m10 c10)
  rw [jR0] at h31
  have h32 := h31.set_ 4 (by omega) rfl (.slice A30 m30 c30)
  rw [jR4] at h32
  exact ⟨A10, m10, c10, A30, m30, c30, A7, m7, c7, G6, h32.mono hS⟩
theorem jadd_keep (hE : Ext w w4) (hK : KeepS S4 w4 w30) (hj : S4 j) (hS : ∀ g, S4 g → S g ∨ w.heap.size ≤ g) (a b : Value) : KeepS S w ((w30.setCell ⟨j, 0, none⟩ a).setCell ⟨j, 4, none⟩ b) := by
  have hK31 := hK.trans (KeepS.setCell w30 j 0 a) fun g _ e => by rw [e]; exact hj
  have hK32 := hK31.trans (KeepS.setCell (w30.setCell ⟨j, 0, none⟩ a) j 4 b) fun g _ e => by rw [e]; exact hj
  exact (KeepS.of_ext S hE).trans hK32 fun g hg e => (hS g e).resolve_right (Nat.not_le.2 hg)
end
section
variable {w : World} {j : Nat} {S : Nat → Prop} {l : List Ev} {es : List Int} {k : Nat} {ks : List Nat} {bs b : List UInt8} {A : Option Addr} {m : Nat}
set_option maxHeartbeats 3200000 in
theorem jadd_any (c : Nat) (x : Ev) (hJ : Jr w j S l es k ks bs) (hk : k < 18446744073709551616) (hs : SlB w A m b) (hm : m < 100000000) (hb1 : 1 ≤ bs.length) (hb2 : bs.length ≤ 1000000000000) (hl : l.length ≤ 1000000) (hes : es.length ≤ 1000000) (hks : ks.length ≤ 1000000) (hT : PT w) :
    Calls Tryz.prog 24 #[.pointer (some ⟨j, 0, none⟩), evV x, .slice A m c] w fun e w' => e = .returned (.tuple #[]) ∧
      Jr w' j (fun g => S g ∨ w.heap.size ≤ g) (l ++ [x]) (es ++ [((bs ++ (frameH m ++ sealL k b)).length : Int)]) (sealN k b) (ks ++ [k]) (bs ++ (frameH m ++ sealL k b)) ∧ KeepS S w w' := by
  obtain ⟨Ae, me, ce, An, mn, cn, Ak, mk, ck, G, hX⟩ := hJ
  have x5 : w.cell? ⟨j, 5, none⟩ = some (.int .u64 (k : Int)) := hX.buf.isb.rest 5 (by omega)
  have y5 := laters x5
  have Y5 := Lib.hid y5
  obtain ⟨kd, who, nam, id, txt, xa, xb, xt⟩ := x
  have hjl := hX.buf.lt
  obtain ⟨S0, h0, hS0, hS0l⟩ := hX.tight
  have hm2 : m ≤ 140737488351232 := by omega
  clear x5 y5
  unfold evV
  go_enter Tryz.func24, Tryz.ntmps24
  have hE1 : Ext w (w.alloc (Obj.cells #[.int .i64 kd, .string who, .string nam, .string id, .string txt, .int .i64 xa, .int .i64 xb, .int .i64 xt] 46)) := (Ext.refl w).alloc _
  have hbx := Blk.new w 46 #[.int .i64 kd, .string who, .string nam, .string id, .string txt, .int .i64 xa, .int .i64 xb, .int .i64 xt]
  have z5 := Y5.out _ hE1
  go_wp2_with (first
    | (go_at_call 39; refine Hid.out ?_))
  refine Hid.mk_ ((seal_any k c hk (hs.ext hE1) hm2).mono ?_)
  rintro e w2 ⟨A2, m2, c2, rfl, ho2, hE2⟩
  have hE02 := hE1.trans hE2
  have hbx2 := hbx.below hE2 hbx.lt
  have h2 := h0.ext hE02
  have hA2 : ∀ g, ob A2 = some g → w.heap.size < g := fun g hg => by have := ho2.ge g hg; simp at this; omega
  have hT2 : PT w2 := hT.ext hE02
  obtain ⟨s, hsd⟩ : ∃ s, s = str (eight8 m) := ⟨_, rfl⟩
  have hs8 : s.size = 8 := by rw [hsd, str_size, eight8_length]
  have q1 : s.size + ((⟨#[61]⟩ : ByteArray)).size ≤ 9223372036854775807 := by rw [hs8]; show 8 + 1 ≤ _; omega
  have q1b : s.size + 1 ≤ 9223372036854775807 := by rw [hs8]; omega
  have q1c : ¬ 9223372036854775807 < s.size + 1 := by rw [hs8]; omega
  have q1d : ¬ 9223372036854775807 < s.size + ((⟨#[61]⟩ : ByteArray)).size := by rw [hs8]; show ¬ _ < 8 + 1; omega
  have q2 : (s ++ (⟨#[61]⟩ : ByteArray)).size + s.size ≤ 9223372036854775807 := by rw [ByteArray.size_append, hs8]; show 8 + 1 + 8 ≤ _; omega
  have q3 : (s ++ (⟨#[61]⟩ : ByteArray) ++ s).size + ((⟨#[10]⟩ : ByteArray)).size ≤ 9223372036854775807 := by rw [ByteArray.size_append, ByteArray.size_append, hs8]; show 8 + 1 + 8 + 1 ≤ _; omega
  have q2b : s.size + 1 + s.size ≤ 9223372036854775807 := by rw [hs8]; omega
  have q2c : ¬ 9223372036854775807 < s.size + 1 + s.size := by rw [hs8]; omega
  have q2d : ¬ 9223372036854775807 < (s ++ (⟨#[61]⟩ : ByteArray)).size + s.size := by rw [ByteArray.size_append, hs8]; show ¬ _ < 8 + 1 + 8; omega
  have q3b : s.size + 1 + s.size + 1 ≤ 9223372036854775807 := by rw [hs8]; omega
  have q3c : ¬ 9223372036854775807 < s.size + 1 + s.size + 1 := by rw [hs8]; omega
  have q3d : ¬ 9223372036854775807 < (s ++ (⟨#[61]⟩ : ByteArray) ++ s).size + ((⟨#[10]⟩ : ByteArray)).size := by rw [ByteArray.size_append, ByteArray.size_append, hs8]; show ¬ _ < 8 + 1 + 8 + 1; omega
  have hTs : bys (s ++ (⟨#[61]⟩ : ByteArray) ++ s ++ (⟨#[10]⟩ : ByteArray)) = frameH m := by
    rw [bys_appJ, bys_appJ, bys_appJ, hsd, bys_str]
    unfold frameH
    simp [bys]
  have hTz : (s ++ (⟨#[61]⟩ : ByteArray) ++ s ++ (⟨#[10]⟩ : ByteArray)).size = 18 := by rw [ByteArray.size_append, ByteArray.size_append, ByteArray.size_append, hs8]; rfl
  have HSD := Lib.hid hsd
  have HTS := Lib.hid hTs
  have HTZ := Lib.hid hTz
  clear hsd hs8 hTs hTz
  go_wp2
  go_region_held3 (fun _ => True) (first | trivial) (first
    | (go_at_call 40; refine (jeight_any m hm (hT2.ext (Ext.refl w2).drew)).mono ?_; rintro e w3 ⟨rfl, hE3⟩; have hE23 := (Ext.refl w2).drew.trans hE3; rw [← HSD.out])
    | (go_at_call 40; refine (jeight_any m hm (hT2.ext hE23)).mono ?_; rintro e w4 ⟨rfl, hE4⟩; have hE24 := hE23.trans hE4; rw [← HSD.out]; have h4 := h2.ext hE24)
    | (go_at_call 34; refine (bwrites_any _ h4.buf hb1 (by rw [HTZ.out]; omega) (by rw [HTZ.out]; omega)).mono ?_; rintro e w5 ⟨rfl, hW5⟩; rw [HTS.out] at hW5)
    | fail)
  clear q1 q1b q1c q1d q2 q2b q2c q2d q3 q3b q3c q3d HSD HTS HTZ
  have hz4 : w.heap.size ≤ w4.heap.size := Nat.le_trans hE02.size_le hE24.size_le
  have HE04 : Hid (Ext w w4) := hE02.trans hE24
  have HS0 : Hid (∀ g, S0 g → S g) := hS0
  obtain ⟨S4, hS4⟩ : ∃ S4 : Nat → Prop, S4 = fun g => S0 g ∨ w4.heap.size ≤ g := ⟨_, rfl⟩
  have hn4 : ∀ W : World, w4.heap.size ≤ W.heap.size → ∀ g, W.heap.size ≤ g → S4 g := fun W hW g hg => by rw [hS4]; exact .inr (by omega)
  have hA4 : ∀ g, ob A2 = some g → ¬ S4 g := fun g hg => by
    have h1 := hA2 g hg
    have h3 := (ho2.ext hE24).lt g hg
    rw [hS4]
    rintro (h5 | h5)
    · have := hS0l g h5; omega
    · omega
  have hx4 : ¬ S4 w.heap.size := by
    have h3 : w.heap.size < w4.heap.size := (hbx2.below hE24 hbx2.lt).lt
    rw [hS4]
    rintro (h5 | h5)
    · have := hS0l _ h5; omega
    · omega
  have h4s : JrX w4 j S4 _ Ae me ce An mn cn Ak mk ck G l es ks bs := h4.mono fun g hg => by rw [hS4]; exact .inl hg
  have hs4 := ho2.sl.ext hE24
  have hbx4 := hbx2.below hE24 hbx2.lt
  obtain ⟨G5, h5, hK5, -, -⟩ := h4s.wrote hW5 (hn4 w4 (Nat.le_refl _))
  have hs5 : SlB w5 A2 m2 (sealL k b) := hK5.slb hs4 hA4
  have hm8 : m2 = m + 8 := by
    have h1 := ho2.len
    have h2 := hs.len
    have h3 := eightL_len (sealN k b)
    unfold sealL at h1
    rw [List.length_append, h3] at h1
    omega
  have hl5 : (bs ++ frameH m).length = bs.length + 18 := by rw [List.length_append, frameH_length]
  have hAj : ob A2 ≠ some j := fun e => by have := hA2 _ e; omega
  have hW6c := bwrite_any c2 h5.buf (by omega) hs5 hAj (by omega) (by omega)
  have HM8 := Lib.hid hm8
  have HL5 := Lib.hid hl5
  clear hm8 hl5
  go_wp2_with (first
    | (go_at_call 41; refine Hid.out ?_))
  refine Hid.mk_ ((hW6c).mono ?_)
  rintro e w6 ⟨rfl, hW6⟩
  obtain ⟨G6, h6, hK6, -, -⟩ := h5.wrote hW6 (hn4 w5 hK5.size)
  have hK46 : KeepS S4 w4 w6 := hK5.trans hK6 fun _ _ e => e
  have y6 := laters (h6.c 6 (by omega) rfl)
  have y5 := laters (h6.c 5 (by omega) rfl)
  have hEk : Ext w6 (w6.alloc (Obj.cells #[.int .u64 (k : Int)] 60)).drew := ((Ext.refl _).alloc _).drew
  have h6e := h6.ext hEk
  have hnk : SlC keyC 1 (w6.alloc (Obj.cells #[.int .u64 (k : Int)] 60)).drew (some ⟨w6.heap.size, 0, none⟩) 1 [k] := (SlC.new_ (cs := keyC) w6 [k] keyC_len (by simp) _ rfl (0, 0) 1 rfl 60).ext (Ext.refl _).drew
  have hkb : (mk + 1) * 8 ≤ 140737488355328 := by have := h6.ky.len; omega
  have hz6 : w4.heap.size ≤ w6.heap.size := hK46.size
  have hK6e : KeepS S4 w4 (w6.alloc (Obj.cells #[.int .u64 (k : Int)] 60)).drew := hK46.ext hEk
  clear hW6c
  go_wp2
  go_cut [] from 7 (fun wx => ∃ A7 m7 c7, JrX wx j S4 (jR (.slice Ae me ce) (.slice An mn cn) (.int .u64 (k : Int)) (.slice A7 m7 c7)) Ae me ce An mn cn A7 m7 c7 G6 l es (ks ++ [k]) (bs ++ frameH m ++ sealL k b) ∧ KeepS S4 w4 wx)
  case first =>
    first
    | (go_region_law (first
        | (refine step_appF einfo_ky rfl _ _ rfl h6e.ky rfl hnk rfl (by decide) hkb (Nat.zero_le _) ?_; intro A7 m7 c7 w7 ho7 hg7 hN7; obtain ⟨h7, hK7⟩ := h6e.growK hg7 ho7 hN7 (hn4 _ hK6e.size); have d6 := h7.c 6 (by omega) rfl; have f6 := h7.f 6)
        | fail))
    | fail
    all_goals
      go_wp2
      go_meet
      case rel => 
        have h8 := h7.set_ 6 (by omega) rfl (.slice A7 m7 c7)
        rw [jR6] at h8
        exact ⟨A7, m7, c7, h8, (hK6e.trans hK7 fun _ _ e => e).trans (KeepS.setCell w7 j 6 _) fun g _ e => by rw [e]; exact h7.sj⟩
  case rest =>
    obtain ⟨A7, m7, c7, h7, hK7⟩ := hcut
    have hs7 : SlB wc A2 m2 (sealL k b) := hK7.slb hs4 hA4
    have hlast := last_any c2 hs7 (by have := HM8.out; omega) ho2.cap
    have hof : ofEight ((sealL k b).drop (m2 - 8)) = sealN k b := by
      have h1 := HM8.out
      have h2 := hs.len
      unfold sealL
      rw [List.drop_left' (by omega), ofEight_eight (seal_lt hk b)]
    rw [hof] at hlast
    clear hof
    go_wp2_with (first
      | (go_at_call 42; refine Hid.out ?_))
    refine Hid.mk_ ((hlast).mono ?_)
    rintro e w8 ⟨rfl, hE8⟩
    have h8 := h7.ext hE8
    have d5 := h8.c 5 (by omega) rfl
    have f5 := h8.f 5
    have h9 := h8.set_ 5 (by omega) rfl (.int .u64 (sealN k b : Nat))
    rw [jR5] at h9
    have hK9 : KeepS S4 w4 (w8.setCell ⟨j, 5, none⟩ (.int .u64 (sealN k b : Nat))) := (hK7.ext hE8).trans (KeepS.setCell w8 j 5 _) fun g _ e => by rw [e]; exact h7.sj
    obtain ⟨w9, hw9⟩ : ∃ w9, w9 = w8.setCell ⟨j, 5, none⟩ (.int .u64 (sealN k b : Nat)) := ⟨_, rfl⟩
    go_wp2
    rw [← hw9] at h9 hK9 ⊢
    clear hw9 d5 f5 h8 hE8 hlast hs7 h7 hK7 y5 y6
    have hb9 : Blk w9 w.heap.size 46 #[.int .i64 kd, .string who, .string nam, .string id, .string txt, .int .i64 xa, .int .i64 xb, .int .i64 xt] := (hK9.block _ hbx4.lt hx4).trans hbx4
    obtain ⟨bx, hbx⟩ : ∃ bx, bx = w.heap.size := ⟨_, rfl⟩
    rw [← hbx] at hb9 ⊢
    have HBX := Lib.hid hbx
    clear hbx
    have z0 := laters (h9.c 0 (by omega) rfl)
    have z4 := laters (h9.c 4 (by omega) rfl)
    have x0 := laters (hb9.cell 0 : w9.cell? ⟨bx, 0, none⟩ = some (.int .i64 kd))
    have x1 := laters (hb9.cell 1 : w9.cell? ⟨bx, 1, none⟩ = some (.string who))
    have x2 := laters (hb9.cell 2 : w9.cell? ⟨bx, 2, none⟩ = some (.string nam))
    have x3 := laters (hb9.cell 3 : w9.cell? ⟨bx, 3, none⟩ = some (.string id))
    have x4 := laters (hb9.cell 4 : w9.cell? ⟨bx, 4, none⟩ = some (.string txt))
    have x5 := laters (hb9.cell 5 : w9.cell? ⟨bx, 5, none⟩ = some (.int .i64 xa))
    have x6 := laters (hb9.cell 6 : w9.cell? ⟨bx, 6, none⟩ = some (.int .i64 xb))
    have x7 := laters (hb9.cell 7 : w9.cell? ⟨bx, 7, none⟩ = some (.int .i64 xt))
    obtain ⟨bs6, hbs6⟩ : ∃ bs6, bs6 = bs ++ frameH m ++ sealL k b := ⟨_, rfl⟩
    rw [← hbs6] at h9
    obtain ⟨Ln, hLn⟩ : ∃ Ln : Nat, Ln = bs6.length := ⟨_, rfl⟩
    have HLN := Lib.hid hLn
    have HBS := Lib.hid hbs6
    obtain ⟨kn, hkn⟩ : ∃ kn, kn = sealN k b := ⟨_, rfl⟩
    rw [← hkn] at h9 ⊢
    have HKN := Lib.hid hkn
    have hlenA : ∀ (W : World) (R : Nat → Option Value), LibA.IsBuffer 63 R 5 0 j 1 (bs6.map bv) W → Calls Tryz.prog 23 #[.pointer (some ⟨j, 1, none⟩)] W fun e w' => e = .returned (.int .i64 (Ln : Int)) ∧ ∃ q, w' = W.drewN q := fun W R hI => by
      have h := Any.Buffer_Len_at Tryz.laysBLen 63 R 0 j 1 _ W hI
      rw [List.length_map, ← hLn] at h
      exact h
    clear hbs6 hLn hkn
    have heb : (me + 1) * 96 ≤ 140737488355328 := by have := h9.ev.len; omega
    have hnb : (mn + 1) * 8 ≤ 140737488355328 := by have := h9.en.len; omega
    have HN4 := Lib.hid hn4
    have HS4 : Hid (∀ g, S4 g → S g ∨ w.heap.size ≤ g) := fun g hg => by
      rw [hS4] at hg
      rcases hg with hg | hg
      · exact .inl (HS0.out g hg)
      · exact .inr (by omega)
    have hEN : Ext w9 (w9.drew.alloc (Obj.cells #[.int .i64 kd, .string who, .string nam, .string id, .string txt, .int .i64 xa, .int .i64 xb, .int .i64 xt] 46)) := (Ext.refl w9).drew.alloc _
    have hnE := slc_evb kd who nam id txt xa xb xt (Blk.new w9.drew 46 #[.int .i64 kd, .string who, .string nam, .string id, .string txt, .int .i64 xa, .int .i64 xb, .int .i64 xt])
    have h9N := h9.ext hEN
    have hK9N := hK9.ext hEN
    clear h6 h6e h5 h4s h4 h2 h0 hnk hkb hEk hK6e hK46 hK5 hK6 hs5 hs4 hA4 hAj hA2 hT2 hT z5 hE1 hbx hbx2 hW5 hW6 hn4 hK9 hS4 hEN hS0 hS0l hX h9
    go_wp2
    go_region_law
      (first
        | (refine step_appF einfo_in rfl _ _ rfl h10I.en rfl hnI rfl (by decide) hnb (Nat.zero_le _) ?_
           intro A30 m30 c30 w30 ho30 hg30 hN30
           obtain ⟨h30, hK30'⟩ := h10I.growN hg30 ho30 hN30 (HN4.out _ hK10I.size)
           have hK30 := hK10I.trans hK30' fun _ _ e => e
           have d0 := h30.c 0 (by omega) rfl
           have d4 := h30.c 4 (by omega) rfl
           have f0 := h30.f 0
           have f4 := h30.f 4)
        | (refine step_appF einfo_ev rfl _ _ rfl h9N.ev rfl hnE rfl (by decide) heb (Nat.zero_le _) ?_
           intro A10 m10 c10 w10 ho10 hg10 hN10
           obtain ⟨h10, hK10'⟩ := h9N.growE hg10 ho10 hN10 (HN4.out _ hK9N.size)
           have hK10 := hK9N.trans hK10' fun _ _ e => e
           have z4a := laters (h10.c 4 (by omega) rfl))
        | (go_simp
           go_at_call 23
           refine (hlenA _ _ h10.buf.isb).mono ?_
           rintro e w11 ⟨rfl, q11, rfl⟩
           have hnI := slc_inb Ln (Blk.new (w10.drewN q11) 3 #[.int .i64 (Ln : Int)])
           have h10I := h10.ext (((Ext.refl w10).drewN q11).alloc (Obj.cells #[.int .i64 (Ln : Int)] 3))
           have hK10I := hK10.ext (((Ext.refl w10).drewN q11).alloc (Obj.cells #[.int .i64 (Ln : Int)] 3)))
        | fail)
    all_goals
      have H33 := Lib.hid (jadd_fin (w := w) h30 HS4.out)
      have HK33 := Lib.hid (jadd_keep HE04.out hK30 h30.sj HS4.out (.slice A10 m10 c10) (.slice A30 m30 c30))
      clear h30 hK30 hK30' h10 h10I hK10 hK10I hK10' h9N hK9N hnE hnI d0 d4 f0 f4 z4a
      go_wp2
      go_end0
      have h33 := H33.out
      rw [HLN.out, HBS.out, HKN.out, List.append_assoc] at h33
      exact ⟨rfl, h33, HK33.out⟩
end
end Go.Proofs.YtoghaehcmbonnaaGreatDoor
