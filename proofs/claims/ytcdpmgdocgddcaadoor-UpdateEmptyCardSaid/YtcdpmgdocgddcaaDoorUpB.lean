/- The example of the laws of chapter 47. -/
import Derived.Test.YtcdpmgdocgddcaaDoorUpA
import Derived.Test.YtcdpmgdocgddcaaDoorUpZ
namespace Go.Proofs.YtcdpmgdocgddcaaDoor
open Go.RowKit
set_option maxRecDepth 100000
attribute [local go_sem] ext_refl_t ext_alloc_t ext_drew_t ext_drewN_t ext_alloc2_t ext_alloc3_t ext_alloc4_t ext_alloc5_t ext_alloc6_t ext_alloc7_t ext_alloc8_t ext_alloc1d_t ext_alloc2d_t ext_alloc3d_t ext_alloc4d_t
def awX : Cp := ⟨⟨#[100, 101]⟩, [], [], [⟨⟨#[111, 108, 100]⟩, ⟨#[79, 112, 101, 110, 32, 116, 104, 101, 32, 111, 108, 100, 32, 102, 105, 108, 101]⟩, ⟨#[120]⟩, [], [], 0, []⟩]⟩
def awL : List Ep := [⟨⟨#[110, 101, 119]⟩, ⟨#[79, 112, 101, 110, 32, 116, 104, 101, 32, 111, 108, 100, 32, 102, 105, 108, 101, 115]⟩, ⟨#[]⟩, [], [], 0, []⟩]
theorem aw_k : (updP awX awL).2.2 = 0 := by kernel_rfl
theorem aw_t : (updP awX awL).1.es.map (fun e => (e.tgt, e.st)) = [(⟨#[120]⟩, 1)] := by kernel_rfl
theorem aw_r : (updP awX awL).2.1.reused.length = 1 := by kernel_rfl
theorem updP_three (c : Cp) (xs : List Ep) : updP c xs = (cp0, rep0, 1) ∨ updP c xs = (cp0, rep0, 6) ∨ (properP c xs = true ∧ validC (c.w (updU c.es xs).es) = true ∧ updP c xs = (c.w (updU c.es xs).es, (updU c.es xs).rp, 0)) := by
  unfold updP
  by_cases h1 : properP c xs = true
  · rw [if_pos h1]
    by_cases h2 : validC (c.w (updU c.es xs).es) = true
    · rw [if_pos h2]; exact .inr (.inr ⟨h1, h2, rfl⟩)
    · rw [if_neg h2]; exact .inr (.inl rfl)
  · rw [if_neg h1]; exact .inl rfl
theorem proper_nt {c : Cp} {xs : List Ep} (h : properP c xs = true) : ∀ x ∈ xs, noTake x = true := by
  unfold properP at h
  rw [Bool.and_eq_true] at h
  exact List.all_eq_true.1 h.1
theorem proper_fok {c : Cp} {xs : List Ep} (h : properP c xs = true) : ∀ x ∈ xs, (x.fd.map Prod.fst).Nodup := fun x hx => by
  have h1 := (esOk_iff.1 (validC_parts.1 (proper_parts h).2).2.2).1 x hx
  exact fdOk_nodup (validE_fd h1)
theorem upd_len (c xs : List Ep) : xs.length ≤ (updU c xs).es.length := by
  obtain ⟨ys, zs, tk, hD⟩ := updU_D c xs
  rw [hD.es, List.length_append, hD.from_.1]
  omega
theorem upd_front {c xs : List Ep} (hx : ∀ x ∈ xs, noTake x = true) {q : Nat} {z y : Ep} (hz : (updU c xs).es[q]? = some z) (hy : xs[q]? = some y) : GoodX y z := by
  obtain ⟨ys, zs, tk, hD⟩ := updU_D c xs
  obtain ⟨h1, h2⟩ := List.getElem?_eq_some_iff.1 hy
  obtain ⟨h3, h4⟩ := hD.front hx h1
  obtain ⟨h5, h6⟩ := List.getElem?_eq_some_iff.1 hz
  rw [h2, h6] at h4
  exact h4
theorem upd_behind {c xs : List Ep} {q : Nat} {z : Ep} (hz : (updU c xs).es[q]? = some z) (h : xs.length ≤ q) : z.st = 4 ∧ z.tgt.size ≠ 0 := by
  obtain ⟨ys, zs, tk, hD⟩ := updU_D c xs
  obtain ⟨h5, h6⟩ := List.getElem?_eq_some_iff.1 hz
  have h7 := hD.behind h h5
  rw [h6] at h7
  exact h7
/-- An entry with texts alone. -/
def txtE (a b d : ByteArray) : Ent := ⟨⟨a, b, d, [], [], 0, []⟩, ⟨none, 0, 0⟩, ⟨none, 0, 0⟩, ⟨none, 0, 0⟩⟩
theorem txtE_W (w : World) {a b d : ByteArray} (ha : GoodStr a) (hb : GoodStr b) (hd : GoodStr d) : EntW w (txtE a b d) := ⟨HW.nil_ strF_len, HW.nil_ strF_len, HW.nil_ fdC_len, ha, hb, hd, by show -9223372036854775808 ≤ (0 : Int) ∧ (0 : Int) ≤ _; omega⟩
theorem txtE_1 (w : World) {a b d : ByteArray} (ha : GoodStr a) (hb : GoodStr b) (hd : GoodStr d) : EntsW (w.alloc (Obj.cells #[.string a, .string b, .string d, .slice none 0 0, .slice none 0 0, .int .i64 0, .slice none 0 0] 35)) ⟨some ⟨w.heap.size, 0, none⟩, 1, 1⟩ [txtE a b d] :=
  ⟨SlC.new_ w [txtE a b d] entC_len (by simp) #[.string a, .string b, .string d, .slice none 0 0, .slice none 0 0, .int .i64 0, .slice none 0 0] rfl (0, 0) 1 rfl _, Nat.le_refl _, by show 1 * 128 ≤ _; omega, fun z hz => by obtain rfl := List.mem_singleton.1 hz; exact (txtE_W w ha hb hd).ext ((Ext.refl w).alloc _)⟩
section
variable {w : World}
set_option maxHeartbeats 12800000 in
theorem awake47_any (hT : Tabs w) : Calls Tryd.prog 8 #[] w fun e w' => e = .returned (.bool true) ∧ Ext w w' := by
  obtain ⟨wa, hwa⟩ : ∃ wa, wa = w.alloc (Obj.cells #[.string ⟨#[111, 108, 100]⟩, .string ⟨#[79, 112, 101, 110, 32, 116, 104, 101, 32, 111, 108, 100, 32, 102, 105, 108, 101]⟩, .string ⟨#[120]⟩, .slice none 0 0, .slice none 0 0, .int .i64 0, .slice none 0 0] 35) := ⟨_, rfl⟩
  have hs1 : EntsW wa ⟨some ⟨w.heap.size, 0, none⟩, 1, 1⟩ [txtE ⟨#[111, 108, 100]⟩ ⟨#[79, 112, 101, 110, 32, 116, 104, 101, 32, 111, 108, 100, 32, 102, 105, 108, 101]⟩ ⟨#[120]⟩] := by
    rw [hwa]; exact txtE_1 w (by show _ ≤ _; decide) (by show _ ≤ _; decide) (by show _ ≤ _; decide)
  obtain ⟨g0, hg0⟩ : ∃ g0, g0 = w.heap.size := ⟨_, rfl⟩
  rw [← hg0] at hs1
  have hgs : wa.heap.size = g0 + 1 := by rw [hwa, hg0]; simp
  obtain ⟨W2, hW2⟩ : ∃ W2, W2 = wa.alloc (Obj.cells #[.string ⟨#[100, 101]⟩, .slice none 0 0, .slice none 0 0, .slice (some ⟨g0, 0, none⟩) 1 1] 26) := ⟨_, rfl⟩
  have hb := Blk.new wa 26 #[.string ⟨#[100, 101]⟩, .slice none 0 0, .slice none 0 0, .slice (some ⟨g0, 0, none⟩) 1 1]
  rw [← hW2, hgs] at hb
  have hEa : Ext w wa := by rw [hwa]; exact (Ext.refl _).alloc _
  have hE2 : Ext wa W2 := by rw [hW2]; exact (Ext.refl _).alloc _
  have hE3 : Ext W2 (W2.alloc (Obj.cells #[.string ⟨#[110, 101, 119]⟩, .string ⟨#[79, 112, 101, 110, 32, 116, 104, 101, 32, 111, 108, 100, 32, 102, 105, 108, 101, 115]⟩, .string ⟨#[]⟩, .slice none 0 0, .slice none 0 0, .int .i64 0, .slice none 0 0] 35)) := (Ext.refl _).alloc _
  have hs2 := txtE_1 W2 (a := ⟨#[110, 101, 119]⟩) (b := ⟨#[79, 112, 101, 110, 32, 116, 104, 101, 32, 111, 108, 100, 32, 102, 105, 108, 101, 115]⟩) (d := ⟨#[]⟩) (by show _ ≤ _; decide) (by show _ ≤ _; decide) (by show _ ≤ _; decide)
  have hE03 := (hEa.trans hE2).trans hE3
  have hx2 : CatW (W2.alloc (Obj.cells #[.string ⟨#[110, 101, 119]⟩, .string ⟨#[79, 112, 101, 110, 32, 116, 104, 101, 32, 111, 108, 100, 32, 102, 105, 108, 101, 115]⟩, .string ⟨#[]⟩, .slice none 0 0, .slice none 0 0, .int .i64 0, .slice none 0 0] 35)) ⟨⟨#[100, 101]⟩, [], [], [txtE ⟨#[111, 108, 100]⟩ ⟨#[79, 112, 101, 110, 32, 116, 104, 101, 32, 111, 108, 100, 32, 102, 105, 108, 101]⟩ ⟨#[120]⟩], ⟨none, 0, 0⟩, ⟨none, 0, 0⟩, ⟨some ⟨g0, 0, none⟩, 1, 1⟩⟩ := ⟨by show ByteArray.size ⟨#[100, 101]⟩ ≤ 140737488351232; decide, HW.nil_ strF_len, HW.nil_ fdC_len, EntsW.ext hs1 (hE2.trans hE3)⟩
  have hup := update_any hx2 hs2 (hT.ext hE03) (fun y hy => by obtain rfl := List.mem_singleton.1 hy; show _ ≤ _; decide) (fun y hy => by obtain rfl := List.mem_singleton.1 hy; show _ ≤ _; decide)
  unfold catV at hup
  dsimp only at hup
  have c0 := hb.cell 0
  have c1 := hb.cell 1
  have c2 := hb.cell 2
  have c3 := hb.cell 3
  dsimp at c0 c1 c2 c3
  clear hx2 hs2 hs1 hb hgs hE2 hE3 hEa
  go_enter Tryd.func8, Tryd.ntmps8
  go_upto_region 2 with fail
  rw [← hwa, ← hg0, ← hW2]
  clear hwa hg0 hW2
  go_wp2_with (first
    | (go_at_call 10; refine Hid.out ?_))
  refine Hid.mk_ ((hup).mono ?_)
  rintro e w4 ⟨a, R, r, k, rfl, hupd, hW4, hR4, hE4⟩
  clear c0 c1 c2 c3 hup
  have hE04 := hE03.trans hE4
  change (a.p, r, k) = updP awX awL at hupd
  have a1 := aw_k
  have a2 := aw_t
  have a3 := aw_r
  rw [← hupd] at a1 a2 a3
  dsimp only at a1 a2 a3
  have e3 : k = 0 := a1
  have e4 : (a.es.map Ent.p).map (fun e => (e.tgt, e.st)) = [((⟨#[120]⟩ : ByteArray), (1 : Int))] := a2
  have e5 : (R 3).m = 1 := by
    have h1 := (hR4 3 (by omega)).1.len
    have h2 : (repL r 3).length = 1 := a3
    omega
  clear a1 a2 a3 hupd
  subst e3
  obtain ⟨tag, com, fd, es, hc, hd, ⟨A, m, c⟩⟩ := a
  dsimp only at e4
  obtain ⟨z, rfl⟩ : ∃ z, es = [z] := by
    have h1 := congrArg List.length e4
    rw [List.length_map, List.length_map] at h1
    exact List.length_eq_one_iff.1 h1
  injection e4 with e4
  injection e4 with e6 e7
  have hm : m = 1 := hW4.e.sl.len
  subst hm
  obtain ⟨b, off, eA, _, hcs⟩ := hW4.e.sl.at_ (show (0 : Nat) < 1 by omega) (by omega)
  dsimp only at eA
  subst eA
  have t2 := hcs 0 (by simp) 2 (by omega)
  have t5 := hcs 0 (by simp) 5 (by omega)
  simp only [entC, List.getElem_cons_zero, List.getElem_cons_succ, Nat.zero_mul, Nat.zero_add] at t2 t5
  rw [e6] at t2
  rw [e7] at t5
  have T2 := laters t2
  have T5 := laters t5
  have hEr := Ext.refl w4
  clear hcs t2 t5 e6 e7 hR4 hW4
  unfold catV repA
  dsimp only
  rw [e5]
  go_wp2
  go_ret
  exact ⟨rfl, (hE04.alloc _).alloc _⟩
end
end Go.Proofs.YtcdpmgdocgddcaaDoor
