/- The example of the laws of chapter 47. -/
import Derived.Test.YtgnchicipmomlaaGreatDoorPK42
import Derived.Test.YtgnchicipmomlaaGreatDoorPK43
namespace Go.Proofs.YtgnchicipmomlaaGreatDoor
open Go.RowKit
set_option maxRecDepth 100000
attribute [local go_sem] ext_refl_t ext_alloc_t ext_drew_t ext_drewN_t ext_alloc2_t ext_alloc3_t ext_alloc4_t ext_alloc5_t ext_alloc6_t ext_alloc7_t ext_alloc8_t ext_alloc1d_t ext_alloc2d_t ext_alloc3d_t ext_alloc4d_t
theorem updP_three (c : Cp) (xs : List Ep) : updP c xs = (cp0, rep0, 1) ∨ updP c xs = (cp0, rep0, 6) ∨ (properP c xs = true ∧ validC (c.w (updU c.es xs).es) = true ∧ updP c xs = (c.w (updU c.es xs).es, (updU c.es xs).rp, 0)) := by
  unfold updP
  by_cases h1 : properP c xs = true
  · rw [if_pos h1]
    by_cases h2 : validC (c.w (updU c.es xs).es) = true
    · rw [if_pos h2]; exact .inr (.inr ⟨h1, h2, rfl⟩)
    · rw [if_neg h2]; exact .inr (.inl rfl)
  · rw [if_neg h1]; exact .inl rfl
theorem proper_nt {c : Cp} {xs : List Ep} (h : properP c xs = true) : ∀ x ∈ xs, noTake x = true := by
  unfold properP at h
  rw [Bool.and_eq_true] at h
  exact List.all_eq_true.1 h.1
theorem proper_fok {c : Cp} {xs : List Ep} (h : properP c xs = true) : ∀ x ∈ xs, (x.fd.map Prod.fst).Nodup := fun x hx => by
  have h1 := (esOk_iff.1 (validC_parts.1 (proper_parts h).2).2.2).1 x hx
  exact fdOk_nodup (validE_fd h1)
theorem upd_len (c xs : List Ep) : xs.length ≤ (updU c xs).es.length := by
  obtain ⟨ys, zs, tk, hD⟩ := updU_D c xs
  rw [hD.es, List.length_append, hD.from_.1]
  omega
theorem upd_front {c xs : List Ep} (hx : ∀ x ∈ xs, noTake x = true) {q : Nat} {z y : Ep} (hz : (updU c xs).es[q]? = some z) (hy : xs[q]? = some y) : GoodX y z := by
  obtain ⟨ys, zs, tk, hD⟩ := updU_D c xs
  obtain ⟨h1, h2⟩ := List.getElem?_eq_some_iff.1 hy
  obtain ⟨h3, h4⟩ := hD.front hx h1
  obtain ⟨h5, h6⟩ := List.getElem?_eq_some_iff.1 hz
  rw [h2, h6] at h4
  exact h4
/-- An entry with texts alone. -/
def txtE (a b d : ByteArray) : Ent := ⟨⟨a, b, d, [], [], 0, []⟩, ⟨none, 0, 0⟩, ⟨none, 0, 0⟩, ⟨none, 0, 0⟩⟩
theorem txtE_W (w : World) {a b d : ByteArray} (ha : GoodStr a) (hb : GoodStr b) (hd : GoodStr d) : EntW w (txtE a b d) := ⟨HW.nil_ strF_len, HW.nil_ strF_len, HW.nil_ fdC_len, ha, hb, hd, by show -9223372036854775808 ≤ (0 : Int) ∧ (0 : Int) ≤ _; omega⟩
theorem txtE_1 (w : World) {a b d : ByteArray} (ha : GoodStr a) (hb : GoodStr b) (hd : GoodStr d) : EntsW (w.alloc (Obj.cells #[.string a, .string b, .string d, .slice none 0 0, .slice none 0 0, .int .i64 0, .slice none 0 0] 39)) ⟨some ⟨w.heap.size, 0, none⟩, 1, 1⟩ [txtE a b d] :=
  ⟨SlC.new_ w [txtE a b d] entC_len (by simp) #[.string a, .string b, .string d, .slice none 0 0, .slice none 0 0, .int .i64 0, .slice none 0 0] rfl (0, 0) 1 rfl _, Nat.le_refl _, by show 1 * 128 ≤ _; omega, fun z hz => by obtain rfl := List.mem_singleton.1 hz; exact (txtE_W w ha hb hd).ext ((Ext.refl w).alloc _)⟩
section
variable {w : World}
end
end Go.Proofs.YtgnchicipmomlaaGreatDoor

/- An update by what was extracted, and again: plain. -/
namespace Go.Proofs.YtgnchicipmomlaaGreatDoor
open Go.RowKit
set_option maxRecDepth 100000
/-- What the law says of the first update's result d. -/
structure ExtD (c d : Cp) (xs : List Ep) : Prop where
  len : xs.length ≤ d.es.length
  front : ∀ (q : Nat) (z y : Ep), d.es[q]? = some z → xs[q]? = some y → z.id = y.id ∧ z.src = y.src ∧ z.st ≠ 4
  keeps : ∀ x ∈ c.es, x.tgt.size ≠ 0 → ∃ y ∈ d.es, y.tgt = x.tgt
  src : ∀ y ∈ d.es, (∃ x ∈ xs, y.src = x.src) ∨ ∃ x ∈ c.es, y.src = x.src
  again : ∃ r : Rep, updP d xs = (d, r, 0) ∧ r.kept.length = xs.length
theorem updP_code {c d : Cp} {xs : List Ep} {r : Rep} {k : Int} (h : updP c xs = (d, r, k)) : k = 0 ∨ k = 1 ∨ k = 6 := by
  rcases updP_three c xs with h3 | h3 | ⟨_, _, h3⟩
  · exact .inr (.inl (congrArg (·.2.2) (h.symm.trans h3)))
  · exact .inr (.inr (congrArg (·.2.2) (h.symm.trans h3)))
  · exact .inl (congrArg (·.2.2) (h.symm.trans h3))
theorem updP_D {c d : Cp} {xs : List Ep} {r : Rep} (h : updP c xs = (d, r, 0)) : ExtD c d xs := by
  rcases updP_three c xs with h3 | h3 | ⟨h3, h4, h5⟩
  · have h1 := congrArg (·.2.2) (h.symm.trans h3)
    exact absurd (show (0 : Int) = 1 from h1) (by decide)
  · have h1 := congrArg (·.2.2) (h.symm.trans h3)
    exact absurd (show (0 : Int) = 6 from h1) (by decide)
  have hd : d = c.w (updU c.es xs).es := congrArg (·.1) (h.symm.trans h5)
  subst hd
  clear h5 h
  obtain ⟨ys, zs, tk, hD⟩ := updU_D c.es xs
  have hnt := proper_nt h3
  refine ⟨upd_len c.es xs, fun q z y hz hy => ?_, fun x hx ht => ?_, fun y hy => ?_, ?_⟩
  · have hg := upd_front hnt hz hy
    exact ⟨hg.id, hg.src, hg.st⟩
  · obtain ⟨y, hy, h1, _⟩ := hD.keeps (proper_nd h3) hx ht
    exact ⟨y, hy, h1⟩
  · have hy2 : y ∈ (updU c.es xs).es := hy
    rw [hD.es] at hy2
    rcases List.mem_append.1 hy2 with h1 | h1
    · obtain ⟨i, hi, rfl⟩ := List.mem_iff_getElem.1 h1
      have hix : i < xs.length := by rw [hD.from_.1]; exact hi
      have hg := (hD.from_.2 i hix hi).good (hnt _ (List.getElem_mem hix))
      exact .inl ⟨_, List.getElem_mem hix, hg.src⟩
    · obtain ⟨x, hx, rfl⟩ := List.mem_map.1 h1
      exact .inr ⟨x, (List.mem_filter.1 hx).1, rfl⟩
  · have hn : ((updU c.es xs).es.map Ep.id).Nodup := (esOk_iff.1 (validC_parts.1 h4).2.2).2
    have ha := hD.again hnt (proper_fok h3) hn
    refine ⟨{ rep0 with kept := xs.map Ep.id }, ?_, by rw [List.length_map]⟩
    have hp : properP (c.w (updU c.es xs).es) xs = true := by
      unfold properP at h3 ⊢
      rw [Bool.and_eq_true, Bool.and_eq_true] at h3 ⊢
      exact ⟨h3.1, h4, h3.2.2⟩
    have ha2 : updU (c.w (updU c.es xs).es).es xs = ⟨(updU c.es xs).es, { rep0 with kept := xs.map Ep.id }, xs.map Ep.id⟩ := ha
    unfold updP
    rw [if_pos hp, ha2]
    have h6 : validC ((c.w (updU c.es xs).es).w (updU c.es xs).es) = true := h4
    rw [if_pos h6]
    rfl
end Go.Proofs.YtgnchicipmomlaaGreatDoor
