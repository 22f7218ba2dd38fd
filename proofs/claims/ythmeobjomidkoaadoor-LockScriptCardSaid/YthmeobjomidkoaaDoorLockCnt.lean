/- How many locks a map holds. -/
import Derived.Test.YthmeobjomidkoaaDoorLockRange
import Derived.Maps.OwnSet
namespace Go.Proofs.YthmeobjomidkoaaDoor
open Go.RowKit Go.Maps Go.WideElems Go.WideShapes
set_option maxRecDepth 100000
/-- F has c keys. -/
def CntF (F : LF) (c : Nat) : Prop := ∃ L : List (ByteArray × ByteArray), L.Nodup ∧ L.length = c ∧ ∀ p, p ∈ L ↔ (p.1.size ≤ maxLen ∧ p.2.size ≤ maxLen ∧ (F p.1 p.2).isSome = true)
theorem CntF.uniq {F : LF} {c d : Nat} (h : CntF F c) (h' : CntF F d) : c = d := by
  obtain ⟨L, n1, rfl, m1⟩ := h
  obtain ⟨M, n2, rfl, m2⟩ := h'
  exact ((List.perm_ext_iff_of_nodup n1 n2).2 fun p => by rw [m1, m2]).length_eq
theorem own_keys {w : World} {bm n : Nat} {D : DataW Unit} (ho : w.ownsMap Tryd.prog 61 lkR bm n D) :
    ∃ l, D = .map l ∧ l.Pairwise (fun p q => p.1 ≠ q.1) ∧ ∀ p ∈ l, ∃ ab : ByteArray × ByteArray, p.1 = keyL ab.1 ab.2 ∧ ab.1.size ≤ maxLen ∧ ab.2.size ≤ maxLen := by
  obtain ⟨l, e, hp⟩ := ho.tidy keyedM
  refine ⟨l, e, hp, fun p hpm => ?_⟩
  obtain ⟨es, clock, _, hF, _, hD⟩ := ho
  rw [e] at hD
  injection hD with hD
  rw [hD] at hpm
  have hpm := (sorted_perm _).mem_iff.1 hpm
  obtain ⟨x, hx, rfl⟩ := List.mem_map.1 hpm
  obtain ⟨y, hy⟩ := hF.reads x hx
  have hk := rd_key hy
  obtain ⟨a, b, hab, ha, hb⟩ := key_inv hk
  rw [hab, key_some a b ha hb] at hk
  injection hk with hk
  exact ⟨(a, b), by rw [rg_of hy, ← hk], ha, hb⟩
open Classical in
theorem LM.cnt {w : World} {bm n : Nat} {F : LF} (h : LM w bm n F) : ∃ c : Nat, c ≤ n ∧ CntF F c ∧ ∀ ty, (Builtin.len_ #[58] ty #[.map (some bm)]).run Tryd.prog w = .ok (.int .i64 c) w := by
  obtain ⟨D, ho, hv⟩ := h
  obtain ⟨l, e, hp, hk⟩ := own_keys ho
  refine ⟨Maps.size D, ho.size_le, ?_, fun ty => ho.len Tryd.underlying58 ty⟩
  obtain ⟨g, hg⟩ : ∃ g : Lit × DataW Unit → ByteArray × ByteArray, ∀ p ∈ l, p.1 = keyL (g p).1 (g p).2 ∧ (g p).1.size ≤ maxLen ∧ (g p).2.size ≤ maxLen :=
    ⟨fun p => if h : p ∈ l then (hk p h).choose else (⟨#[]⟩, ⟨#[]⟩), fun p h => by dsimp only; rw [dif_pos h]; exact (hk p h).choose_spec⟩
  refine ⟨l.map g, ?_, by rw [List.length_map, e]; rfl, fun p => ?_⟩
  · rw [List.Nodup, List.pairwise_map]
    refine hp.imp_of_mem fun {p q} h1 h2 hne e2 => hne ?_
    rw [(hg p h1).1, (hg q h2).1, e2]
  · obtain ⟨a, b⟩ := p
    constructor
    · intro hm
      obtain ⟨p, hpm, hpe⟩ := List.mem_map.1 hm
      obtain ⟨h1, h2, h3⟩ := hg p hpm
      rw [hpe] at h1 h2 h3
      refine ⟨h2, h3, ?_⟩
      rw [← (hv a b h2 h3).1, e, has_eq, List.any_eq_true]
      exact ⟨p, hpm, by rw [h1]; simp [Lit.sameKey, keyL]⟩
    · rintro ⟨h2, h3, hs⟩
      rw [← (hv a b h2 h3).1, e, has_eq, List.any_eq_true] at hs
      obtain ⟨p, hpm, hk2⟩ := hs
      have h4 := WideAt.sameKey_eq hk2
      obtain ⟨h5, h6, h7⟩ := hg p hpm
      rw [h5] at h4
      obtain ⟨e1, e2⟩ := key_inj h6 h7 h2 h3 h4
      exact List.mem_map.2 ⟨p, hpm, Prod.ext e1 e2⟩
end Go.Proofs.YthmeobjomidkoaaDoor
