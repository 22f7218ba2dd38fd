/- The encoding of a catalog in bytes; plain. -/
import Derived.Test.YtngpajaghadhdaaGreatDoorCatP
import Derived.Test.YtngpajaghadhdaaGreatDoorRStrs
namespace Go.Proofs.YtngpajaghadhdaaGreatDoor
set_option maxRecDepth 100000
/-- A number of four bytes, the most significant one first. -/
def fourB (n : Nat) : List UInt8 := [UInt8.ofNat (n / 16777216), UInt8.ofNat (n / 65536), UInt8.ofNat (n / 256), UInt8.ofNat n]
/-- The number that the four bytes at an offset are. -/
def numAt (b : List UInt8) (at_ : Nat) : Nat := (b.getD at_ 0).toNat * 16777216 + (b.getD (at_ + 1) 0).toNat * 65536 + (b.getD (at_ + 2) 0).toNat * 256 + (b.getD (at_ + 3) 0).toNat
def magicB : List UInt8 := [67, 81, 66, 49]
def encF (l : List Fd) : List UInt8 := encI l.length ++ l.flatMap fun f => encS (bys f.1) ++ encS (bys f.2)
/-- The record of an entry. -/
def recE (x : Ep) : List UInt8 := encS (bys x.id) ++ encS (bys x.src) ++ encS (bys x.tgt) ++ encL (x.com.map bys) ++ encL (x.fl.map bys) ++ encI x.st ++ encF x.fd
def headE (c : Cp) : List UInt8 := encS (bys c.tag) ++ encL (c.com.map bys) ++ encF c.fd ++ encI c.es.length
def recsE (l : List Ep) : List UInt8 := l.flatMap recE
def atE (c : Cp) : Nat := 8 + (headE c).length + 8 * c.es.length
def offE (c : Cp) (i : Nat) : Nat := atE c + (recsE (c.es.take i)).length
def totE (c : Cp) : Nat := atE c + (recsE c.es).length
def idAt (l : List Ep) (i : Nat) : ByteArray := (l[i]?.map Ep.id).getD ⟨#[]⟩
/-- The indices of the entries in the order of their IDs. -/
def sortE (l : List Ep) : List Nat := (List.range l.length).mergeSort fun i j => !bO (idAt l j) (idAt l i)
def dirE (c : Cp) : List UInt8 := (sortE c.es).flatMap fun i => fourB i ++ fourB (offE c i)
/-- The encoding of a catalog. -/
def encC (c : Cp) : List UInt8 := magicB ++ fourB (totE c) ++ headE c ++ dirE c ++ recsE c.es

theorem fourB_len (n : Nat) : (fourB n).length = 4 := rfl
theorem idAt_lt {l : List Ep} {i : Nat} (h : i < l.length) : idAt l i = l[i].id := by unfold idAt; rw [List.getElem?_eq_getElem h]; rfl
theorem le_total_ (a b : ByteArray) : (!bO b a || !bO a b) = true := by
  cases h : bO b a with
  | false => rfl
  | true => rw [bO_asym h]; rfl
theorem le_trans_ {a b c : ByteArray} (h1 : (!bO b a) = true) (h2 : (!bO c b) = true) : (!bO c a) = true := by
  rw [Bool.not_eq_true'] at h1 h2 ⊢
  cases h : bO c a with
  | false => rfl
  | true =>
    by_cases e : a = b
    · subst e; rw [h] at h2; cases h2
    · have h3 : bO a b = true := by
        cases h4 : bO a b with
        | true => rfl
        | false => exact absurd (bO_tri h4 h1) e
      rw [bO_trans h h3] at h2; cases h2
theorem sortE_perm (l : List Ep) : List.Perm (sortE l) (List.range l.length) := List.mergeSort_perm _ _
theorem sortE_len (l : List Ep) : (sortE l).length = l.length := by rw [(sortE_perm l).length_eq, List.length_range]
theorem sortE_lt {l : List Ep} {i : Nat} (h : i ∈ sortE l) : i < l.length := List.mem_range.1 ((sortE_perm l).mem_iff.1 h)
theorem sortE_le (l : List Ep) : (sortE l).Pairwise fun i j => (!bO (idAt l j) (idAt l i)) = true :=
  List.pairwise_mergeSort (le := fun i j => !bO (idAt l j) (idAt l i)) (fun _ _ _ h1 h2 => le_trans_ h1 h2) (fun a b => le_total_ (idAt l a) (idAt l b)) _
/-- The sorted indices are unique, where no ID stands twice. -/
theorem sortE_uniq {l : List Ep} (hd : (l.map Ep.id).Nodup) {p : List Nat} (hp : List.Perm p (List.range l.length)) (hs : p.Pairwise fun i j => (!bO (idAt l j) (idAt l i)) = true) : p = sortE l := by
  refine List.Perm.eq_of_pairwise (le := fun i j => (!bO (idAt l j) (idAt l i)) = true) (fun i j hi hj h1 h2 => ?_) hs (sortE_le l) (hp.trans (sortE_perm l).symm)
  have hi' : i < l.length := List.mem_range.1 (hp.mem_iff.1 hi)
  have hj' : j < l.length := sortE_lt hj
  rw [Bool.not_eq_true'] at h1 h2
  have e := bO_tri h2 h1
  rw [idAt_lt hi', idAt_lt hj'] at e
  rw [List.Nodup, List.pairwise_iff_getElem] at hd
  rcases Nat.lt_trichotomy i j with h | h | h
  · have := hd i j (by rw [List.length_map]; exact hi') (by rw [List.length_map]; exact hj') h
    rw [List.getElem_map, List.getElem_map] at this
    exact absurd e this
  · exact h
  · have := hd j i (by rw [List.length_map]; exact hj') (by rw [List.length_map]; exact hi') h
    rw [List.getElem_map, List.getElem_map] at this
    exact absurd e.symm this
theorem sortE_strict {l : List Ep} (hd : (l.map Ep.id).Nodup) : (sortE l).Pairwise fun i j => bO (idAt l i) (idAt l j) = true := by
  have hn : (sortE l).Nodup := (sortE_perm l).nodup_iff.2 List.nodup_range
  rw [List.Nodup] at hn
  have hb := (sortE_le l).and hn
  refine List.Pairwise.imp_of_mem (fun {i j} hi hj h => ?_) hb
  obtain ⟨h1, h2⟩ := h
  rw [Bool.not_eq_true'] at h1
  cases h3 : bO (idAt l i) (idAt l j) with
  | true => rfl
  | false =>
    have e := bO_tri h3 h1
    have hi' := sortE_lt hi
    have hj' := sortE_lt hj
    rw [idAt_lt hi', idAt_lt hj'] at e
    rw [List.Nodup, List.pairwise_iff_getElem] at hd
    exfalso
    rcases Nat.lt_trichotomy i j with h | h | h
    · have := hd i j (by rw [List.length_map]; exact hi') (by rw [List.length_map]; exact hj') h
      rw [List.getElem_map, List.getElem_map] at this
      exact this e
    · exact h2 h
    · have := hd j i (by rw [List.length_map]; exact hj') (by rw [List.length_map]; exact hi') h
      rw [List.getElem_map, List.getElem_map] at this
      exact this e.symm
theorem dirE_len (c : Cp) : (dirE c).length = 8 * c.es.length := by
  have h : ∀ p : List Nat, (p.flatMap fun i => fourB i ++ fourB (offE c i)).length = 8 * p.length := by
    intro p
    induction p with
    | nil => rfl
    | cons x t ih => rw [List.flatMap_cons, List.length_append, ih, List.length_append, fourB_len, fourB_len, List.length_cons]; omega
  unfold dirE
  rw [h, sortE_len]
theorem encC_len (c : Cp) : (encC c).length = totE c := by
  unfold encC totE atE
  simp only [List.length_append, fourB_len, dirE_len]
  show 4 + 4 + _ + _ + _ = _
  omega
end Go.Proofs.YtngpajaghadhdaaGreatDoor
