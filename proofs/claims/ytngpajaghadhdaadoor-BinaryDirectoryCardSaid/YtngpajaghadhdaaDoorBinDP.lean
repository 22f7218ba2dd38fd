/- Plain: the head of an encoding, string by string; what the directory's rounds compare. -/
import Derived.Test.YtngpajaghadhdaaDoorBinD
namespace Go.Proofs.YtngpajaghadhdaaDoor
open Go.RowKit
/-- The strings of fields, one behind the other. -/
def strsF (l : List Fd) : List ByteArray := l.flatMap fun f => [f.1, f.2]
theorem strsF_len (l : List Fd) : (strsF l).length = 2 * l.length := by
  induction l with
  | nil => rfl
  | cons x t ih => show ([x.1, x.2] ++ strsF t).length = _; rw [List.length_append, ih]; simp only [List.length_cons, List.length_nil]; omega
theorem strsF_enc (l : List Fd) : ((strsF l).flatMap fun s => encS (bys s)) = l.flatMap fun f => encS (bys f.1) ++ encS (bys f.2) := by
  induction l with
  | nil => rfl
  | cons x t ih =>
    show ([x.1, x.2] ++ strsF t).flatMap _ = _
    rw [List.flatMap_append, ih, List.flatMap_cons]
    simp
theorem strsF_sz {l : List Fd} (h : ∀ f ∈ l, f.1.size ≤ 4000 ∧ f.2.size ≤ 4000) : ∀ s ∈ strsF l, s.size ≤ 4000 := fun s hs => by
  obtain ⟨f, hf, h2⟩ := List.mem_flatMap.1 hs
  simp only [List.mem_cons, List.not_mem_nil, or_false] at h2
  rcases h2 with rfl | rfl
  · exact (h f hf).1
  · exact (h f hf).2
/-- Where the q-th string of the fields begins. -/
def posF (c : Cp) (q : Nat) : Nat := (encS (bys c.tag) ++ encL (c.com.map bys) ++ encI c.fd.length).length + (((strsF c.fd).take q).flatMap fun s => encS (bys s)).length
theorem posF_end (c : Cp) : posF c (2 * c.fd.length) = (encS (bys c.tag) ++ encL (c.com.map bys) ++ encF c.fd).length := by
  unfold posF encF
  rw [List.take_of_length_le (by rw [strsF_len]; exact Nat.le_refl _), strsF_enc]
  simp only [List.length_append]
  omega
theorem posF_read {c : Cp} (hc : ShortC c) :
    stepI ((encC c).drop 8) (encS (bys c.tag) ++ encL (c.com.map bys)).length false = ((c.fd.length : Int), posF c 0, false) ∧
    ∀ q (h : q < (strsF c.fd).length), stepS ((encC c).drop 8) (posF c q) false = (bys (strsF c.fd)[q], posF c (q + 1), false) := by
  have hd : (encC c).drop 8 = headE c ++ (dirE c ++ recsE c.es) := by
    unfold encC
    simp only [List.append_assoc]
    rw [← List.append_assoc magicB, List.drop_left' (by rfl)]
  obtain ⟨r, hr⟩ : ∃ r, r = encI c.es.length ++ (dirE c ++ recsE c.es) := ⟨_, rfl⟩
  have h0 : ((encC c).drop 8).drop (encS (bys c.tag) ++ encL (c.com.map bys)).length = encI c.fd.length ++ (((strsF c.fd).flatMap fun s => encS (bys s)) ++ r) := by
    rw [hd, strsF_enc, hr]
    unfold headE encF
    rw [List.append_assoc, List.append_assoc, List.drop_left]
    simp only [List.append_assoc]
  refine ⟨?_, fun q h => ?_⟩
  · have e1 := stepI_enc h0 (encI_inR _ (by have := hc.fd.1; omega))
    rw [e1]
    unfold posF
    simp only [List.take_zero, List.flatMap_nil, List.length_nil, Nat.add_zero, List.length_append]
  · have h1 := drop_more h0
    have hsp : ((strsF c.fd).flatMap fun s => encS (bys s)) = (((strsF c.fd).take q).flatMap fun s => encS (bys s)) ++ (encS (bys (strsF c.fd)[q]) ++ ((strsF c.fd).drop (q + 1)).flatMap fun s => encS (bys s)) := by
      have e : strsF c.fd = (strsF c.fd).take q ++ ((strsF c.fd)[q] :: (strsF c.fd).drop (q + 1)) := by
        rw [List.getElem_cons_drop, List.take_append_drop]
      have e2 := congrArg (fun l => l.flatMap fun s => encS (bys s)) e
      simp only [List.flatMap_append, List.flatMap_cons] at e2
      exact e2
    rw [hsp, List.append_assoc] at h1
    have h2 := drop_more h1
    rw [List.append_assoc] at h2
    have hsz := strsF_sz hc.fd.2 (strsF c.fd)[q] (List.getElem_mem _)
    have e3 := stepS_enc h2 (by rw [bys_sz]; omega)
    unfold posF
    rw [List.take_succ_eq_append_getElem h, List.flatMap_append]
    simp only [List.flatMap_cons, List.flatMap_nil, List.append_nil, List.length_append] at e3 ⊢
    rw [e3]
    simp only [Nat.add_assoc]
/-- A string with a byte is greater than the empty string. -/
theorem bO_nil {s : ByteArray} (h : s.size ≠ 0) : bO ⟨#[]⟩ s = true := by
  unfold bO
  rw [ByteArray.toList_eq, ByteArray.toList_eq]
  have h2 : (bys s).length ≠ 0 := by rw [bys_sz]; exact h
  unfold bys at h2
  cases hs : s.data.toList with
  | nil => rw [hs] at h2; exact absurd rfl h2
  | cons a t => rfl
theorem validC_id {c : Cp} (h : validC c = true) : ∀ x ∈ c.es, x.id.size ≠ 0 := fun x hx => by
  unfold validC at h
  simp only [Bool.and_eq_true, decide_eq_true_eq] at h
  obtain ⟨i, hi, rfl⟩ := List.getElem_of_mem hx
  have h2 := (h.2 i hi).1
  unfold validE at h2
  simp only [Bool.and_eq_true, Bool.not_eq_true', decide_eq_false_iff_not] at h2
  exact h2.1.1.1.1.1.1.1.1
/-- The ID ahead of the q-th in the order, or the empty string. -/
def lastId (l : List Ep) (q : Nat) : ByteArray := if q = 0 then ⟨#[]⟩ else idAt l ((sortE l).getD (q - 1) 0)
theorem lastId_lt {c : Cp} (hv : validC c = true) (hd : (c.es.map Ep.id).Nodup) {q : Nat} (h : q < (sortE c.es).length) : bO (lastId c.es q) (idAt c.es (sortE c.es)[q]) = true := by
  unfold lastId
  split
  · have hl := sortE_lt (List.getElem_mem h)
    rw [idAt_lt hl]
    exact bO_nil (validC_id hv _ (List.getElem_mem _))
  · have h1 := sortE_strict hd
    rw [List.pairwise_iff_getElem] at h1
    have h2 := h1 (q - 1) q (by omega) h (by omega)
    rw [List.getD_eq_getElem?_getD, List.getElem?_eq_getElem (by omega)]
    exact h2
theorem lastId_succ (l : List Ep) {q : Nat} (h : q < (sortE l).length) : lastId l (q + 1) = idAt l (sortE l)[q] := by
  unfold lastId
  rw [if_neg (by omega), Nat.add_sub_cancel, List.getD_eq_getElem?_getD, List.getElem?_eq_getElem h]
  rfl
end Go.Proofs.YtngpajaghadhdaaDoor
