/- The directory of an encoding; the search by halving; plain. -/
import Derived.Test.YtngpajaghadhdaaGreatDoorBinR
namespace Go.Proofs.YtngpajaghadhdaaGreatDoor
set_option maxRecDepth 100000
theorem flat_drop8 {α : Type} (f : α → List UInt8) (h : ∀ x, (f x).length = 8) : ∀ (p : List α) (i : Nat), (p.flatMap f).drop (8 * i) = (p.drop i).flatMap f := by
  intro p
  induction p with
  | nil => intro i; simp
  | cons x t ih =>
    intro i
    cases i with
    | zero => rfl
    | succ i =>
      rw [List.flatMap_cons, List.drop_succ_cons, ← ih i, show 8 * (i + 1) = (f x).length + 8 * i by rw [h]; omega, ← List.drop_drop, List.drop_left]
theorem dir_at {c : Cp} (hc : ShortC c) {i : Nat} (hi : i < (sortE c.es).length) :
    ∃ r, (encC c).drop (8 + (headE c).length + 8 * i) = fourB (sortE c.es)[i] ++ (fourB (offE c (sortE c.es)[i]) ++ r) := by
  have h1 := (readsC hc).dir
  have h2 : (dirE c).drop (8 * i) = ((sortE c.es).drop i).flatMap fun i => fourB i ++ fourB (offE c i) := flat_drop8 _ (fun x => rfl) _ _
  have hl : 8 * i ≤ (dirE c).length := by rw [dirE_len, ← sortE_len]; omega
  refine ⟨((sortE c.es).drop (i + 1)).flatMap (fun i => fourB i ++ fourB (offE c i)) ++ recsE c.es, ?_⟩
  rw [← List.drop_drop, h1, List.drop_append_of_le_length hl, h2, ← List.getElem_cons_drop (h := hi), List.flatMap_cons]
  simp only [List.append_assoc]
theorem off_at {c : Cp} (hc : ShortC c) (i : Nat) : (encC c).drop (offE c i) = recsE (c.es.drop i) := by
  have h1 := (readsC hc).rest
  unfold offE
  rw [← List.drop_drop, h1]
  have h2 : recsE c.es = recsE (c.es.take i) ++ recsE (c.es.drop i) := by
    unfold recsE
    rw [← List.flatMap_append, List.take_append_drop]
  conv => lhs; rw [h2]
  rw [List.drop_left]
theorem off_id {c : Cp} (hc : ShortC c) {i : Nat} (hi : i < c.es.length) : stepS ((encC c).drop (offE c i)) 0 false = (bys c.es[i].id, (encS (bys c.es[i].id)).length, false) := by
  have h1 := off_at hc i
  have h2 : c.es.drop i = c.es[i] :: c.es.drop (i + 1) := (List.getElem_cons_drop ..).symm
  have hs := (hc.es.2 c.es[i] (List.getElem_mem hi)).id
  have b1 := bys_sz c.es[i].id
  have h3 : ((encC c).drop (offE c i)).drop 0 = encS (bys c.es[i].id) ++ (((encC c).drop (offE c i)).drop (encS (bys c.es[i].id)).length) := by
    rw [List.drop_zero, h1, h2]
    unfold recsE
    rw [List.flatMap_cons]
    unfold recE
    simp only [List.append_assoc, List.drop_left]
  have e := stepS_enc h3 (by omega)
  rw [e, Nat.zero_add]
theorem off_zero (c : Cp) : offE c 0 = atE c := by unfold offE recsE; simp
theorem off_ge (c : Cp) (i : Nat) : atE c ≤ offE c i := by unfold offE; omega
/-- What the directory says. -/
theorem dir_num {c : Cp} (hc : ShortC c) {i : Nat} (hi : i < (sortE c.es).length) :
    numAt (encC c) (8 + (headE c).length + 8 * i) = (sortE c.es)[i] ∧ numAt (encC c) (8 + (headE c).length + 8 * i + 4) = offE c (sortE c.es)[i] ∧ 8 + (headE c).length + 8 * i + 8 ≤ (encC c).length := by
  obtain ⟨r, h⟩ := dir_at hc hi
  have hlt : (sortE c.es)[i] < c.es.length := sortE_lt (List.getElem_mem hi)
  have hn := hc.es.1
  have ho := offE_le c (sortE c.es)[i]
  have ht := totE_le hc
  have hle : 8 + (headE c).length + 8 * i ≤ (encC c).length := by
    have h9 := (readsC hc).at_
    have h8 := sortE_len c.es
    unfold atE at h9
    omega
  have hsp : encC c = (encC c).take (8 + (headE c).length + 8 * i) ++ (fourB (sortE c.es)[i] ++ (fourB (offE c (sortE c.es)[i]) ++ r)) := by rw [← h, List.take_append_drop]
  have hpl : ((encC c).take (8 + (headE c).length + 8 * i)).length = 8 + (headE c).length + 8 * i := by rw [List.length_take]; omega
  have a1 := numAt_four (p := (encC c).take (8 + (headE c).length + 8 * i)) (q := fourB (offE c (sortE c.es)[i]) ++ r) (n := (sortE c.es)[i]) (by omega)
  have a2 := numAt_four (p := (encC c).take (8 + (headE c).length + 8 * i) ++ fourB (sortE c.es)[i]) (q := r) (n := offE c (sortE c.es)[i]) (by omega)
  rw [← hsp, hpl] at a1
  rw [List.append_assoc, ← hsp, List.length_append, hpl, fourB_len] at a2
  refine ⟨a1, a2, ?_⟩
  have h9 := congrArg List.length h
  simp only [List.length_drop, List.length_append, fourB_len] at h9
  omega
/-- The first index in the order whose ID is not before id. -/
theorem sort_find {l : List Ep} (hd : (l.map Ep.id).Nodup) {id : ByteArray} {k : Nat} (h1 : ∀ j, j < k → ∀ h : j < (sortE l).length, bO (idAt l (sortE l)[j]) id = true) (h2 : ∀ h : k < (sortE l).length, bO (idAt l (sortE l)[k]) id = false) (hk : k ≤ (sortE l).length) :
    (∃ h : k < (sortE l).length, idAt l (sortE l)[k] = id) ∨ (∀ x ∈ l, x.id ≠ id) ∧ ∀ h : k < (sortE l).length, idAt l (sortE l)[k] ≠ id := by
  by_cases he : ∃ h : k < (sortE l).length, idAt l (sortE l)[k] = id
  · exact .inl he
  · refine .inr ⟨fun x hx e => ?_, fun h e => he ⟨h, e⟩⟩
    obtain ⟨i, hi, rfl⟩ := List.getElem_of_mem hx
    have hm : i ∈ sortE l := (sortE_perm l).mem_iff.2 (List.mem_range.2 hi)
    obtain ⟨q, hq, hqe⟩ := List.getElem_of_mem hm
    have hs := sortE_strict hd
    rw [List.pairwise_iff_getElem] at hs
    have hid : idAt l (sortE l)[q] = id := by rw [hqe, idAt_lt hi, e]
    rcases Nat.lt_trichotomy q k with h | h | h
    · have := h1 q h hq
      rw [hid, bO_irrefl] at this; cases this
    · subst h; exact he ⟨hq, hid⟩
    · have a := hs k q (by omega) hq h
      rw [hid] at a
      rw [h2 (by omega)] at a; cases a
end Go.Proofs.YtngpajaghadhdaaGreatDoor
