/- What is recovered from bytes, plainly. -/
import Derived.Test.YtoghaehcmbonnaaGreatDoorJrnG
import Derived.Test.YtoghaehcmbonnaaGreatDoorOpen3
import Derived.Test.YtoghaehcmbonnaaGreatDoorDigPl
namespace Go.Proofs.YtoghaehcmbonnaaGreatDoor
open Go.RowKit
set_option maxRecDepth 100000
/-- The number with decimal digits. -/
def decNum (l : List UInt8) : Nat := l.foldl (fun n b => 10 * n + (b.toNat - 48)) 0
theorem decNum_snoc (l : List UInt8) (b : UInt8) : decNum (l ++ [b]) = 10 * decNum l + (b.toNat - 48) := by unfold decNum; rw [List.foldl_append]; rfl
def digB (b : UInt8) : Bool := decide (48 ≤ b.toNat ∧ b.toNat ≤ 57)
theorem digit_nat {d : Nat} (h : d < 10) : (UInt8.ofNat (48 + d)).toNat = 48 + d := by
  rw [UInt8.toNat_ofNat']
  omega
theorem padL_dig (i : Nat) : ∀ n, ∀ b ∈ padL i n, digB b = true := by
  induction i with
  | zero => intro n b hb; simp [padL] at hb
  | succ i ih =>
    intro n b hb
    rw [padL, List.mem_append, List.mem_singleton] at hb
    rcases hb with hb | rfl
    · exact ih _ b hb
    · have h1 : n % 10 < 10 := Nat.mod_lt _ (by omega)
      unfold digB
      rw [digit_nat h1, decide_eq_true_iff]
      omega
theorem padL_num (i : Nat) : ∀ n, decNum (padL i n) = n % 10 ^ i := by
  induction i with
  | zero => intro n; simp [padL, decNum, Nat.mod_one]
  | succ i ih =>
    intro n
    have h1 : n % 10 < 10 := Nat.mod_lt _ (by omega)
    rw [padL, decNum_snoc, ih, digit_nat h1, Nat.pow_succ, Nat.mul_comm (10 ^ i) 10, Nat.mod_mul]
    omega
theorem padL_of (i : Nat) : ∀ l : List UInt8, l.length = i → (∀ b ∈ l, digB b = true) → padL i (decNum l) = l := by
  induction i with
  | zero => intro l hl _; rw [List.eq_nil_of_length_eq_zero hl]; rfl
  | succ i ih =>
    intro l hl hd
    have hne : l ≠ [] := fun e => by rw [e] at hl; cases hl
    obtain ⟨u, x, rfl⟩ : ∃ u x, l = u ++ [x] := ⟨l.dropLast, l.getLast hne, (List.dropLast_concat_getLast hne).symm⟩
    have hu : u.length = i := by rw [List.length_append] at hl; simp at hl; exact hl
    have hx := hd x (by simp)
    unfold digB at hx
    rw [decide_eq_true_iff] at hx
    have hx2 : x.toNat - 48 < 10 := by omega
    rw [decNum_snoc, padL, show (10 * decNum u + (x.toNat - 48)) / 10 = decNum u by omega, ih u hu (fun b hb => hd b (List.mem_append_left _ hb)), show (10 * decNum u + (x.toNat - 48)) % 10 = x.toNat - 48 by omega, show 48 + (x.toNat - 48) = x.toNat by omega, UInt8.ofNat_toNat]
theorem eight8_num {n : Nat} (h : n < 100000000) : decNum (eight8 n) = n := by
  unfold eight8
  rw [padL_num]
  exact Nat.mod_eq_of_lt (by simpa using h)
theorem frameH_take (n : Nat) : (frameH n).take 8 = eight8 n := by unfold frameH; exact List.take_left' (eight8_length n)
theorem frameH_inj {n m : Nat} (hn : n < 100000000) (hm : m < 100000000) (h : frameH n = frameH m) : n = m := by
  have h2 := congrArg (fun l => decNum (l.take 8)) h
  simp only [frameH_take] at h2
  rwa [eight8_num hn, eight8_num hm] at h2
/-- The number of a header. -/
def hdrJ (b : List UInt8) : Option Nat := if decNum (b.take 8) ≤ 300000 ∧ b.take 18 = frameH (decNum (b.take 8)) then some (decNum (b.take 8)) else none
theorem hdrJ_iff {b : List UInt8} {n : Nat} : hdrJ b = some n ↔ n ≤ 300000 ∧ b.take 18 = frameH n := by
  unfold hdrJ
  constructor
  · intro h
    split at h
    · injection h with h
      rw [← h]
      assumption
    · cases h
  · rintro ⟨h1, h2⟩
    have h3 : b.take 8 = eight8 n := by
      have h4 := congrArg (List.take 8) h2
      rwa [List.take_take, frameH_take, show min 8 18 = 8 from rfl] at h4
    rw [h3, eight8_num (by omega), if_pos ⟨h1, h2⟩]
theorem hdrJ_none {b : List UInt8} (h : b.length < 18) : hdrJ b = none := by
  cases hh : hdrJ b with
  | none => rfl
  | some n =>
    have h2 := congrArg List.length (hdrJ_iff.1 hh).2
    rw [frameH_length, List.length_take] at h2
    omega
/-- The event of the frame with which bytes begin, the number of its bytes, and the error. -/
def nextJ (b : List UInt8) (k : Nat) : Ev × Nat × Int :=
  match hdrJ b with
  | none => (ev0, 0, 4)
  | some n =>
    if b.length < 18 + n + 8 then (ev0, 0, 4)
    else if (openR k ((b.drop 18).take (n + 8))).2 ≠ 0 then (ev0, 0, ((openR k ((b.drop 18).take (n + 8))).2 : Nat))
    else ((decE (openR k ((b.drop 18).take (n + 8))).1).1, 18 + n + 8, (decE (openR k ((b.drop 18).take (n + 8))).1).2)
/-- An event whose encoding is not too long. -/
def OkE (x : Ev) : Prop := GoodE x ∧ (encE x).length ≤ 300000
theorem encE_sum (x : Ev) : sumE x ≤ (encE x).length := by
  have h1 : ∀ s : ByteArray, s.size ≤ (encS (bys s)).length := fun s => by unfold encS; rw [List.length_append, bys_len]; omega
  have a1 := h1 x.who
  have a2 := h1 x.name
  have a3 := h1 x.id
  have a4 := h1 x.text
  unfold encE sumE
  simp only [List.length_append]
  omega
theorem decE_okE {x : Ev} (h : OkE x) : decE (encE x) = (x, 0) := by
  have h1 := encE_sum x
  unfold sumE at h1
  have h2 := h.2
  exact decE_enc x h.1 ⟨by omega, by omega, by omega, by omega⟩
theorem frame_length (x : Ev) (k : Nat) : (frameH (encE x).length ++ sealL k (encE x)).length = 26 + (encE x).length := by
  rw [List.length_append, frameH_length, sealL_len]
  omega
theorem frame_take (x : Ev) (k : Nat) (t : List UInt8) : ((frameH (encE x).length ++ sealL k (encE x)) ++ t).take 18 = frameH (encE x).length := by
  rw [List.append_assoc, List.take_left' (frameH_length _)]
theorem nextJ_of {x : Ev} {k : Nat} (hk : k < 18446744073709551616) (h : OkE x) (t : List UInt8) : nextJ ((frameH (encE x).length ++ sealL k (encE x)) ++ t) k = (x, 26 + (encE x).length, 0) := by
  have h1 : hdrJ ((frameH (encE x).length ++ sealL k (encE x)) ++ t) = some (encE x).length := hdrJ_iff.2 ⟨h.2, frame_take x k t⟩
  have h2 : (((frameH (encE x).length ++ sealL k (encE x)) ++ t).drop 18).take ((encE x).length + 8) = sealL k (encE x) := by
    rw [List.append_assoc, List.drop_left' (frameH_length _), List.take_left' (sealL_len _ _)]
  have h3 : openR k (sealL k (encE x)) = (encE x, 0) := by rw [open_seal hk hk, if_pos rfl]
  unfold nextJ
  rw [h1]
  dsimp only
  rw [h2, h3, if_neg (by rw [List.length_append, frame_length]; omega), if_neg (by simp), decE_okE h]
  dsimp only
  rw [show 18 + (encE x).length + 8 = 26 + (encE x).length by omega]
theorem openR_ok {k : Nat} {s p : List UInt8} (h : openR k s = (p, 0)) : s = sealL k p := by
  unfold openR at h
  by_cases h8 : s.length < 8
  · rw [if_pos h8] at h
    cases h
  · rw [if_neg h8] at h
    by_cases h9 : s.drop (s.length - 8) = eightL (sealN k (s.take (s.length - 8)))
    · rw [if_pos h9] at h
      injection h with h _
      rw [← h]
      unfold sealL
      rw [← h9, List.take_append_drop]
    · rw [if_neg h9] at h
      injection h with _ h
      cases h
theorem nextJ_ok {b : List UInt8} {k n : Nat} {x : Ev} (h : nextJ b k = (x, n, 0)) : OkE x ∧ n = 26 + (encE x).length ∧ n ≤ b.length ∧ b.take n = frameH (encE x).length ++ sealL k (encE x) := by
  unfold nextJ at h
  cases hh : hdrJ b with
  | none => rw [hh] at h; simp at h
  | some m =>
    rw [hh] at h
    dsimp only at h
    by_cases h1 : b.length < 18 + m + 8
    · rw [if_pos h1] at h; simp at h
    rw [if_neg h1] at h
    obtain ⟨r, hr⟩ : ∃ r, r = openR k ((b.drop 18).take (m + 8)) := ⟨_, rfl⟩
    rw [← hr] at h
    by_cases h2 : r.2 ≠ 0
    · rw [if_pos h2] at h
      injection h with _ h
      injection h with _ h
      omega
    rw [if_neg h2] at h
    injection h with hx h
    injection h with hn he
    have h3 : (b.drop 18).take (m + 8) = sealL k r.1 := openR_ok (by
      rw [← hr]
      obtain ⟨a, c⟩ := r
      have : c = 0 := by simpa using h2
      rw [this])
    have hl : r.1.length = m := by
      have h4 := congrArg List.length h3
      rw [sealL_len, List.length_take, List.length_drop] at h4
      omega
    obtain ⟨d1, d2, _⟩ := decE_ok he
    rw [hx] at d1 d2
    obtain ⟨g1, g2⟩ := hdrJ_iff.1 hh
    have hm : (encE x).length = m := by rw [d1, hl]
    refine ⟨⟨d2, by omega⟩, by omega, by omega, ?_⟩
    rw [hm, d1, ← h3, ← g2, ← hn, show 18 + m + 8 = 18 + (m + 8) by omega, List.take_add]
theorem nextJ_nil (k : Nat) : nextJ [] k = (ev0, 0, 4) := by
  unfold nextJ
  rw [hdrJ_none (by decide)]
/-- A frame that is cut off. -/
theorem nextJ_cut {x : Ev} {k q : Nat} (h : OkE x) (hq : q < 26 + (encE x).length) : (nextJ ((frameH (encE x).length ++ sealL k (encE x)).take q) k).2.2 = 4 := by
  have hl : ((frameH (encE x).length ++ sealL k (encE x)).take q).length = q := by rw [List.length_take, frame_length]; omega
  unfold nextJ
  by_cases h18 : q < 18
  · rw [hdrJ_none (by omega)]
  · have h1 : hdrJ ((frameH (encE x).length ++ sealL k (encE x)).take q) = some (encE x).length := hdrJ_iff.2 ⟨h.2, by rw [List.take_take, Nat.min_eq_left (by omega), List.take_left' (frameH_length _)]⟩
    rw [h1]
    dsimp only
    rw [hl, if_pos (by omega)]
theorem list8 {α : Type} {l : List α} (h : l.length = 8) : ∃ a b c d e f g i, l = [a, b, c, d, e, f, g, i] := by
  match l, h with
  | [a, b, c, d, e, f, g, i], _ => exact ⟨a, b, c, d, e, f, g, i, rfl⟩
set_option maxHeartbeats 1600000 in
theorem frameH_dam {n m q : Nat} {v : UInt8} (hq : q < 18) (hv : (frameH n)[q]'(by rw [frameH_length]; exact hq) ≠ v) : (frameH n).set q v ≠ frameH m := by
  intro e
  obtain ⟨a0, a1, a2, a3, a4, a5, a6, a7, ha⟩ := list8 (eight8_length n)
  obtain ⟨b0, b1, b2, b3, b4, b5, b6, b7, hb⟩ := list8 (eight8_length m)
  have hfn : frameH n = [a0, a1, a2, a3, a4, a5, a6, a7, 61, a0, a1, a2, a3, a4, a5, a6, a7, 10] := by unfold frameH; rw [ha]; rfl
  have hfm : frameH m = [b0, b1, b2, b3, b4, b5, b6, b7, 61, b0, b1, b2, b3, b4, b5, b6, b7, 10] := by unfold frameH; rw [hb]; rfl
  have hv2 : (frameH n)[q]? ≠ some v := by
    rw [List.getElem?_eq_getElem (by rw [frameH_length]; exact hq)]
    intro e2
    exact hv (Option.some.inj e2)
  rw [hfn] at hv2 e
  rw [hfm] at e
  clear hv hfn hfm ha hb
  match q, hq with
  | 0, _ | 1, _ | 2, _ | 3, _ | 4, _ | 5, _ | 6, _ | 7, _ | 8, _ | 9, _ | 10, _ | 11, _ | 12, _ | 13, _ | 14, _ | 15, _ | 16, _ | 17, _ =>
    simp only [List.set_cons_zero, List.set_cons_succ, List.cons.injEq, and_true] at e
    apply hv2
    simp_all
  | q + 18, h => exact absurd h (by omega)
/-- A frame with one byte changed. -/
theorem nextJ_dam {x : Ev} {k q : Nat} {v : UInt8} (hk : k < 18446744073709551616) (h : OkE x) (hq : q < (frameH (encE x).length ++ sealL k (encE x)).length) (hv : (frameH (encE x).length ++ sealL k (encE x))[q] ≠ v) (t : List UInt8) :
    (nextJ ((frameH (encE x).length ++ sealL k (encE x)).set q v ++ t) k).2.2 ≠ 0 := by
  intro e
  obtain ⟨y, n, e2, hn⟩ : ∃ y n e2, nextJ ((frameH (encE x).length ++ sealL k (encE x)).set q v ++ t) k = (y, n, e2) := ⟨_, _, _, rfl⟩
  rw [hn] at e
  dsimp only at e
  subst e
  have hn0 := hn
  obtain ⟨hy, rfl, hl, htk⟩ := nextJ_ok hn
  have h18 : ((frameH (encE x).length ++ sealL k (encE x)).set q v ++ t).take 18 = frameH (encE y).length := by
    have h1 := congrArg (List.take 18) htk
    rwa [List.take_take, Nat.min_eq_left (by omega), List.take_left' (frameH_length _)] at h1
  have hlen : ((frameH (encE x).length ++ sealL k (encE x)).set q v).length = 26 + (encE x).length := by rw [List.length_set, frame_length]
  rw [List.take_append_of_le_length (by rw [hlen]; omega)] at h18
  by_cases h8 : q < 18
  · rw [List.set_append_left _ _ (by rw [frameH_length]; exact h8), List.take_left' (by rw [List.length_set, frameH_length])] at h18
    refine frameH_dam h8 ?_ h18
    intro e3
    apply hv
    rw [← e3]
    exact List.getElem_append_left _
  · rw [List.set_append_right _ _ (by rw [frameH_length]; omega), frameH_length, List.take_left' (frameH_length _)] at h18
    have hxy := frameH_inj (by have := h.2; omega) (by have := hy.2; omega) h18
    have hq2 : q - 18 < (sealL k (encE x)).length := by rw [frame_length] at hq; rw [sealL_len]; omega
    have hv2 : (sealL k (encE x))[q - 18] ≠ v := by
      intro e3
      apply hv
      rw [← e3]
      have h9 := List.getElem_append_right (show (frameH (encE x).length).length ≤ q by rw [frameH_length]; omega) (h₂ := hq)
      rw [h9]
      simp only [frameH_length]
    have hd := open_damage hk hq2 hv2
    have hz : hdrJ ((frameH (encE x).length ++ sealL k (encE x)).set q v ++ t) = some (encE x).length := hdrJ_iff.2 ⟨h.2, by
      rw [List.take_append_of_le_length (by rw [hlen]; omega), List.set_append_right _ _ (by rw [frameH_length]; omega), List.take_left' (frameH_length _)]⟩
    have hz2 : (((frameH (encE x).length ++ sealL k (encE x)).set q v ++ t).drop 18).take ((encE x).length + 8) = (sealL k (encE x)).set (q - 18) v := by
      rw [List.set_append_right _ _ (by rw [frameH_length]; omega), frameH_length, List.append_assoc, List.drop_left' (frameH_length _), List.take_left' (by rw [List.length_set, sealL_len])]
    unfold nextJ at hn0
    rw [hz] at hn0
    dsimp only at hn0
    rw [hz2, hd] at hn0
    split at hn0
    · injection hn0 with _ h1
      injection h1 with _ h1
      cases h1
    · simp at hn0
/-- What a journal holds. -/
theorem runJ_st (l : List Ev) : (runJ l).k < 18446744073709551616 ∧ (runJ l).es.length = l.length ∧ (runJ l).ks.length = l.length ∧ 5 + 26 * l.length ≤ (runJ l).bs.length := by
  generalize hn : l.length = n
  induction n generalizing l with
  | zero =>
    obtain rfl := List.eq_nil_of_length_eq_zero hn
    exact ⟨by decide, rfl, rfl, by decide⟩
  | succ n ih =>
    have hne : l ≠ [] := fun e => by rw [e] at hn; cases hn
    obtain ⟨u, x, rfl⟩ : ∃ u x, l = u ++ [x] := ⟨l.dropLast, l.getLast hne, (List.dropLast_concat_getLast hne).symm⟩
    have hn2 : u.length = n := by rw [List.length_append] at hn; simp at hn; exact hn
    obtain ⟨h1, h2, h3, h4⟩ := ih u hn2
    rw [runJ_snoc]
    unfold stepJ
    refine ⟨seal_lt h1 _, ?_, ?_, ?_⟩
    · simp [h2]
    · simp [h3]
    · show _ ≤ ((runJ u).bs ++ _).length
      rw [List.length_append, frame_length]
      omega
theorem runJ_next (l : List Ev) (i : Nat) (h : i < l.length) : runJ (l.take (i + 1)) = stepJ (runJ (l.take i)) l[i] := by
  rw [List.take_succ_eq_append_getElem h, runJ_snoc]
theorem runJ_bs (l : List Ev) (x : Ev) : (runJ (l ++ [x])).bs = (runJ l).bs ++ (frameH (encE x).length ++ sealL (runJ l).k (encE x)) := by rw [runJ_snoc]; rfl
theorem runJ_k (l : List Ev) (x : Ev) : (runJ (l ++ [x])).k = sealN (runJ l).k (encE x) := by rw [runJ_snoc]; rfl
theorem runJ_bslen (l : List Ev) (x : Ev) : (runJ (l ++ [x])).bs.length = (runJ l).bs.length + (26 + (encE x).length) := by rw [runJ_bs, List.length_append, frame_length]
theorem runJ_pre (u t : List Ev) : ∃ r, (runJ (u ++ t)).bs = (runJ u).bs ++ r := by
  generalize hn : t.length = n
  induction n generalizing t with
  | zero =>
    obtain rfl := List.eq_nil_of_length_eq_zero hn
    exact ⟨[], by rw [List.append_nil, List.append_nil]⟩
  | succ n ih =>
    have hne : t ≠ [] := fun e => by rw [e] at hn; cases hn
    obtain ⟨v, x, rfl⟩ : ∃ v x, t = v ++ [x] := ⟨t.dropLast, t.getLast hne, (List.dropLast_concat_getLast hne).symm⟩
    obtain ⟨r, hr⟩ := ih v (by rw [List.length_append] at hn; simp at hn; exact hn)
    exact ⟨r ++ (frameH (encE x).length ++ sealL (runJ (u ++ v)).k (encE x)), by rw [← List.append_assoc, runJ_bs, hr, List.append_assoc]⟩
/-- l is what stands at the beginning of b. -/
def RecJ (b : List UInt8) (l : List Ev) : Prop := b.take 5 = magicL ∧ ∀ i (h : i < l.length), nextJ (b.drop (runJ (l.take i)).bs.length) (runJ (l.take i)).k = (l[i], 26 + (encE l[i]).length, 0)
/-- l is what is recovered from b, and e is the error. -/
def FinJ (b : List UInt8) (l : List Ev) (e : Int) : Prop := RecJ b l ∧ (((runJ l).bs.length = b.length ∧ e = 0) ∨ ((runJ l).bs.length < b.length ∧ (nextJ (b.drop (runJ l).bs.length) (runJ l).k).2.2 = e ∧ e ≠ 0))
theorem RecJ.take {b : List UInt8} {l : List Ev} (h : RecJ b l) (n : Nat) : RecJ b (l.take n) := by
  refine ⟨h.1, fun i hi => ?_⟩
  have hi2 := hi
  rw [List.length_take] at hi2
  have h1 := h.2 i (by omega)
  rw [List.take_take, Nat.min_eq_left (by omega), List.getElem_take]
  exact h1
theorem RecJ.nil_ {b : List UInt8} (h : b.take 5 = magicL) : RecJ b [] := ⟨h, fun _ hi => absurd hi (Nat.not_lt_zero _)⟩
theorem RecJ.snoc {b : List UInt8} {l : List Ev} {x : Ev} {n : Nat} (h : RecJ b l) (hx : nextJ (b.drop (runJ l).bs.length) (runJ l).k = (x, n, 0)) : RecJ b (l ++ [x]) := by
  obtain ⟨_, hn, _, _⟩ := nextJ_ok hx
  refine ⟨h.1, fun i hi => ?_⟩
  by_cases hlt : i < l.length
  · rw [List.take_append_of_le_length (by omega), List.getElem_append_left hlt]
    exact h.2 i hlt
  · have : i = l.length := by rw [List.length_append] at hi; simp at hi; omega
    subst this
    rw [List.take_left' rfl, List.getElem_append_right (Nat.le_refl _)]
    simp only [Nat.sub_self, List.getElem_cons_zero]
    rw [hx, hn]
theorem RecJ.at_ {b : List UInt8} {l : List Ev} (h : RecJ b l) (i : Nat) (hi : i ≤ l.length) : (runJ (l.take i)).bs = b.take (runJ (l.take i)).bs.length ∧ (runJ (l.take i)).bs.length ≤ b.length := by
  induction i with
  | zero =>
    rw [List.take_zero]
    refine ⟨h.1.symm, ?_⟩
    have h1 := congrArg List.length h.1
    rw [List.length_take] at h1
    show 5 ≤ b.length
    have h2 : magicL.length = 5 := rfl
    omega
  | succ i ih =>
    obtain ⟨h1, h2⟩ := ih (by omega)
    have hlt : i < l.length := hi
    obtain ⟨_, _, h4, h5⟩ := nextJ_ok (h.2 i hlt)
    rw [List.length_drop] at h4
    rw [List.take_succ_eq_append_getElem hlt]
    have h6 := runJ_bslen (l.take i) l[i]
    have h7 := runJ_bs (l.take i) l[i]
    refine ⟨?_, by omega⟩
    rw [h6, List.take_add, ← h1, h5, h7]
theorem RecJ.bs {b : List UInt8} {l : List Ev} (h : RecJ b l) : (runJ l).bs = b.take (runJ l).bs.length ∧ (runJ l).bs.length ≤ b.length := by
  have h1 := h.at_ l.length (Nat.le_refl _)
  rwa [List.take_length] at h1
theorem RecJ.ok {b : List UInt8} {l : List Ev} (h : RecJ b l) : ∀ x ∈ l, OkE x := fun x hx => by
  obtain ⟨i, hi, rfl⟩ := List.getElem_of_mem hx
  exact (nextJ_ok (h.2 i hi)).1
theorem RecJ.eq {b : List UInt8} {l l' : List Ev} (h : RecJ b l) (h' : RecJ b l') (n : Nat) (hn : n ≤ l.length) (hn' : n ≤ l'.length) : l.take n = l'.take n := by
  induction n with
  | zero => rfl
  | succ n ih =>
    have h1 := ih (by omega) (by omega)
    have h2 := h.2 n hn
    have h3 := h'.2 n hn'
    rw [h1, h3] at h2
    injection h2 with h2 _
    rw [List.take_succ_eq_append_getElem (show n < l.length from hn), List.take_succ_eq_append_getElem (show n < l'.length from hn'), h1, h2]
theorem FinJ.stuck {b : List UInt8} {l l' : List Ev} {e : Int} (h : FinJ b l e) (h' : RecJ b l') : l'.length ≤ l.length := by
  rcases Nat.lt_or_ge l.length l'.length with hlt | hge
  · exfalso
    have h1 := RecJ.eq h.1 h' l.length (Nat.le_refl _) (by omega)
    rw [List.take_length] at h1
    have h2 := h'.2 l.length hlt
    rw [← h1] at h2
    rcases h.2 with ⟨h3, _⟩ | ⟨_, h3, h4⟩
    · rw [h3, List.drop_length, nextJ_nil] at h2
      injection h2 with _ h2
      injection h2 with _ h2
      cases h2
    · rw [h2] at h3
      exact h4 h3.symm
  · exact hge
/-- What is recovered is one thing. -/
theorem FinJ.uniq {b : List UInt8} {l l' : List Ev} {e e' : Int} (h : FinJ b l e) (h' : FinJ b l' e') : l = l' ∧ e = e' := by
  have hl : l.length = l'.length := Nat.le_antisymm (h'.stuck h.1) (h.stuck h'.1)
  have h1 := RecJ.eq h.1 h'.1 l.length (Nat.le_refl _) (by omega)
  rw [List.take_length, hl, List.take_length] at h1
  subst h1
  refine ⟨rfl, ?_⟩
  rcases h.2 with ⟨a1, a2⟩ | ⟨a1, a2, a3⟩
  · rcases h'.2 with ⟨b1, b2⟩ | ⟨b1, b2, b3⟩
    · rw [a2, b2]
    · omega
  · rcases h'.2 with ⟨b1, b2⟩ | ⟨b1, b2, b3⟩
    · omega
    · rw [← a2, ← b2]
theorem runJ_rec {b : List UInt8} (l : List Ev) (hok : ∀ x ∈ l, OkE x) (hpre : ∃ t, b = (runJ l).bs ++ t) : RecJ b l := by
  generalize hn : l.length = n
  induction n generalizing l with
  | zero =>
    obtain rfl := List.eq_nil_of_length_eq_zero hn
    obtain ⟨t, rfl⟩ := hpre
    exact RecJ.nil_ (by show (magicL ++ t).take 5 = magicL; exact List.take_left' rfl)
  | succ n ih =>
    have hne : l ≠ [] := fun e => by rw [e] at hn; cases hn
    obtain ⟨u, x, rfl⟩ : ∃ u x, l = u ++ [x] := ⟨l.dropLast, l.getLast hne, (List.dropLast_concat_getLast hne).symm⟩
    obtain ⟨t, rfl⟩ := hpre
    have h1 := ih u (fun y hy => hok y (List.mem_append_left _ hy)) ⟨(frameH (encE x).length ++ sealL (runJ u).k (encE x)) ++ t, by rw [runJ_bs, List.append_assoc]⟩ (by rw [List.length_append] at hn; simp at hn; exact hn)
    refine RecJ.snoc (n := 26 + (encE x).length) h1 ?_
    rw [runJ_bs, List.append_assoc, List.drop_left' rfl]
    exact nextJ_of (runJ_st u).1 (hok x (by simp)) t
/-- All of a journal is recovered from its bytes. -/
theorem FinJ.all (l : List Ev) (hok : ∀ x ∈ l, OkE x) : FinJ (runJ l).bs l 0 := ⟨runJ_rec l hok ⟨[], (List.append_nil _).symm⟩, .inl ⟨rfl, rfl⟩⟩
/-- From the beginning of the bytes of a journal. -/
theorem FinJ.crash {l : List Ev} (hok : ∀ x ∈ l, OkE x) {k n : Nat} (h1 : (runJ (l.take n)).bs.length ≤ k) (h2 : n < l.length → k < (runJ (l.take (n + 1))).bs.length) (hk : k ≤ (runJ l).bs.length) :
    FinJ ((runJ l).bs.take k) (l.take n) (if (runJ (l.take n)).bs.length = k then 0 else 4) := by
  obtain ⟨t, ht⟩ := runJ_pre (l.take n) (l.drop n)
  rw [List.take_append_drop] at ht
  have hok2 : ∀ x ∈ l.take n, OkE x := fun x hx => hok x (List.mem_of_mem_take hx)
  have hlen : ((runJ l).bs.take k).length = k := by rw [List.length_take]; omega
  refine ⟨runJ_rec _ hok2 ⟨t.take (k - (runJ (l.take n)).bs.length), ?_⟩, ?_⟩
  · rw [ht, List.take_append, List.take_of_length_le h1]
  · by_cases he : (runJ (l.take n)).bs.length = k
    · rw [if_pos he]
      exact .inl ⟨by rw [hlen]; exact he, rfl⟩
    · rw [if_neg he]
      refine .inr ⟨by rw [hlen]; omega, ?_, by decide⟩
      have hlt : n < l.length := by
        rcases Nat.lt_or_ge n l.length with h | h
        · exact h
        · rw [List.take_of_length_le h] at he h1
          omega
      have h3 := h2 hlt
      obtain ⟨t2, ht2⟩ := runJ_pre (l.take (n + 1)) (l.drop (n + 1))
      rw [List.take_append_drop, List.take_succ_eq_append_getElem hlt, runJ_bs, List.append_assoc] at ht2
      rw [List.take_succ_eq_append_getElem hlt, runJ_bslen] at h3
      obtain ⟨fr, hfr⟩ : ∃ fr, fr = frameH (encE l[n]).length ++ sealL (runJ (l.take n)).k (encE l[n]) := ⟨_, rfl⟩
      have hfl := frame_length l[n] (runJ (l.take n)).k
      rw [← hfr] at ht2 hfl
      have h4 : ((runJ l).bs.take k).drop (runJ (l.take n)).bs.length = fr.take (k - (runJ (l.take n)).bs.length) := by
        rw [List.drop_take, ht2, List.drop_left' rfl, List.take_append_of_le_length (by omega)]
      rw [h4, hfr]
      exact nextJ_cut (hok _ (List.getElem_mem hlt)) (by omega)
/-- From the bytes of a journal with one of them changed. -/
theorem FinJ.damage {l : List Ev} (hok : ∀ x ∈ l, OkE x) {k n : Nat} {v : UInt8} (hn : n < l.length) (h1 : (runJ (l.take n)).bs.length ≤ k) (h2 : k < (runJ (l.take (n + 1))).bs.length) (hk : k < (runJ l).bs.length) (hv : (runJ l).bs[k] ≠ v) :
    ∃ e, FinJ ((runJ l).bs.set k v) (l.take n) e ∧ e ≠ 0 := by
  obtain ⟨t2, ht2⟩ := runJ_pre (l.take (n + 1)) (l.drop (n + 1))
  rw [List.take_append_drop, List.take_succ_eq_append_getElem hn, runJ_bs, List.append_assoc] at ht2
  rw [List.take_succ_eq_append_getElem hn, runJ_bslen] at h2
  have hfl := frame_length l[n] (runJ (l.take n)).k
  have hok2 : ∀ x ∈ l.take n, OkE x := fun x hx => hok x (List.mem_of_mem_take hx)
  have hq : k - (runJ (l.take n)).bs.length < (frameH (encE l[n]).length ++ sealL (runJ (l.take n)).k (encE l[n])).length := by omega
  have hset : (runJ l).bs.set k v = (runJ (l.take n)).bs ++ ((frameH (encE l[n]).length ++ sealL (runJ (l.take n)).k (encE l[n])).set (k - (runJ (l.take n)).bs.length) v ++ t2) := by
    rw [ht2, List.set_append_right _ _ h1, List.set_append_left _ _ hq]
  have hvq : (frameH (encE l[n]).length ++ sealL (runJ (l.take n)).k (encE l[n]))[k - (runJ (l.take n)).bs.length] ≠ v := by
    intro e
    apply hv
    rw [← e]
    have h5 : (runJ l).bs[k]? = (frameH (encE l[n]).length ++ sealL (runJ (l.take n)).k (encE l[n]))[k - (runJ (l.take n)).bs.length]? := by
      rw [ht2, List.getElem?_append_right h1, List.getElem?_append_left hq]
    rw [List.getElem?_eq_getElem hk, List.getElem?_eq_getElem hq] at h5
    exact Option.some.inj h5
  have hd := nextJ_dam (runJ_st (l.take n)).1 (hok _ (List.getElem_mem hn)) hq hvq t2
  refine ⟨_, ⟨runJ_rec _ hok2 ⟨_, hset⟩, .inr ⟨by rw [List.length_set]; omega, ?_, hd⟩⟩, hd⟩
  rw [hset, List.drop_left' rfl]
end Go.Proofs.YtoghaehcmbonnaaGreatDoor
