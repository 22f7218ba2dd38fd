/- Locale tags: what is written is read back. -/
import Derived.Test.YtdgppdiickmofaaGreatDoorPQ02
import Derived.Sort.Walk0
namespace Go.Proofs.YtdgppdiickmofaaGreatDoor
set_option maxRecDepth 100000
theorem index_mid (x r : List UInt8) (c : UInt8) (h : c ∉ x) : Lib.index (x ++ c :: r) [c] = x.length := by
  induction x with
  | nil => simp [Lib.index]
  | cons a t ih =>
    rw [List.mem_cons, not_or] at h
    rw [List.cons_append, Lib.index]
    have h1 : ([c] : List UInt8).isPrefixOf (a :: (t ++ c :: r)) = false := by
      simp [List.isPrefixOf, h.1]
    have h2 := ih h.2
    simp [h1, h2]
theorem count_app (x y : List UInt8) (c : UInt8) : Lib.count (x ++ y) [c] = Lib.count x [c] + Lib.count y [c] := by
  rw [Lib.count_one, Lib.count_one, Lib.count_one, List.count_append]
theorem count_zero {x : List UInt8} {c : UInt8} (h : c ∉ x) : Lib.count x [c] = 0 := by rw [Lib.count_one, List.count_eq_zero]; exact h
theorem join_cc (x y : List UInt8) (r : List (List UInt8)) (c : UInt8) : Lib.join (x :: y :: r) [c] = x ++ c :: Lib.join (y :: r) [c] := by
  rw [Lib.join_cons, Lib.join_cons]
  simp [Lib.joinTail]
theorem split_join (c : UInt8) : ∀ (r : List (List UInt8)) (x : List UInt8), c ∉ x → (∀ y ∈ r, c ∉ y) → Lib.split (Lib.join (x :: r) [c]) [c] = x :: r
  | [], x, hx, _ => by
    rw [Lib.join_one, Lib.split, count_zero hx]
    rfl
  | y :: r, x, hx, hr => by
    have ih := split_join c r y (hr y (.head _)) (fun z hz => hr z (.tail _ hz))
    rw [join_cc]
    unfold Lib.split at ih ⊢
    have hc : Lib.count (x ++ c :: Lib.join (y :: r) [c]) [c] = Lib.count (Lib.join (y :: r) [c]) [c] + 1 := by
      rw [count_app, count_zero hx, Lib.count_cons_eq]
      omega
    rw [hc, Lib.splitK, index_mid _ _ _ hx]
    have h1 : (((x.length : Nat) : Int) == -1) = false := by rw [beq_eq_false_iff_ne]; omega
    rw [h1]
    simp only [Bool.false_eq_true, if_false, Int.toNat_natCast, Nat.add_zero, List.take_left', List.length_singleton]
    have h2 : (x ++ c :: Lib.join (y :: r) [c]).drop (x.length + 1) = Lib.join (y :: r) [c] := by
      rw [List.drop_append]
      simp
    rw [h2, ih]
theorem replaceAll_none {s : List UInt8} (h : 95 ∉ s) : Lib.replaceAll s [95] [45] = s := by
  unfold Lib.replaceAll Lib.replace Lib.replaceNum
  rw [count_zero h]
  simp [Lib.replaceK]
theorem join_no {c d : UInt8} (hcd : c ≠ d) : ∀ (l : List (List UInt8)), (∀ y ∈ l, c ∉ y) → c ∉ Lib.join l [d]
  | [], _ => by rw [Lib.join_nil]; exact List.not_mem_nil
  | [x], h => by rw [Lib.join_one]; exact h x (.head _)
  | x :: y :: r, h => by
    rw [join_cc, List.mem_append, List.mem_cons]
    rintro (h1 | h1 | h1)
    · exact h x (.head _) h1
    · exact hcd h1
    · exact join_no hcd (y :: r) (fun z hz => h z (.tail _ hz)) h1
theorem pcs_join {l : List (List UInt8)} (hne : l ≠ []) (h : ∀ y ∈ l, 45 ∉ y ∧ 95 ∉ y) : pcs (Lib.join l [45]) = l := by
  unfold pcs
  rw [replaceAll_none (join_no (by decide) l fun y hy => (h y hy).2)]
  cases l with
  | nil => exact absurd rfl hne
  | cons x r => exact split_join 45 r x (h x (.head _)).1 (fun y hy => (h y (.tail _ hy)).1)
theorem loB_sm {b : UInt8} (h : smB b = true) : loB b = b := by
  unfold loB
  rw [if_neg]
  unfold smB at h
  unfold cpB
  simp only [Bool.and_eq_true, decide_eq_true_eq] at h ⊢
  omega
theorem loB_dg {b : UInt8} (h : dgB b = true) : loB b = b := by
  unfold loB
  rw [if_neg]
  unfold dgB at h
  unfold cpB
  simp only [Bool.and_eq_true, decide_eq_true_eq] at h ⊢
  omega
theorem upB_cp {b : UInt8} (h : cpB b = true) : upB b = b := by
  unfold upB
  rw [if_neg]
  unfold cpB at h
  unfold smB
  simp only [Bool.and_eq_true, decide_eq_true_eq] at h ⊢
  omega
theorem upB_dg {b : UInt8} (h : dgB b = true) : upB b = b := by
  unfold upB
  rw [if_neg]
  unfold dgB at h
  unfold smB
  simp only [Bool.and_eq_true, decide_eq_true_eq] at h ⊢
  omega
theorem cp_dg {b : UInt8} (h : dgB b = true) : cpB b = false := by
  unfold dgB at h
  unfold cpB
  simp only [Bool.and_eq_true, decide_eq_true_eq] at h
  simp only [Bool.and_eq_false_iff, decide_eq_false_iff_not]
  omega
theorem map_id' {f : UInt8 → UInt8} {l : List UInt8} (h : ∀ b ∈ l, f b = b) : l.map f = l := by
  induction l with
  | nil => rfl
  | cons a t ih => rw [List.map_cons, h a (.head _), ih fun b hb => h b (.tail _ hb)]
theorem eiB_lo {b : UInt8} (h : eiB b = true) : loB b = b := by
  unfold eiB at h
  rw [Bool.or_eq_true] at h
  exact h.elim loB_sm loB_dg
theorem lang_lo {l : List UInt8} (h : langP l = true) : l.map loB = l := map_id' fun b hb => by
  unfold langP at h
  rw [Bool.and_eq_true, List.all_eq_true] at h
  exact loB_sm (h.2 b hb)
theorem lang_len {l : List UInt8} (h : langP l = true) : l.length = 2 ∨ l.length = 3 := by
  unfold langP at h
  rw [Bool.and_eq_true] at h
  simpa using h.1
theorem scr_len {l : List UInt8} (h : scrP l = true) : l.length = 4 := by
  unfold scrP at h
  rw [Bool.and_eq_true, decide_eq_true_eq] at h
  exact h.1
theorem scr_title {l : List UInt8} (h : scrP l = true) : (l.take 1).map upB ++ (l.drop 1).map loB = l := by
  unfold scrP at h
  rw [Bool.and_eq_true, Bool.and_eq_true, List.all_eq_true] at h
  obtain ⟨_, h1, h2⟩ := h
  cases l with
  | nil => rfl
  | cons a t =>
    have e1 : cpB a = true := by simpa using h1
    have e2 : t.map loB = t := map_id' fun b hb => loB_sm (h2 b hb)
    simp [upB_cp e1, e2]
theorem reg_len {l : List UInt8} (h : regP l = true) : l.length = 2 ∨ l.length = 3 := by
  unfold regP at h
  simp only [Bool.or_eq_true, Bool.and_eq_true, decide_eq_true_eq] at h
  omega
theorem reg_up {l : List UInt8} (h : regP l = true) : l.map upB = l := map_id' fun b hb => by
  unfold regP at h
  simp only [Bool.or_eq_true, Bool.and_eq_true, decide_eq_true_eq, List.all_eq_true] at h
  rcases h with h | h
  · exact upB_cp (h.2 b hb)
  · exact upB_dg (h.2 b hb)
theorem var_len {l : List UInt8} (h : varP l = true) : 4 ≤ l.length := by
  unfold varP at h
  simp only [Bool.or_eq_true, Bool.and_eq_true, decide_eq_true_eq] at h
  omega
theorem var_lo {l : List UInt8} (h : varP l = true) : l.map loB = l := map_id' fun b hb => by
  unfold varP at h
  rw [Bool.and_eq_true, List.all_eq_true] at h
  exact eiB_lo (h.1 b hb)
theorem reg_no {l : List UInt8} (h : 4 ≤ l.length) : regP (l.map upB) = false := by
  cases h1 : regP (l.map upB) with
  | false => rfl
  | true => have := reg_len h1; rw [List.length_map] at this; omega
theorem scr_no {l : List UInt8} (h : l.length ≠ 4) : scrP ((l.take 1).map upB ++ (l.drop 1).map loB) = false := by
  cases h1 : scrP ((l.take 1).map upB ++ (l.drop 1).map loB) with
  | false => rfl
  | true =>
    have := scr_len h1
    rw [List.length_append, List.length_map, List.length_map, List.length_take, List.length_drop] at this
    omega
theorem var_scr {l : List UInt8} (h : varP l = true) : scrP ((l.take 1).map upB ++ (l.drop 1).map loB) = false := by
  by_cases h4 : l.length = 4
  · unfold varP at h
    simp only [Bool.or_eq_true, Bool.and_eq_true, decide_eq_true_eq] at h
    obtain ⟨_, h | h⟩ := h
    · omega
    · cases l with
      | nil => rfl
      | cons a t =>
        have e1 : dgB a = true := by simpa using h.2
        unfold scrP
        simp [upB_dg e1, cp_dg e1]
  · exact scr_no h4
theorem partS_var {x : List UInt8} (h : varP x = true) (k : Nat) (hk : k = 1 ∨ k = 2 ∨ k = 3) (t : Tg) : partS x (k, t) = some (3, { t with vars := t.vars ++ [x] }) := by
  have h1 := var_scr h
  have h2 := reg_no (var_len h)
  have h3 := var_lo h
  rcases hk with rfl | rfl | rfl
  · show (if _ then _ else _) = _
    rw [if_neg (fun e => by rw [h1] at e; exact absurd e.2 (by decide)), if_neg (by rw [h2]; decide), h3, if_pos h]
  · show (if _ then _ else _) = _
    rw [if_neg (by rw [h2]; decide), h3, if_pos h]
  · show (if _ then _ else _) = _
    rw [h3, if_pos h]
theorem foldS_vars : ∀ (l : List (List UInt8)) (_h : ∀ x ∈ l, varP x = true) (k : Nat) (_hk : k = 1 ∨ k = 2 ∨ k = 3) (t : Tg), ∃ k', foldS l (k, t) = some (k', { t with vars := t.vars ++ l })
  | [], _, k, _, t => ⟨k, by rw [List.append_nil]; rfl⟩
  | x :: r, h, k, hk, t => by
    obtain ⟨k', h1⟩ := foldS_vars r (fun y hy => h y (.tail _ hy)) 3 (.inr (.inr rfl)) { t with vars := t.vars ++ [x] }
    refine ⟨k', ?_⟩
    unfold foldS
    rw [partS_var (h x (.head _)) k hk]
    dsimp only
    rw [h1]
    simp
theorem valid_parts {t : Tg} (h : validT t = true) : (∀ x ∈ t.vars, varP x = true) ∧ ascP t.vars = true ∧ langP t.lang = true ∧ (t.scr = [] ∨ scrP t.scr = true) ∧ (t.reg = [] ∨ regP t.reg = true) ∧ t.vars.length ≤ 4 := by
  unfold validT at h
  simp only [Bool.and_eq_true, Bool.or_eq_true, decide_eq_true_eq, List.all_eq_true, List.isEmpty_iff] at h
  exact ⟨h.1.1, h.1.2, h.2.1, h.2.2.1, h.2.2.2.1, h.2.2.2.2⟩
theorem fold_parts {t : Tg} (h : validT t = true) : ∃ k, foldS (partsT t) (0, tg0) = some (k, t) := by
  obtain ⟨h1, _, h3, h4, h5, _⟩ := valid_parts h
  obtain ⟨lang, scr, reg, vars⟩ := t
  dsimp only at h1 h3 h4 h5
  have hln : lang ≠ [] := fun e => by have := lang_len h3; rw [e] at this; simp at this
  have hvn : vars.filter (fun l => !l.isEmpty) = vars := List.filter_eq_self.2 fun x hx => by
    have := var_len (h1 x hx)
    cases x with
    | nil => simp at this
    | cons _ _ => rfl
  have hl0 : partS lang (0, tg0) = some (1, ⟨lang, [], [], []⟩) := by
    simp [partS, lang_lo h3, h3, tg0]
  have key : ∀ (k : Nat) (_hk : k = 1 ∨ k = 2), ∃ k', foldS (([reg] ++ vars).filter fun l => !l.isEmpty) (k, ⟨lang, scr, [], []⟩) = some (k', ⟨lang, scr, reg, vars⟩) := fun k hk => by
    rcases h5 with rfl | h5
    · obtain ⟨k', e⟩ := foldS_vars vars h1 k (by omega) ⟨lang, scr, [], []⟩
      exact ⟨k', by simpa [hvn] using e⟩
    · have hrn : reg ≠ [] := fun e => by have := reg_len h5; rw [e] at this; simp at this
      obtain ⟨k', e⟩ := foldS_vars vars h1 3 (.inr (.inr rfl)) ⟨lang, scr, reg, []⟩
      refine ⟨k', ?_⟩
      have hr4 : reg.length ≠ 4 := by have := reg_len h5; omega
      have hp : partS reg (k, ⟨lang, scr, [], []⟩) = some (3, ⟨lang, scr, reg, []⟩) := by
        rcases hk with rfl | rfl
        · show (if _ then _ else _) = _
          rw [if_neg (fun e => by rw [scr_no hr4] at e; exact absurd e.2 (by decide)), reg_up h5, if_pos h5]
        · show (if _ then _ else _) = _
          rw [reg_up h5, if_pos h5]
      have hf : ([reg] ++ vars).filter (fun l => !l.isEmpty) = reg :: vars := by
        rw [List.filter_append, hvn]
        simp [hrn]
      rw [hf]
      unfold foldS
      rw [hp]
      simpa using e
  have hpt : partsT ⟨lang, scr, reg, vars⟩ = lang :: (([scr] ++ ([reg] ++ vars)).filter fun l => !l.isEmpty) := by
    unfold partsT
    simp [hln]
  rw [hpt]
  unfold foldS
  rw [hl0]
  dsimp only
  rcases h4 with rfl | h4
  · obtain ⟨k', e⟩ := key 1 (.inl rfl)
    refine ⟨k', ?_⟩
    rw [List.filter_append]
    simpa using e
  · obtain ⟨k', e⟩ := key 2 (.inr rfl)
    refine ⟨k', ?_⟩
    have hsn : scr ≠ [] := fun e => by have := scr_len h4; rw [e] at this; simp at this
    have hp : partS scr (1, ⟨lang, [], [], []⟩) = some (2, ⟨lang, scr, [], []⟩) := by
      have := scr_title h4
      rw [partS]
      simp only [this, h4, ne_eq, hsn, not_false_eq_true, and_self, if_true]
    have hf : ([scr] ++ ([reg] ++ vars)).filter (fun l => !l.isEmpty) = scr :: ([reg] ++ vars).filter (fun l => !l.isEmpty) := by
      rw [List.filter_append]
      simp [hsn]
    rw [hf]
    unfold foldS
    rw [hp]
    exact e
theorem asc_pair : ∀ {l : List (List UInt8)} (_h : ascP l = true), l.Pairwise fun x y => x < y
  | [], _ => .nil
  | [a], _ => List.pairwise_singleton _ _
  | a :: b :: r, h => by
    unfold ascP at h
    rw [Bool.and_eq_true] at h
    have ih := asc_pair h.2
    have hab : a < b := by
      have h1 : Op.bytesLess a b = true := h.1
      rw [bytesLess_eq] at h1
      simpa using h1
    refine .cons (fun x hx => ?_) ih
    rcases List.mem_cons.1 hx with rfl | hx
    · exact hab
    · exact List.lt_trans hab ((List.pairwise_cons.1 ih).1 x hx)
theorem lt_le {a b : List UInt8} (h : a < b) : a ≤ b := fun h2 => List.lt_irrefl a (List.lt_trans h h2)
theorem sort_asc {l : List (List UInt8)} (h : ascP l = true) : sortV l = l := by
  unfold sortV
  refine List.mergeSort_of_pairwise ((asc_pair h).imp fun {a b} hab => decide_eq_true (lt_le hab))
theorem compact_asc {l : List (List UInt8)} (h : ascP l = true) : Lib.compact l = l := by
  refine Lib.compact_all l fun j hj => ?_
  unfold Lib.keeps
  refine decide_eq_true ?_
  by_cases h0 : j = 0
  · exact .inl h0
  · right
    have hp := (List.pairwise_iff_getElem.1 (asc_pair h)) (j - 1) j (by omega) hj (by omega)
    have e1 : l.toArray[j]! = l[j] := by simp [hj]
    have e2 : l.toArray[j - 1]! = l[j - 1] := by
      have : j - 1 < l.length := by omega
      simp [this]
    rw [e1, e2]
    intro e
    rw [e] at hp
    exact List.lt_irrefl _ hp
theorem sm_no {b : UInt8} (h : smB b = true ∨ cpB b = true ∨ dgB b = true) : b ≠ 45 ∧ b ≠ 95 := by
  constructor <;> rintro rfl <;> revert h <;> decide
theorem part_no {l : List UInt8} (h : langP l = true ∨ scrP l = true ∨ regP l = true ∨ varP l = true) : 45 ∉ l ∧ 95 ∉ l := by
  have key : ∀ b ∈ l, smB b = true ∨ cpB b = true ∨ dgB b = true := by
    rcases h with h | h | h | h
    · intro b hb
      unfold langP at h
      rw [Bool.and_eq_true, List.all_eq_true] at h
      exact .inl (h.2 b hb)
    · intro b hb
      unfold scrP at h
      rw [Bool.and_eq_true, Bool.and_eq_true, List.all_eq_true] at h
      cases l with
      | nil => cases hb
      | cons a t =>
        rcases List.mem_cons.1 hb with rfl | hb
        · exact .inr (.inl (by simpa using h.2.1))
        · exact .inl (h.2.2 b hb)
    · intro b hb
      unfold regP at h
      simp only [Bool.or_eq_true, Bool.and_eq_true, List.all_eq_true] at h
      rcases h with h | h
      · exact .inr (.inl (h.2 b hb))
      · exact .inr (.inr (h.2 b hb))
    · intro b hb
      unfold varP at h
      rw [Bool.and_eq_true, List.all_eq_true] at h
      have h1 := h.1 b hb
      unfold eiB at h1
      rw [Bool.or_eq_true] at h1
      exact h1.elim .inl fun e => .inr (.inr e)
  exact ⟨fun e => (sm_no (key _ e)).1 rfl, fun e => (sm_no (key _ e)).2 rfl⟩
/-- What is written of a valid tag is read back. -/
theorem parse_text {t : Tg} (h : validT t = true) : parseT (textT t) = (t, 0) := by
  obtain ⟨h1, h2, h3, h4, h5, h6⟩ := valid_parts h
  have hln : t.lang ≠ [] := fun e => by have := lang_len h3; rw [e] at this; simp at this
  have hp : pcs (textT t) = partsT t := by
    unfold textT
    rw [if_pos h]
    refine pcs_join ?_ fun y hy => ?_
    · unfold partsT
      simp [hln]
    · unfold partsT at hy
      rw [List.mem_filter, List.mem_append] at hy
      obtain ⟨hy, hne⟩ := hy
      have hyn : y ≠ [] := fun e => by rw [e] at hne; cases hne
      rcases hy with hy | hy
      · simp only [List.mem_cons, List.mem_nil_iff, or_false] at hy
        rcases hy with rfl | rfl | rfl
        · exact part_no (.inl h3)
        · exact part_no (.inr (.inl (h4.resolve_left hyn)))
        · exact part_no (.inr (.inr (.inl (h5.resolve_left hyn))))
      · exact part_no (.inr (.inr (.inr (h1 y hy))))
  obtain ⟨k, hk⟩ := fold_parts h
  unfold parseT
  rw [hp, hk]
  dsimp only
  rw [sort_asc h2, compact_asc h2, if_neg (Nat.lt_irrefl _), if_neg (by omega)]
end Go.Proofs.YtdgppdiickmofaaGreatDoor

/- Locale tags: what is read is valid; aliases, plain. -/
namespace Go.Proofs.YtdgppdiickmofaaGreatDoor
set_option maxRecDepth 100000
/-- What has been read so far. -/
def GoodP (p : Nat × Tg) : Prop := (∀ x ∈ p.2.vars, varP x = true) ∧ (p.1 ≠ 0 → langP p.2.lang = true) ∧ (p.2.scr = [] ∨ scrP p.2.scr = true) ∧ (p.2.reg = [] ∨ regP p.2.reg = true)
theorem GoodP.var {k : Nat} {t : Tg} {x : List UInt8} (h : GoodP (k, t)) (hk : k ≠ 0) (hx : varP x = true) : GoodP (3, { t with vars := t.vars ++ [x] }) :=
  ⟨fun y hy => (List.mem_append.1 hy).elim (h.1 y) fun e => by rw [List.mem_singleton] at e; rw [e]; exact hx, fun _ => h.2.1 hk, h.2.2.1, h.2.2.2⟩
theorem partS_good {x : List UInt8} {p q : Nat × Tg} (h : GoodP p) (he : partS x p = some q) : GoodP q ∧ q.1 ≠ 0 := by
  obtain ⟨k, t⟩ := p
  match k with
  | 0 =>
    simp only [partS] at he
    split at he
    · rename_i hl; injection he with he; subst he; exact ⟨⟨h.1, fun _ => hl, h.2.2.1, h.2.2.2⟩, by simp⟩
    · cases he
  | 1 =>
    simp only [partS] at he
    split at he
    · rename_i hl; injection he with he; subst he; exact ⟨⟨h.1, fun _ => h.2.1 (by simp), .inr hl.2, h.2.2.2⟩, by simp⟩
    split at he
    · rename_i hl; injection he with he; subst he; exact ⟨⟨h.1, fun _ => h.2.1 (by simp), h.2.2.1, .inr hl⟩, by simp⟩
    split at he
    · rename_i hl; injection he with he; subst he; exact ⟨h.var (by simp) hl, by simp⟩
    · cases he
  | 2 =>
    simp only [partS] at he
    split at he
    · rename_i hl; injection he with he; subst he; exact ⟨⟨h.1, fun _ => h.2.1 (by simp), h.2.2.1, .inr hl⟩, by simp⟩
    split at he
    · rename_i hl; injection he with he; subst he; exact ⟨h.var (by simp) hl, by simp⟩
    · cases he
  | k + 3 =>
    simp only [partS] at he
    split at he
    · rename_i hl; injection he with he; subst he; exact ⟨h.var (by simp) hl, by simp⟩
    · cases he
theorem foldS_good : ∀ (l : List (List UInt8)) {p q : Nat × Tg}, GoodP p → (p.1 ≠ 0 ∨ l ≠ []) → foldS l p = some q → GoodP q ∧ q.1 ≠ 0
  | [], p, q, h, hne, he => by
    simp only [foldS] at he
    injection he with he
    subst he
    exact ⟨h, hne.resolve_right (fun e => e rfl)⟩
  | x :: r, p, q, h, _, he => by
    simp only [foldS] at he
    split at he
    · cases he
    · rename_i p' hp
      obtain ⟨h1, h2⟩ := partS_good h hp
      exact foldS_good r h1 (.inl h2) he
theorem pcs_ne (s : List UInt8) : pcs s ≠ [] := by
  unfold pcs Lib.split
  cases Lib.count (Lib.replaceAll s [95] [45]) [45] with
  | zero => simp [Lib.splitK]
  | succ k => unfold Lib.splitK; split <;> simp
theorem le_total' (a b : List UInt8) : (decide (a ≤ b) || decide (b ≤ a)) = true := by
  rcases List.le_total a b with h | h
  · rw [decide_eq_true h]; rfl
  · rw [decide_eq_true h, Bool.or_true]
theorem le_trans' (a b c : List UInt8) (h1 : decide (a ≤ b) = true) (h2 : decide (b ≤ c) = true) : decide (a ≤ c) = true :=
  decide_eq_true (List.le_trans (of_decide_eq_true h1) (of_decide_eq_true h2))
theorem sortV_pair (l : List (List UInt8)) : (sortV l).Pairwise fun x y => x ≤ y :=
  (List.pairwise_mergeSort le_trans' le_total' l).imp fun h => of_decide_eq_true h
theorem sortV_mem {l : List (List UInt8)} {x : List UInt8} : x ∈ sortV l ↔ x ∈ l := (List.mergeSort_perm l _).mem_iff
theorem sortV_len (l : List (List UInt8)) : (sortV l).length = l.length := List.length_mergeSort l
theorem le_lt_ne {a b : List UInt8} (h : a ≤ b) (hne : a ≠ b) : a < b := by
  by_cases h1 : a < b
  · exact h1
  · exact absurd (List.le_antisymm h h1) hne
theorem asc_of {l : List (List UInt8)} (h : l.Pairwise fun x y => x < y) : ascP l = true := by
  induction l with
  | nil => rfl
  | cons a t ih =>
    obtain ⟨h1, h2⟩ := List.pairwise_cons.1 h
    unfold ascP
    rw [Bool.and_eq_true]
    refine ⟨?_, ih h2⟩
    cases t with
    | nil => rfl
    | cons b r =>
      show Op.bytesLess a b = true
      rw [bytesLess_eq]
      exact decide_eq_true (h1 b (.head _))
theorem sort_nodup {l : List (List UInt8)} (h : l.Nodup) : ascP (sortV l) = true := by
  refine asc_of ?_
  have h1 : (sortV l).Nodup := (List.mergeSort_perm l _).nodup_iff.2 h
  exact (List.Pairwise.and (sortV_pair l) h1).imp fun {a b} ⟨h2, h3⟩ => le_lt_ne h2 h3
theorem compact_full {l : List (List UInt8)} (h : l.Pairwise fun x y => x ≤ y) (hl : ¬ (Lib.compact l).length < l.length) : Lib.compact l = l ∧ ascP l = true := by
  have hk : ∀ j, j < l.length → Lib.keeps l.toArray j = true := by
    intro j hj
    cases hkj : Lib.keeps l.toArray j with
    | true => rfl
    | false =>
      exfalso
      apply hl
      unfold Lib.compact Lib.compactUpTo
      rw [List.length_map]
      have h1 : ((List.range l.length).filter (Lib.keeps l.toArray)).length < (List.range l.length).length := by
        rw [List.length_filter_lt_length_iff_exists]
        exact ⟨j, List.mem_range.2 hj, by rw [hkj]; simp⟩
      simpa using h1
  refine ⟨Lib.compact_all l hk, asc_of ?_⟩
  have key : ∀ (l : List (List UInt8)), (l.Pairwise fun x y => x ≤ y) → (∀ i (h1 : i + 1 < l.length), l[i] ≠ l[i + 1]) → l.Pairwise fun x y => x < y := by
    intro l
    induction l with
    | nil => intro _ _; exact .nil
    | cons a t ih =>
      intro hp hn
      obtain ⟨h1, h2⟩ := List.pairwise_cons.1 hp
      have iht := ih h2 (fun i hi => hn (i + 1) (by simpa using hi))
      refine .cons (fun x hx => ?_) iht
      cases t with
      | nil => cases hx
      | cons b r =>
        have hab : a < b := le_lt_ne (h1 b (.head _)) (hn 0 (by simp))
        rcases List.mem_cons.1 hx with rfl | hx
        · exact hab
        · exact List.lt_trans hab ((List.pairwise_cons.1 iht).1 x hx)
  refine key l h fun i hi => ?_
  have h2 := hk (i + 1) hi
  unfold Lib.keeps at h2
  rcases of_decide_eq_true h2 with h3 | h3
  · omega
  · have e1 : l.toArray[i + 1]! = l[i + 1] := by simp [hi]
    have e2 : l.toArray[i + 1 - 1]! = l[i] := by
      have : i < l.length := by omega
      simp [this]
    rw [e1, e2] at h3
    exact fun e => h3 e.symm
/-- What is read is valid. -/
theorem parse_valid {s : List UInt8} {t : Tg} (h : parseT s = (t, 0)) : validT t = true := by
  unfold parseT at h
  split at h
  · injection h with _ h; exact absurd h (by decide)
  · rename_i k t0 hf
    split at h
    · injection h with _ h; exact absurd h (by decide)
    split at h
    · injection h with _ h; exact absurd h (by decide)
    · rename_i h1 h2
      injection h with h _
      obtain ⟨hg, hk⟩ := foldS_good (pcs s) (p := (0, tg0)) ⟨(fun x hx => by cases hx), (fun e => absurd rfl e), .inl rfl, .inl rfl⟩ (.inr (pcs_ne s)) hf
      rw [← sortV_len t0.vars] at h1
      obtain ⟨hc1, hc2⟩ := compact_full (sortV_pair t0.vars) h1
      subst h
      unfold validT
      dsimp only
      rw [hc1]
      have hv : (sortV t0.vars).all varP = true := List.all_eq_true.2 fun x hx => hg.1 x (sortV_mem.1 hx)
      have hl : langP t0.lang = true := hg.2.1 hk
      have hs : (t0.scr.isEmpty || scrP t0.scr) = true := by rcases hg.2.2.1 with e | e <;> rw [e] <;> simp
      have hr : (t0.reg.isEmpty || regP t0.reg) = true := by rcases hg.2.2.2 with e | e <;> rw [e] <;> simp
      rw [hv, hc2, hl, hs, hr, sortV_len, decide_eq_true (show t0.vars.length ≤ 4 by omega)]
      rfl
end Go.Proofs.YtdgppdiickmofaaGreatDoor

/- Aliases, chains: plain. -/
namespace Go.Proofs.YtdgppdiickmofaaGreatDoor
set_option maxRecDepth 100000
/-- A rule of an alias. -/
structure Ral where
  a : Tg
  b : Tg
def undL : List UInt8 := [117, 110, 100]
def nubL : List (List UInt8) → List (List UInt8)
  | [] => []
  | x :: r => if x ∈ nubL r then nubL r else x :: nubL r
def fitsR (r : Ral) (t : Tg) : Bool :=
  r.a.vars.all (fun v => decide (v ∈ t.vars)) && ((decide (r.a.lang = undL) || decide (r.a.lang = t.lang)) && ((decide (r.a.scr = []) || decide (r.a.scr = t.scr)) && (decide (r.a.reg = []) || decide (r.a.reg = t.reg))))
def replR (r : Ral) (t : Tg) : Tg :=
  ⟨if r.a.lang ≠ undL ∨ r.b.lang ≠ undL then r.b.lang else t.lang, if r.a.scr ≠ [] ∨ t.scr = [] then r.b.scr else t.scr, if r.a.reg ≠ [] ∨ t.reg = [] then r.b.reg else t.reg,
    sortV (nubL (t.vars.filter (fun v => !decide (v ∈ r.a.vars)) ++ r.b.vars))⟩
def eqT (a b : Tg) : Bool := decide (a.lang = b.lang) && (decide (a.scr = b.scr) && (decide (a.reg = b.reg) && decide (a.vars = b.vars)))
def stepR : List Ral → Tg → Option Tg
  | [], _ => none
  | r :: l, t => if fitsR r t && !eqT (replR r t) t then some (replR r t) else stepR l t
def readR (a : List UInt8 × List UInt8) : Option Ral :=
  if (parseT a.1).2 = 0 ∧ (parseT a.2).2 = 0 ∧ textT (parseT a.1).1 = a.1 ∧ textT (parseT a.2).1 = a.2 ∧ a.1 ≠ undL then some ⟨(parseT a.1).1, (parseT a.2).1⟩ else none
def readRs : List (List UInt8 × List UInt8) → Option (List Ral)
  | [] => some []
  | a :: l => match readR a with
    | none => none
    | some r => match readRs l with
      | none => none
      | some rs => some (r :: rs)
/-- The steps: how many more may come, the tag, how many have come. -/
def stepsR (rs : List Ral) : Nat → Tg → Nat → Tg × Int
  | 0, t, _ => (t, 15)
  | k + 1, t, n => match stepR rs t with
    | none => (t, 0)
    | some u => if 4 < u.vars.length then (t, 6) else if 20 < n then (t, 15) else stepsR rs k u (n + 1)
/-- The canonical text, or an error. -/
def canonR (al : List (List UInt8 × List UInt8)) (s : List UInt8) : List UInt8 × Int := match readRs al with
  | none => ([], 1)
  | some rs => if (parseT s).2 = 0 then (if (stepsR rs 30 (parseT s).1 1).2 = 0 then (textT (stepsR rs 30 (parseT s).1 1).1, 0) else ([], (stepsR rs 30 (parseT s).1 1).2)) else ([], (parseT s).2)
/-- The texts of the ancestors. -/
def ancT : Nat → Tg → List (List UInt8)
  | 0, _ => []
  | k + 1, t => match parentT t with
    | none => []
    | some p => joinT p :: ancT k p
def ancS (s : List UInt8) : List (List UInt8) := if (parseT s).2 = 0 then ancT 10 (parseT s).1 else []
def parS (s : List UInt8) : List UInt8 := if (parseT s).2 = 0 then (match parentT (parseT s).1 with | none => [] | some p => joinT p) else []
/-- A table: the tags of the locales with their parents. -/
abbrev TabL := List (List UInt8 × List UInt8)
def findC (l : TabL) (s : List UInt8) : Option Nat := l.findIdx? fun x => decide (x.1 = s)
def nearL (l : TabL) : List (List UInt8) → Nat
  | [] => 0
  | a :: r => match findC l a with
    | some i => i
    | none => nearL l r
def nearC (l : TabL) (s : List UInt8) : Nat := match findC l s with
  | some i => i
  | none => nearL l (ancS s)
def nextC (l : TabL) (i : Nat) : Option Nat := match l[i]? with
  | none => none
  | some x => if x.2 ≠ [] then findC l x.2 else some (nearC l (parS x.1))
/-- The walk: how many more may come, the place, what has come. -/
def walkC (l : TabL) : Nat → Option Nat → List Nat → List Nat × Int
  | 0, _, _ => ([], 15)
  | _ + 1, none, _ => ([], 10)
  | k + 1, some i, out => if i ∈ out then ([], 15) else if i = 0 then (out ++ [i], 0) else walkC l k (nextC l i) (out ++ [i])
def textB (s : List UInt8) : Bool := decide ((parseT s).2 = 0) && decide (joinT (parseT s).1 = s)
def usabP (l : TabL) (al : List (List UInt8 × List UInt8)) : Bool :=
  decide ((l.head?.map Prod.fst) = some undL) && (decide (l.map Prod.fst).Nodup && l.all (fun x => textB x.1)) && al.all (fun a => textB a.1 && (textB a.2 && !decide (a.1 = undL)))
def chainP (l : TabL) (al : List (List UInt8 × List UInt8)) (s : List UInt8) : List Nat × Int :=
  if usabP l al = true then (if (canonR al s).2 = 0 then walkC l (l.length + 1) (some (nearC l (canonR al s).1)) [] else ([], (canonR al s).2)) else ([], 1)
theorem ex_fb : chainP [([117, 110, 100], []), ([101, 110], [])] [] [101, 110, 95, 71, 66] = ([1, 0], 0) := by kernel_rfl
theorem nub_mem {l : List (List UInt8)} {x : List UInt8} : x ∈ nubL l ↔ x ∈ l := by
  induction l with
  | nil => exact Iff.rfl
  | cons a t ih =>
    unfold nubL
    split
    · rename_i h
      rw [ih, List.mem_cons]
      constructor
      · exact .inr
      · rintro (rfl | h2)
        · exact ih.1 h
        · exact h2
    · rw [List.mem_cons, List.mem_cons, ih]
theorem nub_nodup (l : List (List UInt8)) : (nubL l).Nodup := by
  induction l with
  | nil => exact List.nodup_nil
  | cons a t ih =>
    unfold nubL
    split
    · exact ih
    · rename_i h
      exact List.nodup_cons.2 ⟨h, ih⟩
/-- Two lists without doubles that hold the same are one list when they are sorted. -/
theorem sort_uniq {l l' : List (List UInt8)} (h : l.Nodup) (h' : l'.Nodup) (he : ∀ x, x ∈ l ↔ x ∈ l') : sortV l = sortV l' := by
  have hp : l.Perm l' := (List.perm_ext_iff_of_nodup h h').2 he
  have hp2 : (sortV l).Perm (sortV l') := ((List.mergeSort_perm l _).trans hp).trans (List.mergeSort_perm l' _).symm
  exact hp2.eq_of_pairwise (fun a b _ _ h1 h2 => List.le_antisymm h1 h2) (sortV_pair l) (sortV_pair l')
/-- A replacement is valid. -/
theorem repl_valid {r : Ral} {t : Tg} (ha : validT r.b = true) (ht : validT t = true) (hl : ¬ 4 < (replR r t).vars.length) : validT (replR r t) = true := by
  obtain ⟨a1, _, a3, a4, a5, _⟩ := valid_parts ha
  obtain ⟨t1, _, t3, t4, t5, _⟩ := valid_parts ht
  have hv : ∀ x ∈ (replR r t).vars, varP x = true := fun x hx => by
    unfold replR at hx
    dsimp only at hx
    rw [sortV_mem, nub_mem, List.mem_append, List.mem_filter] at hx
    exact hx.elim (fun h => t1 x h.1) (a1 x)
  have hs : ascP (replR r t).vars = true := sort_nodup (nub_nodup _)
  have e1 : langP (replR r t).lang = true := by unfold replR; dsimp only; split <;> assumption
  have e2 : (replR r t).scr = [] ∨ scrP (replR r t).scr = true := by unfold replR; dsimp only; split <;> assumption
  have e3 : (replR r t).reg = [] ∨ regP (replR r t).reg = true := by unfold replR; dsimp only; split <;> assumption
  unfold validT
  have f2 : ((replR r t).scr.isEmpty || scrP (replR r t).scr) = true := by rcases e2 with e | e <;> rw [e] <;> simp
  have f3 : ((replR r t).reg.isEmpty || regP (replR r t).reg) = true := by rcases e3 with e | e <;> rw [e] <;> simp
  rw [List.all_eq_true.2 hv, hs, e1, f2, f3, decide_eq_true (show (replR r t).vars.length ≤ 4 by omega)]
  rfl
theorem readR_valid {a : List UInt8 × List UInt8} {r : Ral} (h : readR a = some r) : validT r.a = true ∧ validT r.b = true := by
  unfold readR at h
  split at h
  · rename_i hc
    injection h with h
    subst h
    exact ⟨parse_valid (s := a.1) (by rw [← hc.1]), parse_valid (s := a.2) (by rw [← hc.2.1])⟩
  · cases h
theorem readRs_valid : ∀ {l : List (List UInt8 × List UInt8)} {rs : List Ral}, readRs l = some rs → ∀ r ∈ rs, validT r.a = true ∧ validT r.b = true
  | [], rs, h, r, hr => by injection h with h; subst h; cases hr
  | a :: l, rs, h, r, hr => by
    unfold readRs at h
    split at h
    · cases h
    · rename_i r0 h0
      split at h
      · cases h
      · rename_i rs' h1
        injection h with h
        subst h
        rcases List.mem_cons.1 hr with rfl | hr
        · exact readR_valid h0
        · exact readRs_valid h1 r hr
theorem stepR_some : ∀ {rs : List Ral} {t u : Tg}, stepR rs t = some u → ∃ r ∈ rs, u = replR r t
  | [], _, _, h => by cases h
  | r :: l, t, u, h => by
    unfold stepR at h
    split at h
    · injection h with h
      exact ⟨r, .head _, h.symm⟩
    · obtain ⟨r', h1, h2⟩ := stepR_some h
      exact ⟨r', .tail _ h1, h2⟩
theorem stepsR_valid {rs : List Ral} (hr : ∀ r ∈ rs, validT r.a = true ∧ validT r.b = true) : ∀ (k : Nat) (t : Tg) (n : Nat), validT t = true → validT (stepsR rs k t n).1 = true
  | 0, t, _, h => h
  | k + 1, t, n, h => by
    unfold stepsR
    split
    · exact h
    · rename_i u hu
      split
      · exact h
      split
      · exact h
      · rename_i h4 _
        obtain ⟨r, h1, h2⟩ := stepR_some hu
        refine stepsR_valid hr k u (n + 1) ?_
        rw [h2] at h4 ⊢
        exact repl_valid (hr r h1).2 h h4
/-- What is canonical is the text of a valid tag. -/
theorem canon_valid {al : List (List UInt8 × List UInt8)} {s : List UInt8} (h : (canonR al s).2 = 0) : ∃ t, validT t = true ∧ (canonR al s).1 = textT t := by
  unfold canonR at h ⊢
  split at h
  · exact absurd h (by decide)
  · rename_i rs hrs
    split at h
    · rename_i hp
      split at h
      · rename_i hs
        rw [if_pos hp, if_pos hs]
        exact ⟨_, stepsR_valid (readRs_valid hrs) 30 _ 1 (parse_valid (s := s) (by rw [← hp])), rfl⟩
      · rename_i hs
        exact absurd h hs
    · rename_i hp
      exact absurd h hp
end Go.Proofs.YtdgppdiickmofaaGreatDoor

/- Chains: the laws, plain. -/
namespace Go.Proofs.YtdgppdiickmofaaGreatDoor
set_option maxRecDepth 100000
theorem findC_some {l : TabL} {s : List UInt8} {i : Nat} (h : findC l s = some i) : ∃ hi : i < l.length, l[i].1 = s := by
  unfold findC at h
  obtain ⟨hi, h1, _⟩ := List.findIdx?_eq_some_iff_getElem.1 h
  exact ⟨hi, of_decide_eq_true h1⟩
theorem findC_nodup {l : TabL} (hn : (l.map Prod.fst).Nodup) {i : Nat} (hi : i < l.length) : findC l l[i].1 = some i := by
  unfold findC
  rw [List.findIdx?_eq_some_iff_getElem]
  refine ⟨hi, decide_eq_true rfl, fun j hj e => ?_⟩
  have h1 := of_decide_eq_true e
  have h2 := (List.pairwise_iff_getElem.1 hn) j i (by rw [List.length_map]; omega) (by rw [List.length_map]; exact hi) hj
  apply h2
  rw [List.getElem_map, List.getElem_map]
  exact h1
theorem findC_none {l : TabL} {s : List UInt8} (h : findC l s = none) : ∀ x ∈ l, x.1 ≠ s := by
  unfold findC at h
  rw [List.findIdx?_eq_none_iff] at h
  exact fun x hx e => by have := h x hx; rw [decide_eq_true e] at this; cases this
theorem nearL_lt {l : TabL} (h : 0 < l.length) : ∀ r, nearL l r < l.length
  | [] => h
  | a :: r => by
    unfold nearL
    split
    · rename_i i hi; exact (findC_some hi).1
    · exact nearL_lt h r
theorem nearC_lt {l : TabL} (h : 0 < l.length) (s : List UInt8) : nearC l s < l.length := by
  unfold nearC
  split
  · rename_i i hi; exact (findC_some hi).1
  · exact nearL_lt h _
theorem nextC_lt {l : TabL} (h : 0 < l.length) {i j : Nat} (hj : nextC l i = some j) : j < l.length := by
  unfold nextC at hj
  split at hj
  · cases hj
  split at hj
  · exact (findC_some hj).1
  · injection hj with hj; rw [← hj]; exact nearC_lt h _
/-- What the walk gives begins with what had come. -/
theorem walkC_pre {l : TabL} : ∀ (k : Nat) (i : Nat) (out : List Nat), (walkC l k (some i) out).2 = 0 → ∃ r, (walkC l k (some i) out).1 = out ++ i :: r
  | 0, _, _, h => absurd (show (15 : Int) = 0 from h) (by decide)
  | k + 1, i, out, h => by
    unfold walkC at h ⊢
    split
    · rename_i hi; rw [if_pos hi] at h; exact absurd h (by decide)
    · rename_i hi
      rw [if_neg hi] at h
      split
      · exact ⟨[], rfl⟩
      · rename_i h0
        rw [if_neg h0] at h
        cases hn : nextC l i with
        | none =>
          rw [hn] at h
          cases k with
          | zero => exact absurd (show (15 : Int) = 0 from h) (by decide)
          | succ k => exact absurd (show (10 : Int) = 0 from h) (by decide)
        | some j =>
          rw [hn] at h
          obtain ⟨r, hr⟩ := walkC_pre k j (out ++ [i]) h
          exact ⟨j :: r, by rw [hr]; simp⟩
theorem walkC_lt {l : TabL} (h0 : 0 < l.length) : ∀ (k : Nat) (i : Nat) (out : List Nat), i < l.length → (∀ x ∈ out, x < l.length) → ∀ x ∈ (walkC l k (some i) out).1, x < l.length
  | 0, _, _, _, _, x, hx => by cases hx
  | k + 1, i, out, hi, ho, x, hx => by
    unfold walkC at hx
    split at hx
    · cases hx
    split at hx
    · rcases List.mem_append.1 hx with hx | hx
      · exact ho x hx
      · rw [List.mem_singleton] at hx; rw [hx]; exact hi
    · cases hn : nextC l i with
      | none =>
        rw [hn] at hx
        cases k with
        | zero => cases hx
        | succ k => cases hx
      | some j =>
        rw [hn] at hx
        refine walkC_lt h0 k j (out ++ [i]) (nextC_lt h0 hn) (fun y hy => ?_) x hx
        rcases List.mem_append.1 hy with hy | hy
        · exact ho y hy
        · rw [List.mem_singleton] at hy; rw [hy]; exact hi
theorem usab_parts {l : TabL} {al : List (List UInt8 × List UInt8)} (h : usabP l al = true) : 0 < l.length ∧ (l.map Prod.fst).Nodup ∧ ∀ x ∈ l, textB x.1 = true := by
  unfold usabP at h
  simp only [Bool.and_eq_true, decide_eq_true_eq, List.all_eq_true] at h
  refine ⟨?_, h.1.2.1, h.1.2.2⟩
  cases l with
  | nil => have := h.1.1; simp at this
  | cons _ _ => exact Nat.succ_pos _
/-- A chain has a first place. -/
theorem chain_head {l : TabL} {al : List (List UInt8 × List UInt8)} {s : List UInt8} (h : (chainP l al s).2 = 0) :
    usabP l al = true ∧ (canonR al s).2 = 0 ∧ chainP l al s = walkC l (l.length + 1) (some (nearC l (canonR al s).1)) [] ∧ ∃ r, (chainP l al s).1 = nearC l (canonR al s).1 :: r := by
  unfold chainP at h ⊢
  split at h
  · rename_i hu
    split at h
    · rename_i hc
      rw [if_pos hu, if_pos hc]
      obtain ⟨r, hr⟩ := walkC_pre _ _ _ h
      exact ⟨hu, hc, rfl, r, by rw [hr]; rfl⟩
    · rename_i hc
      exact absurd h hc
  · exact absurd h (by decide)
/-- The chain of the first element's tag is the chain, where aliases leave it as it is. -/
theorem chain_again {l : TabL} {al : List (List UInt8 × List UInt8)} {s : List UInt8} {i : Nat} {r : List Nat} (h : chainP l al s = (i :: r, 0)) (hi : i < l.length)
    (hc : canonR al l[i].1 = (l[i].1, 0)) : chainP l al l[i].1 = (i :: r, 0) := by
  obtain ⟨hu, _, h2, r', h3⟩ := chain_head (l := l) (al := al) (s := s) (by rw [h])
  have hin : nearC l (canonR al s).1 = i := by
    rw [h] at h3
    injection h3 with h3 _
    exact h3.symm
  have hn : nearC l l[i].1 = i := by
    unfold nearC
    rw [findC_nodup (usab_parts hu).2.1 hi]
  rw [← h, h2, hin]
  unfold chainP
  rw [if_pos hu, hc]
  show (if (0 : Int) = 0 then walkC l (l.length + 1) (some (nearC l l[i].1)) [] else _) = _
  rw [if_pos rfl, hn]
theorem chain_lt {l : TabL} {al : List (List UInt8 × List UInt8)} {s : List UInt8} : ∀ x ∈ (chainP l al s).1, x < l.length := by
  unfold chainP
  split
  · rename_i hu
    split
    · exact walkC_lt (usab_parts hu).1 _ _ _ (nearC_lt (usab_parts hu).1 _) (fun x hx => by cases hx)
    · intro x hx; cases hx
  · intro x hx; cases hx
end Go.Proofs.YtdgppdiickmofaaGreatDoor
