/- Reading the encoding of a catalog; plain. -/
import Derived.Test.YtngpajaghadhdaaGreatDoorBinP
namespace Go.Proofs.YtngpajaghadhdaaGreatDoor
set_option maxRecDepth 100000
/-- q pairs of strings, read one by one. -/
def stepFs (bs : List UInt8) (a : Nat) (f : Bool) : Nat → List Fd × Nat × Bool
  | 0 => ([], a, f)
  | q + 1 =>
    let p := stepFs bs a f q
    let s := stepS bs p.2.1 p.2.2
    let v := stepS bs s.2.1 s.2.2
    (p.1 ++ [(str s.1, str v.1)], v.2.1, v.2.2)
def stepF (bs : List UInt8) (a : Nat) (f : Bool) : List Fd × Nat × Bool :=
  let n := stepB 0 20 bs a f
  stepFs bs n.2.1 n.2.2 n.1.toNat
/-- A record; rd reads the state. -/
def stepE (rd : List UInt8 → Nat → Bool → Int × Nat × Bool) (bs : List UInt8) (a : Nat) (f : Bool) : Ep × Nat × Bool :=
  let i := stepS bs a f
  let s := stepS bs i.2.1 i.2.2
  let t := stepS bs s.2.1 s.2.2
  let c := stepL 20 bs t.2.1 t.2.2
  let l := stepL 20 bs c.2.1 c.2.2
  let n := rd bs l.2.1 l.2.2
  let d := stepF bs n.2.1 n.2.2
  (⟨str i.1, str s.1, str t.1, c.1.map str, l.1.map str, n.1, d.1⟩, d.2.1, d.2.2)
def stepEs (rd : List UInt8 → Nat → Bool → Int × Nat × Bool) (bs : List UInt8) (a : Nat) (f : Bool) : Nat → List Ep × Nat × Bool
  | 0 => ([], a, f)
  | q + 1 =>
    let p := stepEs rd bs a f q
    let e := stepE rd bs p.2.1 p.2.2
    (p.1 ++ [e.1], e.2.1, e.2.2)

section
variable {bs r : List UInt8} {a : Nat}
theorem drop_more {x : List UInt8} (h : bs.drop a = x ++ r) : bs.drop (a + x.length) = r := by
  rw [← List.drop_drop, h, List.drop_left]
theorem stepS_enc {s : List UInt8} (h : bs.drop a = encS s ++ r) (hs : s.length ≤ 9223372036854775807) : stepS bs a false = (s, a + (encS s).length, false) := by
  unfold stepS
  rw [if_neg (by simp), h, readS_enc s hs]
theorem stepL_enc {l : List (List UInt8)} (h : bs.drop a = encL l ++ r) (hl : l.length ≤ 20) (hs : ∀ s ∈ l, s.length ≤ 9223372036854775807) : stepL 20 bs a false = (l, a + (encL l).length, false) := by
  unfold stepL
  rw [if_neg (by simp), h, readL_enc l 20 (by omega) (by omega) hs]
theorem stepI_enc {n : Int} (h : bs.drop a = encI n ++ r) (hn : InR n) : stepI bs a false = (n, a + (encI n).length, false) := by
  unfold stepI
  rw [if_neg (by simp), h, readI_enc n hn]
theorem stepB_enc {n lo hi : Int} (h : bs.drop a = encI n ++ r) (hn : InR n) (h1 : lo ≤ n) (h2 : n ≤ hi) : stepB lo hi bs a false = (n, a + (encI n).length, false) := by
  unfold stepB
  rw [if_neg (by simp), h, readI_enc n hn]
  simp only [if_pos (And.intro h1 h2)]
abbrev fdE (f : Fd) : List UInt8 := encS (bys f.1) ++ encS (bys f.2)
theorem stepFs_enc {l : List Fd} (h : bs.drop a = l.flatMap fdE ++ r) (hs : ∀ f ∈ l, (bys f.1).length ≤ 9223372036854775807 ∧ (bys f.2).length ≤ 9223372036854775807) :
    ∀ q, q ≤ l.length → stepFs bs a false q = (l.take q, a + ((l.take q).flatMap fdE).length, false) ∧ bs.drop (a + ((l.take q).flatMap fdE).length) = (l.drop q).flatMap fdE ++ r := by
  intro q
  induction q with
  | zero => intro _; exact ⟨rfl, by simpa using h⟩
  | succ q ih =>
    intro hq
    obtain ⟨h1, h2⟩ := ih (by omega)
    have hlt : q < l.length := by omega
    obtain ⟨x, hx⟩ : ∃ x, x = l[q] := ⟨_, rfl⟩
    have hd : l.drop q = x :: l.drop (q + 1) := by rw [hx]; exact (List.getElem_cons_drop ..).symm
    have hsx := hs x (by rw [hx]; exact List.getElem_mem _)
    rw [hd, List.flatMap_cons] at h2
    have h3 : bs.drop (a + ((l.take q).flatMap fdE).length) = encS (bys x.1) ++ (encS (bys x.2) ++ ((l.drop (q + 1)).flatMap fdE ++ r)) := by
      rw [h2]; simp only [List.append_assoc]
    have e1 := stepS_enc h3 hsx.1
    have h4 := drop_more h3
    have e2 := stepS_enc h4 hsx.2
    have h5 := drop_more h4
    have ht : l.take (q + 1) = l.take q ++ [x] := by rw [List.take_succ_eq_append_getElem hlt, hx]
    have hlen : a + ((l.take (q + 1)).flatMap fdE).length = a + ((l.take q).flatMap fdE).length + (encS (bys x.1)).length + (encS (bys x.2)).length := by
      rw [ht, List.flatMap_append, List.length_append]
      simp only [List.flatMap_cons, List.flatMap_nil, List.append_nil, List.length_append]
      omega
    refine ⟨?_, by rw [hlen]; exact h5⟩
    unfold stepFs
    simp only [h1, e1, e2, str_bys]
    rw [hlen, ht]
theorem stepF_enc {l : List Fd} (h : bs.drop a = encF l ++ r) (hl : l.length ≤ 20) (hs : ∀ f ∈ l, (bys f.1).length ≤ 9223372036854775807 ∧ (bys f.2).length ≤ 9223372036854775807) : stepF bs a false = (l, a + (encF l).length, false) := by
  have h1 : bs.drop a = encI l.length ++ (l.flatMap fdE ++ r) := by rw [h]; unfold encF; rw [List.append_assoc]
  have e1 := stepB_enc (lo := 0) (hi := 20) h1 (encI_inR _ (by omega)) (by omega) (by omega)
  have e2 := (stepFs_enc (drop_more h1) hs l.length (Nat.le_refl _)).1
  unfold stepF
  simp only [e1, Int.toNat_natCast]
  rw [e2, List.take_length]
  unfold encF
  rw [List.length_append, Nat.add_assoc]
end

/-- The strings of an entry are short. -/
structure Short (x : Ep) : Prop where
  id : x.id.size ≤ 4000
  src : x.src.size ≤ 4000
  tgt : x.tgt.size ≤ 4000
  com : x.com.length ≤ 20 ∧ ∀ s ∈ x.com, s.size ≤ 4000
  fl : x.fl.length ≤ 20 ∧ ∀ s ∈ x.fl, s.size ≤ 4000
  st : 0 ≤ x.st ∧ x.st ≤ 4
  fd : x.fd.length ≤ 20 ∧ ∀ f ∈ x.fd, f.1.size ≤ 4000 ∧ f.2.size ≤ 4000
theorem bys_sz (s : ByteArray) : (bys s).length = s.size := bys_len s
theorem textL_sz {s : ByteArray} (h : textL (bys s) = true) : s.size ≤ 4000 := by
  unfold textL at h
  simp only [Bool.and_eq_true, decide_eq_true_eq] at h
  rw [← bys_sz]; exact h.1
theorem nameL_sz {s : ByteArray} (h : nameL (bys s) = true) : s.size ≤ 40 := by
  unfold nameL at h
  simp only [Bool.and_eq_true, decide_eq_true_eq] at h
  rw [← bys_sz]; exact h.1.2
theorem textsP_sz {l : List ByteArray} (h : textsP l = true) : l.length ≤ 20 ∧ ∀ s ∈ l, s.size ≤ 4000 := by
  unfold textsP at h
  simp only [Bool.and_eq_true, decide_eq_true_eq] at h
  refine ⟨h.1, fun s hs => ?_⟩
  obtain ⟨i, hi, rfl⟩ := List.getElem_of_mem hs
  exact textL_sz (h.2 i hi)
theorem flagsP_sz {l : List ByteArray} (h : flagsP l = true) : l.length ≤ 20 ∧ ∀ s ∈ l, s.size ≤ 4000 := by
  unfold flagsP at h
  simp only [Bool.and_eq_true, decide_eq_true_eq] at h
  refine ⟨h.2, fun s hs => ?_⟩
  obtain ⟨i, hi, rfl⟩ := List.getElem_of_mem hs
  exact Nat.le_trans (nameL_sz (h.1 i hi).1) (by omega)
theorem fieldsP_sz {l : List Fd} (h : fieldsP l = true) : l.length ≤ 20 ∧ ∀ f ∈ l, f.1.size ≤ 4000 ∧ f.2.size ≤ 4000 := by
  unfold fieldsP at h
  simp only [Bool.and_eq_true, decide_eq_true_eq] at h
  refine ⟨h.2, fun s hs => ?_⟩
  obtain ⟨i, hi, rfl⟩ := List.getElem_of_mem hs
  exact ⟨Nat.le_trans (nameL_sz (h.1 i hi).1) (by omega), textL_sz (h.1 i hi).2.1⟩
theorem validE_short {x : Ep} (h : validE x = true) : Short x := by
  unfold validE at h
  simp only [Bool.and_eq_true, decide_eq_true_eq] at h
  obtain ⟨⟨⟨⟨⟨⟨⟨⟨_, _⟩, h1⟩, h2⟩, h3⟩, h4⟩, h5⟩, h6⟩, h7⟩ := h
  exact ⟨textL_sz h1, textL_sz h3, textL_sz h4, textsP_sz h5, flagsP_sz h6, h2, fieldsP_sz h7⟩
theorem short_map {l : List ByteArray} (h : l.length ≤ 20 ∧ ∀ s ∈ l, s.size ≤ 4000) : (l.map bys).length ≤ 20 ∧ ∀ s ∈ l.map bys, s.length ≤ 9223372036854775807 := by
  refine ⟨by rw [List.length_map]; exact h.1, fun s hs => ?_⟩
  obtain ⟨x, hx, rfl⟩ := List.mem_map.1 hs
  have := h.2 x hx
  rw [bys_sz]; omega
theorem map_str_bys (l : List ByteArray) : (l.map bys).map str = l := by
  rw [List.map_map]
  conv => rhs; rw [← List.map_id l]
  exact List.map_congr_left fun s _ => str_bys s
/-- Both ways of reading the state agree at a valid state. -/
def RdOk (rd : List UInt8 → Nat → Bool → Int × Nat × Bool) : Prop := ∀ (bs r : List UInt8) (a : Nat) (n : Int), 0 ≤ n → n ≤ 4 → bs.drop a = encI n ++ r → rd bs a false = (n, a + (encI n).length, false)
theorem rdOk_B : RdOk (stepB 0 4) := fun _ _ _ _ h1 h2 h => stepB_enc h ⟨by omega, by omega⟩ h1 h2
theorem rdOk_I : RdOk stepI := fun _ _ _ _ h1 h2 h => stepI_enc h ⟨by omega, by omega⟩
theorem stepE_enc {rd : List UInt8 → Nat → Bool → Int × Nat × Bool} (hrd : RdOk rd) {bs r : List UInt8} {a : Nat} {x : Ep} (hx : Short x) (h : bs.drop a = recE x ++ r) : stepE rd bs a false = (x, a + (recE x).length, false) := by
  unfold recE at h
  simp only [List.append_assoc] at h
  have b1 := bys_sz x.id; have b2 := bys_sz x.src; have b3 := bys_sz x.tgt
  have hx1 := hx.id; have hx2 := hx.src; have hx3 := hx.tgt
  have e1 := stepS_enc h (by omega)
  have h1 := drop_more h
  have e2 := stepS_enc h1 (by omega)
  have h2 := drop_more h1
  have e3 := stepS_enc h2 (by omega)
  have h3 := drop_more h2
  have e4 := stepL_enc h3 (short_map hx.com).1 (short_map hx.com).2
  have h4 := drop_more h3
  have e5 := stepL_enc h4 (short_map hx.fl).1 (short_map hx.fl).2
  have h5 := drop_more h4
  have e6 := hrd _ _ _ _ hx.st.1 hx.st.2 h5
  have h6 := drop_more h5
  have e7 := stepF_enc h6 hx.fd.1 fun f hf => by
    have h9 := hx.fd.2 f hf
    rw [bys_sz, bys_sz]; omega
  unfold stepE
  simp only [e1, e2, e3, e4, e5, e6, e7, str_bys, map_str_bys]
  unfold recE
  simp only [List.length_append, Nat.add_assoc]
theorem stepEs_enc {rd : List UInt8 → Nat → Bool → Int × Nat × Bool} (hrd : RdOk rd) {bs r : List UInt8} {a : Nat} {l : List Ep} (hl : ∀ x ∈ l, Short x) (h : bs.drop a = recsE l ++ r) :
    ∀ q, q ≤ l.length → stepEs rd bs a false q = (l.take q, a + (recsE (l.take q)).length, false) ∧ bs.drop (a + (recsE (l.take q)).length) = recsE (l.drop q) ++ r := by
  intro q
  induction q with
  | zero => intro _; exact ⟨rfl, by simpa [recsE] using h⟩
  | succ q ih =>
    intro hq
    obtain ⟨h1, h2⟩ := ih (by omega)
    have hlt : q < l.length := by omega
    obtain ⟨x, hx⟩ : ∃ x, x = l[q] := ⟨_, rfl⟩
    have hd : l.drop q = x :: l.drop (q + 1) := by rw [hx]; exact (List.getElem_cons_drop ..).symm
    have hsx := hl x (by rw [hx]; exact List.getElem_mem _)
    have h3 : bs.drop (a + (recsE (l.take q)).length) = recE x ++ (recsE (l.drop (q + 1)) ++ r) := by
      rw [h2, hd]; unfold recsE; rw [List.flatMap_cons, List.append_assoc]
    have e1 := stepE_enc hrd hsx h3
    have h5 := drop_more h3
    have ht : l.take (q + 1) = l.take q ++ [x] := by rw [List.take_succ_eq_append_getElem hlt, hx]
    have hlen : a + (recsE (l.take (q + 1))).length = a + (recsE (l.take q)).length + (recE x).length := by
      rw [ht]; unfold recsE
      rw [List.flatMap_append, List.length_append]
      simp only [List.flatMap_cons, List.flatMap_nil, List.append_nil]
      omega
    refine ⟨?_, by rw [hlen]; exact h5⟩
    unfold stepEs
    simp only [h1, e1]
    rw [hlen, ht]
/-- How long encodings are. -/
theorem encS_le {s : ByteArray} (h : s.size ≤ 4000) : (encS (bys s)).length ≤ 4009 := by
  have := encS_len s; omega
theorem flat_le_of {α : Type} (f : α → List UInt8) (k : Nat) : ∀ l : List α, (∀ x ∈ l, (f x).length ≤ k) → (l.flatMap f).length ≤ l.length * k := by
  intro l
  induction l with
  | nil => intro _; simp
  | cons x t ih =>
    intro h
    rw [List.flatMap_cons, List.length_append, List.length_cons, Nat.succ_mul]
    have h1 := h x (by simp)
    have h2 := ih fun y hy => h y (by simp [hy])
    omega
theorem encL_le {l : List ByteArray} (h : l.length ≤ 20 ∧ ∀ s ∈ l, s.size ≤ 4000) : (encL (l.map bys)).length ≤ 80189 := by
  unfold encL
  rw [List.length_append]
  have h1 := encI_length_le ((l.map bys).length : Int)
  have h2 := flat_le_of encS 4009 (l.map bys) fun s hs => by
    obtain ⟨x, hx, rfl⟩ := List.mem_map.1 hs
    exact encS_le (h.2 x hx)
  have h3 : (l.map bys).length ≤ 20 := by rw [List.length_map]; exact h.1
  have h4 := Nat.mul_le_mul_right 4009 h3
  omega
theorem encF_le {l : List Fd} (h : l.length ≤ 20 ∧ ∀ f ∈ l, f.1.size ≤ 4000 ∧ f.2.size ≤ 4000) : (encF l).length ≤ 160369 := by
  unfold encF
  rw [List.length_append]
  have h1 := encI_length_le (l.length : Int)
  have h2 : (l.flatMap fun f => encS (bys f.1) ++ encS (bys f.2)).length ≤ l.length * 8018 := flat_le_of fdE 8018 l fun f hf => by
    have h9 := h.2 f hf
    have a := encS_le h9.1
    have b := encS_le h9.2
    rw [List.length_append]; omega
  have h4 := Nat.mul_le_mul_right 8018 h.1
  omega
theorem recE_le {x : Ep} (hx : Short x) : (recE x).length ≤ 340000 := by
  unfold recE
  simp only [List.length_append]
  have h1 := encS_le hx.id; have h2 := encS_le hx.src; have h3 := encS_le hx.tgt
  have h4 := encL_le hx.com; have h5 := encL_le hx.fl
  have h6 := encI_length_le x.st
  have h7 := encF_le hx.fd
  omega
structure ShortC (c : Cp) : Prop where
  tag : c.tag.size ≤ 4000
  com : c.com.length ≤ 20 ∧ ∀ s ∈ c.com, s.size ≤ 4000
  fd : c.fd.length ≤ 20 ∧ ∀ f ∈ c.fd, f.1.size ≤ 4000 ∧ f.2.size ≤ 4000
  es : c.es.length ≤ 1000 ∧ ∀ x ∈ c.es, Short x
theorem validC_short {c : Cp} (h : validC c = true) : ShortC c := by
  unfold validC headP at h
  simp only [Bool.and_eq_true, decide_eq_true_eq] at h
  obtain ⟨⟨⟨⟨h1, h2⟩, h3⟩, h4⟩, h5⟩ := h
  refine ⟨?_, textsP_sz h2, fieldsP_sz h3, h4, fun x hx => ?_⟩
  · unfold tagL at h1
    simp only [Bool.and_eq_true, decide_eq_true_eq] at h1
    have := h1.1.2
    rw [bys_sz] at this; omega
  · obtain ⟨i, hi, rfl⟩ := List.getElem_of_mem hx
    exact validE_short (h5 i hi).1
theorem recsE_le {l : List Ep} (h : ∀ x ∈ l, Short x) : (recsE l).length ≤ l.length * 340000 := flat_le_of recE 340000 l fun x hx => recE_le (h x hx)
theorem headE_le {c : Cp} (h : ShortC c) : (headE c).length ≤ 300000 := by
  unfold headE
  simp only [List.length_append]
  have h1 := encS_le h.tag; have h2 := encL_le h.com; have h3 := encF_le h.fd; have h4 := encI_length_le (c.es.length : Int)
  omega
theorem totE_le {c : Cp} (h : ShortC c) : totE c ≤ 400000000 := by
  unfold totE atE
  have h1 := headE_le h
  have h2 := recsE_le h.es.2
  have h3 := Nat.mul_le_mul_right 340000 h.es.1
  have h4 := h.es.1
  omega
theorem offE_le (c : Cp) (i : Nat) : offE c i ≤ totE c := by
  unfold offE totE
  have : (recsE c.es).length = (recsE (c.es.take i)).length + (recsE (c.es.drop i)).length := by
    unfold recsE
    rw [← List.length_append, ← List.flatMap_append, List.take_append_drop]
  omega
theorem numAt_four {p q : List UInt8} {n : Nat} (hn : n < 4294967296) : numAt (p ++ (fourB n ++ q)) p.length = n := by
  unfold numAt
  have h0 : (p ++ (fourB n ++ q)).getD p.length 0 = UInt8.ofNat (n / 16777216) := by simp [fourB, List.getD]
  have h1 : (p ++ (fourB n ++ q)).getD (p.length + 1) 0 = UInt8.ofNat (n / 65536) := by
    rw [List.getD, List.getElem?_append_right (by omega)]; simp [fourB]
  have h2 : (p ++ (fourB n ++ q)).getD (p.length + 2) 0 = UInt8.ofNat (n / 256) := by
    rw [List.getD, List.getElem?_append_right (by omega)]; simp [fourB]
  have h3 : (p ++ (fourB n ++ q)).getD (p.length + 3) 0 = UInt8.ofNat n := by
    rw [List.getD, List.getElem?_append_right (by omega)]; simp [fourB]
  rw [h0, h1, h2, h3]
  simp only [UInt8.toNat_ofNat']
  omega
/-- What reading gives at an encoding. -/
structure ReadsC (c : Cp) (b : List UInt8) : Prop where
  len : b.length = totE c
  l8 : 8 ≤ b.length
  mag : b.take 4 = magicB
  num : numAt b 4 = b.length
  tag : stepS (b.drop 8) 0 false = (bys c.tag, (encS (bys c.tag)).length, false)
  com : stepL 20 (b.drop 8) (encS (bys c.tag)).length false = (c.com.map bys, (encS (bys c.tag) ++ encL (c.com.map bys)).length, false)
  fd : stepF (b.drop 8) (encS (bys c.tag) ++ encL (c.com.map bys)).length false = (c.fd, (encS (bys c.tag) ++ encL (c.com.map bys) ++ encF c.fd).length, false)
  n : ∀ hi : Int, 1000 ≤ hi → stepB 0 hi (b.drop 8) (encS (bys c.tag) ++ encL (c.com.map bys) ++ encF c.fd).length false = ((c.es.length : Int), (headE c).length, false)
  nI : stepI (b.drop 8) (encS (bys c.tag) ++ encL (c.com.map bys) ++ encF c.fd).length false = ((c.es.length : Int), (headE c).length, false)
  at_ : atE c ≤ b.length
  rest : b.drop (atE c) = recsE c.es
  dir : b.drop (8 + (headE c).length) = dirE c ++ recsE c.es
theorem readsC {c : Cp} (hc : ShortC c) : ReadsC c (encC c) := by
  have hl := encC_len c
  have ht := totE_le hc
  have hd : (encC c).drop 8 = headE c ++ (dirE c ++ recsE c.es) := by
    unfold encC
    simp only [List.append_assoc]
    rw [← List.append_assoc magicB, List.drop_left' (by rfl)]
  have b1 := bys_sz c.tag; have b2 := hc.tag
  have h0 : ((encC c).drop 8).drop 0 = encS (bys c.tag) ++ (encL (c.com.map bys) ++ (encF c.fd ++ (encI c.es.length ++ (dirE c ++ recsE c.es)))) := by
    rw [List.drop_zero, hd]; unfold headE; simp only [List.append_assoc]
  have e1 := stepS_enc h0 (by omega)
  have h1 := drop_more h0
  have e2 := stepL_enc h1 (short_map hc.com).1 (short_map hc.com).2
  have h2 := drop_more h1
  have e3 := stepF_enc h2 hc.fd.1 fun f hf => by
    have h9 := hc.fd.2 f hf
    rw [bys_sz, bys_sz]; omega
  have h3 := drop_more h2
  have hn : InR (c.es.length : Int) := encI_inR _ (by have := hc.es.1; omega)
  simp only [Nat.zero_add] at e1 e2 e3 h1 h2 h3
  have hle : (encC c).drop (8 + (headE c).length) = dirE c ++ recsE c.es := by rw [← List.drop_drop, hd, List.drop_left]
  have hat : atE c ≤ (encC c).length := by rw [hl]; unfold totE; omega
  refine ⟨hl, by rw [hl]; unfold totE atE; omega, ?_, ?_, e1, by rw [List.length_append]; exact e2, ?_, fun hi hhi => ?_, ?_, hat, ?_, hle⟩
  · unfold encC; simp only [List.append_assoc]; exact List.take_left' rfl
  · rw [hl]
    unfold encC
    simp only [List.append_assoc]
    exact numAt_four (p := magicB) (by omega)
  · rw [List.length_append, List.length_append, List.length_append]; rw [e3]
  · have e4 := stepB_enc (lo := 0) (hi := hi) h3 hn (by omega) (by have := hc.es.1; omega)
    simp only [List.length_append]
    rw [e4]
    unfold headE
    simp only [List.length_append]
  · have e4 := stepI_enc h3 hn
    simp only [List.length_append]
    rw [e4]
    unfold headE
    simp only [List.length_append]
  · unfold atE
    rw [← dirE_len, ← List.drop_drop, hle, List.drop_left]
/-- Two valid catalogs with one encoding are one. -/
theorem encC_inj {c d : Cp} (hc : ShortC c) (hd : ShortC d) (h : encC c = encC d) : c = d := by
  have r1 := readsC hc
  have r2 := readsC hd
  rw [h] at r1
  have e1 := r1.tag.symm.trans r2.tag
  simp only [Prod.mk.injEq] at e1
  have t : c.tag = d.tag := bys_inj e1.1
  have hcom := r1.com; rw [t] at hcom
  have e2 := hcom.symm.trans r2.com
  simp only [Prod.mk.injEq] at e2
  have m : c.com = d.com := by rw [← map_str_bys c.com, e2.1, map_str_bys]
  have hfd := r1.fd; rw [t, m] at hfd
  have e3 := hfd.symm.trans r2.fd
  simp only [Prod.mk.injEq] at e3
  have f : c.fd = d.fd := e3.1
  have hn := r1.n 1000 (by omega); rw [t, m, f] at hn
  have e4 := hn.symm.trans (r2.n 1000 (by omega))
  simp only [Prod.mk.injEq] at e4
  have nn : c.es.length = d.es.length := by omega
  have hh : atE c = atE d := by unfold atE; rw [e4.2.1, nn]
  have hr := r1.rest
  rw [hh, r2.rest] at hr
  have s1 := (stepEs_enc rdOk_I (a := 0) (bs := recsE d.es) (r := []) hc.es.2 (by rw [List.drop_zero, List.append_nil]; exact hr) c.es.length (Nat.le_refl _)).1
  have s2 := (stepEs_enc rdOk_I (a := 0) (bs := recsE d.es) (r := []) hd.es.2 (by rw [List.drop_zero, List.append_nil]) d.es.length (Nat.le_refl _)).1
  rw [nn] at s1
  have e5 := s1.symm.trans s2
  simp only [Prod.mk.injEq, List.take_length] at e5
  have ee : c.es = d.es := by have h9 := e5.1; rw [← nn, List.take_length] at h9; exact h9
  cases c; cases d
  simp_all
/-- What Decode returns. -/
def DecR (b : List UInt8) (c : Cp) (code : Int) : Prop := (code = 0 ∧ validC c = true ∧ encC c = b) ∨ (code = 4 ∧ c = ⟨⟨#[]⟩, [], [], []⟩ ∧ ∀ d, validC d = true → encC d ≠ b)
theorem DecR.uniq {b : List UInt8} {c d : Cp} {m n : Int} (h : DecR b c m) (h' : DecR b d n) : c = d ∧ m = n := by
  rcases h with ⟨rfl, hv, he⟩ | ⟨rfl, rfl, hn⟩ <;> rcases h' with ⟨rfl, hv', he'⟩ | ⟨rfl, rfl, hn'⟩
  · exact ⟨encC_inj (validC_short hv) (validC_short hv') (he.trans he'.symm), rfl⟩
  · exact absurd he (hn' _ hv)
  · exact absurd he' (hn _ hv')
  · exact ⟨rfl, rfl⟩
end Go.Proofs.YtngpajaghadhdaaGreatDoor
