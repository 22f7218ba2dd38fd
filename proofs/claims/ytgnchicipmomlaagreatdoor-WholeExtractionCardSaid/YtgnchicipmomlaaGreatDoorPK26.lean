/- The update of a catalog by an extraction; plain. -/
import Derived.Test.YtgnchicipmomlaaGreatDoorPK18
import Derived.Test.YtgnchicipmomlaaGreatDoorPK24
import Derived.Test.YtgnchicipmomlaaGreatDoorPK25
namespace Go.Proofs.YtgnchicipmomlaaGreatDoor
set_option maxRecDepth 100000
/-- The names of the two fields that an update sets. -/
def prevB : ByteArray := ⟨#[112, 114, 101, 118, 105, 111, 117, 115]⟩
def reusB : ByteArray := ⟨#[114, 101, 117, 115, 101, 100]⟩
/-- The value of the first field with a name. -/
def fld (n : ByteArray) : List Fd → Option ByteArray
  | [] => none
  | f :: t => if fdIs n f = true then some f.2 else fld n t
theorem IxZ.cons_yes {p : Fd → Bool} {f : Fd} {t : List Fd} (h : p f = true) : IxZ p (f :: t) ((0 : Nat) : Int) := .inr ⟨0, rfl, by simp, h, fun j hj => absurd hj (Nat.not_lt_zero _)⟩
theorem IxZ.cons_none {p : Fd → Bool} {f : Fd} {t : List Fd} (h : p f = false) (ht : IxZ p t (-1)) : IxZ p (f :: t) (-1) := by
  refine IxZ.of_none fun g hg => ?_
  rcases List.mem_cons.1 hg with rfl | hg
  · exact h
  · exact ht.none_ g hg
theorem IxZ.cons_succ {p : Fd → Bool} {f : Fd} {t : List Fd} {k : Nat} (h : p f = false) (ht : IxZ p t (k : Int)) : IxZ p (f :: t) ((k + 1 : Nat) : Int) := by
  rcases ht with ⟨h1, _⟩ | ⟨j, h1, hj, h2, h3⟩
  · omega
  · obtain rfl : k = j := by omega
    refine .inr ⟨k + 1, rfl, by simpa using hj, by simpa using h2, fun i hi => ?_⟩
    cases i with
    | zero => exact h
    | succ i => exact h3 i (by omega)
theorem fld_R (n : ByteArray) (l : List Fd) : FldR l n (fld n l) := by
  induction l with
  | nil => exact .inl ⟨.inl ⟨rfl, fun j hj => absurd hj (Nat.not_lt_zero _)⟩, rfl⟩
  | cons f t ih =>
    unfold fld
    cases h : fdIs n f with
    | true =>
      rw [if_pos rfl]
      exact .inr ⟨0, IxZ.cons_yes h, by simp, rfl⟩
    | false =>
      rw [if_neg (by decide)]
      rcases ih with ⟨h1, h2⟩ | ⟨k, h1, hk, h2⟩
      · exact .inl ⟨IxZ.cons_none h h1, h2⟩
      · exact .inr ⟨k + 1, IxZ.cons_succ h h1, by simpa using hk, by simpa using h2⟩
theorem FldR.eq {l : List Fd} {n : ByteArray} {o : Option ByteArray} (h : FldR l n o) : o = fld n l := h.uniq (fld_R n l)
/-- A field is set. -/
def repF (n v : ByteArray) : List Fd → List Fd
  | [] => []
  | f :: t => if fdIs n f = true then (n, v) :: t else f :: repF n v t
def insF (n v : ByteArray) : List Fd → List Fd
  | [] => [(n, v)]
  | f :: t => if fdGt n f = true then (n, v) :: f :: t else f :: insF n v t
def setF (l : List Fd) (n v : ByteArray) : List Fd := if l.any (fdIs n) = true then repF n v l else insF n v l
theorem repF_ix (n v : ByteArray) (l : List Fd) (h : l.any (fdIs n) = true) : ∃ k : Nat, IxZ (fdIs n) l k ∧ repF n v l = l.set k (n, v) := by
  induction l with
  | nil => cases h
  | cons f t ih =>
    unfold repF
    cases hf : fdIs n f with
    | true => rw [if_pos rfl]; exact ⟨0, IxZ.cons_yes hf, rfl⟩
    | false =>
      rw [if_neg (by decide)]
      obtain ⟨k, h1, h2⟩ := ih (by rw [List.any_cons, hf, Bool.false_or] at h; exact h)
      exact ⟨k + 1, IxZ.cons_succ hf h1, by rw [h2]; rfl⟩
theorem insF_at (n v : ByteArray) (l : List Fd) : ∃ i, GtAt n l i ∧ insF n v l = l.take i ++ [(n, v)] ++ l.drop i := by
  induction l with
  | nil => exact ⟨0, ⟨Nat.le_refl _, fun j hj => absurd hj (Nat.not_lt_zero _), fun h => absurd h (Nat.lt_irrefl _)⟩, rfl⟩
  | cons f t ih =>
    unfold insF
    cases hf : fdGt n f with
    | true => rw [if_pos rfl]; exact ⟨0, ⟨Nat.zero_le _, fun j hj => absurd hj (Nat.not_lt_zero _), fun _ => hf⟩, rfl⟩
    | false =>
      rw [if_neg (by decide)]
      obtain ⟨i, ⟨h1, h2, h3⟩, h4⟩ := ih
      refine ⟨i + 1, ⟨by simpa using h1, fun j hj hl => ?_, fun hl => ?_⟩, by rw [h4]; rfl⟩
      · cases j with
        | zero => exact hf
        | succ j => exact h2 j (by omega) (by simpa using hl)
      · exact h3 (by simpa using hl)
theorem setF_R (l : List Fd) (n v : ByteArray) : SetR l n v (setF l n v) := by
  unfold setF
  cases h : l.any (fdIs n) with
  | true => rw [if_pos rfl]; exact .inl (repF_ix n v l h)
  | false =>
    rw [if_neg (by decide)]
    refine .inr ⟨IxZ.of_none fun f hf => ?_, insF_at n v l⟩
    cases h1 : fdIs n f with
    | false => rfl
    | true => rw [List.any_eq_true.2 ⟨f, hf, h1⟩] at h; cases h
theorem SetR.eq {l L : List Fd} {n v : ByteArray} (h : SetR l n v L) : L = setF l n v := h.uniq (setF_R l n v)
theorem fld_hd (n v : ByteArray) (t : List Fd) : fld n ((n, v) :: t) = some v := by
  show (if fdIs n (n, v) = true then some v else fld n t) = _
  rw [if_pos (show fdIs n (n, v) = true from fdIs_iff.2 rfl)]
theorem fld_tl (n : ByteArray) (f : Fd) (t : List Fd) (h : fdIs n f = false) : fld n (f :: t) = fld n t := by
  show (if fdIs n f = true then some f.2 else fld n t) = _
  rw [if_neg (by rw [h]; decide)]
theorem fld_rep (n v : ByteArray) (l : List Fd) (h : l.any (fdIs n) = true) : fld n (repF n v l) = some v := by
  induction l with
  | nil => cases h
  | cons f t ih =>
    unfold repF
    cases hf : fdIs n f with
    | true => rw [if_pos rfl, fld_hd]
    | false =>
      rw [if_neg (by decide), fld_tl _ _ _ hf]
      exact ih (by rw [List.any_cons, hf, Bool.false_or] at h; exact h)
theorem fld_ins (n v : ByteArray) (l : List Fd) (h : l.any (fdIs n) = false) : fld n (insF n v l) = some v := by
  induction l with
  | nil => exact fld_hd n v []
  | cons f t ih =>
    rw [List.any_cons, Bool.or_eq_false_iff] at h
    unfold insF
    by_cases hg : fdGt n f = true
    · rw [if_pos hg, fld_hd]
    · rw [if_neg hg, fld_tl _ _ _ h.1]; exact ih h.2
theorem fld_rep_ne (n v m : ByteArray) (hm : m ≠ n) (l : List Fd) : fld m (repF n v l) = fld m l := by
  induction l with
  | nil => rfl
  | cons f t ih =>
    unfold repF
    by_cases hf : fdIs n f = true
    · rw [if_pos hf]
      have h1 : fdIs m f = false := fdIs_not.2 (fun e => hm (e.symm.trans (fdIs_iff.1 hf)))
      have h2 : fdIs m (n, v) = false := fdIs_not.2 (fun e => hm e.symm)
      rw [fld_tl _ _ _ h1, fld_tl _ _ _ h2]
    · rw [if_neg hf]
      show fld m (f :: repF n v t) = fld m (f :: t)
      unfold fld
      rw [ih]
theorem fld_ins_ne (n v m : ByteArray) (hm : m ≠ n) (l : List Fd) : fld m (insF n v l) = fld m l := by
  have h2 : fdIs m (n, v) = false := fdIs_not.2 (fun e => hm e.symm)
  have h3 : ∀ t, fld m ((n, v) :: t) = fld m t := fun t => fld_tl _ _ _ h2
  induction l with
  | nil => exact h3 []
  | cons f t ih =>
    unfold insF
    by_cases hf : fdGt n f = true
    · rw [if_pos hf, h3]
    · rw [if_neg hf]
      show fld m (f :: insF n v t) = fld m (f :: t)
      unfold fld
      rw [ih]
theorem fld_set (l : List Fd) (n v : ByteArray) : fld n (setF l n v) = some v := by
  unfold setF
  cases h : l.any (fdIs n) with
  | true => rw [if_pos rfl]; exact fld_rep n v l h
  | false => rw [if_neg (by decide)]; exact fld_ins n v l h
theorem fld_set_ne (l : List Fd) (n v : ByteArray) {m : ByteArray} (hm : m ≠ n) : fld m (setF l n v) = fld m l := by
  unfold setF
  split
  · exact fld_rep_ne n v m hm l
  · exact fld_ins_ne n v m hm l
theorem fld_any {l : List Fd} {n v : ByteArray} (h : fld n l = some v) : l.any (fdIs n) = true ∧ repF n v l = l := by
  induction l with
  | nil => cases h
  | cons f t ih =>
    unfold fld at h
    by_cases hf : fdIs n f = true
    · rw [if_pos hf] at h
      refine ⟨by rw [List.any_cons, hf]; rfl, ?_⟩
      unfold repF
      rw [if_pos hf, ← fdIs_iff.1 hf, ← Option.some.inj h]
    · rw [if_neg hf] at h
      obtain ⟨h1, h2⟩ := ih h
      refine ⟨by rw [List.any_cons, h1, Bool.or_true], ?_⟩
      unfold repF
      rw [if_neg hf, h2]
theorem set_id {l : List Fd} {n v : ByteArray} (h : fld n l = some v) : setF l n v = l := by
  unfold setF
  rw [if_pos (fld_any h).1, (fld_any h).2]
theorem fld_mem {l : List Fd} (hn : (l.map Prod.fst).Nodup) {f : Fd} (hf : f ∈ l) : fld f.1 l = some f.2 := by
  induction l with
  | nil => cases hf
  | cons g t ih =>
    rw [List.map_cons, List.nodup_cons] at hn
    unfold fld
    rcases List.mem_cons.1 hf with rfl | hf
    · rw [if_pos (fdIs_iff.2 rfl)]
    · rw [if_neg (fun e => hn.1 (by rw [fdIs_iff.1 e]; exact List.mem_map_of_mem hf))]
      exact ih hn.2 hf
theorem fld_none {l : List Fd} {n : ByteArray} (h : fld n l = none) : ∀ f ∈ l, f.1 ≠ n := by
  induction l with
  | nil => intro f hf; cases hf
  | cons g t ih =>
    unfold fld at h
    by_cases hg : fdIs n g = true
    · rw [if_pos hg] at h; cases h
    · rw [if_neg hg] at h
      intro f hf
      rcases List.mem_cons.1 hf with rfl | hf
      · exact fun e => hg (fdIs_iff.2 e)
      · exact ih h f hf
/-- All fields of a list are set. -/
def withF (l fs : List Fd) : List Fd := fs.foldl (fun a f => setF a f.1 f.2) l
theorem withF_ne {n : ByteArray} (fs : List Fd) : ∀ (l : List Fd), (∀ f ∈ fs, f.1 ≠ n) → fld n (withF l fs) = fld n l := by
  induction fs with
  | nil => intro l _; rfl
  | cons f t ih =>
    intro l h
    show fld n (withF (setF l f.1 f.2) t) = _
    rw [ih _ fun g hg => h g (List.mem_cons_of_mem _ hg), fld_set_ne _ _ _ (fun e => h f List.mem_cons_self e.symm)]
theorem withF_mem (fs : List Fd) : ∀ (l : List Fd), (fs.map Prod.fst).Nodup → ∀ f ∈ fs, fld f.1 (withF l fs) = some f.2 := by
  induction fs with
  | nil => intro l _ f hf; cases hf
  | cons g t ih =>
    intro l hn f hf
    rw [List.map_cons, List.nodup_cons] at hn
    show fld f.1 (withF (setF l g.1 g.2) t) = _
    rcases List.mem_cons.1 hf with rfl | hf
    · rw [withF_ne t _ fun h hh e => hn.1 (by rw [← e]; exact List.mem_map_of_mem hh), fld_set]
    · exact ih _ hn.2 f hf
theorem withF_id (fs : List Fd) : ∀ (l : List Fd), (∀ f ∈ fs, fld f.1 l = some f.2) → withF l fs = l := by
  induction fs with
  | nil => intro l _; rfl
  | cons g t ih =>
    intro l h
    show withF (setF l g.1 g.2) t = l
    rw [set_id (h g List.mem_cons_self)]
    exact ih l fun f hf => h f (List.mem_cons_of_mem _ hf)
theorem withF_snoc (l fs : List Fd) (f : Fd) : withF l (fs ++ [f]) = setF (withF l fs) f.1 f.2 := by unfold withF; rw [List.foldl_append]; rfl
theorem setF_len (l : List Fd) (n v : ByteArray) : (setF l n v).length ≤ l.length + 1 := (setF_R l n v).len
theorem withF_len (fs : List Fd) : ∀ l : List Fd, (withF l fs).length ≤ l.length + fs.length := by
  induction fs with
  | nil => intro l; exact Nat.le_refl _
  | cons f t ih =>
    intro l
    have h1 := ih (setF l f.1 f.2)
    have h2 := setF_len l f.1 f.2
    show (withF (setF l f.1 f.2) t).length ≤ _
    simp only [List.length_cons]
    omega
theorem fdOk_nodup {l : List Fd} (h : FdOk l) : (l.map Prod.fst).Nodup := by
  refine ((fdOk_iff.1 h).2).imp fun {a b} hab e => ?_
  rw [e, bO_irrefl] at hab
  cases hab

/-- What a report lists. -/
structure Rep where
  kept : List ByteArray
  changed : List ByteArray
  revived : List ByteArray
  reused : List ByteArray
  added : List ByteArray
  obs : List ByteArray
  removed : List ByteArray
def rep0 : Rep := ⟨[], [], [], [], [], [], []⟩
/-- The state of an update: the entries, the report, and what is taken. -/
structure US where
  es : List Ep
  rp : Rep
  tk : List ByteArray
/-- The entry of an extracted one that the catalog has. -/
def knownP (x y : Ep) : Ep :=
  ⟨y.id, x.src, y.tgt, x.com, y.fl, if x.src = y.src ∧ y.st ≠ 4 then y.st else if y.tgt.size = 0 then 0 else 1, withF (if x.src = y.src then y.fd else setF y.fd prevB y.src) x.fd⟩
/-- The entry of an extracted one that the catalog does not have. -/
def freshP (x : Ep) : Option Ep → Ep
  | none => ⟨x.id, x.src, ⟨#[]⟩, x.com, [], 0, x.fd⟩
  | some z => ⟨x.id, x.src, z.tgt, x.com, z.fl, 1, setF x.fd reusB z.id⟩
def bestS (sim : Ep → Int) (may : Ep → Bool) (s : Nat × Int) (i : Nat) (z : Ep) : Nat × Int := if z.tgt.size ≠ 0 ∧ may z = true ∧ s.2 < sim z then (i, sim z) else s
def bestN (sim : Ep → Int) (may : Ep → Bool) (es : List Ep) : Nat → Nat × Int
  | 0 => (0, 699)
  | k + 1 => match es[k]? with
    | some z => bestS sim may (bestN sim may es k) k z
    | none => bestN sim may es k
/-- The first entry with the greatest similarity, at least 700. -/
def bestP (sim : Ep → Int) (may : Ep → Bool) (es : List Ep) : Option Nat := if 700 ≤ (bestN sim may es es.length).2 then some (bestN sim may es es.length).1 else none
theorem bestN_ok (sim : Ep → Int) (may : Ep → Bool) (es : List Ep) (k : Nat) : bestN sim may es k = (0, 699) ∨
    ∃ z, es[(bestN sim may es k).1]? = some z ∧ (bestN sim may es k).1 < k ∧ z.tgt.size ≠ 0 ∧ may z = true ∧ sim z = (bestN sim may es k).2 := by
  induction k with
  | zero => exact .inl rfl
  | succ k ih =>
    unfold bestN
    cases hz : es[k]? with
    | none =>
      dsimp only
      rcases ih with h | ⟨z, h, h1, h2⟩
      · exact .inl h
      · exact .inr ⟨z, h, by omega, h2⟩
    | some z =>
      dsimp only
      unfold bestS
      by_cases hc : z.tgt.size ≠ 0 ∧ may z = true ∧ (bestN sim may es k).2 < sim z
      · rw [if_pos hc]
        exact .inr ⟨z, hz, Nat.lt_succ_self k, hc.1, hc.2.1, rfl⟩
      · rw [if_neg hc]
        rcases ih with h | ⟨z, h, h1, h2⟩
        · exact .inl h
        · exact .inr ⟨z, h, by omega, h2⟩
theorem bestP_ok {sim : Ep → Int} {may : Ep → Bool} {es : List Ep} {j : Nat} (h : bestP sim may es = some j) : ∃ z, es[j]? = some z ∧ z.tgt.size ≠ 0 ∧ may z = true := by
  unfold bestP at h
  rcases bestN_ok sim may es es.length with h1 | ⟨z, h1, _, h2, h3, _⟩
  · rw [h1] at h
    cases h
  · split at h
    · injection h with h
      subst h
      exact ⟨z, h1, h2, h3⟩
    · cases h
/-- A list of IDs has one. -/
def inB (tk : List ByteArray) (id : ByteArray) : Bool := tk.any fun i => decide (i = id)
theorem inB_iff {tk : List ByteArray} {id : ByteArray} : inB tk id = true ↔ id ∈ tk := by
  unfold inB
  rw [List.any_eq_true]
  constructor
  · rintro ⟨i, hi, h⟩
    rw [← of_decide_eq_true h]; exact hi
  · exact fun h => ⟨id, h, decide_eq_true rfl⟩
theorem inB_not {tk : List ByteArray} {id : ByteArray} : inB tk id = false ↔ id ∉ tk := by
  rw [← inB_iff]; cases inB tk id <;> simp
/-- How often a list has an ID. -/
def cntB (l : List ByteArray) (id : ByteArray) : Nat := l.countP fun i => decide (i = id)
theorem cntB_nil (id : ByteArray) : cntB [] id = 0 := rfl
theorem cntB_app (l m : List ByteArray) (id : ByteArray) : cntB (l ++ m) id = cntB l id + cntB m id := List.countP_append
def findE (es : List Ep) (id : ByteArray) : Option Ep := es.find? fun y => decide (y.id = id)
def mayP (tk : List ByteArray) (z : Ep) : Bool := !inB tk z.id
def bestE (c : List Ep) (src : ByteArray) (tk : List ByteArray) : Option Ep := (bestP (fun z => simP src z.src) (mayP tk) c).bind fun j => c[j]?
theorem bestE_ok {c : List Ep} {src : ByteArray} {tk : List ByteArray} {z : Ep} (h : bestE c src tk = some z) : z ∈ c ∧ z.tgt.size ≠ 0 ∧ z.id ∉ tk := by
  unfold bestE at h
  cases hb : bestP (fun z => simP src z.src) (mayP tk) c with
  | none => rw [hb] at h; cases h
  | some j =>
    rw [hb] at h
    obtain ⟨z', hj, h1, h2⟩ := bestP_ok hb
    have e : c[j]? = some z := h
    rw [hj] at e
    injection e with e
    subst e
    refine ⟨List.mem_of_getElem? hj, h1, ?_⟩
    unfold mayP at h2
    exact inB_not.1 (by simpa using h2)
/-- One extracted entry. -/
def stepU (c : List Ep) (s : US) (x : Ep) : US :=
  match findE c x.id with
  | some y => ⟨s.es ++ [knownP x y], if x.src = y.src then (if y.st = 4 then { s.rp with revived := s.rp.revived ++ [x.id] } else { s.rp with kept := s.rp.kept ++ [x.id] }) else { s.rp with changed := s.rp.changed ++ [x.id] }, s.tk⟩
  | none => match bestE c x.src s.tk with
    | none => ⟨s.es ++ [freshP x none], { s.rp with added := s.rp.added ++ [x.id] }, s.tk⟩
    | some z => ⟨s.es ++ [freshP x (some z)], { s.rp with reused := s.rp.reused ++ [x.id] }, s.tk ++ [z.id]⟩
def obsP (y : Ep) : Ep := { y with st := 4 }
/-- One entry of the catalog. -/
def restS (tk : List ByteArray) (s : US) (y : Ep) : US :=
  if inB tk y.id = true then s
  else if y.tgt.size = 0 then ⟨s.es, { s.rp with removed := s.rp.removed ++ [y.id] }, s.tk⟩
  else ⟨s.es ++ [obsP y], if y.st = 4 then s.rp else { s.rp with obs := s.rp.obs ++ [y.id] }, s.tk⟩
def updU1 (c xs : List Ep) : US := xs.foldl (stepU c) ⟨[], rep0, xs.map Ep.id⟩
def updU (c xs : List Ep) : US := c.foldl (restS (updU1 c xs).tk) (updU1 c xs)
def noTake (x : Ep) : Bool := (fld prevB x.fd).isNone && (fld reusB x.fd).isNone
def properP (c : Cp) (xs : List Ep) : Bool := xs.all noTake && (validC c && validC ⟨c.tag, [], [], xs⟩)
def updP (c : Cp) (xs : List Ep) : Cp × Rep × Int :=
  if properP c xs = true then (if validC (c.w (updU c.es xs).es) = true then (c.w (updU c.es xs).es, (updU c.es xs).rp, 0) else (cp0, rep0, 6)) else (cp0, rep0, 1)
end Go.Proofs.YtgnchicipmomlaaGreatDoor

/- What an update keeps: the plain laws. -/
namespace Go.Proofs.YtgnchicipmomlaaGreatDoor
set_option maxRecDepth 100000
theorem findE_some {c : List Ep} {id : ByteArray} {y : Ep} (h : findE c id = some y) : y ∈ c ∧ y.id = id := by
  unfold findE at h
  exact ⟨List.mem_of_find?_eq_some h, by have := List.find?_some h; simpa using this⟩
theorem findE_none {c : List Ep} {id : ByteArray} (h : findE c id = none) : ∀ y ∈ c, y.id ≠ id := by
  unfold findE at h
  intro y hy
  have := List.find?_eq_none.1 h y hy
  simpa using this
theorem findE_mem {c : List Ep} (hn : (c.map Ep.id).Nodup) {y : Ep} (hy : y ∈ c) : findE c y.id = some y := by
  induction c with
  | nil => cases hy
  | cons a t ih =>
    rw [List.map_cons, List.nodup_cons] at hn
    unfold findE
    rw [List.find?_cons]
    rcases List.mem_cons.1 hy with rfl | hy
    · simp
    · have hne : ¬ a.id = y.id := fun e => hn.1 (by rw [e]; exact List.mem_map_of_mem hy)
      simp only [hne, decide_false]
      exact ih hn.2 hy
/-- Two lists, element by element. -/
def All2 {α β : Type} (R : α → β → Prop) (xs : List α) (ys : List β) : Prop := xs.length = ys.length ∧ ∀ i (h : i < xs.length) (h' : i < ys.length), R (xs[i]'h) (ys[i]'h')
theorem All2.nil_ {α β : Type} {R : α → β → Prop} : All2 R [] [] := ⟨rfl, fun _ h => absurd h (Nat.not_lt_zero _)⟩
theorem All2.snoc {α β : Type} {R : α → β → Prop} {xs : List α} {ys : List β} (h : All2 R xs ys) {x : α} {y : β} (hr : R x y) : All2 R (xs ++ [x]) (ys ++ [y]) := by
  refine ⟨by simp [h.1], fun i h1 h2 => ?_⟩
  rcases Nat.lt_or_ge i xs.length with h3 | h3
  · rw [List.getElem_append_left h3, List.getElem_append_left (by rw [← h.1]; exact h3)]
    exact h.2 i h3 _
  · have h4 : i = xs.length := by simp at h1; omega
    subst h4
    rw [List.getElem_append_right (Nat.le_refl _), List.getElem_append_right (by rw [h.1]; exact Nat.le_refl _)]
    simp [h.1, hr]
/-- What holds of the entry of an extracted one. -/
structure GoodX (x e : Ep) : Prop where
  id : e.id = x.id
  src : e.src = x.src
  com : e.com = x.com
  st : e.st ≠ 4
  fd : (x.fd.map Prod.fst).Nodup → ∀ f ∈ x.fd, fld f.1 e.fd = some f.2
/-- Where an entry of the result comes from. -/
inductive From (c : List Ep) (x e : Ep) : Prop
  | known (y : Ep) (hy : y ∈ c) (hid : y.id = x.id) (he : e = knownP x y)
  | reused (hn : findE c x.id = none) (z : Ep) (hz : z ∈ c) (ht : z.tgt.size ≠ 0) (he : e = freshP x (some z))
  | added (hn : findE c x.id = none) (he : e = freshP x none)
theorem knownP_st (x y : Ep) : (knownP x y).st ≠ 4 := by
  unfold knownP
  dsimp only
  split
  · rename_i h; exact h.2
  · split <;> omega
theorem From.good {c : List Ep} {x e : Ep} (h : From c x e) (hx : noTake x = true) : GoodX x e := by
  unfold noTake at hx
  rw [Bool.and_eq_true, Option.isNone_iff_eq_none, Option.isNone_iff_eq_none] at hx
  rcases h with ⟨y, _, hid, rfl⟩ | ⟨_, z, _, _, rfl⟩ | ⟨_, rfl⟩
  · exact ⟨hid, rfl, rfl, knownP_st x y, fun hn f hf => withF_mem _ _ hn f hf⟩
  · refine ⟨rfl, rfl, rfl, by show (1 : Int) ≠ 4; omega, fun hn f hf => ?_⟩
    show fld f.1 (setF x.fd reusB z.id) = _
    rw [fld_set_ne _ _ _ (fld_none hx.2 f hf), fld_mem hn hf]
  · exact ⟨rfl, rfl, rfl, by show (0 : Int) ≠ 4; omega, fun hn f hf => fld_mem hn hf⟩
/-- The state after some extracted entries: what was added to it. -/
structure After (c : List Ep) (s s' : US) (xs ys zs : List Ep) : Prop where
  es : s'.es = s.es ++ ys
  from_ : All2 (From c) xs ys
  tk : s'.tk = s.tk ++ zs.map Ep.id
  ru : s'.rp.reused.length = s.rp.reused.length + zs.length
  zc : ∀ z ∈ zs, z ∈ c ∧ z.tgt.size ≠ 0 ∧ z.id ∉ s.tk ∧ ∃ y ∈ ys, y.tgt = z.tgt ∧ y.st = 1 ∧ fld reusB y.fd = some z.id
  zn : (zs.map Ep.id).Nodup
  cnt : ∀ i, cntB s'.rp.kept i + cntB s'.rp.changed i + cntB s'.rp.revived i + cntB s'.rp.reused i + cntB s'.rp.added i =
    cntB s.rp.kept i + cntB s.rp.changed i + cntB s.rp.revived i + cntB s.rp.reused i + cntB s.rp.added i + cntB (xs.map Ep.id) i
  ob : s'.rp.obs = s.rp.obs
  rm : s'.rp.removed = s.rp.removed
theorem After.zero (c : List Ep) (s : US) : After c s s [] [] [] :=
  ⟨by simp, All2.nil_, by simp, by simp, by simp, by simp, fun i => by rw [List.map_nil, cntB_nil, Nat.add_zero], rfl, rfl⟩
theorem After.step {c : List Ep} {s s' : US} {xs ys zs : List Ep} (h : After c s s' xs ys zs) (x : Ep) : ∃ y zs', After c s (stepU c s' x) (xs ++ [x]) (ys ++ [y]) zs' := by
  unfold stepU
  cases hf : findE c x.id with
  | some y =>
    obtain ⟨hy, hid⟩ := findE_some hf
    refine ⟨knownP x y, zs, ?_⟩
    dsimp only
    refine ⟨by rw [h.es, List.append_assoc], h.from_.snoc (.known y hy hid rfl), h.tk, ?_, fun z hz => ?_, h.zn, fun i => ?_, ?_, ?_⟩
    · by_cases h1 : x.src = y.src
      · rw [if_pos h1]
        by_cases h2 : y.st = 4
        · rw [if_pos h2]; exact h.ru
        · rw [if_neg h2]; exact h.ru
      · rw [if_neg h1]; exact h.ru
    · obtain ⟨a1, a2, a3, y', a4, a5⟩ := h.zc z hz
      exact ⟨a1, a2, a3, y', List.mem_append_left _ a4, a5⟩
    · have hc := h.cnt i
      rw [List.map_append, cntB_app]
      simp only [List.map_cons, List.map_nil]
      by_cases h1 : x.src = y.src
      · rw [if_pos h1]
        by_cases h2 : y.st = 4
        · rw [if_pos h2]
          simp only [cntB_app]
          omega
        · rw [if_neg h2]
          simp only [cntB_app]
          omega
      · rw [if_neg h1]
        simp only [cntB_app]
        omega
    · by_cases h1 : x.src = y.src
      · rw [if_pos h1]
        by_cases h2 : y.st = 4
        · rw [if_pos h2]; exact h.ob
        · rw [if_neg h2]; exact h.ob
      · rw [if_neg h1]; exact h.ob
    · by_cases h1 : x.src = y.src
      · rw [if_pos h1]
        by_cases h2 : y.st = 4
        · rw [if_pos h2]; exact h.rm
        · rw [if_neg h2]; exact h.rm
      · rw [if_neg h1]; exact h.rm
  | none =>
    dsimp only
    cases hb : bestE c x.src s'.tk with
    | none =>
      refine ⟨freshP x none, zs, ?_⟩
      dsimp only
      refine ⟨by rw [h.es, List.append_assoc], h.from_.snoc (.added hf rfl), h.tk, h.ru, fun z hz => ?_, h.zn, fun i => ?_, h.ob, h.rm⟩
      · obtain ⟨a1, a2, a3, y', a4, a5⟩ := h.zc z hz
        exact ⟨a1, a2, a3, y', List.mem_append_left _ a4, a5⟩
      · have hc := h.cnt i
        rw [List.map_append, cntB_app, cntB_app]
        simp only [List.map_cons, List.map_nil]
        omega
    | some z =>
      obtain ⟨hz, ht, hnt⟩ := bestE_ok hb
      rw [h.tk, List.mem_append] at hnt
      refine ⟨freshP x (some z), zs ++ [z], ?_⟩
      dsimp only
      refine ⟨by rw [h.es, List.append_assoc], h.from_.snoc (.reused hf z hz ht rfl), by rw [h.tk, List.map_append, List.append_assoc]; rfl, ?_, fun u hu => ?_, ?_, fun i => ?_, h.ob, h.rm⟩
      · simp only [List.length_append, h.ru, List.length_cons, List.length_nil]
        omega
      · rcases List.mem_append.1 hu with hu | hu
        · obtain ⟨a1, a2, a3, y', a4, a5⟩ := h.zc u hu
          exact ⟨a1, a2, a3, y', List.mem_append_left _ a4, a5⟩
        · obtain rfl := List.mem_singleton.1 hu
          exact ⟨hz, ht, fun e => hnt (.inl e), freshP x (some u), List.mem_append_right _ (List.mem_singleton.2 rfl), rfl, rfl, fld_set _ _ _⟩
      · rw [List.map_append, List.nodup_append]
        refine ⟨h.zn, by simp, fun a ha b hb e => ?_⟩
        have hb' : b = z.id := by simpa using hb
        exact hnt (.inr (by rw [← hb', ← e]; exact ha))
      · have hc := h.cnt i
        rw [List.map_append, cntB_app, cntB_app]
        simp only [List.map_cons, List.map_nil]
        omega
theorem after_fold (c : List Ep) (s : US) (xs : List Ep) : ∃ ys zs, After c s (xs.foldl (stepU c) s) xs ys zs := by
  have key : ∀ n, n ≤ xs.length → ∃ ys zs, After c s ((xs.take n).foldl (stepU c) s) (xs.take n) ys zs := by
    intro n
    induction n with
    | zero => intro _; exact ⟨[], [], After.zero c s⟩
    | succ n ih =>
      intro hn
      obtain ⟨ys, zs, h⟩ := ih (by omega)
      obtain ⟨y, zs', h'⟩ := h.step xs[n]
      rw [List.take_succ_eq_append_getElem (by omega), List.foldl_append]
      exact ⟨_, _, h'⟩
  have := key xs.length (Nat.le_refl _)
  rwa [List.take_length] at this
/-- The entries of the catalog that stay behind the extracted ones. -/
def keepB (tk : List ByteArray) (y : Ep) : Bool := !inB tk y.id && !decide (y.tgt.size = 0)
def obsB (tk : List ByteArray) (y : Ep) : Bool := keepB tk y && !decide (y.st = 4)
def goneB (tk : List ByteArray) (y : Ep) : Bool := !inB tk y.id && decide (y.tgt.size = 0)
theorem rest_fold (tk : List ByteArray) (c : List Ep) : ∀ s : US, c.foldl (restS tk) s =
    ⟨s.es ++ (c.filter (keepB tk)).map obsP, { s.rp with obs := s.rp.obs ++ (c.filter (obsB tk)).map Ep.id, removed := s.rp.removed ++ (c.filter (goneB tk)).map Ep.id }, s.tk⟩ := by
  induction c with
  | nil => intro s; simp
  | cons y t ih =>
    intro s
    rw [List.foldl_cons, ih]
    unfold restS
    by_cases h1 : inB tk y.id = true
    · have k1 : keepB tk y = false := by simp [keepB, h1]
      have k2 : obsB tk y = false := by simp [obsB, k1]
      have k3 : goneB tk y = false := by simp [goneB, h1]
      rw [if_pos h1, List.filter_cons_of_neg (by simp [k1]), List.filter_cons_of_neg (by simp [k2]), List.filter_cons_of_neg (by simp [k3])]
    · rw [if_neg h1]
      by_cases h2 : y.tgt.size = 0
      · have k1 : keepB tk y = false := by simp [keepB, h2]
        have k2 : obsB tk y = false := by simp [obsB, k1]
        have k3 : goneB tk y = true := by simp [goneB, h1, h2]
        rw [if_pos h2, List.filter_cons_of_neg (by simp [k1]), List.filter_cons_of_neg (by simp [k2]), List.filter_cons_of_pos k3]
        simp
      · have k1 : keepB tk y = true := by simp [keepB, h1, h2]
        have k3 : goneB tk y = false := by simp [goneB, h2]
        rw [if_neg h2, List.filter_cons_of_pos k1, List.filter_cons_of_neg (l := t) (p := goneB tk) (by simp [k3])]
        by_cases h3 : y.st = 4
        · have k2 : obsB tk y = false := by simp [obsB, h3]
          rw [if_pos h3, List.filter_cons_of_neg (by simp [k2])]
          simp
        · have k2 : obsB tk y = true := by simp [obsB, k1, h3]
          rw [if_neg h3, List.filter_cons_of_pos k2]
          simp
/-- What an update gives. -/
structure UpD (c xs ys zs : List Ep) (s : US) (tk : List ByteArray) : Prop where
  es : s.es = ys ++ (c.filter (keepB tk)).map obsP
  tke : tk = xs.map Ep.id ++ zs.map Ep.id
  from_ : All2 (From c) xs ys
  ru : s.rp.reused.length = zs.length
  zc : ∀ z ∈ zs, z ∈ c ∧ z.tgt.size ≠ 0 ∧ z.id ∉ xs.map Ep.id ∧ ∃ y ∈ ys, y.tgt = z.tgt ∧ y.st = 1 ∧ fld reusB y.fd = some z.id
  zn : (zs.map Ep.id).Nodup
  cnt : ∀ i, cntB s.rp.kept i + cntB s.rp.changed i + cntB s.rp.revived i + cntB s.rp.reused i + cntB s.rp.added i = cntB (xs.map Ep.id) i
  ob : s.rp.obs = (c.filter (obsB tk)).map Ep.id
  rm : s.rp.removed = (c.filter (goneB tk)).map Ep.id
theorem updU_D (c xs : List Ep) : ∃ ys zs tk, UpD c xs ys zs (updU c xs) tk := by
  obtain ⟨ys, zs, h⟩ := after_fold c ⟨[], rep0, xs.map Ep.id⟩ xs
  refine ⟨ys, zs, (updU1 c xs).tk, ?_⟩
  have h' : After c ⟨[], rep0, xs.map Ep.id⟩ (updU1 c xs) xs ys zs := h
  unfold updU
  rw [rest_fold]
  refine ⟨?_, h'.tk, h'.from_, ?_, h'.zc, h'.zn, fun i => ?_, ?_, ?_⟩
  · show (updU1 c xs).es ++ _ = _
    rw [h'.es]; rfl
  · have := h'.ru
    simpa [rep0] using this
  · have := h'.cnt i
    simpa [rep0, cntB_nil] using this
  · show (updU1 c xs).rp.obs ++ _ = _
    rw [h'.ob]; rfl
  · show (updU1 c xs).rp.removed ++ _ = _
    rw [h'.rm]; rfl

/-- What is in the result. -/
theorem UpD.mem_ys {c xs ys zs : List Ep} {s : US} {tk : List ByteArray} (h : UpD c xs ys zs s tk) {i : Nat} (hi : i < xs.length) : ∃ hy : i < ys.length, From c xs[i] ys[i] := ⟨by rw [← h.from_.1]; exact hi, h.from_.2 i hi _⟩
theorem UpD.in_tk {c xs ys zs : List Ep} {s : US} {tk : List ByteArray} (h : UpD c xs ys zs s tk) (id : ByteArray) : inB tk id = true ↔ id ∈ xs.map Ep.id ∨ id ∈ zs.map Ep.id := by
  rw [inB_iff, h.tke, List.mem_append]
theorem uniq_id {c : List Ep} (hn : (c.map Ep.id).Nodup) {x y : Ep} (hx : x ∈ c) (hy : y ∈ c) (e : x.id = y.id) : x = y := by
  have h1 := findE_mem hn hx
  have h2 := findE_mem hn hy
  rw [e, h2] at h1
  injection h1 with h1
  exact h1.symm
/-- Every target is in the result. -/
theorem UpD.keeps {c xs ys zs : List Ep} {s : US} {tk : List ByteArray} (h : UpD c xs ys zs s tk) (hn : (c.map Ep.id).Nodup) {x : Ep} (hx : x ∈ c) (ht : x.tgt.size ≠ 0) :
    ∃ y ∈ s.es, y.tgt = x.tgt ∧ (y.id = x.id ∨ (fld reusB y.fd = some x.id ∧ y.st = 1)) := by
  rw [h.es]
  by_cases h1 : x.id ∈ xs.map Ep.id
  · obtain ⟨u, hu, e⟩ := List.mem_map.1 h1
    obtain ⟨i, hi, rfl⟩ := List.getElem_of_mem hu
    obtain ⟨hy, hf⟩ := h.mem_ys hi
    refine ⟨ys[i], List.mem_append_left _ (List.getElem_mem hy), ?_⟩
    rcases hf with ⟨y, hyc, hid, he⟩ | ⟨hnn, z, _, _, he⟩ | ⟨hnn, he⟩
    · have : y = x := uniq_id hn hyc hx (by rw [hid, e])
      subst this
      rw [he]
      exact ⟨rfl, .inl rfl⟩
    · exact absurd e.symm (findE_none hnn x hx)
    · exact absurd e.symm (findE_none hnn x hx)
  · by_cases h2 : x.id ∈ zs.map Ep.id
    · obtain ⟨z, hz, e⟩ := List.mem_map.1 h2
      obtain ⟨hzc, _, _, y, hy, a1, a2, a3⟩ := h.zc z hz
      have : z = x := uniq_id hn hzc hx e
      subst this
      exact ⟨y, List.mem_append_left _ hy, a1, .inr ⟨a3, a2⟩⟩
    · have hk : keepB tk x = true := by
        have : inB tk x.id = false := by
          cases hb : inB tk x.id with
          | false => rfl
          | true => exact absurd ((h.in_tk _).1 hb) (by rintro (e | e) <;> contradiction)
        unfold keepB
        rw [this, decide_eq_false ht]
        rfl
      exact ⟨obsP x, List.mem_append_right _ (List.mem_map_of_mem (List.mem_filter.2 ⟨hx, hk⟩)), rfl, .inl rfl⟩
theorem UpD.front {c xs ys zs : List Ep} {s : US} {tk : List ByteArray} (h : UpD c xs ys zs s tk) (hx : ∀ x ∈ xs, noTake x = true) {i : Nat} (hi : i < xs.length) : ∃ hs : i < s.es.length, GoodX xs[i] s.es[i] := by
  obtain ⟨hy, hf⟩ := h.mem_ys hi
  have hs : i < s.es.length := by rw [h.es, List.length_append]; omega
  refine ⟨hs, ?_⟩
  have e : s.es[i] = (ys ++ (c.filter (keepB tk)).map obsP)[i]'(by rw [← h.es]; exact hs) := by simp only [h.es]
  rw [e, List.getElem_append_left hy]
  exact hf.good (hx _ (List.getElem_mem hi))
end Go.Proofs.YtgnchicipmomlaaGreatDoor

/- Updates that change little: with nothing extracted, with the catalog's own entries, and done again; plain. -/
namespace Go.Proofs.YtgnchicipmomlaaGreatDoor
set_option maxRecDepth 100000
/-- One extracted entry that the catalog has with an equal source, not obsolete. -/
theorem stepU_kept {c : List Ep} {s : US} {x y : Ep} (h : findE c x.id = some y) (hs : x.src = y.src) (h4 : y.st ≠ 4) :
    stepU c s x = ⟨s.es ++ [knownP x y], { s.rp with kept := s.rp.kept ++ [x.id] }, s.tk⟩ := by
  unfold stepU
  rw [h]
  dsimp only
  rw [if_pos hs, if_neg h4]
theorem fold_kept {c : List Ep} (g : Ep → Ep) (xs : List Ep) : ∀ (s : US), (∀ x ∈ xs, findE c x.id = some (g x) ∧ x.src = (g x).src ∧ (g x).st ≠ 4) →
    xs.foldl (stepU c) s = ⟨s.es ++ xs.map (fun x => knownP x (g x)), { s.rp with kept := s.rp.kept ++ xs.map Ep.id }, s.tk⟩ := by
  induction xs with
  | nil => intro s _; simp
  | cons x t ih =>
    intro s h
    obtain ⟨h1, h2, h3⟩ := h x List.mem_cons_self
    rw [List.foldl_cons, stepU_kept h1 h2 h3, ih _ fun u hu => h u (List.mem_cons_of_mem _ hu)]
    simp
theorem filter_none {α : Type} (p : α → Bool) (l : List α) (h : ∀ x ∈ l, p x = false) : l.filter p = [] := by
  rw [List.filter_eq_nil_iff]
  intro x hx e
  rw [h x hx] at e
  cases e
theorem filter_all {α : Type} (p : α → Bool) (l : List α) (h : ∀ x ∈ l, p x = true) : l.filter p = l := List.filter_eq_self.2 h
theorem knownP_self {x y : Ep} (hi : y.id = x.id) (hs : x.src = y.src) (hc : y.com = x.com) (h4 : y.st ≠ 4) (hf : ∀ f ∈ x.fd, fld f.1 y.fd = some f.2) : knownP x y = y := by
  obtain ⟨i, sr, tg, co, fl, st, fd⟩ := y
  unfold knownP
  dsimp only at *
  rw [if_pos ⟨hs, h4⟩, if_pos hs, withF_id _ _ hf, hs, hc]
/-- Done again, an update changes nothing. -/
theorem UpD.again {c xs ys zs : List Ep} {s : US} {tk : List ByteArray} (h : UpD c xs ys zs s tk) (hx : ∀ x ∈ xs, noTake x = true) (hf : ∀ x ∈ xs, (x.fd.map Prod.fst).Nodup) (hn : (s.es.map Ep.id).Nodup) :
    updU s.es xs = ⟨s.es, { rep0 with kept := xs.map Ep.id }, xs.map Ep.id⟩ := by
  have hl := h.from_.1
  have hes := h.es
  obtain ⟨bs, hbs⟩ : ∃ bs, bs = (c.filter (keepB tk)).map obsP := ⟨_, rfl⟩
  rw [← hbs] at hes
  have hyl : ys.length = xs.length := hl.symm
  have hgood : ∀ i (hi : i < xs.length), ∃ hy : i < ys.length, GoodX xs[i] ys[i] := fun i hi => by
    obtain ⟨hy, hfr⟩ := h.mem_ys hi
    exact ⟨hy, hfr.good (hx _ (List.getElem_mem hi))⟩
  have hmemy : ∀ y ∈ ys, y ∈ s.es := fun y hy => by rw [hes]; exact List.mem_append_left _ hy
  have hmemb : ∀ y ∈ bs, y ∈ s.es := fun y hy => by rw [hes]; exact List.mem_append_right _ hy
  -- each extracted entry is found
  have hg : ∀ x ∈ xs, ∃ y ∈ ys, findE s.es x.id = some y ∧ GoodX x y := fun x hxm => by
    obtain ⟨i, hi, rfl⟩ := List.getElem_of_mem hxm
    obtain ⟨hy, hgd⟩ := hgood i hi
    exact ⟨ys[i], List.getElem_mem hy, by rw [← hgd.id]; exact findE_mem hn (hmemy _ (List.getElem_mem hy)), hgd⟩
  have hkn : ∀ x ∈ xs, findE s.es x.id = some ((findE s.es x.id).getD x) ∧ x.src = ((findE s.es x.id).getD x).src ∧ ((findE s.es x.id).getD x).st ≠ 4 := fun x hxm => by
    obtain ⟨y, _, h1, h2⟩ := hg x hxm
    rw [h1]
    exact ⟨rfl, h2.src.symm, h2.st⟩
  have hmap : xs.map (fun x => knownP x ((findE s.es x.id).getD x)) = ys := by
    apply List.ext_getElem (by rw [List.length_map, hl])
    intro i h1 h2
    rw [List.getElem_map]
    have hi : i < xs.length := by rw [List.length_map] at h1; exact h1
    obtain ⟨hy, hgd⟩ := hgood i hi
    have h3 : findE s.es xs[i].id = some ys[i] := by rw [← hgd.id]; exact findE_mem hn (hmemy _ (List.getElem_mem hy))
    rw [h3]
    exact knownP_self hgd.id hgd.src.symm hgd.com hgd.st (hgd.fd (hf _ (List.getElem_mem hi)))
  have h1 : updU1 s.es xs = ⟨ys, { rep0 with kept := xs.map Ep.id }, xs.map Ep.id⟩ := by
    unfold updU1
    rw [fold_kept (fun x => (findE s.es x.id).getD x) xs _ hkn, hmap]
    simp [rep0]
  have hyin : ∀ y ∈ ys, inB (xs.map Ep.id) y.id = true := fun y hy => by
    obtain ⟨i, hi, rfl⟩ := List.getElem_of_mem hy
    have hi' : i < xs.length := by omega
    obtain ⟨_, hgd⟩ := hgood i hi'
    rw [hgd.id]
    exact inB_iff.2 (List.mem_map_of_mem (List.getElem_mem hi'))
  have hbout : ∀ y ∈ bs, inB (xs.map Ep.id) y.id = false := fun y hy => by
    rw [inB_not]
    intro e
    obtain ⟨x, hxm, e2⟩ := List.mem_map.1 e
    obtain ⟨y', hy', h3, hgd⟩ := hg x hxm
    rw [hes, List.map_append, List.nodup_append] at hn
    exact hn.2.2 y'.id (List.mem_map_of_mem hy') y.id (List.mem_map_of_mem hy) (by rw [hgd.id, e2])
  have hb4 : ∀ y ∈ bs, y.st = 4 ∧ y.tgt.size ≠ 0 := fun y hy => by
    rw [hbs] at hy
    obtain ⟨u, hu, rfl⟩ := List.mem_map.1 hy
    refine ⟨rfl, fun e => ?_⟩
    have hk := (List.mem_filter.1 hu).2
    have e4 : u.tgt.size = 0 := e
    unfold keepB at hk
    rw [e4] at hk
    simp at hk
  have k1 : s.es.filter (keepB (xs.map Ep.id)) = bs := by
    rw [hes, List.filter_append, filter_none _ ys fun y hy => by simp [keepB, hyin y hy], List.nil_append]
    exact filter_all _ _ fun y hy => by simp [keepB, hbout y hy, (hb4 y hy).2]
  have k2 : s.es.filter (obsB (xs.map Ep.id)) = [] := by
    refine filter_none _ _ fun y hy => ?_
    rw [hes] at hy
    rcases List.mem_append.1 hy with hy | hy
    · simp [obsB, keepB, hyin y hy]
    · simp [obsB, (hb4 y hy).1]
  have k3 : s.es.filter (goneB (xs.map Ep.id)) = [] := by
    refine filter_none _ _ fun y hy => ?_
    rw [hes] at hy
    rcases List.mem_append.1 hy with hy | hy
    · simp [goneB, hyin y hy]
    · simp [goneB, (hb4 y hy).2]
  have k4 : bs.map obsP = bs := by
    conv => rhs; rw [← List.map_id bs]
    refine List.map_congr_left fun y hy => ?_
    have := (hb4 y hy).1
    unfold obsP
    rw [← this]
    rfl
  unfold updU
  rw [h1, rest_fold]
  dsimp only
  rw [k1, k2, k3, k4, hes]
  simp [rep0]
theorem validE_fd {x : Ep} (h : validE x = true) : FdOk x.fd := by
  unfold validE at h
  simp only [Bool.and_eq_true] at h
  exact (fieldsP_iff.1 h.2).1
end Go.Proofs.YtgnchicipmomlaaGreatDoor
