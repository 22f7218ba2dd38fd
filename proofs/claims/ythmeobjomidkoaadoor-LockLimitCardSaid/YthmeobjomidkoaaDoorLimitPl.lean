/- A thousand locks, plainly. -/
import Derived.Test.YthmeobjomidkoaaDoorLockPl
namespace Go.Proofs.YthmeobjomidkoaaDoor
open Go.RowKit
set_option maxRecDepth 100000

theorem nodup_le {α : Type} [DecidableEq α] : ∀ {L M : List α}, L.Nodup → (∀ x ∈ L, x ∈ M) → L.length ≤ M.length
  | [], _, _, _ => Nat.zero_le _
  | a :: t, M, hn, h => by
    obtain ⟨h1, h2⟩ := List.nodup_cons.1 hn
    have ha := h a (by simp)
    have h3 := nodup_le (M := M.erase a) h2 fun x hx => (List.mem_erase_of_ne (fun e => h1 (by rw [← e]; exact hx))).2 (h x (List.mem_cons_of_mem _ hx))
    rw [List.length_erase_of_mem ha] at h3
    have h4 := List.length_pos_of_mem ha
    rw [List.length_cons]
    omega

/-- The name of the i-th lock. -/
def idB (i : Nat) : List UInt8 := [UInt8.ofNat (97 + i / 100), UInt8.ofNat (97 + i / 10 % 10), UInt8.ofNat (97 + i % 10)]
def idN (i : Nat) : ByteArray := str (idB i)
def sApp : ByteArray := ⟨#[97, 112, 112]⟩
def sAnn : ByteArray := ⟨#[97, 110, 110]⟩
def sBob : ByteArray := ⟨#[98, 111, 98]⟩
def sX : ByteArray := ⟨#[120]⟩
theorem u8_inj {a b : Nat} (ha : a < 256) (hb : b < 256) (h : UInt8.ofNat a = UInt8.ofNat b) : a = b := by
  have h1 := congrArg UInt8.toNat h
  rw [UInt8.toNat_ofNat', UInt8.toNat_ofNat'] at h1
  omega
theorem idN_inj {i j : Nat} (hi : i < 1000) (hj : j < 1000) (h : idN i = idN j) : i = j := by
  unfold idN str idB at h
  injection h with h
  simp only [Array.mk.injEq, List.cons.injEq, and_true] at h
  obtain ⟨h1, h2, h3⟩ := h
  have e1 := u8_inj (by omega) (by omega) h1
  have e2 := u8_inj (by omega) (by omega) h2
  have e3 := u8_inj (by omega) (by omega) h3
  omega
theorem idN_ne {i : Nat} : idN i ≠ sX := by
  intro h
  unfold idN str idB sX at h
  injection h with h
  have := congrArg Array.size h
  simp at this
theorem idN_proper : ∀ i, i < 1000 → properB sAnn sApp (idN i) = true := by decide +kernel
theorem x_proper1 : properB sAnn sApp sX = true := by decide +kernel
theorem x_proper2 : properB sBob sApp sX = true := by decide +kernel
def gLk (i : Nat) : Lk := ⟨sApp, idN i, sAnn, 10 + (i % 2 : Nat)⟩
/-- The first i locks. -/
def Grid (i : Nat) (F : LF) : Prop := (∀ j, j < i → F sApp (idN j) = some (gLk j)) ∧ ∀ a b x, F a b = some x → ∃ j, j < i ∧ a = sApp ∧ b = idN j
theorem Grid.start : Grid 0 fun _ _ => none := ⟨fun _ h => absurd h (by omega), fun _ _ _ h => by cases h⟩
theorem Grid.free {i : Nat} {F : LF} (h : Grid i F) (hi : i < 1000) : F sApp (idN i) = none := by
  cases hF : F sApp (idN i) with
  | none => rfl
  | some x =>
    obtain ⟨j, hj, _, he⟩ := h.2 _ _ _ hF
    have := idN_inj hi (by omega) he
    omega
theorem Grid.step {i : Nat} {F : LF} (h : Grid i F) (hi : i < 1000) : Grid (i + 1) (upd F sApp (idN i) (some (gLk i))) := by
  refine ⟨fun j hj => ?_, fun a b x hx => ?_⟩
  · by_cases hij : j = i
    · subst hij
      exact upd_same
    · rw [upd_other (fun e => hij (idN_inj (by omega) hi e.2))]
      exact h.1 j (by omega)
  · by_cases hk : a = sApp ∧ b = idN i
    · exact ⟨i, by omega, hk⟩
    · rw [upd_other hk] at hx
      obtain ⟨j, hj, e⟩ := h.2 _ _ _ hx
      exact ⟨j, by omega, e⟩
theorem count_le {P : ByteArray → ByteArray → Prop} {c : Nat} (h : CountK P c) (M : List (ByteArray × ByteArray)) (hM : ∀ x y, P x y → (x, y) ∈ M) : c ≤ M.length := by
  obtain ⟨L, h1, h2, h3, h4⟩ := h
  rw [← h2]
  refine nodup_le h1 fun ⟨x, y⟩ hx => hM x y ?_
  obtain ⟨hs1, hs2⟩ := h3 x y hx
  exact (h4 x y hs1 hs2).2 hx
theorem count_ge {P : ByteArray → ByteArray → Prop} {c : Nat} (h : CountK P c) (M : List (ByteArray × ByteArray)) (hn : M.Nodup) (hM : ∀ x y, (x, y) ∈ M → P x y ∧ x.size ≤ maxLen ∧ y.size ≤ maxLen) : M.length ≤ c := by
  obtain ⟨L, h1, h2, h3, h4⟩ := h
  rw [← h2]
  refine nodup_le hn fun ⟨x, y⟩ hx => ?_
  obtain ⟨hp, hs1, hs2⟩ := hM x y hx
  exact (h4 x y hs1 hs2).1 hp
theorem held_none {F : LF} {a b : ByteArray} {now : Int} (h : F a b = none) : heldF F a b now = none := by unfold heldF; rw [h]
theorem isSome_held {F : LF} {a b : ByteArray} {now : Int} (h : (heldF F a b now).isSome = true) : ∃ x, F a b = some x ∧ now < x.til := by
  obtain ⟨x, hx⟩ := Option.isSome_iff_exists.1 h
  exact ⟨x, heldF_some hx⟩
theorem acq_full {F F' : LF} {who na id : ByteArray} {now til code : Int} (h : AcqR F who na id now til code F') (hp : properB who na id = true) (hb : ¬ badT now til) (hw : ∀ x, heldF F na id now = some x → x.who = who) (hc : ∀ c, CountK (OtherHeld F na id now) c → 1000 ≤ c) : code = 6 ∧ F' = F := by
  rcases h with ⟨h1, _⟩ | ⟨_, h1, _⟩ | ⟨_, _, x, hx, hne, _⟩ | ⟨_, _, _, c, hC, h1 | h1⟩
  · rw [hp] at h1; cases h1
  · exact absurd h1 hb
  · exact absurd (hw x hx) hne
  · exact h1.2
  · have := hc c hC
    omega
theorem size3 (i : Nat) : (idN i).size = 3 := rfl
/-- The i-th call. -/
theorem grid_acq {i : Nat} {F F' : LF} {code : Int} (hG : Grid i F) (hi : i < 1000) (h : AcqR F sAnn sApp (idN i) 0 (10 + (i % 2 : Nat)) code F') : code = 0 ∧ Grid (i + 1) F' := by
  have h1 := acq_free h (idN_proper i hi) (by unfold badT; omega) (by rw [held_none (hG.free hi)]; intro x hx; cases hx) (fun c hC => by
    have h2 := count_le hC ((List.range i).map fun j => (sApp, idN j)) (fun x y hxy => by
      obtain ⟨z, hz, _⟩ := isSome_held hxy.1
      obtain ⟨j, hj, e1, e2⟩ := hG.2 _ _ _ hz
      rw [List.mem_map]
      exact ⟨j, List.mem_range.2 hj, by rw [e1, e2]⟩)
    simp at h2
    omega)
  rw [h1.2]
  exact ⟨h1.1, hG.step hi⟩
theorem grid_nodup {l : List Nat} (hl : l.Nodup) (hb : ∀ j ∈ l, j < 1000) : (l.map fun j => (sApp, idN j)).Nodup := by
  induction l with
  | nil => exact .nil
  | cons a t ih =>
    obtain ⟨h1, h2⟩ := List.nodup_cons.1 hl
    rw [List.map_cons, List.nodup_cons]
    refine ⟨fun hm => ?_, ih h2 fun j hj => hb j (List.mem_cons_of_mem _ hj)⟩
    obtain ⟨j, hj, e⟩ := List.mem_map.1 hm
    simp only [Prod.mk.injEq, true_and] at e
    have := idN_inj (hb j (List.mem_cons_of_mem _ hj)) (hb a (by simp)) e
    subst this
    exact h1 hj
/-- One lock more is refused. -/
theorem grid_full {F F' : LF} {code t : Int} (hG : Grid 1000 F) (ht0 : 0 ≤ t) (ht : t < 10) (h : AcqR F sAnn sApp sX t 20 code F') : code = 6 ∧ F' = F := by
  have hx : F sApp sX = none := by
    cases hF : F sApp sX with
    | none => rfl
    | some x =>
      obtain ⟨j, _, _, e⟩ := hG.2 _ _ _ hF
      exact absurd e.symm idN_ne
  refine acq_full h x_proper1 (by unfold badT; omega) (by rw [held_none hx]; intro x hx; cases hx) fun c hC => ?_
  have h2 := count_ge hC ((List.range 1000).map fun j => (sApp, idN j)) (grid_nodup List.nodup_range fun j hj => List.mem_range.1 hj) (fun x y hxy => by
    obtain ⟨j, hj, e⟩ := List.mem_map.1 hxy
    have hj := List.mem_range.1 hj
    simp only [Prod.mk.injEq] at e
    obtain ⟨e1, e2⟩ := e
    subst e1 e2
    refine ⟨⟨?_, fun e => idN_ne e.2⟩, by decide, by rw [size3]; decide⟩
    rw [heldF_of (hG.1 j hj) (by show t < 10 + ((j % 2 : Nat) : Int); omega)]
    rfl)
  simpa using h2
def aLk : Lk := ⟨sApp, idN 0, sAnn, 20⟩
def xLk : Lk := ⟨sApp, sX, sBob, 20⟩
/-- The holder of the first lock renews it. -/
theorem grid_again {F F' : LF} {code t : Int} (hG : Grid 1000 F) (ht0 : 0 ≤ t) (ht : t < 10) (h : AcqR F sAnn sApp (idN 0) t 20 code F') : code = 0 ∧ F' = upd F sApp (idN 0) (some aLk) := by
  refine acq_free h (idN_proper 0 (by omega)) (by unfold badT; omega) (fun x hx => ?_) fun c hC => ?_
  · have h1 := (heldF_some hx).1
    rw [hG.1 0 (by omega)] at h1
    injection h1 with h1
    subst h1
    rfl
  · have h2 := count_le hC ((List.range 999).map fun j => (sApp, idN (j + 1))) (fun x y hxy => by
      obtain ⟨z, hz, _⟩ := isSome_held hxy.1
      obtain ⟨j, hj, e1, e2⟩ := hG.2 _ _ _ hz
      have hj0 : j ≠ 0 := fun e => hxy.2 ⟨e1, by rw [e2, e]⟩
      rw [List.mem_map]
      exact ⟨j - 1, List.mem_range.2 (by omega), by rw [e1, e2, show j - 1 + 1 = j by omega]⟩)
    simp at h2
    omega
theorem til_at {j : Nat} (h : (10 : Int) < (gLk j).til) : j % 2 = 1 := by
  have h1 : (10 : Int) < 10 + ((j % 2 : Nat) : Int) := h
  omega
/-- What is held at time 10 of the thousand and the renewed one. -/
theorem at10 {F : LF} (hG : Grid 1000 F) {a b : ByteArray} {x : Lk} (hx : (upd F sApp (idN 0) (some aLk)) a b = some x) (ht : (10 : Int) < x.til) :
    (a = sApp ∧ b = idN 0 ∧ x = aLk) ∨ ∃ k, k < 500 ∧ a = sApp ∧ b = idN (2 * k + 1) ∧ x = gLk (2 * k + 1) := by
  by_cases hk : a = sApp ∧ b = idN 0
  · obtain ⟨rfl, rfl⟩ := hk
    rw [upd_same] at hx
    injection hx with hx
    exact .inl ⟨rfl, rfl, hx.symm⟩
  · rw [upd_other hk] at hx
    obtain ⟨j, hj, e1, e2⟩ := hG.2 _ _ _ hx
    subst e1 e2
    rw [hG.1 j hj] at hx
    injection hx with hx
    subst hx
    have := til_at ht
    exact .inr ⟨j / 2, by omega, rfl, by rw [show 2 * (j / 2) + 1 = j by omega], by rw [show 2 * (j / 2) + 1 = j by omega]⟩
theorem grid_x {F F' : LF} {code : Int} (hG : Grid 1000 F) (h : AcqR (upd F sApp (idN 0) (some aLk)) sBob sApp sX 10 20 code F') : code = 0 ∧ F' = upd (upd F sApp (idN 0) (some aLk)) sApp sX (some xLk) := by
  refine acq_free h x_proper2 (by unfold badT; omega) (fun x hx => ?_) fun c hC => ?_
  · obtain ⟨h1, h2⟩ := heldF_some hx
    rcases at10 hG h1 h2 with ⟨_, e, _⟩ | ⟨k, _, _, e, _⟩
    · exact absurd e.symm idN_ne
    · exact absurd e.symm idN_ne
  · have h2 := count_le hC ((sApp, idN 0) :: (List.range 500).map fun k => (sApp, idN (2 * k + 1))) (fun x y hxy => by
      obtain ⟨z, hz, ht⟩ := isSome_held hxy.1
      rcases at10 hG hz ht with ⟨e1, e2, _⟩ | ⟨k, hk, e1, e2, _⟩
      · rw [e1, e2]; simp
      · rw [e1, e2]
        exact List.mem_cons_of_mem _ (List.mem_map.2 ⟨k, List.mem_range.2 hk, rfl⟩))
    simp at h2
    omega
open Classical in
theorem len_of {F : LF} {now : Int} {L M : List Lk} (h : IsList F now L) (hn : M.Nodup) (hM : ∀ x, x ∈ M ↔ heldF F x.name x.id now = some x) : L.length = M.length := by
  have hL : L.Nodup := h.1.imp fun {x y} hk e => by subst e; rw [kL_irrefl] at hk; cases hk
  exact Nat.le_antisymm (nodup_le hL fun x hx => (hM x).2 ((h.2 x).1 hx)) (nodup_le hn fun x hx => (h.2 x).2 ((hM x).1 hx))
theorem gLk_nodup {l : List Nat} (hl : l.Nodup) (hb : ∀ k ∈ l, k < 500) : (l.map fun k => gLk (2 * k + 1)).Nodup := by
  induction l with
  | nil => exact .nil
  | cons a t ih =>
    obtain ⟨h1, h2⟩ := List.nodup_cons.1 hl
    rw [List.map_cons, List.nodup_cons]
    refine ⟨fun hm => ?_, ih h2 fun j hj => hb j (List.mem_cons_of_mem _ hj)⟩
    obtain ⟨j, hj, e⟩ := List.mem_map.1 hm
    have e2 := congrArg Lk.id e
    have h3 := hb j (List.mem_cons_of_mem _ hj)
    have h4 := hb a (by simp)
    have := idN_inj (i := 2 * j + 1) (j := 2 * a + 1) (by omega) (by omega) e2
    have e3 : j = a := by omega
    subst e3
    exact h1 hj
noncomputable def F3 (F : LF) : LF := upd (upd F sApp (idN 0) (some aLk)) sApp sX (some xLk)
theorem F3_x {F : LF} : F3 F sApp sX = some xLk := upd_same
theorem F3_a {F : LF} : F3 F sApp (idN 0) = some aLk := by unfold F3; rw [upd_other (fun e => idN_ne e.2), upd_same]
theorem F3_g {F : LF} (hG : Grid 1000 F) {j : Nat} (hj : j < 1000) (h0 : j ≠ 0) : F3 F sApp (idN j) = some (gLk j) := by
  unfold F3
  rw [upd_other (fun e => idN_ne e.2), upd_other (fun e => h0 (idN_inj hj (by omega) e.2)), hG.1 j hj]
theorem F3_inv {F : LF} {a b : ByteArray} {x : Lk} (hx : F3 F a b = some x) : (a = sApp ∧ b = sX ∧ x = xLk) ∨ upd F sApp (idN 0) (some aLk) a b = some x := by
  unfold F3 at hx
  by_cases hk : a = sApp ∧ b = sX
  · obtain ⟨rfl, rfl⟩ := hk
    rw [upd_same] at hx
    injection hx with hx
    exact .inl ⟨rfl, rfl, hx.symm⟩
  · rw [upd_other hk] at hx
    exact .inr hx
theorem len10 {F : LF} {L : List Lk} (hG : Grid 1000 F) (h : IsList (F3 F) 10 L) : L.length = 502 := by
  have h1 := len_of (M := xLk :: aLk :: (List.range 500).map fun k => gLk (2 * k + 1)) h ?_ ?_
  · rw [h1]; simp
  · rw [List.nodup_cons, List.nodup_cons]
    refine ⟨fun hm => ?_, fun hm => ?_, gLk_nodup List.nodup_range fun k hk => List.mem_range.1 hk⟩
    · rcases List.mem_cons.1 hm with e | e
      · exact idN_ne (congrArg Lk.id e).symm
      · obtain ⟨k, _, e⟩ := List.mem_map.1 e
        exact idN_ne (congrArg Lk.id e)
    · obtain ⟨k, hk, e⟩ := List.mem_map.1 hm
      have := idN_inj (i := 2 * k + 1) (j := 0) (by have := List.mem_range.1 hk; omega) (by omega) (congrArg Lk.id e)
      omega
  · intro x
    constructor
    · intro hm
      rcases List.mem_cons.1 hm with e | hm
      · subst e; exact heldF_of F3_x (by decide)
      · rcases List.mem_cons.1 hm with e | hm
        · subst e; exact heldF_of F3_a (by decide)
        · obtain ⟨k, hk, e⟩ := List.mem_map.1 hm
          have hk := List.mem_range.1 hk
          subst e
          refine heldF_of (F3_g hG (by omega) (by omega)) ?_
          show (10 : Int) < 10 + (((2 * k + 1) % 2 : Nat) : Int)
          omega
    · intro hh
      obtain ⟨h1, h2⟩ := heldF_some hh
      rcases F3_inv h1 with ⟨_, _, e⟩ | h1
      · rw [e]; simp
      · rcases at10 hG h1 h2 with ⟨_, _, e⟩ | ⟨k, hk, _, _, e⟩
        · rw [e]; simp
        · rw [e]
          exact List.mem_cons_of_mem _ (List.mem_cons_of_mem _ (List.mem_map.2 ⟨k, List.mem_range.2 hk, rfl⟩))
theorem len11 {F : LF} {L : List Lk} (hG : Grid 1000 F) (h : IsList (F3 F) 11 L) : L.length = 2 := by
  have h1 := len_of (M := [xLk, aLk]) h ?_ ?_
  · rw [h1]; rfl
  · rw [List.nodup_cons]
    refine ⟨fun hm => ?_, by simp⟩
    simp only [List.mem_singleton] at hm
    exact idN_ne (congrArg Lk.id hm).symm
  · intro x
    constructor
    · intro hm
      rcases List.mem_cons.1 hm with e | hm
      · subst e; exact heldF_of F3_x (by decide)
      · simp only [List.mem_singleton] at hm
        subst hm; exact heldF_of F3_a (by decide)
    · intro hh
      obtain ⟨h1, h2⟩ := heldF_some hh
      rcases F3_inv h1 with ⟨_, _, e⟩ | h1
      · rw [e]; simp
      · rcases at10 hG h1 (by omega) with ⟨_, _, e⟩ | ⟨k, hk, _, _, e⟩
        · rw [e]; simp
        · rw [e] at h2
          have h3 : (11 : Int) < 10 + (((2 * k + 1) % 2 : Nat) : Int) := h2
          omega
end Go.Proofs.YthmeobjomidkoaaDoor
