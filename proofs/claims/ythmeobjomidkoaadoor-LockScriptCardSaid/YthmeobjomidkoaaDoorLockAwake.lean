/- The document's example of locks. -/
import Derived.Test.YthmeobjomidkoaaDoorLockAcq
namespace Go.Proofs.YthmeobjomidkoaaDoor
open Go.RowKit Go.Maps
set_option maxRecDepth 100000

section
variable {F F' : LF} {who name id : ByteArray} {now til code : Int}
theorem heldF_none (a b : ByteArray) (now : Int) : heldF (fun _ _ => none) a b now = none := rfl
theorem heldF_upd (F : LF) (a b x y : ByteArray) (k : Option Lk) (now : Int) : heldF (upd F a b k) x y now = (if x = a ∧ y = b then (match k with | some z => if now < z.til then some z else none | none => none) else heldF F x y now) := by
  unfold heldF upd
  by_cases h : x = a ∧ y = b
  · simp only [if_pos h]
    cases k <;> rfl
  · simp only [if_neg h]
/-- What a call of Acquire says that is granted, and why others are not. -/
theorem acq_ok (h : AcqR F who name id now til 0 F') : properB who name id = true ∧ ¬ badT now til ∧ (∀ x, heldF F name id now = some x → x.who = who) ∧ F' = upd F name id (some ⟨name, id, who, til⟩) := by
  rcases h with ⟨_, h, _⟩ | ⟨_, _, h, _⟩ | ⟨_, _, x, _, _, h, _⟩ | ⟨h1, h2, h3, c, h4, ⟨_, h, _⟩ | ⟨_, _, h⟩⟩
  · cases h
  · cases h
  · cases h
  · cases h
  · exact ⟨h1, h2, h3, h⟩
theorem acq_other (h : AcqR F who name id now til code F') (h0 : code ≠ 0) : F' = F := by
  rcases h with ⟨_, _, h⟩ | ⟨_, _, _, h⟩ | ⟨_, _, x, _, _, _, h⟩ | ⟨_, _, _, c, _, ⟨_, _, h⟩ | ⟨_, h, _⟩⟩
  · exact h
  · exact h
  · exact h
  · exact h
  · exact absurd h h0
theorem acq_bad (h : AcqR F who name id now til code F') (hp : properB who name id = true) (hb : badT now til) : code = 2 ∧ F' = F := by
  rcases h with ⟨h1, _⟩ | ⟨_, _, h⟩ | ⟨_, h1, _⟩ | ⟨_, h1, _⟩
  · rw [hp] at h1; cases h1
  · exact h
  · exact absurd hb h1
  · exact absurd hb h1
theorem acq_locked (h : AcqR F who name id now til code F') (hp : properB who name id = true) (hb : ¬ badT now til) {x : Lk} (hx : heldF F name id now = some x) (hw : ¬ x.who = who) : code = 16 ∧ F' = F := by
  rcases h with ⟨h1, _⟩ | ⟨_, h1, _⟩ | ⟨_, _, y, _, _, h⟩ | ⟨_, _, h1, _⟩
  · rw [hp] at h1; cases h1
  · exact absurd h1 hb
  · exact h
  · exact absurd (h1 x hx) hw
theorem acq_free (h : AcqR F who name id now til code F') (hp : properB who name id = true) (hb : ¬ badT now til) (hw : ∀ x, heldF F name id now = some x → x.who = who) (hc : ∀ c, CountK (OtherHeld F name id now) c → c < 1000) :
    code = 0 ∧ F' = upd F name id (some ⟨name, id, who, til⟩) := by
  rcases h with ⟨h1, _⟩ | ⟨_, h1, _⟩ | ⟨_, _, y, hy, h1, _⟩ | ⟨_, _, _, c, h4, ⟨h5, _⟩ | ⟨_, h6, h7⟩⟩
  · rw [hp] at h1; cases h1
  · exact absurd h1 hb
  · exact absurd (hw y hy) h1
  · have := hc c h4; omega
  · exact ⟨h6, h7⟩
theorem rel_none (h : RelR F who name id now code F') (hh : heldF F name id now = none) : code = 8 ∧ F' = F := by
  unfold RelR at h
  rw [hh] at h
  exact h
theorem rel_locked {x : Lk} (h : RelR F who name id now code F') (hh : heldF F name id now = some x) (hw : ¬ x.who = who) : code = 16 ∧ F' = F := by
  unfold RelR at h
  rw [hh] at h
  rcases h with ⟨h1, _⟩ | ⟨_, h⟩
  · exact absurd h1 hw
  · exact h
theorem rel_ok {x : Lk} (h : RelR F who name id now code F') (hh : heldF F name id now = some x) (hw : x.who = who) : code = 0 ∧ F' = upd F name id none := by
  unfold RelR at h
  rw [hh] at h
  rcases h with ⟨_, h⟩ | ⟨h1, _⟩
  · exact h
  · exact absurd hw h1
theorem proper_who {who who' name id : ByteArray} (h : properB who name id = true) (hw : nameL (bys who') = true) : properB who' name id = true := by
  unfold properB at h ⊢
  simp only [Bool.and_eq_true] at h ⊢
  exact ⟨⟨⟨⟨hw, h.1.1.1.2⟩, h.1.1.2⟩, h.1.2⟩, h.2⟩
end

theorem awk_p1 : properB ⟨#[97, 110, 110]⟩ ⟨#[97, 112, 112]⟩ ⟨#[97]⟩ = true := by decide +kernel
theorem awk_p2 : properB ⟨#[98, 111, 98]⟩ ⟨#[97, 112, 112]⟩ ⟨#[97]⟩ = true := by decide +kernel
theorem awk_ne : ¬ (⟨#[97, 110, 110]⟩ : ByteArray) = ⟨#[98, 111, 98]⟩ := by decide
theorem awk1 {code : Int} {F' : LF} (h : AcqR (fun _ _ => none) ⟨#[97, 110, 110]⟩ ⟨#[97, 112, 112]⟩ ⟨#[97]⟩ 10 20 code F') :
    code = 0 ∧ F' = upd (fun _ _ => none) ⟨#[97, 112, 112]⟩ ⟨#[97]⟩ (some ⟨⟨#[97, 112, 112]⟩, ⟨#[97]⟩, ⟨#[97, 110, 110]⟩, 20⟩) := by
  refine acq_free h awk_p1 (by unfold badT; omega) (fun x hx => by cases hx) (fun c hc => ?_)
  have := hc.zero (fun x y hh => by have h1 := hh.1; cases h1)
  omega
theorem awk2 {code : Int} {F' : LF} (h : AcqR (upd (fun _ _ => none) ⟨#[97, 112, 112]⟩ ⟨#[97]⟩ (some ⟨⟨#[97, 112, 112]⟩, ⟨#[97]⟩, ⟨#[97, 110, 110]⟩, 20⟩)) ⟨#[98, 111, 98]⟩ ⟨#[97, 112, 112]⟩ ⟨#[97]⟩ 19 30 code F') :
    code = 16 ∧ F' = upd (fun _ _ => none) ⟨#[97, 112, 112]⟩ ⟨#[97]⟩ (some ⟨⟨#[97, 112, 112]⟩, ⟨#[97]⟩, ⟨#[97, 110, 110]⟩, 20⟩) := by
  refine acq_locked h awk_p2 (by unfold badT; omega) (x := ⟨⟨#[97, 112, 112]⟩, ⟨#[97]⟩, ⟨#[97, 110, 110]⟩, 20⟩) ?_ awk_ne
  rw [heldF_upd, if_pos ⟨rfl, rfl⟩]
  rfl
theorem awk3 {code : Int} {F' : LF} (h : AcqR (upd (fun _ _ => none) ⟨#[97, 112, 112]⟩ ⟨#[97]⟩ (some ⟨⟨#[97, 112, 112]⟩, ⟨#[97]⟩, ⟨#[97, 110, 110]⟩, 20⟩)) ⟨#[98, 111, 98]⟩ ⟨#[97, 112, 112]⟩ ⟨#[97]⟩ 20 30 code F') : code = 0 := by
  refine (acq_free h awk_p2 (by unfold badT; omega) (fun x hx => ?_) (fun c hc => ?_)).1
  · rw [heldF_upd, if_pos ⟨rfl, rfl⟩] at hx
    cases hx
  · have := hc.zero (fun x y hh => by
      have h1 := hh.1
      rw [heldF_upd, if_neg hh.2] at h1
      cases h1)
    omega

set_option maxHeartbeats 1600000 in
theorem awake_lk (w : World) (hT : Tabs w) :
    Calls Tryd.prog 9 #[] w fun e w' => e = .returned (.bool true) ∧ Ext w w' := by
  go_enter Tryd.func9, Tryd.ntmps9
  go_wp2_with (first
    | (go_at_call 11; refine Hid.out ?_))
  refine Hid.mk_ ((new_any w).mono ?_)
  rintro e w1 ⟨g, bm, rfl, hl1, hE1, hg, hb⟩
  go_wp2_with (first
    | (go_at_call 13; refine Hid.out ?_))
  refine Hid.mk_ ((acquire_any _ _ _ 10 20 hl1 (by decide) (by decide) (by decide) (hT.ext hE1) (by decide) (by decide) (by decide) (by decide) (by decide) (by decide)).mono ?_)
  rintro e w2 ⟨F2, n2, hn2, ⟨code, rfl, hA⟩, hl2, hg2⟩
  obtain ⟨rfl, rfl⟩ := awk1 hA
  have hE2 : Ext w w2 := hE1.grown hg2 (fun k hk => by injection hk with hk; omega)
  clear hA hg2 hl1
  go_wp2_with (first
    | (go_at_call 13; refine Hid.out ?_))
  refine Hid.mk_ ((acquire_any _ _ _ 19 30 hl2 (by decide) (by decide) (by unfold maxLen; omega) (hT.ext hE2) (by decide) (by decide) (by decide) (by decide) (by decide) (by decide)).mono ?_)
  rintro e w3 ⟨F3, n3, hn3, ⟨code, rfl, hA⟩, hl3, hg3⟩
  obtain ⟨rfl, rfl⟩ := awk2 hA
  have hE3 : Ext w w3 := hE2.grown hg3 (fun k hk => by injection hk with hk; omega)
  clear hA hg3 hl2
  go_wp2_with (first
    | (go_at_call 13; refine Hid.out ?_))
  refine Hid.mk_ ((acquire_any _ _ _ 20 30 hl3 (by decide) (by decide) (by unfold maxLen; omega) (hT.ext hE3) (by decide) (by decide) (by decide) (by decide) (by decide) (by decide)).mono ?_)
  rintro e w4 ⟨F4, n4, hn4, ⟨code, rfl, hA⟩, hl4, hg4⟩
  obtain rfl := awk3 hA
  have hE4 : Ext w w4 := hE3.grown hg4 (fun k hk => by injection hk with hk; omega)
  clear hA hg4 hl3
  go_wp2
  go_ret
  exact ⟨rfl, hE4⟩

end Go.Proofs.YthmeobjomidkoaaDoor
