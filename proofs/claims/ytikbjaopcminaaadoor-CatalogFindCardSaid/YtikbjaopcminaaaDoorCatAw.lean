/- The document's example of a catalog. -/
import Derived.Test.YtikbjaopcminaaaDoorCatA
namespace Go.Proofs.YtikbjaopcminaaaDoor
open Go.RowKit
set_option maxRecDepth 100000

def awkC : Cp := ⟨sDe, [], [], [⟨#[97]⟩, ⟨#[98]⟩, ⟨#[99]⟩].map epOf⟩
theorem awk_find : FindZ awkC.es ⟨#[97]⟩ ((0 : Nat) : Int) := .inr ⟨0, rfl, by decide, rfl, fun j hj => absurd hj (Nat.not_lt_zero _)⟩
theorem awk_rem {c1 : Cp} {code1 : Int} (h : RemR awkC ⟨#[97]⟩ c1 code1) : code1 = 0 ∧ c1.es = [⟨#[98]⟩, ⟨#[99]⟩].map epOf := by
  rcases h with ⟨h, _⟩ | ⟨_, h, _⟩ | ⟨_, k, hk, _, h, rfl⟩
  · rw [show validC awkC = true from awk_valid] at h
    cases h
  · have := awk_find.uniq h
    omega
  · have := awk_find.uniq hk
    obtain rfl : k = 0 := by omega
    exact ⟨h, rfl⟩
theorem awk_mov {c2 : Cp} {code : Int} (h : MovR awkC ⟨#[97]⟩ 2 c2 code) : code = 0 ∧ c2.es.map Ep.id = [⟨#[98]⟩, ⟨#[99]⟩, ⟨#[97]⟩] := by
  obtain ⟨c1, code1, hr, h⟩ := h
  obtain ⟨h0, he⟩ := awk_rem hr
  rcases h with ⟨h, _⟩ | ⟨_, h, _⟩ | ⟨_, a, k, ha, _, hk, hkl, hc, rfl⟩
  · exact absurd h0 h
  · have : awkC.es.length = 3 := rfl
    omega
  · have := awk_find.uniq hk
    obtain rfl : k = 0 := by omega
    obtain rfl : a = 2 := by omega
    refine ⟨hc, ?_⟩
    show List.map Ep.id (c1.es.take 2 ++ _ ++ c1.es.drop 2) = _
    rw [he]
    rfl
attribute [local go_sem] ext_refl_t ext_alloc_t ext_drew_t ext_drewN_t ext_alloc2_t ext_alloc3_t ext_alloc4_t ext_alloc5_t ext_alloc6_t ext_alloc7_t ext_alloc8_t ext_alloc1d_t ext_alloc2d_t ext_alloc3d_t ext_alloc4d_t
section
variable {w : World}
set_option maxHeartbeats 3200000 in
theorem awake_cat (hT : Tabs w) :
    Calls Tryd.prog 12 #[] w fun e w' => e = .returned (.bool true) ∧ Ext w w' := by
  have hl0 : SlC strF 1 (w.alloc (Obj.cells #[.string ⟨#[97]⟩, .string ⟨#[98]⟩, .string ⟨#[99]⟩] 9)) (some ⟨w.heap.size, 0, none⟩) 3 [⟨#[97]⟩, ⟨#[98]⟩, ⟨#[99]⟩] := SlC.new_ (cs := strF) w [⟨#[97]⟩, ⟨#[98]⟩, ⟨#[99]⟩] strF_len (by simp) _ rfl (0, 0) 3 rfl 9
  have hE0 : Ext w (w.alloc (Obj.cells #[.string ⟨#[97]⟩, .string ⟨#[98]⟩, .string ⟨#[99]⟩] 9)) := (Ext.refl _).alloc _
  have hgd : ∀ s ∈ ([⟨#[97]⟩, ⟨#[98]⟩, ⟨#[99]⟩] : List ByteArray), GoodStr s := by
    intro s hs
    simp only [List.mem_cons, List.not_mem_nil, or_false] at hs
    rcases hs with rfl | rfl | rfl <;> (show (1 : Nat) ≤ _; omega)
  have HGD := Lib.hid hgd
  clear hgd
  go_enter Tryd.func12, Tryd.ntmps12
  go_wp2_with (first
    | (go_at_call 51; refine Hid.out ?_))
  refine Hid.mk_ ((example_any 3 hl0 HGD.out (by omega)).mono ?_)
  rintro e w1 ⟨⟨y, rfl, hyp, hyW⟩, hE1⟩
  have hE01 := hE0.trans hE1
  have HYP := Lib.hid hyp
  clear hyp hl0 hE1
  go_wp2_with (first
    | (go_at_call 27; refine Hid.out ?_))
  refine Hid.mk_ ((move_any hyW ⟨#[97]⟩ 2 (hT.ext hE01) (by omega) (by omega)).mono ?_)
  rintro e w2 ⟨⟨z, code, rfl, hR, hzO⟩, hE2⟩
  have hE02 := hE01.trans hE2
  rw [show y.p = awkC from HYP.out] at hR
  obtain ⟨rfl, hids⟩ := awk_mov hR
  have HIDS := Lib.hid hids
  have hm3 : z.e.m = 3 := by
    have h1 := hzO.own.len
    have h2 := congrArg List.length hids
    rw [List.length_map, show z.p.es = z.es.map Ent.p from rfl, List.length_map] at h2
    rw [h1, h2]
    rfl
  have hzW := hzO.w (by omega)
  have hle : z.e.m ≤ 1000 := by omega
  have HLE := Lib.hid hle
  clear hids hR hzO hm3 hyW hle
  have hEz : Ext w2 (w2.alloc (Obj.cells #[.string z.tag, .slice z.c.A z.c.m z.c.c, .slice z.d.A z.d.m z.d.c, .slice z.e.A z.e.m z.e.c] 28)) := (Ext.refl _).alloc _
  unfold catV
  go_wp2_with (first
    | (go_at_call 40; refine Hid.out ?_))
  refine Hid.mk_ ((ids_any (hzW.ext hEz) HLE.out).mono ?_)
  rintro e w3 ⟨⟨A3, m3, c3, rfl, ho3, hm3⟩, hE3⟩
  have hE03 := (hE02.trans hEz).trans hE3
  clear hzW
  rw [HIDS.out] at ho3
  have hl4 : SlC strF 1 (w3.alloc (Obj.cells #[.string ⟨#[98]⟩, .string ⟨#[99]⟩, .string ⟨#[97]⟩] 9)) (some ⟨w3.heap.size, 0, none⟩) 3 [⟨#[98]⟩, ⟨#[99]⟩, ⟨#[97]⟩] := SlC.new_ (cs := strF) w3 [⟨#[98]⟩, ⟨#[99]⟩, ⟨#[97]⟩] strF_len (by simp) _ rfl (0, 0) 3 rfl 9
  have hE4 : Ext w3 (w3.alloc (Obj.cells #[.string ⟨#[98]⟩, .string ⟨#[99]⟩, .string ⟨#[97]⟩] 9)) := (Ext.refl _).alloc _
  go_wp2_with (first
    | (go_at_call 39; refine Hid.out ?_))
  refine Hid.mk_ ((same5 c3 3 ((ho3.ext hE4).sls (by omega)) (hl4.sls (by omega))).mono ?_)
  rintro e w5 ⟨rfl, hE5⟩
  rw [decide_eq_true rfl]
  go_wp2
  go_ret
  exact ⟨rfl, (hE03.trans hE4).trans hE5⟩
end

end Go.Proofs.YtikbjaopcminaaaDoor
